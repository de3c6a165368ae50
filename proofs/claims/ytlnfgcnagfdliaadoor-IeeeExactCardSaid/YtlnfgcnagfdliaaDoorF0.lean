/- What the functions compute, and that calls of them answer so (printed by gen.py). Conditions: HW, a table as it was laid. -/
import Derived.Test.YtlnfgcnagfdliaaDoorA17
import Derived.Test.YtlnfgcnagfdliaaDoorProg
namespace Go.Proofs.YtlnfgcnagfdliaaDoor.F
open Go.RowKit Go.Proofs.YtlnfgcnagfdliaaDoorA
set_option linter.unusedVariables false
set_option maxRecDepth 100000
abbrev Λ := List Int
abbrev Ω := Option
abbrev T0 := Int→Ω (Int)
abbrev T1 := Λ→Ω (Int)
abbrev T2 := Λ→Ω (Λ)
abbrev T3 := Int→Int→Int→Ω (Int × Int)
abbrev T4 := Λ→Ω (Bool)
abbrev T5 := Λ→Ω (Λ × Int)
abbrev T6 := Int→Ω (Bool × Int × Int × Int)
abbrev T7 := Λ→Λ→Ω (Int)
abbrev T8 := Λ→Int→Ω (Int)
abbrev T9 := Int→Ω (Bool)
abbrev T10 := Int→Int→Ω (Int × Int)
abbrev T11 := Bool→Int→Int→Ω (Int)
abbrev T12 := Int→Int→Ω (Int)
abbrev T13 := Int→Ω (Int × Bool)
abbrev T14 := Bool→Λ→Int→Bool→Ω (Int × Int)
abbrev T15 := Λ→Λ→Ω (Λ × Int)
abbrev T16 := Λ→Int→Ω (Λ × Bool × Int)
abbrev T17 := Λ→Int→Ω (Λ)
abbrev T18 := Λ→Int→Ω (Λ × Int)
abbrev T19 := Λ→Ω (Int × Bool)
abbrev T20 := Int→Ω (Bool × Λ × Int)
abbrev T21 := Int→Int→Int→Int→Bool→Int→Int→Int→Bool→Λ→Λ→Int→Bool→Ω (Int × Int × Int × Bool × Bool × Int × Int × Int × Λ × Int)
abbrev T22 := Int→Ω (Λ)
abbrev T23 := Bool→Λ→Λ→Int→Ω (Int × Int)
abbrev T24 := Int→Int→Int→Int→Int→Int→Int→Int→Int→Ω (Int × Int)
abbrev T25 := Λ→Int→Int→Ω (Λ)
abbrev T26 := Λ→Λ→Ω (Λ × Λ × Int)
abbrev T27 := Λ→Int→Int→Ω (Λ × Int)
abbrev T28 := Λ→Λ→Int→Ω (Λ × Bool)
abbrev T29 := Λ→Λ→Ω (Λ × Bool)
abbrev T30 := Int→Bool→Λ→Λ→Int→Ω (Int)
abbrev T31 := Bool→Int→Int→Int→Ω (Int × Int)
abbrev T32 := Int→Int→Ω (Int × Bool)
abbrev T33 := Int→Ω (Int × Int)
abbrev T34 := Λ→Λ→Ω (Λ)
abbrev T35 := Ω (Bool)
abbrev T36 := Int→Int→Int→Bool→Bool→Int→Int→Int→Λ→Int→Int→Int→Int→Bool→Bool→Int→Int→Int→Λ→Int→Ω (Bool)
abbrev T37 := Λ→Λ→Int→Ω (Int)
abbrev T38 := Int→Bool→Int→Int→Int→Ω (Int × Int)
abbrev T39 := Λ→Λ→Int→Λ→Ω (Λ)
abbrev T40 := Λ→Int→Bool→Ω (Int)
abbrev T41 := Λ→Int→Ω (Λ × Bool)
abbrev T42 := Λ→Int→Ω (Λ × Int × Int)
abbrev T43 := Int→Int→Int→Λ→Λ→Λ→Ω (Λ × Λ)
abbrev T44 := Λ→Λ→Ω (Λ × Λ)
abbrev T45 := Λ→Int→Int→Λ→Int→Λ→Ω (Λ × Int)
abbrev T46 := Λ→Λ→Int→Int→Int→Λ→Ω (Λ × Int)
abbrev T47 := Bool→Λ→Int→Λ→Λ→Ω (Int × Int)
abbrev T48 := Λ→Int→Λ→Ω (Λ)
abbrev T49 := Λ→Λ→Ω (Bool)
abbrev T50 := Int→Int→Λ→Int→Int→Λ→Ω (Λ × Int)
abbrev T51 := Λ→Bool→Int→Int→Int→Int→Λ→Ω (Λ × Bool × Int)
abbrev T52 := Int→Int→Int→Int→Int→Int→Int→Int→Ω (Int × Int)
abbrev T53 := Int→Int→Int→Int→Int→Int→Ω (Int × Int)
abbrev T54 := Λ→Int→Int→Int→Λ→Ω (Λ × Int × Int)
abbrev T55 := Int→Int→Λ→Int→Int→Λ→Ω (Λ)
abbrev T56 := Λ→Int→Int→Int→Int→Int→Λ→Ω (Λ × Bool)
abbrev T57 := Λ→Int→Int→Int→Λ→Ω (Λ × Bool)
abbrev T58 := Int→Int→Int→Int→Int→Bool→Λ→Λ→Λ→Ω (Λ × Λ)
abbrev T59 := Λ→Int→Λ→Ω (Λ × Int)
abbrev T60 := Λ→Int→Int→Int→Int→Λ→Ω (Λ × Int)
abbrev T61 := Bool→Λ→Int→Bool→Int→Int→Ω (Int × Int)
abbrev T62 := Bool→Λ→Int→Bool→Int→Int→Int→Ω (Int × Int)
abbrev T63 := Λ→Int→Λ→Int→Ω (Λ)
abbrev T64 := Λ→Int→Int→Λ→Ω (Λ)
abbrev T65 := Int→Λ→Int→Λ→Ω (Λ)
abbrev T66 := Int→Λ→Int→Int→Λ→Ω (Λ)
abbrev T67 := Λ→Int→Int→Int→Λ→Ω (Λ)
abbrev T68 := Int→Λ→Int→Int→Int→Ω (Λ)
abbrev T69 := Λ→Int→Int→Int→Int→Λ→Ω (Λ)
abbrev T70 := Bool→Int→Ω (Int × Int)
abbrev T71 := Λ→Λ→Int→Int→Int→Λ→Ω (Λ)
abbrev T72 := Bool→Λ→Λ→Int→Int→Int→Ω (Int × Int)
abbrev T73 := Int→Λ→Λ→Λ→Λ→List Bool→Λ→Λ→Λ→List Bool→List (Λ)→List (Λ)→Λ→List Bool→Int→Ω (Bool)
/-- The table of math/bits.TrailingZeros64 stands as it was laid. -/
def HW : World → Prop := fun w => ∀ j, j < 64 → w.cell? ⟨0, j, none⟩ = some (.int .u8 ((Lib.deBruijn64tab.getD j 0 : Nat) : Int))
theorem hwS : ∀ w w' : World, Below w.heap.size w w' → HW w → HW w' := fun w w' hb h j hj => by
  have h1 := h j hj
  rw [← h1]
  exact hb.cell (Nat.lt_of_not_le fun hn => by simp [World.cell?, Array.getElem?_eq_none hn] at h1)
def tys : List (Nat × TI) := [(2, ⟨.int .i64, 1, 8, [.int .i64 0], false⟩),
  (3, ⟨.int .i64, 1, 8, [.int .i64 0], false⟩),
  (4, ⟨.bool, 1, 1, [.bool false], false⟩),
  (24, ⟨.slice 25, 1, 24, [.nil], false⟩),
  (25, ⟨.int .u64, 1, 8, [.int .u64 0], false⟩),
  (49, ⟨.slice 53, 1, 24, [.nil], false⟩),
  (51, ⟨.struct [(0, 1, false), (1, 1, false), (2, 1, false), (3, 1, false)], 4, 32, [.bool false, .int .i64 0, .int .u64 0, .int .i64 0], true⟩),
  (53, ⟨.struct [(0, 1, false), (1, 1, false), (2, 1, false), (3, 1, false), (4, 4, true), (8, 1, false), (9, 1, false), (10, 1, false), (11, 1, false), (12, 1, false)], 13, 136, [.int .i64 0, .int .u64 0, .int .u64 0, .int .i64 0, .bool false, .int .i64 0, .int .u64 0, .int .i64 0, .bool false, .nil, .nil, .int .i64 0, .bool false], false⟩),
  (55, ⟨.struct [(0, 1, false), (1, 1, false), (2, 1, false), (3, 1, false), (4, 4, true), (8, 1, false), (9, 1, false)], 10, 96, [.int .u64 0, .int .i64 0, .int .i64 0, .bool false, .bool false, .int .i64 0, .int .u64 0, .int .i64 0, .nil, .int .i64 0], false⟩),
  (106, ⟨.int .u64, 1, 8, [.int .u64 0], false⟩)]
theorem tys_ok : TOK Tryd.prog tys := tok_of (by kernel_rfl)
/-! ### nat_size: function 118 -/
namespace nat_size
noncomputable def b0 (k57 : T8) (l0 : Λ) : Ω (Int) := k57 l0 (ln l0)
noncomputable def b57 (k57 : T8) (x0 : Λ) (x1 : Int) : Ω (Int) := (if x1 > 0 then (if 0 ≤ (wrap64 (x1 - 1)) then (if (wrap64 (x1 - 1)) < (ln x0) then (if (rd x0 (wrap64 (x1 - 1))) = 0 then k57 x0 (wrap64 (x1 - 1)) else some x1) else none) else none) else some x1)
noncomputable def l57 (n : Nat) : Nat→Λ→Int→Ω (Int)
  | 0, _, _ => none
  | m + 1, x0, x1 => b57 (l57 n m) x0 x1
noncomputable def f (n : Nat) (l0 : Λ) : Ω (Int) := b0 (l57 n n) l0
noncomputable def sg : Sig (Int) := s1 (sInt .i64)
noncomputable def code : Code := (Tryd.f118.body).getD .skip
noncomputable def cfg : Cfg (Int) := { T := tys, call := noCall }
noncomputable def cuts : List (Nat × List (Nat × Want)) := [(57, [(0, .keep), (3, .keep)])]
noncomputable def s57 (x0 : Λ) (x1 : Int) : ASt := ⟨[(0, .ro .u64 x0), (3, .int .i64 x1)], []⟩
noncomputable def A (n : Nat) (J : Jt (Int)) (q : Nat) (ms : List Nat) : ASt→Ω (Int) := acont cfg J cuts n q code 1 ms (aend cfg Tryd.f118.results.toList [false] sg.out)
theorem e0 {n J l0} : afun cfg J cuts n code Tryd.f118.results.toList [false] [.ro .u64 l0] sg.out = b0 (fun y0 y1 => J 57 (A n J 57 [n]) (s57 y0 y1)) l0 := by kernel_rfl
theorem e57 {n J m x0 x1} : A n J 57 [m + 1] (s57 x0 x1) = b57 (fun y0 y1 => J 57 (A n J 57 [m]) (s57 y0 y1)) x0 x1 := by kernel_rfl
noncomputable abbrev I (n : Nat) := A n idJ
theorem q57 (n m) : ∀ x0 x1, I n 57 [m] (s57 x0 x1) = l57 n m x0 x1 := by
  induction m with
  | zero => intros; rfl
  | succ m ih =>
    intros
    exact e57.trans (Eq.trans (cf2 (congrArg b57 (fu2 (ih))) _ _) rfl)
theorem ok {n  l0 r} (h : f n l0 = some r) : CallD Tryd.prog HW 118 [.ro .u64 l0] (sg.enc r) :=
  fun_some hwS Tryd.func118 (by kernel_rfl) (body := code) (by kernel_rfl) tys_ok (c := cfg) noCall_ok noW_ok (by kernel_rfl) (by kernel_rfl) (Nat.le_of_ble_eq_true (by kernel_rfl)) (Eq.trans ((e0 (n := n)).trans (Eq.trans (cf1 (congrArg b0 (fu2 (q57 n n))) _) rfl)) h)
noncomputable def call {α : Type} (g : T1) (ds : List D) (K : List D→Ω α) : Ω α := match ds with
  | [.ro .u64 l0] => (g l0).bind fun r => K (sg.enc r)
  | _ => none
theorem call_ok {α : Type} {n : Nat} : COK Tryd.prog HW 118 (call (α := α) (f n)) := fun _ _ _ h => by
  unfold call at h; split at h
  · exact cok h fun _ => ok
  · cases h
end nat_size
/-! ### nat_big: function 117 -/
namespace nat_big
noncomputable def b0 (c118 : T1) (l0 : Λ) : Ω (Bool) := ((c118 l0).bind fun t1 => some (decide (t1 > 4096)))
noncomputable def f (n : Nat) (l0 : Λ) : Ω (Bool) := b0 (nat_size.f n) l0
noncomputable def sg : Sig (Bool) := s1 (sBool)
noncomputable def code : Code := (Tryd.f117.body).getD .skip
noncomputable def cfg (c118 : T1) : Cfg (Bool) := { T := tys, call := orCall 118 (nat_size.call c118) (noCall) }
noncomputable def cuts : List (Nat × List (Nat × Want)) := []
theorem e0 {c118 n J l0} : afun (cfg c118) J cuts n code Tryd.f117.results.toList [false] [.ro .u64 l0] sg.out = b0 c118 l0 := by kernel_rfl
theorem ok {n  l0 r} (h : f n l0 = some r) : CallD Tryd.prog HW 117 [.ro .u64 l0] (sg.enc r) :=
  fun_some hwS Tryd.func117 (by kernel_rfl) (body := code) (by kernel_rfl) tys_ok (c := cfg (nat_size.f n)) (orCall_ok (nat_size.call_ok (n := n)) noCall_ok) noW_ok (by kernel_rfl) (by kernel_rfl) (Nat.le_of_ble_eq_true (by kernel_rfl)) (Eq.trans ((e0 (n := n))) h)
noncomputable def call {α : Type} (g : T4) (ds : List D) (K : List D→Ω α) : Ω α := match ds with
  | [.ro .u64 l0] => (g l0).bind fun r => K (sg.enc r)
  | _ => none
theorem call_ok {α : Type} {n : Nat} : COK Tryd.prog HW 117 (call (α := α) (f n)) := fun _ _ _ h => by
  unfold call at h; split at h
  · exact cok h fun _ => ok
  · cases h
end nat_big
/-! ### bits_Mul64: function 121 -/
namespace bits_Mul64
noncomputable def b0 (a0 a1 : Int) : Ω (Int × Int) := some (IntKind.u64.wrap ((IntKind.u64.wrap ((IntKind.u64.wrap ((a0 / 4294967296) * (a1 / 4294967296))) + ((IntKind.u64.wrap ((IntKind.u64.wrap ((a0 / 4294967296) * (Go.bits .and .u64 a1 4294967295))) + ((IntKind.u64.wrap ((Go.bits .and .u64 a0 4294967295) * (Go.bits .and .u64 a1 4294967295))) / 4294967296))) / 4294967296))) + ((IntKind.u64.wrap ((Go.bits .and .u64 (IntKind.u64.wrap ((IntKind.u64.wrap ((a0 / 4294967296) * (Go.bits .and .u64 a1 4294967295))) + ((IntKind.u64.wrap ((Go.bits .and .u64 a0 4294967295) * (Go.bits .and .u64 a1 4294967295))) / 4294967296))) 4294967295) + (IntKind.u64.wrap ((Go.bits .and .u64 a0 4294967295) * (a1 / 4294967296))))) / 4294967296)), IntKind.u64.wrap (a0 * a1))
noncomputable def f (a0 a1 : Int) : Ω (Int × Int) := b0 a0 a1
noncomputable def sg : Sig (Int × Int) := s2 (sInt .u64) (s1 (sInt .u64))
noncomputable def code : Code := (Tryd.f121.body).getD .skip
noncomputable def cfg : Cfg (Int × Int) := { T := tys, call := noCall }
noncomputable def cuts : List (Nat × List (Nat × Want)) := []
theorem e0 {n J a0 a1} : afun cfg J cuts n code Tryd.f121.results.toList [false, false] [.int .u64 a0, .int .u64 a1] sg.out = b0 a0 a1 := by kernel_rfl
theorem ok {a0 a1 r} (h : f a0 a1 = some r) : CallD Tryd.prog HW 121 [.int .u64 a0, .int .u64 a1] (sg.enc r) :=
  fun_some hwS Tryd.func121 (by kernel_rfl) (body := code) (by kernel_rfl) tys_ok (c := cfg) noCall_ok noW_ok (by kernel_rfl) (by kernel_rfl) (Nat.le_of_ble_eq_true (by kernel_rfl)) (Eq.trans ((e0 (n := 0))) h)
noncomputable def call {α : Type} (g : T10) (ds : List D) (K : List D→Ω α) : Ω α := match ds with
  | [.int .u64 a0, .int .u64 a1] => (g a0 a1).bind fun r => K (sg.enc r)
  | _ => none
theorem call_ok {α : Type} : COK Tryd.prog HW 121 (call (α := α) f) := fun _ _ _ h => by
  unfold call at h; split at h
  · exact cok h fun _ => ok
  · cases h
end bits_Mul64
/-! ### nat_cut: function 120 -/
namespace nat_cut
noncomputable def b0 (c118 : T1) (l0 : Λ) : Ω (Λ × Int) := ((c118 l0).bind fun t1 => (if t1 > 4096 then some (([] : Λ), 2) else (if 0 ≤ t1 then (if t1 ≤ t1 then (if t1 ≤ (ln l0) then ((some (l0.take t1.toNat) : Ω (Λ)).bind fun y2 => some (y2, 0)) else none) else none) else none)))
noncomputable def f (n : Nat) (l0 : Λ) : Ω (Λ × Int) := b0 (nat_size.f n) l0
noncomputable def sg : Sig (Λ × Int) := s2 (sRow .u64) (s1 (sInt .i64))
noncomputable def code : Code := (Tryd.f120.body).getD .skip
noncomputable def cfg (c118 : T1) : Cfg (Λ × Int) := { T := tys, call := orCall 118 (nat_size.call c118) (noCall) }
noncomputable def cuts : List (Nat × List (Nat × Want)) := []
theorem e0 {c118 n J l0} : afun (cfg c118) J cuts n code Tryd.f120.results.toList [false, false] [.ro .u64 l0] sg.out = b0 c118 l0 := by kernel_rfl
theorem ok {n  l0 r} (h : f n l0 = some r) : CallD Tryd.prog HW 120 [.ro .u64 l0] (sg.enc r) :=
  fun_some hwS Tryd.func120 (by kernel_rfl) (body := code) (by kernel_rfl) tys_ok (c := cfg (nat_size.f n)) (orCall_ok (nat_size.call_ok (n := n)) noCall_ok) noW_ok (by kernel_rfl) (by kernel_rfl) (Nat.le_of_ble_eq_true (by kernel_rfl)) (Eq.trans ((e0 (n := n))) h)
noncomputable def call {α : Type} (g : T5) (ds : List D) (K : List D→Ω α) : Ω α := match ds with
  | [.ro .u64 l0] => (g l0).bind fun r => K (sg.enc r)
  | _ => none
theorem call_ok {α : Type} {n : Nat} : COK Tryd.prog HW 120 (call (α := α) (f n)) := fun _ _ _ h => by
  unfold call at h; split at h
  · exact cok h fun _ => ok
  · cases h
end nat_cut
/-! ### nat_Shl: function 60 -/
namespace nat_Shl
noncomputable def b0 (c117 : T4) (c118 : T1) (c120 : T5) (c121 : T10) (k8181 : T50) (l0 : Λ) (a1 : Int) : Ω (Λ × Int) := ((c117 l0).bind fun t1 => (if t1 = true then some (([] : Λ), 2) else (if a1 < 0 then some (([] : Λ), 1) else ((c118 l0).bind fun t2 => (if 0 ≤ t2 then (if t2 ≤ (ln l0) then ((some (l0.take t2.toNat) : Ω (Λ)).bind fun y3 => (if (ln y3) = 0 then some (([] : Λ), 0) else (if a1 > 262144 then some (([] : Λ), 2) else (if 0 ≤ (wrap64 ((wrap64 ((wrap64 (Int.tdiv a1 64)) + (ln y3))) + 1)) then (if (wrap64 ((wrap64 ((wrap64 (Int.tdiv a1 64)) + (ln y3))) + 1)).toNat ≤ 35184372088832 then k8181 (wrap64 (Int.tdiv a1 64)) (IntKind.u64.wrap (Int.tmod a1 64)) y3 (ln y3) 0 (List.replicate (wrap64 ((wrap64 ((wrap64 (Int.tdiv a1 64)) + (ln y3))) + 1)).toNat (0 : Int)) else none) else none)))) else none) else none)))))
noncomputable def b1023 (c117 : T4) (c118 : T1) (c120 : T5) (c121 : T10) (x0 : Λ) : Ω (Λ × Int) := ((c120 x0).bind fun t1 => some (t1.1, t1.2))
noncomputable def b8181 (c117 : T4) (c118 : T1) (c120 : T5) (c121 : T10) (k1023 : T5) (k8181 : T50) (x0 x1 : Int) (x2 : Λ) (x3 x4 : Int) (x5 : Λ) : Ω (Λ × Int) := (if x4 < x3 then (if 0 ≤ x4 then (if x4 < (ln x2) then (if 0 ≤ x1 then ((c121 (rd x2 x4) (shl .u64 1 x1)).bind fun t1 => (if 0 ≤ (wrap64 (x0 + x4)) then (if (wrap64 (x0 + x4)) < (ln x5) then (if 0 ≤ (wrap64 (x0 + x4)) then (if (wrap64 (x0 + x4)) < (ln x5) then (if 0 ≤ (wrap64 ((wrap64 (x0 + x4)) + 1)) then (if (wrap64 ((wrap64 (x0 + x4)) + 1)) < (ln (x5.set (wrap64 (x0 + x4) : Int).toNat (Go.bits .or .u64 (rd x5 (wrap64 (x0 + x4))) t1.2))) then k8181 x0 x1 x2 x3 (wrap64 (x4 + 1)) ((x5.set (wrap64 (x0 + x4) : Int).toNat (Go.bits .or .u64 (rd x5 (wrap64 (x0 + x4))) t1.2)).set (wrap64 ((wrap64 (x0 + x4)) + 1) : Int).toNat t1.1) else none) else none) else none) else none) else none) else none)) else none) else none) else none) else k1023 x5)
noncomputable def l1023 (n : Nat) (x0 : Λ) : Ω (Λ × Int) := b1023 (nat_big.f n) (nat_size.f n) (nat_cut.f n) bits_Mul64.f x0
noncomputable def l8181 (n : Nat) : Nat→Int→Int→Λ→Int→Int→Λ→Ω (Λ × Int)
  | 0, _, _, _, _, _, _ => none
  | m + 1, x0, x1, x2, x3, x4, x5 => b8181 (nat_big.f n) (nat_size.f n) (nat_cut.f n) bits_Mul64.f (l1023 n) (l8181 n m) x0 x1 x2 x3 x4 x5
noncomputable def f (n : Nat) (l0 : Λ) (a1 : Int) : Ω (Λ × Int) := b0 (nat_big.f n) (nat_size.f n) (nat_cut.f n) bits_Mul64.f (l8181 n n) l0 a1
noncomputable def sg : Sig (Λ × Int) := s2 (sRow .u64) (s1 (sInt .i64))
noncomputable def code : Code := (Tryd.f60.body).getD .skip
noncomputable def cfg (c117 : T4) (c118 : T1) (c120 : T5) (c121 : T10) : Cfg (Λ × Int) := { T := tys, call := orCall 117 (nat_big.call c117) (orCall 118 (nat_size.call c118) (orCall 120 (nat_cut.call c120) (orCall 121 (bits_Mul64.call c121) (noCall)))) }
noncomputable def cuts : List (Nat × List (Nat × Want)) := [(1023, [(8, .keep)]), (8181, [(6, .keep), (7, .keep), (8, .keep), (37, .keep), (38, .keep), (39, .keep)])]
noncomputable def s1023 (x0 : Λ) : ASt := ⟨[(8, .own 0)], [.ints 25 .u64 x0]⟩
noncomputable def s8181 (x0 x1 : Int) (x2 : Λ) (x3 x4 : Int) (x5 : Λ) : ASt := ⟨[(6, .int .i64 x0), (7, .int .u64 x1), (8, .own 0), (37, .ro .u64 x2), (38, .int .i64 x3), (39, .int .i64 x4)], [.ints 25 .u64 x5]⟩
noncomputable def A (c117 : T4) (c118 : T1) (c120 : T5) (c121 : T10) (n : Nat) (J : Jt (Λ × Int)) (q : Nat) (ms : List Nat) : ASt→Ω (Λ × Int) := acont (cfg c117 c118 c120 c121) J cuts n q code 1 ms (aend (cfg c117 c118 c120 c121) Tryd.f60.results.toList [false, false] sg.out)
theorem e0 {c117 c118 c120 c121 n J l0 a1} : afun (cfg c117 c118 c120 c121) J cuts n code Tryd.f60.results.toList [false, false] [.ro .u64 l0, .int .i64 a1] sg.out = b0 c117 c118 c120 c121 (fun y0 y1 y2 y3 y4 y5 => J 8181 (A c117 c118 c120 c121 n J 8181 [n]) (s8181 y0 y1 y2 y3 y4 y5)) l0 a1 := by kernel_rfl
theorem e1023 {c117 c118 c120 c121 n J x0} : A c117 c118 c120 c121 n J 1023 [] (s1023 x0) = b1023 c117 c118 c120 c121 x0 := by kernel_rfl
theorem e8181 {c117 c118 c120 c121 n J m x0 x1 x2 x3 x4 x5} : A c117 c118 c120 c121 n J 8181 [m + 1] (s8181 x0 x1 x2 x3 x4 x5) = b8181 c117 c118 c120 c121 (fun y0 => J 1023 (A c117 c118 c120 c121 n J 1023 []) (s1023 y0)) (fun y0 y1 y2 y3 y4 y5 => J 8181 (A c117 c118 c120 c121 n J 8181 [m]) (s8181 y0 y1 y2 y3 y4 y5)) x0 x1 x2 x3 x4 x5 := by kernel_rfl
noncomputable abbrev I (n : Nat) := A (nat_big.f n) (nat_size.f n) (nat_cut.f n) bits_Mul64.f n idJ
theorem q1023 (n x0) : I n 1023 [] (s1023 x0) = l1023 n x0 := e1023
theorem q8181 (n m) : ∀ x0 x1 x2 x3 x4 x5, I n 8181 [m] (s8181 x0 x1 x2 x3 x4 x5) = l8181 n m x0 x1 x2 x3 x4 x5 := by
  induction m with
  | zero => intros; rfl
  | succ m ih =>
    intros
    exact e8181.trans (Eq.trans (cf6 (congr (congrArg (b8181 _ _ _ _) (fu1 (q1023 n))) (fu6 (ih))) _ _ _ _ _ _) rfl)
theorem ok {n  l0 a1 r} (h : f n l0 a1 = some r) : CallD Tryd.prog HW 60 [.ro .u64 l0, .int .i64 a1] (sg.enc r) :=
  fun_some hwS Tryd.func60 (by kernel_rfl) (body := code) (by kernel_rfl) tys_ok (c := cfg (nat_big.f n) (nat_size.f n) (nat_cut.f n) bits_Mul64.f) (orCall_ok (nat_big.call_ok (n := n)) (orCall_ok (nat_size.call_ok (n := n)) (orCall_ok (nat_cut.call_ok (n := n)) (orCall_ok bits_Mul64.call_ok noCall_ok)))) noW_ok (by kernel_rfl) (by kernel_rfl) (Nat.le_of_ble_eq_true (by kernel_rfl)) (Eq.trans ((e0 (n := n)).trans (Eq.trans (cf2 (congrArg (b0 _ _ _ _) (fu6 (q8181 n n))) _ _) rfl)) h)
noncomputable def call {α : Type} (g : T18) (ds : List D) (K : List D→Ω α) : Ω α := match ds with
  | [.ro .u64 l0, .int .i64 a1] => (g l0 a1).bind fun r => K (sg.enc r)
  | _ => none
theorem call_ok {α : Type} {n : Nat} : COK Tryd.prog HW 60 (call (α := α) (f n)) := fun _ _ _ h => by
  unfold call at h; split at h
  · exact cok h fun _ => ok
  · cases h
end nat_Shl
/-! ### ieee_near: function 144 -/
namespace ieee_near
noncomputable def b0 (a0 : Int) : Ω (Int) := some (mx (-1099511627776) (mn 1099511627776 a0))
noncomputable def f (a0 : Int) : Ω (Int) := b0 a0
noncomputable def sg : Sig (Int) := s1 (sInt .i64)
noncomputable def code : Code := (Tryd.f144.body).getD .skip
noncomputable def cfg : Cfg (Int) := { T := tys, call := noCall }
noncomputable def cuts : List (Nat × List (Nat × Want)) := []
theorem e0 {n J a0} : afun cfg J cuts n code Tryd.f144.results.toList [false] [.int .i64 a0] sg.out = b0 a0 := by kernel_rfl
theorem ok {a0 r} (h : f a0 = some r) : CallD Tryd.prog HW 144 [.int .i64 a0] (sg.enc r) :=
  fun_some hwS Tryd.func144 (by kernel_rfl) (body := code) (by kernel_rfl) tys_ok (c := cfg) noCall_ok noW_ok (by kernel_rfl) (by kernel_rfl) (Nat.le_of_ble_eq_true (by kernel_rfl)) (Eq.trans ((e0 (n := 0))) h)
noncomputable def call {α : Type} (g : T0) (ds : List D) (K : List D→Ω α) : Ω α := match ds with
  | [.int .i64 a0] => (g a0).bind fun r => K (sg.enc r)
  | _ => none
theorem call_ok {α : Type} : COK Tryd.prog HW 144 (call (α := α) f) := fun _ _ _ h => by
  unfold call at h; split at h
  · exact cok h fun _ => ok
  · cases h
end ieee_near
/-! ### bits_Len64: function 129 -/
namespace bits_Len64
def f (a0 : Int) : Ω (Int) := if 0 ≤ a0 ∧ a0 ≤ 18446744073709551615 then some (Lib.bitLen a0.toNat : Nat) else none
def sg : Sig (Int) := s1 (sInt .i64)
theorem ok {a0 : Int} {r : Int} (h : f a0 = some r) : CallD Tryd.prog HW 129 [.int .u64 a0] (sg.enc r) := by
  unfold f at h
  split at h
  · rename_i hh
    obtain rfl := Option.some.inj h
    refine calld_scal rfl rfl fun w _ => .inl ⟨_, Tryd.func129, by kernel_rfl, by kernel_rfl, (Go.Proofs.YtlnfgcnagfdliaaDoorG.len64 a0 w hh.1 hh.2).mono ?_⟩
    rintro e w' ⟨rfl, rfl⟩
    exact ⟨_, rfl, rfl, rfl⟩
  · cases h
noncomputable def call {α : Type} (g : T0) (ds : List D) (K : List D→Ω α) : Ω α := match ds with
  | [.int .u64 a0] => (g a0).bind fun r => K (sg.enc r)
  | _ => none
theorem call_ok {α : Type} : COK Tryd.prog HW 129 (call (α := α) f) := fun _ _ _ h => by
  unfold call at h; split at h
  · exact cok h fun _ => ok
  · cases h
end bits_Len64
/-! ### nat_BitLen: function 53 -/
namespace nat_BitLen
noncomputable def b0 (c118 : T1) (c129 : T0) (l0 : Λ) : Ω (Int) := ((c118 l0).bind fun t1 => (if t1 = 0 then some 0 else (if 0 ≤ (wrap64 (t1 - 1)) then (if (wrap64 (t1 - 1)) < (ln l0) then ((c129 (rd l0 (wrap64 (t1 - 1)))).bind fun t2 => some (wrap64 ((wrap64 (64 * (wrap64 (t1 - 1)))) + t2))) else none) else none)))
noncomputable def f (n : Nat) (l0 : Λ) : Ω (Int) := b0 (nat_size.f n) bits_Len64.f l0
noncomputable def sg : Sig (Int) := s1 (sInt .i64)
noncomputable def code : Code := (Tryd.f53.body).getD .skip
noncomputable def cfg (c118 : T1) (c129 : T0) : Cfg (Int) := { T := tys, call := orCall 118 (nat_size.call c118) (orCall 129 (bits_Len64.call c129) (noCall)) }
noncomputable def cuts : List (Nat × List (Nat × Want)) := []
theorem e0 {c118 c129 n J l0} : afun (cfg c118 c129) J cuts n code Tryd.f53.results.toList [false] [.ro .u64 l0] sg.out = b0 c118 c129 l0 := by kernel_rfl
theorem ok {n  l0 r} (h : f n l0 = some r) : CallD Tryd.prog HW 53 [.ro .u64 l0] (sg.enc r) :=
  fun_some hwS Tryd.func53 (by kernel_rfl) (body := code) (by kernel_rfl) tys_ok (c := cfg (nat_size.f n) bits_Len64.f) (orCall_ok (nat_size.call_ok (n := n)) (orCall_ok bits_Len64.call_ok noCall_ok)) noW_ok (by kernel_rfl) (by kernel_rfl) (Nat.le_of_ble_eq_true (by kernel_rfl)) (Eq.trans ((e0 (n := n))) h)
noncomputable def call {α : Type} (g : T1) (ds : List D) (K : List D→Ω α) : Ω α := match ds with
  | [.ro .u64 l0] => (g l0).bind fun r => K (sg.enc r)
  | _ => none
theorem call_ok {α : Type} {n : Nat} : COK Tryd.prog HW 53 (call (α := α) (f n)) := fun _ _ _ h => by
  unfold call at h; split at h
  · exact cok h fun _ => ok
  · cases h
end nat_BitLen
/-! ### bits_TrailingZeros64: function 130 -/
namespace bits_TrailingZeros64
def f (a0 : Int) : Ω (Int) := if 0 ≤ a0 ∧ a0 < 18446744073709551616 then some (Lib.ctz 64 a0.toNat : Nat) else none
def sg : Sig (Int) := s1 (sInt .i64)
set_option maxHeartbeats 1000000 in
theorem core (x k idx : Nat) (w : World) (hx0 : ((x : Int) == 0) = false)
    (key : IntKind.u64.wrap (bits BinOp.and IntKind.u64 (x : Int) (IntKind.u64.wrap (-(x : Int))) * 285870213051353865) / 288230376151711744 = (idx : Int))
    (hi : idx < 64) (hk : k < 64) (hcell : w.cell? ⟨0, idx, none⟩ = some (.int .u8 k)) :
    Calls Tryd.prog 130 #[.int .u64 x] w fun e w' => e = .returned (.int .i64 k) ∧ w' = w := by
  go_enter Tryd.func130, Tryd.ntmps130
  go_wp2_with (simp only [key])
  go_ret
  exact ⟨rfl, rfl⟩
theorem zero (w : World) : Calls Tryd.prog 130 #[.int .u64 0] w fun e w' => e = .returned (.int .i64 64) ∧ w' = w := by
  go_enter Tryd.func130, Tryd.ntmps130
  go_wp2
  go_ret
  exact ⟨rfl, rfl⟩
theorem ok {a0 : Int} {r : Int} (h : f a0 = some r) : CallD Tryd.prog HW 130 [.int .u64 a0] (sg.enc r) := by
  unfold f at h
  split at h
  · rename_i hh
    obtain rfl := Option.some.inj h
    refine calld_scal rfl rfl fun w hw => .inl ⟨_, Tryd.func130, by kernel_rfl, by kernel_rfl, ?_⟩
    obtain ⟨x, rfl⟩ := Int.eq_ofNat_of_zero_le hh.1
    have hx : x < 18446744073709551616 := by omega
    show Calls Tryd.prog 130 #[.int .u64 x] w _
    rw [Int.toNat_natCast]
    by_cases hx0 : x = 0
    · subst hx0
      refine (zero w).mono ?_
      rintro e w' ⟨rfl, rfl⟩
      exact ⟨_, rfl, rfl, rfl⟩
    · obtain ⟨hlow, hk⟩ := Lib.lowest_bit 64 x hx0 hx
      obtain ⟨hi, htab⟩ := Lib.deBruijn64_at _ hk
      have hcell := hw _ hi
      rw [htab] at hcell
      refine (core x _ _ w (by simp; omega) (tz64_key x _ hx hx0 hlow) hi hk hcell).mono ?_
      rintro e w' ⟨rfl, rfl⟩
      exact ⟨_, rfl, rfl, rfl⟩
  · cases h
noncomputable def call {α : Type} (g : T0) (ds : List D) (K : List D→Ω α) : Ω α := match ds with
  | [.int .u64 a0] => (g a0).bind fun r => K (sg.enc r)
  | _ => none
theorem call_ok {α : Type} : COK Tryd.prog HW 130 (call (α := α) f) := fun _ _ _ h => by
  unfold call at h; split at h
  · exact cok h fun _ => ok
  · cases h
end bits_TrailingZeros64
/-! ### nat_Trail: function 55 -/
namespace nat_Trail
noncomputable def b0 (c130 : T0) (k53 : Λ→Int→Int→Ω (Int)) (l0 : Λ) : Ω (Int) := k53 l0 (ln l0) 0
noncomputable def b53 (c130 : T0) (k53 : Λ→Int→Int→Ω (Int)) (x0 : Λ) (x1 x2 : Int) : Ω (Int) := (if x2 < x1 then (if 0 ≤ x2 then (if x2 < (ln x0) then (if ¬ (rd x0 x2) = 0 then ((c130 (rd x0 x2)).bind fun t1 => some (wrap64 ((wrap64 (64 * x2)) + t1))) else k53 x0 x1 (wrap64 (x2 + 1))) else none) else none) else some 0)
noncomputable def l53 (n : Nat) : Nat→Λ→Int→Int→Ω (Int)
  | 0, _, _, _ => none
  | m + 1, x0, x1, x2 => b53 bits_TrailingZeros64.f (l53 n m) x0 x1 x2
noncomputable def f (n : Nat) (l0 : Λ) : Ω (Int) := b0 bits_TrailingZeros64.f (l53 n n) l0
noncomputable def sg : Sig (Int) := s1 (sInt .i64)
noncomputable def code : Code := (Tryd.f55.body).getD .skip
noncomputable def cfg (c130 : T0) : Cfg (Int) := { T := tys, call := orCall 130 (bits_TrailingZeros64.call c130) (noCall) }
noncomputable def cuts : List (Nat × List (Nat × Want)) := [(53, [(5, .keep), (6, .keep), (7, .keep)])]
noncomputable def s53 (x0 : Λ) (x1 x2 : Int) : ASt := ⟨[(5, .ro .u64 x0), (6, .int .i64 x1), (7, .int .i64 x2)], []⟩
noncomputable def A (c130 : T0) (n : Nat) (J : Jt (Int)) (q : Nat) (ms : List Nat) : ASt→Ω (Int) := acont (cfg c130) J cuts n q code 1 ms (aend (cfg c130) Tryd.f55.results.toList [false] sg.out)
theorem e0 {c130 n J l0} : afun (cfg c130) J cuts n code Tryd.f55.results.toList [false] [.ro .u64 l0] sg.out = b0 c130 (fun y0 y1 y2 => J 53 (A c130 n J 53 [n]) (s53 y0 y1 y2)) l0 := by kernel_rfl
theorem e53 {c130 n J m x0 x1 x2} : A c130 n J 53 [m + 1] (s53 x0 x1 x2) = b53 c130 (fun y0 y1 y2 => J 53 (A c130 n J 53 [m]) (s53 y0 y1 y2)) x0 x1 x2 := by kernel_rfl
noncomputable abbrev I (n : Nat) := A bits_TrailingZeros64.f n idJ
theorem q53 (n m) : ∀ x0 x1 x2, I n 53 [m] (s53 x0 x1 x2) = l53 n m x0 x1 x2 := by
  induction m with
  | zero => intros; rfl
  | succ m ih =>
    intros
    exact e53.trans (Eq.trans (cf3 (congrArg (b53 _) (fu3 (ih))) _ _ _) rfl)
theorem ok {n  l0 r} (h : f n l0 = some r) : CallD Tryd.prog HW 55 [.ro .u64 l0] (sg.enc r) :=
  fun_some hwS Tryd.func55 (by kernel_rfl) (body := code) (by kernel_rfl) tys_ok (c := cfg bits_TrailingZeros64.f) (orCall_ok bits_TrailingZeros64.call_ok noCall_ok) noW_ok (by kernel_rfl) (by kernel_rfl) (Nat.le_of_ble_eq_true (by kernel_rfl)) (Eq.trans ((e0 (n := n)).trans (Eq.trans (cf1 (congrArg (b0 _) (fu3 (q53 n n))) _) rfl)) h)
noncomputable def call {α : Type} (g : T1) (ds : List D) (K : List D→Ω α) : Ω α := match ds with
  | [.ro .u64 l0] => (g l0).bind fun r => K (sg.enc r)
  | _ => none
theorem call_ok {α : Type} {n : Nat} : COK Tryd.prog HW 55 (call (α := α) (f n)) := fun _ _ _ h => by
  unfold call at h; split at h
  · exact cok h fun _ => ok
  · cases h
end nat_Trail
/-! ### nat_Shr: function 61 -/
namespace nat_Shr
noncomputable def b0 (c55 : T1) (c117 : T4) (c118 : T1) (c120 : T5) (k31 : Λ→Int→Bool→Ω (Λ × Bool × Int)) (l0 : Λ) (a1 : Int) : Ω (Λ × Bool × Int) := ((c117 l0).bind fun t1 => (if t1 = true then some (([] : Λ), false, 2) else (if a1 < 0 then some (([] : Λ), false, 1) else ((c118 l0).bind fun t2 => (if t2 > 0 then ((c55 l0).bind fun t3 => k31 l0 a1 (decide (t3 < a1))) else k31 l0 a1 false)))))
noncomputable def b31 (c55 : T1) (c117 : T4) (c118 : T1) (c120 : T5) (k8181 : T51) (x0 : Λ) (x1 : Int) (x2 : Bool) : Ω (Λ × Bool × Int) := ((c118 x0).bind fun t1 => (if 0 ≤ t1 then (if t1 ≤ (ln x0) then ((some (x0.take t1.toNat) : Ω (Λ)).bind fun y2 => (if x1 ≥ (wrap64 (64 * (ln y2))) then some (([] : Λ), x2, 0) else (if 0 ≤ (wrap64 ((ln y2) - (wrap64 (Int.tdiv x1 64)))) then (if (wrap64 ((ln y2) - (wrap64 (Int.tdiv x1 64)))).toNat ≤ 35184372088832 then k8181 y2 x2 (wrap64 (Int.tdiv x1 64)) (IntKind.u64.wrap (Int.tmod x1 64)) (ln (List.replicate (wrap64 ((ln y2) - (wrap64 (Int.tdiv x1 64)))).toNat (0 : Int))) 0 (List.replicate (wrap64 ((ln y2) - (wrap64 (Int.tdiv x1 64)))).toNat (0 : Int)) else none) else none))) else none) else none))
noncomputable def b1023 (c55 : T1) (c117 : T4) (c118 : T1) (c120 : T5) (x0 : Bool) (x1 : Λ) : Ω (Λ × Bool × Int) := ((c120 x1).bind fun t1 => some (t1.1, x0, t1.2))
noncomputable def b8181 (c55 : T1) (c117 : T4) (c118 : T1) (c120 : T5) (k1023 : Bool→Λ→Ω (Λ × Bool × Int)) (k8181 : T51) (x0 : Λ) (x1 : Bool) (x2 x3 x4 x5 : Int) (x6 : Λ) : Ω (Λ × Bool × Int) := (if x5 < x4 then (if 0 ≤ (wrap64 (x2 + x5)) then (if (wrap64 (x2 + x5)) < (ln x0) then (if 0 ≤ x3 then (if (wrap64 ((wrap64 (x2 + x5)) + 1)) < (ln x0) then (if x3 > 0 then (if 0 ≤ (wrap64 ((wrap64 (x2 + x5)) + 1)) then (if (wrap64 ((wrap64 (x2 + x5)) + 1)) < (ln x0) then (if 0 ≤ (IntKind.u64.wrap (64 - x3)) then (if 0 ≤ x5 then (if x5 < (ln x6) then k8181 x0 x1 x2 x3 x4 (wrap64 (x5 + 1)) (x6.set (x5 : Int).toNat (Go.bits .or .u64 (shr .u64 (rd x0 (wrap64 (x2 + x5))) x3) (shl .u64 (rd x0 (wrap64 ((wrap64 (x2 + x5)) + 1))) (IntKind.u64.wrap (64 - x3))))) else none) else none) else none) else none) else none) else (if 0 ≤ x5 then (if x5 < (ln x6) then k8181 x0 x1 x2 x3 x4 (wrap64 (x5 + 1)) (x6.set (x5 : Int).toNat (shr .u64 (rd x0 (wrap64 (x2 + x5))) x3)) else none) else none)) else (if 0 ≤ x5 then (if x5 < (ln x6) then k8181 x0 x1 x2 x3 x4 (wrap64 (x5 + 1)) (x6.set (x5 : Int).toNat (shr .u64 (rd x0 (wrap64 (x2 + x5))) x3)) else none) else none)) else none) else none) else none) else k1023 x1 x6)
noncomputable def l1023 (n : Nat) (x0 : Bool) (x1 : Λ) : Ω (Λ × Bool × Int) := b1023 (nat_Trail.f n) (nat_big.f n) (nat_size.f n) (nat_cut.f n) x0 x1
noncomputable def l8181 (n : Nat) : Nat→Λ→Bool→Int→Int→Int→Int→Λ→Ω (Λ × Bool × Int)
  | 0, _, _, _, _, _, _, _ => none
  | m + 1, x0, x1, x2, x3, x4, x5, x6 => b8181 (nat_Trail.f n) (nat_big.f n) (nat_size.f n) (nat_cut.f n) (l1023 n) (l8181 n m) x0 x1 x2 x3 x4 x5 x6
noncomputable def l31 (n : Nat) (x0 : Λ) (x1 : Int) (x2 : Bool) : Ω (Λ × Bool × Int) := b31 (nat_Trail.f n) (nat_big.f n) (nat_size.f n) (nat_cut.f n) (l8181 n n) x0 x1 x2
noncomputable def f (n : Nat) (l0 : Λ) (a1 : Int) : Ω (Λ × Bool × Int) := b0 (nat_Trail.f n) (nat_big.f n) (nat_size.f n) (nat_cut.f n) (l31 n) l0 a1
noncomputable def sg : Sig (Λ × Bool × Int) := s2 (sRow .u64) (s2 (sBool) (s1 (sInt .i64)))
noncomputable def code : Code := (Tryd.f61.body).getD .skip
noncomputable def cfg (c55 : T1) (c117 : T4) (c118 : T1) (c120 : T5) : Cfg (Λ × Bool × Int) := { T := tys, call := orCall 55 (nat_Trail.call c55) (orCall 117 (nat_big.call c117) (orCall 118 (nat_size.call c118) (orCall 120 (nat_cut.call c120) (noCall)))) }
noncomputable def cuts : List (Nat × List (Nat × Want)) := [(31, [(0, .keep), (1, .keep), (7, .keep)]), (1023, [(7, .keep), (10, .keep)]), (8181, [(0, .keep), (7, .keep), (8, .keep), (9, .keep), (10, .keep), (49, .keep), (50, .keep)])]
noncomputable def s31 (x0 : Λ) (x1 : Int) (x2 : Bool) : ASt := ⟨[(0, .ro .u64 x0), (1, .int .i64 x1), (7, .bool x2)], []⟩
noncomputable def s1023 (x0 : Bool) (x1 : Λ) : ASt := ⟨[(7, .bool x0), (10, .own 0)], [.ints 25 .u64 x1]⟩
noncomputable def s8181 (x0 : Λ) (x1 : Bool) (x2 x3 x4 x5 : Int) (x6 : Λ) : ASt := ⟨[(0, .ro .u64 x0), (7, .bool x1), (8, .int .i64 x2), (9, .int .u64 x3), (10, .own 0), (49, .int .i64 x4), (50, .int .i64 x5)], [.ints 25 .u64 x6]⟩
noncomputable def A (c55 : T1) (c117 : T4) (c118 : T1) (c120 : T5) (n : Nat) (J : Jt (Λ × Bool × Int)) (q : Nat) (ms : List Nat) : ASt→Ω (Λ × Bool × Int) := acont (cfg c55 c117 c118 c120) J cuts n q code 1 ms (aend (cfg c55 c117 c118 c120) Tryd.f61.results.toList [false, false, false] sg.out)
theorem e0 {c55 c117 c118 c120 n J l0 a1} : afun (cfg c55 c117 c118 c120) J cuts n code Tryd.f61.results.toList [false, false, false] [.ro .u64 l0, .int .i64 a1] sg.out = b0 c55 c117 c118 c120 (fun y0 y1 y2 => J 31 (A c55 c117 c118 c120 n J 31 []) (s31 y0 y1 y2)) l0 a1 := by kernel_rfl
theorem e31 {c55 c117 c118 c120 n J x0 x1 x2} : A c55 c117 c118 c120 n J 31 [] (s31 x0 x1 x2) = b31 c55 c117 c118 c120 (fun y0 y1 y2 y3 y4 y5 y6 => J 8181 (A c55 c117 c118 c120 n J 8181 [n]) (s8181 y0 y1 y2 y3 y4 y5 y6)) x0 x1 x2 := by kernel_rfl
theorem e1023 {c55 c117 c118 c120 n J x0 x1} : A c55 c117 c118 c120 n J 1023 [] (s1023 x0 x1) = b1023 c55 c117 c118 c120 x0 x1 := by kernel_rfl
theorem e8181 {c55 c117 c118 c120 n J m x0 x1 x2 x3 x4 x5 x6} : A c55 c117 c118 c120 n J 8181 [m + 1] (s8181 x0 x1 x2 x3 x4 x5 x6) = b8181 c55 c117 c118 c120 (fun y0 y1 => J 1023 (A c55 c117 c118 c120 n J 1023 []) (s1023 y0 y1)) (fun y0 y1 y2 y3 y4 y5 y6 => J 8181 (A c55 c117 c118 c120 n J 8181 [m]) (s8181 y0 y1 y2 y3 y4 y5 y6)) x0 x1 x2 x3 x4 x5 x6 := by kernel_rfl
noncomputable abbrev I (n : Nat) := A (nat_Trail.f n) (nat_big.f n) (nat_size.f n) (nat_cut.f n) n idJ
theorem q1023 (n x0 x1) : I n 1023 [] (s1023 x0 x1) = l1023 n x0 x1 := e1023
theorem q8181 (n m) : ∀ x0 x1 x2 x3 x4 x5 x6, I n 8181 [m] (s8181 x0 x1 x2 x3 x4 x5 x6) = l8181 n m x0 x1 x2 x3 x4 x5 x6 := by
  induction m with
  | zero => intros; rfl
  | succ m ih =>
    intros
    exact e8181.trans (Eq.trans (cf7 (congr (congrArg (b8181 _ _ _ _) (fu2 (q1023 n))) (fu7 (ih))) _ _ _ _ _ _ _) rfl)
theorem q31 (n x0 x1 x2) : I n 31 [] (s31 x0 x1 x2) = l31 n x0 x1 x2 := e31.trans (Eq.trans (cf3 (congrArg (b31 _ _ _ _) (fu7 (q8181 n n))) _ _ _) rfl)
theorem ok {n  l0 a1 r} (h : f n l0 a1 = some r) : CallD Tryd.prog HW 61 [.ro .u64 l0, .int .i64 a1] (sg.enc r) :=
  fun_some hwS Tryd.func61 (by kernel_rfl) (body := code) (by kernel_rfl) tys_ok (c := cfg (nat_Trail.f n) (nat_big.f n) (nat_size.f n) (nat_cut.f n)) (orCall_ok (nat_Trail.call_ok (n := n)) (orCall_ok (nat_big.call_ok (n := n)) (orCall_ok (nat_size.call_ok (n := n)) (orCall_ok (nat_cut.call_ok (n := n)) noCall_ok)))) noW_ok (by kernel_rfl) (by kernel_rfl) (Nat.le_of_ble_eq_true (by kernel_rfl)) (Eq.trans ((e0 (n := n)).trans (Eq.trans (cf2 (congrArg (b0 _ _ _ _) (fu3 (q31 n))) _ _) rfl)) h)
noncomputable def call {α : Type} (g : T16) (ds : List D) (K : List D→Ω α) : Ω α := match ds with
  | [.ro .u64 l0, .int .i64 a1] => (g l0 a1).bind fun r => K (sg.enc r)
  | _ => none
theorem call_ok {α : Type} {n : Nat} : COK Tryd.prog HW 61 (call (α := α) (f n)) := fun _ _ _ h => by
  unfold call at h; split at h
  · exact cok h fun _ => ok
  · cases h
end nat_Shr
/-! ### nat_ToUint: function 52 -/
namespace nat_ToUint
noncomputable def b0 (c118 : T1) (l0 : Λ) : Ω (Int × Bool) := ((c118 l0).bind fun t1 => (if t1 = 0 then some (0, true) else (if t1 = 1 then (if 0 < (ln l0) then some (rd l0 0, true) else none) else some (0, false))))
noncomputable def f (n : Nat) (l0 : Λ) : Ω (Int × Bool) := b0 (nat_size.f n) l0
noncomputable def sg : Sig (Int × Bool) := s2 (sInt .u64) (s1 (sBool))
noncomputable def code : Code := (Tryd.f52.body).getD .skip
noncomputable def cfg (c118 : T1) : Cfg (Int × Bool) := { T := tys, call := orCall 118 (nat_size.call c118) (noCall) }
noncomputable def cuts : List (Nat × List (Nat × Want)) := []
theorem e0 {c118 n J l0} : afun (cfg c118) J cuts n code Tryd.f52.results.toList [false, false] [.ro .u64 l0] sg.out = b0 c118 l0 := by kernel_rfl
theorem ok {n  l0 r} (h : f n l0 = some r) : CallD Tryd.prog HW 52 [.ro .u64 l0] (sg.enc r) :=
  fun_some hwS Tryd.func52 (by kernel_rfl) (body := code) (by kernel_rfl) tys_ok (c := cfg (nat_size.f n)) (orCall_ok (nat_size.call_ok (n := n)) noCall_ok) noW_ok (by kernel_rfl) (by kernel_rfl) (Nat.le_of_ble_eq_true (by kernel_rfl)) (Eq.trans ((e0 (n := n))) h)
noncomputable def call {α : Type} (g : T19) (ds : List D) (K : List D→Ω α) : Ω α := match ds with
  | [.ro .u64 l0] => (g l0).bind fun r => K (sg.enc r)
  | _ => none
theorem call_ok {α : Type} {n : Nat} : COK Tryd.prog HW 52 (call (α := α) (f n)) := fun _ _ _ h => by
  unfold call at h; split at h
  · exact cok h fun _ => ok
  · cases h
end nat_ToUint
/-! ### nat_Bit: function 54 -/
namespace nat_Bit
noncomputable def b0 (l0 : Λ) (a1 : Int) : Ω (Int) := (if a1 < 0 then some 0 else (if (wrap64 (Int.tdiv a1 64)) ≥ (ln l0) then some 0 else (if 0 ≤ (wrap64 (Int.tdiv a1 64)) then (if (wrap64 (Int.tdiv a1 64)) < (ln l0) then (if 0 ≤ (IntKind.u64.wrap (Int.tmod a1 64)) then some (wrap64 (Go.bits .and .u64 (shr .u64 (rd l0 (wrap64 (Int.tdiv a1 64))) (IntKind.u64.wrap (Int.tmod a1 64))) 1)) else none) else none) else none)))
noncomputable def f (l0 : Λ) (a1 : Int) : Ω (Int) := b0 l0 a1
noncomputable def sg : Sig (Int) := s1 (sInt .i64)
noncomputable def code : Code := (Tryd.f54.body).getD .skip
noncomputable def cfg : Cfg (Int) := { T := tys, call := noCall }
noncomputable def cuts : List (Nat × List (Nat × Want)) := []
theorem e0 {n J l0 a1} : afun cfg J cuts n code Tryd.f54.results.toList [false] [.ro .u64 l0, .int .i64 a1] sg.out = b0 l0 a1 := by kernel_rfl
theorem ok {l0 a1 r} (h : f l0 a1 = some r) : CallD Tryd.prog HW 54 [.ro .u64 l0, .int .i64 a1] (sg.enc r) :=
  fun_some hwS Tryd.func54 (by kernel_rfl) (body := code) (by kernel_rfl) tys_ok (c := cfg) noCall_ok noW_ok (by kernel_rfl) (by kernel_rfl) (Nat.le_of_ble_eq_true (by kernel_rfl)) (Eq.trans ((e0 (n := 0))) h)
noncomputable def call {α : Type} (g : T8) (ds : List D) (K : List D→Ω α) : Ω α := match ds with
  | [.ro .u64 l0, .int .i64 a1] => (g l0 a1).bind fun r => K (sg.enc r)
  | _ => none
theorem call_ok {α : Type} : COK Tryd.prog HW 54 (call (α := α) f) := fun _ _ _ h => by
  unfold call at h; split at h
  · exact cok h fun _ => ok
  · cases h
end nat_Bit
/-! ### ieee_magnitude: function 152 -/
namespace ieee_magnitude
noncomputable def b0 (c52 : T19) (c53 : T1) (c54 : T8) (c55 : T1) (c61 : T16) (k255 : T12) (l0 : Λ) (a1 : Int) (a2 : Bool) : Ω (Int) := ((c53 l0).bind fun t1 => (if (ln l0) = 0 then some 0 else (if (wrap64 (t1 + a1)) < (-1074) then some 0 else (if (wrap64 (t1 + a1)) > 1024 then some 9218868437227405312 else (if (wrap64 ((mx (wrap64 ((wrap64 (t1 + a1)) - 53)) (-1074)) - a1)) ≤ 0 then (if 0 < (ln l0) then (if 0 ≤ (IntKind.u64.wrap (wrap64 (-(wrap64 ((mx (wrap64 ((wrap64 (t1 + a1)) - 53)) (-1074)) - a1))))) then k255 (mx (wrap64 ((wrap64 (t1 + a1)) - 53)) (-1074)) (shl .u64 (rd l0 0) (IntKind.u64.wrap (wrap64 (-(wrap64 ((mx (wrap64 ((wrap64 (t1 + a1)) - 53)) (-1074)) - a1)))))) else none) else none) else ((c61 l0 (wrap64 ((mx (wrap64 ((wrap64 (t1 + a1)) - 53)) (-1074)) - a1))).bind fun t2 => ((c52 t2.1).bind fun t3 => ((c54 l0 (wrap64 ((wrap64 ((mx (wrap64 ((wrap64 (t1 + a1)) - 53)) (-1074)) - a1)) - 1))).bind fun t4 => (if t4 = 1 then (if a2 = true then k255 (mx (wrap64 ((wrap64 (t1 + a1)) - 53)) (-1074)) (IntKind.u64.wrap (t3.1 + 1)) else (if (Go.bits .and .u64 t3.1 1) = 1 then k255 (mx (wrap64 ((wrap64 (t1 + a1)) - 53)) (-1074)) (IntKind.u64.wrap (t3.1 + 1)) else ((c55 l0).bind fun t5 => (if t5 < (wrap64 ((wrap64 ((mx (wrap64 ((wrap64 (t1 + a1)) - 53)) (-1074)) - a1)) - 1)) then k255 (mx (wrap64 ((wrap64 (t1 + a1)) - 53)) (-1074)) (IntKind.u64.wrap (t3.1 + 1)) else k255 (mx (wrap64 ((wrap64 (t1 + a1)) - 53)) (-1074)) t3.1)))) else k255 (mx (wrap64 ((wrap64 (t1 + a1)) - 53)) (-1074)) t3.1)))))))))
noncomputable def b255 (c52 : T19) (c53 : T1) (c54 : T8) (c55 : T1) (c61 : T16) (x0 x1 : Int) : Ω (Int) := some (IntKind.u64.wrap ((IntKind.u64.wrap ((IntKind.u64.wrap (wrap64 (x0 - (-1074)))) * 4503599627370496)) + x1))
noncomputable def l255 (n : Nat) (x0 x1 : Int) : Ω (Int) := b255 (nat_ToUint.f n) (nat_BitLen.f n) nat_Bit.f (nat_Trail.f n) (nat_Shr.f n) x0 x1
noncomputable def f (n : Nat) (l0 : Λ) (a1 : Int) (a2 : Bool) : Ω (Int) := b0 (nat_ToUint.f n) (nat_BitLen.f n) nat_Bit.f (nat_Trail.f n) (nat_Shr.f n) (l255 n) l0 a1 a2
noncomputable def sg : Sig (Int) := s1 (sInt .u64)
noncomputable def code : Code := (Tryd.f152.body).getD .skip
noncomputable def cfg (c52 : T19) (c53 : T1) (c54 : T8) (c55 : T1) (c61 : T16) : Cfg (Int) := { T := tys, call := orCall 52 (nat_ToUint.call c52) (orCall 53 (nat_BitLen.call c53) (orCall 54 (nat_Bit.call c54) (orCall 55 (nat_Trail.call c55) (orCall 61 (nat_Shr.call c61) (noCall))))) }
noncomputable def cuts : List (Nat × List (Nat × Want)) := [(255, [(8, .keep), (10, .keep)])]
noncomputable def s255 (x0 x1 : Int) : ASt := ⟨[(8, .int .i64 x0), (10, .int .u64 x1)], []⟩
noncomputable def A (c52 : T19) (c53 : T1) (c54 : T8) (c55 : T1) (c61 : T16) (n : Nat) (J : Jt (Int)) (q : Nat) (ms : List Nat) : ASt→Ω (Int) := acont (cfg c52 c53 c54 c55 c61) J cuts n q code 1 ms (aend (cfg c52 c53 c54 c55 c61) Tryd.f152.results.toList [false] sg.out)
theorem e0 {c52 c53 c54 c55 c61 n J l0 a1 a2} : afun (cfg c52 c53 c54 c55 c61) J cuts n code Tryd.f152.results.toList [false] [.ro .u64 l0, .int .i64 a1, .bool a2] sg.out = b0 c52 c53 c54 c55 c61 (fun y0 y1 => J 255 (A c52 c53 c54 c55 c61 n J 255 []) (s255 y0 y1)) l0 a1 a2 := by kernel_rfl
theorem e255 {c52 c53 c54 c55 c61 n J x0 x1} : A c52 c53 c54 c55 c61 n J 255 [] (s255 x0 x1) = b255 c52 c53 c54 c55 c61 x0 x1 := by kernel_rfl
noncomputable abbrev I (n : Nat) := A (nat_ToUint.f n) (nat_BitLen.f n) nat_Bit.f (nat_Trail.f n) (nat_Shr.f n) n idJ
theorem q255 (n x0 x1) : I n 255 [] (s255 x0 x1) = l255 n x0 x1 := e255
theorem ok {n  l0 a1 a2 r} (h : f n l0 a1 a2 = some r) : CallD Tryd.prog HW 152 [.ro .u64 l0, .int .i64 a1, .bool a2] (sg.enc r) :=
  fun_some hwS Tryd.func152 (by kernel_rfl) (body := code) (by kernel_rfl) tys_ok (c := cfg (nat_ToUint.f n) (nat_BitLen.f n) nat_Bit.f (nat_Trail.f n) (nat_Shr.f n)) (orCall_ok (nat_ToUint.call_ok (n := n)) (orCall_ok (nat_BitLen.call_ok (n := n)) (orCall_ok nat_Bit.call_ok (orCall_ok (nat_Trail.call_ok (n := n)) (orCall_ok (nat_Shr.call_ok (n := n)) noCall_ok))))) noW_ok (by kernel_rfl) (by kernel_rfl) (Nat.le_of_ble_eq_true (by kernel_rfl)) (Eq.trans ((e0 (n := n)).trans (Eq.trans (cf3 (congrArg (b0 _ _ _ _ _) (fu2 (q255 n))) _ _ _) rfl)) h)
noncomputable def call {α : Type} (g : T40) (ds : List D) (K : List D→Ω α) : Ω α := match ds with
  | [.ro .u64 l0, .int .i64 a1, .bool a2] => (g l0 a1 a2).bind fun r => K (sg.enc r)
  | _ => none
theorem call_ok {α : Type} {n : Nat} : COK Tryd.prog HW 152 (call (α := α) (f n)) := fun _ _ _ h => by
  unfold call at h; split at h
  · exact cok h fun _ => ok
  · cases h
end ieee_magnitude
/-! ### ieee_Neg: function 104 -/
namespace ieee_Neg
noncomputable def b0 (a0 : Int) : Ω (Int) := some (Go.bits .xor .u64 a0 9223372036854775808)
noncomputable def f (a0 : Int) : Ω (Int) := b0 a0
noncomputable def sg : Sig (Int) := s1 (sInt .u64)
noncomputable def code : Code := (Tryd.f104.body).getD .skip
noncomputable def cfg : Cfg (Int) := { T := tys, call := noCall }
noncomputable def cuts : List (Nat × List (Nat × Want)) := []
theorem e0 {n J a0} : afun cfg J cuts n code Tryd.f104.results.toList [false] [.int .u64 a0] sg.out = b0 a0 := by kernel_rfl
theorem ok {a0 r} (h : f a0 = some r) : CallD Tryd.prog HW 104 [.int .u64 a0] (sg.enc r) :=
  fun_some hwS Tryd.func104 (by kernel_rfl) (body := code) (by kernel_rfl) tys_ok (c := cfg) noCall_ok noW_ok (by kernel_rfl) (by kernel_rfl) (Nat.le_of_ble_eq_true (by kernel_rfl)) (Eq.trans ((e0 (n := 0))) h)
noncomputable def call {α : Type} (g : T0) (ds : List D) (K : List D→Ω α) : Ω α := match ds with
  | [.int .u64 a0] => (g a0).bind fun r => K (sg.enc r)
  | _ => none
theorem call_ok {α : Type} : COK Tryd.prog HW 104 (call (α := α) f) := fun _ _ _ h => by
  unfold call at h; split at h
  · exact cok h fun _ => ok
  · cases h
end ieee_Neg
/-! ### ieee_Round: function 116 -/
namespace ieee_Round
noncomputable def b0 (c60 : T18) (c104 c144 : T0) (c152 : T40) (a0 : Bool) (l1 : Λ) (a2 : Int) (a3 : Bool) : Ω (Int × Int) := ((c60 l1 0).bind fun t1 => (if ¬ t1.2 = 0 then some (0, t1.2) else ((c144 a2).bind fun t2 => ((c152 t1.1 t2 a3).bind fun t3 => (if a0 = true then ((c104 t3).bind fun t4 => some (t4, 0)) else some (t3, 0))))))
noncomputable def f (n : Nat) (a0 : Bool) (l1 : Λ) (a2 : Int) (a3 : Bool) : Ω (Int × Int) := b0 (nat_Shl.f n) ieee_Neg.f ieee_near.f (ieee_magnitude.f n) a0 l1 a2 a3
noncomputable def sg : Sig (Int × Int) := s2 (sInt .u64) (s1 (sInt .i64))
noncomputable def code : Code := (Tryd.f116.body).getD .skip
noncomputable def cfg (c60 : T18) (c104 c144 : T0) (c152 : T40) : Cfg (Int × Int) := { T := tys, call := orCall 60 (nat_Shl.call c60) (orCall 104 (ieee_Neg.call c104) (orCall 144 (ieee_near.call c144) (orCall 152 (ieee_magnitude.call c152) (noCall)))) }
noncomputable def cuts : List (Nat × List (Nat × Want)) := []
theorem e0 {c60 c104 c144 c152 n J a0 l1 a2 a3} : afun (cfg c60 c104 c144 c152) J cuts n code Tryd.f116.results.toList [false, false] [.bool a0, .ro .u64 l1, .int .i64 a2, .bool a3] sg.out = b0 c60 c104 c144 c152 a0 l1 a2 a3 := by kernel_rfl
theorem ok {n  a0 l1 a2 a3 r} (h : f n a0 l1 a2 a3 = some r) : CallD Tryd.prog HW 116 [.bool a0, .ro .u64 l1, .int .i64 a2, .bool a3] (sg.enc r) :=
  fun_some hwS Tryd.func116 (by kernel_rfl) (body := code) (by kernel_rfl) tys_ok (c := cfg (nat_Shl.f n) ieee_Neg.f ieee_near.f (ieee_magnitude.f n)) (orCall_ok (nat_Shl.call_ok (n := n)) (orCall_ok ieee_Neg.call_ok (orCall_ok ieee_near.call_ok (orCall_ok (ieee_magnitude.call_ok (n := n)) noCall_ok)))) noW_ok (by kernel_rfl) (by kernel_rfl) (Nat.le_of_ble_eq_true (by kernel_rfl)) (Eq.trans ((e0 (n := n))) h)
noncomputable def call {α : Type} (g : T14) (ds : List D) (K : List D→Ω α) : Ω α := match ds with
  | [.bool a0, .ro .u64 l1, .int .i64 a2, .bool a3] => (g a0 l1 a2 a3).bind fun r => K (sg.enc r)
  | _ => none
theorem call_ok {α : Type} {n : Nat} : COK Tryd.prog HW 116 (call (α := α) (f n)) := fun _ _ _ h => by
  unfold call at h; split at h
  · exact cok h fun _ => ok
  · cases h
end ieee_Round
/-! ### nat_Trim: function 50 -/
namespace nat_Trim
noncomputable def b0 (c118 : T1) (l0 : Λ) : Ω (Λ) := ((c118 l0).bind fun t1 => (if 0 ≤ t1 then (if t1.toNat ≤ 35184372088832 then (if 0 ≤ t1 then (if t1 ≤ (ln l0) then ((some (l0.take t1.toNat) : Ω (Λ)).bind fun y2 => (if y2.length = (List.replicate t1.toNat (0 : Int)).length then some y2 else none)) else none) else none) else none) else none))
noncomputable def f (n : Nat) (l0 : Λ) : Ω (Λ) := b0 (nat_size.f n) l0
noncomputable def sg : Sig (Λ) := s1 (sOwn 25 .u64)
noncomputable def code : Code := (Tryd.f50.body).getD .skip
noncomputable def cfg (c118 : T1) : Cfg (Λ) := { T := tys, call := orCall 118 (nat_size.call c118) (noCall) }
noncomputable def cuts : List (Nat × List (Nat × Want)) := []
theorem e0 {c118 n J l0} : afun (cfg c118) J cuts n code Tryd.f50.results.toList [true] [.ro .u64 l0] sg.out = b0 c118 l0 := by kernel_rfl
theorem ok {n  l0 r} (h : f n l0 = some r) : CallD Tryd.prog HW 50 [.ro .u64 l0] (sg.enc r) :=
  fun_some hwS Tryd.func50 (by kernel_rfl) (body := code) (by kernel_rfl) tys_ok (c := cfg (nat_size.f n)) (orCall_ok (nat_size.call_ok (n := n)) noCall_ok) noW_ok (by kernel_rfl) (by kernel_rfl) (Nat.le_of_ble_eq_true (by kernel_rfl)) (Eq.trans ((e0 (n := n))) h)
noncomputable def call {α : Type} (g : T2) (ds : List D) (K : List D→Ω α) : Ω α := match ds with
  | [.ro .u64 l0] => (g l0).bind fun r => K (sg.enc r)
  | _ => none
theorem call_ok {α : Type} {n : Nat} : COK Tryd.prog HW 50 (call (α := α) (f n)) := fun _ _ _ h => by
  unfold call at h; split at h
  · exact cok h fun _ => ok
  · cases h
end nat_Trim
/-! ### quot_small: function 134 -/
namespace quot_small
noncomputable def b0 (c50 : T2) (l0 : Λ) (a1 : Int) : Ω (Λ × Bool) := ((c50 l0).bind fun t1 => some (t1, decide ((ln t1) ≤ a1)))
noncomputable def f (n : Nat) (l0 : Λ) (a1 : Int) : Ω (Λ × Bool) := b0 (nat_Trim.f n) l0 a1
noncomputable def sg : Sig (Λ × Bool) := s2 (sRow .u64) (s1 (sBool))
noncomputable def code : Code := (Tryd.f134.body).getD .skip
noncomputable def cfg (c50 : T2) : Cfg (Λ × Bool) := { T := tys, call := orCall 50 (nat_Trim.call c50) (noCall) }
noncomputable def cuts : List (Nat × List (Nat × Want)) := []
theorem e0 {c50 n J l0 a1} : afun (cfg c50) J cuts n code Tryd.f134.results.toList [false, false] [.ro .u64 l0, .int .i64 a1] sg.out = b0 c50 l0 a1 := by kernel_rfl
theorem ok {n  l0 a1 r} (h : f n l0 a1 = some r) : CallD Tryd.prog HW 134 [.ro .u64 l0, .int .i64 a1] (sg.enc r) :=
  fun_some hwS Tryd.func134 (by kernel_rfl) (body := code) (by kernel_rfl) tys_ok (c := cfg (nat_Trim.f n)) (orCall_ok (nat_Trim.call_ok (n := n)) noCall_ok) noW_ok (by kernel_rfl) (by kernel_rfl) (Nat.le_of_ble_eq_true (by kernel_rfl)) (Eq.trans ((e0 (n := n))) h)
noncomputable def call {α : Type} (g : T41) (ds : List D) (K : List D→Ω α) : Ω α := match ds with
  | [.ro .u64 l0, .int .i64 a1] => (g l0 a1).bind fun r => K (sg.enc r)
  | _ => none
theorem call_ok {α : Type} {n : Nat} : COK Tryd.prog HW 134 (call (α := α) (f n)) := fun _ _ _ h => by
  unfold call at h; split at h
  · exact cok h fun _ => ok
  · cases h
end quot_small
/-! ### nat_Cmp: function 56 -/
namespace nat_Cmp
noncomputable def b0 (c118 : T1) (k245 : T37) (l0 l1 : Λ) : Ω (Int) := ((c118 l0).bind fun t1 => ((c118 l1).bind fun t2 => (if ¬ t1 = t2 then (if t1 < t2 then some (-1) else some 1) else k245 l0 l1 (wrap64 (t1 - 1)))))
noncomputable def b245 (c118 : T1) (k245 : T37) (x0 x1 : Λ) (x2 : Int) : Ω (Int) := (if x2 ≥ 0 then (if 0 ≤ x2 then (if x2 < (ln x0) then (if 0 ≤ x2 then (if x2 < (ln x1) then (if ¬ (rd x0 x2) = (rd x1 x2) then (if 0 ≤ x2 then (if x2 < (ln x0) then (if 0 ≤ x2 then (if x2 < (ln x1) then (if (rd x0 x2) < (rd x1 x2) then some (-1) else some 1) else none) else none) else none) else none) else k245 x0 x1 (wrap64 (x2 - 1))) else none) else none) else none) else none) else some 0)
noncomputable def l245 (n : Nat) : Nat→Λ→Λ→Int→Ω (Int)
  | 0, _, _, _ => none
  | m + 1, x0, x1, x2 => b245 (nat_size.f n) (l245 n m) x0 x1 x2
noncomputable def f (n : Nat) (l0 l1 : Λ) : Ω (Int) := b0 (nat_size.f n) (l245 n n) l0 l1
noncomputable def sg : Sig (Int) := s1 (sInt .i64)
noncomputable def code : Code := (Tryd.f56.body).getD .skip
noncomputable def cfg (c118 : T1) : Cfg (Int) := { T := tys, call := orCall 118 (nat_size.call c118) (noCall) }
noncomputable def cuts : List (Nat × List (Nat × Want)) := [(245, [(0, .keep), (1, .keep), (7, .keep)])]
noncomputable def s245 (x0 x1 : Λ) (x2 : Int) : ASt := ⟨[(0, .ro .u64 x0), (1, .ro .u64 x1), (7, .int .i64 x2)], []⟩
noncomputable def A (c118 : T1) (n : Nat) (J : Jt (Int)) (q : Nat) (ms : List Nat) : ASt→Ω (Int) := acont (cfg c118) J cuts n q code 1 ms (aend (cfg c118) Tryd.f56.results.toList [false] sg.out)
theorem e0 {c118 n J l0 l1} : afun (cfg c118) J cuts n code Tryd.f56.results.toList [false] [.ro .u64 l0, .ro .u64 l1] sg.out = b0 c118 (fun y0 y1 y2 => J 245 (A c118 n J 245 [n]) (s245 y0 y1 y2)) l0 l1 := by kernel_rfl
theorem e245 {c118 n J m x0 x1 x2} : A c118 n J 245 [m + 1] (s245 x0 x1 x2) = b245 c118 (fun y0 y1 y2 => J 245 (A c118 n J 245 [m]) (s245 y0 y1 y2)) x0 x1 x2 := by kernel_rfl
noncomputable abbrev I (n : Nat) := A (nat_size.f n) n idJ
theorem q245 (n m) : ∀ x0 x1 x2, I n 245 [m] (s245 x0 x1 x2) = l245 n m x0 x1 x2 := by
  induction m with
  | zero => intros; rfl
  | succ m ih =>
    intros
    exact e245.trans (Eq.trans (cf3 (congrArg (b245 _) (fu3 (ih))) _ _ _) rfl)
theorem ok {n  l0 l1 r} (h : f n l0 l1 = some r) : CallD Tryd.prog HW 56 [.ro .u64 l0, .ro .u64 l1] (sg.enc r) :=
  fun_some hwS Tryd.func56 (by kernel_rfl) (body := code) (by kernel_rfl) tys_ok (c := cfg (nat_size.f n)) (orCall_ok (nat_size.call_ok (n := n)) noCall_ok) noW_ok (by kernel_rfl) (by kernel_rfl) (Nat.le_of_ble_eq_true (by kernel_rfl)) (Eq.trans ((e0 (n := n)).trans (Eq.trans (cf2 (congrArg (b0 _) (fu3 (q245 n n))) _ _) rfl)) h)
noncomputable def call {α : Type} (g : T7) (ds : List D) (K : List D→Ω α) : Ω α := match ds with
  | [.ro .u64 l0, .ro .u64 l1] => (g l0 l1).bind fun r => K (sg.enc r)
  | _ => none
theorem call_ok {α : Type} {n : Nat} : COK Tryd.prog HW 56 (call (α := α) (f n)) := fun _ _ _ h => by
  unfold call at h; split at h
  · exact cok h fun _ => ok
  · cases h
end nat_Cmp
/-! ### bits_LeadingZeros64: function 155 -/
namespace bits_LeadingZeros64
noncomputable def b0 (c129 : T0) (a0 : Int) : Ω (Int) := ((c129 a0).bind fun t1 => some (wrap64 (64 - t1)))
noncomputable def f (a0 : Int) : Ω (Int) := b0 bits_Len64.f a0
noncomputable def sg : Sig (Int) := s1 (sInt .i64)
noncomputable def code : Code := (Tryd.f155.body).getD .skip
noncomputable def cfg (c129 : T0) : Cfg (Int) := { T := tys, call := orCall 129 (bits_Len64.call c129) (noCall) }
noncomputable def cuts : List (Nat × List (Nat × Want)) := []
theorem e0 {c129 n J a0} : afun (cfg c129) J cuts n code Tryd.f155.results.toList [false] [.int .u64 a0] sg.out = b0 c129 a0 := by kernel_rfl
theorem ok {a0 r} (h : f a0 = some r) : CallD Tryd.prog HW 155 [.int .u64 a0] (sg.enc r) :=
  fun_some hwS Tryd.func155 (by kernel_rfl) (body := code) (by kernel_rfl) tys_ok (c := cfg bits_Len64.f) (orCall_ok bits_Len64.call_ok noCall_ok) noW_ok (by kernel_rfl) (by kernel_rfl) (Nat.le_of_ble_eq_true (by kernel_rfl)) (Eq.trans ((e0 (n := 0))) h)
noncomputable def call {α : Type} (g : T0) (ds : List D) (K : List D→Ω α) : Ω α := match ds with
  | [.int .u64 a0] => (g a0).bind fun r => K (sg.enc r)
  | _ => none
theorem call_ok {α : Type} : COK Tryd.prog HW 155 (call (α := α) f) := fun _ _ _ h => by
  unfold call at h; split at h
  · exact cok h fun _ => ok
  · cases h
end bits_LeadingZeros64
/-! ### bits_Div64: function 132 -/
namespace bits_Div64
noncomputable def b0 (c155 : T0) (k262137 : T24) (a0 a1 a2 : Int) : Ω (Int × Int) := (if a2 = 0 then none else (if a2 ≤ a0 then none else (if a0 = 0 then (if a2 = 0 then none else (if a2 = 0 then none else some (IntKind.u64.wrap (Int.tdiv a1 a2), Int.tmod a1 a2))) else ((c155 a2).bind fun t1 => (if 0 ≤ (IntKind.u64.wrap t1) then (if 0 ≤ (IntKind.u64.wrap t1) then (if 0 ≤ (IntKind.u64.wrap (64 - (IntKind.u64.wrap t1))) then (if 0 ≤ (IntKind.u64.wrap t1) then (if ((shl .u64 a2 (IntKind.u64.wrap t1)) / 4294967296) = 0 then none else k262137 (shl .u64 a2 (IntKind.u64.wrap t1)) (IntKind.u64.wrap t1) ((shl .u64 a2 (IntKind.u64.wrap t1)) / 4294967296) (Go.bits .and .u64 (shl .u64 a2 (IntKind.u64.wrap t1)) 4294967295) (Go.bits .or .u64 (shl .u64 a0 (IntKind.u64.wrap t1)) (shr .u64 a1 (IntKind.u64.wrap (64 - (IntKind.u64.wrap t1))))) ((shl .u64 a1 (IntKind.u64.wrap t1)) / 4294967296) (Go.bits .and .u64 (shl .u64 a1 (IntKind.u64.wrap t1)) 4294967295) (IntKind.u64.wrap (Int.tdiv (Go.bits .or .u64 (shl .u64 a0 (IntKind.u64.wrap t1)) (shr .u64 a1 (IntKind.u64.wrap (64 - (IntKind.u64.wrap t1))))) ((shl .u64 a2 (IntKind.u64.wrap t1)) / 4294967296))) (IntKind.u64.wrap ((Go.bits .or .u64 (shl .u64 a0 (IntKind.u64.wrap t1)) (shr .u64 a1 (IntKind.u64.wrap (64 - (IntKind.u64.wrap t1))))) - (IntKind.u64.wrap ((IntKind.u64.wrap (Int.tdiv (Go.bits .or .u64 (shl .u64 a0 (IntKind.u64.wrap t1)) (shr .u64 a1 (IntKind.u64.wrap (64 - (IntKind.u64.wrap t1))))) ((shl .u64 a2 (IntKind.u64.wrap t1)) / 4294967296))) * ((shl .u64 a2 (IntKind.u64.wrap t1)) / 4294967296)))))) else none) else none) else none) else none)))))
noncomputable def b65535 (c155 : T0) (k4194297 : T24) (x0 x1 x2 x3 x4 x5 x6 x7 : Int) : Ω (Int × Int) := (if x2 = 0 then none else k4194297 x0 x1 x2 x3 x6 x7 (IntKind.u64.wrap ((IntKind.u64.wrap ((IntKind.u64.wrap ((IntKind.u64.wrap (x4 * 4294967296)) + x5)) - (IntKind.u64.wrap (x7 * x0)))) - (IntKind.u64.wrap ((IntKind.u64.wrap (Int.tdiv (IntKind.u64.wrap ((IntKind.u64.wrap ((IntKind.u64.wrap (x4 * 4294967296)) + x5)) - (IntKind.u64.wrap (x7 * x0)))) x2)) * x2)))) (IntKind.u64.wrap ((IntKind.u64.wrap ((IntKind.u64.wrap (x4 * 4294967296)) + x5)) - (IntKind.u64.wrap (x7 * x0)))) (IntKind.u64.wrap (Int.tdiv (IntKind.u64.wrap ((IntKind.u64.wrap ((IntKind.u64.wrap (x4 * 4294967296)) + x5)) - (IntKind.u64.wrap (x7 * x0)))) x2)))
noncomputable def b262137 (c155 : T0) (k65535 : T52) (k524273 : T24) (x0 x1 x2 x3 x4 x5 x6 x7 x8 : Int) : Ω (Int × Int) := (if x7 ≥ 4294967296 then k524273 x0 x1 x2 x3 x4 x5 x6 x7 x8 else (if (IntKind.u64.wrap (x7 * x3)) > (IntKind.u64.wrap ((IntKind.u64.wrap (4294967296 * x8)) + x5)) then k524273 x0 x1 x2 x3 x4 x5 x6 x7 x8 else k65535 x0 x1 x2 x3 x4 x5 x6 x7))
noncomputable def b524273 (c155 : T0) (k65535 : T52) (k262137 : T24) (x0 x1 x2 x3 x4 x5 x6 x7 x8 : Int) : Ω (Int × Int) := (if (IntKind.u64.wrap (x8 + x2)) ≥ 4294967296 then k65535 x0 x1 x2 x3 x4 x5 x6 (IntKind.u64.wrap (x7 - 1)) else k262137 x0 x1 x2 x3 x4 x5 x6 (IntKind.u64.wrap (x7 - 1)) (IntKind.u64.wrap (x8 + x2)))
noncomputable def b1048575 (c155 : T0) (x0 x1 x2 x3 x4 x5 : Int) : Ω (Int × Int) := (if 0 ≤ x1 then some (IntKind.u64.wrap ((IntKind.u64.wrap (x3 * 4294967296)) + x5), shr .u64 (IntKind.u64.wrap ((IntKind.u64.wrap ((IntKind.u64.wrap (x4 * 4294967296)) + x2)) - (IntKind.u64.wrap (x5 * x0)))) x1) else none)
noncomputable def b4194297 (c155 : T0) (k1048575 : T53) (k8388593 : T24) (x0 x1 x2 x3 x4 x5 x6 x7 x8 : Int) : Ω (Int × Int) := (if x8 ≥ 4294967296 then k8388593 x0 x1 x2 x3 x4 x5 x6 x7 x8 else (if (IntKind.u64.wrap (x8 * x3)) > (IntKind.u64.wrap ((IntKind.u64.wrap (4294967296 * x6)) + x4)) then k8388593 x0 x1 x2 x3 x4 x5 x6 x7 x8 else k1048575 x0 x1 x4 x5 x7 x8))
noncomputable def b8388593 (c155 : T0) (k1048575 : T53) (k4194297 : T24) (x0 x1 x2 x3 x4 x5 x6 x7 x8 : Int) : Ω (Int × Int) := (if (IntKind.u64.wrap (x6 + x2)) ≥ 4294967296 then k1048575 x0 x1 x4 x5 x7 (IntKind.u64.wrap (x8 - 1)) else k4194297 x0 x1 x2 x3 x4 x5 (IntKind.u64.wrap (x6 + x2)) x7 (IntKind.u64.wrap (x8 - 1)))
noncomputable def l1048575 (n : Nat) (x0 x1 x2 x3 x4 x5 : Int) : Ω (Int × Int) := b1048575 bits_LeadingZeros64.f x0 x1 x2 x3 x4 x5
noncomputable def l8388593 (n : Nat) (k4194297 : T24) (x0 x1 x2 x3 x4 x5 x6 x7 x8 : Int) : Ω (Int × Int) := b8388593 bits_LeadingZeros64.f (l1048575 n) k4194297 x0 x1 x2 x3 x4 x5 x6 x7 x8
noncomputable def l4194297 (n : Nat) : Nat→Int→Int→Int→Int→Int→Int→Int→Int→Int→Ω (Int × Int)
  | 0, _, _, _, _, _, _, _, _, _ => none
  | m + 1, x0, x1, x2, x3, x4, x5, x6, x7, x8 => b4194297 bits_LeadingZeros64.f (l1048575 n) (l8388593 n (l4194297 n m)) x0 x1 x2 x3 x4 x5 x6 x7 x8
noncomputable def l65535 (n : Nat) (x0 x1 x2 x3 x4 x5 x6 x7 : Int) : Ω (Int × Int) := b65535 bits_LeadingZeros64.f (l4194297 n n) x0 x1 x2 x3 x4 x5 x6 x7
noncomputable def l524273 (n : Nat) (k262137 : T24) (x0 x1 x2 x3 x4 x5 x6 x7 x8 : Int) : Ω (Int × Int) := b524273 bits_LeadingZeros64.f (l65535 n) k262137 x0 x1 x2 x3 x4 x5 x6 x7 x8
noncomputable def l262137 (n : Nat) : Nat→Int→Int→Int→Int→Int→Int→Int→Int→Int→Ω (Int × Int)
  | 0, _, _, _, _, _, _, _, _, _ => none
  | m + 1, x0, x1, x2, x3, x4, x5, x6, x7, x8 => b262137 bits_LeadingZeros64.f (l65535 n) (l524273 n (l262137 n m)) x0 x1 x2 x3 x4 x5 x6 x7 x8
noncomputable def f (n : Nat) (a0 a1 a2 : Int) : Ω (Int × Int) := b0 bits_LeadingZeros64.f (l262137 n n) a0 a1 a2
noncomputable def sg : Sig (Int × Int) := s2 (sInt .u64) (s1 (sInt .u64))
noncomputable def code : Code := (Tryd.f132.body).getD .skip
noncomputable def cfg (c155 : T0) : Cfg (Int × Int) := { T := tys, call := orCall 155 (bits_LeadingZeros64.call c155) (noCall) }
noncomputable def cuts : List (Nat × List (Nat × Want)) := [(65535, [(2, .keep), (8, .keep), (9, .keep), (10, .keep), (11, .keep), (13, .keep), (14, .keep), (15, .keep)]), (262137, [(2, .keep), (8, .keep), (9, .keep), (10, .keep), (11, .keep), (13, .keep), (14, .keep), (15, .keep), (16, .keep)]), (524273, [(2, .keep), (8, .keep), (9, .keep), (10, .keep), (11, .keep), (13, .keep), (14, .keep), (15, .keep), (16, .keep)]), (1048575, [(2, .keep), (8, .keep), (14, .keep), (15, .keep), (17, .keep), (18, .keep)]), (4194297, [(2, .keep), (8, .keep), (9, .keep), (10, .keep), (14, .keep), (15, .keep), (16, .keep), (17, .keep), (18, .keep)]), (8388593, [(2, .keep), (8, .keep), (9, .keep), (10, .keep), (14, .keep), (15, .keep), (16, .keep), (17, .keep), (18, .keep)])]
noncomputable def s65535 (x0 x1 x2 x3 x4 x5 x6 x7 : Int) : ASt := ⟨[(2, .int .u64 x0), (8, .int .u64 x1), (9, .int .u64 x2), (10, .int .u64 x3), (11, .int .u64 x4), (13, .int .u64 x5), (14, .int .u64 x6), (15, .int .u64 x7)], []⟩
noncomputable def s262137 (x0 x1 x2 x3 x4 x5 x6 x7 x8 : Int) : ASt := ⟨[(2, .int .u64 x0), (8, .int .u64 x1), (9, .int .u64 x2), (10, .int .u64 x3), (11, .int .u64 x4), (13, .int .u64 x5), (14, .int .u64 x6), (15, .int .u64 x7), (16, .int .u64 x8)], []⟩
noncomputable def s524273 (x0 x1 x2 x3 x4 x5 x6 x7 x8 : Int) : ASt := ⟨[(2, .int .u64 x0), (8, .int .u64 x1), (9, .int .u64 x2), (10, .int .u64 x3), (11, .int .u64 x4), (13, .int .u64 x5), (14, .int .u64 x6), (15, .int .u64 x7), (16, .int .u64 x8)], []⟩
noncomputable def s1048575 (x0 x1 x2 x3 x4 x5 : Int) : ASt := ⟨[(2, .int .u64 x0), (8, .int .u64 x1), (14, .int .u64 x2), (15, .int .u64 x3), (17, .int .u64 x4), (18, .int .u64 x5)], []⟩
noncomputable def s4194297 (x0 x1 x2 x3 x4 x5 x6 x7 x8 : Int) : ASt := ⟨[(2, .int .u64 x0), (8, .int .u64 x1), (9, .int .u64 x2), (10, .int .u64 x3), (14, .int .u64 x4), (15, .int .u64 x5), (16, .int .u64 x6), (17, .int .u64 x7), (18, .int .u64 x8)], []⟩
noncomputable def s8388593 (x0 x1 x2 x3 x4 x5 x6 x7 x8 : Int) : ASt := ⟨[(2, .int .u64 x0), (8, .int .u64 x1), (9, .int .u64 x2), (10, .int .u64 x3), (14, .int .u64 x4), (15, .int .u64 x5), (16, .int .u64 x6), (17, .int .u64 x7), (18, .int .u64 x8)], []⟩
noncomputable def A (c155 : T0) (n : Nat) (J : Jt (Int × Int)) (q : Nat) (ms : List Nat) : ASt→Ω (Int × Int) := acont (cfg c155) J cuts n q code 1 ms (aend (cfg c155) Tryd.f132.results.toList [false, false] sg.out)
theorem e0 {c155 n J a0 a1 a2} : afun (cfg c155) J cuts n code Tryd.f132.results.toList [false, false] [.int .u64 a0, .int .u64 a1, .int .u64 a2] sg.out = b0 c155 (fun y0 y1 y2 y3 y4 y5 y6 y7 y8 => J 262137 (A c155 n J 262137 [n]) (s262137 y0 y1 y2 y3 y4 y5 y6 y7 y8)) a0 a1 a2 := by kernel_rfl
theorem e65535 {c155 n J x0 x1 x2 x3 x4 x5 x6 x7} : A c155 n J 65535 [] (s65535 x0 x1 x2 x3 x4 x5 x6 x7) = b65535 c155 (fun y0 y1 y2 y3 y4 y5 y6 y7 y8 => J 4194297 (A c155 n J 4194297 [n]) (s4194297 y0 y1 y2 y3 y4 y5 y6 y7 y8)) x0 x1 x2 x3 x4 x5 x6 x7 := by kernel_rfl
theorem e262137 {c155 n J m x0 x1 x2 x3 x4 x5 x6 x7 x8} : A c155 n J 262137 [m + 1] (s262137 x0 x1 x2 x3 x4 x5 x6 x7 x8) = b262137 c155 (fun y0 y1 y2 y3 y4 y5 y6 y7 => J 65535 (A c155 n J 65535 []) (s65535 y0 y1 y2 y3 y4 y5 y6 y7)) (fun y0 y1 y2 y3 y4 y5 y6 y7 y8 => J 524273 (A c155 n J 524273 [m]) (s524273 y0 y1 y2 y3 y4 y5 y6 y7 y8)) x0 x1 x2 x3 x4 x5 x6 x7 x8 := by kernel_rfl
theorem e524273 {c155 n J m262137 x0 x1 x2 x3 x4 x5 x6 x7 x8} : A c155 n J 524273 [m262137] (s524273 x0 x1 x2 x3 x4 x5 x6 x7 x8) = b524273 c155 (fun y0 y1 y2 y3 y4 y5 y6 y7 => J 65535 (A c155 n J 65535 []) (s65535 y0 y1 y2 y3 y4 y5 y6 y7)) (fun y0 y1 y2 y3 y4 y5 y6 y7 y8 => J 262137 (A c155 n J 262137 [m262137]) (s262137 y0 y1 y2 y3 y4 y5 y6 y7 y8)) x0 x1 x2 x3 x4 x5 x6 x7 x8 := by kernel_rfl
theorem e1048575 {c155 n J x0 x1 x2 x3 x4 x5} : A c155 n J 1048575 [] (s1048575 x0 x1 x2 x3 x4 x5) = b1048575 c155 x0 x1 x2 x3 x4 x5 := by kernel_rfl
theorem e4194297 {c155 n J m x0 x1 x2 x3 x4 x5 x6 x7 x8} : A c155 n J 4194297 [m + 1] (s4194297 x0 x1 x2 x3 x4 x5 x6 x7 x8) = b4194297 c155 (fun y0 y1 y2 y3 y4 y5 => J 1048575 (A c155 n J 1048575 []) (s1048575 y0 y1 y2 y3 y4 y5)) (fun y0 y1 y2 y3 y4 y5 y6 y7 y8 => J 8388593 (A c155 n J 8388593 [m]) (s8388593 y0 y1 y2 y3 y4 y5 y6 y7 y8)) x0 x1 x2 x3 x4 x5 x6 x7 x8 := by kernel_rfl
theorem e8388593 {c155 n J m4194297 x0 x1 x2 x3 x4 x5 x6 x7 x8} : A c155 n J 8388593 [m4194297] (s8388593 x0 x1 x2 x3 x4 x5 x6 x7 x8) = b8388593 c155 (fun y0 y1 y2 y3 y4 y5 => J 1048575 (A c155 n J 1048575 []) (s1048575 y0 y1 y2 y3 y4 y5)) (fun y0 y1 y2 y3 y4 y5 y6 y7 y8 => J 4194297 (A c155 n J 4194297 [m4194297]) (s4194297 y0 y1 y2 y3 y4 y5 y6 y7 y8)) x0 x1 x2 x3 x4 x5 x6 x7 x8 := by kernel_rfl
noncomputable abbrev I (n : Nat) := A bits_LeadingZeros64.f n idJ
theorem q1048575 (n x0 x1 x2 x3 x4 x5) : I n 1048575 [] (s1048575 x0 x1 x2 x3 x4 x5) = l1048575 n x0 x1 x2 x3 x4 x5 := e1048575
theorem q8388593 (n m4194297 x0 x1 x2 x3 x4 x5 x6 x7 x8) : I n 8388593 [m4194297] (s8388593 x0 x1 x2 x3 x4 x5 x6 x7 x8) = l8388593 n (fun y0 y1 y2 y3 y4 y5 y6 y7 y8 => I n 4194297 [m4194297] (s4194297 y0 y1 y2 y3 y4 y5 y6 y7 y8)) x0 x1 x2 x3 x4 x5 x6 x7 x8 := e8388593.trans (Eq.trans (cf9 (congr (congrArg (b8388593 _) (fu6 (q1048575 n))) rfl) _ _ _ _ _ _ _ _ _) rfl)
theorem q4194297 (n m) : ∀ x0 x1 x2 x3 x4 x5 x6 x7 x8, I n 4194297 [m] (s4194297 x0 x1 x2 x3 x4 x5 x6 x7 x8) = l4194297 n m x0 x1 x2 x3 x4 x5 x6 x7 x8 := by
  induction m with
  | zero => intros; rfl
  | succ m ih =>
    intros
    exact e4194297.trans (Eq.trans (cf9 (congr (congrArg (b4194297 _) (fu6 (q1048575 n))) ((fu9 (q8388593 n m)).trans (by rw [show (fun y0 y1 y2 y3 y4 y5 y6 y7 y8 => I n 4194297 [m] (s4194297 y0 y1 y2 y3 y4 y5 y6 y7 y8)) = _ from (fu9 (ih))]))) _ _ _ _ _ _ _ _ _) rfl)
theorem q65535 (n x0 x1 x2 x3 x4 x5 x6 x7) : I n 65535 [] (s65535 x0 x1 x2 x3 x4 x5 x6 x7) = l65535 n x0 x1 x2 x3 x4 x5 x6 x7 := e65535.trans (Eq.trans (cf8 (congrArg (b65535 _) (fu9 (q4194297 n n))) _ _ _ _ _ _ _ _) rfl)
theorem q524273 (n m262137 x0 x1 x2 x3 x4 x5 x6 x7 x8) : I n 524273 [m262137] (s524273 x0 x1 x2 x3 x4 x5 x6 x7 x8) = l524273 n (fun y0 y1 y2 y3 y4 y5 y6 y7 y8 => I n 262137 [m262137] (s262137 y0 y1 y2 y3 y4 y5 y6 y7 y8)) x0 x1 x2 x3 x4 x5 x6 x7 x8 := e524273.trans (Eq.trans (cf9 (congr (congrArg (b524273 _) (fu8 (q65535 n))) rfl) _ _ _ _ _ _ _ _ _) rfl)
theorem q262137 (n m) : ∀ x0 x1 x2 x3 x4 x5 x6 x7 x8, I n 262137 [m] (s262137 x0 x1 x2 x3 x4 x5 x6 x7 x8) = l262137 n m x0 x1 x2 x3 x4 x5 x6 x7 x8 := by
  induction m with
  | zero => intros; rfl
  | succ m ih =>
    intros
    exact e262137.trans (Eq.trans (cf9 (congr (congrArg (b262137 _) (fu8 (q65535 n))) ((fu9 (q524273 n m)).trans (by rw [show (fun y0 y1 y2 y3 y4 y5 y6 y7 y8 => I n 262137 [m] (s262137 y0 y1 y2 y3 y4 y5 y6 y7 y8)) = _ from (fu9 (ih))]))) _ _ _ _ _ _ _ _ _) rfl)
theorem ok {n  a0 a1 a2 r} (h : f n a0 a1 a2 = some r) : CallD Tryd.prog HW 132 [.int .u64 a0, .int .u64 a1, .int .u64 a2] (sg.enc r) :=
  fun_some hwS Tryd.func132 (by kernel_rfl) (body := code) (by kernel_rfl) tys_ok (c := cfg bits_LeadingZeros64.f) (orCall_ok bits_LeadingZeros64.call_ok noCall_ok) noW_ok (by kernel_rfl) (by kernel_rfl) (Nat.le_of_ble_eq_true (by kernel_rfl)) (Eq.trans ((e0 (n := n)).trans (Eq.trans (cf3 (congrArg (b0 _) (fu9 (q262137 n n))) _ _ _) rfl)) h)
noncomputable def call {α : Type} (g : T3) (ds : List D) (K : List D→Ω α) : Ω α := match ds with
  | [.int .u64 a0, .int .u64 a1, .int .u64 a2] => (g a0 a1 a2).bind fun r => K (sg.enc r)
  | _ => none
theorem call_ok {α : Type} {n : Nat} : COK Tryd.prog HW 132 (call (α := α) (f n)) := fun _ _ _ h => by
  unfold call at h; split at h
  · exact cok h fun _ => ok
  · cases h
end bits_Div64
/-! ### nat_DivSmall: function 59 -/
namespace nat_DivSmall
noncomputable def b0 (c117 : T4) (c118 : T1) (c120 : T5) (c132 : T3) (k2037 : T54) (l0 : Λ) (a1 : Int) : Ω (Λ × Int × Int) := ((c117 l0).bind fun t1 => (if t1 = true then some (([] : Λ), 0, 2) else (if a1 = 0 then some (([] : Λ), 0, 4) else ((c118 l0).bind fun t2 => (if 0 ≤ t2 then (if t2 ≤ (ln l0) then ((some (l0.take t2.toNat) : Ω (Λ)).bind fun y3 => (if 0 ≤ (ln y3) then (if (ln y3).toNat ≤ 35184372088832 then k2037 y3 a1 0 (wrap64 ((ln y3) - 1)) (List.replicate (ln y3).toNat (0 : Int)) else none) else none)) else none) else none)))))
noncomputable def b255 (c117 : T4) (c118 : T1) (c120 : T5) (c132 : T3) (x0 : Int) (x1 : Λ) : Ω (Λ × Int × Int) := ((c120 x1).bind fun t1 => some (t1.1, x0, t1.2))
noncomputable def b2037 (c117 : T4) (c118 : T1) (c120 : T5) (c132 : T3) (k255 : Int→Λ→Ω (Λ × Int × Int)) (k2037 : T54) (x0 : Λ) (x1 x2 x3 : Int) (x4 : Λ) : Ω (Λ × Int × Int) := (if x3 ≥ 0 then (if 0 ≤ x3 then (if x3 < (ln x0) then ((c132 x2 (rd x0 x3) x1).bind fun t1 => (if 0 ≤ x3 then (if x3 < (ln x4) then k2037 x0 x1 t1.2 (wrap64 (x3 - 1)) (x4.set (x3 : Int).toNat t1.1) else none) else none)) else none) else none) else k255 x2 x4)
noncomputable def l255 (n : Nat) (x0 : Int) (x1 : Λ) : Ω (Λ × Int × Int) := b255 (nat_big.f n) (nat_size.f n) (nat_cut.f n) (bits_Div64.f n) x0 x1
noncomputable def l2037 (n : Nat) : Nat→Λ→Int→Int→Int→Λ→Ω (Λ × Int × Int)
  | 0, _, _, _, _, _ => none
  | m + 1, x0, x1, x2, x3, x4 => b2037 (nat_big.f n) (nat_size.f n) (nat_cut.f n) (bits_Div64.f n) (l255 n) (l2037 n m) x0 x1 x2 x3 x4
noncomputable def f (n : Nat) (l0 : Λ) (a1 : Int) : Ω (Λ × Int × Int) := b0 (nat_big.f n) (nat_size.f n) (nat_cut.f n) (bits_Div64.f n) (l2037 n n) l0 a1
noncomputable def sg : Sig (Λ × Int × Int) := s2 (sRow .u64) (s2 (sInt .u64) (s1 (sInt .i64)))
noncomputable def code : Code := (Tryd.f59.body).getD .skip
noncomputable def cfg (c117 : T4) (c118 : T1) (c120 : T5) (c132 : T3) : Cfg (Λ × Int × Int) := { T := tys, call := orCall 117 (nat_big.call c117) (orCall 118 (nat_size.call c118) (orCall 120 (nat_cut.call c120) (orCall 132 (bits_Div64.call c132) (noCall)))) }
noncomputable def cuts : List (Nat × List (Nat × Want)) := [(255, [(7, .keep), (8, .keep)]), (2037, [(0, .keep), (1, .keep), (7, .keep), (8, .keep), (9, .keep)])]
noncomputable def s255 (x0 : Int) (x1 : Λ) : ASt := ⟨[(7, .own 0), (8, .int .u64 x0)], [.ints 25 .u64 x1]⟩
noncomputable def s2037 (x0 : Λ) (x1 x2 x3 : Int) (x4 : Λ) : ASt := ⟨[(0, .ro .u64 x0), (1, .int .u64 x1), (7, .own 0), (8, .int .u64 x2), (9, .int .i64 x3)], [.ints 25 .u64 x4]⟩
noncomputable def A (c117 : T4) (c118 : T1) (c120 : T5) (c132 : T3) (n : Nat) (J : Jt (Λ × Int × Int)) (q : Nat) (ms : List Nat) : ASt→Ω (Λ × Int × Int) := acont (cfg c117 c118 c120 c132) J cuts n q code 1 ms (aend (cfg c117 c118 c120 c132) Tryd.f59.results.toList [false, false, false] sg.out)
theorem e0 {c117 c118 c120 c132 n J l0 a1} : afun (cfg c117 c118 c120 c132) J cuts n code Tryd.f59.results.toList [false, false, false] [.ro .u64 l0, .int .u64 a1] sg.out = b0 c117 c118 c120 c132 (fun y0 y1 y2 y3 y4 => J 2037 (A c117 c118 c120 c132 n J 2037 [n]) (s2037 y0 y1 y2 y3 y4)) l0 a1 := by kernel_rfl
theorem e255 {c117 c118 c120 c132 n J x0 x1} : A c117 c118 c120 c132 n J 255 [] (s255 x0 x1) = b255 c117 c118 c120 c132 x0 x1 := by kernel_rfl
theorem e2037 {c117 c118 c120 c132 n J m x0 x1 x2 x3 x4} : A c117 c118 c120 c132 n J 2037 [m + 1] (s2037 x0 x1 x2 x3 x4) = b2037 c117 c118 c120 c132 (fun y0 y1 => J 255 (A c117 c118 c120 c132 n J 255 []) (s255 y0 y1)) (fun y0 y1 y2 y3 y4 => J 2037 (A c117 c118 c120 c132 n J 2037 [m]) (s2037 y0 y1 y2 y3 y4)) x0 x1 x2 x3 x4 := by kernel_rfl
noncomputable abbrev I (n : Nat) := A (nat_big.f n) (nat_size.f n) (nat_cut.f n) (bits_Div64.f n) n idJ
theorem q255 (n x0 x1) : I n 255 [] (s255 x0 x1) = l255 n x0 x1 := e255
theorem q2037 (n m) : ∀ x0 x1 x2 x3 x4, I n 2037 [m] (s2037 x0 x1 x2 x3 x4) = l2037 n m x0 x1 x2 x3 x4 := by
  induction m with
  | zero => intros; rfl
  | succ m ih =>
    intros
    exact e2037.trans (Eq.trans (cf5 (congr (congrArg (b2037 _ _ _ _) (fu2 (q255 n))) (fu5 (ih))) _ _ _ _ _) rfl)
theorem ok {n  l0 a1 r} (h : f n l0 a1 = some r) : CallD Tryd.prog HW 59 [.ro .u64 l0, .int .u64 a1] (sg.enc r) :=
  fun_some hwS Tryd.func59 (by kernel_rfl) (body := code) (by kernel_rfl) tys_ok (c := cfg (nat_big.f n) (nat_size.f n) (nat_cut.f n) (bits_Div64.f n)) (orCall_ok (nat_big.call_ok (n := n)) (orCall_ok (nat_size.call_ok (n := n)) (orCall_ok (nat_cut.call_ok (n := n)) (orCall_ok (bits_Div64.call_ok (n := n)) noCall_ok)))) noW_ok (by kernel_rfl) (by kernel_rfl) (Nat.le_of_ble_eq_true (by kernel_rfl)) (Eq.trans ((e0 (n := n)).trans (Eq.trans (cf2 (congrArg (b0 _ _ _ _) (fu5 (q2037 n n))) _ _) rfl)) h)
noncomputable def call {α : Type} (g : T42) (ds : List D) (K : List D→Ω α) : Ω α := match ds with
  | [.ro .u64 l0, .int .u64 a1] => (g l0 a1).bind fun r => K (sg.enc r)
  | _ => none
theorem call_ok {α : Type} {n : Nat} : COK Tryd.prog HW 59 (call (α := α) (f n)) := fun _ _ _ h => by
  unfold call at h; split at h
  · exact cok h fun _ => ok
  · cases h
end nat_DivSmall
/-! ### nat_FromUint: function 51 -/
namespace nat_FromUint
noncomputable def b0 (a0 : Int) : Ω (Λ) := (if a0 = 0 then some ([] : Λ) else some [a0])
noncomputable def f (a0 : Int) : Ω (Λ) := b0 a0
noncomputable def sg : Sig (Λ) := s1 (sRow .u64)
noncomputable def code : Code := (Tryd.f51.body).getD .skip
noncomputable def cfg : Cfg (Λ) := { T := tys, call := noCall }
noncomputable def cuts : List (Nat × List (Nat × Want)) := []
theorem e0 {n J a0} : afun cfg J cuts n code Tryd.f51.results.toList [false] [.int .u64 a0] sg.out = b0 a0 := by kernel_rfl
theorem ok {a0 r} (h : f a0 = some r) : CallD Tryd.prog HW 51 [.int .u64 a0] (sg.enc r) :=
  fun_some hwS Tryd.func51 (by kernel_rfl) (body := code) (by kernel_rfl) tys_ok (c := cfg) noCall_ok noW_ok (by kernel_rfl) (by kernel_rfl) (Nat.le_of_ble_eq_true (by kernel_rfl)) (Eq.trans ((e0 (n := 0))) h)
noncomputable def call {α : Type} (g : T22) (ds : List D) (K : List D→Ω α) : Ω α := match ds with
  | [.int .u64 a0] => (g a0).bind fun r => K (sg.enc r)
  | _ => none
theorem call_ok {α : Type} : COK Tryd.prog HW 51 (call (α := α) f) := fun _ _ _ h => by
  unfold call at h; split at h
  · exact cok h fun _ => ok
  · cases h
end nat_FromUint
/-! ### quot_raised: function 157 -/
namespace quot_raised
noncomputable def b0 (k117 : T55) (l0 : Λ) (a1 a2 : Int) : Ω (Λ) := (if 0 ≤ a2 then (if a2.toNat ≤ 35184372088832 then k117 a1 a2 l0 (ln l0) 0 (List.replicate a2.toNat (0 : Int)) else none) else none)
noncomputable def b117 (k117 : T55) (x0 x1 : Int) (x2 : Λ) (x3 x4 : Int) (x5 : Λ) : Ω (Λ) := (if x4 < x3 then (if 0 ≤ x4 then (if x4 < (ln x2) then (if 0 ≤ x4 then (if x4 < (ln x5) then (if 0 ≤ (IntKind.u64.wrap x0) then (if 0 ≤ x4 then (if x4 < (ln x5) then (if (wrap64 (x4 + 1)) < x1 then (if x0 > 0 then (if 0 ≤ (IntKind.u64.wrap (wrap64 (64 - x0))) then (if 0 ≤ (wrap64 (x4 + 1)) then (if (wrap64 (x4 + 1)) < (ln (x5.set (x4 : Int).toNat (Go.bits .or .u64 (rd x5 x4) (shl .u64 (rd x2 x4) (IntKind.u64.wrap x0))))) then k117 x0 x1 x2 x3 (wrap64 (x4 + 1)) ((x5.set (x4 : Int).toNat (Go.bits .or .u64 (rd x5 x4) (shl .u64 (rd x2 x4) (IntKind.u64.wrap x0)))).set (wrap64 (x4 + 1) : Int).toNat (shr .u64 (rd x2 x4) (IntKind.u64.wrap (wrap64 (64 - x0))))) else none) else none) else none) else k117 x0 x1 x2 x3 (wrap64 (x4 + 1)) (x5.set (x4 : Int).toNat (Go.bits .or .u64 (rd x5 x4) (shl .u64 (rd x2 x4) (IntKind.u64.wrap x0))))) else k117 x0 x1 x2 x3 (wrap64 (x4 + 1)) (x5.set (x4 : Int).toNat (Go.bits .or .u64 (rd x5 x4) (shl .u64 (rd x2 x4) (IntKind.u64.wrap x0))))) else none) else none) else none) else none) else none) else none) else none) else some x5)
noncomputable def l117 (n : Nat) : Nat→Int→Int→Λ→Int→Int→Λ→Ω (Λ)
  | 0, _, _, _, _, _, _ => none
  | m + 1, x0, x1, x2, x3, x4, x5 => b117 (l117 n m) x0 x1 x2 x3 x4 x5
noncomputable def f (n : Nat) (l0 : Λ) (a1 a2 : Int) : Ω (Λ) := b0 (l117 n n) l0 a1 a2
noncomputable def sg : Sig (Λ) := s1 (sOwn 25 .u64)
noncomputable def code : Code := (Tryd.f157.body).getD .skip
noncomputable def cfg : Cfg (Λ) := { T := tys, call := noCall }
noncomputable def cuts : List (Nat × List (Nat × Want)) := [(117, [(1, .keep), (2, .keep), (7, .keep), (12, .keep), (13, .keep), (14, .keep)])]
noncomputable def s117 (x0 x1 : Int) (x2 : Λ) (x3 x4 : Int) (x5 : Λ) : ASt := ⟨[(1, .int .i64 x0), (2, .int .i64 x1), (7, .own 0), (12, .ro .u64 x2), (13, .int .i64 x3), (14, .int .i64 x4)], [.ints 25 .u64 x5]⟩
noncomputable def A (n : Nat) (J : Jt (Λ)) (q : Nat) (ms : List Nat) : ASt→Ω (Λ) := acont cfg J cuts n q code 1 ms (aend cfg Tryd.f157.results.toList [true] sg.out)
theorem e0 {n J l0 a1 a2} : afun cfg J cuts n code Tryd.f157.results.toList [true] [.ro .u64 l0, .int .i64 a1, .int .i64 a2] sg.out = b0 (fun y0 y1 y2 y3 y4 y5 => J 117 (A n J 117 [n]) (s117 y0 y1 y2 y3 y4 y5)) l0 a1 a2 := by kernel_rfl
theorem e117 {n J m x0 x1 x2 x3 x4 x5} : A n J 117 [m + 1] (s117 x0 x1 x2 x3 x4 x5) = b117 (fun y0 y1 y2 y3 y4 y5 => J 117 (A n J 117 [m]) (s117 y0 y1 y2 y3 y4 y5)) x0 x1 x2 x3 x4 x5 := by kernel_rfl
noncomputable abbrev I (n : Nat) := A n idJ
theorem q117 (n m) : ∀ x0 x1 x2 x3 x4 x5, I n 117 [m] (s117 x0 x1 x2 x3 x4 x5) = l117 n m x0 x1 x2 x3 x4 x5 := by
  induction m with
  | zero => intros; rfl
  | succ m ih =>
    intros
    exact e117.trans (Eq.trans (cf6 (congrArg b117 (fu6 (ih))) _ _ _ _ _ _) rfl)
theorem ok {n  l0 a1 a2 r} (h : f n l0 a1 a2 = some r) : CallD Tryd.prog HW 157 [.ro .u64 l0, .int .i64 a1, .int .i64 a2] (sg.enc r) :=
  fun_some hwS Tryd.func157 (by kernel_rfl) (body := code) (by kernel_rfl) tys_ok (c := cfg) noCall_ok noW_ok (by kernel_rfl) (by kernel_rfl) (Nat.le_of_ble_eq_true (by kernel_rfl)) (Eq.trans ((e0 (n := n)).trans (Eq.trans (cf3 (congrArg b0 (fu6 (q117 n n))) _ _ _) rfl)) h)
noncomputable def call {α : Type} (g : T25) (ds : List D) (K : List D→Ω α) : Ω α := match ds with
  | [.ro .u64 l0, .int .i64 a1, .int .i64 a2] => (g l0 a1 a2).bind fun r => K (sg.enc r)
  | _ => none
theorem call_ok {α : Type} {n : Nat} : COK Tryd.prog HW 157 (call (α := α) (f n)) := fun _ _ _ h => by
  unfold call at h; split at h
  · exact cok h fun _ => ok
  · cases h
end quot_raised
/-! ### quot_guess: function 158 -/
namespace quot_guess
noncomputable def b0 (c132 : T3) (l0 l1 : Λ) : Ω (Int) := (if 0 ≤ (ln l1) then (if (ln l1) < (ln l0) then (if 0 ≤ (wrap64 ((ln l1) - 1)) then (if (wrap64 ((ln l1) - 1)) < (ln l1) then (if (rd l0 (ln l1)) ≥ (rd l1 (wrap64 ((ln l1) - 1))) then some 18446744073709551615 else (if 0 ≤ (ln l1) then (if (ln l1) < (ln l0) then (if 0 ≤ (wrap64 ((ln l1) - 1)) then (if (wrap64 ((ln l1) - 1)) < (ln l0) then (if 0 ≤ (wrap64 ((ln l1) - 1)) then (if (wrap64 ((ln l1) - 1)) < (ln l1) then ((c132 (rd l0 (ln l1)) (rd l0 (wrap64 ((ln l1) - 1))) (rd l1 (wrap64 ((ln l1) - 1)))).bind fun t1 => some t1.1) else none) else none) else none) else none) else none) else none)) else none) else none) else none) else none)
noncomputable def f (n : Nat) (l0 l1 : Λ) : Ω (Int) := b0 (bits_Div64.f n) l0 l1
noncomputable def sg : Sig (Int) := s1 (sInt .u64)
noncomputable def code : Code := (Tryd.f158.body).getD .skip
noncomputable def cfg (c132 : T3) : Cfg (Int) := { T := tys, call := orCall 132 (bits_Div64.call c132) (noCall) }
noncomputable def cuts : List (Nat × List (Nat × Want)) := []
theorem e0 {c132 n J l0 l1} : afun (cfg c132) J cuts n code Tryd.f158.results.toList [false] [.ro .u64 l0, .ro .u64 l1] sg.out = b0 c132 l0 l1 := by kernel_rfl
theorem ok {n  l0 l1 r} (h : f n l0 l1 = some r) : CallD Tryd.prog HW 158 [.ro .u64 l0, .ro .u64 l1] (sg.enc r) :=
  fun_some hwS Tryd.func158 (by kernel_rfl) (body := code) (by kernel_rfl) tys_ok (c := cfg (bits_Div64.f n)) (orCall_ok (bits_Div64.call_ok (n := n)) noCall_ok) noW_ok (by kernel_rfl) (by kernel_rfl) (Nat.le_of_ble_eq_true (by kernel_rfl)) (Eq.trans ((e0 (n := n))) h)
noncomputable def call {α : Type} (g : T7) (ds : List D) (K : List D→Ω α) : Ω α := match ds with
  | [.ro .u64 l0, .ro .u64 l1] => (g l0 l1).bind fun r => K (sg.enc r)
  | _ => none
theorem call_ok {α : Type} {n : Nat} : COK Tryd.prog HW 158 (call (α := α) (f n)) := fun _ _ _ h => by
  unfold call at h; split at h
  · exact cok h fun _ => ok
  · cases h
end quot_guess
/-! ### bits_Add64: function 119 -/
namespace bits_Add64
def f (a0 a1 a2 : Int) : Ω (Int × Int) := if 0 ≤ a0 ∧ 0 ≤ a1 ∧ 0 ≤ a2 ∧ a2 ≤ 1 then some ((a0 + a1 + a2) % 18446744073709551616, (a0 + a1 + a2) / 18446744073709551616) else none
def sg : Sig (Int × Int) := s2 (sInt .u64) (s1 (sInt .u64))
theorem ok {a0 a1 a2 : Int} {r : Int × Int} (h : f a0 a1 a2 = some r) : CallD Tryd.prog HW 119 [.int .u64 a0, .int .u64 a1, .int .u64 a2] (sg.enc r) := by
  unfold f at h
  split at h
  · rename_i hh
    obtain rfl := Option.some.inj h
    exact calld_scal rfl rfl fun w _ => .inr ⟨_, _, run_add64' Tryd.func119 (by kernel_rfl) (by kernel_rfl) (by kernel_rfl) (by kernel_rfl) a0 a1 a2 hh.1 hh.2.1 hh.2.2.1 hh.2.2.2 w, rfl, rfl⟩
  · cases h
noncomputable def call {α : Type} (g : T3) (ds : List D) (K : List D→Ω α) : Ω α := match ds with
  | [.int .u64 a0, .int .u64 a1, .int .u64 a2] => (g a0 a1 a2).bind fun r => K (sg.enc r)
  | _ => none
theorem call_ok {α : Type} : COK Tryd.prog HW 119 (call (α := α) f) := fun _ _ _ h => by
  unfold call at h; split at h
  · exact cok h fun _ => ok
  · cases h
end bits_Add64
/-! ### bits_Sub64: function 131 -/
namespace bits_Sub64
def f (a0 a1 a2 : Int) : Ω (Int × Int) := if 0 ≤ a0 ∧ 0 ≤ a1 ∧ a1 < 18446744073709551616 ∧ 0 ≤ a2 ∧ a2 ≤ 1 then some ((a0 - a1 - a2) % 18446744073709551616, if a0 < a1 + a2 then 1 else 0) else none
def sg : Sig (Int × Int) := s2 (sInt .u64) (s1 (sInt .u64))
theorem ok {a0 a1 a2 : Int} {r : Int × Int} (h : f a0 a1 a2 = some r) : CallD Tryd.prog HW 131 [.int .u64 a0, .int .u64 a1, .int .u64 a2] (sg.enc r) := by
  unfold f at h
  split at h
  · rename_i hh
    obtain rfl := Option.some.inj h
    exact calld_scal rfl rfl fun w _ => .inr ⟨_, _, run_sub64' Tryd.func131 (by kernel_rfl) (by kernel_rfl) (by kernel_rfl) (by kernel_rfl) a0 a1 a2 hh.1 hh.2.1 hh.2.2.1 hh.2.2.2.1 hh.2.2.2.2 w, rfl, rfl⟩
  · cases h
noncomputable def call {α : Type} (g : T3) (ds : List D) (K : List D→Ω α) : Ω α := match ds with
  | [.int .u64 a0, .int .u64 a1, .int .u64 a2] => (g a0 a1 a2).bind fun r => K (sg.enc r)
  | _ => none
theorem call_ok {α : Type} : COK Tryd.prog HW 131 (call (α := α) f) := fun _ _ _ h => by
  unfold call at h; split at h
  · exact cok h fun _ => ok
  · cases h
end bits_Sub64
/-! ### quot_takeOff: function 159 -/
namespace quot_takeOff
noncomputable def b0 (c119 : T3) (c121 : T10) (c131 : T3) (k117 : T56) (l0 l1 : Λ) (a2 : Int) : Ω (Λ × Bool) := k117 l1 a2 0 0 0 (ln l1) l0
noncomputable def b15 (c119 : T3) (c121 : T10) (c131 : T3) (x0 : Λ) (x1 x2 : Int) (x3 : Λ) : Ω (Λ × Bool) := (if 0 ≤ (ln x0) then (if (ln x0) < (ln x3) then ((c131 (rd x3 (ln x0)) x1 x2).bind fun t1 => (if 0 ≤ (ln x0) then (if (ln x0) < (ln x3) then some (x3.set ((ln x0) : Int).toNat t1.1, decide (¬ t1.2 = 0)) else none) else none)) else none) else none)
noncomputable def b117 (c119 : T3) (c121 : T10) (c131 : T3) (k15 : Λ→Int→Int→Λ→Ω (Λ × Bool)) (k117 : T56) (x0 : Λ) (x1 x2 x3 x4 x5 : Int) (x6 : Λ) : Ω (Λ × Bool) := (if x4 < x5 then (if 0 ≤ x4 then (if x4 < (ln x0) then ((c121 x1 (rd x0 x4)).bind fun t1 => ((c119 t1.2 x2 0).bind fun t2 => (if 0 ≤ x4 then (if x4 < (ln x6) then ((c131 (rd x6 x4) t2.1 x3).bind fun t3 => (if 0 ≤ x4 then (if x4 < (ln x6) then k117 x0 x1 (IntKind.u64.wrap (t1.1 + t2.2)) t3.2 (wrap64 (x4 + 1)) x5 (x6.set (x4 : Int).toNat t3.1) else none) else none)) else none) else none))) else none) else none) else k15 x0 x2 x3 x6)
noncomputable def l15 (n : Nat) (x0 : Λ) (x1 x2 : Int) (x3 : Λ) : Ω (Λ × Bool) := b15 bits_Add64.f bits_Mul64.f bits_Sub64.f x0 x1 x2 x3
noncomputable def l117 (n : Nat) : Nat→Λ→Int→Int→Int→Int→Int→Λ→Ω (Λ × Bool)
  | 0, _, _, _, _, _, _, _ => none
  | m + 1, x0, x1, x2, x3, x4, x5, x6 => b117 bits_Add64.f bits_Mul64.f bits_Sub64.f (l15 n) (l117 n m) x0 x1 x2 x3 x4 x5 x6
noncomputable def f (n : Nat) (l0 l1 : Λ) (a2 : Int) : Ω (Λ × Bool) := b0 bits_Add64.f bits_Mul64.f bits_Sub64.f (l117 n n) l0 l1 a2
noncomputable def sg : Sig (Bool) := s1 (sBool)
noncomputable def code : Code := (Tryd.f159.body).getD .skip
noncomputable def cfg (c119 : T3) (c121 : T10) (c131 : T3) : Cfg (Λ × Bool) := { T := tys, call := orCall 119 (bits_Add64.call c119) (orCall 121 (bits_Mul64.call c121) (orCall 131 (bits_Sub64.call c131) (noCall))) }
noncomputable def cuts : List (Nat × List (Nat × Want)) := [(15, [(0, .keep), (1, .keep), (7, .keep), (8, .keep)]), (117, [(0, .keep), (1, .keep), (2, .keep), (7, .keep), (8, .keep), (14, .keep), (15, .keep), (16, .keep)])]
noncomputable def s15 (x0 : Λ) (x1 x2 : Int) (x3 : Λ) : ASt := ⟨[(0, .own 0), (1, .ro .u64 x0), (7, .int .u64 x1), (8, .int .u64 x2)], [.bor .u64 x3]⟩
noncomputable def s117 (x0 : Λ) (x1 x2 x3 x4 x5 : Int) (x6 : Λ) : ASt := ⟨[(0, .own 0), (1, .ro .u64 x0), (2, .int .u64 x1), (7, .int .u64 x2), (8, .int .u64 x3), (14, .ro .u64 x0), (15, .int .i64 x5), (16, .int .i64 x4)], [.bor .u64 x6]⟩
noncomputable def A (c119 : T3) (c121 : T10) (c131 : T3) (n : Nat) (J : Jt (Λ × Bool)) (q : Nat) (ms : List Nat) : ASt→Ω (Λ × Bool) := acont (cfg c119 c121 c131) J cuts n q code 1 ms (aendw (cfg c119 c121 c131) Tryd.f159.results.toList (sgw sg))
theorem e0 (c119 : T3) (c121 : T10) (c131 : T3) (n : Nat) (J : Jt (Λ × Bool)) (l0 l1 : Λ) (a2 : Int) : afunw (cfg c119 c121 c131) J cuts n code Tryd.f159.results.toList l0 [.ro .u64 l1, .int .u64 a2] (sgw sg) = b0 c119 c121 c131 (fun y0 y1 y2 y3 y4 y5 y6 => J 117 (A c119 c121 c131 n J 117 [n]) (s117 y0 y1 y2 y3 y4 y5 y6)) l0 l1 a2 := by kernel_rfl
theorem e15 (c119 : T3) (c121 : T10) (c131 : T3) (n : Nat) (J : Jt (Λ × Bool)) (x0 : Λ) (x1 x2 : Int) (x3 : Λ) : A c119 c121 c131 n J 15 [] (s15 x0 x1 x2 x3) = b15 c119 c121 c131 x0 x1 x2 x3 := by kernel_rfl
theorem e117 (c119 : T3) (c121 : T10) (c131 : T3) (n : Nat) (J : Jt (Λ × Bool)) (m : Nat) (x0 : Λ) (x1 x2 x3 x4 x5 : Int) (x6 : Λ) : A c119 c121 c131 n J 117 [m + 1] (s117 x0 x1 x2 x3 x4 x5 x6) = b117 c119 c121 c131 (fun y0 y1 y2 y3 => J 15 (A c119 c121 c131 n J 15 []) (s15 y0 y1 y2 y3)) (fun y0 y1 y2 y3 y4 y5 y6 => J 117 (A c119 c121 c131 n J 117 [m]) (s117 y0 y1 y2 y3 y4 y5 y6)) x0 x1 x2 x3 x4 x5 x6 := by kernel_rfl
theorem q15 (n : Nat) (x0 : Λ) (x1 x2 : Int) (x3 : Λ) : A bits_Add64.f bits_Mul64.f bits_Sub64.f n idJ 15 [] (s15 x0 x1 x2 x3) = l15 n x0 x1 x2 x3 := (e15 bits_Add64.f bits_Mul64.f bits_Sub64.f n idJ x0 x1 x2 x3).trans (rfl)
theorem q117 (n m : Nat) : ∀ (x0 : Λ) (x1 x2 x3 x4 x5 : Int) (x6 : Λ), A bits_Add64.f bits_Mul64.f bits_Sub64.f n idJ 117 [m] (s117 x0 x1 x2 x3 x4 x5 x6) = l117 n m x0 x1 x2 x3 x4 x5 x6 := by
  induction m with
  | zero => intros; rfl
  | succ m ih =>
    intro x0 x1 x2 x3 x4 x5 x6
    refine (e117 bits_Add64.f bits_Mul64.f bits_Sub64.f n idJ m x0 x1 x2 x3 x4 x5 x6).trans ?_
    exact congrFun (congrFun (congrFun (congrFun (congrFun (congrFun (congrFun (congr (congrArg (b117 bits_Add64.f bits_Mul64.f bits_Sub64.f) (funext fun y0 => (funext fun y1 => (funext fun y2 => (funext fun y3 => q15 n y0 y1 y2 y3))))) (funext fun y0 => (funext fun y1 => (funext fun y2 => (funext fun y3 => (funext fun y4 => (funext fun y5 => (funext fun y6 => ih y0 y1 y2 y3 y4 y5 y6)))))))) x0) x1) x2) x3) x4) x5) x6
theorem eq (n : Nat) (l0 l1 : Λ) (a2 : Int) : afunw (cfg bits_Add64.f bits_Mul64.f bits_Sub64.f) idJ cuts n code Tryd.f159.results.toList l0 [.ro .u64 l1, .int .u64 a2] (sgw sg) = f n l0 l1 a2 := (e0 bits_Add64.f bits_Mul64.f bits_Sub64.f n idJ l0 l1 a2).trans (congrFun (congrFun (congrFun (congrArg (b0 bits_Add64.f bits_Mul64.f bits_Sub64.f) (funext fun y0 => (funext fun y1 => (funext fun y2 => (funext fun y3 => (funext fun y4 => (funext fun y5 => (funext fun y6 => q117 n n y0 y1 y2 y3 y4 y5 y6)))))))) l0) l1) a2)
theorem ok {n : Nat} {l0 : Λ} {l1 : Λ} {a2 : Int} {r : Λ × Bool} (h : f n l0 l1 a2 = some r) : CallW Tryd.prog HW 159 l0 [.ro .u64 l1, .int .u64 a2] r.1 (sg.enc r.2) :=
  funw_some Tryd.func159 (by kernel_rfl) (body := code) (by kernel_rfl) tys_ok (c := cfg bits_Add64.f bits_Mul64.f bits_Sub64.f) (orCall_ok bits_Add64.call_ok (orCall_ok bits_Mul64.call_ok (orCall_ok bits_Sub64.call_ok noCall_ok))) noW_ok (by kernel_rfl) (by kernel_rfl) (Nat.le_of_ble_eq_true (by kernel_rfl)) ((eq n l0 l1 a2).trans h)
noncomputable def call {α : Type} (g : T28) (l0 : Λ) (ds : List D) (K : Λ→List D→Ω α) : Ω α := match ds with
  | [.ro .u64 l1, .int .u64 a2] => (g l0 l1 a2).bind fun r => K r.1 (sg.enc r.2)
  | _ => none
theorem call_ok {α : Type} {n : Nat} (l : Λ) (ds : List D) (K : Λ→List D→Ω α) (r : α) (h : call (f n) l ds K = some r) : ∃ l' rs, K l' rs = some r ∧ CallW Tryd.prog HW 159 l ds l' rs := by
  unfold call at h
  split at h
  · obtain ⟨x, hx, hk⟩ := Option.bind_eq_some_iff.1 h
    exact ⟨_, _, hk, ok (n := n) hx⟩
  · cases h
end quot_takeOff
/-! ### quot_putBack: function 160 -/
namespace quot_putBack
noncomputable def b0 (c119 : T3) (k117 : T57) (l0 l1 : Λ) : Ω (Λ × Bool) := k117 l1 0 0 (ln l1) l0
noncomputable def b15 (c119 : T3) (x0 : Λ) (x1 : Int) (x2 : Λ) : Ω (Λ × Bool) := (if 0 ≤ (ln x0) then (if (ln x0) < (ln x2) then ((c119 (rd x2 (ln x0)) 0 x1).bind fun t1 => (if 0 ≤ (ln x0) then (if (ln x0) < (ln x2) then some (x2.set ((ln x0) : Int).toNat t1.1, decide (¬ t1.2 = 0)) else none) else none)) else none) else none)
noncomputable def b117 (c119 : T3) (k15 : Λ→Int→Λ→Ω (Λ × Bool)) (k117 : T57) (x0 : Λ) (x1 x2 x3 : Int) (x4 : Λ) : Ω (Λ × Bool) := (if x2 < x3 then (if 0 ≤ x2 then (if x2 < (ln x0) then (if 0 ≤ x2 then (if x2 < (ln x4) then ((c119 (rd x4 x2) (rd x0 x2) x1).bind fun t1 => (if 0 ≤ x2 then (if x2 < (ln x4) then k117 x0 t1.2 (wrap64 (x2 + 1)) x3 (x4.set (x2 : Int).toNat t1.1) else none) else none)) else none) else none) else none) else none) else k15 x0 x1 x4)
noncomputable def l15 (n : Nat) (x0 : Λ) (x1 : Int) (x2 : Λ) : Ω (Λ × Bool) := b15 bits_Add64.f x0 x1 x2
noncomputable def l117 (n : Nat) : Nat→Λ→Int→Int→Int→Λ→Ω (Λ × Bool)
  | 0, _, _, _, _, _ => none
  | m + 1, x0, x1, x2, x3, x4 => b117 bits_Add64.f (l15 n) (l117 n m) x0 x1 x2 x3 x4
noncomputable def f (n : Nat) (l0 l1 : Λ) : Ω (Λ × Bool) := b0 bits_Add64.f (l117 n n) l0 l1
noncomputable def sg : Sig (Bool) := s1 (sBool)
noncomputable def code : Code := (Tryd.f160.body).getD .skip
noncomputable def cfg (c119 : T3) : Cfg (Λ × Bool) := { T := tys, call := orCall 119 (bits_Add64.call c119) (noCall) }
noncomputable def cuts : List (Nat × List (Nat × Want)) := [(15, [(0, .keep), (1, .keep), (5, .keep)]), (117, [(0, .keep), (1, .keep), (5, .keep), (8, .keep), (9, .keep), (10, .keep)])]
noncomputable def s15 (x0 : Λ) (x1 : Int) (x2 : Λ) : ASt := ⟨[(0, .own 0), (1, .ro .u64 x0), (5, .int .u64 x1)], [.bor .u64 x2]⟩
noncomputable def s117 (x0 : Λ) (x1 x2 x3 : Int) (x4 : Λ) : ASt := ⟨[(0, .own 0), (1, .ro .u64 x0), (5, .int .u64 x1), (8, .ro .u64 x0), (9, .int .i64 x3), (10, .int .i64 x2)], [.bor .u64 x4]⟩
noncomputable def A (c119 : T3) (n : Nat) (J : Jt (Λ × Bool)) (q : Nat) (ms : List Nat) : ASt→Ω (Λ × Bool) := acont (cfg c119) J cuts n q code 1 ms (aendw (cfg c119) Tryd.f160.results.toList (sgw sg))
theorem e0 (c119 : T3) (n : Nat) (J : Jt (Λ × Bool)) (l0 l1 : Λ) : afunw (cfg c119) J cuts n code Tryd.f160.results.toList l0 [.ro .u64 l1] (sgw sg) = b0 c119 (fun y0 y1 y2 y3 y4 => J 117 (A c119 n J 117 [n]) (s117 y0 y1 y2 y3 y4)) l0 l1 := by kernel_rfl
theorem e15 (c119 : T3) (n : Nat) (J : Jt (Λ × Bool)) (x0 : Λ) (x1 : Int) (x2 : Λ) : A c119 n J 15 [] (s15 x0 x1 x2) = b15 c119 x0 x1 x2 := by kernel_rfl
theorem e117 (c119 : T3) (n : Nat) (J : Jt (Λ × Bool)) (m : Nat) (x0 : Λ) (x1 x2 x3 : Int) (x4 : Λ) : A c119 n J 117 [m + 1] (s117 x0 x1 x2 x3 x4) = b117 c119 (fun y0 y1 y2 => J 15 (A c119 n J 15 []) (s15 y0 y1 y2)) (fun y0 y1 y2 y3 y4 => J 117 (A c119 n J 117 [m]) (s117 y0 y1 y2 y3 y4)) x0 x1 x2 x3 x4 := by kernel_rfl
theorem q15 (n : Nat) (x0 : Λ) (x1 : Int) (x2 : Λ) : A bits_Add64.f n idJ 15 [] (s15 x0 x1 x2) = l15 n x0 x1 x2 := (e15 bits_Add64.f n idJ x0 x1 x2).trans (rfl)
theorem q117 (n m : Nat) : ∀ (x0 : Λ) (x1 x2 x3 : Int) (x4 : Λ), A bits_Add64.f n idJ 117 [m] (s117 x0 x1 x2 x3 x4) = l117 n m x0 x1 x2 x3 x4 := by
  induction m with
  | zero => intros; rfl
  | succ m ih =>
    intro x0 x1 x2 x3 x4
    refine (e117 bits_Add64.f n idJ m x0 x1 x2 x3 x4).trans ?_
    exact congrFun (congrFun (congrFun (congrFun (congrFun (congr (congrArg (b117 bits_Add64.f) (funext fun y0 => (funext fun y1 => (funext fun y2 => q15 n y0 y1 y2)))) (funext fun y0 => (funext fun y1 => (funext fun y2 => (funext fun y3 => (funext fun y4 => ih y0 y1 y2 y3 y4)))))) x0) x1) x2) x3) x4
theorem eq (n : Nat) (l0 l1 : Λ) : afunw (cfg bits_Add64.f) idJ cuts n code Tryd.f160.results.toList l0 [.ro .u64 l1] (sgw sg) = f n l0 l1 := (e0 bits_Add64.f n idJ l0 l1).trans (congrFun (congrFun (congrArg (b0 bits_Add64.f) (funext fun y0 => (funext fun y1 => (funext fun y2 => (funext fun y3 => (funext fun y4 => q117 n n y0 y1 y2 y3 y4)))))) l0) l1)
theorem ok {n : Nat} {l0 : Λ} {l1 : Λ} {r : Λ × Bool} (h : f n l0 l1 = some r) : CallW Tryd.prog HW 160 l0 [.ro .u64 l1] r.1 (sg.enc r.2) :=
  funw_some Tryd.func160 (by kernel_rfl) (body := code) (by kernel_rfl) tys_ok (c := cfg bits_Add64.f) (orCall_ok bits_Add64.call_ok noCall_ok) noW_ok (by kernel_rfl) (by kernel_rfl) (Nat.le_of_ble_eq_true (by kernel_rfl)) ((eq n l0 l1).trans h)
noncomputable def call {α : Type} (g : T29) (l0 : Λ) (ds : List D) (K : Λ→List D→Ω α) : Ω α := match ds with
  | [.ro .u64 l1] => (g l0 l1).bind fun r => K r.1 (sg.enc r.2)
  | _ => none
theorem call_ok {α : Type} {n : Nat} (l : Λ) (ds : List D) (K : Λ→List D→Ω α) (r : α) (h : call (f n) l ds K = some r) : ∃ l' rs, K l' rs = some r ∧ CallW Tryd.prog HW 160 l ds l' rs := by
  unfold call at h
  split at h
  · obtain ⟨x, hx, hk⟩ := Option.bind_eq_some_iff.1 h
    exact ⟨_, _, hk, ok (n := n) hx⟩
  · cases h
end quot_putBack
/-! ### quot_long: function 135 -/
namespace quot_long
noncomputable def b0 (c50 : T2) (c61 : T16) (c155 : T0) (c157 : T25) (c158 : T7) (c159 : T28) (c160 : T29) (k7157 : T43) (l0 l1 : Λ) : Ω (Λ × Λ) := (if 0 ≤ (wrap64 ((ln l1) - 1)) then (if (wrap64 ((ln l1) - 1)) < (ln l1) then ((c155 (rd l1 (wrap64 ((ln l1) - 1)))).bind fun t1 => ((c157 l1 t1 (ln l1)).bind fun t2 => ((c157 l0 t1 (wrap64 ((ln l0) + 1))).bind fun t3 => (if 0 ≤ (wrap64 ((wrap64 ((ln l0) - (ln l1))) + 1)) then (if (wrap64 ((wrap64 ((ln l0) - (ln l1))) + 1)).toNat ≤ 35184372088832 then k7157 (ln l1) t1 (wrap64 ((ln (List.replicate (wrap64 ((wrap64 ((ln l0) - (ln l1))) + 1)).toNat (0 : Int))) - 1)) t2 t3 (List.replicate (wrap64 ((wrap64 ((ln l0) - (ln l1))) + 1)).toNat (0 : Int)) else none) else none)))) else none) else none)
noncomputable def b895 (c50 : T2) (c61 : T16) (c155 : T0) (c157 : T25) (c158 : T7) (c159 : T28) (c160 : T29) (x0 x1 : Int) (x2 x3 : Λ) : Ω (Λ × Λ) := (if 0 ≤ x0 then (if x0 ≤ (ln x2) then ((c61 ((x2.take (x0 : Int).toNat).drop 0) x1).bind fun t1 => ((c50 x3).bind fun t2 => some (t2, t1.1))) else none) else none)
noncomputable def b7157 (c50 : T2) (c61 : T16) (c155 : T0) (c157 : T25) (c158 : T7) (c159 : T28) (c160 : T29) (k895 : Int→Int→Λ→Λ→Ω (Λ × Λ)) (k1832093 : T58) (x0 x1 x2 : Int) (x3 x4 x5 : Λ) : Ω (Λ × Λ) := (if x2 ≥ 0 then (if 0 ≤ (wrap64 ((wrap64 (x2 + x0)) + 1)) then (if (wrap64 ((wrap64 (x2 + x0)) + 1)) ≤ (ln x4) then (if 0 ≤ x2 then (if x2 ≤ (wrap64 ((wrap64 (x2 + x0)) + 1)) then ((c158 ((x4.take (wrap64 ((wrap64 (x2 + x0)) + 1) : Int).toNat).drop (x2 : Int).toNat) x3).bind fun t1 => (if x2 < (wrap64 ((wrap64 (x2 + x0)) + 1)) then ((c159 ((x4.take (wrap64 ((wrap64 (x2 + x0)) + 1) : Int).toNat).drop (x2 : Int).toNat) x3 t1).bind fun t2 => k1832093 x0 x1 x2 (wrap64 ((wrap64 (x2 + x0)) + 1)) t1 t2.2 x3 (x4.take (x2 : Int).toNat ++ t2.1 ++ x4.drop (wrap64 ((wrap64 (x2 + x0)) + 1) : Int).toNat) x5) else none)) else none) else none) else none) else none) else k895 x0 x1 x4 x5)
noncomputable def b1832093 (c50 : T2) (c61 : T16) (c155 : T0) (c157 : T25) (c158 : T7) (c159 : T28) (c160 : T29) (k7157 : T43) (k1832093 : T58) (x0 x1 x2 x3 x4 : Int) (x5 : Bool) (x6 x7 x8 : Λ) : Ω (Λ × Λ) := (if (!x5) = true then (if 0 ≤ x2 then (if x2 < (ln x8) then k7157 x0 x1 (wrap64 (x2 - 1)) x6 x7 (x8.set (x2 : Int).toNat x4) else none) else none) else (if x2 < x3 then ((c160 ((x7.take (x3 : Int).toNat).drop (x2 : Int).toNat) x6).bind fun t1 => k1832093 x0 x1 x2 x3 (IntKind.u64.wrap (x4 - 1)) (!t1.2) x6 (x7.take (x2 : Int).toNat ++ t1.1 ++ x7.drop (x3 : Int).toNat) x8) else none))
noncomputable def l895 (n : Nat) (x0 x1 : Int) (x2 x3 : Λ) : Ω (Λ × Λ) := b895 (nat_Trim.f n) (nat_Shr.f n) bits_LeadingZeros64.f (quot_raised.f n) (quot_guess.f n) (quot_takeOff.f n) (quot_putBack.f n) x0 x1 x2 x3
noncomputable def l1832093 (n : Nat) (k7157 : T43) : Nat→Int→Int→Int→Int→Int→Bool→Λ→Λ→Λ→Ω (Λ × Λ)
  | 0, _, _, _, _, _, _, _, _, _ => none
  | m + 1, x0, x1, x2, x3, x4, x5, x6, x7, x8 => b1832093 (nat_Trim.f n) (nat_Shr.f n) bits_LeadingZeros64.f (quot_raised.f n) (quot_guess.f n) (quot_takeOff.f n) (quot_putBack.f n) k7157 (l1832093 n k7157 m) x0 x1 x2 x3 x4 x5 x6 x7 x8
noncomputable def l7157 (n : Nat) : Nat→Int→Int→Int→Λ→Λ→Λ→Ω (Λ × Λ)
  | 0, _, _, _, _, _, _ => none
  | m + 1, x0, x1, x2, x3, x4, x5 => b7157 (nat_Trim.f n) (nat_Shr.f n) bits_LeadingZeros64.f (quot_raised.f n) (quot_guess.f n) (quot_takeOff.f n) (quot_putBack.f n) (l895 n) (l1832093 n (l7157 n m) n) x0 x1 x2 x3 x4 x5
noncomputable def f (n : Nat) (l0 l1 : Λ) : Ω (Λ × Λ) := b0 (nat_Trim.f n) (nat_Shr.f n) bits_LeadingZeros64.f (quot_raised.f n) (quot_guess.f n) (quot_takeOff.f n) (quot_putBack.f n) (l7157 n n) l0 l1
noncomputable def sg : Sig (Λ × Λ) := s2 (sRow .u64) (s1 (sRow .u64))
noncomputable def code : Code := (Tryd.f135.body).getD .skip
noncomputable def cfg (c50 : T2) (c61 : T16) (c155 : T0) (c157 : T25) (c158 : T7) (c159 : T28) (c160 : T29) : Cfg (Λ × Λ) := { T := tys, call := orCall 50 (nat_Trim.call c50) (orCall 61 (nat_Shr.call c61) (orCall 155 (bits_LeadingZeros64.call c155) (orCall 157 (quot_raised.call c157) (orCall 158 (quot_guess.call c158) (noCall))))), win := true, wr := [159, 160], callw := orW 159 (quot_takeOff.call c159) (orW 160 (quot_putBack.call c160) (noW)) }
noncomputable def cuts : List (Nat × List (Nat × Want)) := [(895, [(6, .keep), (7, .keep), (9, .keep), (10, .keep)]), (7157, [(6, .keep), (7, .keep), (8, .keep), (9, .keep), (10, .keep), (11, .keep)]), (1832093, [(6, .keep), (7, .keep), (8, .keep), (9, .keep), (10, .keep), (11, .keep), (12, .keep), (13, .keep), (14, .keep)])]
noncomputable def s895 (x0 x1 : Int) (x2 x3 : Λ) : ASt := ⟨[(6, .int .i64 x0), (7, .int .i64 x1), (9, .own 0), (10, .own 1)], [.ints 25 .u64 x2, .ints 25 .u64 x3]⟩
noncomputable def s7157 (x0 x1 x2 : Int) (x3 x4 x5 : Λ) : ASt := ⟨[(6, .int .i64 x0), (7, .int .i64 x1), (8, .own 0), (9, .own 1), (10, .own 2), (11, .int .i64 x2)], [.ints 25 .u64 x3, .ints 25 .u64 x4, .ints 25 .u64 x5]⟩
noncomputable def s1832093 (x0 x1 x2 x3 x4 : Int) (x5 : Bool) (x6 x7 x8 : Λ) : ASt := ⟨[(6, .int .i64 x0), (7, .int .i64 x1), (8, .own 0), (9, .own 1), (10, .own 2), (11, .int .i64 x2), (12, .win 1 x2 x3), (13, .int .u64 x4), (14, .bool x5)], [.ints 25 .u64 x6, .ints 25 .u64 x7, .ints 25 .u64 x8]⟩
noncomputable def A (c50 : T2) (c61 : T16) (c155 : T0) (c157 : T25) (c158 : T7) (c159 : T28) (c160 : T29) (n : Nat) (J : Jt (Λ × Λ)) (q : Nat) (ms : List Nat) : ASt→Ω (Λ × Λ) := acont (cfg c50 c61 c155 c157 c158 c159 c160) J cuts n q code 1 ms (aend (cfg c50 c61 c155 c157 c158 c159 c160) Tryd.f135.results.toList [false, false] sg.out)
theorem e0 {c50 c61 c155 c157 c158 c159 c160 n J l0 l1} : afun (cfg c50 c61 c155 c157 c158 c159 c160) J cuts n code Tryd.f135.results.toList [false, false] [.ro .u64 l0, .ro .u64 l1] sg.out = b0 c50 c61 c155 c157 c158 c159 c160 (fun y0 y1 y2 y3 y4 y5 => J 7157 (A c50 c61 c155 c157 c158 c159 c160 n J 7157 [n]) (s7157 y0 y1 y2 y3 y4 y5)) l0 l1 := by kernel_rfl
theorem e895 {c50 c61 c155 c157 c158 c159 c160 n J x0 x1 x2 x3} : A c50 c61 c155 c157 c158 c159 c160 n J 895 [] (s895 x0 x1 x2 x3) = b895 c50 c61 c155 c157 c158 c159 c160 x0 x1 x2 x3 := by kernel_rfl
theorem e7157 {c50 c61 c155 c157 c158 c159 c160 n J m x0 x1 x2 x3 x4 x5} : A c50 c61 c155 c157 c158 c159 c160 n J 7157 [m + 1] (s7157 x0 x1 x2 x3 x4 x5) = b7157 c50 c61 c155 c157 c158 c159 c160 (fun y0 y1 y2 y3 => J 895 (A c50 c61 c155 c157 c158 c159 c160 n J 895 []) (s895 y0 y1 y2 y3)) (fun y0 y1 y2 y3 y4 y5 y6 y7 y8 => J 1832093 (A c50 c61 c155 c157 c158 c159 c160 n J 1832093 [m, n]) (s1832093 y0 y1 y2 y3 y4 y5 y6 y7 y8)) x0 x1 x2 x3 x4 x5 := by kernel_rfl
theorem e1832093 {c50 c61 c155 c157 c158 c159 c160 n J m7157 m x0 x1 x2 x3 x4 x5 x6 x7 x8} : A c50 c61 c155 c157 c158 c159 c160 n J 1832093 [m7157, m + 1] (s1832093 x0 x1 x2 x3 x4 x5 x6 x7 x8) = b1832093 c50 c61 c155 c157 c158 c159 c160 (fun y0 y1 y2 y3 y4 y5 => J 7157 (A c50 c61 c155 c157 c158 c159 c160 n J 7157 [m7157]) (s7157 y0 y1 y2 y3 y4 y5)) (fun y0 y1 y2 y3 y4 y5 y6 y7 y8 => J 1832093 (A c50 c61 c155 c157 c158 c159 c160 n J 1832093 [m7157, m]) (s1832093 y0 y1 y2 y3 y4 y5 y6 y7 y8)) x0 x1 x2 x3 x4 x5 x6 x7 x8 := by kernel_rfl
noncomputable abbrev I (n : Nat) := A (nat_Trim.f n) (nat_Shr.f n) bits_LeadingZeros64.f (quot_raised.f n) (quot_guess.f n) (quot_takeOff.f n) (quot_putBack.f n) n idJ
theorem q895 (n x0 x1 x2 x3) : I n 895 [] (s895 x0 x1 x2 x3) = l895 n x0 x1 x2 x3 := e895
theorem q1832093 (n m7157 m) : ∀ x0 x1 x2 x3 x4 x5 x6 x7 x8, I n 1832093 [m7157, m] (s1832093 x0 x1 x2 x3 x4 x5 x6 x7 x8) = l1832093 n (fun y0 y1 y2 y3 y4 y5 => I n 7157 [m7157] (s7157 y0 y1 y2 y3 y4 y5)) m x0 x1 x2 x3 x4 x5 x6 x7 x8 := by
  induction m with
  | zero => intros; rfl
  | succ m ih =>
    intros
    exact e1832093.trans (Eq.trans (cf9 (congr (congrArg (b1832093 _ _ _ _ _ _ _) rfl) (fu9 (ih))) _ _ _ _ _ _ _ _ _) rfl)
theorem q7157 (n m) : ∀ x0 x1 x2 x3 x4 x5, I n 7157 [m] (s7157 x0 x1 x2 x3 x4 x5) = l7157 n m x0 x1 x2 x3 x4 x5 := by
  induction m with
  | zero => intros; rfl
  | succ m ih =>
    intros
    exact e7157.trans (Eq.trans (cf6 (congr (congrArg (b7157 _ _ _ _ _ _ _) (fu4 (q895 n))) ((fu9 (q1832093 n m n)).trans (by rw [show (fun y0 y1 y2 y3 y4 y5 => I n 7157 [m] (s7157 y0 y1 y2 y3 y4 y5)) = _ from (fu6 (ih))]))) _ _ _ _ _ _) rfl)
theorem ok {n  l0 l1 r} (h : f n l0 l1 = some r) : CallD Tryd.prog HW 135 [.ro .u64 l0, .ro .u64 l1] (sg.enc r) :=
  fun_some hwS Tryd.func135 (by kernel_rfl) (body := code) (by kernel_rfl) tys_ok (c := cfg (nat_Trim.f n) (nat_Shr.f n) bits_LeadingZeros64.f (quot_raised.f n) (quot_guess.f n) (quot_takeOff.f n) (quot_putBack.f n)) (orCall_ok (nat_Trim.call_ok (n := n)) (orCall_ok (nat_Shr.call_ok (n := n)) (orCall_ok bits_LeadingZeros64.call_ok (orCall_ok (quot_raised.call_ok (n := n)) (orCall_ok (quot_guess.call_ok (n := n)) noCall_ok))))) (orW_ok (quot_takeOff.call_ok (n := n)) (orW_ok (quot_putBack.call_ok (n := n)) noW_ok)) (by kernel_rfl) (by kernel_rfl) (Nat.le_of_ble_eq_true (by kernel_rfl)) (Eq.trans ((e0 (n := n)).trans (Eq.trans (cf2 (congrArg (b0 _ _ _ _ _ _ _) (fu6 (q7157 n n))) _ _) rfl)) h)
noncomputable def call {α : Type} (g : T44) (ds : List D) (K : List D→Ω α) : Ω α := match ds with
  | [.ro .u64 l0, .ro .u64 l1] => (g l0 l1).bind fun r => K (sg.enc r)
  | _ => none
theorem call_ok {α : Type} {n : Nat} : COK Tryd.prog HW 135 (call (α := α) (f n)) := fun _ _ _ h => by
  unfold call at h; split at h
  · exact cok h fun _ => ok
  · cases h
end quot_long
/-! ### quot_DivMod: function 65 -/
namespace quot_DivMod
noncomputable def b0 (c51 : T22) (c56 : T7) (c59 : T42) (c134 : T41) (c135 : T44) (l0 l1 : Λ) : Ω (Λ × Λ × Int) := ((c134 l0 4096).bind fun t1 => ((c134 l1 4096).bind fun t2 => (if (!t1.2) = true then some (([] : Λ), ([] : Λ), 2) else (if (!t2.2) = true then some (([] : Λ), ([] : Λ), 2) else (if (ln t2.1) = 0 then some (([] : Λ), ([] : Λ), 4) else ((c56 t1.1 t2.1).bind fun t3 => (if t3 < 0 then some (([] : Λ), t1.1, 0) else (if (ln t2.1) = 1 then (if 0 < (ln t2.1) then ((c59 t1.1 (rd t2.1 0)).bind fun t4 => ((c51 t4.2.1).bind fun t5 => some (t4.1, t5, t4.2.2))) else none) else ((c135 t1.1 t2.1).bind fun t6 => some (t6.1, t6.2, 0))))))))))
noncomputable def f (n : Nat) (l0 l1 : Λ) : Ω (Λ × Λ × Int) := b0 nat_FromUint.f (nat_Cmp.f n) (nat_DivSmall.f n) (quot_small.f n) (quot_long.f n) l0 l1
noncomputable def sg : Sig (Λ × Λ × Int) := s2 (sRow .u64) (s2 (sRow .u64) (s1 (sInt .i64)))
noncomputable def code : Code := (Tryd.f65.body).getD .skip
noncomputable def cfg (c51 : T22) (c56 : T7) (c59 : T42) (c134 : T41) (c135 : T44) : Cfg (Λ × Λ × Int) := { T := tys, call := orCall 51 (nat_FromUint.call c51) (orCall 56 (nat_Cmp.call c56) (orCall 59 (nat_DivSmall.call c59) (orCall 134 (quot_small.call c134) (orCall 135 (quot_long.call c135) (noCall))))) }
noncomputable def cuts : List (Nat × List (Nat × Want)) := []
theorem e0 {c51 c56 c59 c134 c135 n J l0 l1} : afun (cfg c51 c56 c59 c134 c135) J cuts n code Tryd.f65.results.toList [false, false, false] [.ro .u64 l0, .ro .u64 l1] sg.out = b0 c51 c56 c59 c134 c135 l0 l1 := by kernel_rfl
theorem ok {n  l0 l1 r} (h : f n l0 l1 = some r) : CallD Tryd.prog HW 65 [.ro .u64 l0, .ro .u64 l1] (sg.enc r) :=
  fun_some hwS Tryd.func65 (by kernel_rfl) (body := code) (by kernel_rfl) tys_ok (c := cfg nat_FromUint.f (nat_Cmp.f n) (nat_DivSmall.f n) (quot_small.f n) (quot_long.f n)) (orCall_ok nat_FromUint.call_ok (orCall_ok (nat_Cmp.call_ok (n := n)) (orCall_ok (nat_DivSmall.call_ok (n := n)) (orCall_ok (quot_small.call_ok (n := n)) (orCall_ok (quot_long.call_ok (n := n)) noCall_ok))))) noW_ok (by kernel_rfl) (by kernel_rfl) (Nat.le_of_ble_eq_true (by kernel_rfl)) (Eq.trans ((e0 (n := n))) h)
noncomputable def call {α : Type} (g : T26) (ds : List D) (K : List D→Ω α) : Ω α := match ds with
  | [.ro .u64 l0, .ro .u64 l1] => (g l0 l1).bind fun r => K (sg.enc r)
  | _ => none
theorem call_ok {α : Type} {n : Nat} : COK Tryd.prog HW 65 (call (α := α) (f n)) := fun _ _ _ h => by
  unfold call at h; split at h
  · exact cok h fun _ => ok
  · cases h
end quot_DivMod
/-! ### nat_Sub: function 57 -/
namespace nat_Sub
noncomputable def b0 (c56 : T7) (c117 : T4) (c118 : T1) (c120 : T5) (c131 : T3) (k2037 : T45) (l0 l1 : Λ) : Ω (Λ × Int) := ((c117 l0).bind fun t1 => (if t1 = true then some (([] : Λ), 2) else ((c117 l1).bind fun t2 => (if t2 = true then some (([] : Λ), 2) else ((c56 l0 l1).bind fun t3 => (if t3 < 0 then some (([] : Λ), 10) else ((c118 l0).bind fun t4 => (if 0 ≤ t4 then (if t4 ≤ (ln l0) then ((some (l0.take t4.toNat) : Ω (Λ)).bind fun y5 => ((c118 l1).bind fun t6 => (if 0 ≤ t6 then (if t6 ≤ (ln l1) then ((some (l1.take t6.toNat) : Ω (Λ)).bind fun y7 => (if 0 ≤ (ln y5) then (if (ln y5).toNat ≤ 35184372088832 then k2037 y7 0 0 y5 (ln y5) (List.replicate (ln y5).toNat (0 : Int)) else none) else none)) else none) else none))) else none) else none))))))))
noncomputable def b255 (c56 : T7) (c117 : T4) (c118 : T1) (c120 : T5) (c131 : T3) (x0 : Λ) : Ω (Λ × Int) := ((c120 x0).bind fun t1 => some (t1.1, t1.2))
noncomputable def b2037 (c56 : T7) (c117 : T4) (c118 : T1) (c120 : T5) (c131 : T3) (k255 : T5) (k260711 : Λ→Int→Int→Int→Int→Λ→Int→Λ→Ω (Λ × Int)) (x0 : Λ) (x1 x2 : Int) (x3 : Λ) (x4 : Int) (x5 : Λ) : Ω (Λ × Int) := (if x2 < x4 then (if 0 ≤ x2 then (if x2 < (ln x3) then (if x2 < (ln x0) then (if 0 ≤ x2 then (if x2 < (ln x0) then k260711 x0 x1 x2 (rd x3 x2) (rd x0 x2) x3 x4 x5 else none) else none) else k260711 x0 x1 x2 (rd x3 x2) 0 x3 x4 x5) else none) else none) else k255 x5)
noncomputable def b260711 (c56 : T7) (c117 : T4) (c118 : T1) (c120 : T5) (c131 : T3) (k2037 : T45) (x0 : Λ) (x1 x2 x3 x4 : Int) (x5 : Λ) (x6 : Int) (x7 : Λ) : Ω (Λ × Int) := ((c131 x3 x4 x1).bind fun t1 => (if 0 ≤ x2 then (if x2 < (ln x7) then k2037 x0 t1.2 (wrap64 (x2 + 1)) x5 x6 (x7.set (x2 : Int).toNat t1.1) else none) else none))
noncomputable def l255 (n : Nat) (x0 : Λ) : Ω (Λ × Int) := b255 (nat_Cmp.f n) (nat_big.f n) (nat_size.f n) (nat_cut.f n) bits_Sub64.f x0
noncomputable def l260711 (n : Nat) (k2037 : T45) (x0 : Λ) (x1 x2 x3 x4 : Int) (x5 : Λ) (x6 : Int) (x7 : Λ) : Ω (Λ × Int) := b260711 (nat_Cmp.f n) (nat_big.f n) (nat_size.f n) (nat_cut.f n) bits_Sub64.f k2037 x0 x1 x2 x3 x4 x5 x6 x7
noncomputable def l2037 (n : Nat) : Nat→Λ→Int→Int→Λ→Int→Λ→Ω (Λ × Int)
  | 0, _, _, _, _, _, _ => none
  | m + 1, x0, x1, x2, x3, x4, x5 => b2037 (nat_Cmp.f n) (nat_big.f n) (nat_size.f n) (nat_cut.f n) bits_Sub64.f (l255 n) (l260711 n (l2037 n m)) x0 x1 x2 x3 x4 x5
noncomputable def f (n : Nat) (l0 l1 : Λ) : Ω (Λ × Int) := b0 (nat_Cmp.f n) (nat_big.f n) (nat_size.f n) (nat_cut.f n) bits_Sub64.f (l2037 n n) l0 l1
noncomputable def sg : Sig (Λ × Int) := s2 (sRow .u64) (s1 (sInt .i64))
noncomputable def code : Code := (Tryd.f57.body).getD .skip
noncomputable def cfg (c56 : T7) (c117 : T4) (c118 : T1) (c120 : T5) (c131 : T3) : Cfg (Λ × Int) := { T := tys, call := orCall 56 (nat_Cmp.call c56) (orCall 117 (nat_big.call c117) (orCall 118 (nat_size.call c118) (orCall 120 (nat_cut.call c120) (orCall 131 (bits_Sub64.call c131) (noCall))))) }
noncomputable def cuts : List (Nat × List (Nat × Want)) := [(255, [(6, .keep)]), (2037, [(1, .keep), (6, .keep), (7, .keep), (32, .keep), (33, .keep), (34, .keep)]), (260711, [(1, .keep), (6, .keep), (7, .keep), (8, .keep), (9, .keep), (10, .keep), (32, .keep), (33, .keep), (34, .keep)])]
noncomputable def s255 (x0 : Λ) : ASt := ⟨[(6, .own 0)], [.ints 25 .u64 x0]⟩
noncomputable def s2037 (x0 : Λ) (x1 x2 : Int) (x3 : Λ) (x4 : Int) (x5 : Λ) : ASt := ⟨[(1, .ro .u64 x0), (6, .own 0), (7, .int .u64 x1), (32, .ro .u64 x3), (33, .int .i64 x4), (34, .int .i64 x2)], [.ints 25 .u64 x5]⟩
noncomputable def s260711 (x0 : Λ) (x1 x2 x3 x4 : Int) (x5 : Λ) (x6 : Int) (x7 : Λ) : ASt := ⟨[(1, .ro .u64 x0), (6, .own 0), (7, .int .u64 x1), (8, .int .i64 x2), (9, .int .u64 x3), (10, .int .u64 x4), (32, .ro .u64 x5), (33, .int .i64 x6), (34, .int .i64 x2)], [.ints 25 .u64 x7]⟩
noncomputable def A (c56 : T7) (c117 : T4) (c118 : T1) (c120 : T5) (c131 : T3) (n : Nat) (J : Jt (Λ × Int)) (q : Nat) (ms : List Nat) : ASt→Ω (Λ × Int) := acont (cfg c56 c117 c118 c120 c131) J cuts n q code 1 ms (aend (cfg c56 c117 c118 c120 c131) Tryd.f57.results.toList [false, false] sg.out)
theorem e0 {c56 c117 c118 c120 c131 n J l0 l1} : afun (cfg c56 c117 c118 c120 c131) J cuts n code Tryd.f57.results.toList [false, false] [.ro .u64 l0, .ro .u64 l1] sg.out = b0 c56 c117 c118 c120 c131 (fun y0 y1 y2 y3 y4 y5 => J 2037 (A c56 c117 c118 c120 c131 n J 2037 [n]) (s2037 y0 y1 y2 y3 y4 y5)) l0 l1 := by kernel_rfl
theorem e255 {c56 c117 c118 c120 c131 n J x0} : A c56 c117 c118 c120 c131 n J 255 [] (s255 x0) = b255 c56 c117 c118 c120 c131 x0 := by kernel_rfl
theorem e2037 {c56 c117 c118 c120 c131 n J m x0 x1 x2 x3 x4 x5} : A c56 c117 c118 c120 c131 n J 2037 [m + 1] (s2037 x0 x1 x2 x3 x4 x5) = b2037 c56 c117 c118 c120 c131 (fun y0 => J 255 (A c56 c117 c118 c120 c131 n J 255 []) (s255 y0)) (fun y0 y1 y2 y3 y4 y5 y6 y7 => J 260711 (A c56 c117 c118 c120 c131 n J 260711 [m]) (s260711 y0 y1 y2 y3 y4 y5 y6 y7)) x0 x1 x2 x3 x4 x5 := by kernel_rfl
theorem e260711 {c56 c117 c118 c120 c131 n J m2037 x0 x1 x2 x3 x4 x5 x6 x7} : A c56 c117 c118 c120 c131 n J 260711 [m2037] (s260711 x0 x1 x2 x3 x4 x5 x6 x7) = b260711 c56 c117 c118 c120 c131 (fun y0 y1 y2 y3 y4 y5 => J 2037 (A c56 c117 c118 c120 c131 n J 2037 [m2037]) (s2037 y0 y1 y2 y3 y4 y5)) x0 x1 x2 x3 x4 x5 x6 x7 := by kernel_rfl
noncomputable abbrev I (n : Nat) := A (nat_Cmp.f n) (nat_big.f n) (nat_size.f n) (nat_cut.f n) bits_Sub64.f n idJ
theorem q255 (n x0) : I n 255 [] (s255 x0) = l255 n x0 := e255
theorem q260711 (n m2037 x0 x1 x2 x3 x4 x5 x6 x7) : I n 260711 [m2037] (s260711 x0 x1 x2 x3 x4 x5 x6 x7) = l260711 n (fun y0 y1 y2 y3 y4 y5 => I n 2037 [m2037] (s2037 y0 y1 y2 y3 y4 y5)) x0 x1 x2 x3 x4 x5 x6 x7 := e260711
theorem q2037 (n m) : ∀ x0 x1 x2 x3 x4 x5, I n 2037 [m] (s2037 x0 x1 x2 x3 x4 x5) = l2037 n m x0 x1 x2 x3 x4 x5 := by
  induction m with
  | zero => intros; rfl
  | succ m ih =>
    intros
    exact e2037.trans (Eq.trans (cf6 (congr (congrArg (b2037 _ _ _ _ _) (fu1 (q255 n))) ((fu8 (q260711 n m)).trans (by rw [show (fun y0 y1 y2 y3 y4 y5 => I n 2037 [m] (s2037 y0 y1 y2 y3 y4 y5)) = _ from (fu6 (ih))]))) _ _ _ _ _ _) rfl)
theorem ok {n  l0 l1 r} (h : f n l0 l1 = some r) : CallD Tryd.prog HW 57 [.ro .u64 l0, .ro .u64 l1] (sg.enc r) :=
  fun_some hwS Tryd.func57 (by kernel_rfl) (body := code) (by kernel_rfl) tys_ok (c := cfg (nat_Cmp.f n) (nat_big.f n) (nat_size.f n) (nat_cut.f n) bits_Sub64.f) (orCall_ok (nat_Cmp.call_ok (n := n)) (orCall_ok (nat_big.call_ok (n := n)) (orCall_ok (nat_size.call_ok (n := n)) (orCall_ok (nat_cut.call_ok (n := n)) (orCall_ok bits_Sub64.call_ok noCall_ok))))) noW_ok (by kernel_rfl) (by kernel_rfl) (Nat.le_of_ble_eq_true (by kernel_rfl)) (Eq.trans ((e0 (n := n)).trans (Eq.trans (cf2 (congrArg (b0 _ _ _ _ _) (fu6 (q2037 n n))) _ _) rfl)) h)
noncomputable def call {α : Type} (g : T15) (ds : List D) (K : List D→Ω α) : Ω α := match ds with
  | [.ro .u64 l0, .ro .u64 l1] => (g l0 l1).bind fun r => K (sg.enc r)
  | _ => none
theorem call_ok {α : Type} {n : Nat} : COK Tryd.prog HW 57 (call (α := α) (f n)) := fun _ _ _ h => by
  unfold call at h; split at h
  · exact cok h fun _ => ok
  · cases h
end nat_Sub
/-! ### nat_Add: function 32 -/
namespace nat_Add
noncomputable def b0 (c117 : T4) (c118 : T1) (c119 : T3) (c120 : T5) (k31 : T15) (l0 l1 : Λ) : Ω (Λ × Int) := ((c117 l0).bind fun t1 => (if t1 = true then some (([] : Λ), 2) else ((c117 l1).bind fun t2 => (if t2 = true then some (([] : Λ), 2) else ((c118 l0).bind fun t3 => (if 0 ≤ t3 then (if t3 ≤ (ln l0) then ((some (l0.take t3.toNat) : Ω (Λ)).bind fun y4 => ((c118 l1).bind fun t5 => (if 0 ≤ t5 then (if t5 ≤ (ln l1) then ((some (l1.take t5.toNat) : Ω (Λ)).bind fun y6 => (if (ln y4) < (ln y6) then k31 y6 y4 else k31 y4 y6)) else none) else none))) else none) else none))))))
noncomputable def b31 (c117 : T4) (c118 : T1) (c119 : T3) (c120 : T5) (k2037 : T46) (x0 x1 : Λ) : Ω (Λ × Int) := (if 0 ≤ (wrap64 ((ln x0) + 1)) then (if (wrap64 ((ln x0) + 1)).toNat ≤ 35184372088832 then k2037 x0 x1 0 0 (ln x0) (List.replicate (wrap64 ((ln x0) + 1)).toNat (0 : Int)) else none) else none)
noncomputable def b255 (c117 : T4) (c118 : T1) (c119 : T3) (c120 : T5) (x0 : Λ) (x1 : Int) (x2 : Λ) : Ω (Λ × Int) := (if 0 ≤ (ln x0) then (if (ln x0) < (ln x2) then ((c120 (x2.set ((ln x0) : Int).toNat x1)).bind fun t1 => some (t1.1, t1.2)) else none) else none)
noncomputable def b2037 (c117 : T4) (c118 : T1) (c119 : T3) (c120 : T5) (k255 : T59) (k260711 : Λ→Λ→Int→Int→Int→Int→Int→Λ→Ω (Λ × Int)) (x0 x1 : Λ) (x2 x3 x4 : Int) (x5 : Λ) : Ω (Λ × Int) := (if x3 < x4 then (if 0 ≤ x3 then (if x3 < (ln x0) then (if x3 < (ln x1) then (if 0 ≤ x3 then (if x3 < (ln x1) then k260711 x0 x1 x2 x3 (rd x0 x3) (rd x1 x3) x4 x5 else none) else none) else k260711 x0 x1 x2 x3 (rd x0 x3) 0 x4 x5) else none) else none) else k255 x0 x2 x5)
noncomputable def b260711 (c117 : T4) (c118 : T1) (c119 : T3) (c120 : T5) (k2037 : T46) (x0 x1 : Λ) (x2 x3 x4 x5 x6 : Int) (x7 : Λ) : Ω (Λ × Int) := ((c119 x4 x5 x2).bind fun t1 => (if 0 ≤ x3 then (if x3 < (ln x7) then k2037 x0 x1 t1.2 (wrap64 (x3 + 1)) x6 (x7.set (x3 : Int).toNat t1.1) else none) else none))
noncomputable def l255 (n : Nat) (x0 : Λ) (x1 : Int) (x2 : Λ) : Ω (Λ × Int) := b255 (nat_big.f n) (nat_size.f n) bits_Add64.f (nat_cut.f n) x0 x1 x2
noncomputable def l260711 (n : Nat) (k2037 : T46) (x0 x1 : Λ) (x2 x3 x4 x5 x6 : Int) (x7 : Λ) : Ω (Λ × Int) := b260711 (nat_big.f n) (nat_size.f n) bits_Add64.f (nat_cut.f n) k2037 x0 x1 x2 x3 x4 x5 x6 x7
noncomputable def l2037 (n : Nat) : Nat→Λ→Λ→Int→Int→Int→Λ→Ω (Λ × Int)
  | 0, _, _, _, _, _, _ => none
  | m + 1, x0, x1, x2, x3, x4, x5 => b2037 (nat_big.f n) (nat_size.f n) bits_Add64.f (nat_cut.f n) (l255 n) (l260711 n (l2037 n m)) x0 x1 x2 x3 x4 x5
noncomputable def l31 (n : Nat) (x0 x1 : Λ) : Ω (Λ × Int) := b31 (nat_big.f n) (nat_size.f n) bits_Add64.f (nat_cut.f n) (l2037 n n) x0 x1
noncomputable def f (n : Nat) (l0 l1 : Λ) : Ω (Λ × Int) := b0 (nat_big.f n) (nat_size.f n) bits_Add64.f (nat_cut.f n) (l31 n) l0 l1
noncomputable def sg : Sig (Λ × Int) := s2 (sRow .u64) (s1 (sInt .i64))
noncomputable def code : Code := (Tryd.f32.body).getD .skip
noncomputable def cfg (c117 : T4) (c118 : T1) (c119 : T3) (c120 : T5) : Cfg (Λ × Int) := { T := tys, call := orCall 117 (nat_big.call c117) (orCall 118 (nat_size.call c118) (orCall 119 (bits_Add64.call c119) (orCall 120 (nat_cut.call c120) (noCall)))) }
noncomputable def cuts : List (Nat × List (Nat × Want)) := [(31, [(0, .keep), (1, .keep)]), (255, [(0, .keep), (6, .keep), (7, .keep)]), (2037, [(0, .keep), (1, .keep), (6, .keep), (7, .keep), (36, .keep), (37, .keep), (38, .keep)]), (260711, [(0, .keep), (1, .keep), (6, .keep), (7, .keep), (8, .keep), (9, .keep), (10, .keep), (36, .keep), (37, .keep), (38, .keep)])]
noncomputable def s31 (x0 x1 : Λ) : ASt := ⟨[(0, .ro .u64 x0), (1, .ro .u64 x1)], []⟩
noncomputable def s255 (x0 : Λ) (x1 : Int) (x2 : Λ) : ASt := ⟨[(0, .ro .u64 x0), (6, .own 0), (7, .int .u64 x1)], [.ints 25 .u64 x2]⟩
noncomputable def s2037 (x0 x1 : Λ) (x2 x3 x4 : Int) (x5 : Λ) : ASt := ⟨[(0, .ro .u64 x0), (1, .ro .u64 x1), (6, .own 0), (7, .int .u64 x2), (36, .ro .u64 x0), (37, .int .i64 x4), (38, .int .i64 x3)], [.ints 25 .u64 x5]⟩
noncomputable def s260711 (x0 x1 : Λ) (x2 x3 x4 x5 x6 : Int) (x7 : Λ) : ASt := ⟨[(0, .ro .u64 x0), (1, .ro .u64 x1), (6, .own 0), (7, .int .u64 x2), (8, .int .i64 x3), (9, .int .u64 x4), (10, .int .u64 x5), (36, .ro .u64 x0), (37, .int .i64 x6), (38, .int .i64 x3)], [.ints 25 .u64 x7]⟩
noncomputable def A (c117 : T4) (c118 : T1) (c119 : T3) (c120 : T5) (n : Nat) (J : Jt (Λ × Int)) (q : Nat) (ms : List Nat) : ASt→Ω (Λ × Int) := acont (cfg c117 c118 c119 c120) J cuts n q code 1 ms (aend (cfg c117 c118 c119 c120) Tryd.f32.results.toList [false, false] sg.out)
theorem e0 {c117 c118 c119 c120 n J l0 l1} : afun (cfg c117 c118 c119 c120) J cuts n code Tryd.f32.results.toList [false, false] [.ro .u64 l0, .ro .u64 l1] sg.out = b0 c117 c118 c119 c120 (fun y0 y1 => J 31 (A c117 c118 c119 c120 n J 31 []) (s31 y0 y1)) l0 l1 := by kernel_rfl
theorem e31 {c117 c118 c119 c120 n J x0 x1} : A c117 c118 c119 c120 n J 31 [] (s31 x0 x1) = b31 c117 c118 c119 c120 (fun y0 y1 y2 y3 y4 y5 => J 2037 (A c117 c118 c119 c120 n J 2037 [n]) (s2037 y0 y1 y2 y3 y4 y5)) x0 x1 := by kernel_rfl
theorem e255 {c117 c118 c119 c120 n J x0 x1 x2} : A c117 c118 c119 c120 n J 255 [] (s255 x0 x1 x2) = b255 c117 c118 c119 c120 x0 x1 x2 := by kernel_rfl
theorem e2037 {c117 c118 c119 c120 n J m x0 x1 x2 x3 x4 x5} : A c117 c118 c119 c120 n J 2037 [m + 1] (s2037 x0 x1 x2 x3 x4 x5) = b2037 c117 c118 c119 c120 (fun y0 y1 y2 => J 255 (A c117 c118 c119 c120 n J 255 []) (s255 y0 y1 y2)) (fun y0 y1 y2 y3 y4 y5 y6 y7 => J 260711 (A c117 c118 c119 c120 n J 260711 [m]) (s260711 y0 y1 y2 y3 y4 y5 y6 y7)) x0 x1 x2 x3 x4 x5 := by kernel_rfl
theorem e260711 {c117 c118 c119 c120 n J m2037 x0 x1 x2 x3 x4 x5 x6 x7} : A c117 c118 c119 c120 n J 260711 [m2037] (s260711 x0 x1 x2 x3 x4 x5 x6 x7) = b260711 c117 c118 c119 c120 (fun y0 y1 y2 y3 y4 y5 => J 2037 (A c117 c118 c119 c120 n J 2037 [m2037]) (s2037 y0 y1 y2 y3 y4 y5)) x0 x1 x2 x3 x4 x5 x6 x7 := by kernel_rfl
noncomputable abbrev I (n : Nat) := A (nat_big.f n) (nat_size.f n) bits_Add64.f (nat_cut.f n) n idJ
theorem q255 (n x0 x1 x2) : I n 255 [] (s255 x0 x1 x2) = l255 n x0 x1 x2 := e255
theorem q260711 (n m2037 x0 x1 x2 x3 x4 x5 x6 x7) : I n 260711 [m2037] (s260711 x0 x1 x2 x3 x4 x5 x6 x7) = l260711 n (fun y0 y1 y2 y3 y4 y5 => I n 2037 [m2037] (s2037 y0 y1 y2 y3 y4 y5)) x0 x1 x2 x3 x4 x5 x6 x7 := e260711
theorem q2037 (n m) : ∀ x0 x1 x2 x3 x4 x5, I n 2037 [m] (s2037 x0 x1 x2 x3 x4 x5) = l2037 n m x0 x1 x2 x3 x4 x5 := by
  induction m with
  | zero => intros; rfl
  | succ m ih =>
    intros
    exact e2037.trans (Eq.trans (cf6 (congr (congrArg (b2037 _ _ _ _) (fu3 (q255 n))) ((fu8 (q260711 n m)).trans (by rw [show (fun y0 y1 y2 y3 y4 y5 => I n 2037 [m] (s2037 y0 y1 y2 y3 y4 y5)) = _ from (fu6 (ih))]))) _ _ _ _ _ _) rfl)
theorem q31 (n x0 x1) : I n 31 [] (s31 x0 x1) = l31 n x0 x1 := e31.trans (Eq.trans (cf2 (congrArg (b31 _ _ _ _) (fu6 (q2037 n n))) _ _) rfl)
theorem ok {n  l0 l1 r} (h : f n l0 l1 = some r) : CallD Tryd.prog HW 32 [.ro .u64 l0, .ro .u64 l1] (sg.enc r) :=
  fun_some hwS Tryd.func32 (by kernel_rfl) (body := code) (by kernel_rfl) tys_ok (c := cfg (nat_big.f n) (nat_size.f n) bits_Add64.f (nat_cut.f n)) (orCall_ok (nat_big.call_ok (n := n)) (orCall_ok (nat_size.call_ok (n := n)) (orCall_ok bits_Add64.call_ok (orCall_ok (nat_cut.call_ok (n := n)) noCall_ok)))) noW_ok (by kernel_rfl) (by kernel_rfl) (Nat.le_of_ble_eq_true (by kernel_rfl)) (Eq.trans ((e0 (n := n)).trans (Eq.trans (cf2 (congrArg (b0 _ _ _ _) (fu2 (q31 n))) _ _) rfl)) h)
noncomputable def call {α : Type} (g : T15) (ds : List D) (K : List D→Ω α) : Ω α := match ds with
  | [.ro .u64 l0, .ro .u64 l1] => (g l0 l1).bind fun r => K (sg.enc r)
  | _ => none
theorem call_ok {α : Type} {n : Nat} : COK Tryd.prog HW 32 (call (α := α) (f n)) := fun _ _ _ h => by
  unfold call at h; split at h
  · exact cok h fun _ => ok
  · cases h
end nat_Add
/-! ### nat_MulAdd: function 58 -/
namespace nat_MulAdd
noncomputable def b0 (c117 : T4) (c118 : T1) (c119 : T3) (c120 : T5) (c121 : T10) (k1013 : T60) (l0 : Λ) (a1 a2 : Int) : Ω (Λ × Int) := ((c117 l0).bind fun t1 => (if t1 = true then some (([] : Λ), 2) else ((c118 l0).bind fun t2 => (if 0 ≤ t2 then (if t2 ≤ (ln l0) then ((some (l0.take t2.toNat) : Ω (Λ)).bind fun y3 => (if 0 ≤ (wrap64 ((ln y3) + 1)) then (if (wrap64 ((ln y3) + 1)).toNat ≤ 35184372088832 then k1013 y3 a1 a2 (ln y3) 0 (List.replicate (wrap64 ((ln y3) + 1)).toNat (0 : Int)) else none) else none)) else none) else none))))
noncomputable def b127 (c117 : T4) (c118 : T1) (c119 : T3) (c120 : T5) (c121 : T10) (x0 : Λ) (x1 : Int) (x2 : Λ) : Ω (Λ × Int) := (if 0 ≤ (ln x0) then (if (ln x0) < (ln x2) then ((c120 (x2.set ((ln x0) : Int).toNat x1)).bind fun t1 => some (t1.1, t1.2)) else none) else none)
noncomputable def b1013 (c117 : T4) (c118 : T1) (c119 : T3) (c120 : T5) (c121 : T10) (k127 : T59) (k1013 : T60) (x0 : Λ) (x1 x2 x3 x4 : Int) (x5 : Λ) : Ω (Λ × Int) := (if x4 < x3 then (if 0 ≤ x4 then (if x4 < (ln x0) then ((c121 (rd x0 x4) x1).bind fun t1 => ((c119 t1.2 x2 0).bind fun t2 => (if 0 ≤ x4 then (if x4 < (ln x5) then k1013 x0 x1 (IntKind.u64.wrap (t1.1 + t2.2)) x3 (wrap64 (x4 + 1)) (x5.set (x4 : Int).toNat t2.1) else none) else none))) else none) else none) else k127 x0 x2 x5)
noncomputable def l127 (n : Nat) (x0 : Λ) (x1 : Int) (x2 : Λ) : Ω (Λ × Int) := b127 (nat_big.f n) (nat_size.f n) bits_Add64.f (nat_cut.f n) bits_Mul64.f x0 x1 x2
noncomputable def l1013 (n : Nat) : Nat→Λ→Int→Int→Int→Int→Λ→Ω (Λ × Int)
  | 0, _, _, _, _, _, _ => none
  | m + 1, x0, x1, x2, x3, x4, x5 => b1013 (nat_big.f n) (nat_size.f n) bits_Add64.f (nat_cut.f n) bits_Mul64.f (l127 n) (l1013 n m) x0 x1 x2 x3 x4 x5
noncomputable def f (n : Nat) (l0 : Λ) (a1 a2 : Int) : Ω (Λ × Int) := b0 (nat_big.f n) (nat_size.f n) bits_Add64.f (nat_cut.f n) bits_Mul64.f (l1013 n n) l0 a1 a2
noncomputable def sg : Sig (Λ × Int) := s2 (sRow .u64) (s1 (sInt .i64))
noncomputable def code : Code := (Tryd.f58.body).getD .skip
noncomputable def cfg (c117 : T4) (c118 : T1) (c119 : T3) (c120 : T5) (c121 : T10) : Cfg (Λ × Int) := { T := tys, call := orCall 117 (nat_big.call c117) (orCall 118 (nat_size.call c118) (orCall 119 (bits_Add64.call c119) (orCall 120 (nat_cut.call c120) (orCall 121 (bits_Mul64.call c121) (noCall))))) }
noncomputable def cuts : List (Nat × List (Nat × Want)) := [(127, [(0, .keep), (8, .keep), (9, .keep)]), (1013, [(0, .keep), (1, .keep), (8, .keep), (9, .keep), (26, .keep), (27, .keep), (28, .keep)])]
noncomputable def s127 (x0 : Λ) (x1 : Int) (x2 : Λ) : ASt := ⟨[(0, .ro .u64 x0), (8, .own 0), (9, .int .u64 x1)], [.ints 25 .u64 x2]⟩
noncomputable def s1013 (x0 : Λ) (x1 x2 x3 x4 : Int) (x5 : Λ) : ASt := ⟨[(0, .ro .u64 x0), (1, .int .u64 x1), (8, .own 0), (9, .int .u64 x2), (26, .ro .u64 x0), (27, .int .i64 x3), (28, .int .i64 x4)], [.ints 25 .u64 x5]⟩
noncomputable def A (c117 : T4) (c118 : T1) (c119 : T3) (c120 : T5) (c121 : T10) (n : Nat) (J : Jt (Λ × Int)) (q : Nat) (ms : List Nat) : ASt→Ω (Λ × Int) := acont (cfg c117 c118 c119 c120 c121) J cuts n q code 1 ms (aend (cfg c117 c118 c119 c120 c121) Tryd.f58.results.toList [false, false] sg.out)
theorem e0 {c117 c118 c119 c120 c121 n J l0 a1 a2} : afun (cfg c117 c118 c119 c120 c121) J cuts n code Tryd.f58.results.toList [false, false] [.ro .u64 l0, .int .u64 a1, .int .u64 a2] sg.out = b0 c117 c118 c119 c120 c121 (fun y0 y1 y2 y3 y4 y5 => J 1013 (A c117 c118 c119 c120 c121 n J 1013 [n]) (s1013 y0 y1 y2 y3 y4 y5)) l0 a1 a2 := by kernel_rfl
theorem e127 {c117 c118 c119 c120 c121 n J x0 x1 x2} : A c117 c118 c119 c120 c121 n J 127 [] (s127 x0 x1 x2) = b127 c117 c118 c119 c120 c121 x0 x1 x2 := by kernel_rfl
theorem e1013 {c117 c118 c119 c120 c121 n J m x0 x1 x2 x3 x4 x5} : A c117 c118 c119 c120 c121 n J 1013 [m + 1] (s1013 x0 x1 x2 x3 x4 x5) = b1013 c117 c118 c119 c120 c121 (fun y0 y1 y2 => J 127 (A c117 c118 c119 c120 c121 n J 127 []) (s127 y0 y1 y2)) (fun y0 y1 y2 y3 y4 y5 => J 1013 (A c117 c118 c119 c120 c121 n J 1013 [m]) (s1013 y0 y1 y2 y3 y4 y5)) x0 x1 x2 x3 x4 x5 := by kernel_rfl
noncomputable abbrev I (n : Nat) := A (nat_big.f n) (nat_size.f n) bits_Add64.f (nat_cut.f n) bits_Mul64.f n idJ
theorem q127 (n x0 x1 x2) : I n 127 [] (s127 x0 x1 x2) = l127 n x0 x1 x2 := e127
theorem q1013 (n m) : ∀ x0 x1 x2 x3 x4 x5, I n 1013 [m] (s1013 x0 x1 x2 x3 x4 x5) = l1013 n m x0 x1 x2 x3 x4 x5 := by
  induction m with
  | zero => intros; rfl
  | succ m ih =>
    intros
    exact e1013.trans (Eq.trans (cf6 (congr (congrArg (b1013 _ _ _ _ _) (fu3 (q127 n))) (fu6 (ih))) _ _ _ _ _ _) rfl)
theorem ok {n  l0 a1 a2 r} (h : f n l0 a1 a2 = some r) : CallD Tryd.prog HW 58 [.ro .u64 l0, .int .u64 a1, .int .u64 a2] (sg.enc r) :=
  fun_some hwS Tryd.func58 (by kernel_rfl) (body := code) (by kernel_rfl) tys_ok (c := cfg (nat_big.f n) (nat_size.f n) bits_Add64.f (nat_cut.f n) bits_Mul64.f) (orCall_ok (nat_big.call_ok (n := n)) (orCall_ok (nat_size.call_ok (n := n)) (orCall_ok bits_Add64.call_ok (orCall_ok (nat_cut.call_ok (n := n)) (orCall_ok bits_Mul64.call_ok noCall_ok))))) noW_ok (by kernel_rfl) (by kernel_rfl) (Nat.le_of_ble_eq_true (by kernel_rfl)) (Eq.trans ((e0 (n := n)).trans (Eq.trans (cf3 (congrArg (b0 _ _ _ _ _) (fu6 (q1013 n n))) _ _ _) rfl)) h)
noncomputable def call {α : Type} (g : T27) (ds : List D) (K : List D→Ω α) : Ω α := match ds with
  | [.ro .u64 l0, .int .u64 a1, .int .u64 a2] => (g l0 a1 a2).bind fun r => K (sg.enc r)
  | _ => none
theorem call_ok {α : Type} {n : Nat} : COK Tryd.prog HW 58 (call (α := α) (f n)) := fun _ _ _ h => by
  unfold call at h; split at h
  · exact cok h fun _ => ok
  · cases h
end nat_MulAdd
/-! ### ieee_RoundRatio: function 81 -/
namespace ieee_RoundRatio
noncomputable def b0 (c32 : T15) (c53 : T1) (c56 : T7) (c57 : T15) (c58 : T27) (c60 : T18) (c65 : T26) (c116 : T14) (c144 : T0) (k127 : T23) (a0 : Bool) (l1 l2 : Λ) (a3 : Int) : Ω (Int × Int) := ((c60 l1 0).bind fun t1 => ((c60 l2 0).bind fun t2 => (if ¬ t1.2 = 0 then some (0, 2) else (if ¬ t2.2 = 0 then some (0, 2) else (if (ln t2.1) = 0 then some (0, 4) else (if (ln t1.1) = 0 then ((c116 a0 ([] : Λ) 0 false).bind fun t3 => some (t3.1, t3.2)) else ((c144 a3).bind fun t4 => ((c53 t2.1).bind fun t5 => ((c53 t1.1).bind fun t6 => (if (wrap64 (t5 - t6)) > 0 then ((c60 t1.1 (wrap64 (t5 - t6))).bind fun t7 => k127 a0 t7.1 t2.1 (wrap64 (t4 - (wrap64 (t5 - t6))))) else k127 a0 t1.1 t2.1 t4))))))))))
noncomputable def b127 (c32 : T15) (c53 : T1) (c56 : T7) (c57 : T15) (c58 : T27) (c60 : T18) (c65 : T26) (c116 : T14) (c144 : T0) (k4089 : T47) (x0 : Bool) (x1 x2 : Λ) (x3 : Int) : Ω (Int × Int) := ((c65 x1 x2).bind fun t1 => (if ¬ t1.2.2 = 0 then some (0, t1.2.2) else k4089 x0 x2 x3 t1.1 t1.2.1))
noncomputable def b1023 (c32 : T15) (c53 : T1) (c56 : T7) (c57 : T15) (c58 : T27) (c60 : T18) (c65 : T26) (c116 : T14) (c144 : T0) (x0 : Bool) (x1 : Int) (x2 x3 : Λ) : Ω (Int × Int) := ((c116 x0 x2 x1 (decide ((ln x3) > 0))).bind fun t1 => some (t1.1, t1.2))
noncomputable def b4089 (c32 : T15) (c53 : T1) (c56 : T7) (c57 : T15) (c58 : T27) (c60 : T18) (c65 : T26) (c116 : T14) (c144 : T0) (k1023 : Bool→Int→Λ→Λ→Ω (Int × Int)) (k130839 : Bool→Λ→Int→Λ→Λ→Int→Ω (Int × Int)) (x0 : Bool) (x1 : Λ) (x2 : Int) (x3 x4 : Λ) : Ω (Int × Int) := ((c53 x3).bind fun t1 => (if t1 < 66 then ((c57 x1 x4).bind fun t2 => ((c56 x4 t2.1).bind fun t3 => (if t3 ≥ 0 then ((c57 x4 t2.1).bind fun t4 => k130839 x0 x1 x2 x3 t4.1 1) else ((c32 x4 x4).bind fun t5 => k130839 x0 x1 x2 x3 t5.1 0)))) else k1023 x0 x2 x3 x4))
noncomputable def b130839 (c32 : T15) (c53 : T1) (c56 : T7) (c57 : T15) (c58 : T27) (c60 : T18) (c65 : T26) (c116 : T14) (c144 : T0) (k4089 : T47) (x0 : Bool) (x1 : Λ) (x2 : Int) (x3 x4 : Λ) (x5 : Int) : Ω (Int × Int) := ((c58 x3 2 x5).bind fun t1 => k4089 x0 x1 (wrap64 (x2 - 1)) t1.1 x4)
noncomputable def l1023 (n : Nat) (x0 : Bool) (x1 : Int) (x2 x3 : Λ) : Ω (Int × Int) := b1023 (nat_Add.f n) (nat_BitLen.f n) (nat_Cmp.f n) (nat_Sub.f n) (nat_MulAdd.f n) (nat_Shl.f n) (quot_DivMod.f n) (ieee_Round.f n) ieee_near.f x0 x1 x2 x3
noncomputable def l130839 (n : Nat) (k4089 : T47) (x0 : Bool) (x1 : Λ) (x2 : Int) (x3 x4 : Λ) (x5 : Int) : Ω (Int × Int) := b130839 (nat_Add.f n) (nat_BitLen.f n) (nat_Cmp.f n) (nat_Sub.f n) (nat_MulAdd.f n) (nat_Shl.f n) (quot_DivMod.f n) (ieee_Round.f n) ieee_near.f k4089 x0 x1 x2 x3 x4 x5
noncomputable def l4089 (n : Nat) : Nat→Bool→Λ→Int→Λ→Λ→Ω (Int × Int)
  | 0, _, _, _, _, _ => none
  | m + 1, x0, x1, x2, x3, x4 => b4089 (nat_Add.f n) (nat_BitLen.f n) (nat_Cmp.f n) (nat_Sub.f n) (nat_MulAdd.f n) (nat_Shl.f n) (quot_DivMod.f n) (ieee_Round.f n) ieee_near.f (l1023 n) (l130839 n (l4089 n m)) x0 x1 x2 x3 x4
noncomputable def l127 (n : Nat) (x0 : Bool) (x1 x2 : Λ) (x3 : Int) : Ω (Int × Int) := b127 (nat_Add.f n) (nat_BitLen.f n) (nat_Cmp.f n) (nat_Sub.f n) (nat_MulAdd.f n) (nat_Shl.f n) (quot_DivMod.f n) (ieee_Round.f n) ieee_near.f (l4089 n n) x0 x1 x2 x3
noncomputable def f (n : Nat) (a0 : Bool) (l1 l2 : Λ) (a3 : Int) : Ω (Int × Int) := b0 (nat_Add.f n) (nat_BitLen.f n) (nat_Cmp.f n) (nat_Sub.f n) (nat_MulAdd.f n) (nat_Shl.f n) (quot_DivMod.f n) (ieee_Round.f n) ieee_near.f (l127 n) a0 l1 l2 a3
noncomputable def sg : Sig (Int × Int) := s2 (sInt .u64) (s1 (sInt .i64))
noncomputable def code : Code := (Tryd.f81.body).getD .skip
noncomputable def cfg (c32 : T15) (c53 : T1) (c56 : T7) (c57 : T15) (c58 : T27) (c60 : T18) (c65 : T26) (c116 : T14) (c144 : T0) : Cfg (Int × Int) := { T := tys, call := orCall 32 (nat_Add.call c32) (orCall 53 (nat_BitLen.call c53) (orCall 56 (nat_Cmp.call c56) (orCall 57 (nat_Sub.call c57) (orCall 58 (nat_MulAdd.call c58) (orCall 60 (nat_Shl.call c60) (orCall 65 (quot_DivMod.call c65) (orCall 116 (ieee_Round.call c116) (orCall 144 (ieee_near.call c144) (noCall))))))))) }
noncomputable def cuts : List (Nat × List (Nat × Want)) := [(127, [(0, .keep), (1, .keep), (2, .keep), (3, .keep)]), (1023, [(0, .keep), (3, .keep), (13, .keep), (14, .keep)]), (4089, [(0, .keep), (2, .keep), (3, .keep), (13, .keep), (14, .keep)]), (130839, [(0, .keep), (2, .keep), (3, .keep), (13, .keep), (14, .keep), (17, .keep)])]
noncomputable def s127 (x0 : Bool) (x1 x2 : Λ) (x3 : Int) : ASt := ⟨[(0, .bool x0), (1, .ro .u64 x1), (2, .ro .u64 x2), (3, .int .i64 x3)], []⟩
noncomputable def s1023 (x0 : Bool) (x1 : Int) (x2 x3 : Λ) : ASt := ⟨[(0, .bool x0), (3, .int .i64 x1), (13, .ro .u64 x2), (14, .ro .u64 x3)], []⟩
noncomputable def s4089 (x0 : Bool) (x1 : Λ) (x2 : Int) (x3 x4 : Λ) : ASt := ⟨[(0, .bool x0), (2, .ro .u64 x1), (3, .int .i64 x2), (13, .ro .u64 x3), (14, .ro .u64 x4)], []⟩
noncomputable def s130839 (x0 : Bool) (x1 : Λ) (x2 : Int) (x3 x4 : Λ) (x5 : Int) : ASt := ⟨[(0, .bool x0), (2, .ro .u64 x1), (3, .int .i64 x2), (13, .ro .u64 x3), (14, .ro .u64 x4), (17, .int .u64 x5)], []⟩
noncomputable def A (c32 : T15) (c53 : T1) (c56 : T7) (c57 : T15) (c58 : T27) (c60 : T18) (c65 : T26) (c116 : T14) (c144 : T0) (n : Nat) (J : Jt (Int × Int)) (q : Nat) (ms : List Nat) : ASt→Ω (Int × Int) := acont (cfg c32 c53 c56 c57 c58 c60 c65 c116 c144) J cuts n q code 1 ms (aend (cfg c32 c53 c56 c57 c58 c60 c65 c116 c144) Tryd.f81.results.toList [false, false] sg.out)
theorem e0 {c32 c53 c56 c57 c58 c60 c65 c116 c144 n J a0 l1 l2 a3} : afun (cfg c32 c53 c56 c57 c58 c60 c65 c116 c144) J cuts n code Tryd.f81.results.toList [false, false] [.bool a0, .ro .u64 l1, .ro .u64 l2, .int .i64 a3] sg.out = b0 c32 c53 c56 c57 c58 c60 c65 c116 c144 (fun y0 y1 y2 y3 => J 127 (A c32 c53 c56 c57 c58 c60 c65 c116 c144 n J 127 []) (s127 y0 y1 y2 y3)) a0 l1 l2 a3 := by kernel_rfl
theorem e127 {c32 c53 c56 c57 c58 c60 c65 c116 c144 n J x0 x1 x2 x3} : A c32 c53 c56 c57 c58 c60 c65 c116 c144 n J 127 [] (s127 x0 x1 x2 x3) = b127 c32 c53 c56 c57 c58 c60 c65 c116 c144 (fun y0 y1 y2 y3 y4 => J 4089 (A c32 c53 c56 c57 c58 c60 c65 c116 c144 n J 4089 [n]) (s4089 y0 y1 y2 y3 y4)) x0 x1 x2 x3 := by kernel_rfl
theorem e1023 {c32 c53 c56 c57 c58 c60 c65 c116 c144 n J x0 x1 x2 x3} : A c32 c53 c56 c57 c58 c60 c65 c116 c144 n J 1023 [] (s1023 x0 x1 x2 x3) = b1023 c32 c53 c56 c57 c58 c60 c65 c116 c144 x0 x1 x2 x3 := by kernel_rfl
theorem e4089 {c32 c53 c56 c57 c58 c60 c65 c116 c144 n J m x0 x1 x2 x3 x4} : A c32 c53 c56 c57 c58 c60 c65 c116 c144 n J 4089 [m + 1] (s4089 x0 x1 x2 x3 x4) = b4089 c32 c53 c56 c57 c58 c60 c65 c116 c144 (fun y0 y1 y2 y3 => J 1023 (A c32 c53 c56 c57 c58 c60 c65 c116 c144 n J 1023 []) (s1023 y0 y1 y2 y3)) (fun y0 y1 y2 y3 y4 y5 => J 130839 (A c32 c53 c56 c57 c58 c60 c65 c116 c144 n J 130839 [m]) (s130839 y0 y1 y2 y3 y4 y5)) x0 x1 x2 x3 x4 := by kernel_rfl
theorem e130839 {c32 c53 c56 c57 c58 c60 c65 c116 c144 n J m4089 x0 x1 x2 x3 x4 x5} : A c32 c53 c56 c57 c58 c60 c65 c116 c144 n J 130839 [m4089] (s130839 x0 x1 x2 x3 x4 x5) = b130839 c32 c53 c56 c57 c58 c60 c65 c116 c144 (fun y0 y1 y2 y3 y4 => J 4089 (A c32 c53 c56 c57 c58 c60 c65 c116 c144 n J 4089 [m4089]) (s4089 y0 y1 y2 y3 y4)) x0 x1 x2 x3 x4 x5 := by kernel_rfl
noncomputable abbrev I (n : Nat) := A (nat_Add.f n) (nat_BitLen.f n) (nat_Cmp.f n) (nat_Sub.f n) (nat_MulAdd.f n) (nat_Shl.f n) (quot_DivMod.f n) (ieee_Round.f n) ieee_near.f n idJ
theorem q1023 (n x0 x1 x2 x3) : I n 1023 [] (s1023 x0 x1 x2 x3) = l1023 n x0 x1 x2 x3 := e1023
theorem q130839 (n m4089 x0 x1 x2 x3 x4 x5) : I n 130839 [m4089] (s130839 x0 x1 x2 x3 x4 x5) = l130839 n (fun y0 y1 y2 y3 y4 => I n 4089 [m4089] (s4089 y0 y1 y2 y3 y4)) x0 x1 x2 x3 x4 x5 := e130839
theorem q4089 (n m) : ∀ x0 x1 x2 x3 x4, I n 4089 [m] (s4089 x0 x1 x2 x3 x4) = l4089 n m x0 x1 x2 x3 x4 := by
  induction m with
  | zero => intros; rfl
  | succ m ih =>
    intros
    exact e4089.trans (Eq.trans (cf5 (congr (congrArg (b4089 _ _ _ _ _ _ _ _ _) (fu4 (q1023 n))) ((fu6 (q130839 n m)).trans (by rw [show (fun y0 y1 y2 y3 y4 => I n 4089 [m] (s4089 y0 y1 y2 y3 y4)) = _ from (fu5 (ih))]))) _ _ _ _ _) rfl)
theorem q127 (n x0 x1 x2 x3) : I n 127 [] (s127 x0 x1 x2 x3) = l127 n x0 x1 x2 x3 := e127.trans (Eq.trans (cf4 (congrArg (b127 _ _ _ _ _ _ _ _ _) (fu5 (q4089 n n))) _ _ _ _) rfl)
theorem ok {n  a0 l1 l2 a3 r} (h : f n a0 l1 l2 a3 = some r) : CallD Tryd.prog HW 81 [.bool a0, .ro .u64 l1, .ro .u64 l2, .int .i64 a3] (sg.enc r) :=
  fun_some hwS Tryd.func81 (by kernel_rfl) (body := code) (by kernel_rfl) tys_ok (c := cfg (nat_Add.f n) (nat_BitLen.f n) (nat_Cmp.f n) (nat_Sub.f n) (nat_MulAdd.f n) (nat_Shl.f n) (quot_DivMod.f n) (ieee_Round.f n) ieee_near.f) (orCall_ok (nat_Add.call_ok (n := n)) (orCall_ok (nat_BitLen.call_ok (n := n)) (orCall_ok (nat_Cmp.call_ok (n := n)) (orCall_ok (nat_Sub.call_ok (n := n)) (orCall_ok (nat_MulAdd.call_ok (n := n)) (orCall_ok (nat_Shl.call_ok (n := n)) (orCall_ok (quot_DivMod.call_ok (n := n)) (orCall_ok (ieee_Round.call_ok (n := n)) (orCall_ok ieee_near.call_ok noCall_ok))))))))) noW_ok (by kernel_rfl) (by kernel_rfl) (Nat.le_of_ble_eq_true (by kernel_rfl)) (Eq.trans ((e0 (n := n)).trans (Eq.trans (cf4 (congrArg (b0 _ _ _ _ _ _ _ _ _) (fu4 (q127 n))) _ _ _ _) rfl)) h)
noncomputable def call {α : Type} (g : T23) (ds : List D) (K : List D→Ω α) : Ω α := match ds with
  | [.bool a0, .ro .u64 l1, .ro .u64 l2, .int .i64 a3] => (g a0 l1 l2 a3).bind fun r => K (sg.enc r)
  | _ => none
theorem call_ok {α : Type} {n : Nat} : COK Tryd.prog HW 81 (call (α := α) (f n)) := fun _ _ _ h => by
  unfold call at h; split at h
  · exact cok h fun _ => ok
  · cases h
end ieee_RoundRatio
/-! ### ieee_Abs: function 105 -/
namespace ieee_Abs
noncomputable def b0 (a0 : Int) : Ω (Int) := some (Go.bits .andNot .u64 a0 9223372036854775808)
noncomputable def f (a0 : Int) : Ω (Int) := b0 a0
noncomputable def sg : Sig (Int) := s1 (sInt .u64)
noncomputable def code : Code := (Tryd.f105.body).getD .skip
noncomputable def cfg : Cfg (Int) := { T := tys, call := noCall }
noncomputable def cuts : List (Nat × List (Nat × Want)) := []
theorem e0 {n J a0} : afun cfg J cuts n code Tryd.f105.results.toList [false] [.int .u64 a0] sg.out = b0 a0 := by kernel_rfl
theorem ok {a0 r} (h : f a0 = some r) : CallD Tryd.prog HW 105 [.int .u64 a0] (sg.enc r) :=
  fun_some hwS Tryd.func105 (by kernel_rfl) (body := code) (by kernel_rfl) tys_ok (c := cfg) noCall_ok noW_ok (by kernel_rfl) (by kernel_rfl) (Nat.le_of_ble_eq_true (by kernel_rfl)) (Eq.trans ((e0 (n := 0))) h)
noncomputable def call {α : Type} (g : T0) (ds : List D) (K : List D→Ω α) : Ω α := match ds with
  | [.int .u64 a0] => (g a0).bind fun r => K (sg.enc r)
  | _ => none
theorem call_ok {α : Type} : COK Tryd.prog HW 105 (call (α := α) f) := fun _ _ _ h => by
  unfold call at h; split at h
  · exact cok h fun _ => ok
  · cases h
end ieee_Abs
/-! ### ieee_Class: function 103 -/
namespace ieee_Class
noncomputable def b0 (c105 : T0) (a0 : Int) : Ω (Int) := ((c105 a0).bind fun t1 => (if t1 = 0 then some 0 else (if t1 < 4503599627370496 then some 1 else (if t1 < 9218868437227405312 then some 2 else (if t1 = 9218868437227405312 then some 3 else some 4)))))
noncomputable def f (a0 : Int) : Ω (Int) := b0 ieee_Abs.f a0
noncomputable def sg : Sig (Int) := s1 (sInt .i64)
noncomputable def code : Code := (Tryd.f103.body).getD .skip
noncomputable def cfg (c105 : T0) : Cfg (Int) := { T := tys, call := orCall 105 (ieee_Abs.call c105) (noCall) }
noncomputable def cuts : List (Nat × List (Nat × Want)) := []
theorem e0 {c105 n J a0} : afun (cfg c105) J cuts n code Tryd.f103.results.toList [false] [.int .u64 a0] sg.out = b0 c105 a0 := by kernel_rfl
theorem ok {a0 r} (h : f a0 = some r) : CallD Tryd.prog HW 103 [.int .u64 a0] (sg.enc r) :=
  fun_some hwS Tryd.func103 (by kernel_rfl) (body := code) (by kernel_rfl) tys_ok (c := cfg ieee_Abs.f) (orCall_ok ieee_Abs.call_ok noCall_ok) noW_ok (by kernel_rfl) (by kernel_rfl) (Nat.le_of_ble_eq_true (by kernel_rfl)) (Eq.trans ((e0 (n := 0))) h)
noncomputable def call {α : Type} (g : T0) (ds : List D) (K : List D→Ω α) : Ω α := match ds with
  | [.int .u64 a0] => (g a0).bind fun r => K (sg.enc r)
  | _ => none
theorem call_ok {α : Type} : COK Tryd.prog HW 103 (call (α := α) f) := fun _ _ _ h => by
  unfold call at h; split at h
  · exact cok h fun _ => ok
  · cases h
end ieee_Class
/-! ### ieee_Decode: function 82 -/
namespace ieee_Decode
noncomputable def b0 (c103 : T0) (a0 : Int) : Ω (Bool × Int × Int × Int) := ((c103 a0).bind fun t1 => (if t1 = 1 then some (decide (¬ (Go.bits .and .u64 a0 9223372036854775808) = 0), t1, Go.bits .and .u64 a0 4503599627370495, (-1074)) else (if t1 = 2 then some (decide (¬ (Go.bits .and .u64 a0 9223372036854775808) = 0), t1, Go.bits .or .u64 4503599627370496 (Go.bits .and .u64 a0 4503599627370495), wrap64 ((wrap64 (Go.bits .and .u64 (a0 / 4503599627370496) 2047)) - 1075)) else (if t1 = 4 then some (decide (¬ (Go.bits .and .u64 a0 9223372036854775808) = 0), t1, Go.bits .and .u64 a0 4503599627370495, 0) else some (decide (¬ (Go.bits .and .u64 a0 9223372036854775808) = 0), t1, 0, 0)))))
noncomputable def f (a0 : Int) : Ω (Bool × Int × Int × Int) := b0 ieee_Class.f a0
noncomputable def sg : Sig (Bool × Int × Int × Int) := s1 (sAgg (s2 (sBool) (s2 (sInt .i64) (s2 (sInt .u64) (s1 (sInt .i64))))))
noncomputable def code : Code := (Tryd.f82.body).getD .skip
noncomputable def cfg (c103 : T0) : Cfg (Bool × Int × Int × Int) := { T := tys, call := orCall 103 (ieee_Class.call c103) (noCall) }
noncomputable def cuts : List (Nat × List (Nat × Want)) := []
theorem e0 {c103 n J a0} : afun (cfg c103) J cuts n code Tryd.f82.results.toList [false] [.int .u64 a0] sg.out = b0 c103 a0 := by kernel_rfl
theorem ok {a0 r} (h : f a0 = some r) : CallD Tryd.prog HW 82 [.int .u64 a0] (sg.enc r) :=
  fun_some hwS Tryd.func82 (by kernel_rfl) (body := code) (by kernel_rfl) tys_ok (c := cfg ieee_Class.f) (orCall_ok ieee_Class.call_ok noCall_ok) noW_ok (by kernel_rfl) (by kernel_rfl) (Nat.le_of_ble_eq_true (by kernel_rfl)) (Eq.trans ((e0 (n := 0))) h)
noncomputable def call {α : Type} (g : T6) (ds : List D) (K : List D→Ω α) : Ω α := match ds with
  | [.int .u64 a0] => (g a0).bind fun r => K (sg.enc r)
  | _ => none
theorem call_ok {α : Type} : COK Tryd.prog HW 82 (call (α := α) f) := fun _ _ _ h => by
  unfold call at h; split at h
  · exact cok h fun _ => ok
  · cases h
end ieee_Decode
/-! ### ieee_Rank: function 108 -/
namespace ieee_Rank
noncomputable def b0 (c105 : T0) (a0 : Int) : Ω (Int × Bool) := ((c105 a0).bind fun t1 => (if (wrap64 t1) > 9218868437227405312 then some (0, false) else (if ¬ (Go.bits .and .u64 a0 9223372036854775808) = 0 then some (wrap64 (-(wrap64 t1)), true) else some (wrap64 t1, true))))
noncomputable def f (a0 : Int) : Ω (Int × Bool) := b0 ieee_Abs.f a0
noncomputable def sg : Sig (Int × Bool) := s2 (sInt .i64) (s1 (sBool))
noncomputable def code : Code := (Tryd.f108.body).getD .skip
noncomputable def cfg (c105 : T0) : Cfg (Int × Bool) := { T := tys, call := orCall 105 (ieee_Abs.call c105) (noCall) }
noncomputable def cuts : List (Nat × List (Nat × Want)) := []
theorem e0 {c105 n J a0} : afun (cfg c105) J cuts n code Tryd.f108.results.toList [false, false] [.int .u64 a0] sg.out = b0 c105 a0 := by kernel_rfl
theorem ok {a0 r} (h : f a0 = some r) : CallD Tryd.prog HW 108 [.int .u64 a0] (sg.enc r) :=
  fun_some hwS Tryd.func108 (by kernel_rfl) (body := code) (by kernel_rfl) tys_ok (c := cfg ieee_Abs.f) (orCall_ok ieee_Abs.call_ok noCall_ok) noW_ok (by kernel_rfl) (by kernel_rfl) (Nat.le_of_ble_eq_true (by kernel_rfl)) (Eq.trans ((e0 (n := 0))) h)
noncomputable def call {α : Type} (g : T13) (ds : List D) (K : List D→Ω α) : Ω α := match ds with
  | [.int .u64 a0] => (g a0).bind fun r => K (sg.enc r)
  | _ => none
theorem call_ok {α : Type} : COK Tryd.prog HW 108 (call (α := α) f) := fun _ _ _ h => by
  unfold call at h; split at h
  · exact cok h fun _ => ok
  · cases h
end ieee_Rank
/-! ### ieee_AtRank: function 109 -/
namespace ieee_AtRank
noncomputable def b0 (c104 : T0) (a0 : Int) : Ω (Int × Bool) := (if a0 > 9218868437227405312 then some (0, false) else (if a0 < (-9218868437227405312) then some (0, false) else (if a0 < 0 then ((c104 (IntKind.u64.wrap (wrap64 (-a0)))).bind fun t1 => some (t1, true)) else some (IntKind.u64.wrap a0, true))))
noncomputable def f (a0 : Int) : Ω (Int × Bool) := b0 ieee_Neg.f a0
noncomputable def sg : Sig (Int × Bool) := s2 (sInt .u64) (s1 (sBool))
noncomputable def code : Code := (Tryd.f109.body).getD .skip
noncomputable def cfg (c104 : T0) : Cfg (Int × Bool) := { T := tys, call := orCall 104 (ieee_Neg.call c104) (noCall) }
noncomputable def cuts : List (Nat × List (Nat × Want)) := []
theorem e0 {c104 n J a0} : afun (cfg c104) J cuts n code Tryd.f109.results.toList [false, false] [.int .i64 a0] sg.out = b0 c104 a0 := by kernel_rfl
theorem ok {a0 r} (h : f a0 = some r) : CallD Tryd.prog HW 109 [.int .i64 a0] (sg.enc r) :=
  fun_some hwS Tryd.func109 (by kernel_rfl) (body := code) (by kernel_rfl) tys_ok (c := cfg ieee_Neg.f) (orCall_ok ieee_Neg.call_ok noCall_ok) noW_ok (by kernel_rfl) (by kernel_rfl) (Nat.le_of_ble_eq_true (by kernel_rfl)) (Eq.trans ((e0 (n := 0))) h)
noncomputable def call {α : Type} (g : T13) (ds : List D) (K : List D→Ω α) : Ω α := match ds with
  | [.int .i64 a0] => (g a0).bind fun r => K (sg.enc r)
  | _ => none
theorem call_ok {α : Type} : COK Tryd.prog HW 109 (call (α := α) f) := fun _ _ _ h => by
  unfold call at h; split at h
  · exact cok h fun _ => ok
  · cases h
end ieee_AtRank
/-! ### ieee_Up: function 83 -/
namespace ieee_Up
noncomputable def b0 (c108 c109 : T13) (a0 : Int) : Ω (Int) := ((c108 a0).bind fun t1 => (if (!t1.2) = true then some 9221120237041090560 else (if t1.1 = 9218868437227405312 then some a0 else (if t1.1 = (-1) then some 9223372036854775808 else ((c109 (wrap64 (t1.1 + 1))).bind fun t2 => some t2.1)))))
noncomputable def f (a0 : Int) : Ω (Int) := b0 ieee_Rank.f ieee_AtRank.f a0
noncomputable def sg : Sig (Int) := s1 (sInt .u64)
noncomputable def code : Code := (Tryd.f83.body).getD .skip
noncomputable def cfg (c108 c109 : T13) : Cfg (Int) := { T := tys, call := orCall 108 (ieee_Rank.call c108) (orCall 109 (ieee_AtRank.call c109) (noCall)) }
noncomputable def cuts : List (Nat × List (Nat × Want)) := []
theorem e0 {c108 c109 n J a0} : afun (cfg c108 c109) J cuts n code Tryd.f83.results.toList [false] [.int .u64 a0] sg.out = b0 c108 c109 a0 := by kernel_rfl
theorem ok {a0 r} (h : f a0 = some r) : CallD Tryd.prog HW 83 [.int .u64 a0] (sg.enc r) :=
  fun_some hwS Tryd.func83 (by kernel_rfl) (body := code) (by kernel_rfl) tys_ok (c := cfg ieee_Rank.f ieee_AtRank.f) (orCall_ok ieee_Rank.call_ok (orCall_ok ieee_AtRank.call_ok noCall_ok)) noW_ok (by kernel_rfl) (by kernel_rfl) (Nat.le_of_ble_eq_true (by kernel_rfl)) (Eq.trans ((e0 (n := 0))) h)
noncomputable def call {α : Type} (g : T0) (ds : List D) (K : List D→Ω α) : Ω α := match ds with
  | [.int .u64 a0] => (g a0).bind fun r => K (sg.enc r)
  | _ => none
theorem call_ok {α : Type} : COK Tryd.prog HW 83 (call (α := α) f) := fun _ _ _ h => by
  unfold call at h; split at h
  · exact cok h fun _ => ok
  · cases h
end ieee_Up
/-! ### abacuslaw04_awake: function 26 -/
namespace abacuslaw04_awake
noncomputable def b0 (c81 : T23) (c82 : T6) (c83 : T0) : Ω (Bool) := ((c81 true [1] [3] 0).bind fun t1 => (if ¬ t1.2 = 0 then some false else (if ¬ t1.1 = 13823048456275842389 then some false else ((c82 4609434218613702656).bind fun t2 => (if t2.2.1 = 2 then (if t2.2.2.1 = 6755399441055744 then (if t2.2.2.2 = (-52) then ((c83 1).bind fun t3 => some (decide (t3 = 2))) else some false) else some false) else some false)))))
noncomputable def f (n : Nat) : Ω (Bool) := b0 (ieee_RoundRatio.f n) ieee_Decode.f ieee_Up.f
noncomputable def sg : Sig (Bool) := s1 (sBool)
noncomputable def code : Code := (Tryd.f26.body).getD .skip
noncomputable def cfg (c81 : T23) (c82 : T6) (c83 : T0) : Cfg (Bool) := { T := tys, call := orCall 81 (ieee_RoundRatio.call c81) (orCall 82 (ieee_Decode.call c82) (orCall 83 (ieee_Up.call c83) (noCall))) }
noncomputable def cuts : List (Nat × List (Nat × Want)) := []
theorem e0 {c81 c82 c83 n J} : afun (cfg c81 c82 c83) J cuts n code Tryd.f26.results.toList [false] [] sg.out = b0 c81 c82 c83 := by kernel_rfl
theorem ok {n r} (h : f n = some r) : CallD Tryd.prog HW 26 [] (sg.enc r) :=
  fun_some hwS Tryd.func26 (by kernel_rfl) (body := code) (by kernel_rfl) tys_ok (c := cfg (ieee_RoundRatio.f n) ieee_Decode.f ieee_Up.f) (orCall_ok (ieee_RoundRatio.call_ok (n := n)) (orCall_ok ieee_Decode.call_ok (orCall_ok ieee_Up.call_ok noCall_ok))) noW_ok (by kernel_rfl) (by kernel_rfl) (Nat.le_of_ble_eq_true (by kernel_rfl)) (Eq.trans ((e0 (n := n))) h)
noncomputable def call {α : Type} (g : T35) (ds : List D) (K : List D→Ω α) : Ω α := match ds with
  | [] => (g).bind fun r => K (sg.enc r)
  | _ :: _ => none
theorem call_ok {α : Type} {n : Nat} : COK Tryd.prog HW 26 (call (α := α) (f n)) := fun _ _ _ h => by
  unfold call at h; split at h
  · exact cok h fun _ => ok
  · cases h
end abacuslaw04_awake
/-! ### abacusref04_Decode: function 84 -/
namespace abacusref04_Decode
noncomputable def b0 (a0 : Int) : Ω (Bool × Int × Int × Int) := (if (wrap64 (Int.tmod (IntKind.u64.wrap (Int.tdiv a0 4503599627370496)) 2048)) = 2047 then (if (Int.tmod a0 4503599627370496) = 0 then some (decide ((IntKind.u64.wrap (Int.tdiv a0 9223372036854775808)) = 1), 3, 0, 0) else some (decide ((IntKind.u64.wrap (Int.tdiv a0 9223372036854775808)) = 1), 4, Int.tmod a0 4503599627370496, 0)) else (if (wrap64 (Int.tmod (IntKind.u64.wrap (Int.tdiv a0 4503599627370496)) 2048)) > 0 then some (decide ((IntKind.u64.wrap (Int.tdiv a0 9223372036854775808)) = 1), 2, IntKind.u64.wrap (4503599627370496 + (Int.tmod a0 4503599627370496)), wrap64 ((wrap64 (Int.tmod (IntKind.u64.wrap (Int.tdiv a0 4503599627370496)) 2048)) - 1075)) else (if (Int.tmod a0 4503599627370496) = 0 then some (decide ((IntKind.u64.wrap (Int.tdiv a0 9223372036854775808)) = 1), 0, 0, 0) else some (decide ((IntKind.u64.wrap (Int.tdiv a0 9223372036854775808)) = 1), 1, Int.tmod a0 4503599627370496, (-1074)))))
noncomputable def f (a0 : Int) : Ω (Bool × Int × Int × Int) := b0 a0
noncomputable def sg : Sig (Bool × Int × Int × Int) := s1 (sAgg (s2 (sBool) (s2 (sInt .i64) (s2 (sInt .u64) (s1 (sInt .i64))))))
noncomputable def code : Code := (Tryd.f84.body).getD .skip
noncomputable def cfg : Cfg (Bool × Int × Int × Int) := { T := tys, call := noCall }
noncomputable def cuts : List (Nat × List (Nat × Want)) := []
theorem e0 {n J a0} : afun cfg J cuts n code Tryd.f84.results.toList [false] [.int .u64 a0] sg.out = b0 a0 := by kernel_rfl
theorem ok {a0 r} (h : f a0 = some r) : CallD Tryd.prog HW 84 [.int .u64 a0] (sg.enc r) :=
  fun_some hwS Tryd.func84 (by kernel_rfl) (body := code) (by kernel_rfl) tys_ok (c := cfg) noCall_ok noW_ok (by kernel_rfl) (by kernel_rfl) (Nat.le_of_ble_eq_true (by kernel_rfl)) (Eq.trans ((e0 (n := 0))) h)
noncomputable def call {α : Type} (g : T6) (ds : List D) (K : List D→Ω α) : Ω α := match ds with
  | [.int .u64 a0] => (g a0).bind fun r => K (sg.enc r)
  | _ => none
theorem call_ok {α : Type} : COK Tryd.prog HW 84 (call (α := α) f) := fun _ _ _ h => by
  unfold call at h; split at h
  · exact cok h fun _ => ok
  · cases h
end abacusref04_Decode
/-! ### abacusref04_put: function 145 -/
namespace abacusref04_put
noncomputable def b0 (a0 : Bool) (a1 a2 : Int) : Ω (Int) := (if a0 = true then some (IntKind.u64.wrap ((IntKind.u64.wrap ((IntKind.u64.wrap ((IntKind.u64.wrap a1) * 4503599627370496)) + a2)) + 9223372036854775808)) else some (IntKind.u64.wrap ((IntKind.u64.wrap ((IntKind.u64.wrap a1) * 4503599627370496)) + a2)))
noncomputable def f (a0 : Bool) (a1 a2 : Int) : Ω (Int) := b0 a0 a1 a2
noncomputable def sg : Sig (Int) := s1 (sInt .u64)
noncomputable def code : Code := (Tryd.f145.body).getD .skip
noncomputable def cfg : Cfg (Int) := { T := tys, call := noCall }
noncomputable def cuts : List (Nat × List (Nat × Want)) := []
theorem e0 {n J a0 a1 a2} : afun cfg J cuts n code Tryd.f145.results.toList [false] [.bool a0, .int .i64 a1, .int .u64 a2] sg.out = b0 a0 a1 a2 := by kernel_rfl
theorem ok {a0 a1 a2 r} (h : f a0 a1 a2 = some r) : CallD Tryd.prog HW 145 [.bool a0, .int .i64 a1, .int .u64 a2] (sg.enc r) :=
  fun_some hwS Tryd.func145 (by kernel_rfl) (body := code) (by kernel_rfl) tys_ok (c := cfg) noCall_ok noW_ok (by kernel_rfl) (by kernel_rfl) (Nat.le_of_ble_eq_true (by kernel_rfl)) (Eq.trans ((e0 (n := 0))) h)
noncomputable def call {α : Type} (g : T11) (ds : List D) (K : List D→Ω α) : Ω α := match ds with
  | [.bool a0, .int .i64 a1, .int .u64 a2] => (g a0 a1 a2).bind fun r => K (sg.enc r)
  | _ => none
theorem call_ok {α : Type} : COK Tryd.prog HW 145 (call (α := α) f) := fun _ _ _ h => by
  unfold call at h; split at h
  · exact cok h fun _ => ok
  · cases h
end abacusref04_put
/-! ### abacusref04_Encode: function 85 -/
namespace abacusref04_Encode
noncomputable def b0 (c84 : T6) (c145 : T11) (k31 : T38) (a0 : Bool) (a1 a2 a3 : Int) : Ω (Int × Int) := (if a1 < 0 then some (0, 40) else (if a1 > 4 then some (0, 40) else (if a2 ≥ 9007199254740992 then some (0, 40) else (if a3 < (-1074) then some (0, 40) else (if a3 > 971 then some (0, 40) else (if a1 = 2 then k31 (wrap64 (a3 + 1075)) a0 a1 a2 a3 else k31 0 a0 a1 a2 a3))))))
noncomputable def b31 (c84 : T6) (c145 : T11) (k63 : T38) (x0 : Int) (x1 : Bool) (x2 x3 x4 : Int) : Ω (Int × Int) := (if x2 > 2 then k63 2047 x1 x2 x3 x4 else k63 x0 x1 x2 x3 x4)
noncomputable def b63 (c84 : T6) (c145 : T11) (x0 : Int) (x1 : Bool) (x2 x3 x4 : Int) : Ω (Int × Int) := ((c145 x1 x0 (Int.tmod x3 4503599627370496)).bind fun t1 => ((c84 t1).bind fun t2 => (if (t2.1 != x1) = true then some (0, 40) else (if ¬ t2.2.1 = x2 then some (0, 40) else (if ¬ t2.2.2.1 = x3 then some (0, 40) else (if ¬ t2.2.2.2 = x4 then some (0, 40) else some (t1, 0)))))))
noncomputable def l63 (x0 : Int) (x1 : Bool) (x2 x3 x4 : Int) : Ω (Int × Int) := b63 abacusref04_Decode.f abacusref04_put.f x0 x1 x2 x3 x4
noncomputable def l31 (x0 : Int) (x1 : Bool) (x2 x3 x4 : Int) : Ω (Int × Int) := b31 abacusref04_Decode.f abacusref04_put.f (l63) x0 x1 x2 x3 x4
noncomputable def f (a0 : Bool) (a1 a2 a3 : Int) : Ω (Int × Int) := b0 abacusref04_Decode.f abacusref04_put.f (l31) a0 a1 a2 a3
noncomputable def sg : Sig (Int × Int) := s2 (sInt .u64) (s1 (sInt .i64))
noncomputable def code : Code := (Tryd.f85.body).getD .skip
noncomputable def cfg (c84 : T6) (c145 : T11) : Cfg (Int × Int) := { T := tys, call := orCall 84 (abacusref04_Decode.call c84) (orCall 145 (abacusref04_put.call c145) (noCall)) }
noncomputable def cuts : List (Nat × List (Nat × Want)) := [(31, [(1, .keep), (4, .keep)]), (63, [(1, .keep), (4, .keep)])]
noncomputable def s31 (x0 : Int) (x1 : Bool) (x2 x3 x4 : Int) : ASt := ⟨[(1, .ptr 0 0), (4, .int .i64 x0)], [.cells 51 [.bool x1, .int .i64 x2, .int .u64 x3, .int .i64 x4]]⟩
noncomputable def s63 (x0 : Int) (x1 : Bool) (x2 x3 x4 : Int) : ASt := ⟨[(1, .ptr 0 0), (4, .int .i64 x0)], [.cells 51 [.bool x1, .int .i64 x2, .int .u64 x3, .int .i64 x4]]⟩
noncomputable def A (c84 : T6) (c145 : T11) (n : Nat) (J : Jt (Int × Int)) (q : Nat) (ms : List Nat) : ASt→Ω (Int × Int) := acont (cfg c84 c145) J cuts n q code 1 ms (aend (cfg c84 c145) Tryd.f85.results.toList [false, false] sg.out)
theorem e0 {c84 c145 n J a0 a1 a2 a3} : afun (cfg c84 c145) J cuts n code Tryd.f85.results.toList [false, false] [.agg [.bool a0, .int .i64 a1, .int .u64 a2, .int .i64 a3]] sg.out = b0 c84 c145 (fun y0 y1 y2 y3 y4 => J 31 (A c84 c145 n J 31 []) (s31 y0 y1 y2 y3 y4)) a0 a1 a2 a3 := by kernel_rfl
theorem e31 {c84 c145 n J x0 x1 x2 x3 x4} : A c84 c145 n J 31 [] (s31 x0 x1 x2 x3 x4) = b31 c84 c145 (fun y0 y1 y2 y3 y4 => J 63 (A c84 c145 n J 63 []) (s63 y0 y1 y2 y3 y4)) x0 x1 x2 x3 x4 := by kernel_rfl
theorem e63 {c84 c145 n J x0 x1 x2 x3 x4} : A c84 c145 n J 63 [] (s63 x0 x1 x2 x3 x4) = b63 c84 c145 x0 x1 x2 x3 x4 := by kernel_rfl
noncomputable abbrev I (n : Nat) := A abacusref04_Decode.f abacusref04_put.f n idJ
theorem q63 (n x0 x1 x2 x3 x4) : I n 63 [] (s63 x0 x1 x2 x3 x4) = l63 x0 x1 x2 x3 x4 := e63
theorem q31 (n x0 x1 x2 x3 x4) : I n 31 [] (s31 x0 x1 x2 x3 x4) = l31 x0 x1 x2 x3 x4 := e31.trans (Eq.trans (cf5 (congrArg (b31 _ _) (fu5 (q63 n))) _ _ _ _ _) rfl)
theorem ok {a0 a1 a2 a3 r} (h : f a0 a1 a2 a3 = some r) : CallD Tryd.prog HW 85 [.agg [.bool a0, .int .i64 a1, .int .u64 a2, .int .i64 a3]] (sg.enc r) :=
  fun_some hwS Tryd.func85 (by kernel_rfl) (body := code) (by kernel_rfl) tys_ok (c := cfg abacusref04_Decode.f abacusref04_put.f) (orCall_ok abacusref04_Decode.call_ok (orCall_ok abacusref04_put.call_ok noCall_ok)) noW_ok (by kernel_rfl) (by kernel_rfl) (Nat.le_of_ble_eq_true (by kernel_rfl)) (Eq.trans ((e0 (n := 0)).trans (Eq.trans (cf4 (congrArg (b0 _ _) (fu5 (q31 0))) _ _ _ _) rfl)) h)
noncomputable def call {α : Type} (g : T31) (ds : List D) (K : List D→Ω α) : Ω α := match ds with
  | [.agg [.bool a0, .int .i64 a1, .int .u64 a2, .int .i64 a3]] => (g a0 a1 a2 a3).bind fun r => K (sg.enc r)
  | _ => none
theorem call_ok {α : Type} : COK Tryd.prog HW 85 (call (α := α) f) := fun _ _ _ h => by
  unfold call at h; split at h
  · exact cok h fun _ => ok
  · cases h
end abacusref04_Encode
/-! ### abacusref04_Class: function 86 -/
namespace abacusref04_Class
noncomputable def b0 (c84 : T6) (a0 : Int) : Ω (Int) := ((c84 a0).bind fun t1 => some t1.2.1)
noncomputable def f (a0 : Int) : Ω (Int) := b0 abacusref04_Decode.f a0
noncomputable def sg : Sig (Int) := s1 (sInt .i64)
noncomputable def code : Code := (Tryd.f86.body).getD .skip
noncomputable def cfg (c84 : T6) : Cfg (Int) := { T := tys, call := orCall 84 (abacusref04_Decode.call c84) (noCall) }
noncomputable def cuts : List (Nat × List (Nat × Want)) := []
theorem e0 {c84 n J a0} : afun (cfg c84) J cuts n code Tryd.f86.results.toList [false] [.int .u64 a0] sg.out = b0 c84 a0 := by kernel_rfl
theorem ok {a0 r} (h : f a0 = some r) : CallD Tryd.prog HW 86 [.int .u64 a0] (sg.enc r) :=
  fun_some hwS Tryd.func86 (by kernel_rfl) (body := code) (by kernel_rfl) tys_ok (c := cfg abacusref04_Decode.f) (orCall_ok abacusref04_Decode.call_ok noCall_ok) noW_ok (by kernel_rfl) (by kernel_rfl) (Nat.le_of_ble_eq_true (by kernel_rfl)) (Eq.trans ((e0 (n := 0))) h)
noncomputable def call {α : Type} (g : T0) (ds : List D) (K : List D→Ω α) : Ω α := match ds with
  | [.int .u64 a0] => (g a0).bind fun r => K (sg.enc r)
  | _ => none
theorem call_ok {α : Type} : COK Tryd.prog HW 86 (call (α := α) f) := fun _ _ _ h => by
  unfold call at h; split at h
  · exact cok h fun _ => ok
  · cases h
end abacusref04_Class
/-! ### abacusref04_Neg: function 87 -/
namespace abacusref04_Neg
noncomputable def b0 (a0 : Int) : Ω (Int) := (if a0 ≥ 9223372036854775808 then some (IntKind.u64.wrap (a0 - 9223372036854775808)) else some (IntKind.u64.wrap (a0 + 9223372036854775808)))
noncomputable def f (a0 : Int) : Ω (Int) := b0 a0
noncomputable def sg : Sig (Int) := s1 (sInt .u64)
noncomputable def code : Code := (Tryd.f87.body).getD .skip
noncomputable def cfg : Cfg (Int) := { T := tys, call := noCall }
noncomputable def cuts : List (Nat × List (Nat × Want)) := []
theorem e0 {n J a0} : afun cfg J cuts n code Tryd.f87.results.toList [false] [.int .u64 a0] sg.out = b0 a0 := by kernel_rfl
theorem ok {a0 r} (h : f a0 = some r) : CallD Tryd.prog HW 87 [.int .u64 a0] (sg.enc r) :=
  fun_some hwS Tryd.func87 (by kernel_rfl) (body := code) (by kernel_rfl) tys_ok (c := cfg) noCall_ok noW_ok (by kernel_rfl) (by kernel_rfl) (Nat.le_of_ble_eq_true (by kernel_rfl)) (Eq.trans ((e0 (n := 0))) h)
noncomputable def call {α : Type} (g : T0) (ds : List D) (K : List D→Ω α) : Ω α := match ds with
  | [.int .u64 a0] => (g a0).bind fun r => K (sg.enc r)
  | _ => none
theorem call_ok {α : Type} : COK Tryd.prog HW 87 (call (α := α) f) := fun _ _ _ h => by
  unfold call at h; split at h
  · exact cok h fun _ => ok
  · cases h
end abacusref04_Neg
/-! ### abacusref04_Abs: function 88 -/
namespace abacusref04_Abs
noncomputable def b0 (a0 : Int) : Ω (Int) := some (Int.tmod a0 9223372036854775808)
noncomputable def f (a0 : Int) : Ω (Int) := b0 a0
noncomputable def sg : Sig (Int) := s1 (sInt .u64)
noncomputable def code : Code := (Tryd.f88.body).getD .skip
noncomputable def cfg : Cfg (Int) := { T := tys, call := noCall }
noncomputable def cuts : List (Nat × List (Nat × Want)) := []
theorem e0 {n J a0} : afun cfg J cuts n code Tryd.f88.results.toList [false] [.int .u64 a0] sg.out = b0 a0 := by kernel_rfl
theorem ok {a0 r} (h : f a0 = some r) : CallD Tryd.prog HW 88 [.int .u64 a0] (sg.enc r) :=
  fun_some hwS Tryd.func88 (by kernel_rfl) (body := code) (by kernel_rfl) tys_ok (c := cfg) noCall_ok noW_ok (by kernel_rfl) (by kernel_rfl) (Nat.le_of_ble_eq_true (by kernel_rfl)) (Eq.trans ((e0 (n := 0))) h)
noncomputable def call {α : Type} (g : T0) (ds : List D) (K : List D→Ω α) : Ω α := match ds with
  | [.int .u64 a0] => (g a0).bind fun r => K (sg.enc r)
  | _ => none
theorem call_ok {α : Type} : COK Tryd.prog HW 88 (call (α := α) f) := fun _ _ _ h => by
  unfold call at h; split at h
  · exact cok h fun _ => ok
  · cases h
end abacusref04_Abs
/-! ### abacusref04_IsNaN: function 146 -/
namespace abacusref04_IsNaN
noncomputable def b0 (c88 : T0) (a0 : Int) : Ω (Bool) := ((c88 a0).bind fun t1 => some (decide (t1 > 9218868437227405312)))
noncomputable def f (a0 : Int) : Ω (Bool) := b0 abacusref04_Abs.f a0
noncomputable def sg : Sig (Bool) := s1 (sBool)
noncomputable def code : Code := (Tryd.f146.body).getD .skip
noncomputable def cfg (c88 : T0) : Cfg (Bool) := { T := tys, call := orCall 88 (abacusref04_Abs.call c88) (noCall) }
noncomputable def cuts : List (Nat × List (Nat × Want)) := []
theorem e0 {c88 n J a0} : afun (cfg c88) J cuts n code Tryd.f146.results.toList [false] [.int .u64 a0] sg.out = b0 c88 a0 := by kernel_rfl
theorem ok {a0 r} (h : f a0 = some r) : CallD Tryd.prog HW 146 [.int .u64 a0] (sg.enc r) :=
  fun_some hwS Tryd.func146 (by kernel_rfl) (body := code) (by kernel_rfl) tys_ok (c := cfg abacusref04_Abs.f) (orCall_ok abacusref04_Abs.call_ok noCall_ok) noW_ok (by kernel_rfl) (by kernel_rfl) (Nat.le_of_ble_eq_true (by kernel_rfl)) (Eq.trans ((e0 (n := 0))) h)
noncomputable def call {α : Type} (g : T9) (ds : List D) (K : List D→Ω α) : Ω α := match ds with
  | [.int .u64 a0] => (g a0).bind fun r => K (sg.enc r)
  | _ => none
theorem call_ok {α : Type} : COK Tryd.prog HW 146 (call (α := α) f) := fun _ _ _ h => by
  unfold call at h; split at h
  · exact cok h fun _ => ok
  · cases h
end abacusref04_IsNaN
/-! ### abacusref04_rank: function 147 -/
namespace abacusref04_rank
noncomputable def b0 (c88 : T0) (a0 : Int) : Ω (Int) := ((c88 a0).bind fun t1 => (if a0 ≥ 9223372036854775808 then some (wrap64 (-(wrap64 t1))) else some (wrap64 t1)))
noncomputable def f (a0 : Int) : Ω (Int) := b0 abacusref04_Abs.f a0
noncomputable def sg : Sig (Int) := s1 (sInt .i64)
noncomputable def code : Code := (Tryd.f147.body).getD .skip
noncomputable def cfg (c88 : T0) : Cfg (Int) := { T := tys, call := orCall 88 (abacusref04_Abs.call c88) (noCall) }
noncomputable def cuts : List (Nat × List (Nat × Want)) := []
theorem e0 {c88 n J a0} : afun (cfg c88) J cuts n code Tryd.f147.results.toList [false] [.int .u64 a0] sg.out = b0 c88 a0 := by kernel_rfl
theorem ok {a0 r} (h : f a0 = some r) : CallD Tryd.prog HW 147 [.int .u64 a0] (sg.enc r) :=
  fun_some hwS Tryd.func147 (by kernel_rfl) (body := code) (by kernel_rfl) tys_ok (c := cfg abacusref04_Abs.f) (orCall_ok abacusref04_Abs.call_ok noCall_ok) noW_ok (by kernel_rfl) (by kernel_rfl) (Nat.le_of_ble_eq_true (by kernel_rfl)) (Eq.trans ((e0 (n := 0))) h)
noncomputable def call {α : Type} (g : T0) (ds : List D) (K : List D→Ω α) : Ω α := match ds with
  | [.int .u64 a0] => (g a0).bind fun r => K (sg.enc r)
  | _ => none
theorem call_ok {α : Type} : COK Tryd.prog HW 147 (call (α := α) f) := fun _ _ _ h => by
  unfold call at h; split at h
  · exact cok h fun _ => ok
  · cases h
end abacusref04_rank
/-! ### abacusref04_Compare: function 89 -/
namespace abacusref04_Compare
noncomputable def b0 (c146 : T9) (c147 : T0) (a0 a1 : Int) : Ω (Int × Bool) := ((c146 a0).bind fun t1 => (if t1 = true then some (0, false) else ((c146 a1).bind fun t2 => (if t2 = true then some (0, false) else ((c147 a0).bind fun t3 => ((c147 a1).bind fun t4 => (if t3 < t4 then some ((-1), true) else (if t3 > t4 then some (1, true) else some (0, true)))))))))
noncomputable def f (a0 a1 : Int) : Ω (Int × Bool) := b0 abacusref04_IsNaN.f abacusref04_rank.f a0 a1
noncomputable def sg : Sig (Int × Bool) := s2 (sInt .i64) (s1 (sBool))
noncomputable def code : Code := (Tryd.f89.body).getD .skip
noncomputable def cfg (c146 : T9) (c147 : T0) : Cfg (Int × Bool) := { T := tys, call := orCall 146 (abacusref04_IsNaN.call c146) (orCall 147 (abacusref04_rank.call c147) (noCall)) }
noncomputable def cuts : List (Nat × List (Nat × Want)) := []
theorem e0 {c146 c147 n J a0 a1} : afun (cfg c146 c147) J cuts n code Tryd.f89.results.toList [false, false] [.int .u64 a0, .int .u64 a1] sg.out = b0 c146 c147 a0 a1 := by kernel_rfl
theorem ok {a0 a1 r} (h : f a0 a1 = some r) : CallD Tryd.prog HW 89 [.int .u64 a0, .int .u64 a1] (sg.enc r) :=
  fun_some hwS Tryd.func89 (by kernel_rfl) (body := code) (by kernel_rfl) tys_ok (c := cfg abacusref04_IsNaN.f abacusref04_rank.f) (orCall_ok abacusref04_IsNaN.call_ok (orCall_ok abacusref04_rank.call_ok noCall_ok)) noW_ok (by kernel_rfl) (by kernel_rfl) (Nat.le_of_ble_eq_true (by kernel_rfl)) (Eq.trans ((e0 (n := 0))) h)
noncomputable def call {α : Type} (g : T32) (ds : List D) (K : List D→Ω α) : Ω α := match ds with
  | [.int .u64 a0, .int .u64 a1] => (g a0 a1).bind fun r => K (sg.enc r)
  | _ => none
theorem call_ok {α : Type} : COK Tryd.prog HW 89 (call (α := α) f) := fun _ _ _ h => by
  unfold call at h; split at h
  · exact cok h fun _ => ok
  · cases h
end abacusref04_Compare
/-! ### abacusref04_Total: function 90 -/
namespace abacusref04_Total
noncomputable def b0 (c88 : T0) (k15 : T12) (a0 a1 : Int) : Ω (Int) := (if a0 ≥ 9223372036854775808 then ((c88 a0).bind fun t1 => k15 a1 (IntKind.u64.wrap (9223372036854775807 - t1))) else k15 a1 (IntKind.u64.wrap (a0 + 9223372036854775808)))
noncomputable def b15 (c88 : T0) (k63 : T12) (x0 x1 : Int) : Ω (Int) := (if x0 ≥ 9223372036854775808 then ((c88 x0).bind fun t1 => k63 x1 (IntKind.u64.wrap (9223372036854775807 - t1))) else k63 x1 (IntKind.u64.wrap (x0 + 9223372036854775808)))
noncomputable def b63 (c88 : T0) (x0 x1 : Int) : Ω (Int) := (if x0 < x1 then some (-1) else (if x0 > x1 then some 1 else some 0))
noncomputable def l63 (x0 x1 : Int) : Ω (Int) := b63 abacusref04_Abs.f x0 x1
noncomputable def l15 (x0 x1 : Int) : Ω (Int) := b15 abacusref04_Abs.f (l63) x0 x1
noncomputable def f (a0 a1 : Int) : Ω (Int) := b0 abacusref04_Abs.f (l15) a0 a1
noncomputable def sg : Sig (Int) := s1 (sInt .i64)
noncomputable def code : Code := (Tryd.f90.body).getD .skip
noncomputable def cfg (c88 : T0) : Cfg (Int) := { T := tys, call := orCall 88 (abacusref04_Abs.call c88) (noCall) }
noncomputable def cuts : List (Nat × List (Nat × Want)) := [(15, [(1, .keep), (5, .keep)]), (63, [(5, .keep), (6, .keep)])]
noncomputable def s15 (x0 x1 : Int) : ASt := ⟨[(1, .int .u64 x0), (5, .int .u64 x1)], []⟩
noncomputable def s63 (x0 x1 : Int) : ASt := ⟨[(5, .int .u64 x0), (6, .int .u64 x1)], []⟩
noncomputable def A (c88 : T0) (n : Nat) (J : Jt (Int)) (q : Nat) (ms : List Nat) : ASt→Ω (Int) := acont (cfg c88) J cuts n q code 1 ms (aend (cfg c88) Tryd.f90.results.toList [false] sg.out)
theorem e0 {c88 n J a0 a1} : afun (cfg c88) J cuts n code Tryd.f90.results.toList [false] [.int .u64 a0, .int .u64 a1] sg.out = b0 c88 (fun y0 y1 => J 15 (A c88 n J 15 []) (s15 y0 y1)) a0 a1 := by kernel_rfl
theorem e15 {c88 n J x0 x1} : A c88 n J 15 [] (s15 x0 x1) = b15 c88 (fun y0 y1 => J 63 (A c88 n J 63 []) (s63 y0 y1)) x0 x1 := by kernel_rfl
theorem e63 {c88 n J x0 x1} : A c88 n J 63 [] (s63 x0 x1) = b63 c88 x0 x1 := by kernel_rfl
noncomputable abbrev I (n : Nat) := A abacusref04_Abs.f n idJ
theorem q63 (n x0 x1) : I n 63 [] (s63 x0 x1) = l63 x0 x1 := e63
theorem q15 (n x0 x1) : I n 15 [] (s15 x0 x1) = l15 x0 x1 := e15.trans (Eq.trans (cf2 (congrArg (b15 _) (fu2 (q63 n))) _ _) rfl)
theorem ok {a0 a1 r} (h : f a0 a1 = some r) : CallD Tryd.prog HW 90 [.int .u64 a0, .int .u64 a1] (sg.enc r) :=
  fun_some hwS Tryd.func90 (by kernel_rfl) (body := code) (by kernel_rfl) tys_ok (c := cfg abacusref04_Abs.f) (orCall_ok abacusref04_Abs.call_ok noCall_ok) noW_ok (by kernel_rfl) (by kernel_rfl) (Nat.le_of_ble_eq_true (by kernel_rfl)) (Eq.trans ((e0 (n := 0)).trans (Eq.trans (cf2 (congrArg (b0 _) (fu2 (q15 0))) _ _) rfl)) h)
noncomputable def call {α : Type} (g : T12) (ds : List D) (K : List D→Ω α) : Ω α := match ds with
  | [.int .u64 a0, .int .u64 a1] => (g a0 a1).bind fun r => K (sg.enc r)
  | _ => none
theorem call_ok {α : Type} : COK Tryd.prog HW 90 (call (α := α) f) := fun _ _ _ h => by
  unfold call at h; split at h
  · exact cok h fun _ => ok
  · cases h
end abacusref04_Total
/-! ### abacusref04_Rank: function 91 -/
namespace abacusref04_Rank
noncomputable def b0 (c146 : T9) (c147 : T0) (a0 : Int) : Ω (Int × Bool) := ((c146 a0).bind fun t1 => (if t1 = true then some (0, false) else ((c147 a0).bind fun t2 => some (t2, true))))
noncomputable def f (a0 : Int) : Ω (Int × Bool) := b0 abacusref04_IsNaN.f abacusref04_rank.f a0
noncomputable def sg : Sig (Int × Bool) := s2 (sInt .i64) (s1 (sBool))
noncomputable def code : Code := (Tryd.f91.body).getD .skip
noncomputable def cfg (c146 : T9) (c147 : T0) : Cfg (Int × Bool) := { T := tys, call := orCall 146 (abacusref04_IsNaN.call c146) (orCall 147 (abacusref04_rank.call c147) (noCall)) }
noncomputable def cuts : List (Nat × List (Nat × Want)) := []
theorem e0 {c146 c147 n J a0} : afun (cfg c146 c147) J cuts n code Tryd.f91.results.toList [false, false] [.int .u64 a0] sg.out = b0 c146 c147 a0 := by kernel_rfl
theorem ok {a0 r} (h : f a0 = some r) : CallD Tryd.prog HW 91 [.int .u64 a0] (sg.enc r) :=
  fun_some hwS Tryd.func91 (by kernel_rfl) (body := code) (by kernel_rfl) tys_ok (c := cfg abacusref04_IsNaN.f abacusref04_rank.f) (orCall_ok abacusref04_IsNaN.call_ok (orCall_ok abacusref04_rank.call_ok noCall_ok)) noW_ok (by kernel_rfl) (by kernel_rfl) (Nat.le_of_ble_eq_true (by kernel_rfl)) (Eq.trans ((e0 (n := 0))) h)
noncomputable def call {α : Type} (g : T13) (ds : List D) (K : List D→Ω α) : Ω α := match ds with
  | [.int .u64 a0] => (g a0).bind fun r => K (sg.enc r)
  | _ => none
theorem call_ok {α : Type} : COK Tryd.prog HW 91 (call (α := α) f) := fun _ _ _ h => by
  unfold call at h; split at h
  · exact cok h fun _ => ok
  · cases h
end abacusref04_Rank
/-! ### abacusref04_AtRank: function 92 -/
namespace abacusref04_AtRank
noncomputable def b0 (a0 : Int) : Ω (Int × Bool) := (if a0 > 9218868437227405312 then some (0, false) else (if a0 < (-9218868437227405312) then some (0, false) else (if a0 < 0 then some (IntKind.u64.wrap (9223372036854775808 + (IntKind.u64.wrap (wrap64 (-a0)))), true) else some (IntKind.u64.wrap a0, true))))
noncomputable def f (a0 : Int) : Ω (Int × Bool) := b0 a0
noncomputable def sg : Sig (Int × Bool) := s2 (sInt .u64) (s1 (sBool))
noncomputable def code : Code := (Tryd.f92.body).getD .skip
noncomputable def cfg : Cfg (Int × Bool) := { T := tys, call := noCall }
noncomputable def cuts : List (Nat × List (Nat × Want)) := []
theorem e0 {n J a0} : afun cfg J cuts n code Tryd.f92.results.toList [false, false] [.int .i64 a0] sg.out = b0 a0 := by kernel_rfl
theorem ok {a0 r} (h : f a0 = some r) : CallD Tryd.prog HW 92 [.int .i64 a0] (sg.enc r) :=
  fun_some hwS Tryd.func92 (by kernel_rfl) (body := code) (by kernel_rfl) tys_ok (c := cfg) noCall_ok noW_ok (by kernel_rfl) (by kernel_rfl) (Nat.le_of_ble_eq_true (by kernel_rfl)) (Eq.trans ((e0 (n := 0))) h)
noncomputable def call {α : Type} (g : T13) (ds : List D) (K : List D→Ω α) : Ω α := match ds with
  | [.int .i64 a0] => (g a0).bind fun r => K (sg.enc r)
  | _ => none
theorem call_ok {α : Type} : COK Tryd.prog HW 92 (call (α := α) f) := fun _ _ _ h => by
  unfold call at h; split at h
  · exact cok h fun _ => ok
  · cases h
end abacusref04_AtRank
/-! ### abacusref04_Up: function 93 -/
namespace abacusref04_Up
noncomputable def b0 (c146 : T9) (c147 : T0) (a0 : Int) : Ω (Int) := ((c146 a0).bind fun t1 => (if t1 = true then some 9221120237041090560 else ((c147 a0).bind fun t2 => (if t2 = 9218868437227405312 then some a0 else (if t2 ≥ 0 then some (IntKind.u64.wrap (wrap64 (t2 + 1))) else some (IntKind.u64.wrap (9223372036854775808 + (IntKind.u64.wrap (wrap64 ((wrap64 (-t2)) - 1))))))))))
noncomputable def f (a0 : Int) : Ω (Int) := b0 abacusref04_IsNaN.f abacusref04_rank.f a0
noncomputable def sg : Sig (Int) := s1 (sInt .u64)
noncomputable def code : Code := (Tryd.f93.body).getD .skip
noncomputable def cfg (c146 : T9) (c147 : T0) : Cfg (Int) := { T := tys, call := orCall 146 (abacusref04_IsNaN.call c146) (orCall 147 (abacusref04_rank.call c147) (noCall)) }
noncomputable def cuts : List (Nat × List (Nat × Want)) := []
theorem e0 {c146 c147 n J a0} : afun (cfg c146 c147) J cuts n code Tryd.f93.results.toList [false] [.int .u64 a0] sg.out = b0 c146 c147 a0 := by kernel_rfl
theorem ok {a0 r} (h : f a0 = some r) : CallD Tryd.prog HW 93 [.int .u64 a0] (sg.enc r) :=
  fun_some hwS Tryd.func93 (by kernel_rfl) (body := code) (by kernel_rfl) tys_ok (c := cfg abacusref04_IsNaN.f abacusref04_rank.f) (orCall_ok abacusref04_IsNaN.call_ok (orCall_ok abacusref04_rank.call_ok noCall_ok)) noW_ok (by kernel_rfl) (by kernel_rfl) (Nat.le_of_ble_eq_true (by kernel_rfl)) (Eq.trans ((e0 (n := 0))) h)
noncomputable def call {α : Type} (g : T0) (ds : List D) (K : List D→Ω α) : Ω α := match ds with
  | [.int .u64 a0] => (g a0).bind fun r => K (sg.enc r)
  | _ => none
theorem call_ok {α : Type} : COK Tryd.prog HW 93 (call (α := α) f) := fun _ _ _ h => by
  unfold call at h; split at h
  · exact cok h fun _ => ok
  · cases h
end abacusref04_Up
/-! ### abacusref04_Down: function 94 -/
namespace abacusref04_Down
noncomputable def b0 (c87 c93 : T0) (c146 : T9) (a0 : Int) : Ω (Int) := ((c146 a0).bind fun t1 => (if t1 = true then some 9221120237041090560 else ((c87 a0).bind fun t2 => ((c93 t2).bind fun t3 => ((c87 t3).bind fun t4 => some t4)))))
noncomputable def f (a0 : Int) : Ω (Int) := b0 abacusref04_Neg.f abacusref04_Up.f abacusref04_IsNaN.f a0
noncomputable def sg : Sig (Int) := s1 (sInt .u64)
noncomputable def code : Code := (Tryd.f94.body).getD .skip
noncomputable def cfg (c87 c93 : T0) (c146 : T9) : Cfg (Int) := { T := tys, call := orCall 87 (abacusref04_Neg.call c87) (orCall 93 (abacusref04_Up.call c93) (orCall 146 (abacusref04_IsNaN.call c146) (noCall))) }
noncomputable def cuts : List (Nat × List (Nat × Want)) := []
theorem e0 {c87 c93 c146 n J a0} : afun (cfg c87 c93 c146) J cuts n code Tryd.f94.results.toList [false] [.int .u64 a0] sg.out = b0 c87 c93 c146 a0 := by kernel_rfl
theorem ok {a0 r} (h : f a0 = some r) : CallD Tryd.prog HW 94 [.int .u64 a0] (sg.enc r) :=
  fun_some hwS Tryd.func94 (by kernel_rfl) (body := code) (by kernel_rfl) tys_ok (c := cfg abacusref04_Neg.f abacusref04_Up.f abacusref04_IsNaN.f) (orCall_ok abacusref04_Neg.call_ok (orCall_ok abacusref04_Up.call_ok (orCall_ok abacusref04_IsNaN.call_ok noCall_ok))) noW_ok (by kernel_rfl) (by kernel_rfl) (Nat.le_of_ble_eq_true (by kernel_rfl)) (Eq.trans ((e0 (n := 0))) h)
noncomputable def call {α : Type} (g : T0) (ds : List D) (K : List D→Ω α) : Ω α := match ds with
  | [.int .u64 a0] => (g a0).bind fun r => K (sg.enc r)
  | _ => none
theorem call_ok {α : Type} : COK Tryd.prog HW 94 (call (α := α) f) := fun _ _ _ h => by
  unfold call at h; split at h
  · exact cok h fun _ => ok
  · cases h
end abacusref04_Down
/-! ### abacusref04_Finite: function 148 -/
namespace abacusref04_Finite
noncomputable def b0 (c88 : T0) (a0 : Int) : Ω (Bool) := ((c88 a0).bind fun t1 => some (decide (t1 < 9218868437227405312)))
noncomputable def f (a0 : Int) : Ω (Bool) := b0 abacusref04_Abs.f a0
noncomputable def sg : Sig (Bool) := s1 (sBool)
noncomputable def code : Code := (Tryd.f148.body).getD .skip
noncomputable def cfg (c88 : T0) : Cfg (Bool) := { T := tys, call := orCall 88 (abacusref04_Abs.call c88) (noCall) }
noncomputable def cuts : List (Nat × List (Nat × Want)) := []
theorem e0 {c88 n J a0} : afun (cfg c88) J cuts n code Tryd.f148.results.toList [false] [.int .u64 a0] sg.out = b0 c88 a0 := by kernel_rfl
theorem ok {a0 r} (h : f a0 = some r) : CallD Tryd.prog HW 148 [.int .u64 a0] (sg.enc r) :=
  fun_some hwS Tryd.func148 (by kernel_rfl) (body := code) (by kernel_rfl) tys_ok (c := cfg abacusref04_Abs.f) (orCall_ok abacusref04_Abs.call_ok noCall_ok) noW_ok (by kernel_rfl) (by kernel_rfl) (Nat.le_of_ble_eq_true (by kernel_rfl)) (Eq.trans ((e0 (n := 0))) h)
noncomputable def call {α : Type} (g : T9) (ds : List D) (K : List D→Ω α) : Ω α := match ds with
  | [.int .u64 a0] => (g a0).bind fun r => K (sg.enc r)
  | _ => none
theorem call_ok {α : Type} : COK Tryd.prog HW 148 (call (α := α) f) := fun _ _ _ h => by
  unfold call at h; split at h
  · exact cok h fun _ => ok
  · cases h
end abacusref04_Finite
/-! ### abacusref01_Trail: function 39 -/
namespace abacusref01_Trail
noncomputable def b0 (k53 : T8) (l0 : Λ) : Ω (Int) := k53 l0 0
noncomputable def b53 (k53 : T8) (k53845 : T12) (x0 : Λ) (x1 : Int) : Ω (Int) := (if x1 < (ln x0) then (if 0 ≤ x1 then (if x1 < (ln x0) then (if ¬ (rd x0 x1) = 0 then (if 0 ≤ x1 then (if x1 < (ln x0) then k53845 (wrap64 (64 * x1)) (rd x0 x1) else none) else none) else k53 x0 (wrap64 (x1 + 1))) else none) else none) else some 0)
noncomputable def b53845 (k53845 : T12) (x0 x1 : Int) : Ω (Int) := (if (Int.tmod x1 2) = 0 then k53845 (wrap64 (x0 + 1)) (IntKind.u64.wrap (Int.tdiv x1 2)) else some x0)
noncomputable def l53845 (n : Nat) (k53 : T8) : Nat→Int→Int→Ω (Int)
  | 0, _, _ => none
  | m + 1, x0, x1 => b53845 (l53845 n k53 m) x0 x1
noncomputable def l53 (n : Nat) : Nat→Λ→Int→Ω (Int)
  | 0, _, _ => none
  | m + 1, x0, x1 => b53 (l53 n m) (l53845 n (l53 n m) n) x0 x1
noncomputable def f (n : Nat) (l0 : Λ) : Ω (Int) := b0 (l53 n n) l0
noncomputable def sg : Sig (Int) := s1 (sInt .i64)
noncomputable def code : Code := (Tryd.f39.body).getD .skip
noncomputable def cfg : Cfg (Int) := { T := tys, call := noCall }
noncomputable def cuts : List (Nat × List (Nat × Want)) := [(53, [(0, .keep), (3, .keep)]), (53845, [(4, .keep), (5, .keep)])]
noncomputable def s53 (x0 : Λ) (x1 : Int) : ASt := ⟨[(0, .ro .u64 x0), (3, .int .i64 x1)], []⟩
noncomputable def s53845 (x0 x1 : Int) : ASt := ⟨[(4, .int .i64 x0), (5, .int .u64 x1)], []⟩
noncomputable def A (n : Nat) (J : Jt (Int)) (q : Nat) (ms : List Nat) : ASt→Ω (Int) := acont cfg J cuts n q code 1 ms (aend cfg Tryd.f39.results.toList [false] sg.out)
theorem e0 {n J l0} : afun cfg J cuts n code Tryd.f39.results.toList [false] [.ro .u64 l0] sg.out = b0 (fun y0 y1 => J 53 (A n J 53 [n]) (s53 y0 y1)) l0 := by kernel_rfl
theorem e53 {n J m x0 x1} : A n J 53 [m + 1] (s53 x0 x1) = b53 (fun y0 y1 => J 53 (A n J 53 [m]) (s53 y0 y1)) (fun y0 y1 => J 53845 (A n J 53845 [m, n]) (s53845 y0 y1)) x0 x1 := by kernel_rfl
theorem e53845 {n J m53 m x0 x1} : A n J 53845 [m53, m + 1] (s53845 x0 x1) = b53845 (fun y0 y1 => J 53845 (A n J 53845 [m53, m]) (s53845 y0 y1)) x0 x1 := by kernel_rfl
noncomputable abbrev I (n : Nat) := A n idJ
theorem q53845 (n m53 m) : ∀ x0 x1, I n 53845 [m53, m] (s53845 x0 x1) = l53845 n (fun y0 y1 => I n 53 [m53] (s53 y0 y1)) m x0 x1 := by
  induction m with
  | zero => intros; rfl
  | succ m ih =>
    intros
    exact e53845.trans (Eq.trans (cf2 (congrArg b53845 (fu2 (ih))) _ _) rfl)
theorem q53 (n m) : ∀ x0 x1, I n 53 [m] (s53 x0 x1) = l53 n m x0 x1 := by
  induction m with
  | zero => intros; rfl
  | succ m ih =>
    intros
    exact e53.trans (Eq.trans (cf2 (congr (congrArg b53 (fu2 (ih))) ((fu2 (q53845 n m n)).trans (by rw [show (fun y0 y1 => I n 53 [m] (s53 y0 y1)) = _ from (fu2 (ih))]))) _ _) rfl)
theorem ok {n  l0 r} (h : f n l0 = some r) : CallD Tryd.prog HW 39 [.ro .u64 l0] (sg.enc r) :=
  fun_some hwS Tryd.func39 (by kernel_rfl) (body := code) (by kernel_rfl) tys_ok (c := cfg) noCall_ok noW_ok (by kernel_rfl) (by kernel_rfl) (Nat.le_of_ble_eq_true (by kernel_rfl)) (Eq.trans ((e0 (n := n)).trans (Eq.trans (cf1 (congrArg b0 (fu2 (q53 n n))) _) rfl)) h)
noncomputable def call {α : Type} (g : T1) (ds : List D) (K : List D→Ω α) : Ω α := match ds with
  | [.ro .u64 l0] => (g l0).bind fun r => K (sg.enc r)
  | _ => none
theorem call_ok {α : Type} {n : Nat} : COK Tryd.prog HW 39 (call (α := α) (f n)) := fun _ _ _ h => by
  unfold call at h; split at h
  · exact cok h fun _ => ok
  · cases h
end abacusref01_Trail
/-! ### abacusref04_Integral: function 95 -/
namespace abacusref04_Integral
noncomputable def b0 (c39 : T1) (c84 : T6) (c148 : T9) (a0 : Int) : Ω (Bool) := ((c148 a0).bind fun t1 => (if (!t1) = true then some false else ((c84 a0).bind fun t2 => (if t2.2.2.1 = 0 then some true else (if t2.2.2.2 ≥ 0 then some true else ((c39 [t2.2.2.1]).bind fun t3 => some (decide (t3 ≥ (wrap64 (-t2.2.2.2))))))))))
noncomputable def f (n : Nat) (a0 : Int) : Ω (Bool) := b0 (abacusref01_Trail.f n) abacusref04_Decode.f abacusref04_Finite.f a0
noncomputable def sg : Sig (Bool) := s1 (sBool)
noncomputable def code : Code := (Tryd.f95.body).getD .skip
noncomputable def cfg (c39 : T1) (c84 : T6) (c148 : T9) : Cfg (Bool) := { T := tys, call := orCall 39 (abacusref01_Trail.call c39) (orCall 84 (abacusref04_Decode.call c84) (orCall 148 (abacusref04_Finite.call c148) (noCall))) }
noncomputable def cuts : List (Nat × List (Nat × Want)) := []
theorem e0 {c39 c84 c148 n J a0} : afun (cfg c39 c84 c148) J cuts n code Tryd.f95.results.toList [false] [.int .u64 a0] sg.out = b0 c39 c84 c148 a0 := by kernel_rfl
theorem ok {n  a0 r} (h : f n a0 = some r) : CallD Tryd.prog HW 95 [.int .u64 a0] (sg.enc r) :=
  fun_some hwS Tryd.func95 (by kernel_rfl) (body := code) (by kernel_rfl) tys_ok (c := cfg (abacusref01_Trail.f n) abacusref04_Decode.f abacusref04_Finite.f) (orCall_ok (abacusref01_Trail.call_ok (n := n)) (orCall_ok abacusref04_Decode.call_ok (orCall_ok abacusref04_Finite.call_ok noCall_ok))) noW_ok (by kernel_rfl) (by kernel_rfl) (Nat.le_of_ble_eq_true (by kernel_rfl)) (Eq.trans ((e0 (n := n))) h)
noncomputable def call {α : Type} (g : T9) (ds : List D) (K : List D→Ω α) : Ω α := match ds with
  | [.int .u64 a0] => (g a0).bind fun r => K (sg.enc r)
  | _ => none
theorem call_ok {α : Type} {n : Nat} : COK Tryd.prog HW 95 (call (α := α) (f n)) := fun _ _ _ h => by
  unfold call at h; split at h
  · exact cok h fun _ => ok
  · cases h
end abacusref04_Integral
/-! ### abacusref01_Size: function 122 -/
namespace abacusref01_Size
noncomputable def b0 (k57 : T8) (l0 : Λ) : Ω (Int) := k57 l0 (ln l0)
noncomputable def b57 (k57 : T8) (x0 : Λ) (x1 : Int) : Ω (Int) := (if x1 > 0 then (if 0 ≤ (wrap64 (x1 - 1)) then (if (wrap64 (x1 - 1)) < (ln x0) then (if (rd x0 (wrap64 (x1 - 1))) = 0 then k57 x0 (wrap64 (x1 - 1)) else some x1) else none) else none) else some x1)
noncomputable def l57 (n : Nat) : Nat→Λ→Int→Ω (Int)
  | 0, _, _ => none
  | m + 1, x0, x1 => b57 (l57 n m) x0 x1
noncomputable def f (n : Nat) (l0 : Λ) : Ω (Int) := b0 (l57 n n) l0
noncomputable def sg : Sig (Int) := s1 (sInt .i64)
noncomputable def code : Code := (Tryd.f122.body).getD .skip
noncomputable def cfg : Cfg (Int) := { T := tys, call := noCall }
noncomputable def cuts : List (Nat × List (Nat × Want)) := [(57, [(0, .keep), (3, .keep)])]
noncomputable def s57 (x0 : Λ) (x1 : Int) : ASt := ⟨[(0, .ro .u64 x0), (3, .int .i64 x1)], []⟩
noncomputable def A (n : Nat) (J : Jt (Int)) (q : Nat) (ms : List Nat) : ASt→Ω (Int) := acont cfg J cuts n q code 1 ms (aend cfg Tryd.f122.results.toList [false] sg.out)
theorem e0 {n J l0} : afun cfg J cuts n code Tryd.f122.results.toList [false] [.ro .u64 l0] sg.out = b0 (fun y0 y1 => J 57 (A n J 57 [n]) (s57 y0 y1)) l0 := by kernel_rfl
theorem e57 {n J m x0 x1} : A n J 57 [m + 1] (s57 x0 x1) = b57 (fun y0 y1 => J 57 (A n J 57 [m]) (s57 y0 y1)) x0 x1 := by kernel_rfl
noncomputable abbrev I (n : Nat) := A n idJ
theorem q57 (n m) : ∀ x0 x1, I n 57 [m] (s57 x0 x1) = l57 n m x0 x1 := by
  induction m with
  | zero => intros; rfl
  | succ m ih =>
    intros
    exact e57.trans (Eq.trans (cf2 (congrArg b57 (fu2 (ih))) _ _) rfl)
theorem ok {n  l0 r} (h : f n l0 = some r) : CallD Tryd.prog HW 122 [.ro .u64 l0] (sg.enc r) :=
  fun_some hwS Tryd.func122 (by kernel_rfl) (body := code) (by kernel_rfl) tys_ok (c := cfg) noCall_ok noW_ok (by kernel_rfl) (by kernel_rfl) (Nat.le_of_ble_eq_true (by kernel_rfl)) (Eq.trans ((e0 (n := n)).trans (Eq.trans (cf1 (congrArg b0 (fu2 (q57 n n))) _) rfl)) h)
noncomputable def call {α : Type} (g : T1) (ds : List D) (K : List D→Ω α) : Ω α := match ds with
  | [.ro .u64 l0] => (g l0).bind fun r => K (sg.enc r)
  | _ => none
theorem call_ok {α : Type} {n : Nat} : COK Tryd.prog HW 122 (call (α := α) (f n)) := fun _ _ _ h => by
  unfold call at h; split at h
  · exact cok h fun _ => ok
  · cases h
end abacusref01_Size
/-! ### abacusref01_Big: function 123 -/
namespace abacusref01_Big
noncomputable def b0 (c122 : T1) (l0 : Λ) : Ω (Bool) := ((c122 l0).bind fun t1 => some (decide (t1 > 4096)))
noncomputable def f (n : Nat) (l0 : Λ) : Ω (Bool) := b0 (abacusref01_Size.f n) l0
noncomputable def sg : Sig (Bool) := s1 (sBool)
noncomputable def code : Code := (Tryd.f123.body).getD .skip
noncomputable def cfg (c122 : T1) : Cfg (Bool) := { T := tys, call := orCall 122 (abacusref01_Size.call c122) (noCall) }
noncomputable def cuts : List (Nat × List (Nat × Want)) := []
theorem e0 {c122 n J l0} : afun (cfg c122) J cuts n code Tryd.f123.results.toList [false] [.ro .u64 l0] sg.out = b0 c122 l0 := by kernel_rfl
theorem ok {n  l0 r} (h : f n l0 = some r) : CallD Tryd.prog HW 123 [.ro .u64 l0] (sg.enc r) :=
  fun_some hwS Tryd.func123 (by kernel_rfl) (body := code) (by kernel_rfl) tys_ok (c := cfg (abacusref01_Size.f n)) (orCall_ok (abacusref01_Size.call_ok (n := n)) noCall_ok) noW_ok (by kernel_rfl) (by kernel_rfl) (Nat.le_of_ble_eq_true (by kernel_rfl)) (Eq.trans ((e0 (n := n))) h)
noncomputable def call {α : Type} (g : T4) (ds : List D) (K : List D→Ω α) : Ω α := match ds with
  | [.ro .u64 l0] => (g l0).bind fun r => K (sg.enc r)
  | _ => none
theorem call_ok {α : Type} {n : Nat} : COK Tryd.prog HW 123 (call (α := α) (f n)) := fun _ _ _ h => by
  unfold call at h; split at h
  · exact cok h fun _ => ok
  · cases h
end abacusref01_Big
/-! ### abacusref01_BitLen: function 37 -/
namespace abacusref01_BitLen
noncomputable def b0 (c122 : T1) (k501 : T12) (l0 : Λ) : Ω (Int) := ((c122 l0).bind fun t1 => (if t1 = 0 then some 0 else (if 0 ≤ (wrap64 (t1 - 1)) then (if (wrap64 (t1 - 1)) < (ln l0) then k501 (wrap64 (64 * (wrap64 (t1 - 1)))) (rd l0 (wrap64 (t1 - 1))) else none) else none)))
noncomputable def b501 (c122 : T1) (k501 : T12) (x0 x1 : Int) : Ω (Int) := (if x1 > 0 then k501 (wrap64 (x0 + 1)) (IntKind.u64.wrap (Int.tdiv x1 2)) else some x0)
noncomputable def l501 (n : Nat) : Nat→Int→Int→Ω (Int)
  | 0, _, _ => none
  | m + 1, x0, x1 => b501 (abacusref01_Size.f n) (l501 n m) x0 x1
noncomputable def f (n : Nat) (l0 : Λ) : Ω (Int) := b0 (abacusref01_Size.f n) (l501 n n) l0
noncomputable def sg : Sig (Int) := s1 (sInt .i64)
noncomputable def code : Code := (Tryd.f37.body).getD .skip
noncomputable def cfg (c122 : T1) : Cfg (Int) := { T := tys, call := orCall 122 (abacusref01_Size.call c122) (noCall) }
noncomputable def cuts : List (Nat × List (Nat × Want)) := [(501, [(4, .keep), (5, .keep)])]
noncomputable def s501 (x0 x1 : Int) : ASt := ⟨[(4, .int .i64 x0), (5, .int .u64 x1)], []⟩
noncomputable def A (c122 : T1) (n : Nat) (J : Jt (Int)) (q : Nat) (ms : List Nat) : ASt→Ω (Int) := acont (cfg c122) J cuts n q code 1 ms (aend (cfg c122) Tryd.f37.results.toList [false] sg.out)
theorem e0 {c122 n J l0} : afun (cfg c122) J cuts n code Tryd.f37.results.toList [false] [.ro .u64 l0] sg.out = b0 c122 (fun y0 y1 => J 501 (A c122 n J 501 [n]) (s501 y0 y1)) l0 := by kernel_rfl
theorem e501 {c122 n J m x0 x1} : A c122 n J 501 [m + 1] (s501 x0 x1) = b501 c122 (fun y0 y1 => J 501 (A c122 n J 501 [m]) (s501 y0 y1)) x0 x1 := by kernel_rfl
noncomputable abbrev I (n : Nat) := A (abacusref01_Size.f n) n idJ
theorem q501 (n m) : ∀ x0 x1, I n 501 [m] (s501 x0 x1) = l501 n m x0 x1 := by
  induction m with
  | zero => intros; rfl
  | succ m ih =>
    intros
    exact e501.trans (Eq.trans (cf2 (congrArg (b501 _) (fu2 (ih))) _ _) rfl)
theorem ok {n  l0 r} (h : f n l0 = some r) : CallD Tryd.prog HW 37 [.ro .u64 l0] (sg.enc r) :=
  fun_some hwS Tryd.func37 (by kernel_rfl) (body := code) (by kernel_rfl) tys_ok (c := cfg (abacusref01_Size.f n)) (orCall_ok (abacusref01_Size.call_ok (n := n)) noCall_ok) noW_ok (by kernel_rfl) (by kernel_rfl) (Nat.le_of_ble_eq_true (by kernel_rfl)) (Eq.trans ((e0 (n := n)).trans (Eq.trans (cf1 (congrArg (b0 _) (fu2 (q501 n n))) _) rfl)) h)
noncomputable def call {α : Type} (g : T1) (ds : List D) (K : List D→Ω α) : Ω α := match ds with
  | [.ro .u64 l0] => (g l0).bind fun r => K (sg.enc r)
  | _ => none
theorem call_ok {α : Type} {n : Nat} : COK Tryd.prog HW 37 (call (α := α) (f n)) := fun _ _ _ h => by
  unfold call at h; split at h
  · exact cok h fun _ => ok
  · cases h
end abacusref01_BitLen
/-! ### abacusref01_Bit: function 38 -/
namespace abacusref01_Bit
noncomputable def b0 (k245 : Int→Int→Int→Ω (Int)) (l0 : Λ) (a1 : Int) : Ω (Int) := (if a1 < 0 then some 0 else (if (wrap64 (Int.tdiv a1 64)) ≥ (ln l0) then some 0 else (if 0 ≤ (wrap64 (Int.tdiv a1 64)) then (if (wrap64 (Int.tdiv a1 64)) < (ln l0) then k245 a1 (rd l0 (wrap64 (Int.tdiv a1 64))) 0 else none) else none)))
noncomputable def b245 (k245 : Int→Int→Int→Ω (Int)) (x0 x1 x2 : Int) : Ω (Int) := (if x2 < (Int.tmod x0 64) then k245 x0 (IntKind.u64.wrap (Int.tdiv x1 2)) (wrap64 (x2 + 1)) else some (wrap64 (Int.tmod x1 2)))
noncomputable def l245 (n : Nat) : Nat→Int→Int→Int→Ω (Int)
  | 0, _, _, _ => none
  | m + 1, x0, x1, x2 => b245 (l245 n m) x0 x1 x2
noncomputable def f (n : Nat) (l0 : Λ) (a1 : Int) : Ω (Int) := b0 (l245 n n) l0 a1
noncomputable def sg : Sig (Int) := s1 (sInt .i64)
noncomputable def code : Code := (Tryd.f38.body).getD .skip
noncomputable def cfg : Cfg (Int) := { T := tys, call := noCall }
noncomputable def cuts : List (Nat × List (Nat × Want)) := [(245, [(1, .keep), (5, .keep), (6, .keep)])]
noncomputable def s245 (x0 x1 x2 : Int) : ASt := ⟨[(1, .int .i64 x0), (5, .int .u64 x1), (6, .int .i64 x2)], []⟩
noncomputable def A (n : Nat) (J : Jt (Int)) (q : Nat) (ms : List Nat) : ASt→Ω (Int) := acont cfg J cuts n q code 1 ms (aend cfg Tryd.f38.results.toList [false] sg.out)
theorem e0 {n J l0 a1} : afun cfg J cuts n code Tryd.f38.results.toList [false] [.ro .u64 l0, .int .i64 a1] sg.out = b0 (fun y0 y1 y2 => J 245 (A n J 245 [n]) (s245 y0 y1 y2)) l0 a1 := by kernel_rfl
theorem e245 {n J m x0 x1 x2} : A n J 245 [m + 1] (s245 x0 x1 x2) = b245 (fun y0 y1 y2 => J 245 (A n J 245 [m]) (s245 y0 y1 y2)) x0 x1 x2 := by kernel_rfl
noncomputable abbrev I (n : Nat) := A n idJ
theorem q245 (n m) : ∀ x0 x1 x2, I n 245 [m] (s245 x0 x1 x2) = l245 n m x0 x1 x2 := by
  induction m with
  | zero => intros; rfl
  | succ m ih =>
    intros
    exact e245.trans (Eq.trans (cf3 (congrArg b245 (fu3 (ih))) _ _ _) rfl)
theorem ok {n  l0 a1 r} (h : f n l0 a1 = some r) : CallD Tryd.prog HW 38 [.ro .u64 l0, .int .i64 a1] (sg.enc r) :=
  fun_some hwS Tryd.func38 (by kernel_rfl) (body := code) (by kernel_rfl) tys_ok (c := cfg) noCall_ok noW_ok (by kernel_rfl) (by kernel_rfl) (Nat.le_of_ble_eq_true (by kernel_rfl)) (Eq.trans ((e0 (n := n)).trans (Eq.trans (cf2 (congrArg b0 (fu3 (q245 n n))) _ _) rfl)) h)
noncomputable def call {α : Type} (g : T8) (ds : List D) (K : List D→Ω α) : Ω α := match ds with
  | [.ro .u64 l0, .int .i64 a1] => (g l0 a1).bind fun r => K (sg.enc r)
  | _ => none
theorem call_ok {α : Type} {n : Nat} : COK Tryd.prog HW 38 (call (α := α) (f n)) := fun _ _ _ h => by
  unfold call at h; split at h
  · exact cok h fun _ => ok
  · cases h
end abacusref01_Bit
/-! ### abacusref04_Round: function 100 -/
namespace abacusref04_Round
noncomputable def b0 (c37 : T1) (c38 : T8) (c39 : T1) (c123 : T4) (c145 : T11) (k1023 : T61) (a0 : Bool) (l1 : Λ) (a2 : Int) (a3 : Bool) : Ω (Int × Int) := ((c123 l1).bind fun t1 => (if t1 = true then some (0, 2) else ((c37 l1).bind fun t2 => (if t2 = 0 then ((c145 a0 0 0).bind fun t3 => some (t3, 0)) else (if a2 < (-1048576) then ((c145 a0 0 0).bind fun t4 => some (t4, 0)) else (if a2 > 1048576 then ((c145 a0 2047 0).bind fun t5 => some (t5, 0)) else (if (wrap64 ((wrap64 (t2 - 1)) + a2)) > 1023 then ((c145 a0 2047 0).bind fun t6 => some (t6, 0)) else (if (wrap64 ((wrap64 ((wrap64 (t2 - 1)) + a2)) - 52)) < (-1074) then k1023 a0 l1 a2 a3 (wrap64 ((wrap64 (t2 - 1)) + a2)) (-1074) else k1023 a0 l1 a2 a3 (wrap64 ((wrap64 (t2 - 1)) + a2)) (wrap64 ((wrap64 ((wrap64 (t2 - 1)) + a2)) - 52))))))))))
noncomputable def b1023 (c37 : T1) (c38 : T8) (c39 : T1) (c123 : T4) (c145 : T11) (k32757 : T62) (x0 : Bool) (x1 : Λ) (x2 : Int) (x3 : Bool) (x4 x5 : Int) : Ω (Int × Int) := k32757 x0 x1 x2 x3 x5 0 x4
noncomputable def b4095 (c37 : T1) (c38 : T8) (c39 : T1) (c123 : T4) (c145 : T11) (k32767 : Bool→Int→Int→Ω (Int × Int)) (x0 : Bool) (x1 : Λ) (x2 : Int) (x3 : Bool) (x4 x5 : Int) : Ω (Int × Int) := ((c38 x1 (wrap64 ((wrap64 (x4 - 1)) - x2))).bind fun t1 => ((c39 x1).bind fun t2 => (if t1 = 1 then (if (wrap64 (t2 + x2)) < (wrap64 (x4 - 1)) then k32767 x0 x4 (IntKind.u64.wrap (x5 + 1)) else (if x3 = true then k32767 x0 x4 (IntKind.u64.wrap (x5 + 1)) else (if (Int.tmod x5 2) = 1 then k32767 x0 x4 (IntKind.u64.wrap (x5 + 1)) else k32767 x0 x4 x5))) else k32767 x0 x4 x5)))
noncomputable def b32757 (c37 : T1) (c38 : T8) (c39 : T1) (c123 : T4) (c145 : T11) (k4095 : T61) (k32757 : T62) (x0 : Bool) (x1 : Λ) (x2 : Int) (x3 : Bool) (x4 x5 x6 : Int) : Ω (Int × Int) := (if x6 ≥ x4 then ((c38 x1 (wrap64 (x6 - x2))).bind fun t1 => k32757 x0 x1 x2 x3 x4 (IntKind.u64.wrap ((IntKind.u64.wrap (2 * x5)) + (IntKind.u64.wrap t1))) (wrap64 (x6 - 1))) else k4095 x0 x1 x2 x3 x4 x5)
noncomputable def b32767 (c37 : T1) (c38 : T8) (c39 : T1) (c123 : T4) (c145 : T11) (x0 : Bool) (x1 x2 : Int) : Ω (Int × Int) := (if x2 < 4503599627370496 then ((c145 x0 0 x2).bind fun t1 => some (t1, 0)) else ((c145 x0 (wrap64 ((wrap64 (x1 + 1075)) - 1)) x2).bind fun t2 => some (t2, 0)))
noncomputable def l32767 (n : Nat) (x0 : Bool) (x1 x2 : Int) : Ω (Int × Int) := b32767 (abacusref01_BitLen.f n) (abacusref01_Bit.f n) (abacusref01_Trail.f n) (abacusref01_Big.f n) abacusref04_put.f x0 x1 x2
noncomputable def l4095 (n : Nat) (x0 : Bool) (x1 : Λ) (x2 : Int) (x3 : Bool) (x4 x5 : Int) : Ω (Int × Int) := b4095 (abacusref01_BitLen.f n) (abacusref01_Bit.f n) (abacusref01_Trail.f n) (abacusref01_Big.f n) abacusref04_put.f (l32767 n) x0 x1 x2 x3 x4 x5
noncomputable def l32757 (n : Nat) : Nat→Bool→Λ→Int→Bool→Int→Int→Int→Ω (Int × Int)
  | 0, _, _, _, _, _, _, _ => none
  | m + 1, x0, x1, x2, x3, x4, x5, x6 => b32757 (abacusref01_BitLen.f n) (abacusref01_Bit.f n) (abacusref01_Trail.f n) (abacusref01_Big.f n) abacusref04_put.f (l4095 n) (l32757 n m) x0 x1 x2 x3 x4 x5 x6
noncomputable def l1023 (n : Nat) (x0 : Bool) (x1 : Λ) (x2 : Int) (x3 : Bool) (x4 x5 : Int) : Ω (Int × Int) := b1023 (abacusref01_BitLen.f n) (abacusref01_Bit.f n) (abacusref01_Trail.f n) (abacusref01_Big.f n) abacusref04_put.f (l32757 n n) x0 x1 x2 x3 x4 x5
noncomputable def f (n : Nat) (a0 : Bool) (l1 : Λ) (a2 : Int) (a3 : Bool) : Ω (Int × Int) := b0 (abacusref01_BitLen.f n) (abacusref01_Bit.f n) (abacusref01_Trail.f n) (abacusref01_Big.f n) abacusref04_put.f (l1023 n) a0 l1 a2 a3
noncomputable def sg : Sig (Int × Int) := s2 (sInt .u64) (s1 (sInt .i64))
noncomputable def code : Code := (Tryd.f100.body).getD .skip
noncomputable def cfg (c37 : T1) (c38 : T8) (c39 : T1) (c123 : T4) (c145 : T11) : Cfg (Int × Int) := { T := tys, call := orCall 37 (abacusref01_BitLen.call c37) (orCall 38 (abacusref01_Bit.call c38) (orCall 39 (abacusref01_Trail.call c39) (orCall 123 (abacusref01_Big.call c123) (orCall 145 (abacusref04_put.call c145) (noCall))))) }
noncomputable def cuts : List (Nat × List (Nat × Want)) := [(1023, [(0, .keep), (1, .keep), (2, .keep), (3, .keep), (11, .keep), (12, .keep)]), (4095, [(0, .keep), (1, .keep), (2, .keep), (3, .keep), (12, .keep), (13, .keep)]), (32757, [(0, .keep), (1, .keep), (2, .keep), (3, .keep), (12, .keep), (13, .keep), (14, .keep)]), (32767, [(0, .keep), (12, .keep), (13, .keep)])]
noncomputable def s1023 (x0 : Bool) (x1 : Λ) (x2 : Int) (x3 : Bool) (x4 x5 : Int) : ASt := ⟨[(0, .bool x0), (1, .ro .u64 x1), (2, .int .i64 x2), (3, .bool x3), (11, .int .i64 x4), (12, .int .i64 x5)], []⟩
noncomputable def s4095 (x0 : Bool) (x1 : Λ) (x2 : Int) (x3 : Bool) (x4 x5 : Int) : ASt := ⟨[(0, .bool x0), (1, .ro .u64 x1), (2, .int .i64 x2), (3, .bool x3), (12, .int .i64 x4), (13, .int .u64 x5)], []⟩
noncomputable def s32757 (x0 : Bool) (x1 : Λ) (x2 : Int) (x3 : Bool) (x4 x5 x6 : Int) : ASt := ⟨[(0, .bool x0), (1, .ro .u64 x1), (2, .int .i64 x2), (3, .bool x3), (12, .int .i64 x4), (13, .int .u64 x5), (14, .int .i64 x6)], []⟩
noncomputable def s32767 (x0 : Bool) (x1 x2 : Int) : ASt := ⟨[(0, .bool x0), (12, .int .i64 x1), (13, .int .u64 x2)], []⟩
noncomputable def A (c37 : T1) (c38 : T8) (c39 : T1) (c123 : T4) (c145 : T11) (n : Nat) (J : Jt (Int × Int)) (q : Nat) (ms : List Nat) : ASt→Ω (Int × Int) := acont (cfg c37 c38 c39 c123 c145) J cuts n q code 1 ms (aend (cfg c37 c38 c39 c123 c145) Tryd.f100.results.toList [false, false] sg.out)
theorem e0 {c37 c38 c39 c123 c145 n J a0 l1 a2 a3} : afun (cfg c37 c38 c39 c123 c145) J cuts n code Tryd.f100.results.toList [false, false] [.bool a0, .ro .u64 l1, .int .i64 a2, .bool a3] sg.out = b0 c37 c38 c39 c123 c145 (fun y0 y1 y2 y3 y4 y5 => J 1023 (A c37 c38 c39 c123 c145 n J 1023 []) (s1023 y0 y1 y2 y3 y4 y5)) a0 l1 a2 a3 := by kernel_rfl
theorem e1023 {c37 c38 c39 c123 c145 n J x0 x1 x2 x3 x4 x5} : A c37 c38 c39 c123 c145 n J 1023 [] (s1023 x0 x1 x2 x3 x4 x5) = b1023 c37 c38 c39 c123 c145 (fun y0 y1 y2 y3 y4 y5 y6 => J 32757 (A c37 c38 c39 c123 c145 n J 32757 [n]) (s32757 y0 y1 y2 y3 y4 y5 y6)) x0 x1 x2 x3 x4 x5 := by kernel_rfl
theorem e4095 {c37 c38 c39 c123 c145 n J x0 x1 x2 x3 x4 x5} : A c37 c38 c39 c123 c145 n J 4095 [] (s4095 x0 x1 x2 x3 x4 x5) = b4095 c37 c38 c39 c123 c145 (fun y0 y1 y2 => J 32767 (A c37 c38 c39 c123 c145 n J 32767 []) (s32767 y0 y1 y2)) x0 x1 x2 x3 x4 x5 := by kernel_rfl
theorem e32757 {c37 c38 c39 c123 c145 n J m x0 x1 x2 x3 x4 x5 x6} : A c37 c38 c39 c123 c145 n J 32757 [m + 1] (s32757 x0 x1 x2 x3 x4 x5 x6) = b32757 c37 c38 c39 c123 c145 (fun y0 y1 y2 y3 y4 y5 => J 4095 (A c37 c38 c39 c123 c145 n J 4095 []) (s4095 y0 y1 y2 y3 y4 y5)) (fun y0 y1 y2 y3 y4 y5 y6 => J 32757 (A c37 c38 c39 c123 c145 n J 32757 [m]) (s32757 y0 y1 y2 y3 y4 y5 y6)) x0 x1 x2 x3 x4 x5 x6 := by kernel_rfl
theorem e32767 {c37 c38 c39 c123 c145 n J x0 x1 x2} : A c37 c38 c39 c123 c145 n J 32767 [] (s32767 x0 x1 x2) = b32767 c37 c38 c39 c123 c145 x0 x1 x2 := by kernel_rfl
noncomputable abbrev I (n : Nat) := A (abacusref01_BitLen.f n) (abacusref01_Bit.f n) (abacusref01_Trail.f n) (abacusref01_Big.f n) abacusref04_put.f n idJ
theorem q32767 (n x0 x1 x2) : I n 32767 [] (s32767 x0 x1 x2) = l32767 n x0 x1 x2 := e32767
theorem q4095 (n x0 x1 x2 x3 x4 x5) : I n 4095 [] (s4095 x0 x1 x2 x3 x4 x5) = l4095 n x0 x1 x2 x3 x4 x5 := e4095.trans (Eq.trans (cf6 (congrArg (b4095 _ _ _ _ _) (fu3 (q32767 n))) _ _ _ _ _ _) rfl)
theorem q32757 (n m) : ∀ x0 x1 x2 x3 x4 x5 x6, I n 32757 [m] (s32757 x0 x1 x2 x3 x4 x5 x6) = l32757 n m x0 x1 x2 x3 x4 x5 x6 := by
  induction m with
  | zero => intros; rfl
  | succ m ih =>
    intros
    exact e32757.trans (Eq.trans (cf7 (congr (congrArg (b32757 _ _ _ _ _) (fu6 (q4095 n))) (fu7 (ih))) _ _ _ _ _ _ _) rfl)
theorem q1023 (n x0 x1 x2 x3 x4 x5) : I n 1023 [] (s1023 x0 x1 x2 x3 x4 x5) = l1023 n x0 x1 x2 x3 x4 x5 := e1023.trans (Eq.trans (cf6 (congrArg (b1023 _ _ _ _ _) (fu7 (q32757 n n))) _ _ _ _ _ _) rfl)
theorem ok {n  a0 l1 a2 a3 r} (h : f n a0 l1 a2 a3 = some r) : CallD Tryd.prog HW 100 [.bool a0, .ro .u64 l1, .int .i64 a2, .bool a3] (sg.enc r) :=
  fun_some hwS Tryd.func100 (by kernel_rfl) (body := code) (by kernel_rfl) tys_ok (c := cfg (abacusref01_BitLen.f n) (abacusref01_Bit.f n) (abacusref01_Trail.f n) (abacusref01_Big.f n) abacusref04_put.f) (orCall_ok (abacusref01_BitLen.call_ok (n := n)) (orCall_ok (abacusref01_Bit.call_ok (n := n)) (orCall_ok (abacusref01_Trail.call_ok (n := n)) (orCall_ok (abacusref01_Big.call_ok (n := n)) (orCall_ok abacusref04_put.call_ok noCall_ok))))) noW_ok (by kernel_rfl) (by kernel_rfl) (Nat.le_of_ble_eq_true (by kernel_rfl)) (Eq.trans ((e0 (n := n)).trans (Eq.trans (cf4 (congrArg (b0 _ _ _ _ _) (fu6 (q1023 n))) _ _ _ _) rfl)) h)
noncomputable def call {α : Type} (g : T14) (ds : List D) (K : List D→Ω α) : Ω α := match ds with
  | [.bool a0, .ro .u64 l1, .int .i64 a2, .bool a3] => (g a0 l1 a2 a3).bind fun r => K (sg.enc r)
  | _ => none
theorem call_ok {α : Type} {n : Nat} : COK Tryd.prog HW 100 (call (α := α) (f n)) := fun _ _ _ h => by
  unfold call at h; split at h
  · exact cok h fun _ => ok
  · cases h
end abacusref04_Round
/-! ### abacusref04_FromUint: function 97 -/
namespace abacusref04_FromUint
noncomputable def b0 (c100 : T14) (a0 : Int) : Ω (Int) := ((c100 false [a0] 0 false).bind fun t1 => some t1.1)
noncomputable def f (n : Nat) (a0 : Int) : Ω (Int) := b0 (abacusref04_Round.f n) a0
noncomputable def sg : Sig (Int) := s1 (sInt .u64)
noncomputable def code : Code := (Tryd.f97.body).getD .skip
noncomputable def cfg (c100 : T14) : Cfg (Int) := { T := tys, call := orCall 100 (abacusref04_Round.call c100) (noCall) }
noncomputable def cuts : List (Nat × List (Nat × Want)) := []
theorem e0 {c100 n J a0} : afun (cfg c100) J cuts n code Tryd.f97.results.toList [false] [.int .u64 a0] sg.out = b0 c100 a0 := by kernel_rfl
theorem ok {n  a0 r} (h : f n a0 = some r) : CallD Tryd.prog HW 97 [.int .u64 a0] (sg.enc r) :=
  fun_some hwS Tryd.func97 (by kernel_rfl) (body := code) (by kernel_rfl) tys_ok (c := cfg (abacusref04_Round.f n)) (orCall_ok (abacusref04_Round.call_ok (n := n)) noCall_ok) noW_ok (by kernel_rfl) (by kernel_rfl) (Nat.le_of_ble_eq_true (by kernel_rfl)) (Eq.trans ((e0 (n := n))) h)
noncomputable def call {α : Type} (g : T0) (ds : List D) (K : List D→Ω α) : Ω α := match ds with
  | [.int .u64 a0] => (g a0).bind fun r => K (sg.enc r)
  | _ => none
theorem call_ok {α : Type} {n : Nat} : COK Tryd.prog HW 97 (call (α := α) (f n)) := fun _ _ _ h => by
  unfold call at h; split at h
  · exact cok h fun _ => ok
  · cases h
end abacusref04_FromUint
/-! ### abacusref04_FromInt: function 96 -/
namespace abacusref04_FromInt
noncomputable def b0 (c87 c97 : T0) (a0 : Int) : Ω (Int) := (if a0 ≥ 0 then ((c97 (IntKind.u64.wrap a0)).bind fun t1 => some t1) else ((c97 (IntKind.u64.wrap ((IntKind.u64.wrap (wrap64 (-(wrap64 (a0 + 1))))) + 1))).bind fun t2 => ((c87 t2).bind fun t3 => some t3)))
noncomputable def f (n : Nat) (a0 : Int) : Ω (Int) := b0 abacusref04_Neg.f (abacusref04_FromUint.f n) a0
noncomputable def sg : Sig (Int) := s1 (sInt .u64)
noncomputable def code : Code := (Tryd.f96.body).getD .skip
noncomputable def cfg (c87 c97 : T0) : Cfg (Int) := { T := tys, call := orCall 87 (abacusref04_Neg.call c87) (orCall 97 (abacusref04_FromUint.call c97) (noCall)) }
noncomputable def cuts : List (Nat × List (Nat × Want)) := []
theorem e0 {c87 c97 n J a0} : afun (cfg c87 c97) J cuts n code Tryd.f96.results.toList [false] [.int .i64 a0] sg.out = b0 c87 c97 a0 := by kernel_rfl
theorem ok {n  a0 r} (h : f n a0 = some r) : CallD Tryd.prog HW 96 [.int .i64 a0] (sg.enc r) :=
  fun_some hwS Tryd.func96 (by kernel_rfl) (body := code) (by kernel_rfl) tys_ok (c := cfg abacusref04_Neg.f (abacusref04_FromUint.f n)) (orCall_ok abacusref04_Neg.call_ok (orCall_ok (abacusref04_FromUint.call_ok (n := n)) noCall_ok)) noW_ok (by kernel_rfl) (by kernel_rfl) (Nat.le_of_ble_eq_true (by kernel_rfl)) (Eq.trans ((e0 (n := n))) h)
noncomputable def call {α : Type} (g : T0) (ds : List D) (K : List D→Ω α) : Ω α := match ds with
  | [.int .i64 a0] => (g a0).bind fun r => K (sg.enc r)
  | _ => none
theorem call_ok {α : Type} {n : Nat} : COK Tryd.prog HW 96 (call (α := α) (f n)) := fun _ _ _ h => by
  unfold call at h; split at h
  · exact cok h fun _ => ok
  · cases h
end abacusref04_FromInt
end Go.Proofs.YtlnfgcnagfdliaaDoor.F
