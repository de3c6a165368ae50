-- printed by a program
import Derived.Test.YtcdnoklokoplaaaDoorPEx0
import Derived.Test.YtcdnoklokoplaaaDoorPEx1
import Derived.Test.YtcdnoklokoplaaaDoorPEx5
import Derived.Test.YtcdnoklokoplaaaDoorPEx8
import Derived.Test.YtcdnoklokoplaaaDoorPEx9
import Derived.Test.YtcdnoklokoplaaaDoorPEx11
namespace Go.Proofs.YtcdnoklokoplaaaDoor.PE
open Go.Proofs.YtcdnoklokoplaaaDoorX
open Go.RowKit Go.Proofs.YtcdnoklokoplaaaDoorW.PrintWords Go.Proofs.YtcdnoklokoplaaaDoorW.PrintLast Go.Proofs.YtcdnoklokoplaaaDoorW.PrintMore
attribute [local go_sem] max2_int min2_int max_two min_two max_three min_three max_four min_four   -- for this text's walks alone
set_option linter.unusedVariables false
set_option linter.unusedSimpArgs false

/-! ### soft_fma: function 59 -/
mutual
def soft_fma.j0 : Nat → Int → Bool → Bool → Int → Int → Int → Bool → Int → Int → Int → Bool → Int → Int → Int → Option (Int × Int)
 | 0, _, _, _, _, _, _, _, _, _, _, _, _, _, _ => none
 | k + 1, x2, x11, x473000, x473001, x473002, x473003, x474000, x474001, x474002, x474003, x475000, x475001, x475002, x475003 => if x473001 = 4 then (soft_fma.j1 k x2 x11 (x473000 != x474000) true x473000 x473001 x473002 x473003 x474000 x474001 x474002 x474003 x475000 x475001 x475002 x475003) else (if x474001 = 4 then (soft_fma.j1 k x2 x11 (x473000 != x474000) true x473000 x473001 x473002 x473003 x474000 x474001 x474002 x474003 x475000 x475001 x475002 x475003) else (soft_fma.j1 k x2 x11 (x473000 != x474000) (x475001 == 4) x473000 x473001 x473002 x473003 x474000 x474001 x474002 x474003 x475000 x475001 x475002 x475003))
def soft_fma.j1 : Nat → Int → Bool → Bool → Bool → Bool → Int → Int → Int → Bool → Int → Int → Int → Bool → Int → Int → Int → Option (Int × Int)
 | 0, _, _, _, _, _, _, _, _, _, _, _, _, _, _, _, _ => none
 | k + 1, x2, x11, x12, x32, x473000, x473001, x473002, x473003, x474000, x474001, x474002, x474003, x475000, x475001, x475002, x475003 => if x32 = true then (some (9221120237041090560, 0)) else (if x11 = true then (if x473001 = 0 then (soft_fma.j2 k x2 x11 x12 true x473000 x473001 x473002 x473003 x474000 x474001 x474002 x474003 x475000 x475001 x475002 x475003) else (soft_fma.j2 k x2 x11 x12 (x474001 == 0) x473000 x473001 x473002 x473003 x474000 x474001 x474002 x474003 x475000 x475001 x475002 x475003)) else (soft_fma.j2 k x2 x11 x12 false x473000 x473001 x473002 x473003 x474000 x474001 x474002 x474003 x475000 x475001 x475002 x475003))
def soft_fma.j2 : Nat → Int → Bool → Bool → Bool → Bool → Int → Int → Int → Bool → Int → Int → Int → Bool → Int → Int → Int → Option (Int × Int)
 | 0, _, _, _, _, _, _, _, _, _, _, _, _, _, _, _, _ => none
 | k + 1, x2, x11, x12, x46, x473000, x473001, x473002, x473003, x474000, x474001, x474002, x474003, x475000, x475001, x475002, x475003 => if x46 = true then ((soft_invalid.f).bind fun bt475 => (some (bt475.1, bt475.2))) else (if x11 = true then (if x475001 = 3 then (soft_fma.j3 k x2 x11 x12 (x475000 != x12) x473000 x473001 x473002 x473003 x474000 x474001 x474002 x474003 x475000 x475001 x475002 x475003) else (soft_fma.j3 k x2 x11 x12 false x473000 x473001 x473002 x473003 x474000 x474001 x474002 x474003 x475000 x475001 x475002 x475003)) else (soft_fma.j3 k x2 x11 x12 false x473000 x473001 x473002 x473003 x474000 x474001 x474002 x474003 x475000 x475001 x475002 x475003))
def soft_fma.j3 : Nat → Int → Bool → Bool → Bool → Bool → Int → Int → Int → Bool → Int → Int → Int → Bool → Int → Int → Int → Option (Int × Int)
 | 0, _, _, _, _, _, _, _, _, _, _, _, _, _, _, _, _ => none
 | k + 1, x2, x11, x12, x61, x473000, x473001, x473002, x473003, x474000, x474001, x474002, x474003, x475000, x475001, x475002, x475003 => if x61 = true then ((soft_invalid.f).bind fun bt477 => (some (bt477.1, bt477.2))) else (if x11 = true then ((soft_withSign.f x12 9218868437227405312).bind fun t479 => (some (t479, 0))) else (if x475001 = 3 then (some (x2, 0)) else ((soft_product.f k x473000 x473001 x473002 x473003 x474000 x474001 x474002 x474003).bind fun bt480 => ((soft_termOf.f x475000 x475001 x475002 x475003).bind fun bt485 => ((soft_term_plus.f k bt480.1 bt480.2.1 bt480.2.2 bt485.1 bt485.2.1 bt485.2.2).bind fun bt490 => ((soft_term_rounded.f k bt490.1 bt490.2.1 bt490.2.2).bind fun bt495 => (some (bt495.1, bt495.2))))))))
end
def soft_fma.f (k : Nat) (a0 : Int) (a1 : Int) (a2 : Int) : Option (Int × Int) := (ieee_Decode.f a0).bind fun bt460 => ((ieee_Decode.f a1).bind fun bt464 => ((ieee_Decode.f a2).bind fun bt468 => (if bt460.2.1 = 3 then (soft_fma.j0 k a2 true bt460.1 bt460.2.1 bt460.2.2.1 bt460.2.2.2 bt464.1 bt464.2.1 bt464.2.2.1 bt464.2.2.2 bt468.1 bt468.2.1 bt468.2.2.1 bt468.2.2.2) else (soft_fma.j0 k a2 (bt464.2.1 == 3) bt460.1 bt460.2.1 bt460.2.2.1 bt460.2.2.2 bt464.1 bt464.2.1 bt464.2.2.1 bt464.2.2.2 bt468.1 bt468.2.1 bt468.2.2.1 bt468.2.2.2))))
theorem soft_fma.mono_l : ∀ k, (∀ y0 y1 y2 y3 y4 y5 y6 y7 y8 y9 y10 y11 y12 y13, LeO (soft_fma.j0 k y0 y1 y2 y3 y4 y5 y6 y7 y8 y9 y10 y11 y12 y13) (soft_fma.j0 (k + 1) y0 y1 y2 y3 y4 y5 y6 y7 y8 y9 y10 y11 y12 y13)) ∧ (∀ y0 y1 y2 y3 y4 y5 y6 y7 y8 y9 y10 y11 y12 y13 y14 y15, LeO (soft_fma.j1 k y0 y1 y2 y3 y4 y5 y6 y7 y8 y9 y10 y11 y12 y13 y14 y15) (soft_fma.j1 (k + 1) y0 y1 y2 y3 y4 y5 y6 y7 y8 y9 y10 y11 y12 y13 y14 y15)) ∧ (∀ y0 y1 y2 y3 y4 y5 y6 y7 y8 y9 y10 y11 y12 y13 y14 y15, LeO (soft_fma.j2 k y0 y1 y2 y3 y4 y5 y6 y7 y8 y9 y10 y11 y12 y13 y14 y15) (soft_fma.j2 (k + 1) y0 y1 y2 y3 y4 y5 y6 y7 y8 y9 y10 y11 y12 y13 y14 y15)) ∧ (∀ y0 y1 y2 y3 y4 y5 y6 y7 y8 y9 y10 y11 y12 y13 y14 y15, LeO (soft_fma.j3 k y0 y1 y2 y3 y4 y5 y6 y7 y8 y9 y10 y11 y12 y13 y14 y15) (soft_fma.j3 (k + 1) y0 y1 y2 y3 y4 y5 y6 y7 y8 y9 y10 y11 y12 y13 y14 y15))
 | 0 => ⟨fun _ _ _ _ _ _ _ _ _ _ _ _ _ _ r h => by simp [soft_fma.j0] at h, fun _ _ _ _ _ _ _ _ _ _ _ _ _ _ _ _ r h => by simp [soft_fma.j1] at h, fun _ _ _ _ _ _ _ _ _ _ _ _ _ _ _ _ r h => by simp [soft_fma.j2] at h, fun _ _ _ _ _ _ _ _ _ _ _ _ _ _ _ _ r h => by simp [soft_fma.j3] at h⟩
 | k + 1 => by
  obtain ⟨ih0, ih1, ih2, ih3⟩ := soft_fma.mono_l k
  refine ⟨?_, ?_, ?_, ?_⟩
  ·intro y0 y1 y2 y3 y4 y5 y6 y7 y8 y9 y10 y11 y12 y13
   unfold soft_fma.j0
   repeat' first
   | (with_reducible exact ih0 _ _ _ _ _ _ _ _ _ _ _ _ _ _)
   | (with_reducible exact ih1 _ _ _ _ _ _ _ _ _ _ _ _ _ _ _ _)
   | (with_reducible exact ih2 _ _ _ _ _ _ _ _ _ _ _ _ _ _ _ _)
   | (with_reducible exact ih3 _ _ _ _ _ _ _ _ _ _ _ _ _ _ _ _)
   | (with_reducible exact soft_product.mono _ _ _ _ _ _ _ _ _)
   | (with_reducible exact soft_term_plus.mono _ _ _ _ _ _ _)
   | (with_reducible exact soft_term_rounded.mono _ _ _ _)
   | (with_reducible exact LeO.refl _)
   | (with_reducible exact LeO.none _)
   | (with_reducible refine LeO.ite ?_ ?_)
   | (with_reducible refine LeO.bind ?_ (fun _ => ?_))
   | exact ih0 _ _ _ _ _ _ _ _ _ _ _ _ _ _
   | exact ih1 _ _ _ _ _ _ _ _ _ _ _ _ _ _ _ _
   | exact ih2 _ _ _ _ _ _ _ _ _ _ _ _ _ _ _ _
   | exact ih3 _ _ _ _ _ _ _ _ _ _ _ _ _ _ _ _
   | exact soft_product.mono _ _ _ _ _ _ _ _ _
   | exact soft_term_plus.mono _ _ _ _ _ _ _
   | exact soft_term_rounded.mono _ _ _ _
   | exact LeO.none _
   | refine LeO.ite ?_ ?_
   | refine LeO.bind ?_ (fun _ => ?_)
  ·intro y0 y1 y2 y3 y4 y5 y6 y7 y8 y9 y10 y11 y12 y13 y14 y15
   unfold soft_fma.j1
   repeat' first
   | (with_reducible exact ih0 _ _ _ _ _ _ _ _ _ _ _ _ _ _)
   | (with_reducible exact ih1 _ _ _ _ _ _ _ _ _ _ _ _ _ _ _ _)
   | (with_reducible exact ih2 _ _ _ _ _ _ _ _ _ _ _ _ _ _ _ _)
   | (with_reducible exact ih3 _ _ _ _ _ _ _ _ _ _ _ _ _ _ _ _)
   | (with_reducible exact soft_product.mono _ _ _ _ _ _ _ _ _)
   | (with_reducible exact soft_term_plus.mono _ _ _ _ _ _ _)
   | (with_reducible exact soft_term_rounded.mono _ _ _ _)
   | (with_reducible exact LeO.refl _)
   | (with_reducible exact LeO.none _)
   | (with_reducible refine LeO.ite ?_ ?_)
   | (with_reducible refine LeO.bind ?_ (fun _ => ?_))
   | exact ih0 _ _ _ _ _ _ _ _ _ _ _ _ _ _
   | exact ih1 _ _ _ _ _ _ _ _ _ _ _ _ _ _ _ _
   | exact ih2 _ _ _ _ _ _ _ _ _ _ _ _ _ _ _ _
   | exact ih3 _ _ _ _ _ _ _ _ _ _ _ _ _ _ _ _
   | exact soft_product.mono _ _ _ _ _ _ _ _ _
   | exact soft_term_plus.mono _ _ _ _ _ _ _
   | exact soft_term_rounded.mono _ _ _ _
   | exact LeO.none _
   | refine LeO.ite ?_ ?_
   | refine LeO.bind ?_ (fun _ => ?_)
  ·intro y0 y1 y2 y3 y4 y5 y6 y7 y8 y9 y10 y11 y12 y13 y14 y15
   unfold soft_fma.j2
   repeat' first
   | (with_reducible exact ih0 _ _ _ _ _ _ _ _ _ _ _ _ _ _)
   | (with_reducible exact ih1 _ _ _ _ _ _ _ _ _ _ _ _ _ _ _ _)
   | (with_reducible exact ih2 _ _ _ _ _ _ _ _ _ _ _ _ _ _ _ _)
   | (with_reducible exact ih3 _ _ _ _ _ _ _ _ _ _ _ _ _ _ _ _)
   | (with_reducible exact soft_product.mono _ _ _ _ _ _ _ _ _)
   | (with_reducible exact soft_term_plus.mono _ _ _ _ _ _ _)
   | (with_reducible exact soft_term_rounded.mono _ _ _ _)
   | (with_reducible exact LeO.refl _)
   | (with_reducible exact LeO.none _)
   | (with_reducible refine LeO.ite ?_ ?_)
   | (with_reducible refine LeO.bind ?_ (fun _ => ?_))
   | exact ih0 _ _ _ _ _ _ _ _ _ _ _ _ _ _
   | exact ih1 _ _ _ _ _ _ _ _ _ _ _ _ _ _ _ _
   | exact ih2 _ _ _ _ _ _ _ _ _ _ _ _ _ _ _ _
   | exact ih3 _ _ _ _ _ _ _ _ _ _ _ _ _ _ _ _
   | exact soft_product.mono _ _ _ _ _ _ _ _ _
   | exact soft_term_plus.mono _ _ _ _ _ _ _
   | exact soft_term_rounded.mono _ _ _ _
   | exact LeO.none _
   | refine LeO.ite ?_ ?_
   | refine LeO.bind ?_ (fun _ => ?_)
  ·intro y0 y1 y2 y3 y4 y5 y6 y7 y8 y9 y10 y11 y12 y13 y14 y15
   unfold soft_fma.j3
   repeat' first
   | (with_reducible exact ih0 _ _ _ _ _ _ _ _ _ _ _ _ _ _)
   | (with_reducible exact ih1 _ _ _ _ _ _ _ _ _ _ _ _ _ _ _ _)
   | (with_reducible exact ih2 _ _ _ _ _ _ _ _ _ _ _ _ _ _ _ _)
   | (with_reducible exact ih3 _ _ _ _ _ _ _ _ _ _ _ _ _ _ _ _)
   | (with_reducible exact soft_product.mono _ _ _ _ _ _ _ _ _)
   | (with_reducible exact soft_term_plus.mono _ _ _ _ _ _ _)
   | (with_reducible exact soft_term_rounded.mono _ _ _ _)
   | (with_reducible exact LeO.refl _)
   | (with_reducible exact LeO.none _)
   | (with_reducible refine LeO.ite ?_ ?_)
   | (with_reducible refine LeO.bind ?_ (fun _ => ?_))
   | exact ih0 _ _ _ _ _ _ _ _ _ _ _ _ _ _
   | exact ih1 _ _ _ _ _ _ _ _ _ _ _ _ _ _ _ _
   | exact ih2 _ _ _ _ _ _ _ _ _ _ _ _ _ _ _ _
   | exact ih3 _ _ _ _ _ _ _ _ _ _ _ _ _ _ _ _
   | exact soft_product.mono _ _ _ _ _ _ _ _ _
   | exact soft_term_plus.mono _ _ _ _ _ _ _
   | exact soft_term_rounded.mono _ _ _ _
   | exact LeO.none _
   | refine LeO.ite ?_ ?_
   | refine LeO.bind ?_ (fun _ => ?_)
theorem soft_fma.mono : ∀ a0 a1 a2 k, LeO (soft_fma.f k a0 a1 a2) (soft_fma.f (k + 1) a0 a1 a2) := by
 intro a0 a1 a2 k
 obtain ⟨ih0, ih1, ih2, ih3⟩ := soft_fma.mono_l k
 unfold soft_fma.f
 repeat' first
   | (with_reducible exact ih0 _ _ _ _ _ _ _ _ _ _ _ _ _ _)
   | (with_reducible exact ih1 _ _ _ _ _ _ _ _ _ _ _ _ _ _ _ _)
   | (with_reducible exact ih2 _ _ _ _ _ _ _ _ _ _ _ _ _ _ _ _)
   | (with_reducible exact ih3 _ _ _ _ _ _ _ _ _ _ _ _ _ _ _ _)
   | (with_reducible exact soft_product.mono _ _ _ _ _ _ _ _ _)
   | (with_reducible exact soft_term_plus.mono _ _ _ _ _ _ _)
   | (with_reducible exact soft_term_rounded.mono _ _ _ _)
   | (with_reducible exact LeO.refl _)
   | (with_reducible exact LeO.none _)
   | (with_reducible refine LeO.ite ?_ ?_)
   | (with_reducible refine LeO.bind ?_ (fun _ => ?_))
   | exact ih0 _ _ _ _ _ _ _ _ _ _ _ _ _ _
   | exact ih1 _ _ _ _ _ _ _ _ _ _ _ _ _ _ _ _
   | exact ih2 _ _ _ _ _ _ _ _ _ _ _ _ _ _ _ _
   | exact ih3 _ _ _ _ _ _ _ _ _ _ _ _ _ _ _ _
   | exact soft_product.mono _ _ _ _ _ _ _ _ _
   | exact soft_term_plus.mono _ _ _ _ _ _ _
   | exact soft_term_rounded.mono _ _ _ _
   | exact LeO.none _
   | refine LeO.ite ?_ ?_
   | refine LeO.bind ?_ (fun _ => ?_)
def soft_fma.T14 : Bool × List (List Nat × List Nat) := (true, [([], []), ([], []), ([0, 1], [0, 1]), ([], []), ([3, 2], [3]), ([2, 4, 4], [2, 4]), ([5, 5], [5]), ([6], [6]), ([6], [6]), ([7, 6, 0, 1, 2, 3, 4, 5, 6, 7, 8], [7]), ([8, 9, 0, 1, 2, 3, 4, 5, 6, 7, 8, 9], [8])])
def soft_fma.B14 : List Nat := [0, 0, 3, 0, 15, 31, 63, 127, 127, 511, 1023]
theorem soft_fma.tab14 : rtab .any (opsOf Tryd.f59 14) = soft_fma.T14 := by kernel_rfl
theorem soft_fma.bits14 : waitsOk soft_fma.T14.2 soft_fma.B14 = true := by kernel_rfl
set_option maxHeartbeats 8000000 in
set_option maxRecDepth 100000 in
theorem soft_fma.calls (k : Nat) (a0 : Int) (a1 : Int) (a2 : Int) (r1 : Int) (r2 : Int) (w : World) (hT : Kd.C (Kd.int .u8) w (some ⟨0, 0, none⟩) 64 tabL) (h : soft_fma.f k a0 a1 a2 = some (r1, r2)) :
  Calls Tryd.prog 59 #[.int .u64 a0, .int .u64 a1, .int .u64 a2] w fun e w' => e = .returned (.tuple #[.int .u64 r1, .int .i64 r2]) ∧ Below w.heap.size w w' := by
 have hu39 := Tryd.underlying39
 have HT := Aside0.mk hT
 clear hT
 have HB := Aside0.mk (Below.refl w.heap.size w)
 have H : ((ieee_Decode.f a0).bind fun bt460 => ((ieee_Decode.f a1).bind fun bt464 => ((ieee_Decode.f a2).bind fun bt468 => (if bt460.2.1 = 3 then (soft_fma.j0 k a2 true bt460.1 bt460.2.1 bt460.2.2.1 bt460.2.2.2 bt464.1 bt464.2.1 bt464.2.2.1 bt464.2.2.2 bt468.1 bt468.2.1 bt468.2.2.1 bt468.2.2.2) else (soft_fma.j0 k a2 (bt464.2.1 == 3) bt460.1 bt460.2.1 bt460.2.2.1 bt460.2.2.2 bt464.1 bt464.2.1 bt464.2.2.1 bt464.2.2.2 bt468.1 bt468.2.1 bt468.2.2.1 bt468.2.2.2))))) = some (r1, r2) := h
 clear h
 obtain ⟨⟨t460, t461, t462, t463⟩, A40, H⟩ := Option.bind_eq_some_iff.mp H
 dsimp only at H
 have A4 := Aside0.mk A40
 clear A40
 obtain ⟨⟨t464, t465, t466, t467⟩, A50, H⟩ := Option.bind_eq_some_iff.mp H
 dsimp only at H
 have A5 := Aside0.mk A50
 clear A50
 obtain ⟨⟨t468, t469, t470, t471⟩, A60, H⟩ := Option.bind_eq_some_iff.mp H
 dsimp only at H
 have A6 := Aside0.mk A60
 clear A60
 have HC7 := Aside0.mk H
 clear H
 go_enter Tryd.func59, Tryd.ntmps59
 go_upto_region 2 with (first | ((with_reducible refine gate_callee (f := 29) rfl ?_); refine goesL_ (some 14) rfl rfl Tryd.func29 (by kernel_rfl) rfl #[.int .u64 a0] rfl (by (try simp only [List.map_toArray, List.map_cons, List.map_nil]); first | done | rfl) ?_; (with_reducible refine (ieee_Decode.calls a0 t460 t461 t462 t463 _ A4.out).mono ?_); rintro e w8 ⟨rfl, hb⟩; refine ⟨_, rfl, ?_⟩; replace HB := hB HB hb; (try clear hb); (try clear hb2); (try clear hk); (try clear hi)) | ((with_reducible refine gate_callee (f := 29) rfl ?_); refine goesL_ (some 16) rfl rfl Tryd.func29 (by kernel_rfl) rfl #[.int .u64 a1] rfl (by (try simp only [List.map_toArray, List.map_cons, List.map_nil]); first | done | rfl) ?_; (with_reducible refine (ieee_Decode.calls a1 t464 t465 t466 t467 _ A5.out).mono ?_); rintro e w9 ⟨rfl, hb⟩; refine ⟨_, rfl, ?_⟩; replace HB := hB HB hb; (try clear hb); (try clear hb2); (try clear hk); (try clear hi)) | ((with_reducible refine gate_callee (f := 29) rfl ?_); refine goesL_ (some 18) rfl rfl Tryd.func29 (by kernel_rfl) rfl #[.int .u64 a2] rfl (by (try simp only [List.map_toArray, List.map_cons, List.map_nil]); first | done | rfl) ?_; (with_reducible refine (ieee_Decode.calls a2 t468 t469 t470 t471 _ A6.out).mono ?_); rintro e w10 ⟨rfl, hb⟩; refine ⟨_, rfl, ?_⟩; replace HB := hB HB hb; (try clear hb); (try clear hb2); (try clear hk); (try clear hi)) | ((with_reducible refine gate_dst (N := 8) rfl ?_); refine box_event ?hg (N := 8) ?hd (cs := #[.bool false, .int .i64 0, .int .u64 0, .int .i64 0]) (t := 39) ?hr ?_; (case hd => rfl); (case hg => rfl); (case hr => first | (go_simp; done) | (go_simp; rfl)); intro gb472 hg w11 hbox hb; have BK472 := Aside0.mk (hbox); have GW472 := Aside0.mk ((by rw [hg]; exact (below_size (bS HB.out)) : w.heap.size ≤ gb472)); have GE472 := Aside0.mk ((by rw [hg]; exact (below_size (bS HB.out)) : w.heap.size ≤ gb472)); replace HB := hB HB hb; clear hb hbox hg) | ((with_reducible refine gate_dst (N := 9) rfl ?_); refine box_event ?hg (N := 9) ?hd (cs := #[.bool false, .int .i64 0, .int .u64 0, .int .i64 0]) (t := 39) ?hr ?_; (case hd => rfl); (case hg => rfl); (case hr => first | (go_simp; done) | (go_simp; rfl)); intro gb473 hg w12 hbox hb; have BK473 := Aside0.mk (hbox); have GW473 := Aside0.mk ((by rw [hg]; exact (below_size (bG1 HB.out GE472.out)) : w.heap.size ≤ gb473)); have GE473 := Aside0.mk ((by rw [hg]; exact (below_size (bG1 HB.out GE472.out)) : w.heap.size ≤ gb473)); replace HB := Aside0.mk (below_step (bG1 HB.out GE472.out) hb); have NB472_473 := Aside0.mk ((by rw [hg]; exact Nat.ne_of_lt (blk_lt (g := gb472) (o := .cells #[.bool false, .int .i64 0, .int .u64 0, .int .i64 0] 39 (0, 0)) (by exact bkS BK472.out)) : gb472 ≠ gb473)); have NB473_472 := Aside0.mk ((by rw [hg]; exact Nat.ne_of_gt (blk_lt (g := gb472) (o := .cells #[.bool false, .int .i64 0, .int .u64 0, .int .i64 0] 39 (0, 0)) (by exact bkS BK472.out)) : gb473 ≠ gb472)); replace BK472 := bkB BK472 hb; clear hb hbox hg) | ((with_reducible refine gate_dst (N := 10) rfl ?_); refine box_event ?hg (N := 10) ?hd (cs := #[.bool false, .int .i64 0, .int .u64 0, .int .i64 0]) (t := 39) ?hr ?_; (case hd => rfl); (case hg => rfl); (case hr => first | (go_simp; done) | (go_simp; rfl)); intro gb474 hg w13 hbox hb; have BK474 := Aside0.mk (hbox); have GW474 := Aside0.mk ((by rw [hg]; exact (below_size (bG2 HB.out GE472.out GE473.out)) : w.heap.size ≤ gb474)); have GE474 := Aside0.mk ((by rw [hg]; exact (below_size (bG2 HB.out GE472.out GE473.out)) : w.heap.size ≤ gb474)); replace HB := Aside0.mk (below_step (bG2 HB.out GE472.out GE473.out) hb); have NB472_474 := Aside0.mk ((by rw [hg]; exact Nat.ne_of_lt (blk_lt (g := gb472) (o := .cells #[.bool false, .int .i64 0, .int .u64 0, .int .i64 0] 39 (0, 0)) (by exact bkS BK472.out)) : gb472 ≠ gb474)); have NB474_472 := Aside0.mk ((by rw [hg]; exact Nat.ne_of_gt (blk_lt (g := gb472) (o := .cells #[.bool false, .int .i64 0, .int .u64 0, .int .i64 0] 39 (0, 0)) (by exact bkS BK472.out)) : gb474 ≠ gb472)); replace BK472 := bkB BK472 hb; have NB473_474 := Aside0.mk ((by rw [hg]; exact Nat.ne_of_lt (blk_lt (g := gb473) (o := .cells #[.bool false, .int .i64 0, .int .u64 0, .int .i64 0] 39 (0, 0)) (by exact bkS BK473.out)) : gb473 ≠ gb474)); have NB474_473 := Aside0.mk ((by rw [hg]; exact Nat.ne_of_gt (blk_lt (g := gb473) (o := .cells #[.bool false, .int .i64 0, .int .u64 0, .int .i64 0] 39 (0, 0)) (by exact bkS BK473.out)) : gb474 ≠ gb473)); replace BK473 := bkB BK473 hb; clear hb hbox hg; have hnb14 := NB472_473.out; have hnc14 := NB473_472.out; have hnb15 := NB472_474.out; have hnc15 := NB474_472.out; have hcz16_0 : w13.cell? ⟨gb472, 0, none⟩ = some (.bool false) := (blk_cell BK472.out 0).trans rfl; have hcz16_1 : w13.cell? ⟨gb472, 1, none⟩ = some (.int .i64 0) := (blk_cell BK472.out 1).trans rfl; have hcz16_2 : w13.cell? ⟨gb472, 2, none⟩ = some (.int .u64 0) := (blk_cell BK472.out 2).trans rfl; have hcz16_3 : w13.cell? ⟨gb472, 3, none⟩ = some (.int .i64 0) := (blk_cell BK472.out 3).trans rfl; have hfz16_0 := blk_frozen BK472.out 0; have hfz16_1 := blk_frozen BK472.out 1; have hfz16_2 := blk_frozen BK472.out 2; have hfz16_3 := blk_frozen BK472.out 3; have hnb17 := NB473_474.out; have hnc17 := NB474_473.out; have hcz18_0 : w13.cell? ⟨gb473, 0, none⟩ = some (.bool false) := (blk_cell BK473.out 0).trans rfl; have hcz18_1 : w13.cell? ⟨gb473, 1, none⟩ = some (.int .i64 0) := (blk_cell BK473.out 1).trans rfl; have hcz18_2 : w13.cell? ⟨gb473, 2, none⟩ = some (.int .u64 0) := (blk_cell BK473.out 2).trans rfl; have hcz18_3 : w13.cell? ⟨gb473, 3, none⟩ = some (.int .i64 0) := (blk_cell BK473.out 3).trans rfl; have hfz18_0 := blk_frozen BK473.out 0; have hfz18_1 := blk_frozen BK473.out 1; have hfz18_2 := blk_frozen BK473.out 2; have hfz18_3 := blk_frozen BK473.out 3; have hcz19_0 : w13.cell? ⟨gb474, 0, none⟩ = some (.bool false) := (blk_cell BK474.out 0).trans rfl; have hcz19_1 : w13.cell? ⟨gb474, 1, none⟩ = some (.int .i64 0) := (blk_cell BK474.out 1).trans rfl; have hcz19_2 : w13.cell? ⟨gb474, 2, none⟩ = some (.int .u64 0) := (blk_cell BK474.out 2).trans rfl; have hcz19_3 : w13.cell? ⟨gb474, 3, none⟩ = some (.int .i64 0) := (blk_cell BK474.out 3).trans rfl; have hfz19_0 := blk_frozen BK474.out 0; have hfz19_1 := blk_frozen BK474.out 1; have hfz19_2 := blk_frozen BK474.out 2; have hfz19_3 := blk_frozen BK474.out 3))
 (try simp only [Act.put, List.setIfInBounds_toArray, List.set_cons_zero, List.set_cons_succ])
 go_cut [11] (fun v11 wc => ∃ (kq : Nat) (x11_6 : Bool), v11 = .bool x11_6 ∧ Aside0 (soft_fma.j0 kq a2 x11_6 t460 t461 t462 t463 t464 t465 t466 t467 t468 t469 t470 t471 = some (r1, r2)) ∧ Aside0 (kq ≤ k) ∧ Aside0 (wc.heap[gb472]? = some (.cells #[.bool t460, .int .i64 t461, .int .u64 t462, .int .i64 t463] 39 (0, 0))) ∧ Aside0 (wc.heap[gb473]? = some (.cells #[.bool t464, .int .i64 t465, .int .u64 t466, .int .i64 t467] 39 (0, 0))) ∧ Aside0 (wc.heap[gb474]? = some (.cells #[.bool t468, .int .i64 t469, .int .u64 t470, .int .i64 t471] 39 (0, 0))) ∧ Aside0 (Below w.heap.size w wc))
 case first =>
  have H := HC7.out
  clear HC7
  by_cases c20 : t461 = 3
  ·rw [if_pos c20] at H
   have c20b0 : (t461 == 3) = true := beq_iff_eq.mpr c20
   have c20b1 : (t461 != 3) = false := bne_eq_false_iff_eq.mpr c20
   clear c20
   (first | rw [c20b0] | (simp only [i64_w, i32_w]; rw [c20b0]) | rw [c20b1] | skip)
   have H' := Aside0.mk H
   clear H
   have hnb21 := NB472_473.out
   have hnc21 := NB473_472.out
   have hnb22 := NB472_474.out
   have hnc22 := NB474_472.out
   have hcz23_0 : w13.cell? ⟨gb472, 0, none⟩ = some (.bool false) := (blk_cell BK472.out 0).trans rfl
   have hcz23_1 : w13.cell? ⟨gb472, 1, none⟩ = some (.int .i64 0) := (blk_cell BK472.out 1).trans rfl
   have hcz23_2 : w13.cell? ⟨gb472, 2, none⟩ = some (.int .u64 0) := (blk_cell BK472.out 2).trans rfl
   have hcz23_3 : w13.cell? ⟨gb472, 3, none⟩ = some (.int .i64 0) := (blk_cell BK472.out 3).trans rfl
   have hfz23_0 := blk_frozen BK472.out 0
   have hfz23_1 := blk_frozen BK472.out 1
   have hfz23_2 := blk_frozen BK472.out 2
   have hfz23_3 := blk_frozen BK472.out 3
   go_wp2
   go_meet
   case rel => exact ⟨_, (true), (by first | rfl | (simp; done) | (simp [*]; done)), H', ⟨by first | omega | exact Nat.le_refl _⟩, ⟨by refine blkF ?_ NB472_474.out _; refine blkF ?_ NB472_474.out _; refine blkF ?_ NB472_474.out _; refine blkF ?_ NB472_474.out _; refine blkF ?_ NB472_473.out _; refine blkF ?_ NB472_473.out _; refine blkF ?_ NB472_473.out _; refine blkF ?_ NB472_473.out _; refine blkP (cs := #[.bool t460, .int .i64 t461, .int .u64 t462, .int .i64 0]) ?_ 3 _ rfl; refine blkP (cs := #[.bool t460, .int .i64 t461, .int .u64 0, .int .i64 0]) ?_ 2 _ rfl; refine blkP (cs := #[.bool t460, .int .i64 0, .int .u64 0, .int .i64 0]) ?_ 1 _ rfl; refine blkP (cs := #[.bool false, .int .i64 0, .int .u64 0, .int .i64 0]) ?_ 0 _ rfl; exact bkS BK472.out⟩, ⟨by refine blkF ?_ NB473_474.out _; refine blkF ?_ NB473_474.out _; refine blkF ?_ NB473_474.out _; refine blkF ?_ NB473_474.out _; refine blkP (cs := #[.bool t464, .int .i64 t465, .int .u64 t466, .int .i64 0]) ?_ 3 _ rfl; refine blkP (cs := #[.bool t464, .int .i64 t465, .int .u64 0, .int .i64 0]) ?_ 2 _ rfl; refine blkP (cs := #[.bool t464, .int .i64 0, .int .u64 0, .int .i64 0]) ?_ 1 _ rfl; refine blkP (cs := #[.bool false, .int .i64 0, .int .u64 0, .int .i64 0]) ?_ 0 _ rfl; refine blkF ?_ NB473_472.out _; refine blkF ?_ NB473_472.out _; refine blkF ?_ NB473_472.out _; refine blkF ?_ NB473_472.out _; exact bkS BK473.out⟩, ⟨by refine blkP (cs := #[.bool t468, .int .i64 t469, .int .u64 t470, .int .i64 0]) ?_ 3 _ rfl; refine blkP (cs := #[.bool t468, .int .i64 t469, .int .u64 0, .int .i64 0]) ?_ 2 _ rfl; refine blkP (cs := #[.bool t468, .int .i64 0, .int .u64 0, .int .i64 0]) ?_ 1 _ rfl; refine blkP (cs := #[.bool false, .int .i64 0, .int .u64 0, .int .i64 0]) ?_ 0 _ rfl; refine blkF ?_ NB474_473.out _; refine blkF ?_ NB474_473.out _; refine blkF ?_ NB474_473.out _; refine blkF ?_ NB474_473.out _; refine blkF ?_ NB474_472.out _; refine blkF ?_ NB474_472.out _; refine blkF ?_ NB474_472.out _; refine blkF ?_ NB474_472.out _; exact bkS BK474.out⟩, ⟨bG3 HB.out GE472.out GE473.out GE474.out⟩⟩
  ·rw [if_neg c20] at H
   have c20b0 : (t461 == 3) = false := beq_eq_false_iff_ne.mpr c20
   have c20b1 : (t461 != 3) = true := bne_iff_ne.mpr c20
   (first | rw [c20b0] | (simp only [i64_w, i32_w]; rw [c20b0]) | rw [c20b1] | skip)
   have H' := Aside0.mk H
   clear H
   have hnb24 := NB472_473.out
   have hnc24 := NB473_472.out
   have hnb25 := NB472_474.out
   have hnc25 := NB474_472.out
   have hcz26_0 : w13.cell? ⟨gb472, 0, none⟩ = some (.bool false) := (blk_cell BK472.out 0).trans rfl
   have hcz26_1 : w13.cell? ⟨gb472, 1, none⟩ = some (.int .i64 0) := (blk_cell BK472.out 1).trans rfl
   have hcz26_2 : w13.cell? ⟨gb472, 2, none⟩ = some (.int .u64 0) := (blk_cell BK472.out 2).trans rfl
   have hcz26_3 : w13.cell? ⟨gb472, 3, none⟩ = some (.int .i64 0) := (blk_cell BK472.out 3).trans rfl
   have hfz26_0 := blk_frozen BK472.out 0
   have hfz26_1 := blk_frozen BK472.out 1
   have hfz26_2 := blk_frozen BK472.out 2
   have hfz26_3 := blk_frozen BK472.out 3
   have hnb27 := NB473_474.out
   have hnc27 := NB474_473.out
   have hcz28_0 : w13.cell? ⟨gb473, 0, none⟩ = some (.bool false) := (blk_cell BK473.out 0).trans rfl
   have hcz28_1 : w13.cell? ⟨gb473, 1, none⟩ = some (.int .i64 0) := (blk_cell BK473.out 1).trans rfl
   have hcz28_2 : w13.cell? ⟨gb473, 2, none⟩ = some (.int .u64 0) := (blk_cell BK473.out 2).trans rfl
   have hcz28_3 : w13.cell? ⟨gb473, 3, none⟩ = some (.int .i64 0) := (blk_cell BK473.out 3).trans rfl
   have hfz28_0 := blk_frozen BK473.out 0
   have hfz28_1 := blk_frozen BK473.out 1
   have hfz28_2 := blk_frozen BK473.out 2
   have hfz28_3 := blk_frozen BK473.out 3
   go_wp2
   go_meet
   case rel => exact ⟨_, ((t465 == 3)), (by first | rfl | (simp; done) | (simp [*]; done)), H', ⟨by first | omega | exact Nat.le_refl _⟩, ⟨by refine blkF ?_ NB472_474.out _; refine blkF ?_ NB472_474.out _; refine blkF ?_ NB472_474.out _; refine blkF ?_ NB472_474.out _; refine blkF ?_ NB472_473.out _; refine blkF ?_ NB472_473.out _; refine blkF ?_ NB472_473.out _; refine blkF ?_ NB472_473.out _; refine blkP (cs := #[.bool t460, .int .i64 t461, .int .u64 t462, .int .i64 0]) ?_ 3 _ rfl; refine blkP (cs := #[.bool t460, .int .i64 t461, .int .u64 0, .int .i64 0]) ?_ 2 _ rfl; refine blkP (cs := #[.bool t460, .int .i64 0, .int .u64 0, .int .i64 0]) ?_ 1 _ rfl; refine blkP (cs := #[.bool false, .int .i64 0, .int .u64 0, .int .i64 0]) ?_ 0 _ rfl; exact bkS BK472.out⟩, ⟨by refine blkF ?_ NB473_474.out _; refine blkF ?_ NB473_474.out _; refine blkF ?_ NB473_474.out _; refine blkF ?_ NB473_474.out _; refine blkP (cs := #[.bool t464, .int .i64 t465, .int .u64 t466, .int .i64 0]) ?_ 3 _ rfl; refine blkP (cs := #[.bool t464, .int .i64 t465, .int .u64 0, .int .i64 0]) ?_ 2 _ rfl; refine blkP (cs := #[.bool t464, .int .i64 0, .int .u64 0, .int .i64 0]) ?_ 1 _ rfl; refine blkP (cs := #[.bool false, .int .i64 0, .int .u64 0, .int .i64 0]) ?_ 0 _ rfl; refine blkF ?_ NB473_472.out _; refine blkF ?_ NB473_472.out _; refine blkF ?_ NB473_472.out _; refine blkF ?_ NB473_472.out _; exact bkS BK473.out⟩, ⟨by refine blkP (cs := #[.bool t468, .int .i64 t469, .int .u64 t470, .int .i64 0]) ?_ 3 _ rfl; refine blkP (cs := #[.bool t468, .int .i64 t469, .int .u64 0, .int .i64 0]) ?_ 2 _ rfl; refine blkP (cs := #[.bool t468, .int .i64 0, .int .u64 0, .int .i64 0]) ?_ 1 _ rfl; refine blkP (cs := #[.bool false, .int .i64 0, .int .u64 0, .int .i64 0]) ?_ 0 _ rfl; refine blkF ?_ NB474_473.out _; refine blkF ?_ NB474_473.out _; refine blkF ?_ NB474_473.out _; refine blkF ?_ NB474_473.out _; refine blkF ?_ NB474_472.out _; refine blkF ?_ NB474_472.out _; refine blkF ?_ NB474_472.out _; refine blkF ?_ NB474_472.out _; exact bkS BK474.out⟩, ⟨bG3 HB.out GE472.out GE473.out GE474.out⟩⟩
 case rest =>
  clear HC7
  try clear c1
  try clear c2
  try clear p2
  try clear c5
  try clear c14
  try clear c15
  try clear c17
  try clear c20
  try clear c20b0
  try clear c20b1
  try clear c21
  try clear c22
  try clear c24
  try clear c25
  try clear c27
  try clear hcz16_0
  try clear hcz16_1
  try clear hcz16_2
  try clear hcz16_3
  try clear hcz18_0
  try clear hcz18_1
  try clear hcz18_2
  try clear hcz18_3
  try clear hcz19_0
  try clear hcz19_1
  try clear hcz19_2
  try clear hcz19_3
  try clear hcz23_0
  try clear hcz23_1
  try clear hcz23_2
  try clear hcz23_3
  try clear hcz26_0
  try clear hcz26_1
  try clear hcz26_2
  try clear hcz26_3
  try clear hcz28_0
  try clear hcz28_1
  try clear hcz28_2
  try clear hcz28_3
  try clear hfz16_0
  try clear hfz16_1
  try clear hfz16_2
  try clear hfz16_3
  try clear hfz18_0
  try clear hfz18_1
  try clear hfz18_2
  try clear hfz18_3
  try clear hfz19_0
  try clear hfz19_1
  try clear hfz19_2
  try clear hfz19_3
  try clear hfz23_0
  try clear hfz23_1
  try clear hfz23_2
  try clear hfz23_3
  try clear hfz26_0
  try clear hfz26_1
  try clear hfz26_2
  try clear hfz26_3
  try clear hfz28_0
  try clear hfz28_1
  try clear hfz28_2
  try clear hfz28_3
  obtain ⟨kq, x11_6, rfl, HA, HJ6, BK472, BK473, BK474, HB⟩ := hcut
  cases kq with
  | zero => exact absurd HA.out (by simp [soft_fma.j0])
  | succ kj6 =>
   have H := HA.out
   clear HA
   simp only [soft_fma.j0] at H
   have HC29 := Aside0.mk H
   clear H
   have hnb30 := NB472_473.out
   have hnc30 := NB473_472.out
   have hnb31 := NB472_474.out
   have hnc31 := NB474_472.out
   have hcz32_0 : wc.cell? ⟨gb472, 0, none⟩ = some (.bool t460) := (blk_cell BK472.out 0).trans rfl
   have hcz32_1 : wc.cell? ⟨gb472, 1, none⟩ = some (.int .i64 t461) := (blk_cell BK472.out 1).trans rfl
   have hcz32_2 : wc.cell? ⟨gb472, 2, none⟩ = some (.int .u64 t462) := (blk_cell BK472.out 2).trans rfl
   have hcz32_3 : wc.cell? ⟨gb472, 3, none⟩ = some (.int .i64 t463) := (blk_cell BK472.out 3).trans rfl
   have hfz32_0 := blk_frozen BK472.out 0
   have hfz32_1 := blk_frozen BK472.out 1
   have hfz32_2 := blk_frozen BK472.out 2
   have hfz32_3 := blk_frozen BK472.out 3
   have hnb33 := NB473_474.out
   have hnc33 := NB474_473.out
   have hcz34_0 : wc.cell? ⟨gb473, 0, none⟩ = some (.bool t464) := (blk_cell BK473.out 0).trans rfl
   have hcz34_1 : wc.cell? ⟨gb473, 1, none⟩ = some (.int .i64 t465) := (blk_cell BK473.out 1).trans rfl
   have hcz34_2 : wc.cell? ⟨gb473, 2, none⟩ = some (.int .u64 t466) := (blk_cell BK473.out 2).trans rfl
   have hcz34_3 : wc.cell? ⟨gb473, 3, none⟩ = some (.int .i64 t467) := (blk_cell BK473.out 3).trans rfl
   have hfz34_0 := blk_frozen BK473.out 0
   have hfz34_1 := blk_frozen BK473.out 1
   have hfz34_2 := blk_frozen BK473.out 2
   have hfz34_3 := blk_frozen BK473.out 3
   go_upto_region 4 with (fail)
   go_cut [32] (fun v32 wc => ∃ (kq : Nat) (x32_28 : Bool), v32 = .bool x32_28 ∧ Aside0 (soft_fma.j1 kq a2 x11_6 (t460 != t464) x32_28 t460 t461 t462 t463 t464 t465 t466 t467 t468 t469 t470 t471 = some (r1, r2)) ∧ Aside0 (kq ≤ kj6) ∧ Aside0 (wc.heap[gb472]? = some (.cells #[.bool t460, .int .i64 t461, .int .u64 t462, .int .i64 t463] 39 (0, 0))) ∧ Aside0 (wc.heap[gb473]? = some (.cells #[.bool t464, .int .i64 t465, .int .u64 t466, .int .i64 t467] 39 (0, 0))) ∧ Aside0 (wc.heap[gb474]? = some (.cells #[.bool t468, .int .i64 t469, .int .u64 t470, .int .i64 t471] 39 (0, 0))) ∧ Aside0 (Below w.heap.size w wc))
   case first =>
    have H := HC29.out
    clear HC29
    by_cases c35 : t461 = 4
    ·rw [if_pos c35] at H
     have c35b0 : (t461 == 4) = true := beq_iff_eq.mpr c35
     have c35b1 : (t461 != 4) = false := bne_eq_false_iff_eq.mpr c35
     clear c35
     (first | rw [c35b0] | (simp only [i64_w, i32_w]; rw [c35b0]) | rw [c35b1] | skip)
     have H' := Aside0.mk H
     clear H
     have hnb36 := NB472_473.out
     have hnc36 := NB473_472.out
     have hnb37 := NB472_474.out
     have hnc37 := NB474_472.out
     have hcz38_0 : wc.cell? ⟨gb472, 0, none⟩ = some (.bool t460) := (blk_cell BK472.out 0).trans rfl
     have hcz38_1 : wc.cell? ⟨gb472, 1, none⟩ = some (.int .i64 t461) := (blk_cell BK472.out 1).trans rfl
     have hcz38_2 : wc.cell? ⟨gb472, 2, none⟩ = some (.int .u64 t462) := (blk_cell BK472.out 2).trans rfl
     have hcz38_3 : wc.cell? ⟨gb472, 3, none⟩ = some (.int .i64 t463) := (blk_cell BK472.out 3).trans rfl
     have hfz38_0 := blk_frozen BK472.out 0
     have hfz38_1 := blk_frozen BK472.out 1
     have hfz38_2 := blk_frozen BK472.out 2
     have hfz38_3 := blk_frozen BK472.out 3
     go_wp2
     go_meet
     case rel => exact ⟨_, (true), (by first | rfl | (simp; done) | (simp [*]; done)), H', ⟨by have := HJ6.out; first | omega | exact Nat.le_refl _⟩, ⟨by exact bkS BK472.out⟩, ⟨by exact bkS BK473.out⟩, ⟨by exact bkS BK474.out⟩, ⟨bG3 HB.out GE472.out GE473.out GE474.out⟩⟩
    ·rw [if_neg c35] at H
     have c35b0 : (t461 == 4) = false := beq_eq_false_iff_ne.mpr c35
     have c35b1 : (t461 != 4) = true := bne_iff_ne.mpr c35
     (first | rw [c35b0] | (simp only [i64_w, i32_w]; rw [c35b0]) | rw [c35b1] | skip)
     by_cases c39 : t465 = 4
     ·rw [if_pos c39] at H
      have c39b0 : (t465 == 4) = true := beq_iff_eq.mpr c39
      have c39b1 : (t465 != 4) = false := bne_eq_false_iff_eq.mpr c39
      clear c39
      have H' := Aside0.mk H
      clear H
      have hnb40 := NB472_473.out
      have hnc40 := NB473_472.out
      have hnb41 := NB472_474.out
      have hnc41 := NB474_472.out
      have hcz42_0 : wc.cell? ⟨gb472, 0, none⟩ = some (.bool t460) := (blk_cell BK472.out 0).trans rfl
      have hcz42_1 : wc.cell? ⟨gb472, 1, none⟩ = some (.int .i64 t461) := (blk_cell BK472.out 1).trans rfl
      have hcz42_2 : wc.cell? ⟨gb472, 2, none⟩ = some (.int .u64 t462) := (blk_cell BK472.out 2).trans rfl
      have hcz42_3 : wc.cell? ⟨gb472, 3, none⟩ = some (.int .i64 t463) := (blk_cell BK472.out 3).trans rfl
      have hfz42_0 := blk_frozen BK472.out 0
      have hfz42_1 := blk_frozen BK472.out 1
      have hfz42_2 := blk_frozen BK472.out 2
      have hfz42_3 := blk_frozen BK472.out 3
      have hnb43 := NB473_474.out
      have hnc43 := NB474_473.out
      have hcz44_0 : wc.cell? ⟨gb473, 0, none⟩ = some (.bool t464) := (blk_cell BK473.out 0).trans rfl
      have hcz44_1 : wc.cell? ⟨gb473, 1, none⟩ = some (.int .i64 t465) := (blk_cell BK473.out 1).trans rfl
      have hcz44_2 : wc.cell? ⟨gb473, 2, none⟩ = some (.int .u64 t466) := (blk_cell BK473.out 2).trans rfl
      have hcz44_3 : wc.cell? ⟨gb473, 3, none⟩ = some (.int .i64 t467) := (blk_cell BK473.out 3).trans rfl
      have hfz44_0 := blk_frozen BK473.out 0
      have hfz44_1 := blk_frozen BK473.out 1
      have hfz44_2 := blk_frozen BK473.out 2
      have hfz44_3 := blk_frozen BK473.out 3
      go_wp2
      go_meet
      case rel => exact ⟨_, (true), (by first | rfl | (simp; done) | (simp [*]; done)), H', ⟨by have := HJ6.out; first | omega | exact Nat.le_refl _⟩, ⟨by exact bkS BK472.out⟩, ⟨by exact bkS BK473.out⟩, ⟨by exact bkS BK474.out⟩, ⟨bG3 HB.out GE472.out GE473.out GE474.out⟩⟩
     ·rw [if_neg c39] at H
      have c39b0 : (t465 == 4) = false := beq_eq_false_iff_ne.mpr c39
      have c39b1 : (t465 != 4) = true := bne_iff_ne.mpr c39
      have H' := Aside0.mk H
      clear H
      have hnb45 := NB472_473.out
      have hnc45 := NB473_472.out
      have hnb46 := NB472_474.out
      have hnc46 := NB474_472.out
      have hcz47_0 : wc.cell? ⟨gb472, 0, none⟩ = some (.bool t460) := (blk_cell BK472.out 0).trans rfl
      have hcz47_1 : wc.cell? ⟨gb472, 1, none⟩ = some (.int .i64 t461) := (blk_cell BK472.out 1).trans rfl
      have hcz47_2 : wc.cell? ⟨gb472, 2, none⟩ = some (.int .u64 t462) := (blk_cell BK472.out 2).trans rfl
      have hcz47_3 : wc.cell? ⟨gb472, 3, none⟩ = some (.int .i64 t463) := (blk_cell BK472.out 3).trans rfl
      have hfz47_0 := blk_frozen BK472.out 0
      have hfz47_1 := blk_frozen BK472.out 1
      have hfz47_2 := blk_frozen BK472.out 2
      have hfz47_3 := blk_frozen BK472.out 3
      have hnb48 := NB473_474.out
      have hnc48 := NB474_473.out
      have hcz49_0 : wc.cell? ⟨gb473, 0, none⟩ = some (.bool t464) := (blk_cell BK473.out 0).trans rfl
      have hcz49_1 : wc.cell? ⟨gb473, 1, none⟩ = some (.int .i64 t465) := (blk_cell BK473.out 1).trans rfl
      have hcz49_2 : wc.cell? ⟨gb473, 2, none⟩ = some (.int .u64 t466) := (blk_cell BK473.out 2).trans rfl
      have hcz49_3 : wc.cell? ⟨gb473, 3, none⟩ = some (.int .i64 t467) := (blk_cell BK473.out 3).trans rfl
      have hfz49_0 := blk_frozen BK473.out 0
      have hfz49_1 := blk_frozen BK473.out 1
      have hfz49_2 := blk_frozen BK473.out 2
      have hfz49_3 := blk_frozen BK473.out 3
      have hcz50_0 : wc.cell? ⟨gb474, 0, none⟩ = some (.bool t468) := (blk_cell BK474.out 0).trans rfl
      have hcz50_1 : wc.cell? ⟨gb474, 1, none⟩ = some (.int .i64 t469) := (blk_cell BK474.out 1).trans rfl
      have hcz50_2 : wc.cell? ⟨gb474, 2, none⟩ = some (.int .u64 t470) := (blk_cell BK474.out 2).trans rfl
      have hcz50_3 : wc.cell? ⟨gb474, 3, none⟩ = some (.int .i64 t471) := (blk_cell BK474.out 3).trans rfl
      have hfz50_0 := blk_frozen BK474.out 0
      have hfz50_1 := blk_frozen BK474.out 1
      have hfz50_2 := blk_frozen BK474.out 2
      have hfz50_3 := blk_frozen BK474.out 3
      go_wp2
      go_meet
      case rel => exact ⟨_, ((t469 == 4)), (by first | rfl | (simp; done) | (simp [*]; done)), H', ⟨by have := HJ6.out; first | omega | exact Nat.le_refl _⟩, ⟨by exact bkS BK472.out⟩, ⟨by exact bkS BK473.out⟩, ⟨by exact bkS BK474.out⟩, ⟨bG3 HB.out GE472.out GE473.out GE474.out⟩⟩
   case rest =>
    clear HC29
    try clear c1
    try clear c2
    try clear p2
    try clear c3
    try clear c4
    try clear c5
    try clear c14
    try clear c15
    try clear c17
    try clear c20
    try clear c20b0
    try clear c20b1
    try clear c21
    try clear c22
    try clear c24
    try clear c25
    try clear c27
    try clear c29
    try clear c30
    try clear c31
    try clear c33
    try clear c35
    try clear c35b0
    try clear c35b1
    try clear c36
    try clear c37
    try clear c39
    try clear c39b0
    try clear c39b1
    try clear c40
    try clear c41
    try clear c43
    try clear c45
    try clear c46
    try clear c48
    try clear hcz16_0
    try clear hcz16_1
    try clear hcz16_2
    try clear hcz16_3
    try clear hcz18_0
    try clear hcz18_1
    try clear hcz18_2
    try clear hcz18_3
    try clear hcz19_0
    try clear hcz19_1
    try clear hcz19_2
    try clear hcz19_3
    try clear hcz23_0
    try clear hcz23_1
    try clear hcz23_2
    try clear hcz23_3
    try clear hcz26_0
    try clear hcz26_1
    try clear hcz26_2
    try clear hcz26_3
    try clear hcz28_0
    try clear hcz28_1
    try clear hcz28_2
    try clear hcz28_3
    try clear hcz32_0
    try clear hcz32_1
    try clear hcz32_2
    try clear hcz32_3
    try clear hcz34_0
    try clear hcz34_1
    try clear hcz34_2
    try clear hcz34_3
    try clear hcz38_0
    try clear hcz38_1
    try clear hcz38_2
    try clear hcz38_3
    try clear hcz42_0
    try clear hcz42_1
    try clear hcz42_2
    try clear hcz42_3
    try clear hcz44_0
    try clear hcz44_1
    try clear hcz44_2
    try clear hcz44_3
    try clear hcz47_0
    try clear hcz47_1
    try clear hcz47_2
    try clear hcz47_3
    try clear hcz49_0
    try clear hcz49_1
    try clear hcz49_2
    try clear hcz49_3
    try clear hcz50_0
    try clear hcz50_1
    try clear hcz50_2
    try clear hcz50_3
    try clear hfz16_0
    try clear hfz16_1
    try clear hfz16_2
    try clear hfz16_3
    try clear hfz18_0
    try clear hfz18_1
    try clear hfz18_2
    try clear hfz18_3
    try clear hfz19_0
    try clear hfz19_1
    try clear hfz19_2
    try clear hfz19_3
    try clear hfz23_0
    try clear hfz23_1
    try clear hfz23_2
    try clear hfz23_3
    try clear hfz26_0
    try clear hfz26_1
    try clear hfz26_2
    try clear hfz26_3
    try clear hfz28_0
    try clear hfz28_1
    try clear hfz28_2
    try clear hfz28_3
    try clear hfz32_0
    try clear hfz32_1
    try clear hfz32_2
    try clear hfz32_3
    try clear hfz34_0
    try clear hfz34_1
    try clear hfz34_2
    try clear hfz34_3
    try clear hfz38_0
    try clear hfz38_1
    try clear hfz38_2
    try clear hfz38_3
    try clear hfz42_0
    try clear hfz42_1
    try clear hfz42_2
    try clear hfz42_3
    try clear hfz44_0
    try clear hfz44_1
    try clear hfz44_2
    try clear hfz44_3
    try clear hfz47_0
    try clear hfz47_1
    try clear hfz47_2
    try clear hfz47_3
    try clear hfz49_0
    try clear hfz49_1
    try clear hfz49_2
    try clear hfz49_3
    try clear hfz50_0
    try clear hfz50_1
    try clear hfz50_2
    try clear hfz50_3
    try clear p2
    obtain ⟨kq, x32_28, rfl, HA, HJ28, BK472, BK473, BK474, HB⟩ := hcut
    cases kq with
    | zero => exact absurd HA.out (by simp [soft_fma.j1])
    | succ kj28 =>
     have H := HA.out
     clear HA
     simp only [soft_fma.j1] at H
     by_cases c51 : x32_28 = true
     ·subst c51
      have H1 : (some (9221120237041090560, 0)) = some (r1, r2) := by rw [if_pos rfl] at H; exact H
      clear H
      have H := H1
      clear H1
      simp only [Option.some.injEq, Prod.mk.injEq] at H
      obtain ⟨rfl, rfl⟩ := H
      go_wp2
      go_ret2
      exact ⟨by first | rfl | (simp [errW_none, errW_some] <;> rfl) | (simp [*, errW_none, errW_some] <;> rfl), bG3 HB.out GE472.out GE473.out GE474.out⟩
     ·replace c51 := Bool.eq_false_iff.mpr c51
      subst c51
      have H1 : (if x11_6 = true then (if t461 = 0 then (soft_fma.j2 kj28 a2 x11_6 (t460 != t464) true t460 t461 t462 t463 t464 t465 t466 t467 t468 t469 t470 t471) else (soft_fma.j2 kj28 a2 x11_6 (t460 != t464) (t465 == 0) t460 t461 t462 t463 t464 t465 t466 t467 t468 t469 t470 t471)) else (soft_fma.j2 kj28 a2 x11_6 (t460 != t464) false t460 t461 t462 t463 t464 t465 t466 t467 t468 t469 t470 t471)) = some (r1, r2) := by rw [if_neg (show ¬ (false = true) by decide)] at H; exact H
      clear H
      have H := H1
      clear H1
      have HC52 := Aside0.mk H
      clear H
      go_upto_region 6 with (fail)
      go_cut [46] (fun v46 wc => ∃ (kq : Nat) (x46_51 : Bool), v46 = .bool x46_51 ∧ Aside0 (soft_fma.j2 kq a2 x11_6 (t460 != t464) x46_51 t460 t461 t462 t463 t464 t465 t466 t467 t468 t469 t470 t471 = some (r1, r2)) ∧ Aside0 (kq ≤ kj28) ∧ Aside0 (wc.heap[gb472]? = some (.cells #[.bool t460, .int .i64 t461, .int .u64 t462, .int .i64 t463] 39 (0, 0))) ∧ Aside0 (wc.heap[gb473]? = some (.cells #[.bool t464, .int .i64 t465, .int .u64 t466, .int .i64 t467] 39 (0, 0))) ∧ Aside0 (wc.heap[gb474]? = some (.cells #[.bool t468, .int .i64 t469, .int .u64 t470, .int .i64 t471] 39 (0, 0))) ∧ Aside0 (Below w.heap.size w wc))
      case first =>
       have H := HC52.out
       clear HC52
       by_cases c53 : x11_6 = true
       ·subst c53
        have H1 : (if t461 = 0 then (soft_fma.j2 kj28 a2 true (t460 != t464) true t460 t461 t462 t463 t464 t465 t466 t467 t468 t469 t470 t471) else (soft_fma.j2 kj28 a2 true (t460 != t464) (t465 == 0) t460 t461 t462 t463 t464 t465 t466 t467 t468 t469 t470 t471)) = some (r1, r2) := by rw [if_pos rfl] at H; exact H
        clear H
        have H := H1
        clear H1
        by_cases c54 : t461 = 0
        ·rw [if_pos c54] at H
         have c54b0 : (t461 == 0) = true := beq_iff_eq.mpr c54
         have c54b1 : (t461 != 0) = false := bne_eq_false_iff_eq.mpr c54
         clear c54
         (first | rw [c54b0] | (simp only [i64_w, i32_w]; rw [c54b0]) | rw [c54b1] | skip)
         have H' := Aside0.mk H
         clear H
         have hnb55 := NB472_473.out
         have hnc55 := NB473_472.out
         have hnb56 := NB472_474.out
         have hnc56 := NB474_472.out
         have hcz57_0 : wc.cell? ⟨gb472, 0, none⟩ = some (.bool t460) := (blk_cell BK472.out 0).trans rfl
         have hcz57_1 : wc.cell? ⟨gb472, 1, none⟩ = some (.int .i64 t461) := (blk_cell BK472.out 1).trans rfl
         have hcz57_2 : wc.cell? ⟨gb472, 2, none⟩ = some (.int .u64 t462) := (blk_cell BK472.out 2).trans rfl
         have hcz57_3 : wc.cell? ⟨gb472, 3, none⟩ = some (.int .i64 t463) := (blk_cell BK472.out 3).trans rfl
         have hfz57_0 := blk_frozen BK472.out 0
         have hfz57_1 := blk_frozen BK472.out 1
         have hfz57_2 := blk_frozen BK472.out 2
         have hfz57_3 := blk_frozen BK472.out 3
         go_wp2
         go_meet
         case rel => exact ⟨_, (true), (by first | rfl | (simp; done) | (simp [*]; done)), H', ⟨by have := HJ6.out; have := HJ28.out; first | omega | exact Nat.le_refl _⟩, ⟨by exact bkS BK472.out⟩, ⟨by exact bkS BK473.out⟩, ⟨by exact bkS BK474.out⟩, ⟨bG3 HB.out GE472.out GE473.out GE474.out⟩⟩
        ·rw [if_neg c54] at H
         have c54b0 : (t461 == 0) = false := beq_eq_false_iff_ne.mpr c54
         have c54b1 : (t461 != 0) = true := bne_iff_ne.mpr c54
         (first | rw [c54b0] | (simp only [i64_w, i32_w]; rw [c54b0]) | rw [c54b1] | skip)
         have H' := Aside0.mk H
         clear H
         have hnb58 := NB472_473.out
         have hnc58 := NB473_472.out
         have hnb59 := NB472_474.out
         have hnc59 := NB474_472.out
         have hcz60_0 : wc.cell? ⟨gb472, 0, none⟩ = some (.bool t460) := (blk_cell BK472.out 0).trans rfl
         have hcz60_1 : wc.cell? ⟨gb472, 1, none⟩ = some (.int .i64 t461) := (blk_cell BK472.out 1).trans rfl
         have hcz60_2 : wc.cell? ⟨gb472, 2, none⟩ = some (.int .u64 t462) := (blk_cell BK472.out 2).trans rfl
         have hcz60_3 : wc.cell? ⟨gb472, 3, none⟩ = some (.int .i64 t463) := (blk_cell BK472.out 3).trans rfl
         have hfz60_0 := blk_frozen BK472.out 0
         have hfz60_1 := blk_frozen BK472.out 1
         have hfz60_2 := blk_frozen BK472.out 2
         have hfz60_3 := blk_frozen BK472.out 3
         have hnb61 := NB473_474.out
         have hnc61 := NB474_473.out
         have hcz62_0 : wc.cell? ⟨gb473, 0, none⟩ = some (.bool t464) := (blk_cell BK473.out 0).trans rfl
         have hcz62_1 : wc.cell? ⟨gb473, 1, none⟩ = some (.int .i64 t465) := (blk_cell BK473.out 1).trans rfl
         have hcz62_2 : wc.cell? ⟨gb473, 2, none⟩ = some (.int .u64 t466) := (blk_cell BK473.out 2).trans rfl
         have hcz62_3 : wc.cell? ⟨gb473, 3, none⟩ = some (.int .i64 t467) := (blk_cell BK473.out 3).trans rfl
         have hfz62_0 := blk_frozen BK473.out 0
         have hfz62_1 := blk_frozen BK473.out 1
         have hfz62_2 := blk_frozen BK473.out 2
         have hfz62_3 := blk_frozen BK473.out 3
         go_wp2
         go_meet
         case rel => exact ⟨_, ((t465 == 0)), (by first | rfl | (simp; done) | (simp [*]; done)), H', ⟨by have := HJ6.out; have := HJ28.out; first | omega | exact Nat.le_refl _⟩, ⟨by exact bkS BK472.out⟩, ⟨by exact bkS BK473.out⟩, ⟨by exact bkS BK474.out⟩, ⟨bG3 HB.out GE472.out GE473.out GE474.out⟩⟩
       ·replace c53 := Bool.eq_false_iff.mpr c53
        subst c53
        have H1 : (soft_fma.j2 kj28 a2 false (t460 != t464) false t460 t461 t462 t463 t464 t465 t466 t467 t468 t469 t470 t471) = some (r1, r2) := by rw [if_neg (show ¬ (false = true) by decide)] at H; exact H
        clear H
        have H := H1
        clear H1
        have H' := Aside0.mk H
        clear H
        go_wp2
        go_meet
        case rel => exact ⟨_, (false), (by first | rfl | (simp; done) | (simp [*]; done)), H', ⟨by have := HJ6.out; have := HJ28.out; first | omega | exact Nat.le_refl _⟩, ⟨by exact bkS BK472.out⟩, ⟨by exact bkS BK473.out⟩, ⟨by exact bkS BK474.out⟩, ⟨bG3 HB.out GE472.out GE473.out GE474.out⟩⟩
      case rest =>
       clear HC52
       try clear c1
       try clear c2
       try clear p2
       try clear c3
       try clear c4
       try clear c5
       try clear c6
       try clear c14
       try clear c15
       try clear c17
       try clear c20
       try clear c20b0
       try clear c20b1
       try clear c21
       try clear c22
       try clear c24
       try clear c25
       try clear c27
       try clear c29
       try clear c30
       try clear c31
       try clear c33
       try clear c35
       try clear c35b0
       try clear c35b1
       try clear c36
       try clear c37
       try clear c39
       try clear c39b0
       try clear c39b1
       try clear c40
       try clear c41
       try clear c43
       try clear c45
       try clear c46
       try clear c48
       try clear c51
       try clear c53
       try clear c54
       try clear c54b0
       try clear c54b1
       try clear c55
       try clear c56
       try clear c58
       try clear c59
       try clear c61
       try clear hcz16_0
       try clear hcz16_1
       try clear hcz16_2
       try clear hcz16_3
       try clear hcz18_0
       try clear hcz18_1
       try clear hcz18_2
       try clear hcz18_3
       try clear hcz19_0
       try clear hcz19_1
       try clear hcz19_2
       try clear hcz19_3
       try clear hcz23_0
       try clear hcz23_1
       try clear hcz23_2
       try clear hcz23_3
       try clear hcz26_0
       try clear hcz26_1
       try clear hcz26_2
       try clear hcz26_3
       try clear hcz28_0
       try clear hcz28_1
       try clear hcz28_2
       try clear hcz28_3
       try clear hcz32_0
       try clear hcz32_1
       try clear hcz32_2
       try clear hcz32_3
       try clear hcz34_0
       try clear hcz34_1
       try clear hcz34_2
       try clear hcz34_3
       try clear hcz38_0
       try clear hcz38_1
       try clear hcz38_2
       try clear hcz38_3
       try clear hcz42_0
       try clear hcz42_1
       try clear hcz42_2
       try clear hcz42_3
       try clear hcz44_0
       try clear hcz44_1
       try clear hcz44_2
       try clear hcz44_3
       try clear hcz47_0
       try clear hcz47_1
       try clear hcz47_2
       try clear hcz47_3
       try clear hcz49_0
       try clear hcz49_1
       try clear hcz49_2
       try clear hcz49_3
       try clear hcz50_0
       try clear hcz50_1
       try clear hcz50_2
       try clear hcz50_3
       try clear hcz57_0
       try clear hcz57_1
       try clear hcz57_2
       try clear hcz57_3
       try clear hcz60_0
       try clear hcz60_1
       try clear hcz60_2
       try clear hcz60_3
       try clear hcz62_0
       try clear hcz62_1
       try clear hcz62_2
       try clear hcz62_3
       try clear hfz16_0
       try clear hfz16_1
       try clear hfz16_2
       try clear hfz16_3
       try clear hfz18_0
       try clear hfz18_1
       try clear hfz18_2
       try clear hfz18_3
       try clear hfz19_0
       try clear hfz19_1
       try clear hfz19_2
       try clear hfz19_3
       try clear hfz23_0
       try clear hfz23_1
       try clear hfz23_2
       try clear hfz23_3
       try clear hfz26_0
       try clear hfz26_1
       try clear hfz26_2
       try clear hfz26_3
       try clear hfz28_0
       try clear hfz28_1
       try clear hfz28_2
       try clear hfz28_3
       try clear hfz32_0
       try clear hfz32_1
       try clear hfz32_2
       try clear hfz32_3
       try clear hfz34_0
       try clear hfz34_1
       try clear hfz34_2
       try clear hfz34_3
       try clear hfz38_0
       try clear hfz38_1
       try clear hfz38_2
       try clear hfz38_3
       try clear hfz42_0
       try clear hfz42_1
       try clear hfz42_2
       try clear hfz42_3
       try clear hfz44_0
       try clear hfz44_1
       try clear hfz44_2
       try clear hfz44_3
       try clear hfz47_0
       try clear hfz47_1
       try clear hfz47_2
       try clear hfz47_3
       try clear hfz49_0
       try clear hfz49_1
       try clear hfz49_2
       try clear hfz49_3
       try clear hfz50_0
       try clear hfz50_1
       try clear hfz50_2
       try clear hfz50_3
       try clear hfz57_0
       try clear hfz57_1
       try clear hfz57_2
       try clear hfz57_3
       try clear hfz60_0
       try clear hfz60_1
       try clear hfz60_2
       try clear hfz60_3
       try clear hfz62_0
       try clear hfz62_1
       try clear hfz62_2
       try clear hfz62_3
       try clear p2
       obtain ⟨kq, x46_51, rfl, HA, HJ51, BK472, BK473, BK474, HB⟩ := hcut
       cases kq with
       | zero => exact absurd HA.out (by simp [soft_fma.j2])
       | succ kj51 =>
        have H := HA.out
        clear HA
        simp only [soft_fma.j2] at H
        by_cases c63 : x46_51 = true
        ·subst c63
         have H1 : ((soft_invalid.f).bind fun bt475 => (some (bt475.1, bt475.2))) = some (r1, r2) := by rw [if_pos rfl] at H; exact H
         clear H
         have H := H1
         clear H1
         obtain ⟨⟨t475, t476⟩, A640, H⟩ := Option.bind_eq_some_iff.mp H
         dsimp only at H
         have A64 := Aside0.mk A640
         clear A640
         simp only [Option.some.injEq, Prod.mk.injEq] at H
         obtain ⟨rfl, rfl⟩ := H
         go_wp2_with (first | ((with_reducible refine gate_callee (f := 86) rfl ?_); refine goesL_ (some 58) rfl rfl Tryd.func86 (by kernel_rfl) rfl #[] rfl (by (try simp only [List.map_toArray, List.map_cons, List.map_nil]); first | done | rfl) ?_; (with_reducible refine (soft_invalid.calls  t475 t476 _ A64.out).mono ?_); rintro e w' ⟨rfl, ⟨nd, rfl⟩⟩; refine ⟨_, rfl, ?_⟩))
         go_ret2
         exact ⟨by first | rfl | (simp [errW_none, errW_some] <;> rfl) | (simp [*, errW_none, errW_some] <;> rfl), bG3 HB.out GE472.out GE473.out GE474.out⟩
        ·replace c63 := Bool.eq_false_iff.mpr c63
         subst c63
         have H1 : (if x11_6 = true then (if t469 = 3 then (soft_fma.j3 kj51 a2 x11_6 (t460 != t464) (t468 != (t460 != t464)) t460 t461 t462 t463 t464 t465 t466 t467 t468 t469 t470 t471) else (soft_fma.j3 kj51 a2 x11_6 (t460 != t464) false t460 t461 t462 t463 t464 t465 t466 t467 t468 t469 t470 t471)) else (soft_fma.j3 kj51 a2 x11_6 (t460 != t464) false t460 t461 t462 t463 t464 t465 t466 t467 t468 t469 t470 t471)) = some (r1, r2) := by rw [if_neg (show ¬ (false = true) by decide)] at H; exact H
         clear H
         have H := H1
         clear H1
         have HC65 := Aside0.mk H
         clear H
         go_upto_region 8 with (fail)
         go_cut [61] (fun v61 wc => ∃ (kq : Nat) (x61_64 : Bool), v61 = .bool x61_64 ∧ Aside0 (soft_fma.j3 kq a2 x11_6 (t460 != t464) x61_64 t460 t461 t462 t463 t464 t465 t466 t467 t468 t469 t470 t471 = some (r1, r2)) ∧ Aside0 (kq ≤ kj51) ∧ Aside0 (wc.heap[gb472]? = some (.cells #[.bool t460, .int .i64 t461, .int .u64 t462, .int .i64 t463] 39 (0, 0))) ∧ Aside0 (wc.heap[gb473]? = some (.cells #[.bool t464, .int .i64 t465, .int .u64 t466, .int .i64 t467] 39 (0, 0))) ∧ Aside0 (wc.heap[gb474]? = some (.cells #[.bool t468, .int .i64 t469, .int .u64 t470, .int .i64 t471] 39 (0, 0))) ∧ Aside0 (Below w.heap.size w wc))
         case first =>
          have H := HC65.out
          clear HC65
          by_cases c66 : x11_6 = true
          ·subst c66
           have H1 : (if t469 = 3 then (soft_fma.j3 kj51 a2 true (t460 != t464) (t468 != (t460 != t464)) t460 t461 t462 t463 t464 t465 t466 t467 t468 t469 t470 t471) else (soft_fma.j3 kj51 a2 true (t460 != t464) false t460 t461 t462 t463 t464 t465 t466 t467 t468 t469 t470 t471)) = some (r1, r2) := by rw [if_pos rfl] at H; exact H
           clear H
           have H := H1
           clear H1
           by_cases c67 : t469 = 3
           ·rw [if_pos c67] at H
            have c67b0 : (t469 == 3) = true := beq_iff_eq.mpr c67
            have c67b1 : (t469 != 3) = false := bne_eq_false_iff_eq.mpr c67
            clear c67
            (first | rw [c67b0] | (simp only [i64_w, i32_w]; rw [c67b0]) | rw [c67b1] | skip)
            have H' := Aside0.mk H
            clear H
            have hnb68 := NB474_472.out
            have hnc68 := NB472_474.out
            have hnb69 := NB474_473.out
            have hnc69 := NB473_474.out
            have hcz70_0 : wc.cell? ⟨gb474, 0, none⟩ = some (.bool t468) := (blk_cell BK474.out 0).trans rfl
            have hcz70_1 : wc.cell? ⟨gb474, 1, none⟩ = some (.int .i64 t469) := (blk_cell BK474.out 1).trans rfl
            have hcz70_2 : wc.cell? ⟨gb474, 2, none⟩ = some (.int .u64 t470) := (blk_cell BK474.out 2).trans rfl
            have hcz70_3 : wc.cell? ⟨gb474, 3, none⟩ = some (.int .i64 t471) := (blk_cell BK474.out 3).trans rfl
            have hfz70_0 := blk_frozen BK474.out 0
            have hfz70_1 := blk_frozen BK474.out 1
            have hfz70_2 := blk_frozen BK474.out 2
            have hfz70_3 := blk_frozen BK474.out 3
            go_wp2
            go_meet
            case rel => exact ⟨_, ((t468 != (t460 != t464))), (by first | rfl | (simp; done) | (simp [*]; done)), H', ⟨by have := HJ6.out; have := HJ28.out; have := HJ51.out; first | omega | exact Nat.le_refl _⟩, ⟨by exact bkS BK472.out⟩, ⟨by exact bkS BK473.out⟩, ⟨by exact bkS BK474.out⟩, ⟨by repeat (first | (with_reducible first | exact HB.out | apply below_alloc | apply pw_below_drewN | apply below_drew1 | refine below_set ?_ GE472.out | refine below_set ?_ GE473.out | refine below_set ?_ GE474.out) | exact HB.out)⟩⟩
           ·rw [if_neg c67] at H
            have c67b0 : (t469 == 3) = false := beq_eq_false_iff_ne.mpr c67
            have c67b1 : (t469 != 3) = true := bne_iff_ne.mpr c67
            (first | rw [c67b0] | (simp only [i64_w, i32_w]; rw [c67b0]) | rw [c67b1] | skip)
            have H' := Aside0.mk H
            clear H
            have hnb71 := NB474_472.out
            have hnc71 := NB472_474.out
            have hnb72 := NB474_473.out
            have hnc72 := NB473_474.out
            have hcz73_0 : wc.cell? ⟨gb474, 0, none⟩ = some (.bool t468) := (blk_cell BK474.out 0).trans rfl
            have hcz73_1 : wc.cell? ⟨gb474, 1, none⟩ = some (.int .i64 t469) := (blk_cell BK474.out 1).trans rfl
            have hcz73_2 : wc.cell? ⟨gb474, 2, none⟩ = some (.int .u64 t470) := (blk_cell BK474.out 2).trans rfl
            have hcz73_3 : wc.cell? ⟨gb474, 3, none⟩ = some (.int .i64 t471) := (blk_cell BK474.out 3).trans rfl
            have hfz73_0 := blk_frozen BK474.out 0
            have hfz73_1 := blk_frozen BK474.out 1
            have hfz73_2 := blk_frozen BK474.out 2
            have hfz73_3 := blk_frozen BK474.out 3
            go_wp2
            go_meet
            case rel => exact ⟨_, (false), (by first | rfl | (simp; done) | (simp [*]; done)), H', ⟨by have := HJ6.out; have := HJ28.out; have := HJ51.out; first | omega | exact Nat.le_refl _⟩, ⟨by exact bkS BK472.out⟩, ⟨by exact bkS BK473.out⟩, ⟨by exact bkS BK474.out⟩, ⟨bG3 HB.out GE472.out GE473.out GE474.out⟩⟩
          ·replace c66 := Bool.eq_false_iff.mpr c66
           subst c66
           have H1 : (soft_fma.j3 kj51 a2 false (t460 != t464) false t460 t461 t462 t463 t464 t465 t466 t467 t468 t469 t470 t471) = some (r1, r2) := by rw [if_neg (show ¬ (false = true) by decide)] at H; exact H
           clear H
           have H := H1
           clear H1
           have H' := Aside0.mk H
           clear H
           go_wp2
           go_meet
           case rel => exact ⟨_, (false), (by first | rfl | (simp; done) | (simp [*]; done)), H', ⟨by have := HJ6.out; have := HJ28.out; have := HJ51.out; first | omega | exact Nat.le_refl _⟩, ⟨by exact bkS BK472.out⟩, ⟨by exact bkS BK473.out⟩, ⟨by exact bkS BK474.out⟩, ⟨bG3 HB.out GE472.out GE473.out GE474.out⟩⟩
         case rest =>
          clear HC65
          try clear c1
          try clear c2
          try clear p2
          try clear c3
          try clear c4
          try clear c5
          try clear c6
          try clear c7
          try clear c8
          try clear c14
          try clear c15
          try clear c17
          try clear c20
          try clear c20b0
          try clear c20b1
          try clear c21
          try clear c22
          try clear c24
          try clear c25
          try clear c27
          try clear c29
          try clear c30
          try clear c31
          try clear c33
          try clear c35
          try clear c35b0
          try clear c35b1
          try clear c36
          try clear c37
          try clear c39
          try clear c39b0
          try clear c39b1
          try clear c40
          try clear c41
          try clear c43
          try clear c45
          try clear c46
          try clear c48
          try clear c51
          try clear c53
          try clear c54
          try clear c54b0
          try clear c54b1
          try clear c55
          try clear c56
          try clear c58
          try clear c59
          try clear c61
          try clear c63
          try clear c66
          try clear c67
          try clear c67b0
          try clear c67b1
          try clear c68
          try clear c69
          try clear c71
          try clear c72
          try clear hcz16_0
          try clear hcz16_1
          try clear hcz16_2
          try clear hcz16_3
          try clear hcz18_0
          try clear hcz18_1
          try clear hcz18_2
          try clear hcz18_3
          try clear hcz19_0
          try clear hcz19_1
          try clear hcz19_2
          try clear hcz19_3
          try clear hcz23_0
          try clear hcz23_1
          try clear hcz23_2
          try clear hcz23_3
          try clear hcz26_0
          try clear hcz26_1
          try clear hcz26_2
          try clear hcz26_3
          try clear hcz28_0
          try clear hcz28_1
          try clear hcz28_2
          try clear hcz28_3
          try clear hcz32_0
          try clear hcz32_1
          try clear hcz32_2
          try clear hcz32_3
          try clear hcz34_0
          try clear hcz34_1
          try clear hcz34_2
          try clear hcz34_3
          try clear hcz38_0
          try clear hcz38_1
          try clear hcz38_2
          try clear hcz38_3
          try clear hcz42_0
          try clear hcz42_1
          try clear hcz42_2
          try clear hcz42_3
          try clear hcz44_0
          try clear hcz44_1
          try clear hcz44_2
          try clear hcz44_3
          try clear hcz47_0
          try clear hcz47_1
          try clear hcz47_2
          try clear hcz47_3
          try clear hcz49_0
          try clear hcz49_1
          try clear hcz49_2
          try clear hcz49_3
          try clear hcz50_0
          try clear hcz50_1
          try clear hcz50_2
          try clear hcz50_3
          try clear hcz57_0
          try clear hcz57_1
          try clear hcz57_2
          try clear hcz57_3
          try clear hcz60_0
          try clear hcz60_1
          try clear hcz60_2
          try clear hcz60_3
          try clear hcz62_0
          try clear hcz62_1
          try clear hcz62_2
          try clear hcz62_3
          try clear hcz70_0
          try clear hcz70_1
          try clear hcz70_2
          try clear hcz70_3
          try clear hcz73_0
          try clear hcz73_1
          try clear hcz73_2
          try clear hcz73_3
          try clear hfz16_0
          try clear hfz16_1
          try clear hfz16_2
          try clear hfz16_3
          try clear hfz18_0
          try clear hfz18_1
          try clear hfz18_2
          try clear hfz18_3
          try clear hfz19_0
          try clear hfz19_1
          try clear hfz19_2
          try clear hfz19_3
          try clear hfz23_0
          try clear hfz23_1
          try clear hfz23_2
          try clear hfz23_3
          try clear hfz26_0
          try clear hfz26_1
          try clear hfz26_2
          try clear hfz26_3
          try clear hfz28_0
          try clear hfz28_1
          try clear hfz28_2
          try clear hfz28_3
          try clear hfz32_0
          try clear hfz32_1
          try clear hfz32_2
          try clear hfz32_3
          try clear hfz34_0
          try clear hfz34_1
          try clear hfz34_2
          try clear hfz34_3
          try clear hfz38_0
          try clear hfz38_1
          try clear hfz38_2
          try clear hfz38_3
          try clear hfz42_0
          try clear hfz42_1
          try clear hfz42_2
          try clear hfz42_3
          try clear hfz44_0
          try clear hfz44_1
          try clear hfz44_2
          try clear hfz44_3
          try clear hfz47_0
          try clear hfz47_1
          try clear hfz47_2
          try clear hfz47_3
          try clear hfz49_0
          try clear hfz49_1
          try clear hfz49_2
          try clear hfz49_3
          try clear hfz50_0
          try clear hfz50_1
          try clear hfz50_2
          try clear hfz50_3
          try clear hfz57_0
          try clear hfz57_1
          try clear hfz57_2
          try clear hfz57_3
          try clear hfz60_0
          try clear hfz60_1
          try clear hfz60_2
          try clear hfz60_3
          try clear hfz62_0
          try clear hfz62_1
          try clear hfz62_2
          try clear hfz62_3
          try clear hfz70_0
          try clear hfz70_1
          try clear hfz70_2
          try clear hfz70_3
          try clear hfz73_0
          try clear hfz73_1
          try clear hfz73_2
          try clear hfz73_3
          try clear p2
          obtain ⟨kq, x61_64, rfl, HA, HJ64, BK472, BK473, BK474, HB⟩ := hcut
          cases kq with
          | zero => exact absurd HA.out (by simp [soft_fma.j3])
          | succ kj64 =>
           have H := HA.out
           clear HA
           simp only [soft_fma.j3] at H
           by_cases c74 : x61_64 = true
           ·subst c74
            have H1 : ((soft_invalid.f).bind fun bt477 => (some (bt477.1, bt477.2))) = some (r1, r2) := by rw [if_pos rfl] at H; exact H
            clear H
            have H := H1
            clear H1
            obtain ⟨⟨t477, t478⟩, A750, H⟩ := Option.bind_eq_some_iff.mp H
            dsimp only at H
            have A75 := Aside0.mk A750
            clear A750
            simp only [Option.some.injEq, Prod.mk.injEq] at H
            obtain ⟨rfl, rfl⟩ := H
            go_wp2_with (first | ((with_reducible refine gate_callee (f := 86) rfl ?_); refine goesL_ (some 74) rfl rfl Tryd.func86 (by kernel_rfl) rfl #[] rfl (by (try simp only [List.map_toArray, List.map_cons, List.map_nil]); first | done | rfl) ?_; (with_reducible refine (soft_invalid.calls  t477 t478 _ A75.out).mono ?_); rintro e w' ⟨rfl, ⟨nd, rfl⟩⟩; refine ⟨_, rfl, ?_⟩))
            go_ret2
            exact ⟨by first | rfl | (simp [errW_none, errW_some] <;> rfl) | (simp [*, errW_none, errW_some] <;> rfl), bG3 HB.out GE472.out GE473.out GE474.out⟩
           ·replace c74 := Bool.eq_false_iff.mpr c74
            subst c74
            have H1 : (if x11_6 = true then ((soft_withSign.f (t460 != t464) 9218868437227405312).bind fun t479 => (some (t479, 0))) else (if t469 = 3 then (some (a2, 0)) else ((soft_product.f kj64 t460 t461 t462 t463 t464 t465 t466 t467).bind fun bt480 => ((soft_termOf.f t468 t469 t470 t471).bind fun bt485 => ((soft_term_plus.f kj64 bt480.1 bt480.2.1 bt480.2.2 bt485.1 bt485.2.1 bt485.2.2).bind fun bt490 => ((soft_term_rounded.f kj64 bt490.1 bt490.2.1 bt490.2.2).bind fun bt495 => (some (bt495.1, bt495.2)))))))) = some (r1, r2) := by rw [if_neg (show ¬ (false = true) by decide)] at H; exact H
            clear H
            have H := H1
            clear H1
            by_cases c76 : x11_6 = true
            ·subst c76
             have H1 : ((soft_withSign.f (t460 != t464) 9218868437227405312).bind fun t479 => (some (t479, 0))) = some (r1, r2) := by rw [if_pos rfl] at H; exact H
             clear H
             have H := H1
             clear H1
             obtain ⟨t479, A770, H⟩ := Option.bind_eq_some_iff.mp H
             have A77 := Aside0.mk A770
             clear A770
             simp only [Option.some.injEq, Prod.mk.injEq] at H
             obtain ⟨rfl, rfl⟩ := H
             go_wp2_with (first | ((with_reducible refine gate_callee (f := 90) rfl ?_); refine goesL_ (some 80) rfl rfl Tryd.func90 (by kernel_rfl) rfl #[.bool (t460 != t464), .int .u64 9218868437227405312] rfl (by (try simp only [List.map_toArray, List.map_cons, List.map_nil]); first | done | rfl) ?_; (with_reducible refine (soft_withSign.calls (t460 != t464) 9218868437227405312 t479 _ A77.out).mono ?_); rintro e w' ⟨rfl, ⟨nd, rfl⟩⟩; refine ⟨_, rfl, ?_⟩))
             go_ret2
             exact ⟨by first | rfl | (simp [errW_none, errW_some] <;> rfl) | (simp [*, errW_none, errW_some] <;> rfl), bG3 HB.out GE472.out GE473.out GE474.out⟩
            ·replace c76 := Bool.eq_false_iff.mpr c76
             subst c76
             have H1 : (if t469 = 3 then (some (a2, 0)) else ((soft_product.f kj64 t460 t461 t462 t463 t464 t465 t466 t467).bind fun bt480 => ((soft_termOf.f t468 t469 t470 t471).bind fun bt485 => ((soft_term_plus.f kj64 bt480.1 bt480.2.1 bt480.2.2 bt485.1 bt485.2.1 bt485.2.2).bind fun bt490 => ((soft_term_rounded.f kj64 bt490.1 bt490.2.1 bt490.2.2).bind fun bt495 => (some (bt495.1, bt495.2))))))) = some (r1, r2) := by rw [if_neg (show ¬ (false = true) by decide)] at H; exact H
             clear H
             have H := H1
             clear H1
             by_cases c78 : t469 = 3
             ·rw [if_pos c78] at H
              have c78b0 : (t469 == 3) = true := beq_iff_eq.mpr c78
              have c78b1 : (t469 != 3) = false := bne_eq_false_iff_eq.mpr c78
              clear c78
              simp only [Option.some.injEq, Prod.mk.injEq] at H
              obtain ⟨rfl, rfl⟩ := H
              have hnb79 := NB474_472.out
              have hnc79 := NB472_474.out
              have hnb80 := NB474_473.out
              have hnc80 := NB473_474.out
              have hcz81_0 : wc.cell? ⟨gb474, 0, none⟩ = some (.bool t468) := (blk_cell BK474.out 0).trans rfl
              have hcz81_1 : wc.cell? ⟨gb474, 1, none⟩ = some (.int .i64 t469) := (blk_cell BK474.out 1).trans rfl
              have hcz81_2 : wc.cell? ⟨gb474, 2, none⟩ = some (.int .u64 t470) := (blk_cell BK474.out 2).trans rfl
              have hcz81_3 : wc.cell? ⟨gb474, 3, none⟩ = some (.int .i64 t471) := (blk_cell BK474.out 3).trans rfl
              have hfz81_0 := blk_frozen BK474.out 0
              have hfz81_1 := blk_frozen BK474.out 1
              have hfz81_2 := blk_frozen BK474.out 2
              have hfz81_3 := blk_frozen BK474.out 3
              go_wp2
              go_ret2
              exact ⟨by first | rfl | (simp [errW_none, errW_some] <;> rfl) | (simp [*, errW_none, errW_some] <;> rfl), bG3 HB.out GE472.out GE473.out GE474.out⟩
             ·rw [if_neg c78] at H
              have c78b0 : (t469 == 3) = false := beq_eq_false_iff_ne.mpr c78
              have c78b1 : (t469 != 3) = true := bne_iff_ne.mpr c78
              obtain ⟨⟨t480, t481, t484⟩, A820, H⟩ := Option.bind_eq_some_iff.mp H
              dsimp only at H
              have A82 := Aside0.mk A820
              clear A820
              obtain ⟨⟨t485, t486, t489⟩, A830, H⟩ := Option.bind_eq_some_iff.mp H
              dsimp only at H
              have A83 := Aside0.mk A830
              clear A830
              obtain ⟨⟨t490, t491, t494⟩, A840, H⟩ := Option.bind_eq_some_iff.mp H
              dsimp only at H
              have A84 := Aside0.mk A840
              clear A840
              obtain ⟨⟨t495, t496⟩, A850, H⟩ := Option.bind_eq_some_iff.mp H
              dsimp only at H
              have A85 := Aside0.mk A850
              clear A850
              simp only [Option.some.injEq, Prod.mk.injEq] at H
              obtain ⟨rfl, rfl⟩ := H
              have hnb86 := NB474_472.out
              have hnc86 := NB472_474.out
              have hnb87 := NB474_473.out
              have hnc87 := NB473_474.out
              have hcz88_0 : wc.cell? ⟨gb474, 0, none⟩ = some (.bool t468) := (blk_cell BK474.out 0).trans rfl
              have hcz88_1 : wc.cell? ⟨gb474, 1, none⟩ = some (.int .i64 t469) := (blk_cell BK474.out 1).trans rfl
              have hcz88_2 : wc.cell? ⟨gb474, 2, none⟩ = some (.int .u64 t470) := (blk_cell BK474.out 2).trans rfl
              have hcz88_3 : wc.cell? ⟨gb474, 3, none⟩ = some (.int .i64 t471) := (blk_cell BK474.out 3).trans rfl
              have hfz88_0 := blk_frozen BK474.out 0
              have hfz88_1 := blk_frozen BK474.out 1
              have hfz88_2 := blk_frozen BK474.out 2
              have hfz88_3 := blk_frozen BK474.out 3
              try go_wp2
              replace BK472 := Aside0.mk (blk_drew BK472.out)
              replace BK473 := Aside0.mk (blk_drew BK473.out)
              replace BK474 := Aside0.mk (blk_drew BK474.out)
              replace HB := Aside0.mk (below_drew1 HB.out)
              refine start_ (n := 11) (S := fun w' => w'.cell? ⟨gb472, 0, none⟩ = some (.bool t460) ∧ w'.cell? ⟨gb472, 1, none⟩ = some (.int .i64 t461) ∧ w'.cell? ⟨gb472, 2, none⟩ = some (.int .u64 t462) ∧ w'.cell? ⟨gb472, 3, none⟩ = some (.int .i64 t463) ∧ w'.cell? ⟨gb473, 0, none⟩ = some (.bool t464) ∧ w'.cell? ⟨gb473, 1, none⟩ = some (.int .i64 t465) ∧ w'.cell? ⟨gb473, 2, none⟩ = some (.int .u64 t466) ∧ w'.cell? ⟨gb473, 3, none⟩ = some (.int .i64 t467) ∧ w'.cell? ⟨gb474, 0, none⟩ = some (.bool t468) ∧ w'.cell? ⟨gb474, 1, none⟩ = some (.int .i64 t469) ∧ w'.cell? ⟨gb474, 2, none⟩ = some (.int .u64 t470) ∧ w'.cell? ⟨gb474, 3, none⟩ = some (.int .i64 t471)) (ds := []) #[false, false, false, false, false, false, false, false, false, false, false] (by kernel_rfl) rfl rfl ⟨(blk_cell BK472.out 0).trans rfl, (blk_cell BK472.out 1).trans rfl, (blk_cell BK472.out 2).trans rfl, (blk_cell BK472.out 3).trans rfl, (blk_cell BK473.out 0).trans rfl, (blk_cell BK473.out 1).trans rfl, (blk_cell BK473.out 2).trans rfl, (blk_cell BK473.out 3).trans rfl, (blk_cell BK474.out 0).trans rfl, (blk_cell BK474.out 1).trans rfl, (blk_cell BK474.out 2).trans rfl, (blk_cell BK474.out 3).trans rfl⟩ (fun hHeld => ?_); refine with_tabW soft_fma.tab14 soft_fma.bits14 (fun HT_ HW_ => ?_)
              generalize wc.drew = w89 at BK472 BK473 BK474 HB hHeld ⊢
              refine take_ (i := 0) (N := some 86) (v := ?_) (a' := ?_) #[true, false, false, false, false, false, false, false, false, false, false] rfl rfl (take_ofW HT_.out HW_.out (by kernel_rfl)) (fun _ _ _ h => h) (Or.inl ⟨by rfl, ?_⟩) hHeld ?_ ?_
              rotate_left
              ·rintro w' ⟨s0, s1, s2, s3, s4, s5, s6, s7, s8, s9, s10, s11⟩
               go_simp
               with_reducible rfl
              rotate_left
              ·simp only [Act.put, List.setIfInBounds_toArray, List.set_cons_zero, List.set_cons_succ, i64_w, i32_w]
               rfl
              refine take_ (i := 1) (N := some 87) (v := ?_) (a' := ?_) #[true, true, false, false, false, false, false, false, false, false, false] rfl rfl (take_ofW HT_.out HW_.out (by kernel_rfl)) (fun _ _ _ h => h) (Or.inl ⟨by rfl, ?_⟩) hHeld ?_ ?_
              rotate_left
              ·rintro w' ⟨s0, s1, s2, s3, s4, s5, s6, s7, s8, s9, s10, s11⟩
               go_simp
               with_reducible rfl
              rotate_left
              ·simp only [Act.put, List.setIfInBounds_toArray, List.set_cons_zero, List.set_cons_succ, i64_w, i32_w]
               rfl
              refine take_ (i := 3) (N := some 89) (v := ?_) (a' := ?_) #[true, true, false, true, false, false, false, false, false, false, false] rfl rfl (take_ofW HT_.out HW_.out (by kernel_rfl)) (fun _ _ _ h => h) (Or.inl ⟨by rfl, ?_⟩) hHeld ?_ ?_
              rotate_left
              ·rintro w' ⟨s0, s1, s2, s3, s4, s5, s6, s7, s8, s9, s10, s11⟩
               go_simp
               with_reducible rfl
              rotate_left
              ·simp only [Act.put, List.setIfInBounds_toArray, List.set_cons_zero, List.set_cons_succ, i64_w, i32_w]
               rfl
              refine one_ (i := 2) (N := some 88) #[true, true, true, true, false, false, false, false, false, false, false] rfl rfl (one_of HT_.out (by kernel_rfl)) (by decide) (fun K hK => ?_)
              refine goes_ Tryd.func91 (by kernel_rfl) rfl #[.agg #[.bool t460, .int .i64 t461, .int .u64 t462, .int .i64 t463], .agg #[.bool t464, .int .i64 t465, .int .u64 t466, .int .i64 t467]] (by rfl) rfl rfl (by (try simp only [List.map_toArray, List.map_cons, List.map_nil]); first | done | rfl) ?_
              with_reducible refine (soft_product.calls kj64 t460 t461 t462 t463 t464 t465 t466 t467 t480 t481 t484 _ A82.out).mono ?_
              rintro e w90 ⟨v482, rfl, ho0, hb⟩
              refine ⟨_, rfl, ?_⟩
              have HO483 := Aside0.mk (Kd.V_lower (Kd.V_mono (ok' := fun k_ => k_ ≠ gb472 ∧ k_ ≠ gb473 ∧ k_ ≠ gb474) ho0 (fun k_ hk_ => ⟨(Kd.freshB (g := gb472) (o := .cells #[.bool t460, .int .i64 t461, .int .u64 t462, .int .i64 t463] 39 (0, 0)) (by exact bkS BK472.out) k_ hk_), (Kd.freshB (g := gb473) (o := .cells #[.bool t464, .int .i64 t465, .int .u64 t466, .int .i64 t467] 39 (0, 0)) (by exact bkS BK473.out) k_ hk_), (Kd.freshB (g := gb474) (o := .cells #[.bool t468, .int .i64 t469, .int .u64 t470, .int .i64 t471] 39 (0, 0)) (by exact bkS BK474.out) k_ hk_)⟩)) (below_size (bG3 HB.out GE472.out GE473.out GE474.out)))
              replace BK472 := bkB BK472 hb
              replace BK473 := bkB BK473 hb
              replace BK474 := bkB BK474 hb
              replace HB := Aside0.mk (below_step (bG3 HB.out GE472.out GE473.out GE474.out) hb)
              (try clear hb)
              (try clear hb2)
              (try clear hk)
              (try clear hi)
              (try clear ho0)
              refine hK.out _ _ ⟨(blk_cell BK472.out 0).trans rfl, (blk_cell BK472.out 1).trans rfl, (blk_cell BK472.out 2).trans rfl, (blk_cell BK472.out 3).trans rfl, (blk_cell BK473.out 0).trans rfl, (blk_cell BK473.out 1).trans rfl, (blk_cell BK473.out 2).trans rfl, (blk_cell BK473.out 3).trans rfl, (blk_cell BK474.out 0).trans rfl, (blk_cell BK474.out 1).trans rfl, (blk_cell BK474.out 2).trans rfl, (blk_cell BK474.out 3).trans rfl⟩ (fun hHeld => ?_)
              clear hK K
              refine norm_ (a' := ?_) ?_ ?_
              rotate_left
              ·show Act.put _ (some 88) _ = _
               simp only [Act.put, List.setIfInBounds_toArray, List.set_cons_zero, List.set_cons_succ, i64_w, i32_w]
               rfl
              refine one_ (i := 4) (N := some 90) #[true, true, true, true, true, false, false, false, false, false, false] rfl rfl (one_of HT_.out (by kernel_rfl)) (by decide) (fun K hK => ?_)
              refine goes_ Tryd.func87 (by kernel_rfl) rfl #[.agg #[.bool t468, .int .i64 t469, .int .u64 t470, .int .i64 t471]] (by rfl) rfl rfl (by (try simp only [List.map_toArray, List.map_cons, List.map_nil]); first | done | rfl) ?_
              with_reducible refine (soft_termOf.calls t468 t469 t470 t471 t485 t486 t489 _ A83.out).mono ?_
              rintro e w91 ⟨v487, rfl, ho0, hb⟩
              refine ⟨_, rfl, ?_⟩
              replace HO483 := Aside0.mk (Kd.V_elder' (vS <| HO483.out) (Kd.R_base ho0) hb)
              have HO488 := Aside0.mk (Kd.R_lower ho0 (below_size (bG3 HB.out GE472.out GE473.out GE474.out)))
              replace BK472 := bkB BK472 hb
              replace BK473 := bkB BK473 hb
              replace BK474 := bkB BK474 hb
              replace HB := Aside0.mk (below_step (bG3 HB.out GE472.out GE473.out GE474.out) hb)
              (try clear hb)
              (try clear hb2)
              (try clear hk)
              (try clear hi)
              (try clear ho0)
              obtain ⟨Ao92, co92, eo92⟩ := Kd.V_slice HO483.out
              (first | subst eo92 | (injection eo92 with f1_ f2_ f3_; have f4_ := f1_.symm; have f5_ := f3_.symm; clear f1_ f2_ f3_; subst f4_; subst f5_))
              obtain ⟨Ao93, co93, eo93⟩ := Kd.R_slice HO488.out
              (first | subst eo93 | (injection eo93 with f1_ f2_ f3_; have f4_ := f1_.symm; have f5_ := f3_.symm; clear f1_ f2_ f3_; subst f4_; subst f5_))
              refine hK.out _ _ ⟨(blk_cell BK472.out 0).trans rfl, (blk_cell BK472.out 1).trans rfl, (blk_cell BK472.out 2).trans rfl, (blk_cell BK472.out 3).trans rfl, (blk_cell BK473.out 0).trans rfl, (blk_cell BK473.out 1).trans rfl, (blk_cell BK473.out 2).trans rfl, (blk_cell BK473.out 3).trans rfl, (blk_cell BK474.out 0).trans rfl, (blk_cell BK474.out 1).trans rfl, (blk_cell BK474.out 2).trans rfl, (blk_cell BK474.out 3).trans rfl⟩ (fun hHeld => ?_)
              clear hK K
              refine norm_ (a' := ?_) ?_ ?_
              rotate_left
              ·show Act.put _ (some 90) _ = _
               simp only [Act.put, List.setIfInBounds_toArray, List.set_cons_zero, List.set_cons_succ, i64_w, i32_w]
               rfl
              refine one_ (i := 5) (N := some 91) #[true, true, true, true, true, true, false, false, false, false, false] rfl rfl (one_of HT_.out (by kernel_rfl)) (by decide) (fun K hK => ?_)
              refine goes_ Tryd.func88 (by kernel_rfl) rfl #[.agg #[.bool t480, .slice Ao92 t481.length co92, .int .i64 t484], .agg #[.bool t485, .slice Ao93 t486.length co93, .int .i64 t489]] (by rfl) rfl rfl (by (try simp only [List.map_toArray, List.map_cons, List.map_nil]); first | done | rfl) ?_
              with_reducible refine (soft_term_plus.calls kj64 t480 (fun k_ => ((k_ ≠ gb472 ∧ (k_ ≠ gb473 ∧ k_ ≠ gb474)) ∧ some k_ ≠ (.slice Ao93 t486.length co93 : Value).ownBlock)) _ _ t481 t484 t485 (fun k_ => some k_ = (.slice Ao93 t486.length co93 : Value).ownBlock) _ _ t486 t489 t490 t491 t494 _ ?side1 ?side2 A84.out).mono ?_
              (case side1 => exact HO483.out)
              (case side2 => exact Kd.R_V (Kd.R_tight rfl (Kd.R_types (Kd.R_types (Kd.R_types (HO488.out) BK472.out (by decide)) BK473.out (by decide)) BK474.out (by decide))))
              rintro e w94 ⟨v492, rfl, ho0, hb⟩
              refine ⟨_, rfl, ?_⟩
              replace HO483 := vB HO483 hb
              have HO493 := Aside0.mk (Kd.V_lower (Kd.V_mono (ok' := fun k_ => k_ ≠ gb472 ∧ k_ ≠ gb473 ∧ k_ ≠ gb474) ho0 (fun k_ hk_ => ⟨Or.elim hk_ (fun hs_ => Or.elim hs_ (fun hs_ => hs_.1.1) (fun hs_ => ((Kd.R_types (Kd.R_types (Kd.R_types (HO488.out) BK472.out (by decide)) BK473.out (by decide)) BK474.out (by decide)).1 k_ hs_.symm).1.1.2)) (fun hn_ => (Kd.freshB (g := gb472) (o := .cells #[.bool t460, .int .i64 t461, .int .u64 t462, .int .i64 t463] 39 (0, 0)) (by exact bkS BK472.out) k_ hn_)), Or.elim hk_ (fun hs_ => Or.elim hs_ (fun hs_ => hs_.1.2.1) (fun hs_ => ((Kd.R_types (Kd.R_types (Kd.R_types (HO488.out) BK472.out (by decide)) BK473.out (by decide)) BK474.out (by decide)).1 k_ hs_.symm).1.2)) (fun hn_ => (Kd.freshB (g := gb473) (o := .cells #[.bool t464, .int .i64 t465, .int .u64 t466, .int .i64 t467] 39 (0, 0)) (by exact bkS BK473.out) k_ hn_)), Or.elim hk_ (fun hs_ => Or.elim hs_ (fun hs_ => hs_.1.2.2) (fun hs_ => ((Kd.R_types (Kd.R_types (Kd.R_types (HO488.out) BK472.out (by decide)) BK473.out (by decide)) BK474.out (by decide)).1 k_ hs_.symm).2)) (fun hn_ => (Kd.freshB (g := gb474) (o := .cells #[.bool t468, .int .i64 t469, .int .u64 t470, .int .i64 t471] 39 (0, 0)) (by exact bkS BK474.out) k_ hn_))⟩)) (below_size (bG3 HB.out GE472.out GE473.out GE474.out)))
              replace HO488 := Aside0.mk (Kd.R_below (rS <| HO488.out) hb)
              replace BK472 := bkB BK472 hb
              replace BK473 := bkB BK473 hb
              replace BK474 := bkB BK474 hb
              replace HB := Aside0.mk (below_step (bG3 HB.out GE472.out GE473.out GE474.out) hb)
              (try clear hb)
              (try clear hb2)
              (try clear hk)
              (try clear hi)
              (try clear ho0)
              obtain ⟨Ao95, co95, eo95⟩ := Kd.V_slice HO493.out
              (first | subst eo95 | (injection eo95 with f1_ f2_ f3_; have f4_ := f1_.symm; have f5_ := f3_.symm; clear f1_ f2_ f3_; subst f4_; subst f5_))
              refine hK.out _ _ ⟨(blk_cell BK472.out 0).trans rfl, (blk_cell BK472.out 1).trans rfl, (blk_cell BK472.out 2).trans rfl, (blk_cell BK472.out 3).trans rfl, (blk_cell BK473.out 0).trans rfl, (blk_cell BK473.out 1).trans rfl, (blk_cell BK473.out 2).trans rfl, (blk_cell BK473.out 3).trans rfl, (blk_cell BK474.out 0).trans rfl, (blk_cell BK474.out 1).trans rfl, (blk_cell BK474.out 2).trans rfl, (blk_cell BK474.out 3).trans rfl⟩ (fun hHeld => ?_)
              clear hK K
              refine norm_ (a' := ?_) ?_ ?_
              rotate_left
              ·show Act.put _ (some 91) _ = _
               simp only [Act.put, List.setIfInBounds_toArray, List.set_cons_zero, List.set_cons_succ, i64_w, i32_w]
               rfl
              refine one_ (i := 6) (N := some 92) #[true, true, true, true, true, true, true, false, false, false, false] rfl rfl (one_of HT_.out (by kernel_rfl)) (by decide) (fun K hK => ?_)
              refine goes_ Tryd.func89 (by kernel_rfl) rfl #[.agg #[.bool t490, .slice Ao95 t491.length co95, .int .i64 t494]] (by rfl) rfl rfl (by (try simp only [List.map_toArray, List.map_cons, List.map_nil]); first | done | rfl) ?_
              with_reducible refine (soft_term_rounded.calls kj64 t490 _ _ t491 t494 t495 t496 _ ?side3 ?side1 ?side2 A85.out).mono ?_
              (case side1 => exact cS (Kd.V_reads' HO493.out).2.2)
              (case side2 => exact (Kd.V_reads' HO493.out).2.1)
              (case side3 => exact cS (Kd.C_below HT.out HB.out))
              rintro e w96 ⟨rfl, hb⟩
              refine ⟨_, rfl, ?_⟩
              replace HO483 := vB HO483 hb
              replace HO488 := Aside0.mk (Kd.R_below (rS <| HO488.out) hb)
              replace HO493 := vB HO493 hb
              replace BK472 := bkB BK472 hb
              replace BK473 := bkB BK473 hb
              replace BK474 := bkB BK474 hb
              replace HB := Aside0.mk (below_step (bG3 HB.out GE472.out GE473.out GE474.out) hb)
              (try clear hb)
              (try clear hb2)
              (try clear hk)
              (try clear hi)
              refine hK.out _ _ ⟨(blk_cell BK472.out 0).trans rfl, (blk_cell BK472.out 1).trans rfl, (blk_cell BK472.out 2).trans rfl, (blk_cell BK472.out 3).trans rfl, (blk_cell BK473.out 0).trans rfl, (blk_cell BK473.out 1).trans rfl, (blk_cell BK473.out 2).trans rfl, (blk_cell BK473.out 3).trans rfl, (blk_cell BK474.out 0).trans rfl, (blk_cell BK474.out 1).trans rfl, (blk_cell BK474.out 2).trans rfl, (blk_cell BK474.out 3).trans rfl⟩ (fun hHeld => ?_)
              clear hK K
              refine norm_ (a' := ?_) ?_ ?_
              rotate_left
              ·show Act.put _ (some 92) _ = _
               simp only [Act.put, List.setIfInBounds_toArray, List.set_cons_zero, List.set_cons_succ, i64_w, i32_w]
               rfl
              refine pure_ (i := 7) (N := some 93) (v := ?_) (a' := ?_) #[true, true, true, true, true, true, true, true, false, false, false] rfl rfl (any_of HT_.out (by kernel_rfl)) (fun _ _ _ h => h) (Or.inl ⟨by rfl, ?_⟩) ?_ ?_
              rotate_left
              ·intro w'
               go_simp
               with_reducible rfl
              rotate_left
              ·simp only [Act.put, List.setIfInBounds_toArray, List.set_cons_zero, List.set_cons_succ, i64_w, i32_w]
               rfl
              refine pure_ (i := 8) (N := some 94) (v := ?_) (a' := ?_) #[true, true, true, true, true, true, true, true, true, false, false] rfl rfl (any_of HT_.out (by kernel_rfl)) (fun _ _ _ h => h) (Or.inl ⟨by rfl, ?_⟩) ?_ ?_
              rotate_left
              ·intro w'
               go_simp
               with_reducible rfl
              rotate_left
              ·simp only [Act.put, List.setIfInBounds_toArray, List.set_cons_zero, List.set_cons_succ, i64_w, i32_w]
               rfl
              refine pure_ (i := 9) (N := some 6) (v := ?_) (a' := ?_) #[true, true, true, true, true, true, true, true, true, true, false] rfl rfl (any_of HT_.out (by kernel_rfl)) (fun _ _ _ h => h) (Or.inl ⟨by rfl, ?_⟩) ?_ ?_
              rotate_left
              ·intro w'
               go_simp
               with_reducible rfl
              rotate_left
              ·simp only [Act.put, List.setIfInBounds_toArray, List.set_cons_zero, List.set_cons_succ, i64_w, i32_w]
               rfl
              refine pure_ (i := 10) (N := some 7) (v := ?_) (a' := ?_) #[true, true, true, true, true, true, true, true, true, true, true] rfl rfl (any_of HT_.out (by kernel_rfl)) (fun _ _ _ h => h) (Or.inl ⟨by rfl, ?_⟩) ?_ ?_
              rotate_left
              ·intro w'
               go_simp
               with_reducible rfl
              rotate_left
              ·simp only [Act.put, List.setIfInBounds_toArray, List.set_cons_zero, List.set_cons_succ, i64_w, i32_w]
               rfl
              refine done_ (done_of HT_.out (by kernel_rfl)) ?_
              try go_wp2
              go_ret2
              exact ⟨by first | rfl | (simp [errW_none, errW_some] <;> rfl) | (simp [*, errW_none, errW_some] <;> rfl), bG3 HB.out GE472.out GE473.out GE474.out⟩

end Go.Proofs.YtcdnoklokoplaaaDoor.PE
