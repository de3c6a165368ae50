/- Words for a row whose windows are written (quot.long): one block of uint64 cells. No conditions. -/
import Derived.WalkMore
import Derived.Test.YtiigfmmflicdpaaDoorX
import Derived.Test.YtiigfmmflicdpaaDoorLongL
namespace Go.Proofs.YtiigfmmflicdpaaDoorX
open Go.RowKit Go.Proofs.YtiigfmmflicdpaaDoorW.PrintWords Go.Proofs.YtiigfmmflicdpaaDoorW.PrintLast Go.Proofs.YtiigfmmflicdpaaDoorW.PrintMore
set_option linter.unusedVariables false
/-- A block whose first cells hold these limbs. -/
def Blk (w : World) (g e : Nat) (us : List Int) : Prop := ∃ tl : List Value, w.heap[g]? = some (.cells (nums .u64 us ++ tl).toArray e (0, 0))
theorem Blk.at_ {w : World} {g e : Nat} {us : List Int} (h : Blk w g e us) (i : Nat) (hi : i < us.length) : w.cell? ⟨g, i, none⟩ = some (.int .u64 (rd us (i : Int))) ∧ w.frozen? ⟨g, i, none⟩ = false := by
  obtain ⟨tl, h⟩ := h
  refine ⟨?_, blk_frozen h i⟩
  rw [blk_cell h, List.getElem?_toArray, List.getElem?_append_left (by rw [nums_length]; exact hi), nums, List.getElem?_map, List.getElem?_eq_getElem hi]
  simp [rd, List.getD_eq_getElem?_getD, List.getElem?_eq_getElem hi]
theorem Blk.put {w : World} {g e : Nat} {us : List Int} (h : Blk w g e us) (i : Nat) (x : Int) (hi : i < us.length) : Blk (w.setCell ⟨g, i, none⟩ (.int .u64 x)) g e (us.set i x) ∧ w.grownBy (w.setCell ⟨g, i, none⟩ (.int .u64 x)) (some g) := by
  obtain ⟨tl, h⟩ := h
  have h1 := blk_set h i (.int .u64 x)
  refine ⟨⟨tl, ?_⟩, ?_⟩
  · rw [h1]
    congr 2
    apply Array.ext'
    simp [nums, hi]
  · obtain ⟨s1, s2, s3, s4⟩ := setCells_same g [Value.int .u64 x] i w
    exact ⟨s1, s2, s3, by have : (w.setCell ⟨g, i, none⟩ (.int .u64 x)).heap.size = w.heap.size := s4; omega, fun k hk hne => Below.heap_setCell w ⟨g, i, none⟩ _ k (by intro e'; exact hne (by rw [e']))⟩
theorem Blk.kept {w w' : World} {g e : Nat} {us : List Int} {r : Option Nat} (h : Blk w g e us) (hg : w.grownBy w' r) (hr : some g ≠ r) : Blk w' g e us := by
  obtain ⟨tl, h⟩ := h
  exact ⟨tl, blk_grown h hg hr⟩
theorem Blk.lt {w : World} {g e : Nat} {us : List Int} (h : Blk w g e us) : g < w.heap.size := by
  obtain ⟨tl, h⟩ := h
  exact blk_lt h
theorem Blk.of_R {w : World} {base e : Nat} {ok : Nat → Prop} {v : Value} {xs : List Int} (h : (Kd.int .u64).R e w base ok v xs) (hp : 0 < xs.length) : ∃ g cap, v = .slice (some ⟨g, 0, none⟩) xs.length cap ∧ base ≤ g ∧ xs.length ≤ cap ∧ Blk w g e xs := by
  obtain ⟨h1, h2⟩ := Kd.own_of_R h
  rcases h2 with ⟨_, h0⟩ | ⟨g, cap, cur, rfl, hb, hh, hnc, hcm, hcs, ht⟩
  · omega
  · refine ⟨g, cap, rfl, hb, hnc, cur.toList.drop xs.length, ?_⟩
    rw [hh]
    congr 2
    apply Array.ext'
    have ht' : List.take xs.length cur.toList = nums .u64 xs := by rw [Nat.mul_one] at ht; exact ht
    rw [← ht', List.take_append_drop]
theorem Blk.win {w : World} {g e : Nat} {us : List Int} (h : Blk w g e us) (j n : Nat) (hj : j + n ≤ us.length) (hn : n ≤ 140737488351232) : Kd.C (Kd.int .u64) w (some ⟨g, j, none⟩) ((us.drop j).take n).length ((us.drop j).take n) := by
  have hl : ((us.drop j).take n).length = n := by rw [List.length_take, List.length_drop]; omega
  refine Kd.C_of_reads (d := (0 : Int)) (h1 := fun _ => rfl) ⟨rfl, by omega, fun _ => ⟨_, rfl, fun i hi => ?_⟩⟩
  rw [add_at, (h.at_ (j + i) (by omega)).1]
  congr 2
  rw [rd, Int.toNat_natCast, List.getD_eq_getElem?_getD, List.getD_eq_getElem?_getD, List.getElem?_take_of_lt (by omega), List.getElem?_drop]
theorem Blk.full {w : World} {g e : Nat} {us : List Int} (h : Blk w g e us) (hn : us.length ≤ 140737488351232) : Kd.C (Kd.int .u64) w (some ⟨g, 0, none⟩) us.length us := by
  have h := h.win 0 us.length (by omega) hn
  rwa [List.drop_zero, List.take_length] at h
section
variable {P : Program}
theorem cut_win (t e : TypeId) (kl kh : IntKind) {i : TypeInfo} (ht : P.underlying t = some (.slice e)) (hi : P.info? e = some i) (hsz : i.size = 1) (a : Addr) (n c : Nat) (l h : Int) (h0 : 0 ≤ l) (h1 : l < h) (h2 : h ≤ c) :
    ∀ W : World, (Instr.slice t (.slice (some a) n c) (some (.int kl l)) (some (.int kh h)) none).run P W = .ok (.slice (some (a.add l.toNat)) (h.toNat - l.toNat) (c - l.toNat)) W := by
  intro W
  have hel : P.elem t = e := by simp [Program.elem, ht]
  have hu : P.underlying t = some (.slice (P.elem t)) := by rw [hel]; exact ht
  have hne : ¬ c = l.toNat := by omega
  rw [run_slice_lh W t (some a) n c hu kl kh l h h0 (by omega) h2, hel]
  simp [sizeOf, typeInfo, hi, hsz, sliced, Result.andThen, hne]
end
theorem grown_trans {w w1 w2 : World} {r : Option Nat} (h : w.grownBy w1 r) (k : w1.grownBy w2 r) : w.grownBy w2 r :=
  ⟨k.os.trans h.os, k.tape.trans h.tape, k.output.trans h.output, Nat.le_trans h.size k.size, fun i hi hr => (k.block i (Nat.lt_of_lt_of_le hi h.size) hr).trans (h.block i hi hr)⟩
theorem grown_drewN (w : World) (n : Nat) (r : Option Nat) : w.grownBy (w.drewN n) r := ⟨rfl, rfl, rfl, Nat.le_refl _, fun _ _ _ => rfl⟩
theorem Blk.drewN {w : World} {g e : Nat} {us : List Int} (h : Blk w g e us) (n : Nat) : Blk (w.drewN n) g e us := h
theorem and32 {a : Int} (h0 : 0 ≤ a) (h1 : a < 18446744073709551616) : Go.bits .and .u64 a 4294967295 = a % 4294967296 := by
  rw [u64_and a _ h0 h1 (by omega) (by omega)]
  have : (4294967295 : Int).toNat = 2 ^ 32 - 1 := by decide
  rw [this, Nat.and_two_pow_sub_one_eq_mod]
  omega
theorem mul_half {a b : Int} (a0 : 0 ≤ a) (a1 : a < 4294967296) (b0 : 0 ≤ b) (b1 : b < 4294967296) : 0 ≤ a * b ∧ a * b ≤ 18446744065119617025 := by
  refine ⟨Int.mul_nonneg a0 b0, ?_⟩
  have h := Int.mul_le_mul (show a ≤ 4294967295 by omega) (show b ≤ 4294967295 by omega) b0 (by omega)
  omega
theorem mul_full {x y : Int} (hx : 0 ≤ x ∧ x < 18446744073709551616) (hy : 0 ≤ y ∧ y < 18446744073709551616) : 0 ≤ x * y ∧ x * y ≤ 340282366920938463426481119284349108225 := by
  refine ⟨Int.mul_nonneg hx.1 hy.1, ?_⟩
  have h := Int.mul_le_mul (show x ≤ 18446744073709551615 by omega) (show y ≤ 18446744073709551615 by omega) hy.1 (by omega)
  omega
end Go.Proofs.YtiigfmmflicdpaaDoorX
