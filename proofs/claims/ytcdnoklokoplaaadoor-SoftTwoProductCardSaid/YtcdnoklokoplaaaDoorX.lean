/- Words of mine for the widened print: a call of a function without a body, xs[:n:n], make of length 0. No conditions. -/
import Derived.Laws.Externs
import Derived.Laws.CopyOwn
import Derived.Lib.Strings
import Derived.Lib.Slices
import Derived.Lib.Small
import Derived.Lib.Walk
import Derived.Lib.BitFns
import Derived.Laws.Bits64
import Derived.Laws.Bits64b
import Derived.Lib.TrailingZeros
import Derived.Test.YtcdnoklokoplaaaDoorWMore
namespace Go.Proofs.YtcdnoklokoplaaaDoorX
open Go.RowKit Go.Proofs.YtcdnoklokoplaaaDoorW.PrintWords Go.Proofs.YtcdnoklokoplaaaDoorW.PrintLast Go.Proofs.YtcdnoklokoplaaaDoorW.PrintMore
set_option linter.unusedVariables false

/-- A call of a function without a body: what the model's own entry yields. -/
def CallsX (P : Program) (f : FuncId) (args : Array Value) (w : World) (R : Ending → World → Prop) : Prop :=
  ∃ v w', (callFunc f args).run P w = .ok (.value v) w' ∧ R (.returned v) w'
theorem CallsX.mono {P : Program} {f : FuncId} {args : Array Value} {w : World} {R S : Ending → World → Prop} (h : CallsX P f args w R) (hs : ∀ e w', R e w' → S e w') : CallsX P f args w S := by
  obtain ⟨v, w', he, hr⟩ := h
  exact ⟨v, w', he, hs _ _ hr⟩
section
variable {P : Program} {ops : Array Oper} {Q : Exit → Act → World → Prop}
theorem goesX_ {rest : List Oper} {oi : Oper} {a : Act} {w : World} (N : Option Tmp) (hd : oi.dst = N) (hg : oi.guard = none) {f : FuncId} {fn : Func} {as : Array Operand} {ts : Array TypeId} (_hf : P.funcs[f]? = some fn) (_hname : (fn.name == "runtime.NumGoroutine") = false) (_hb : fn.body.isSome = false) (args : Array Value)
    (hop : oi.op = .call { callee := .value (.func f), args := as, argTypes := ts }) (hargs : as.map a.eval = args)
    (h : CallsX P f args w fun e w' => ∃ v, e = .returned v ∧ wpList P ops Q rest (a.put N v) w') : wpList P ops Q (oi :: rest) a w := by
  refine wpList_plain hg fun K hK => ?_
  obtain ⟨v0, w1, he, v, hv, hk⟩ := h
  injection hv with hv
  subst hv
  have hrun : (execOp a.eval oi).run P w = .ok (.value v0) w1 := by
    unfold execOp
    simp [hop, resolve, Deferred.ofValue, invoke, Act.eval, hargs, he]
  unfold Oper.wp
  rw [hrun]
  subst hd
  exact hK _ _ hk
end
theorem callsX_add64 {P : Program} {f : FuncId} {fn : Func} (hf : P.funcs[f]? = some fn) (hname : (fn.name == "runtime.NumGoroutine") = false) (hb : fn.body.isNone = true) (hn : Extern.findNext fn = none) (he : Extern.find fn = some add64Entry)
    (x y c : Int) (hx : 0 ≤ x) (hy : 0 ≤ y) (hc0 : 0 ≤ c) (hc : c ≤ 1) (w : World) :
    CallsX P f #[.int .u64 x, .int .u64 y, .int .u64 c] w fun e w' => e = .returned (.tuple #[.int .u64 ((x + y + c) % 18446744073709551616), .int .u64 ((x + y + c) / 18446744073709551616)]) ∧ w = w' := by
  refine ⟨_, w, ?_, rfl, rfl⟩
  rw [run_callFunc_extern hf hname hb hn he, run_add64 x y c hx hy hc0 hc]
  rfl
/-- The model's row for math/bits.Sub64. -/
def sub64Entry : Array Value → Sem Value := fun args => do
  let (x, y, b) ← Extern.MathBitsCarry.three "Sub64" args
  pure (Extern.MathBitsCarry.pair ((x + Extern.MathBitsCarry.m64 - y - b) % Extern.MathBitsCarry.m64) (if x < y + b then 1 else 0))
theorem run_sub64 {P : Program} (x y b : Nat) (hb : b ≤ 1) (w : World) :
    (sub64Entry #[.int .u64 x, .int .u64 y, .int .u64 b]).run P w =
      .ok (.tuple #[.int .u64 (((x + 18446744073709551616 - y - b) % 18446744073709551616 : Nat) : Int), .int .u64 ((if x < y + b then 1 else 0 : Nat) : Int)]) w := by
  have : b = 0 ∨ b = 1 := by omega
  rcases this with rfl | rfl <;> rfl
theorem callsX_sub64 {P : Program} {f : FuncId} {fn : Func} (hf : P.funcs[f]? = some fn) (hname : (fn.name == "runtime.NumGoroutine") = false) (hb : fn.body.isNone = true) (hn : Extern.findNext fn = none) (he : Extern.find fn = some sub64Entry)
    (x y c : Int) (hx : 0 ≤ x) (hy : 0 ≤ y) (hy' : y < 18446744073709551616) (hc0 : 0 ≤ c) (hc : c ≤ 1) (w : World) :
    CallsX P f #[.int .u64 x, .int .u64 y, .int .u64 c] w fun e w' => e = .returned (.tuple #[.int .u64 ((x - y - c) % 18446744073709551616), .int .u64 (if x < y + c then 1 else 0)]) ∧ w = w' := by
  obtain ⟨X, rfl⟩ := Int.eq_ofNat_of_zero_le hx
  obtain ⟨Y, rfl⟩ := Int.eq_ofNat_of_zero_le hy
  obtain ⟨c, rfl⟩ := Int.eq_ofNat_of_zero_le hc0
  refine ⟨_, w, ?_, rfl, rfl⟩
  rw [run_callFunc_extern hf hname hb hn he, run_sub64 X Y c (by omega)]
  simp only [Result.andThen]
  have e1 : (((X + 18446744073709551616 - Y - c) % 18446744073709551616 : Nat) : Int) = ((X : Int) - Y - c) % 18446744073709551616 := by omega
  have e2 : ((if X < Y + c then 1 else 0 : Nat) : Int) = if (X : Int) < Y + c then 1 else 0 := by split <;> split <;> omega
  rw [e1, e2]
section
variable {P : Program}
theorem cut_to3 (t e : TypeId) (kh : IntKind) {i : TypeInfo} (ht : P.underlying t = some (.slice e)) (hi : P.info? e = some i) (A : Option Addr) (n c : Nat) (j : Int) (h0 : 0 ≤ j) (hm : j ≤ n) (hc : n ≤ c) :
    ∀ W : World, (Instr.slice t (.slice A n c) none (some (.int kh j)) (some (.int kh j))).run P W = .ok (.slice A j.toNat j.toNat) W := by
  intro W
  have hel : P.elem t = e := by simp [Program.elem, ht]
  have hu : P.underlying t = some (.slice (P.elem t)) := by rw [hel]; exact ht
  have ha : (A.map fun x => x.add 0) = A := by cases A <;> simp [Addr.add]
  rw [run_slice_hm W t A n c hu kh kh j j h0 (Int.le_refl _) (by omega), hel]
  simp [sizeOf, typeInfo, hi, sliced, Result.andThen, ha]
end
namespace Kd
open Go.Proofs.YtcdnoklokoplaaaDoorW.PrintWords.Kd
section
variable {P : Program} {ops : Array Oper} {rest : List Oper} {o : Oper} {a : Act} {Q : Exit → Act → World → Prop} {α : Type}
/-- make([]T, 0, n). -/
theorem R_make0 (d : Kd α) {w0 W : World} (base e : Nat) (hgd : o.guard = none) {N : Tmp} (_hd : o.dst = some N) (t : TypeId) (x y : Operand) (ho : o.op = .makeSlice t x y) (n : Int) (hx : a.eval x = .int .i64 0) (hy : a.eval y = .int .i64 n)
    (ht : P.underlying t = some (.slice e)) (z : Value) (bytes : Nat) (hinfo : (P.info? e).map (fun i => (i.zero, i.size, i.bytes)) = some (some z, d.sz, bytes)) (_hz : z.cells.size = d.sz) (_hs0 : 0 < d.sz) (hb0 : 0 < bytes)
    (z0 : α) {ok okp : Nat → Prop} (_hzero : d.M W base okp z0 z.cells.toList) (_hok : ∀ k, okp k → ok k) (hfresh : ok W.heap.size) (h0 : 0 ≤ n) (hl : n.toNat * bytes ≤ 281474976710656) (HB : Below base w0 W) (hbase : base ≤ W.heap.size)
    (h : ∀ v1 w1, d.R e w1 base ok v1 ([] : List α) → Below base w0 w1 → W.grownBy w1 none → (∃ b, v1.ownBlock = some b ∧ W.heap.size ≤ b) → wpList P ops Q rest (a.put o.dst v1) w1) : wpList P ops Q (o :: rest) a W := by
  obtain ⟨m, rfl⟩ := Int.eq_ofNat_of_zero_le h0
  simp only [Int.toNat_natCast] at hl
  obtain ⟨i0, hi, hzz⟩ := Option.map_eq_some_iff.1 hinfo
  simp only [Prod.mk.injEq] at hzz
  obtain ⟨hz0, hz1, hz2⟩ := hzz
  have hm : m ≤ 281474976710656 := Nat.le_trans (Nat.le_mul_of_pos_right _ hb0) hl
  have hr := run_make (P := P) W t e i0 z ht hi hz0 .i64 .i64 0 (m : Int) (by omega) (by omega)
    (by
      have h3 : ((i0.bytes * m : Nat) : Int) ≤ 281474976710656 := by rw [hz2, Nat.mul_comm]; omega
      rwa [Int.natCast_mul] at h3) (by omega)
  simp only [Int.toNat_natCast] at hr
  refine Go.Proofs.YtcdnoklokoplaaaDoorW.PrintWords.Kd.event_run hgd (v := .slice (some ⟨W.heap.size, 0, none⟩) 0 m) (w1 := W.alloc (.cells (madeCells z.cells (m * i0.size)) e)) ?_ (h _ _ ⟨fun k hk => ?_, [], ?_, Reps.none _ _⟩ (HB.alloc hbase _) (World.grownBy_alloc W _ none) ⟨W.heap.size, by simp [Value.ownBlock], Nat.le_refl _⟩)
  · simp [execOp, ho, hx, hy, hr]
  · have : W.heap.size = k := by simpa [Value.ownBlock] using hk
    subst this
    exact hfresh
  · exact World.ownsRow_made W (madeCells z.cells (m * i0.size)) m hbase (by unfold maxLen; omega) (by rw [size_madeCells, hz1])
/-- copy(out, xs), both of one length, out a row of the call's own. -/
theorem R_copy {k : IntKind} {w0 W : World} {base e : Nat} {ok : Nat → Prop} (hgd : o.guard = none) (d s : Operand) (dT sT : TypeId)
    (ho : o.op = .call { callee := .builtin .copy, args := #[d, s], argTypes := #[dT, sT] }) (hu : P.underlying dT = some (.slice e)) (hsz : (P.info? e).map (·.size) = some 1)
    {v : Value} {xs ys : List Int} {A : Option Addr} {c : Nat} (own : (Kd.int k).R e W base ok v xs) (src : (Kd.int k).C W A ys.length ys) (hn : ys.length = xs.length)
    (hd : a.eval d = v) (hs : a.eval s = .slice A ys.length c) (HB : Below base w0 W)
    (h : ∀ w1, (Kd.int k).R e w1 base ok v ys → Below base w0 w1 → wpList P ops Q rest (a.put o.dst (goInt ys.length)) w1) : wpList P ops Q (o :: rest) a W := by
  have hown := own_of_R own
  rcases Nat.eq_zero_or_pos ys.length with hz | hp
  · obtain ⟨A', c', hv⟩ := own_slice hown
    have hy : ys = [] := List.eq_nil_of_length_eq_zero hz
    have hx : xs = [] := List.eq_nil_of_length_eq_zero (by omega)
    subst hy
    subst hx
    refine wpList_copy_nothing hgd d s dT sT ho e hu hsz A' A _ c' _ c (hd.trans hv) hs (by simp) ?_
    exact h W own HB
  · obtain ⟨h1, h2⟩ := hown
    rcases h2 with ⟨_, h0⟩ | ⟨g, cap, cur, rfl, hb, hh, hnc, hcm, hcs, ht⟩
    · omega
    · obtain ⟨ad, rfl, hc⟩ := (reads_of_C (enc := Value.int k) (d := (0 : Int)) (h1 := fun _ => rfl) src).2.2 hp
      have hfit : 0 + (encs (Value.int k) ys).length ≤ cur.size := by simp [encs]; omega
      refine wpList_copy_own hgd d s dT sT ho e hu hsz g 0 xs.length cap ad ys.length c hd hs cur e hh (encs (Value.int k) ys) (by simp [encs, hn]) (fun j u hj => ?_) hfit (fun u hu' => ?_) ?_
      · simp only [encs, List.getElem?_map, Option.map_eq_some_iff] at hj
        obtain ⟨x, hx, rfl⟩ := hj
        obtain ⟨hl, hx2⟩ := List.getElem?_eq_some_iff.1 hx
        rw [hc j hl, List.getD_eq_getElem?_getD, hx, Option.getD_some]
      · simp only [encs, List.mem_map] at hu'
        obtain ⟨x, _, rfl⟩ := hu'
        rfl
      · have hl : (encs (Value.int k) ys).length = ys.length := by simp [encs]
        rw [hl]
        refine h _ (R_of_own ?_ own.1) (below_setRow HB hb _)
        refine ⟨by simp [encs], .inr ⟨g, cap, _, by rw [hn], hb, setRow_heap W g _ _ e _ hh, by omega, hcm, ?_, ?_⟩⟩
        · simp [encs]; omega
        · simp [encs]
end
end Kd
/-- The table of math/bits.TrailingZeros64, as whole numbers. -/
def tabL : List Int := Lib.deBruijn64tab.map (fun (n : Nat) => (n : Int))
theorem tabL_cell {w : World} {g : Nat} (h : Kd.C (Kd.int .u8) w (some ⟨g, 0, none⟩) 64 tabL) (j : Nat) (hj : j < 64) : w.cell? ⟨g, j, none⟩ = some (.int .u8 ((Lib.deBruijn64tab.getD j 0 : Nat) : Int)) := by
  obtain ⟨ad, he, hc⟩ := Kd.at_int h (j : Int) (by omega) (by omega)
  injection he with he
  subst he
  rw [Int.toNat_natCast, add_plain] at hc
  rw [hc]
  congr 2
  simp [rd, tabL, List.getD_eq_getElem?_getD, List.getElem?_map]
  cases Lib.deBruijn64tab[j]? <;> rfl
theorem tabL_of {w : World} {g : Nat} (h : ∀ j, j < 64 → w.cell? ⟨g, j, none⟩ = some (.int .u8 (tabL.getD j 0))) : Kd.C (Kd.int .u8) w (some ⟨g, 0, none⟩) 64 tabL := by
  refine Kd.C_of_reads (d := (0 : Int)) (h1 := fun _ => rfl) ⟨rfl, by omega, fun _ => ⟨_, rfl, fun j hj => ?_⟩⟩
  rw [add_plain]
  exact h j hj
/-- math/bits.TrailingZeros64's look-up. -/
theorem tz64_key (x a : Nat) (hx : x < 18446744073709551616) (hx0 : x ≠ 0) (hlow : x &&& (18446744073709551616 - x) = a) :
    IntKind.u64.wrap (bits BinOp.and IntKind.u64 (x : Int) (IntKind.u64.wrap (-(x : Int))) * 285870213051353865) / 288230376151711744 = ((a * 285870213051353865 % 18446744073709551616 / 288230376151711744 : Nat) : Int) := by
  have e1 : IntKind.u64.wrap (-(x : Int)) = ((18446744073709551616 - x : Nat) : Int) := by rw [IntKind.wrap_u64]; omega
  rw [e1, bits_and_u64_nat x _ hx (by omega), hlow, IntKind.wrap_u64]
  omega
end Go.Proofs.YtcdnoklokoplaaaDoorX
/-! Steps that change nothing that was there, found by a class (for shrink.py). -/
namespace Go.Proofs.YtcdnoklokoplaaaDoorX
open Go.RowKit Go.Proofs.YtcdnoklokoplaaaDoorW.PrintWords Go.Proofs.YtcdnoklokoplaaaDoorW.PrintLast Go.Proofs.YtcdnoklokoplaaaDoorW.PrintMore
set_option linter.unusedVariables false
class Steps (W W' : World) : Prop where st : Below W.heap.size W W'
instance (W : World) : Steps W W := ⟨Below.refl _ _⟩
instance (W W' : World) (n : Nat) [s : Steps W W'] : Steps W (W'.drewN n) := ⟨pw_below_drewN s.st n⟩
instance (W W' : World) [s : Steps W W'] : Steps W W'.drew := ⟨below_drew s.st⟩
instance (W W' : World) (o : Obj) [s : Steps W W'] : Steps W (W'.alloc o) := ⟨below_alloc s.st o⟩
theorem bS {w W W' : World} (h : Below w.heap.size w W) [s : Steps W W'] : Below w.heap.size w W' := below_step h s.st
theorem vS {α : Type} {d : Kd α} {e base : Nat} {ok : Nat → Prop} {W W' : World} {v : Value} {xs : List α} (h : Kd.V d e W base ok v xs) [s : Steps W W'] : Kd.V d e W' base ok v xs := Kd.V_below h s.st
theorem rS {α : Type} {d : Kd α} {e base : Nat} {ok : Nat → Prop} {W W' : World} {v : Value} {xs : List α} (h : d.R e W base ok v xs) [s : Steps W W'] : d.R e W' base ok v xs := Kd.R_below h s.st
theorem cS {α : Type} {d : Kd α} {W W' : World} {A : Option Addr} {n : Nat} {xs : List α} (h : d.C W A n xs) [s : Steps W W'] : d.C W' A n xs := Kd.C_below h s.st
theorem bkS {g : Nat} {o : Obj} {W W' : World} (h : W.heap[g]? = some o) [s : Steps W W'] : W'.heap[g]? = some o := blk_below h s.st
/-- The same, the elder world being sought. -/
class Strip (W : outParam World) (W' : World) : Prop where st : Below W.heap.size W W'
instance (priority := low) (W : World) : Strip W W := ⟨Below.refl _ _⟩
instance (W W' : World) (n : Nat) [s : Strip W W'] : Strip W (W'.drewN n) := ⟨pw_below_drewN s.st n⟩
instance (W W' : World) [s : Strip W W'] : Strip W W'.drew := ⟨below_drew s.st⟩
instance (W W' : World) (o : Obj) [s : Strip W W'] : Strip W (W'.alloc o) := ⟨below_alloc s.st o⟩
theorem blkP {w W' : World} {g : Nat} {t : TypeId} {cs cs' : Array Value} (h : w.heap[g]? = some (.cells cs t (0, 0))) (i : Nat) (u : Value) (e : cs.setIfInBounds i u = cs') [s : Strip (w.setCell ⟨g, i, none⟩ u) W'] : W'.heap[g]? = some (.cells cs' t (0, 0)) := blk_below (blk_put h i u e) s.st
theorem blkF {w W' : World} {g : Nat} {t : TypeId} {cs : Array Value} {p : Addr} (h : w.heap[g]? = some (.cells cs t (0, 0))) (hp : g ≠ p.block) (u : Value) [s : Strip (w.setCell p u) W'] : W'.heap[g]? = some (.cells cs t (0, 0)) := blk_below (blk_far h hp u) s.st
theorem bkB {g : Nat} {o : Obj} {W W' W2 : World} (h : Aside0 (W.heap[g]? = some o)) (hb : Below W'.heap.size W' W2) [s : Steps W W'] : Aside0 (W2.heap[g]? = some o) := ⟨blk_below (bkS h.out) hb⟩
theorem vB {α : Type} {d : Kd α} {e base : Nat} {ok : Nat → Prop} {W W' W2 : World} {v : Value} {xs : List α} (h : Aside0 (Kd.V d e W base ok v xs)) (hb : Below W'.heap.size W' W2) [s : Steps W W'] : Aside0 (Kd.V d e W2 base ok v xs) := ⟨Kd.V_below (vS h.out) hb⟩
theorem hB {w W W' W2 : World} (h : Aside0 (Below w.heap.size w W)) (hb : Below W'.heap.size W' W2) [s : Steps W W'] : Aside0 (Below w.heap.size w W2) := ⟨below_step (bS h.out) hb⟩
/-- Steps that write to blocks of the list alone. -/
class Has (g : Nat) (l : List Nat) : Prop where mem : g ∈ l
instance (g : Nat) (l : List Nat) : Has g (g :: l) := ⟨List.mem_cons_self⟩
instance (g h : Nat) (l : List Nat) [s : Has g l] : Has g (h :: l) := ⟨List.mem_cons_of_mem _ s.mem⟩
class StepsG (l : List Nat) (W W' : World) : Prop where st : ∀ {w : World}, (∀ g ∈ l, w.heap.size ≤ g) → Below w.heap.size w W → Below w.heap.size w W'
instance (l : List Nat) (W : World) : StepsG l W W := ⟨fun _ h => h⟩
instance (l : List Nat) (W W' : World) (n : Nat) [s : StepsG l W W'] : StepsG l W (W'.drewN n) := ⟨fun k h => pw_below_drewN (s.st k h) n⟩
instance (l : List Nat) (W W' : World) [s : StepsG l W W'] : StepsG l W W'.drew := ⟨fun k h => below_drew (s.st k h)⟩
instance (l : List Nat) (W W' : World) (o : Obj) [s : StepsG l W W'] : StepsG l W (W'.alloc o) := ⟨fun k h => below_alloc (s.st k h) o⟩
instance (l : List Nat) (W W' : World) (g j : Nat) (v : Value) [m : Has g l] [s : StepsG l W W'] : StepsG l W (W'.setCell ⟨g, j, none⟩ v) := ⟨fun k h => below_set (s.st k h) (k g m.mem)⟩
theorem bG1 {w W W' : World} {a : Nat} (h : Below w.heap.size w W) (ha : w.heap.size ≤ a) [s : StepsG [a] W W'] : Below w.heap.size w W' := s.st (fun g hg => by simp at hg; omega) h
theorem bG2 {w W W' : World} {a b : Nat} (h : Below w.heap.size w W) (ha : w.heap.size ≤ a) (hb : w.heap.size ≤ b) [s : StepsG [a, b] W W'] : Below w.heap.size w W' := s.st (fun g hg => by simp at hg; omega) h
theorem bG3 {w W W' : World} {a b c : Nat} (h : Below w.heap.size w W) (ha : w.heap.size ≤ a) (hb : w.heap.size ≤ b) (hc : w.heap.size ≤ c) [s : StepsG [a, b, c] W W'] : Below w.heap.size w W' := s.st (fun g hg => by simp at hg; omega) h
theorem dn2 {w : World} {m n : Nat} : (w.drewN m).drewN n = w.drewN (m + n) := World.drewN_drewN _ _ _
theorem dn3 {w : World} {l m n : Nat} : (w.drewN (l + m)).drewN n = w.drewN (l + (m + n)) := Eq.trans (World.drewN_drewN _ _ _) (congrArg (World.drewN _) (Nat.add_assoc _ _ _))
end Go.Proofs.YtcdnoklokoplaaaDoorX
