-- printed by a program
import Derived.Test.YtiigfmmflicdpaaDoorPNx0
import Derived.Test.YtiigfmmflicdpaaDoorPNx1
import Derived.Test.YtiigfmmflicdpaaDoorPNx2
import Derived.Test.YtiigfmmflicdpaaDoorPNx4
import Derived.Test.YtiigfmmflicdpaaDoorPNx5
import Derived.Test.YtiigfmmflicdpaaDoorPNx6
namespace Go.Proofs.YtiigfmmflicdpaaDoor.PN
open Go.Proofs.YtiigfmmflicdpaaDoorX
open Go.RowKit Go.Proofs.YtiigfmmflicdpaaDoorW.PrintWords Go.Proofs.YtiigfmmflicdpaaDoorW.PrintLast Go.Proofs.YtiigfmmflicdpaaDoorW.PrintMore
attribute [local go_sem] max2_int min2_int max_two min_two max_three min_three max_four min_four   -- for this text's walks alone
set_option linter.unusedVariables false
set_option linter.unusedSimpArgs false

/-! ### quot_long: function 83 (its contract by hand) -/
open Go.Proofs.YtiigfmmflicdpaaDoor.Lib Go.Proofs.YtiigfmmflicdpaaDoor.LongL in
/-- What is asked of the callees, at these lists. -/
structure quot_long.Good (l0 l1 : List Int) (k : Nat) (s : Int) (v u : List Int) (lost : Bool) (er : Int) : Prop where
  n2 : 2 ≤ l1.length
  nm : l1.length ≤ l0.length
  mx : l0.length ≤ 4096
  lz : bits_LeadingZeros64.f (rd l1 ((l1.length : Int) - 1)) = some s
  rv : quot_raised.f k l1 s (l1.length : Int) = some v
  ru : quot_raised.f k l0 s ((l0.length : Int) + 1) = some u
  vl : v.length = l1.length
  ul : u.length = l0.length + 1
  vo : ok v
  uo : ok u
  vb : 9223372036854775808 * B (l1.length - 1) ≤ val v
  ub : val u < 9223372036854775808 * B l0.length
  gs : ∀ part, part.length = l1.length + 1 → ok part → val part < 18446744073709551616 * val v → ∃ k' d, quot_guess.f k' part v = some d ∧ 0 ≤ d ∧ d < 18446744073709551616 ∧ val part < (d.toNat + 1) * val v
  sh : nat_Shr.f k (fixl l1.length (val u % val v)) s = some (lim (val l0 % val l1), lost, er)
  tr : nat_Trim.f k (fixl (l0.length - l1.length + 1) (val u / val v)) = some (lim (val l0 / val l1))
open Go.Proofs.YtiigfmmflicdpaaDoor.Lib Classical in
noncomputable def quot_long.f (l0 l1 : List Int) : Option (List Int × List Int) := if ∃ k s v u lost er, quot_long.Good l0 l1 k s v u lost er then some (lim (val l0 / val l1), lim (val l0 % val l1)) else none
set_option maxHeartbeats 4000000 in
set_option maxRecDepth 100000 in
open Go.Proofs.YtiigfmmflicdpaaDoor.Lib Go.Proofs.YtiigfmmflicdpaaDoor.LongL in
theorem quot_long.calls (A0 : Option Addr) (c0 : Nat) (l0 : List Int) (A1 : Option Addr) (c1 : Nat) (l1 : List Int) (r1 : List Int) (r2 : List Int) (w : World) (hT : Kd.C (Kd.int .u8) w (some ⟨0, 0, none⟩) 64 tabL) (hr0 : Kd.C (Kd.int .u64) w A0 l0.length l0) (hc0 : l0.length ≤ c0) (hr1 : Kd.C (Kd.int .u64) w A1 l1.length l1) (hc1 : l1.length ≤ c1) (h : quot_long.f l0 l1 = some (r1, r2)) :
    Calls Tryd.prog 83 #[.slice A0 l0.length c0, .slice A1 l1.length c1] w fun e w' => ∃ v0_ v1_ : Value, e = .returned (.tuple #[v0_, v1_]) ∧ Kd.V (Kd.int .u64) 28 w' w.heap.size (fun k_ => (w.heap.size ≤ k_)) v0_ r1 ∧ Kd.V (Kd.int .u64) 28 w' w.heap.size (fun k_ => (w.heap.size ≤ k_)) v1_ r2 ∧ Below w.heap.size w w' := by
  unfold quot_long.f at h
  split at h
  · rename_i hg
    obtain ⟨k, s, v, u, lost, er, G⟩ := hg
    simp only [Option.some.injEq, Prod.mk.injEq] at h
    obtain ⟨rfl, rfl⟩ := h
    have n2 := G.n2
    have nm := G.nm
    have mx := G.mx
    obtain ⟨n, hn⟩ : ∃ n, n = l1.length := ⟨_, rfl⟩
    obtain ⟨q1, e1, hx1⟩ := Kd.at_int hr1 ((l1.length : Int) - 1) (by omega) (by omega)
    have HG := Aside0.mk G
    have HT0 := Aside0.mk hT
    have HR0 := Aside0.mk hr0
    have HC0 := Aside0.mk hc0
    have HR1 := Aside0.mk hr1
    have HC1 := Aside0.mk hc1
    have HB := Aside0.mk (Below.refl w.heap.size w)
    have p1 : 0 ≤ ((l1.length : Int) - 1) := by omega
    have p2 : ((l1.length : Int) - 1) < (l1.length : Int) := by omega
    obtain ⟨x, hx⟩ : ∃ x, x = rd l1 ((l1.length : Int) - 1) := ⟨_, rfl⟩
    rw [← hx, show ((l1.length : Int) - 1).toNat = l1.length - 1 by omega] at hx1
    have P3 : (1 ≤ (l1.length : Int)) = True := eq_true (by omega)
    have HX := Aside0.mk hx
    subst e1
    have P1 := eq_true p1
    have P2 := eq_true p2
    clear hT hr0 hc0 hr1 hc1 hx p1 p2 G
    go_enter Tryd.func83, Tryd.ntmps83
    go_wp2
    apply wp_scope_straight
    have N1 := Aside0.mk nm
    have N2 := Aside0.mk n2
    have N3 := Aside0.mk mx
    have NN := Aside0.mk hn
    have pz0 : 0 ≤ ((l0.length : Int) - (l1.length : Int) + 1) := by omega
    have PZ0 := eq_true pz0
    have hmm : (((l0.length : Int) - (l1.length : Int) + 1).toNat) = l0.length - l1.length + 1 := by omega
    have HMM := Aside0.mk hmm
    have mx1 : (l1.length : Int) ≤ 4096 := by omega
    have mx0 : (l0.length : Int) ≤ 4096 := by omega
    clear nm n2 mx hn hmm pz0
    go_wp2_with (first
      | (go_at_call 99; (with_reducible refine (bits_LeadingZeros64.calls x s _ (by rw [HX.out]; exact HG.out.lz)).mono ?_); rintro e w' ⟨rfl, ⟨nd, rfl⟩⟩)
      | ((with_reducible refine gate_callee (f := 100) rfl ?_); refine goesL_ (some 29) rfl rfl Tryd.func100 (by kernel_rfl) rfl #[.slice (some q1) l1.length c1, .int .i64 s, .int .i64 l1.length] rfl (by (try simp only [List.map_toArray, List.map_cons, List.map_nil]); first | done | rfl) ?_; (with_reducible refine (quot_raised.calls k _ _ l1 s l1.length v _ ?sa HC1.out HG.out.rv).mono ?_); (case sa => first | exact HR1.out | exact Kd.C_drewN HR1.out _); rintro e w1 ⟨vv, rfl, hv, hb⟩; refine ⟨_, rfl, ?_⟩; have B1 := Aside0.mk (below_step (by first | exact HB.out | exact pw_below_drewN HB.out _) hb); have HV := Aside0.mk hv; clear HB hb hv)
      | ((with_reducible refine gate_callee (f := 100) rfl ?_); refine goesL_ (some 35) rfl rfl Tryd.func100 (by kernel_rfl) rfl #[.slice A0 l0.length c0, .int .i64 s, .int .i64 ((l0.length : Int) + 1)] rfl (by (try simp only [List.map_toArray, List.map_cons, List.map_nil]); first | done | rfl) ?_; (with_reducible refine (quot_raised.calls k _ _ l0 s _ u _ ?sa HC0.out HG.out.ru).mono ?_); (case sa => exact Kd.C_below HR0.out B1.out); rintro e w2 ⟨vu, rfl, hu, hb⟩; refine ⟨_, rfl, ?_⟩; have B2 := Aside0.mk (below_step B1.out hb); have HU := Aside0.mk hu; have HV2 := Aside0.mk (Kd.R_below HV.out hb); have S1 := Aside0.mk (Kd.R_lt HV.out); clear B1 HV hb hu)
      | ((with_reducible refine gate_dst (N := 41) rfl ?_); refine Kd.R_make (Kd.int .u64) _ 28 rfl (N := 41) rfl 22 _ _ rfl ((l0.length : Int) - (l1.length : Int) + 1) rfl rfl Tryd.underlying22 (.int .u64 0) 8 info28 rfl (by decide) (by omega) 0 (ok := fun _ => True) (okp := fun _ => True) rfl (fun _ hk => hk) trivial (of_eq_true PZ0) (by rw [HMM.out]; have := N3.out; omega) (Below.refl _ _) (Nat.le_refl _) ?_; intro vq w3 hq hb hg_ hnew_; clear hg_ hnew_; rw [HMM.out] at hq; have B3 := Aside0.mk (below_step B2.out hb); have HQ := Aside0.mk hq; have HV3 := Aside0.mk (Kd.R_below HV2.out hb); have HU3 := Aside0.mk (Kd.R_below HU.out hb); have S2 := Aside0.mk (Kd.R_lt HU.out); clear B2 HV2 HU hb hq))
    obtain ⟨gv, cv, rfl, gv0, cv0, BV⟩ := Blk.of_R HV3.out (by rw [HG.out.vl]; have := N2.out; omega)
    obtain ⟨gu, cu, rfl, gu0, cu0, BU⟩ := Blk.of_R HU3.out (by rw [HG.out.ul]; omega)
    obtain ⟨gq, cq, rfl, gq0, cq0, BQ⟩ := Blk.of_R HQ.out (by rw [List.length_replicate]; omega)
    have ngvu : gv ≠ gu := by have := S1.out gv rfl; omega
    have ngvq : gv ≠ gq := by have := S1.out gv rfl; have := B3.out.size; have := S2.out gu rfl; omega
    have nguq : gu ≠ gq := by have := S2.out gu rfl; omega
    have gvw : w.heap.size ≤ gv := gv0
    have guw : w.heap.size ≤ gu := by have := S1.out gv rfl; omega
    have gqw : w.heap.size ≤ gq := by have := S2.out gu rfl; omega
    obtain ⟨m, hm⟩ : ∃ m, m = l0.length - l1.length + 1 := ⟨_, rfl⟩
    have hmq : (List.replicate (l0.length - l1.length + 1) (0 : Int)).length = m := by rw [List.length_replicate, hm]
    rw [hmq] at cq0 ⊢
    rw [← hm] at BQ
    have n1 := N1.out
    have n2 := N2.out
    have n3 := N3.out
    have L0 := Aside0.mk (Lg.start (U := val u) (V := val v) (n := l1.length) (m := m) (by rw [HG.out.ul]; omega) HG.out.uo rfl (by omega) HG.out.vb (by have h := HG.out.ub; rw [show m + l1.length - 1 = l0.length by omega]; exact h))
    have hVB : val v < B l1.length := by have h := val_lt HG.out.vo; rw [HG.out.vl] at h; exact h
    have hV0 : 0 < val v := by have h := HG.out.vb; have h2 := B_pos (l1.length - 1); omega
    have hm9 : m ≤ 4096 := by omega
    have hm0 : 0 < m := by omega
    have HVB := Aside0.mk hVB
    have HV0 := Aside0.mk hV0
    have HM := Aside0.mk hm
    have HM9 := Aside0.mk hm9
    have BV := Aside0.mk BV
    have HVM := Aside0.mk (show v.length ≤ 140737488351232 by rw [HG.out.vl]; omega)
    have BU := Aside0.mk BU
    have BQ := Aside0.mk BQ
    have hul : l1.length + m ≤ cu := by have h := HG.out.ul; omega
    have HUL := Aside0.mk hul
    have CV0 := Aside0.mk cv0
    have CU0 := Aside0.mk cu0
    have CQ0 := Aside0.mk cq0
    have NG := Aside0.mk (And.intro ngvu (And.intro ngvq nguq))
    have GW := Aside0.mk (And.intro gvw (And.intro guw gqw))
    have mb : (m : Int) ≤ 4096 := by omega
    clear hVB hV0 hm hm9 hmq cv0 cu0 cq0 hul n1 n2 n3 ngvu ngvq nguq gvw guw gqw gv0 gu0 gq0 HV3 HU3 HQ S1 S2 hm0 HMM PZ0
    apply wp_label
    go_wp2
    go_loopg [11] m (fun kq v11 w' => ∃ (xi : Int) (us qs : List Int), v11 = .int .i64 xi ∧ Aside0 (xi = (kq : Int) - 1) ∧ Aside0 (kq ≤ m) ∧ Aside0 (Lg (val u) (val v) l1.length m kq us qs) ∧ Aside0 (Blk w' gu 28 us) ∧ Aside0 (Blk w' gq 28 qs) ∧ Aside0 (Blk w' gv 28 v) ∧ Aside0 (Below w.heap.size w w'))
    case atStart => exact ⟨_, u, _, rfl, ⟨rfl⟩, ⟨Nat.le_refl _⟩, L0, BU, BQ, BV, B3⟩
    case round =>
      clear L0 BU BQ BV B3
      obtain ⟨xi, us, qs, rfl, HI, HK, L, BU, BQ, BV, HB⟩ := hrel
      have hi := HI.out
      have hk := HK.out
      cases gk with
      | zero =>
        have d1 : decide (0 ≤ xi) = false := decide_eq_false (by omega)
        have d2 : (0 ≤ xi) = False := eq_false (by omega)
        obtain ⟨f1, f2⟩ := L.out.finish (Nat.le_of_lt HVB.out) HV0.out
        have n1 := N1.out
        have n2 := N2.out
        have n3 := N3.out
        have hus := L.out.ul
        have hqs := L.out.ql
        have m9 := HM9.out
        obtain ⟨fx, hfx⟩ : ∃ fx, fx = fixl l1.length (val u % val v) := ⟨_, rfl⟩
        have hfu : us.take l1.length = fx := by rw [hfx, ← f2]; exact fixl_of (ok_take L.out.uo _) (by rw [List.length_take]; omega)
        have hfl : ((l1.length : Int)).toNat = fx.length := by rw [hfx, fixl_len]; omega
        obtain ⟨i0, hi0, _, hsz, _⟩ := info_parts info28
        have hcut := cut_to (P := Tryd.prog) 22 28 .i64 Tryd.underlying22 hi0 (some ⟨gu, 0, none⟩) u.length cu (l1.length : Int) (by omega) (by rw [HG.out.ul]; omega) CU0.out
        rw [hfl] at hcut
        have hC := BU.out.win 0 l1.length (by omega) (by omega)
        rw [List.drop_zero, hfu] at hC
        have HSH := HG.out.sh
        rw [← hfx] at HSH
        have HTR := HG.out.tr
        have hqf : qs = fixl (l0.length - l1.length + 1) (val u / val v) := by rw [← f1]; exact fixl_of L.out.qo (by rw [hqs]; exact HM.out)
        rw [← hqf] at HTR
        have hfc : fx.length ≤ cu := by rw [← hfl]; have := HUL.out; omega
        have hCq := BQ.out.win 0 qs.length (by omega) (by omega)
        rw [List.drop_zero, List.take_length] at hCq
        have TR : Aside0 (∀ W : World, Kd.C (Kd.int .u64) W (some ⟨gq, 0, none⟩) qs.length qs → Calls Tryd.prog 53 #[.slice (some ⟨gq, 0, none⟩) m cq] W (fun e w' => ∃ v0_, e = .returned v0_ ∧ Kd.R (Kd.int .u64) 28 w' W.heap.size (fun _ => True) v0_ (lim (val l0 / val l1)) ∧ Below W.heap.size W w')) := ⟨by
          intro W hC
          have := nat_Trim.calls k (some _) cq qs (lim (val l0 / val l1)) W hC (by rw [hqs]; exact CQ0.out) HTR
          rwa [hqs] at this⟩
        have HC9 := Aside0.mk hC
        have HS9 := Aside0.mk HSH
        have HF9 := Aside0.mk hfc
        have HQ9 := Aside0.mk hCq
        have HTb := Aside0.mk (Kd.C_below HT0.out HB.out)
        clear f1 f2 hus hqs hfx hfu hfl hi0 hsz hC HSH HTR hqf hfc hCq n1 n2 n3 m9 hi hk
        go_wp2_with (first
          | ((with_reducible refine gate_callee (f := 60) rfl ?_); refine goesL_ (some 80) rfl rfl Tryd.func60 (by kernel_rfl) rfl #[.slice (some ⟨gu, 0, none⟩) fx.length cu, .int .i64 s] rfl (by (try simp only [List.map_toArray, List.map_cons, List.map_nil]); first | done | rfl) ?_; (with_reducible refine (nat_Shr.calls k _ _ fx s _ lost er _ HTb.out HC9.out HF9.out HS9.out).mono ?_); rintro e w4 ⟨vr, rfl, hr, hb⟩; refine ⟨_, rfl, ?_⟩; have B4 := Aside0.mk (below_step HB.out hb); have HR4 := Aside0.mk (Kd.V_mono (ok' := fun k_ => w.heap.size ≤ k_) hr (fun k_ hk_ => Nat.le_trans HB.out.size hk_)); have HQ4 := Aside0.mk (Kd.C_below HQ9.out hb); clear hb hr)
          | ((with_reducible refine gate_callee (f := 53) rfl ?_); refine goesL_ (some 85) rfl rfl Tryd.func53 (by kernel_rfl) rfl #[.slice (some ⟨gq, 0, none⟩) m cq] rfl (by (try simp only [List.map_toArray, List.map_cons, List.map_nil]); first | done | rfl) ?_; (with_reducible refine (TR.out _ HQ4.out).mono ?_); rintro e w5 ⟨vt, rfl, ht, hb⟩; refine ⟨_, rfl, ?_⟩; have B5 := Aside0.mk (below_step B4.out hb); have HR5 := Aside0.mk (Kd.V_below HR4.out hb); have HT5 := Aside0.mk ht; clear hb ht))
        rw [Exit.noGoto_ret]
        go_ret2
        exact ⟨vt, vr, rfl, Kd.R_V (Kd.R_mono (Kd.R_bound HT5.out) (fun k_ hk_ => Nat.le_trans B4.out.size hk_.2.1)), HR5.out, B5.out⟩
      | succ k1 =>
        have d1 : decide (0 ≤ xi) = true := decide_eq_true (by omega)
        have d2 : 0 ≤ xi := by omega
        have n1 := N1.out
        have n2 := N2.out
        have n3 := N3.out
        have m9 := HM9.out
        have hus := L.out.ul
        have hqs := L.out.ql
        have hx1' : xi = (k1 : Int) := by omega
        have hx9 : xi ≤ 4096 := by omega
        obtain ⟨i0, hi0, _, hsz, _⟩ := info_parts info28
        have hcu := HUL.out
        have hcut := cut_win (P := Tryd.prog) 22 28 .i64 .i64 Tryd.underlying22 hi0 hsz ⟨gu, 0, none⟩ u.length cu xi (xi + (l1.length : Int) + 1) (by omega) (by omega) (by omega)
        obtain ⟨ap, hap⟩ : ∃ ap, ap = (⟨gu, 0, none⟩ : Addr).add xi.toNat := ⟨_, rfl⟩
        obtain ⟨pt, hpt⟩ : ∃ pt, pt = (us.drop k1).take (l1.length + 1) := ⟨_, rfl⟩
        have hpl : pt.length = l1.length + 1 := by rw [hpt, List.length_take, List.length_drop]; omega
        obtain ⟨cp, hcp⟩ : ∃ cp, cp = cu - xi.toNat := ⟨_, rfl⟩
        rw [← hap, ← hcp, show (xi + (l1.length : Int) + 1).toNat - xi.toNat = pt.length by omega] at hcut
        have hap' : ap = ⟨gu, k1, none⟩ := by rw [hap, add_plain, hx1', Int.toNat_natCast]
        have hPC : Kd.C (Kd.int .u64) wr (some ap) pt.length pt := by
          have h := BU.out.win k1 (l1.length + 1) (by omega) (by omega)
          rw [← hpt] at h
          rw [hap']
          exact h
        have hpo : ok pt := by rw [hpt]; exact ok_take (ok_drop L.out.uo _) _
        obtain ⟨we, wl⟩ := L.out.win_eq (Nat.le_of_lt HVB.out) (by omega)
        have hwv : win us k1 (l1.length + 1) = val pt := by rw [hpt]; rfl
        obtain ⟨kg, dg, hgd, hg0, hg1, hg2⟩ := HG.out.gs pt hpl hpo (by rw [← hwv]; exact wl)
        have hpc : pt.length ≤ cp := by omega
        have HPC := Aside0.mk hPC
        have HPL := Aside0.mk hpl
        have HCP := Aside0.mk hpc
        have HGD := Aside0.mk hgd
        have HD0 := Aside0.mk (And.intro hg0 hg1)
        have HD2 := Aside0.mk (show win us k1 (l1.length + 1) < (dg.toNat + 1) * val v by rw [hwv]; exact hg2)
        have HAP := Aside0.mk hap'
        have HXK := Aside0.mk hx1'
        have HUS := Aside0.mk (show k1 + l1.length < us.length by omega)
        have HKM := Aside0.mk (show k1 < m by omega)
        have hNE : Aside0 (∀ a, some (⟨gv, 0, none⟩ : Addr) = some a → a.block ≠ gu) := ⟨fun a ha => by injection ha with ha; rw [← ha]; exact NG.out.1⟩
        clear n1 n2 n3 m9 hus hqs hx1' hi0 hsz hap hpt hpl hcp hap' hPC hpo we wl hwv hgd hg0 hg1 hg2 hpc hcu hi hk
        go_wp2_with (first
          | ((with_reducible refine gate_callee (f := 101) rfl ?_); refine goesL_ (some 58) rfl rfl Tryd.func101 (by kernel_rfl) rfl #[.slice (some ap) pt.length cp, .slice (some ⟨gv, 0, none⟩) v.length cv] rfl (by (try simp only [List.map_toArray, List.map_cons, List.map_nil]); first | done | rfl) ?_; (with_reducible refine (quot_guess.calls kg _ _ pt _ _ v dg _ HPC.out HCP.out (BV.out.full HVM.out) CV0.out HGD.out).mono ?_); rintro e w' ⟨rfl, ⟨nd, rfl⟩⟩; refine ⟨_, rfl, ?_⟩)
          | ((with_reducible refine gate_callee (f := 102) rfl ?_); refine goesL_ (some 62) rfl rfl Tryd.func102 (by kernel_rfl) rfl #[.slice (some ap) pt.length cp, .slice (some ⟨gv, 0, none⟩) v.length cv, .int .u64 dg] rfl (by (try simp only [List.map_toArray, List.map_cons, List.map_nil]); first | done | rfl) ?_; (with_reducible refine (quot_takeOff.calls _ ap gu k1 l1.length pt.length cp us v _ cv dg HAP.out HPL.out (BU.out.drewN _) (Kd.C_drewN (BV.out.full HVM.out) _) hNE.out HG.out.vl HUS.out L.out.uo HG.out.vo HD0.out HVM.out).mono ?_); rintro e w4 ⟨ys, b, rfl, hT, hB, hG⟩; refine ⟨_, rfl, ?_⟩; have T4 := Aside0.mk hT; have B4 := Aside0.mk hB; have G4 := Aside0.mk (grown_trans (grown_drewN _ _ _) hG); clear hT hB hG))
        have D0 := Aside0.mk (Dg.start L.out rfl HD0.out HV0.out HD2.out T4.out)
        clear HPC HGD HD2 T4
        go_loopg [13, 14] dg.toNat (fun kd v13 v14 w' => ∃ (d : Int) (neg : Bool) (zs : List Int), v13 = .int .u64 d ∧ v14 = .bool neg ∧ Aside0 (d.toNat = kd) ∧ Aside0 (Dg (val u) (val v) l1.length m k1 us qs zs d neg) ∧ Aside0 (Blk w' gu 28 zs) ∧ Aside0 (wr.grownBy w' (some gu)))
        case atStart => exact ⟨dg, _, ys, rfl, rfl, ⟨rfl⟩, D0, B4, G4⟩
        case round =>
          clear D0 B4 G4
          obtain ⟨d, neg, zs, rfl, rfl, HD, D, BZ, GZ⟩ := hrel
          cases neg with
          | false =>
            have BQ2 := Aside0.mk (BQ.out.kept GZ.out (by intro h; injection h with h; exact NG.out.2.2 h.symm))
            have BV2 := Aside0.mk (BV.out.kept GZ.out (by intro h; injection h with h; exact NG.out.1 h))
            have HB2 := Aside0.mk (HB.out.grown GZ.out HB.out.size (fun k_ hk_ => by injection hk_ with hk_; rw [← hk_]; exact GW.out.2.1))
            have hq3 : xi < (m : Int) := by have := HXK.out; have := HKM.out; omega
            obtain ⟨hc, hf⟩ := BQ2.out.at_ k1 (by rw [L.out.ql]; exact HKM.out)
            have hkx : xi.toNat = k1 := by rw [HXK.out, Int.toNat_natCast]
            obtain ⟨X, hX⟩ : ∃ X, X = rd qs (k1 : Int) := ⟨_, rfl⟩
            rw [← hX, ← hkx] at hc
            rw [← hkx] at hf
            have HKX := Aside0.mk hkx
            have hL := Aside0.mk (L.out.step (Nat.le_of_lt HVB.out) HV0.out HKM.out D.out)
            have hw8 : wrap64 (xi - 1) = xi - 1 := by unfold wrap64; omega
            have P8 := BQ2.out.put k1 d (by rw [L.out.ql]; exact HKM.out)
            rw [← hkx] at P8
            have PB := Aside0.mk P8.1
            have PG := Aside0.mk P8.2
            have HW8 := Aside0.mk hw8
            clear hkx hX P8 hw8
            go_wp2
            go_roundg k1
            case measure => omega
            case rel =>
              refine ⟨xi - 1, zs, _, by first | rfl | (rw [HW8.out]), ⟨by have := HXK.out; omega⟩, ⟨by have := HKM.out; omega⟩, hL, ⟨BZ.out.kept PG.out (by intro h; injection h with h; exact NG.out.2.2 h)⟩, ⟨by have h := PB.out; rw [HKX.out] at h ⊢; exact h⟩, ⟨BV2.out.kept PG.out (by intro h; injection h with h; exact NG.out.2.1 h)⟩, ⟨?_⟩⟩
              exact HB2.out.grown PG.out HB2.out.size (fun k_ hk_ => by injection hk_ with hk_; rw [← hk_]; exact GW.out.2.2)
          | true =>
            have d1 := D.out.pos HV0.out
            have d9 := D.out.d0
            have hd := HD.out
            cases gk with
            | zero => omega
            | succ k2 =>
              have BV2 := Aside0.mk (BV.out.kept GZ.out (by intro h; injection h with h; exact NG.out.1 h))
              have hw8 : IntKind.u64.wrap (d - 1) = d - 1 := by rw [IntKind.wrap_u64]; omega
              have HW8 := Aside0.mk hw8
              have hzl := Aside0.mk (show k1 + l1.length < zs.length by rw [D.out.len]; exact HUS.out)
              clear hw8 hd
              go_wp2_with (first
                | ((with_reducible refine gate_callee (f := 103) rfl ?_); refine goesL_ (some 73) rfl rfl Tryd.func103 (by kernel_rfl) rfl #[.slice (some ap) pt.length cp, .slice (some ⟨gv, 0, none⟩) v.length cv] rfl (by (try simp only [List.map_toArray, List.map_cons, List.map_nil]); first | done | rfl) ?_; (with_reducible refine (quot_putBack.calls _ ap gu k1 l1.length pt.length cp zs v _ cv HAP.out HPL.out BZ.out (BV2.out.full HVM.out) hNE.out HG.out.vl hzl.out D.out.uo HG.out.vo HVM.out).mono ?_); rintro e w5 ⟨us5, c5, rfl, hT, hB, hG⟩; refine ⟨_, rfl, ?_⟩; have T5 := Aside0.mk hT; have B5 := Aside0.mk hB; have G5 := Aside0.mk (grown_trans GZ.out hG); clear hT hB hG))
              go_roundg k2
              case measure => omega
              case rel => exact ⟨d - 1, !(c5 != 0), us5, by first | rfl | (rw [HW8.out]), rfl, ⟨by have := HD.out; omega⟩, ⟨(D.out.back rfl HV0.out T5.out).2⟩, B5, G5⟩
  · exact absurd h (by simp)

/-! ### quot_DivMod: function 49 -/
noncomputable def quot_DivMod.j0 : Nat → List Int → List Int → Bool → Option (List Int × List Int × Int)
  | 0, _, _, _ => none
  | k + 1, x7, x9, x26 => if x26 = true then (some (([] : List Int), ([] : List Int), 2)) else (if (x9.length : Int) = 0 then (some (([] : List Int), ([] : List Int), 4)) else ((nat_Cmp.f k x7 x9).bind fun t277 => (if t277 < 0 then (some (([] : List Int), x7, 0)) else (if (x9.length : Int) = 1 then (if 0 < (x9.length : Int) then ((nat_DivSmall.f k x7 (rd x9 0)).bind fun bt279 => ((nat_FromUint.f bt279.2.1).bind fun t284 => (some (bt279.1, t284, bt279.2.2)))) else (none)) else ((quot_long.f x7 x9).bind fun bt287 => (some (bt287.1, bt287.2, 0)))))))
noncomputable def quot_DivMod.f (k : Nat) (l0 : List Int) (l1 : List Int) : Option (List Int × List Int × Int) := (quot_small.f k l0 4096).bind fun bt269 => ((quot_small.f k l1 4096).bind fun bt273 => (if bt269.2 = true then (quot_DivMod.j0 k bt269.1 bt273.1 (!bt273.2)) else (quot_DivMod.j0 k bt269.1 bt273.1 true)))
theorem quot_DivMod.mono_l : ∀ k, (∀ y0 y1 y2, LeO (quot_DivMod.j0 k y0 y1 y2) (quot_DivMod.j0 (k + 1) y0 y1 y2))
  | 0 => fun _ _ _ r h => by simp [quot_DivMod.j0] at h
  | k + 1 => by
    have ih0 := quot_DivMod.mono_l k
    · intro y0 y1 y2
      unfold quot_DivMod.j0
      repeat' first
      | (with_reducible exact ih0 _ _ _)
      | (with_reducible exact nat_Cmp.mono _ _ _)
      | (with_reducible exact nat_DivSmall.mono _ _ _)
      | (with_reducible exact quot_small.mono _ _ _)
      | (with_reducible exact LeO.refl _)
      | (with_reducible exact LeO.none _)
      | (with_reducible refine LeO.ite ?_ ?_)
      | (with_reducible refine LeO.bind ?_ (fun _ => ?_))
      | exact ih0 _ _ _
      | exact nat_Cmp.mono _ _ _
      | exact nat_DivSmall.mono _ _ _
      | exact quot_small.mono _ _ _
      | exact LeO.none _
      | refine LeO.ite ?_ ?_
      | refine LeO.bind ?_ (fun _ => ?_)
theorem quot_DivMod.mono : ∀ a0 a1 k, LeO (quot_DivMod.f k a0 a1) (quot_DivMod.f (k + 1) a0 a1) := by
  intro a0 a1 k
  have ih0 := quot_DivMod.mono_l k
  unfold quot_DivMod.f
  repeat' first
      | (with_reducible exact ih0 _ _ _)
      | (with_reducible exact nat_Cmp.mono _ _ _)
      | (with_reducible exact nat_DivSmall.mono _ _ _)
      | (with_reducible exact quot_small.mono _ _ _)
      | (with_reducible exact LeO.refl _)
      | (with_reducible exact LeO.none _)
      | (with_reducible refine LeO.ite ?_ ?_)
      | (with_reducible refine LeO.bind ?_ (fun _ => ?_))
      | exact ih0 _ _ _
      | exact nat_Cmp.mono _ _ _
      | exact nat_DivSmall.mono _ _ _
      | exact quot_small.mono _ _ _
      | exact LeO.none _
      | refine LeO.ite ?_ ?_
      | refine LeO.bind ?_ (fun _ => ?_)
set_option maxHeartbeats 8000000 in
set_option maxRecDepth 100000 in
theorem quot_DivMod.calls (k : Nat) (A0 : Option Addr) (c0 : Nat) (l0 : List Int) (A1 : Option Addr) (c1 : Nat) (l1 : List Int) (r1 : List Int) (r2 : List Int) (r3 : Int) (w : World) (hT : Kd.C (Kd.int .u8) w (some ⟨0, 0, none⟩) 64 tabL) (hr0 : Kd.C (Kd.int .u64) w A0 l0.length l0) (hc0 : l0.length ≤ c0) (hr1 : Kd.C (Kd.int .u64) w A1 l1.length l1) (hc1 : l1.length ≤ c1) (h : quot_DivMod.f k l0 l1 = some (r1, r2, r3)) :
    Calls Tryd.prog 49 #[.slice A0 l0.length c0, .slice A1 l1.length c1] w fun e w' => ∃ v0_ v1_ : Value, e = .returned (.tuple #[v0_, v1_, .int .i64 r3]) ∧ Kd.V (Kd.int .u64) 28 w' w.heap.size (fun k_ => (w.heap.size ≤ k_)) v0_ r1 ∧ Kd.V (Kd.int .u64) 28 w' w.heap.size (fun k_ => (w.heap.size ≤ k_)) v1_ r2 ∧ Below w.heap.size w w' := by
  have HT := Aside0.mk hT
  clear hT
  have HR0 := Aside0.mk hr0
  have HC0 := Aside0.mk hc0
  clear hr0 hc0
  have HR1 := Aside0.mk hr1
  have HC1 := Aside0.mk hc1
  clear hr1 hc1
  have HB := Aside0.mk (Below.refl w.heap.size w)
  have H : ((quot_small.f k l0 4096).bind fun bt269 => ((quot_small.f k l1 4096).bind fun bt273 => (if bt269.2 = true then (quot_DivMod.j0 k bt269.1 bt273.1 (!bt273.2)) else (quot_DivMod.j0 k bt269.1 bt273.1 true)))) = some (r1, r2, r3) := h
  clear h
  replace H := Option.bind_eq_some_iff.mp H
  obtain ⟨⟨t269, t270⟩, A30, H⟩ := H
  replace H : ((quot_small.f k l1 4096).bind fun bt273 => (if t270 = true then (quot_DivMod.j0 k t269 bt273.1 (!bt273.2)) else (quot_DivMod.j0 k t269 bt273.1 true))) = some (r1, r2, r3) := H
  have A3 := Aside0.mk A30
  clear A30
  replace H := Option.bind_eq_some_iff.mp H
  obtain ⟨⟨t273, t274⟩, A40, H⟩ := H
  replace H : (if t270 = true then (quot_DivMod.j0 k t269 t273 (!t274)) else (quot_DivMod.j0 k t269 t273 true)) = some (r1, r2, r3) := H
  have A4 := Aside0.mk A40
  clear A40
  have HC5 := Aside0.mk H
  clear H
  go_enter Tryd.func49, Tryd.ntmps49
  go_upto_region 3 with (first | ((with_reducible refine gate_callee (f := 81) rfl ?_); refine goesL_ (some 18) rfl rfl Tryd.func81 (by kernel_rfl) rfl #[.slice A0 l0.length c0, .int .i64 4096] rfl (by (try simp only [List.map_toArray, List.map_cons, List.map_nil]); first | done | rfl | (simp only [List.length_drop, List.length_take]; rfl) | (simp only [gt_iff_lt, Int.natCast_pos]; done) | (simp only [gt_iff_lt, Int.natCast_pos]; rfl)) ?_; (with_reducible refine (quot_small.calls k _ _ l0 4096 t269 t270 _ ?side1 ?side2 A3.out).mono ?_); (case side1 => repeat (first | exact HR0.out | (with_reducible refine Kd.C_alloc ?_ _) | (with_reducible refine Kd.C_drewN ?_ _) | (with_reducible refine Kd.C_drew ?_))); (case side2 => exact HC0.out); rintro e w6 ⟨v271, rfl, ho0, hb⟩; refine ⟨_, rfl, ?_⟩; have n0_ := Aside0.mk (Kd.R_lower (Kd.R_newM (M := fun k_ => (w.heap.size ≤ k_)) ho0 (below_size (by repeat (first | (with_reducible first | exact HB.out | apply below_alloc | apply pw_below_drewN | apply below_drew1) | exact HB.out))) (fun k_ h_ => h_)) (below_size (by repeat (first | (with_reducible first | exact HB.out | apply below_alloc | apply pw_below_drewN | apply below_drew1) | exact HB.out)))); have n1_ := Aside0.mk (below_step (by repeat (first | (with_reducible first | exact HB.out | apply below_alloc | apply pw_below_drewN | apply below_drew1) | exact HB.out)) hb); clear HB; have HO272 := n0_; have HB := n1_; clear n0_ n1_; (try clear hb); (try clear hb2); (try clear hk); (try clear hi); (try clear ho0)) | ((with_reducible refine gate_callee (f := 81) rfl ?_); refine goesL_ (some 23) rfl rfl Tryd.func81 (by kernel_rfl) rfl #[.slice A1 l1.length c1, .int .i64 4096] rfl (by (try simp only [List.map_toArray, List.map_cons, List.map_nil]); first | done | rfl | (simp only [List.length_drop, List.length_take]; rfl) | (simp only [gt_iff_lt, Int.natCast_pos]; done) | (simp only [gt_iff_lt, Int.natCast_pos]; rfl)) ?_; (with_reducible refine (quot_small.calls k _ _ l1 4096 t273 t274 _ ?side1 ?side2 A4.out).mono ?_); (case side1 => repeat (first | exact (Kd.C_below HR1.out HB.out) | (with_reducible refine Kd.C_alloc ?_ _) | (with_reducible refine Kd.C_drewN ?_ _) | (with_reducible refine Kd.C_drew ?_))); (case side2 => exact HC1.out); rintro e w7 ⟨v275, rfl, ho0, hb⟩; refine ⟨_, rfl, ?_⟩; have n0_ := Aside0.mk (Kd.R_elder' (by (with_reducible repeat (first | apply Kd.R_alloc | apply Kd.R_drewN | apply Kd.R_drew)); exact HO272.out) (Kd.R_base ho0) hb); have n1_ := Aside0.mk (Kd.R_lower (Kd.R_new' (Kd.R_newM (M := fun k_ => (w.heap.size ≤ k_)) ho0 (below_size (by repeat (first | (with_reducible first | exact HB.out | apply below_alloc | apply pw_below_drewN | apply below_drew1) | exact HB.out))) (fun k_ h_ => h_)) (Kd.R_lt (by (with_reducible repeat (first | apply Kd.R_alloc | apply Kd.R_drewN | apply Kd.R_drew)); exact HO272.out))) (below_size (by repeat (first | (with_reducible first | exact HB.out | apply below_alloc | apply pw_below_drewN | apply below_drew1) | exact HB.out)))); have n2_ := Aside0.mk (below_step (by repeat (first | (with_reducible first | exact HB.out | apply below_alloc | apply pw_below_drewN | apply below_drew1) | exact HB.out)) hb); clear HO272; clear HB; have HO272 := n0_; have HO276 := n1_; have HB := n2_; clear n0_ n1_ n2_; (try clear hb); (try clear hb2); (try clear hk); (try clear hi); (try clear ho0)))
  (try simp only [Act.put, List.setIfInBounds_toArray, List.set_cons_zero, List.set_cons_succ])
  go_cut [26] (fun v26 wc => ∃ (kq : Nat) (x26_4 : Bool), v26 = .bool x26_4 ∧ Aside0 (quot_DivMod.j0 kq t269 t273 x26_4 = some (r1, r2, r3)) ∧ Aside0 (kq ≤ k) ∧ Aside0 (Kd.R (Kd.int .u64) 28 wc w.heap.size (fun k_ => (w.heap.size ≤ k_) ∧ some k_ ≠ (v275 : Value).ownBlock) v271 t269) ∧ Aside0 (Kd.R (Kd.int .u64) 28 wc w.heap.size (fun k_ => (w.heap.size ≤ k_) ∧ some k_ ≠ (v271 : Value).ownBlock) v275 t273) ∧ Aside0 (Below w.heap.size w wc))
  case first =>
    have H := HC5.out
    clear HC5
    by_cases c8 : t270 = true
    · subst c8
      have H1 : (quot_DivMod.j0 k t269 t273 (!t274)) = some (r1, r2, r3) := by rw [if_pos rfl] at H; exact H
      clear H
      have H := H1
      clear H1
      have H' := Aside0.mk H
      clear H
      go_wp2
      go_meet
      case rel => exact ⟨_, (!t274), (by first | rfl | (simp; done) | (simp [*]; done)), H', ⟨by first | omega | exact Nat.le_refl _⟩, ⟨by (with_reducible repeat (first | apply Kd.R_alloc | apply Kd.R_drewN | apply Kd.R_drew)); exact Kd.R_mono HO272.out (fun _ hk => ⟨hk.1.1, hk.2⟩)⟩, ⟨by (with_reducible repeat (first | apply Kd.R_alloc | apply Kd.R_drewN | apply Kd.R_drew)); exact Kd.R_mono HO276.out (fun _ hk => ⟨hk.1.1, hk.2⟩)⟩, ⟨by repeat (first | (with_reducible first | exact HB.out | apply below_alloc | apply pw_below_drewN | apply below_drew1) | exact HB.out)⟩⟩
    · replace c8 := Bool.eq_false_iff.mpr c8
      subst c8
      have H1 : (quot_DivMod.j0 k t269 t273 true) = some (r1, r2, r3) := by rw [if_neg (show ¬ (false = true) by decide)] at H; exact H
      clear H
      have H := H1
      clear H1
      have H' := Aside0.mk H
      clear H
      go_wp2
      go_meet
      case rel => exact ⟨_, (true), (by first | rfl | (simp; done) | (simp [*]; done)), H', ⟨by first | omega | exact Nat.le_refl _⟩, ⟨by (with_reducible repeat (first | apply Kd.R_alloc | apply Kd.R_drewN | apply Kd.R_drew)); exact Kd.R_mono HO272.out (fun _ hk => ⟨hk.1.1, hk.2⟩)⟩, ⟨by (with_reducible repeat (first | apply Kd.R_alloc | apply Kd.R_drewN | apply Kd.R_drew)); exact Kd.R_mono HO276.out (fun _ hk => ⟨hk.1.1, hk.2⟩)⟩, ⟨by repeat (first | (with_reducible first | exact HB.out | apply below_alloc | apply pw_below_drewN | apply below_drew1) | exact HB.out)⟩⟩
  case rest =>
    clear HC5
    try clear c1
    try clear p2
    try clear c4
    try clear c8
    obtain ⟨kq, x26_4, rfl, HA, HJ4, HO_7, HO_9, HB⟩ := hcut
    cases kq with
    | zero => exact absurd HA.out (by simp [quot_DivMod.j0])
    | succ kj4 =>
      have H := HA.out
      clear HA
      simp only [quot_DivMod.j0] at H
      by_cases c9 : x26_4 = true
      · subst c9
        have H1 : (some (([] : List Int), ([] : List Int), 2)) = some (r1, r2, r3) := by rw [if_pos rfl] at H; exact H
        clear H
        have H := H1
        clear H1
        simp only [Option.some.injEq, Prod.mk.injEq] at H
        obtain ⟨rfl, rfl, rfl⟩ := H
        go_wp2
        go_ret3
        exact ⟨.slice none 0 0, .slice none 0 0, by first | rfl | (simp [errW_none, errW_some] <;> rfl) | (simp [*, errW_none, errW_some] <;> rfl), Kd.V_nil _ _ _ _ _, Kd.V_nil _ _ _ _ _, by repeat (first | (with_reducible first | exact HB.out | apply below_alloc | apply pw_below_drewN | apply below_drew1) | exact HB.out)⟩
      · replace c9 := Bool.eq_false_iff.mpr c9
        subst c9
        have H1 : (if (t273.length : Int) = 0 then (some (([] : List Int), ([] : List Int), 4)) else ((nat_Cmp.f kj4 t269 t273).bind fun t277 => (if t277 < 0 then (some (([] : List Int), t269, 0)) else (if (t273.length : Int) = 1 then (if 0 < (t273.length : Int) then ((nat_DivSmall.f kj4 t269 (rd t273 0)).bind fun bt279 => ((nat_FromUint.f bt279.2.1).bind fun t284 => (some (bt279.1, t284, bt279.2.2)))) else (none)) else ((quot_long.f t269 t273).bind fun bt287 => (some (bt287.1, bt287.2, 0))))))) = some (r1, r2, r3) := by rw [if_neg (show ¬ (false = true) by decide)] at H; exact H
        clear H
        have H := H1
        clear H1
        by_cases c10 : (t273.length : Int) = 0
        · rw [if_pos c10] at H
          have c10b0 : ((t273.length : Int) == 0) = true := beq_iff_eq.mpr c10
          have c10b1 : ((t273.length : Int) != 0) = false := bne_eq_false_iff_eq.mpr c10
          clear c10
          simp only [Option.some.injEq, Prod.mk.injEq] at H
          obtain ⟨rfl, rfl, rfl⟩ := H
          obtain ⟨Ao11, co11, eo11⟩ := Kd.R_slice HO_9.out
          subst eo11
          go_wp2
          go_ret3
          exact ⟨.slice none 0 0, .slice none 0 0, by first | rfl | (simp [errW_none, errW_some] <;> rfl) | (simp [*, errW_none, errW_some] <;> rfl), Kd.V_nil _ _ _ _ _, Kd.V_nil _ _ _ _ _, by repeat (first | (with_reducible first | exact HB.out | apply below_alloc | apply pw_below_drewN | apply below_drew1) | exact HB.out)⟩
        · rw [if_neg c10] at H
          have c10b0 : ((t273.length : Int) == 0) = false := beq_eq_false_iff_ne.mpr c10
          have c10b1 : ((t273.length : Int) != 0) = true := bne_iff_ne.mpr c10
          have c10b2 : ¬ (t273 = []) := fun h_ => c10 (by rw [h_]; rfl)
          replace H := Option.bind_eq_some_iff.mp H
          obtain ⟨t277, A120, H⟩ := H
          replace H : (if t277 < 0 then (some (([] : List Int), t269, 0)) else (if (t273.length : Int) = 1 then (if 0 < (t273.length : Int) then ((nat_DivSmall.f kj4 t269 (rd t273 0)).bind fun bt279 => ((nat_FromUint.f bt279.2.1).bind fun t284 => (some (bt279.1, t284, bt279.2.2)))) else (none)) else ((quot_long.f t269 t273).bind fun bt287 => (some (bt287.1, bt287.2, 0))))) = some (r1, r2, r3) := H
          have A12 := Aside0.mk A120
          clear A120
          by_cases c13 : t277 < 0
          · rw [if_pos c13] at H
            have c13b0 : decide (t277 < 0) = true := decide_eq_true c13
            clear c13
            simp only [Option.some.injEq, Prod.mk.injEq] at H
            obtain ⟨rfl, rfl, rfl⟩ := H
            obtain ⟨Ao14, co14, eo14⟩ := Kd.R_slice HO_9.out
            subst eo14
            obtain ⟨Ao15, co15, eo15⟩ := Kd.R_slice HO_7.out
            subst eo15
            go_wp2_with (first | ((with_reducible refine gate_callee (f := 14) rfl ?_); refine goesL_ (some 40) rfl rfl Tryd.func14 (by kernel_rfl) rfl #[.slice Ao15 t269.length co15, .slice Ao14 t273.length co14] rfl (by (try simp only [List.map_toArray, List.map_cons, List.map_nil]); first | done | rfl | (simp only [List.length_drop, List.length_take]; rfl) | (simp only [gt_iff_lt, Int.natCast_pos]; done) | (simp only [gt_iff_lt, Int.natCast_pos]; rfl)) ?_; (with_reducible refine (nat_Cmp.calls kj4 _ _ t269 _ _ t273 t277 _ ?side1 ?side2 ?side3 ?side4 A12.out).mono ?_); (case side1 => repeat (first | exact (Kd.R_reads' HO_7.out).2.2 | (with_reducible refine Kd.C_alloc ?_ _) | (with_reducible refine Kd.C_drewN ?_ _) | (with_reducible refine Kd.C_drew ?_))); (case side2 => exact (Kd.R_reads' HO_7.out).2.1); (case side3 => repeat (first | exact (Kd.R_reads' HO_9.out).2.2 | (with_reducible refine Kd.C_alloc ?_ _) | (with_reducible refine Kd.C_drewN ?_ _) | (with_reducible refine Kd.C_drew ?_))); (case side4 => exact (Kd.R_reads' HO_9.out).2.1); rintro e w' ⟨rfl, ⟨nd, rfl⟩⟩; refine ⟨_, rfl, ?_⟩))
            go_ret3
            exact ⟨.slice none 0 0, _, by first | rfl | (simp [errW_none, errW_some] <;> rfl) | (simp [*, errW_none, errW_some] <;> rfl), Kd.V_nil _ _ _ _ _, Kd.R_V (by (with_reducible repeat (first | apply Kd.R_alloc | apply Kd.R_drewN | apply Kd.R_drew)); exact Kd.R_mono HO_7.out (fun _ hk => hk.1)), by repeat (first | (with_reducible first | exact HB.out | apply below_alloc | apply pw_below_drewN | apply below_drew1) | exact HB.out)⟩
          · rw [if_neg c13] at H
            have c13b0 : decide (t277 < 0) = false := decide_eq_false c13
            clear c13
            by_cases c16 : (t273.length : Int) = 1
            · rw [if_pos c16] at H
              have c16b0 : ((t273.length : Int) == 1) = true := beq_iff_eq.mpr c16
              have c16b1 : ((t273.length : Int) != 1) = false := bne_eq_false_iff_eq.mpr c16
              clear c16
              by_cases c17 : 0 < (t273.length : Int)
              · rw [if_pos c17] at H
                have c17b0 : decide (0 < (t273.length : Int)) = true := decide_eq_true c17
                have c17b1 : decide (0 < t273.length) = true := decide_eq_true (by omega)
                clear c17
                replace H := Option.bind_eq_some_iff.mp H
                obtain ⟨⟨t279, t282, t283⟩, A180, H⟩ := H
                replace H : ((nat_FromUint.f t282).bind fun t284 => (some (t279, t284, t283))) = some (r1, r2, r3) := H
                have A18 := Aside0.mk A180
                clear A180
                replace H := Option.bind_eq_some_iff.mp H
                obtain ⟨t284, A190, H⟩ := H
                replace H : (some (t279, t284, t283)) = some (r1, r2, r3) := H
                have A19 := Aside0.mk A190
                clear A190
                simp only [Option.some.injEq, Prod.mk.injEq] at H
                obtain ⟨rfl, rfl, rfl⟩ := H
                obtain ⟨Ao20, co20, eo20⟩ := Kd.R_slice HO_9.out
                subst eo20
                obtain ⟨Ao21, co21, eo21⟩ := Kd.R_slice HO_7.out
                subst eo21
                go_wp2_with (first | ((with_reducible refine gate_callee (f := 14) rfl ?_); refine goesL_ (some 40) rfl rfl Tryd.func14 (by kernel_rfl) rfl #[.slice Ao21 t269.length co21, .slice Ao20 t273.length co20] rfl (by (try simp only [List.map_toArray, List.map_cons, List.map_nil]); first | done | rfl | (simp only [List.length_drop, List.length_take]; rfl) | (simp only [gt_iff_lt, Int.natCast_pos]; done) | (simp only [gt_iff_lt, Int.natCast_pos]; rfl)) ?_; (with_reducible refine (nat_Cmp.calls kj4 _ _ t269 _ _ t273 t277 _ ?side1 ?side2 ?side3 ?side4 A12.out).mono ?_); (case side1 => repeat (first | exact (Kd.R_reads' HO_7.out).2.2 | (with_reducible refine Kd.C_alloc ?_ _) | (with_reducible refine Kd.C_drewN ?_ _) | (with_reducible refine Kd.C_drew ?_))); (case side2 => exact (Kd.R_reads' HO_7.out).2.1); (case side3 => repeat (first | exact (Kd.R_reads' HO_9.out).2.2 | (with_reducible refine Kd.C_alloc ?_ _) | (with_reducible refine Kd.C_drewN ?_ _) | (with_reducible refine Kd.C_drew ?_))); (case side4 => exact (Kd.R_reads' HO_9.out).2.1); rintro e w' ⟨rfl, ⟨nd, rfl⟩⟩; refine ⟨_, rfl, ?_⟩; have p278 : 0 ≤ (0 : Int) := (by omega); have q278 : 0 < (t273.length : Int) := of_decide_eq_true (by first | (with_reducible assumption) | assumption); obtain ⟨ad278, e278, hx278_0⟩ := Kd.at_int (Kd.R_reads' HO_9.out).2.2 0 p278 q278; cases e278; have qi278 : (0 < t273.length) = True := eq_true (by omega); (try rw [show ((0 : Int)).toNat = 0 from rfl] at hx278_0); (try rw [Addr.add_zero'] at hx278_0); replace p278 := eq_true p278; replace q278 := eq_true q278) | ((with_reducible refine gate_callee (f := 82) rfl ?_); refine goesL_ (some 52) rfl rfl Tryd.func82 (by kernel_rfl) rfl #[.slice Ao21 t269.length co21, .int .u64 (rd t273 0)] rfl (by (try simp only [List.map_toArray, List.map_cons, List.map_nil]); first | done | rfl | (simp only [List.length_drop, List.length_take]; rfl) | (simp only [gt_iff_lt, Int.natCast_pos]; done) | (simp only [gt_iff_lt, Int.natCast_pos]; rfl)) ?_; (with_reducible refine (nat_DivSmall.calls kj4 _ _ t269 (rd t273 0) t279 t282 t283 _ ?side1 ?side2 A18.out).mono ?_); (case side1 => repeat (first | exact (Kd.R_reads' HO_7.out).2.2 | (with_reducible refine Kd.C_alloc ?_ _) | (with_reducible refine Kd.C_drewN ?_ _) | (with_reducible refine Kd.C_drew ?_))); (case side2 => exact (Kd.R_reads' HO_7.out).2.1); rintro e w22 ⟨v280, rfl, ho0, hb⟩; refine ⟨_, rfl, ?_⟩; have n0_ := Aside0.mk (Kd.R_below (by (with_reducible repeat (first | apply Kd.R_alloc | apply Kd.R_drewN | apply Kd.R_drew)); exact HO_7.out) hb); have n1_ := Aside0.mk (Kd.R_below (by (with_reducible repeat (first | apply Kd.R_alloc | apply Kd.R_drewN | apply Kd.R_drew)); exact HO_9.out) hb); have n2_ := Aside0.mk (Kd.V_lower (Kd.V_mono (ok' := fun k_ => (w.heap.size ≤ k_) ∧ some k_ ≠ (.slice Ao21 t269.length co21 : Value).ownBlock ∧ some k_ ≠ (.slice (some ad278) t273.length co20 : Value).ownBlock) ho0 (fun k_ hk_ => ⟨(Nat.le_trans (below_size (by repeat (first | (with_reducible first | exact HB.out | apply below_alloc | apply pw_below_drewN | apply below_drew1) | exact HB.out))) hk_), (Kd.fresh' (Kd.R_lt (by (with_reducible repeat (first | apply Kd.R_alloc | apply Kd.R_drewN | apply Kd.R_drew)); exact HO_7.out)) k_ hk_), (Kd.fresh' (Kd.R_lt (by (with_reducible repeat (first | apply Kd.R_alloc | apply Kd.R_drewN | apply Kd.R_drew)); exact HO_9.out)) k_ hk_)⟩)) (below_size (by repeat (first | (with_reducible first | exact HB.out | apply below_alloc | apply pw_below_drewN | apply below_drew1) | exact HB.out)))); have n3_ := Aside0.mk (below_step (by repeat (first | (with_reducible first | exact HB.out | apply below_alloc | apply pw_below_drewN | apply below_drew1) | exact HB.out)) hb); clear HO_7; clear HO_9; clear HB; have HO_7 := n0_; have HO_9 := n1_; have HO281 := n2_; have HB := n3_; clear n0_ n1_ n2_ n3_; (try clear hb); (try clear hb2); (try clear hk); (try clear hi); (try clear ho0)) | ((with_reducible refine gate_callee (f := 59) rfl ?_); refine goesL_ (some 58) rfl rfl Tryd.func59 (by kernel_rfl) rfl #[.int .u64 t282] rfl (by (try simp only [List.map_toArray, List.map_cons, List.map_nil]); first | done | rfl | (simp only [List.length_drop, List.length_take]; rfl) | (simp only [gt_iff_lt, Int.natCast_pos]; done) | (simp only [gt_iff_lt, Int.natCast_pos]; rfl)) ?_; (with_reducible refine (nat_FromUint.calls t282 t284 _ A19.out).mono ?_); rintro e w23 ⟨v285, rfl, ho0, hb⟩; refine ⟨_, rfl, ?_⟩; have n0_ := Aside0.mk (Kd.R_elder' (by (with_reducible repeat (first | apply Kd.R_alloc | apply Kd.R_drewN | apply Kd.R_drew)); exact HO_7.out) (Kd.R_base ho0) hb); have n1_ := Aside0.mk (Kd.R_elder' (by (with_reducible repeat (first | apply Kd.R_alloc | apply Kd.R_drewN | apply Kd.R_drew)); exact HO_9.out) (Kd.R_base ho0) hb); have n2_ := Aside0.mk (Kd.V_elder' (by (with_reducible repeat (first | apply Kd.V_alloc | apply Kd.V_drewN | apply Kd.V_drew)); exact HO281.out) (Kd.R_base ho0) hb); have n3_ := Aside0.mk (Kd.R_lower (Kd.R_new' (Kd.R_new' (Kd.R_newM (M := fun k_ => (w.heap.size ≤ k_)) ho0 (below_size (by repeat (first | (with_reducible first | exact HB.out | apply below_alloc | apply pw_below_drewN | apply below_drew1) | exact HB.out))) (fun k_ h_ => h_)) (Kd.R_lt (by (with_reducible repeat (first | apply Kd.R_alloc | apply Kd.R_drewN | apply Kd.R_drew)); exact HO_7.out))) (Kd.R_lt (by (with_reducible repeat (first | apply Kd.R_alloc | apply Kd.R_drewN | apply Kd.R_drew)); exact HO_9.out))) (below_size (by repeat (first | (with_reducible first | exact HB.out | apply below_alloc | apply pw_below_drewN | apply below_drew1) | exact HB.out)))); have n4_ := Aside0.mk (below_step (by repeat (first | (with_reducible first | exact HB.out | apply below_alloc | apply pw_below_drewN | apply below_drew1) | exact HB.out)) hb); clear HO_7; clear HO_9; clear HO281; clear HB; have HO_7 := n0_; have HO_9 := n1_; have HO281 := n2_; have HO286 := n3_; have HB := n4_; clear n0_ n1_ n2_ n3_ n4_; (try clear hb); (try clear hb2); (try clear hk); (try clear hi); (try clear ho0)))
                go_ret3
                exact ⟨_, _, by first | rfl | (simp [errW_none, errW_some] <;> rfl) | (simp [*, errW_none, errW_some] <;> rfl), by (with_reducible repeat (first | apply Kd.V_alloc | apply Kd.V_drewN | apply Kd.V_drew)); exact Kd.V_mono HO281.out (fun _ hk => hk.1.1), Kd.R_V (by (with_reducible repeat (first | apply Kd.R_alloc | apply Kd.R_drewN | apply Kd.R_drew)); exact Kd.R_mono HO286.out (fun _ hk => hk.1.1.1)), by repeat (first | (with_reducible first | exact HB.out | apply below_alloc | apply pw_below_drewN | apply below_drew1) | exact HB.out)⟩
              · rw [if_neg c17] at H
                exact absurd H (by simp)
            · rw [if_neg c16] at H
              have c16b0 : ((t273.length : Int) == 1) = false := beq_eq_false_iff_ne.mpr c16
              have c16b1 : ((t273.length : Int) != 1) = true := bne_iff_ne.mpr c16
              replace H := Option.bind_eq_some_iff.mp H
              obtain ⟨⟨t287, t290⟩, A240, H⟩ := H
              replace H : (some (t287, t290, 0)) = some (r1, r2, r3) := H
              have A24 := Aside0.mk A240
              clear A240
              simp only [Option.some.injEq, Prod.mk.injEq] at H
              obtain ⟨rfl, rfl, rfl⟩ := H
              obtain ⟨Ao25, co25, eo25⟩ := Kd.R_slice HO_9.out
              subst eo25
              obtain ⟨Ao26, co26, eo26⟩ := Kd.R_slice HO_7.out
              subst eo26
              go_wp2_with (first | ((with_reducible refine gate_callee (f := 14) rfl ?_); refine goesL_ (some 40) rfl rfl Tryd.func14 (by kernel_rfl) rfl #[.slice Ao26 t269.length co26, .slice Ao25 t273.length co25] rfl (by (try simp only [List.map_toArray, List.map_cons, List.map_nil]); first | done | rfl | (simp only [List.length_drop, List.length_take]; rfl) | (simp only [gt_iff_lt, Int.natCast_pos]; done) | (simp only [gt_iff_lt, Int.natCast_pos]; rfl)) ?_; (with_reducible refine (nat_Cmp.calls kj4 _ _ t269 _ _ t273 t277 _ ?side1 ?side2 ?side3 ?side4 A12.out).mono ?_); (case side1 => repeat (first | exact (Kd.R_reads' HO_7.out).2.2 | (with_reducible refine Kd.C_alloc ?_ _) | (with_reducible refine Kd.C_drewN ?_ _) | (with_reducible refine Kd.C_drew ?_))); (case side2 => exact (Kd.R_reads' HO_7.out).2.1); (case side3 => repeat (first | exact (Kd.R_reads' HO_9.out).2.2 | (with_reducible refine Kd.C_alloc ?_ _) | (with_reducible refine Kd.C_drewN ?_ _) | (with_reducible refine Kd.C_drew ?_))); (case side4 => exact (Kd.R_reads' HO_9.out).2.1); rintro e w' ⟨rfl, ⟨nd, rfl⟩⟩; refine ⟨_, rfl, ?_⟩) | ((with_reducible refine gate_callee (f := 83) rfl ?_); refine goesL_ (some 63) rfl rfl Tryd.func83 (by kernel_rfl) rfl #[.slice Ao26 t269.length co26, .slice Ao25 t273.length co25] rfl (by (try simp only [List.map_toArray, List.map_cons, List.map_nil]); first | done | rfl | (simp only [List.length_drop, List.length_take]; rfl) | (simp only [gt_iff_lt, Int.natCast_pos]; done) | (simp only [gt_iff_lt, Int.natCast_pos]; rfl)) ?_; (with_reducible refine (quot_long.calls _ _ t269 _ _ t273 t287 t290 _ ?side5 ?side1 ?side2 ?side3 ?side4 A24.out).mono ?_); (case side1 => repeat (first | exact (Kd.R_reads' HO_7.out).2.2 | (with_reducible refine Kd.C_alloc ?_ _) | (with_reducible refine Kd.C_drewN ?_ _) | (with_reducible refine Kd.C_drew ?_))); (case side2 => exact (Kd.R_reads' HO_7.out).2.1); (case side3 => repeat (first | exact (Kd.R_reads' HO_9.out).2.2 | (with_reducible refine Kd.C_alloc ?_ _) | (with_reducible refine Kd.C_drewN ?_ _) | (with_reducible refine Kd.C_drew ?_))); (case side4 => exact (Kd.R_reads' HO_9.out).2.1); (case side5 => repeat (first | exact (Kd.C_below HT.out (by repeat (first | (with_reducible first | exact HB.out | apply below_alloc | apply pw_below_drewN | apply below_drew1) | exact HB.out))) | (with_reducible refine Kd.C_alloc ?_ _) | (with_reducible refine Kd.C_drewN ?_ _) | (with_reducible refine Kd.C_drew ?_))); rintro e w27 ⟨v288, v291, rfl, ho0, ho1, hb⟩; refine ⟨_, rfl, ?_⟩; have n0_ := Aside0.mk (Kd.R_below (by (with_reducible repeat (first | apply Kd.R_alloc | apply Kd.R_drewN | apply Kd.R_drew)); exact HO_7.out) hb); have n1_ := Aside0.mk (Kd.R_below (by (with_reducible repeat (first | apply Kd.R_alloc | apply Kd.R_drewN | apply Kd.R_drew)); exact HO_9.out) hb); have n2_ := Aside0.mk (Kd.V_lower (Kd.V_mono (ok' := fun k_ => (w.heap.size ≤ k_) ∧ some k_ ≠ (.slice Ao26 t269.length co26 : Value).ownBlock ∧ some k_ ≠ (.slice Ao25 t273.length co25 : Value).ownBlock) ho0 (fun k_ hk_ => ⟨(Nat.le_trans (below_size (by repeat (first | (with_reducible first | exact HB.out | apply below_alloc | apply pw_below_drewN | apply below_drew1) | exact HB.out))) hk_), (Kd.fresh' (Kd.R_lt (by (with_reducible repeat (first | apply Kd.R_alloc | apply Kd.R_drewN | apply Kd.R_drew)); exact HO_7.out)) k_ hk_), (Kd.fresh' (Kd.R_lt (by (with_reducible repeat (first | apply Kd.R_alloc | apply Kd.R_drewN | apply Kd.R_drew)); exact HO_9.out)) k_ hk_)⟩)) (below_size (by repeat (first | (with_reducible first | exact HB.out | apply below_alloc | apply pw_below_drewN | apply below_drew1) | exact HB.out)))); have n3_ := Aside0.mk (Kd.V_lower (Kd.V_mono (ok' := fun k_ => (w.heap.size ≤ k_) ∧ some k_ ≠ (.slice Ao26 t269.length co26 : Value).ownBlock ∧ some k_ ≠ (.slice Ao25 t273.length co25 : Value).ownBlock) ho1 (fun k_ hk_ => ⟨(Nat.le_trans (below_size (by repeat (first | (with_reducible first | exact HB.out | apply below_alloc | apply pw_below_drewN | apply below_drew1) | exact HB.out))) hk_), (Kd.fresh' (Kd.R_lt (by (with_reducible repeat (first | apply Kd.R_alloc | apply Kd.R_drewN | apply Kd.R_drew)); exact HO_7.out)) k_ hk_), (Kd.fresh' (Kd.R_lt (by (with_reducible repeat (first | apply Kd.R_alloc | apply Kd.R_drewN | apply Kd.R_drew)); exact HO_9.out)) k_ hk_)⟩)) (below_size (by repeat (first | (with_reducible first | exact HB.out | apply below_alloc | apply pw_below_drewN | apply below_drew1) | exact HB.out)))); have n4_ := Aside0.mk (below_step (by repeat (first | (with_reducible first | exact HB.out | apply below_alloc | apply pw_below_drewN | apply below_drew1) | exact HB.out)) hb); clear HO_7; clear HO_9; clear HB; have HO_7 := n0_; have HO_9 := n1_; have HO289 := n2_; have HO292 := n3_; have HB := n4_; clear n0_ n1_ n2_ n3_ n4_; (try clear hb); (try clear hb2); (try clear hk); (try clear hi); (try clear ho0); (try clear ho1)))
              go_ret3
              exact ⟨_, _, by first | rfl | (simp [errW_none, errW_some] <;> rfl) | (simp [*, errW_none, errW_some] <;> rfl), by (with_reducible repeat (first | apply Kd.V_alloc | apply Kd.V_drewN | apply Kd.V_drew)); exact Kd.V_mono HO289.out (fun _ hk => hk.1), by (with_reducible repeat (first | apply Kd.V_alloc | apply Kd.V_drewN | apply Kd.V_drew)); exact Kd.V_mono HO292.out (fun _ hk => hk.1), by repeat (first | (with_reducible first | exact HB.out | apply below_alloc | apply pw_below_drewN | apply below_drew1) | exact HB.out)⟩

/-! ### nat_Sub: function 50 -/
mutual
def nat_Sub.j0 : Nat → List Int → List Int → Bool → Option (List Int × Int)
  | 0, _, _, _ => none
  | k + 1, x0, x1, x16 => if x16 = true then (some (([] : List Int), 2)) else ((nat_Cmp.f k x0 x1).bind fun t295 => (if t295 < 0 then (some (([] : List Int), 10)) else ((nat_size.f k x0).bind fun t296 => (if 0 ≤ t296 then (if t296 ≤ (x0.length : Int) then ((some (x0.take (t296 : Int).toNat : List Int)).bind fun y297 => ((nat_size.f k x1).bind fun t301 => (if 0 ≤ t301 then (if t301 ≤ (x1.length : Int) then (if 0 ≤ (y297.length : Int) then (if ((y297.length : Int) : Int).toNat ≤ 35184372088832 then (nat_Sub.l0 k (x1.take (t301 : Int).toNat) (List.replicate ((y297.length : Int) : Int).toNat 0) 0 y297 (y297.length : Int) 0) else (none)) else (none)) else (none)) else (none)))) else (none)) else (none)))))
def nat_Sub.l0 : Nat → List Int → List Int → Int → List Int → Int → Int → Option (List Int × Int)
  | 0, _, _, _, _, _, _ => none
  | k + 1, x1, x6, x7, x32, x33, x34 => if x34 < x33 then (if 0 ≤ x34 then (if x34 < (x32.length : Int) then (if x34 < (x1.length : Int) then ((bits_Sub64.f (rd x32 x34) (rd x1 x34) x7).bind fun bt311 => (if x34 < (x6.length : Int) then (nat_Sub.l0 k x1 (x6.set (x34 : Int).toNat bt311.1) bt311.2 x32 x33 (wrap64 (x34 + 1))) else (none))) else ((bits_Sub64.f (rd x32 x34) 0 x7).bind fun bt314 => (if x34 < (x6.length : Int) then (nat_Sub.l0 k x1 (x6.set (x34 : Int).toNat bt314.1) bt314.2 x32 x33 (wrap64 (x34 + 1))) else (none)))) else (none)) else (none)) else ((nat_cut.f k x6).bind fun bt317 => (some (bt317.1, bt317.2)))
end
def nat_Sub.f (k : Nat) (l0 : List Int) (l1 : List Int) : Option (List Int × Int) := (nat_big.f k l0).bind fun t293 => (if t293 = true then (nat_Sub.j0 k l0 l1 true) else ((nat_big.f k l1).bind fun t294 => (nat_Sub.j0 k l0 l1 t294)))
theorem nat_Sub.mono_l : ∀ k, (∀ y0 y1 y2, LeO (nat_Sub.j0 k y0 y1 y2) (nat_Sub.j0 (k + 1) y0 y1 y2)) ∧ (∀ y0 y1 y2 y3 y4 y5, LeO (nat_Sub.l0 k y0 y1 y2 y3 y4 y5) (nat_Sub.l0 (k + 1) y0 y1 y2 y3 y4 y5))
  | 0 => ⟨fun _ _ _ r h => by simp [nat_Sub.j0] at h, fun _ _ _ _ _ _ r h => by simp [nat_Sub.l0] at h⟩
  | k + 1 => by
    obtain ⟨ih0, ih1⟩ := nat_Sub.mono_l k
    refine ⟨?_, ?_⟩
    · intro y0 y1 y2
      unfold nat_Sub.j0
      repeat' first
      | (with_reducible exact ih0 _ _ _)
      | (with_reducible exact ih1 _ _ _ _ _ _)
      | (with_reducible exact nat_Cmp.mono _ _ _)
      | (with_reducible exact nat_big.mono _ _)
      | (with_reducible exact nat_cut.mono _ _)
      | (with_reducible exact nat_size.mono _ _)
      | (with_reducible exact LeO.refl _)
      | (with_reducible exact LeO.none _)
      | (with_reducible refine LeO.ite ?_ ?_)
      | (with_reducible refine LeO.bind ?_ (fun _ => ?_))
      | exact ih0 _ _ _
      | exact ih1 _ _ _ _ _ _
      | exact nat_Cmp.mono _ _ _
      | exact nat_big.mono _ _
      | exact nat_cut.mono _ _
      | exact nat_size.mono _ _
      | exact LeO.none _
      | refine LeO.ite ?_ ?_
      | refine LeO.bind ?_ (fun _ => ?_)
    · intro y0 y1 y2 y3 y4 y5
      unfold nat_Sub.l0
      repeat' first
      | (with_reducible exact ih0 _ _ _)
      | (with_reducible exact ih1 _ _ _ _ _ _)
      | (with_reducible exact nat_Cmp.mono _ _ _)
      | (with_reducible exact nat_big.mono _ _)
      | (with_reducible exact nat_cut.mono _ _)
      | (with_reducible exact nat_size.mono _ _)
      | (with_reducible exact LeO.refl _)
      | (with_reducible exact LeO.none _)
      | (with_reducible refine LeO.ite ?_ ?_)
      | (with_reducible refine LeO.bind ?_ (fun _ => ?_))
      | exact ih0 _ _ _
      | exact ih1 _ _ _ _ _ _
      | exact nat_Cmp.mono _ _ _
      | exact nat_big.mono _ _
      | exact nat_cut.mono _ _
      | exact nat_size.mono _ _
      | exact LeO.none _
      | refine LeO.ite ?_ ?_
      | refine LeO.bind ?_ (fun _ => ?_)
theorem nat_Sub.mono : ∀ a0 a1 k, LeO (nat_Sub.f k a0 a1) (nat_Sub.f (k + 1) a0 a1) := by
  intro a0 a1 k
  obtain ⟨ih0, ih1⟩ := nat_Sub.mono_l k
  unfold nat_Sub.f
  repeat' first
      | (with_reducible exact ih0 _ _ _)
      | (with_reducible exact ih1 _ _ _ _ _ _)
      | (with_reducible exact nat_Cmp.mono _ _ _)
      | (with_reducible exact nat_big.mono _ _)
      | (with_reducible exact nat_cut.mono _ _)
      | (with_reducible exact nat_size.mono _ _)
      | (with_reducible exact LeO.refl _)
      | (with_reducible exact LeO.none _)
      | (with_reducible refine LeO.ite ?_ ?_)
      | (with_reducible refine LeO.bind ?_ (fun _ => ?_))
      | exact ih0 _ _ _
      | exact ih1 _ _ _ _ _ _
      | exact nat_Cmp.mono _ _ _
      | exact nat_big.mono _ _
      | exact nat_cut.mono _ _
      | exact nat_size.mono _ _
      | exact LeO.none _
      | refine LeO.ite ?_ ?_
      | refine LeO.bind ?_ (fun _ => ?_)
set_option maxHeartbeats 8000000 in
set_option maxRecDepth 100000 in
theorem nat_Sub.calls (k : Nat) (A0 : Option Addr) (c0 : Nat) (l0 : List Int) (A1 : Option Addr) (c1 : Nat) (l1 : List Int) (r1 : List Int) (r2 : Int) (w : World) (hr0 : Kd.C (Kd.int .u64) w A0 l0.length l0) (hc0 : l0.length ≤ c0) (hr1 : Kd.C (Kd.int .u64) w A1 l1.length l1) (hc1 : l1.length ≤ c1) (h : nat_Sub.f k l0 l1 = some (r1, r2)) :
    Calls Tryd.prog 50 #[.slice A0 l0.length c0, .slice A1 l1.length c1] w fun e w' => ∃ v0_ : Value, e = .returned (.tuple #[v0_, .int .i64 r2]) ∧ Kd.V (Kd.int .u64) 28 w' w.heap.size (fun k_ => (w.heap.size ≤ k_)) v0_ r1 ∧ Below w.heap.size w w' := by
  have HR0 := Aside0.mk hr0
  have HC0 := Aside0.mk hc0
  clear hr0 hc0
  have HR1 := Aside0.mk hr1
  have HC1 := Aside0.mk hc1
  clear hr1 hc1
  have HB := Aside0.mk (Below.refl w.heap.size w)
  have H : ((nat_big.f k l0).bind fun t293 => (if t293 = true then (nat_Sub.j0 k l0 l1 true) else ((nat_big.f k l1).bind fun t294 => (nat_Sub.j0 k l0 l1 t294)))) = some (r1, r2) := h
  clear h
  have HC3 := Aside0.mk H
  clear H
  go_enter Tryd.func50, Tryd.ntmps50
  go_upto_region 1 with (fail)
  repeat (go_quiet (fail); go_upto_region 1 with (fail))
  go_cut [16] (fun v16 wc => ∃ (kq : Nat) (x16_2 : Bool), v16 = .bool x16_2 ∧ Aside0 (nat_Sub.j0 kq l0 l1 x16_2 = some (r1, r2)) ∧ Aside0 (kq ≤ k) ∧ Aside0 (Below w.heap.size w wc))
  case first =>
    have H := HC3.out
    clear HC3
    replace H := Option.bind_eq_some_iff.mp H
    obtain ⟨t293, A40, H⟩ := H
    replace H : (if t293 = true then (nat_Sub.j0 k l0 l1 true) else ((nat_big.f k l1).bind fun t294 => (nat_Sub.j0 k l0 l1 t294))) = some (r1, r2) := H
    have A4 := Aside0.mk A40
    clear A40
    by_cases c5 : t293 = true
    · subst c5
      have H1 : (nat_Sub.j0 k l0 l1 true) = some (r1, r2) := by rw [if_pos rfl] at H; exact H
      clear H
      have H := H1
      clear H1
      have H' := Aside0.mk H
      clear H
      go_wp2_with (first | (go_at_call 54; (with_reducible refine (nat_big.calls k _ _ l0 true _ ?side1 ?side2 A4.out).mono ?_); (case side1 => repeat (first | exact (Kd.C_below HR0.out HB.out) | (with_reducible refine Kd.C_alloc ?_ _) | (with_reducible refine Kd.C_drewN ?_ _) | (with_reducible refine Kd.C_drew ?_))); (case side2 => exact HC0.out); rintro e w' ⟨rfl, ⟨nd, rfl⟩⟩; (try first | exact ⟨rfl, _, World.drewN_drewN _ _ _⟩ | exact ⟨rfl, _, Eq.trans (World.drewN_drewN _ _ _) (congrArg (World.drewN _) (Nat.add_assoc _ _ _))⟩)))
      repeat (go_quiet (first | (go_at_call 54; (with_reducible refine (nat_big.calls k _ _ l0 true _ ?side1 ?side2 A4.out).mono ?_); (case side1 => repeat (first | exact (Kd.C_below HR0.out HB.out) | (with_reducible refine Kd.C_alloc ?_ _) | (with_reducible refine Kd.C_drewN ?_ _) | (with_reducible refine Kd.C_drew ?_))); (case side2 => exact HC0.out); rintro e w' ⟨rfl, ⟨nd, rfl⟩⟩; (try first | exact ⟨rfl, _, World.drewN_drewN _ _ _⟩ | exact ⟨rfl, _, Eq.trans (World.drewN_drewN _ _ _) (congrArg (World.drewN _) (Nat.add_assoc _ _ _))⟩))); try go_wp2_with (first | (go_at_call 54; (with_reducible refine (nat_big.calls k _ _ l0 true _ ?side1 ?side2 A4.out).mono ?_); (case side1 => repeat (first | exact (Kd.C_below HR0.out HB.out) | (with_reducible refine Kd.C_alloc ?_ _) | (with_reducible refine Kd.C_drewN ?_ _) | (with_reducible refine Kd.C_drew ?_))); (case side2 => exact HC0.out); rintro e w' ⟨rfl, ⟨nd, rfl⟩⟩; (try first | exact ⟨rfl, _, World.drewN_drewN _ _ _⟩ | exact ⟨rfl, _, Eq.trans (World.drewN_drewN _ _ _) (congrArg (World.drewN _) (Nat.add_assoc _ _ _))⟩))))
      go_meet
      case rel => exact ⟨_, (true), (by first | rfl | (simp; done) | (simp [*]; done)), H', ⟨by first | omega | exact Nat.le_refl _⟩, ⟨by repeat (first | (with_reducible first | exact HB.out | apply below_alloc | apply pw_below_drewN | apply below_drew1) | exact HB.out)⟩⟩
    · replace c5 := Bool.eq_false_iff.mpr c5
      subst c5
      have H1 : ((nat_big.f k l1).bind fun t294 => (nat_Sub.j0 k l0 l1 t294)) = some (r1, r2) := by rw [if_neg (show ¬ (false = true) by decide)] at H; exact H
      clear H
      have H := H1
      clear H1
      replace H := Option.bind_eq_some_iff.mp H
      obtain ⟨t294, A60, H⟩ := H
      replace H : (nat_Sub.j0 k l0 l1 t294) = some (r1, r2) := H
      have A6 := Aside0.mk A60
      clear A60
      have H' := Aside0.mk H
      clear H
      go_wp2_with (first | (go_at_call 54; (with_reducible refine (nat_big.calls k _ _ l0 false _ ?side1 ?side2 A4.out).mono ?_); (case side1 => repeat (first | exact (Kd.C_below HR0.out HB.out) | (with_reducible refine Kd.C_alloc ?_ _) | (with_reducible refine Kd.C_drewN ?_ _) | (with_reducible refine Kd.C_drew ?_))); (case side2 => exact HC0.out); rintro e w' ⟨rfl, ⟨nd, rfl⟩⟩; (try first | exact ⟨rfl, _, World.drewN_drewN _ _ _⟩ | exact ⟨rfl, _, Eq.trans (World.drewN_drewN _ _ _) (congrArg (World.drewN _) (Nat.add_assoc _ _ _))⟩)) | (go_at_call 54; (with_reducible refine (nat_big.calls k _ _ l1 t294 _ ?side1 ?side2 A6.out).mono ?_); (case side1 => repeat (first | exact (Kd.C_below HR1.out (by repeat (first | (with_reducible first | exact HB.out | apply below_alloc | apply pw_below_drewN | apply below_drew1) | exact HB.out))) | (with_reducible refine Kd.C_alloc ?_ _) | (with_reducible refine Kd.C_drewN ?_ _) | (with_reducible refine Kd.C_drew ?_))); (case side2 => exact HC1.out); rintro e w' ⟨rfl, ⟨nd, rfl⟩⟩; (try first | exact ⟨rfl, _, World.drewN_drewN _ _ _⟩ | exact ⟨rfl, _, Eq.trans (World.drewN_drewN _ _ _) (congrArg (World.drewN _) (Nat.add_assoc _ _ _))⟩)))
      repeat (go_quiet (first | (go_at_call 54; (with_reducible refine (nat_big.calls k _ _ l0 false _ ?side1 ?side2 A4.out).mono ?_); (case side1 => repeat (first | exact (Kd.C_below HR0.out HB.out) | (with_reducible refine Kd.C_alloc ?_ _) | (with_reducible refine Kd.C_drewN ?_ _) | (with_reducible refine Kd.C_drew ?_))); (case side2 => exact HC0.out); rintro e w' ⟨rfl, ⟨nd, rfl⟩⟩; (try first | exact ⟨rfl, _, World.drewN_drewN _ _ _⟩ | exact ⟨rfl, _, Eq.trans (World.drewN_drewN _ _ _) (congrArg (World.drewN _) (Nat.add_assoc _ _ _))⟩)) | (go_at_call 54; (with_reducible refine (nat_big.calls k _ _ l1 t294 _ ?side1 ?side2 A6.out).mono ?_); (case side1 => repeat (first | exact (Kd.C_below HR1.out (by repeat (first | (with_reducible first | exact HB.out | apply below_alloc | apply pw_below_drewN | apply below_drew1) | exact HB.out))) | (with_reducible refine Kd.C_alloc ?_ _) | (with_reducible refine Kd.C_drewN ?_ _) | (with_reducible refine Kd.C_drew ?_))); (case side2 => exact HC1.out); rintro e w' ⟨rfl, ⟨nd, rfl⟩⟩; (try first | exact ⟨rfl, _, World.drewN_drewN _ _ _⟩ | exact ⟨rfl, _, Eq.trans (World.drewN_drewN _ _ _) (congrArg (World.drewN _) (Nat.add_assoc _ _ _))⟩))); try go_wp2_with (first | (go_at_call 54; (with_reducible refine (nat_big.calls k _ _ l0 false _ ?side1 ?side2 A4.out).mono ?_); (case side1 => repeat (first | exact (Kd.C_below HR0.out HB.out) | (with_reducible refine Kd.C_alloc ?_ _) | (with_reducible refine Kd.C_drewN ?_ _) | (with_reducible refine Kd.C_drew ?_))); (case side2 => exact HC0.out); rintro e w' ⟨rfl, ⟨nd, rfl⟩⟩; (try first | exact ⟨rfl, _, World.drewN_drewN _ _ _⟩ | exact ⟨rfl, _, Eq.trans (World.drewN_drewN _ _ _) (congrArg (World.drewN _) (Nat.add_assoc _ _ _))⟩)) | (go_at_call 54; (with_reducible refine (nat_big.calls k _ _ l1 t294 _ ?side1 ?side2 A6.out).mono ?_); (case side1 => repeat (first | exact (Kd.C_below HR1.out (by repeat (first | (with_reducible first | exact HB.out | apply below_alloc | apply pw_below_drewN | apply below_drew1) | exact HB.out))) | (with_reducible refine Kd.C_alloc ?_ _) | (with_reducible refine Kd.C_drewN ?_ _) | (with_reducible refine Kd.C_drew ?_))); (case side2 => exact HC1.out); rintro e w' ⟨rfl, ⟨nd, rfl⟩⟩; (try first | exact ⟨rfl, _, World.drewN_drewN _ _ _⟩ | exact ⟨rfl, _, Eq.trans (World.drewN_drewN _ _ _) (congrArg (World.drewN _) (Nat.add_assoc _ _ _))⟩))))
      go_meet
      case rel => exact ⟨_, (t294), (by first | rfl | (have e_ := Option.some.inj (A4.out.symm.trans A6.out); cases e_; rfl) | (simp; done) | (simp [*]; done)), H', ⟨by first | omega | exact Nat.le_refl _⟩, ⟨by repeat (first | (with_reducible first | exact HB.out | apply below_alloc | apply pw_below_drewN | apply below_drew1) | exact HB.out)⟩⟩
  case rest =>
    clear HC3
    try clear c1
    try clear p2
    try clear c5
    obtain ⟨kq, x16_2, rfl, HA, HJ2, HB⟩ := hcut
    cases kq with
    | zero => exact absurd HA.out (by simp [nat_Sub.j0])
    | succ kj2 =>
      have H := HA.out
      clear HA
      simp only [nat_Sub.j0] at H
      by_cases c7 : x16_2 = true
      · subst c7
        have H1 : (some (([] : List Int), 2)) = some (r1, r2) := by rw [if_pos rfl] at H; exact H
        clear H
        have H := H1
        clear H1
        simp only [Option.some.injEq, Prod.mk.injEq] at H
        obtain ⟨rfl, rfl⟩ := H
        go_wp2
        repeat (go_quiet (fail); try go_wp2)
        go_ret2
        exact ⟨.slice none 0 0, by first | rfl | (simp [errW_none, errW_some] <;> rfl) | (simp [*, errW_none, errW_some] <;> rfl), Kd.V_nil _ _ _ _ _, by repeat (first | (with_reducible first | exact HB.out | apply below_alloc | apply pw_below_drewN | apply below_drew1) | exact HB.out)⟩
      · replace c7 := Bool.eq_false_iff.mpr c7
        subst c7
        have H1 : ((nat_Cmp.f kj2 l0 l1).bind fun t295 => (if t295 < 0 then (some (([] : List Int), 10)) else ((nat_size.f kj2 l0).bind fun t296 => (if 0 ≤ t296 then (if t296 ≤ (l0.length : Int) then ((some (l0.take (t296 : Int).toNat : List Int)).bind fun y297 => ((nat_size.f kj2 l1).bind fun t301 => (if 0 ≤ t301 then (if t301 ≤ (l1.length : Int) then (if 0 ≤ (y297.length : Int) then (if ((y297.length : Int) : Int).toNat ≤ 35184372088832 then (nat_Sub.l0 kj2 (l1.take (t301 : Int).toNat) (List.replicate ((y297.length : Int) : Int).toNat 0) 0 y297 (y297.length : Int) 0) else (none)) else (none)) else (none)) else (none)))) else (none)) else (none))))) = some (r1, r2) := by rw [if_neg (show ¬ (false = true) by decide)] at H; exact H
        clear H
        have H := H1
        clear H1
        replace H := Option.bind_eq_some_iff.mp H
        obtain ⟨t295, A80, H⟩ := H
        replace H : (if t295 < 0 then (some (([] : List Int), 10)) else ((nat_size.f kj2 l0).bind fun t296 => (if 0 ≤ t296 then (if t296 ≤ (l0.length : Int) then ((some (l0.take (t296 : Int).toNat : List Int)).bind fun y297 => ((nat_size.f kj2 l1).bind fun t301 => (if 0 ≤ t301 then (if t301 ≤ (l1.length : Int) then (if 0 ≤ (y297.length : Int) then (if ((y297.length : Int) : Int).toNat ≤ 35184372088832 then (nat_Sub.l0 kj2 (l1.take (t301 : Int).toNat) (List.replicate ((y297.length : Int) : Int).toNat 0) 0 y297 (y297.length : Int) 0) else (none)) else (none)) else (none)) else (none)))) else (none)) else (none)))) = some (r1, r2) := H
        have A8 := Aside0.mk A80
        clear A80
        by_cases c9 : t295 < 0
        · rw [if_pos c9] at H
          have c9b0 : decide (t295 < 0) = true := decide_eq_true c9
          clear c9
          simp only [Option.some.injEq, Prod.mk.injEq] at H
          obtain ⟨rfl, rfl⟩ := H
          go_wp2_with (first | (go_at_call 14; (with_reducible refine (nat_Cmp.calls kj2 _ _ l0 _ _ l1 t295 _ ?side1 ?side2 ?side3 ?side4 A8.out).mono ?_); (case side1 => repeat (first | exact (Kd.C_below HR0.out HB.out) | (with_reducible refine Kd.C_alloc ?_ _) | (with_reducible refine Kd.C_drewN ?_ _) | (with_reducible refine Kd.C_drew ?_))); (case side2 => exact HC0.out); (case side3 => repeat (first | exact (Kd.C_below HR1.out HB.out) | (with_reducible refine Kd.C_alloc ?_ _) | (with_reducible refine Kd.C_drewN ?_ _) | (with_reducible refine Kd.C_drew ?_))); (case side4 => exact HC1.out); rintro e w' ⟨rfl, ⟨nd, rfl⟩⟩; (try first | exact ⟨rfl, _, World.drewN_drewN _ _ _⟩ | exact ⟨rfl, _, Eq.trans (World.drewN_drewN _ _ _) (congrArg (World.drewN _) (Nat.add_assoc _ _ _))⟩)))
          repeat (go_quiet (first | (go_at_call 14; (with_reducible refine (nat_Cmp.calls kj2 _ _ l0 _ _ l1 t295 _ ?side1 ?side2 ?side3 ?side4 A8.out).mono ?_); (case side1 => repeat (first | exact (Kd.C_below HR0.out HB.out) | (with_reducible refine Kd.C_alloc ?_ _) | (with_reducible refine Kd.C_drewN ?_ _) | (with_reducible refine Kd.C_drew ?_))); (case side2 => exact HC0.out); (case side3 => repeat (first | exact (Kd.C_below HR1.out HB.out) | (with_reducible refine Kd.C_alloc ?_ _) | (with_reducible refine Kd.C_drewN ?_ _) | (with_reducible refine Kd.C_drew ?_))); (case side4 => exact HC1.out); rintro e w' ⟨rfl, ⟨nd, rfl⟩⟩; (try first | exact ⟨rfl, _, World.drewN_drewN _ _ _⟩ | exact ⟨rfl, _, Eq.trans (World.drewN_drewN _ _ _) (congrArg (World.drewN _) (Nat.add_assoc _ _ _))⟩))); try go_wp2_with (first | (go_at_call 14; (with_reducible refine (nat_Cmp.calls kj2 _ _ l0 _ _ l1 t295 _ ?side1 ?side2 ?side3 ?side4 A8.out).mono ?_); (case side1 => repeat (first | exact (Kd.C_below HR0.out HB.out) | (with_reducible refine Kd.C_alloc ?_ _) | (with_reducible refine Kd.C_drewN ?_ _) | (with_reducible refine Kd.C_drew ?_))); (case side2 => exact HC0.out); (case side3 => repeat (first | exact (Kd.C_below HR1.out HB.out) | (with_reducible refine Kd.C_alloc ?_ _) | (with_reducible refine Kd.C_drewN ?_ _) | (with_reducible refine Kd.C_drew ?_))); (case side4 => exact HC1.out); rintro e w' ⟨rfl, ⟨nd, rfl⟩⟩; (try first | exact ⟨rfl, _, World.drewN_drewN _ _ _⟩ | exact ⟨rfl, _, Eq.trans (World.drewN_drewN _ _ _) (congrArg (World.drewN _) (Nat.add_assoc _ _ _))⟩))))
          go_ret2
          exact ⟨.slice none 0 0, by first | rfl | (simp [errW_none, errW_some] <;> rfl) | (simp [*, errW_none, errW_some] <;> rfl), Kd.V_nil _ _ _ _ _, by repeat (first | (with_reducible first | exact HB.out | apply below_alloc | apply pw_below_drewN | apply below_drew1) | exact HB.out)⟩
        · rw [if_neg c9] at H
          have c9b0 : decide (t295 < 0) = false := decide_eq_false c9
          clear c9
          replace H := Option.bind_eq_some_iff.mp H
          obtain ⟨t296, A100, H⟩ := H
          replace H : (if 0 ≤ t296 then (if t296 ≤ (l0.length : Int) then ((some (l0.take (t296 : Int).toNat : List Int)).bind fun y297 => ((nat_size.f kj2 l1).bind fun t301 => (if 0 ≤ t301 then (if t301 ≤ (l1.length : Int) then (if 0 ≤ (y297.length : Int) then (if ((y297.length : Int) : Int).toNat ≤ 35184372088832 then (nat_Sub.l0 kj2 (l1.take (t301 : Int).toNat) (List.replicate ((y297.length : Int) : Int).toNat 0) 0 y297 (y297.length : Int) 0) else (none)) else (none)) else (none)) else (none)))) else (none)) else (none)) = some (r1, r2) := H
          have A10 := Aside0.mk A100
          clear A100
          by_cases c11 : 0 ≤ t296
          · rw [if_pos c11] at H
            have c11b0 := eq_true c11
            have c11b1 : decide (0 ≤ t296) = true := decide_eq_true c11
            clear c11
            by_cases c12 : t296 ≤ (l0.length : Int)
            · rw [if_pos c12] at H
              have c12b0 := eq_true c12
              have c12b1 : decide (t296 ≤ (l0.length : Int)) = true := decide_eq_true c12
              clear c12
              obtain ⟨y297, hy297⟩ : ∃ y_ : List Int, y_ = (l0.take (t296 : Int).toNat) := ⟨_, rfl⟩
              replace H : ((nat_size.f kj2 l1).bind fun t301 => (if 0 ≤ t301 then (if t301 ≤ (l1.length : Int) then (if 0 ≤ (y297.length : Int) then (if ((y297.length : Int) : Int).toNat ≤ 35184372088832 then (nat_Sub.l0 kj2 (l1.take (t301 : Int).toNat) (List.replicate ((y297.length : Int) : Int).toNat 0) 0 y297 (y297.length : Int) 0) else (none)) else (none)) else (none)) else (none))) = some (r1, r2) := by first | (rw [hy297]; with_reducible exact H) | (have H2_ := (Option.bind_some _ _).symm.trans H; rw [hy297]; with_reducible exact H2_) | (have H2_ := (Option.bind_some _ _).symm.trans H; with_reducible exact H2_) | with_reducible exact H | (rw [hy297]; exact H) | exact H
              have Ny297 := Aside0.mk hy297
              clear hy297
              replace H := Option.bind_eq_some_iff.mp H
              obtain ⟨t301, A130, H⟩ := H
              replace H : (if 0 ≤ t301 then (if t301 ≤ (l1.length : Int) then (if 0 ≤ (y297.length : Int) then (if ((y297.length : Int) : Int).toNat ≤ 35184372088832 then (nat_Sub.l0 kj2 (l1.take (t301 : Int).toNat) (List.replicate ((y297.length : Int) : Int).toNat 0) 0 y297 (y297.length : Int) 0) else (none)) else (none)) else (none)) else (none)) = some (r1, r2) := H
              have A13 := Aside0.mk A130
              clear A130
              by_cases c14 : 0 ≤ t301
              · rw [if_pos c14] at H
                have c14b0 := eq_true c14
                have c14b1 : decide (0 ≤ t301) = true := decide_eq_true c14
                clear c14
                by_cases c15 : t301 ≤ (l1.length : Int)
                · rw [if_pos c15] at H
                  have c15b0 := eq_true c15
                  have c15b1 : decide (t301 ≤ (l1.length : Int)) = true := decide_eq_true c15
                  clear c15
                  obtain ⟨y302, hy302⟩ : ∃ y_ : List Int, y_ = (l1.take (t301 : Int).toNat) := ⟨_, rfl⟩
                  replace H : (if 0 ≤ (y297.length : Int) then (if ((y297.length : Int) : Int).toNat ≤ 35184372088832 then (nat_Sub.l0 kj2 y302 (List.replicate ((y297.length : Int) : Int).toNat 0) 0 y297 (y297.length : Int) 0) else (none)) else (none)) = some (r1, r2) := by first | (rw [hy302]; with_reducible exact H) | (have H2_ := (Option.bind_some _ _).symm.trans H; rw [hy302]; with_reducible exact H2_) | (have H2_ := (Option.bind_some _ _).symm.trans H; with_reducible exact H2_) | with_reducible exact H | (rw [hy302]; exact H) | exact H
                  have Ny302 := Aside0.mk hy302
                  clear hy302
                  by_cases c16 : 0 ≤ (y297.length : Int)
                  · rw [if_pos c16] at H
                    have c16b0 := eq_true c16
                    have c16b1 : decide (0 ≤ (y297.length : Int)) = true := decide_eq_true c16
                    clear c16
                    by_cases c17 : ((y297.length : Int) : Int).toNat ≤ 35184372088832
                    · rw [if_pos c17] at H
                      have c17b0 := eq_true c17
                      have c17b1 : decide (((y297.length : Int) : Int).toNat ≤ 35184372088832) = true := decide_eq_true c17
                      clear c17
                      obtain ⟨y306, hy306⟩ : ∃ y_ : List Int, y_ = (List.replicate ((y297.length : Int) : Int).toNat 0) := ⟨_, rfl⟩
                      replace H : (nat_Sub.l0 kj2 y302 y306 0 y297 (y297.length : Int) 0) = some (r1, r2) := by first | (rw [hy306]; with_reducible exact H) | (have H2_ := (Option.bind_some _ _).symm.trans H; rw [hy306]; with_reducible exact H2_) | (have H2_ := (Option.bind_some _ _).symm.trans H; with_reducible exact H2_) | with_reducible exact H | (rw [hy306]; exact H) | exact H
                      have Ny306 := Aside0.mk hy306
                      clear hy306
                      have H' := Aside0.mk H
                      clear H
                      go_wp2_with (first | (go_at_call 14; (with_reducible refine (nat_Cmp.calls kj2 _ _ l0 _ _ l1 t295 _ ?side1 ?side2 ?side3 ?side4 A8.out).mono ?_); (case side1 => repeat (first | exact (Kd.C_below HR0.out HB.out) | (with_reducible refine Kd.C_alloc ?_ _) | (with_reducible refine Kd.C_drewN ?_ _) | (with_reducible refine Kd.C_drew ?_))); (case side2 => exact HC0.out); (case side3 => repeat (first | exact (Kd.C_below HR1.out HB.out) | (with_reducible refine Kd.C_alloc ?_ _) | (with_reducible refine Kd.C_drewN ?_ _) | (with_reducible refine Kd.C_drew ?_))); (case side4 => exact HC1.out); rintro e w' ⟨rfl, ⟨nd, rfl⟩⟩; (try first | exact ⟨rfl, _, World.drewN_drewN _ _ _⟩ | exact ⟨rfl, _, Eq.trans (World.drewN_drewN _ _ _) (congrArg (World.drewN _) (Nat.add_assoc _ _ _))⟩)) | (go_at_call 45; (with_reducible refine (nat_size.calls kj2 _ _ l0 t296 _ ?side1 ?side2 A10.out).mono ?_); (case side1 => repeat (first | exact (Kd.C_below HR0.out (by repeat (first | (with_reducible first | exact HB.out | apply below_alloc | apply pw_below_drewN | apply below_drew1) | exact HB.out))) | (with_reducible refine Kd.C_alloc ?_ _) | (with_reducible refine Kd.C_drewN ?_ _) | (with_reducible refine Kd.C_drew ?_))); (case side2 => exact HC0.out); rintro e w' ⟨rfl, ⟨nd, rfl⟩⟩; (try first | exact ⟨rfl, _, World.drewN_drewN _ _ _⟩ | exact ⟨rfl, _, Eq.trans (World.drewN_drewN _ _ _) (congrArg (World.drewN _) (Nat.add_assoc _ _ _))⟩); have q18 : (t296 : Int) ≤ ((l0.length : Int) : Int) := of_decide_eq_true (by first | (with_reducible assumption) | assumption); obtain ⟨i018, hi018, _, hsz18, _⟩ := info_parts info28; have hroom18 : l0.length ≤ c0 := HC0.out; have hC18 : Kd.C (Kd.int .u64) _ A0 l0.length l0 := HR0.out; have hcut18 := cut_to (P := Tryd.prog) 22 28 .i64 Tryd.underlying22 hi018 A0 l0.length c0 t296 (of_decide_eq_true (by first | (with_reducible assumption) | assumption)) q18 hroom18; have hr18 := Kd.C_take (m := (t296 : Int).toNat) hC18 (by omega); have hy18 : y297.length = (t296 : Int).toNat := (by rw [Ny297.out, List.length_take]; omega); rw [← Ny297.out] at hr18; rw [← hy18] at hcut18; have HR300 := Aside0.mk hr18; have HC300 := Aside0.mk (show y297.length ≤ c0 from by omega); clear hr18 hC18 hroom18 hi018 hsz18; have KY18 := Aside0.mk hy18; clear hy18; replace q18 := eq_true q18) | (go_at_call 45; (with_reducible refine (nat_size.calls kj2 _ _ l1 t301 _ ?side1 ?side2 A13.out).mono ?_); (case side1 => repeat (first | exact (Kd.C_below HR1.out (by repeat (first | (with_reducible first | exact HB.out | apply below_alloc | apply pw_below_drewN | apply below_drew1) | exact HB.out))) | (with_reducible refine Kd.C_alloc ?_ _) | (with_reducible refine Kd.C_drewN ?_ _) | (with_reducible refine Kd.C_drew ?_))); (case side2 => exact HC1.out); rintro e w' ⟨rfl, ⟨nd, rfl⟩⟩; (try first | exact ⟨rfl, _, World.drewN_drewN _ _ _⟩ | exact ⟨rfl, _, Eq.trans (World.drewN_drewN _ _ _) (congrArg (World.drewN _) (Nat.add_assoc _ _ _))⟩); have q19 : (t301 : Int) ≤ ((l1.length : Int) : Int) := of_decide_eq_true (by first | (with_reducible assumption) | assumption); obtain ⟨i019, hi019, _, hsz19, _⟩ := info_parts info28; have hroom19 : l1.length ≤ c1 := HC1.out; have hC19 : Kd.C (Kd.int .u64) _ A1 l1.length l1 := HR1.out; have hcut19 := cut_to (P := Tryd.prog) 22 28 .i64 Tryd.underlying22 hi019 A1 l1.length c1 t301 (of_decide_eq_true (by first | (with_reducible assumption) | assumption)) q19 hroom19; have hr19 := Kd.C_take (m := (t301 : Int).toNat) hC19 (by omega); have hy19 : y302.length = (t301 : Int).toNat := (by rw [Ny302.out, List.length_take]; omega); rw [← Ny302.out] at hr19; rw [← hy19] at hcut19; have HR305 := Aside0.mk hr19; have HC305 := Aside0.mk (show y302.length ≤ c1 from by omega); clear hr19 hC19 hroom19 hi019 hsz19; have KY19 := Aside0.mk hy19; clear hy19; replace q19 := eq_true q19) | ((with_reducible refine gate_dst (N := 31) rfl ?_); refine Kd.R_make (Kd.int .u64) _ 28 rfl (N := 31) rfl 22 _ _ rfl (y297.length : Int) rfl rfl Tryd.underlying22 (.int .u64 0) 8 info28 rfl (by decide) (by omega) 0 (ok := fun _ => True) (okp := fun _ => True) rfl (fun _ hk => hk) trivial (of_decide_eq_true (by first | (with_reducible assumption) | assumption)) (Nat.le_trans (Nat.mul_le_mul_right _ (of_decide_eq_true (by first | (with_reducible assumption) | assumption) : (y297.length : Int).toNat ≤ 35184372088832)) (by omega)) (Below.refl _ _) (Nat.le_refl _) ?_; intro v307 w20 ho21 hb hg_ hnew_; clear hg_ hnew_; (first | rw [← Ny306.out] at ho21 | (simp only [Int.reduceToNat] at ho21; rw [← Ny306.out] at ho21)); have n0_ := Aside0.mk (Kd.R_lower (Kd.R_newM (M := fun k_ => (w.heap.size ≤ k_)) ho21 (below_size (by repeat (first | (with_reducible first | exact HB.out | apply below_alloc | apply pw_below_drewN | apply below_drew1) | exact HB.out))) (fun k_ h_ => h_)) (below_size (by repeat (first | (with_reducible first | exact HB.out | apply below_alloc | apply pw_below_drewN | apply below_drew1) | exact HB.out)))); have n1_ := Aside0.mk (below_step (by repeat (first | (with_reducible first | exact HB.out | apply below_alloc | apply pw_below_drewN | apply below_drew1) | exact HB.out)) hb); clear HB; have HO308 := n0_; have HB := n1_; clear n0_ n1_; clear hb ho21))
                      repeat (go_quiet (first | (go_at_call 14; (with_reducible refine (nat_Cmp.calls kj2 _ _ l0 _ _ l1 t295 _ ?side1 ?side2 ?side3 ?side4 A8.out).mono ?_); (case side1 => repeat (first | exact (Kd.C_below HR0.out HB.out) | (with_reducible refine Kd.C_alloc ?_ _) | (with_reducible refine Kd.C_drewN ?_ _) | (with_reducible refine Kd.C_drew ?_))); (case side2 => exact HC0.out); (case side3 => repeat (first | exact (Kd.C_below HR1.out HB.out) | (with_reducible refine Kd.C_alloc ?_ _) | (with_reducible refine Kd.C_drewN ?_ _) | (with_reducible refine Kd.C_drew ?_))); (case side4 => exact HC1.out); rintro e w' ⟨rfl, ⟨nd, rfl⟩⟩; (try first | exact ⟨rfl, _, World.drewN_drewN _ _ _⟩ | exact ⟨rfl, _, Eq.trans (World.drewN_drewN _ _ _) (congrArg (World.drewN _) (Nat.add_assoc _ _ _))⟩)) | (go_at_call 45; (with_reducible refine (nat_size.calls kj2 _ _ l0 t296 _ ?side1 ?side2 A10.out).mono ?_); (case side1 => repeat (first | exact (Kd.C_below HR0.out (by repeat (first | (with_reducible first | exact HB.out | apply below_alloc | apply pw_below_drewN | apply below_drew1) | exact HB.out))) | (with_reducible refine Kd.C_alloc ?_ _) | (with_reducible refine Kd.C_drewN ?_ _) | (with_reducible refine Kd.C_drew ?_))); (case side2 => exact HC0.out); rintro e w' ⟨rfl, ⟨nd, rfl⟩⟩; (try first | exact ⟨rfl, _, World.drewN_drewN _ _ _⟩ | exact ⟨rfl, _, Eq.trans (World.drewN_drewN _ _ _) (congrArg (World.drewN _) (Nat.add_assoc _ _ _))⟩); have q18 : (t296 : Int) ≤ ((l0.length : Int) : Int) := of_decide_eq_true (by first | (with_reducible assumption) | assumption); obtain ⟨i018, hi018, _, hsz18, _⟩ := info_parts info28; have hroom18 : l0.length ≤ c0 := HC0.out; have hC18 : Kd.C (Kd.int .u64) _ A0 l0.length l0 := HR0.out; have hcut18 := cut_to (P := Tryd.prog) 22 28 .i64 Tryd.underlying22 hi018 A0 l0.length c0 t296 (of_decide_eq_true (by first | (with_reducible assumption) | assumption)) q18 hroom18; have hr18 := Kd.C_take (m := (t296 : Int).toNat) hC18 (by omega); have hy18 : y297.length = (t296 : Int).toNat := (by rw [Ny297.out, List.length_take]; omega); rw [← Ny297.out] at hr18; rw [← hy18] at hcut18; have HR300 := Aside0.mk hr18; have HC300 := Aside0.mk (show y297.length ≤ c0 from by omega); clear hr18 hC18 hroom18 hi018 hsz18; have KY18 := Aside0.mk hy18; clear hy18; replace q18 := eq_true q18) | (go_at_call 45; (with_reducible refine (nat_size.calls kj2 _ _ l1 t301 _ ?side1 ?side2 A13.out).mono ?_); (case side1 => repeat (first | exact (Kd.C_below HR1.out (by repeat (first | (with_reducible first | exact HB.out | apply below_alloc | apply pw_below_drewN | apply below_drew1) | exact HB.out))) | (with_reducible refine Kd.C_alloc ?_ _) | (with_reducible refine Kd.C_drewN ?_ _) | (with_reducible refine Kd.C_drew ?_))); (case side2 => exact HC1.out); rintro e w' ⟨rfl, ⟨nd, rfl⟩⟩; (try first | exact ⟨rfl, _, World.drewN_drewN _ _ _⟩ | exact ⟨rfl, _, Eq.trans (World.drewN_drewN _ _ _) (congrArg (World.drewN _) (Nat.add_assoc _ _ _))⟩); have q19 : (t301 : Int) ≤ ((l1.length : Int) : Int) := of_decide_eq_true (by first | (with_reducible assumption) | assumption); obtain ⟨i019, hi019, _, hsz19, _⟩ := info_parts info28; have hroom19 : l1.length ≤ c1 := HC1.out; have hC19 : Kd.C (Kd.int .u64) _ A1 l1.length l1 := HR1.out; have hcut19 := cut_to (P := Tryd.prog) 22 28 .i64 Tryd.underlying22 hi019 A1 l1.length c1 t301 (of_decide_eq_true (by first | (with_reducible assumption) | assumption)) q19 hroom19; have hr19 := Kd.C_take (m := (t301 : Int).toNat) hC19 (by omega); have hy19 : y302.length = (t301 : Int).toNat := (by rw [Ny302.out, List.length_take]; omega); rw [← Ny302.out] at hr19; rw [← hy19] at hcut19; have HR305 := Aside0.mk hr19; have HC305 := Aside0.mk (show y302.length ≤ c1 from by omega); clear hr19 hC19 hroom19 hi019 hsz19; have KY19 := Aside0.mk hy19; clear hy19; replace q19 := eq_true q19) | ((with_reducible refine gate_dst (N := 31) rfl ?_); refine Kd.R_make (Kd.int .u64) _ 28 rfl (N := 31) rfl 22 _ _ rfl (y297.length : Int) rfl rfl Tryd.underlying22 (.int .u64 0) 8 info28 rfl (by decide) (by omega) 0 (ok := fun _ => True) (okp := fun _ => True) rfl (fun _ hk => hk) trivial (of_decide_eq_true (by first | (with_reducible assumption) | assumption)) (Nat.le_trans (Nat.mul_le_mul_right _ (of_decide_eq_true (by first | (with_reducible assumption) | assumption) : (y297.length : Int).toNat ≤ 35184372088832)) (by omega)) (Below.refl _ _) (Nat.le_refl _) ?_; intro v307 w20 ho21 hb hg_ hnew_; clear hg_ hnew_; (first | rw [← Ny306.out] at ho21 | (simp only [Int.reduceToNat] at ho21; rw [← Ny306.out] at ho21)); have n0_ := Aside0.mk (Kd.R_lower (Kd.R_newM (M := fun k_ => (w.heap.size ≤ k_)) ho21 (below_size (by repeat (first | (with_reducible first | exact HB.out | apply below_alloc | apply pw_below_drewN | apply below_drew1) | exact HB.out))) (fun k_ h_ => h_)) (below_size (by repeat (first | (with_reducible first | exact HB.out | apply below_alloc | apply pw_below_drewN | apply below_drew1) | exact HB.out)))); have n1_ := Aside0.mk (below_step (by repeat (first | (with_reducible first | exact HB.out | apply below_alloc | apply pw_below_drewN | apply below_drew1) | exact HB.out)) hb); clear HB; have HO308 := n0_; have HB := n1_; clear n0_ n1_; clear hb ho21)); try go_wp2_with (first | (go_at_call 14; (with_reducible refine (nat_Cmp.calls kj2 _ _ l0 _ _ l1 t295 _ ?side1 ?side2 ?side3 ?side4 A8.out).mono ?_); (case side1 => repeat (first | exact (Kd.C_below HR0.out HB.out) | (with_reducible refine Kd.C_alloc ?_ _) | (with_reducible refine Kd.C_drewN ?_ _) | (with_reducible refine Kd.C_drew ?_))); (case side2 => exact HC0.out); (case side3 => repeat (first | exact (Kd.C_below HR1.out HB.out) | (with_reducible refine Kd.C_alloc ?_ _) | (with_reducible refine Kd.C_drewN ?_ _) | (with_reducible refine Kd.C_drew ?_))); (case side4 => exact HC1.out); rintro e w' ⟨rfl, ⟨nd, rfl⟩⟩; (try first | exact ⟨rfl, _, World.drewN_drewN _ _ _⟩ | exact ⟨rfl, _, Eq.trans (World.drewN_drewN _ _ _) (congrArg (World.drewN _) (Nat.add_assoc _ _ _))⟩)) | (go_at_call 45; (with_reducible refine (nat_size.calls kj2 _ _ l0 t296 _ ?side1 ?side2 A10.out).mono ?_); (case side1 => repeat (first | exact (Kd.C_below HR0.out (by repeat (first | (with_reducible first | exact HB.out | apply below_alloc | apply pw_below_drewN | apply below_drew1) | exact HB.out))) | (with_reducible refine Kd.C_alloc ?_ _) | (with_reducible refine Kd.C_drewN ?_ _) | (with_reducible refine Kd.C_drew ?_))); (case side2 => exact HC0.out); rintro e w' ⟨rfl, ⟨nd, rfl⟩⟩; (try first | exact ⟨rfl, _, World.drewN_drewN _ _ _⟩ | exact ⟨rfl, _, Eq.trans (World.drewN_drewN _ _ _) (congrArg (World.drewN _) (Nat.add_assoc _ _ _))⟩); have q18 : (t296 : Int) ≤ ((l0.length : Int) : Int) := of_decide_eq_true (by first | (with_reducible assumption) | assumption); obtain ⟨i018, hi018, _, hsz18, _⟩ := info_parts info28; have hroom18 : l0.length ≤ c0 := HC0.out; have hC18 : Kd.C (Kd.int .u64) _ A0 l0.length l0 := HR0.out; have hcut18 := cut_to (P := Tryd.prog) 22 28 .i64 Tryd.underlying22 hi018 A0 l0.length c0 t296 (of_decide_eq_true (by first | (with_reducible assumption) | assumption)) q18 hroom18; have hr18 := Kd.C_take (m := (t296 : Int).toNat) hC18 (by omega); have hy18 : y297.length = (t296 : Int).toNat := (by rw [Ny297.out, List.length_take]; omega); rw [← Ny297.out] at hr18; rw [← hy18] at hcut18; have HR300 := Aside0.mk hr18; have HC300 := Aside0.mk (show y297.length ≤ c0 from by omega); clear hr18 hC18 hroom18 hi018 hsz18; have KY18 := Aside0.mk hy18; clear hy18; replace q18 := eq_true q18) | (go_at_call 45; (with_reducible refine (nat_size.calls kj2 _ _ l1 t301 _ ?side1 ?side2 A13.out).mono ?_); (case side1 => repeat (first | exact (Kd.C_below HR1.out (by repeat (first | (with_reducible first | exact HB.out | apply below_alloc | apply pw_below_drewN | apply below_drew1) | exact HB.out))) | (with_reducible refine Kd.C_alloc ?_ _) | (with_reducible refine Kd.C_drewN ?_ _) | (with_reducible refine Kd.C_drew ?_))); (case side2 => exact HC1.out); rintro e w' ⟨rfl, ⟨nd, rfl⟩⟩; (try first | exact ⟨rfl, _, World.drewN_drewN _ _ _⟩ | exact ⟨rfl, _, Eq.trans (World.drewN_drewN _ _ _) (congrArg (World.drewN _) (Nat.add_assoc _ _ _))⟩); have q19 : (t301 : Int) ≤ ((l1.length : Int) : Int) := of_decide_eq_true (by first | (with_reducible assumption) | assumption); obtain ⟨i019, hi019, _, hsz19, _⟩ := info_parts info28; have hroom19 : l1.length ≤ c1 := HC1.out; have hC19 : Kd.C (Kd.int .u64) _ A1 l1.length l1 := HR1.out; have hcut19 := cut_to (P := Tryd.prog) 22 28 .i64 Tryd.underlying22 hi019 A1 l1.length c1 t301 (of_decide_eq_true (by first | (with_reducible assumption) | assumption)) q19 hroom19; have hr19 := Kd.C_take (m := (t301 : Int).toNat) hC19 (by omega); have hy19 : y302.length = (t301 : Int).toNat := (by rw [Ny302.out, List.length_take]; omega); rw [← Ny302.out] at hr19; rw [← hy19] at hcut19; have HR305 := Aside0.mk hr19; have HC305 := Aside0.mk (show y302.length ≤ c1 from by omega); clear hr19 hC19 hroom19 hi019 hsz19; have KY19 := Aside0.mk hy19; clear hy19; replace q19 := eq_true q19) | ((with_reducible refine gate_dst (N := 31) rfl ?_); refine Kd.R_make (Kd.int .u64) _ 28 rfl (N := 31) rfl 22 _ _ rfl (y297.length : Int) rfl rfl Tryd.underlying22 (.int .u64 0) 8 info28 rfl (by decide) (by omega) 0 (ok := fun _ => True) (okp := fun _ => True) rfl (fun _ hk => hk) trivial (of_decide_eq_true (by first | (with_reducible assumption) | assumption)) (Nat.le_trans (Nat.mul_le_mul_right _ (of_decide_eq_true (by first | (with_reducible assumption) | assumption) : (y297.length : Int).toNat ≤ 35184372088832)) (by omega)) (Below.refl _ _) (Nat.le_refl _) ?_; intro v307 w20 ho21 hb hg_ hnew_; clear hg_ hnew_; (first | rw [← Ny306.out] at ho21 | (simp only [Int.reduceToNat] at ho21; rw [← Ny306.out] at ho21)); have n0_ := Aside0.mk (Kd.R_lower (Kd.R_newM (M := fun k_ => (w.heap.size ≤ k_)) ho21 (below_size (by repeat (first | (with_reducible first | exact HB.out | apply below_alloc | apply pw_below_drewN | apply below_drew1) | exact HB.out))) (fun k_ h_ => h_)) (below_size (by repeat (first | (with_reducible first | exact HB.out | apply below_alloc | apply pw_below_drewN | apply below_drew1) | exact HB.out)))); have n1_ := Aside0.mk (below_step (by repeat (first | (with_reducible first | exact HB.out | apply below_alloc | apply pw_below_drewN | apply below_drew1) | exact HB.out)) hb); clear HB; have HO308 := n0_; have HB := n1_; clear n0_ n1_; clear hb ho21)))
                      go_loopg [7, 34] kj2 (fun kq v7 v34 w' => ∃ (x6_2 : List Int) (x7_2 : Int) (x34_2 : Int), v7 = .int .u64 x7_2 ∧ v34 = .int .i64 x34_2 ∧ Aside0 (nat_Sub.l0 kq y302 x6_2 x7_2 y297 (y297.length : Int) x34_2 = some (r1, r2)) ∧ Aside0 (kq ≤ kj2) ∧ Aside0 (Kd.R (Kd.int .u64) 28 w' w.heap.size (fun k_ => (w.heap.size ≤ k_)) v307 x6_2) ∧ Aside0 (Below w.heap.size w w'))
                      case atStart => exact ⟨(y306), (0), (0), (by first | rfl | (simp; done) | (simp [*]; done)), (by first | rfl | (simp; done) | (simp [*]; done)), H', ⟨Nat.le_refl _⟩, ⟨by (with_reducible repeat (first | apply Kd.R_alloc | apply Kd.R_drewN | apply Kd.R_drew)); exact Kd.R_mono HO308.out (fun _ hk => hk.1)⟩, ⟨by repeat (first | (with_reducible first | exact HB.out | apply below_alloc | apply pw_below_drewN | apply below_drew1) | exact HB.out)⟩⟩
                      case round =>
                        clear H'
                        try clear c1
                        try clear q1
                        try clear p2
                        try clear c5
                        try clear c7
                        try clear c9
                        try clear c9b0
                        try clear c11
                        try clear c11b0
                        try clear c11b1
                        try clear c12
                        try clear c12b0
                        try clear c12b1
                        try clear c14
                        try clear c14b0
                        try clear c14b1
                        try clear c15
                        try clear c15b0
                        try clear c15b1
                        try clear c16
                        try clear c16b0
                        try clear c16b1
                        try clear c17
                        try clear c17b0
                        try clear c17b1
                        try clear q18
                        try clear q19
                        try clear p2
                        try clear q18
                        try clear q19
                        obtain ⟨x6_2, x7_2, x34_2, rfl, rfl, HA, HK2, HO_6, HB⟩ := hrel
                        cases gk with
                        | zero => exact absurd HA.out (by simp [nat_Sub.l0])
                        | succ k2 =>
                          have H := HA.out
                          clear HA
                          simp only [nat_Sub.l0] at H
                          by_cases c22 : x34_2 < (y297.length : Int)
                          · rw [if_pos c22] at H
                            have c22b0 : decide (x34_2 < (y297.length : Int)) = true := decide_eq_true c22
                            clear c22
                            by_cases c23 : 0 ≤ x34_2
                            · rw [if_pos c23] at H
                              have c23b0 : decide (0 ≤ x34_2) = true := decide_eq_true c23
                              clear c23
                              by_cases c24 : x34_2 < (y297.length : Int)
                              · rw [if_pos c24] at H
                                have c24b0 : decide (x34_2 < (y297.length : Int)) = true := decide_eq_true c24
                                clear c24
                                by_cases c25 : x34_2 < (y302.length : Int)
                                · rw [if_pos c25] at H
                                  have c25b0 : decide (x34_2 < (y302.length : Int)) = true := decide_eq_true c25
                                  clear c25
                                  replace H := Option.bind_eq_some_iff.mp H
                                  obtain ⟨⟨t311, t312⟩, A260, H⟩ := H
                                  replace H : (if x34_2 < (x6_2.length : Int) then (nat_Sub.l0 k2 y302 (x6_2.set (x34_2 : Int).toNat t311) t312 y297 (y297.length : Int) (wrap64 (x34_2 + 1))) else (none)) = some (r1, r2) := H
                                  have A26 := Aside0.mk A260
                                  clear A260
                                  by_cases c27 : x34_2 < (x6_2.length : Int)
                                  · rw [if_pos c27] at H
                                    have c27b0 : decide (x34_2 < (x6_2.length : Int)) = true := decide_eq_true c27
                                    clear c27
                                    obtain ⟨y313, hy313⟩ : ∃ y_ : List Int, y_ = (x6_2.set (x34_2 : Int).toNat t311) := ⟨_, rfl⟩
                                    replace H : (nat_Sub.l0 k2 y302 y313 t312 y297 (y297.length : Int) (wrap64 (x34_2 + 1))) = some (r1, r2) := by first | (rw [hy313]; with_reducible exact H) | (have H2_ := (Option.bind_some _ _).symm.trans H; rw [hy313]; with_reducible exact H2_) | (have H2_ := (Option.bind_some _ _).symm.trans H; with_reducible exact H2_) | with_reducible exact H | (rw [hy313]; exact H) | exact H
                                    have Ny313 := Aside0.mk hy313
                                    clear hy313
                                    have H' := Aside0.mk H
                                    clear H
                                    have p309 : 0 ≤ (x34_2 : Int) := of_decide_eq_true (by first | (with_reducible assumption) | assumption)
                                    have q309 : x34_2 < (y297.length : Int) := of_decide_eq_true (by first | (with_reducible assumption) | assumption)
                                    obtain ⟨ad309, e309, hx309_0⟩ := Kd.at_int HR300.out x34_2 p309 q309
                                    cases e309
                                    replace hx309_0 := (HB.out.cell (World.block_lt_of_cell? w _ hx309_0)).trans hx309_0
                                    replace p309 := eq_true p309
                                    replace q309 := eq_true q309
                                    have p310 : 0 ≤ (x34_2 : Int) := of_decide_eq_true (by first | (with_reducible assumption) | assumption)
                                    have q310 : x34_2 < (y302.length : Int) := of_decide_eq_true (by first | (with_reducible assumption) | assumption)
                                    obtain ⟨ad310, e310, hx310_0⟩ := Kd.at_int HR305.out x34_2 p310 q310
                                    cases e310
                                    replace hx310_0 := (HB.out.cell (World.block_lt_of_cell? w _ hx310_0)).trans hx310_0
                                    replace p310 := eq_true p310
                                    replace q310 := eq_true q310
                                    go_wp2_with (first | ((with_reducible refine gate_callee (f := 84) rfl ?_); refine goesX_ (some 53) rfl rfl Tryd.func84 (by kernel_rfl) rfl #[.int .u64 (rd y297 x34_2), .int .u64 (rd y302 x34_2), .int .u64 x7_2] rfl (by (try simp only [List.map_toArray, List.map_cons, List.map_nil]); first | done | rfl | (simp only [List.length_drop, List.length_take]; rfl) | (simp only [gt_iff_lt, Int.natCast_pos]; done) | (simp only [gt_iff_lt, Int.natCast_pos]; rfl)) ?_; (with_reducible refine (bits_Sub64.calls (rd y297 x34_2) (rd y302 x34_2) x7_2 t311 t312 _ A26.out).mono ?_); rintro e w' ⟨rfl, rfl⟩; refine ⟨_, rfl, ?_⟩; have p28 : 0 ≤ (x34_2 : Int) := of_decide_eq_true (by first | (with_reducible assumption) | assumption); have q28 : (x34_2 : Int) < ((x6_2.length : Int) : Int) := of_decide_eq_true (by first | (with_reducible assumption) | assumption); obtain ⟨go28, co28, eo28, gb28, gl28, cl28, HG28⟩ := Kd.R_form HO_6.out (by omega); (first | cases eo28 | (injection eo28 with ea_ en_ ec_; (first | subst ea_ | (injection ea_ with ea_; subst ea_)); subst ec_; clear en_)); have GB28 := Aside0.mk gb28; have GG28 := Aside0.mk HG28; clear gb28 gl28 HG28; obtain ⟨hx28_0, hf28_0⟩ := Kd.R_celln 0 HO_6.out (x34_2 : Int) p28 q28; replace p28 := eq_true p28; replace q28 := eq_true q28; obtain ⟨hy29_, hz29_⟩ := Kd.R_celln 0 HO_6.out (x34_2 : Int) (of_decide_eq_true (by first | (with_reducible assumption) | assumption)) (of_decide_eq_true (by first | (with_reducible assumption) | assumption)); have HP29 := Kd.R_putg HO_6.out (x34_2 : Int) t311) | ((with_reducible refine gate_store (t := 28) (p := 56) rfl ?_); (try (rw [drewN_self wr]; generalize hq_ : World.drewN wr _ = wr; have n0_ := Aside0.mk (Kd.R_at hq_ HO_6.out); have n1_ := Aside0.mk (below_at hq_ HB.out); clear hq_ HO_6 HB; have HO_6 := n0_; have HB := n1_; clear n0_ n1_; (try (obtain ⟨hy29_, hz29_⟩ := Kd.R_celln 0 HO_6.out (x34_2 : Int) (of_decide_eq_true (by first | (with_reducible assumption) | assumption)) (of_decide_eq_true (by first | (with_reducible assumption) | assumption)))); (try (have HP29 := Kd.R_putg HO_6.out (x34_2 : Int) t311)))); refine store_event (t := 28) (p := 56) (v := ?vo_w30) (w1 := (wr.setCell ⟨go28, (x34_2 : Int).toNat, none⟩ (.int .u64 t311))) ?hg ?ho ?hn ?hr ?_; (case ho => rfl); (case hg => rfl); (case hn => rfl); (case hr => first | (go_simp; done) | (go_simp; rfl)); intro w30 hw; have hg : wr.grownBy w30 (some go28) := (by rw [hw]; exact HP29.2); have hp_ : Kd.R (Kd.int .u64) 28 w30 w.heap.size (fun k_ => (w.heap.size ≤ k_)) (.slice (some ⟨go28, 0, none⟩) x6_2.length co28) y313 := (by rw [hw, Ny313.out]; exact HP29.1); clear HP29; have n0_ := Aside0.mk (hp_); have n1_ := Aside0.mk ((by rw [hw]; exact below_set (HB.out) GB28.out : Below w.heap.size w w30)); clear HO_6; clear HB; have HO_6 := n0_; have HB := n1_; clear n0_ n1_; clear hg hw hp_))
                                    repeat (go_quiet (first | ((with_reducible refine gate_callee (f := 84) rfl ?_); refine goesX_ (some 53) rfl rfl Tryd.func84 (by kernel_rfl) rfl #[.int .u64 (rd y297 x34_2), .int .u64 (rd y302 x34_2), .int .u64 x7_2] rfl (by (try simp only [List.map_toArray, List.map_cons, List.map_nil]); first | done | rfl | (simp only [List.length_drop, List.length_take]; rfl) | (simp only [gt_iff_lt, Int.natCast_pos]; done) | (simp only [gt_iff_lt, Int.natCast_pos]; rfl)) ?_; (with_reducible refine (bits_Sub64.calls (rd y297 x34_2) (rd y302 x34_2) x7_2 t311 t312 _ A26.out).mono ?_); rintro e w' ⟨rfl, rfl⟩; refine ⟨_, rfl, ?_⟩; have p28 : 0 ≤ (x34_2 : Int) := of_decide_eq_true (by first | (with_reducible assumption) | assumption); have q28 : (x34_2 : Int) < ((x6_2.length : Int) : Int) := of_decide_eq_true (by first | (with_reducible assumption) | assumption); obtain ⟨go28, co28, eo28, gb28, gl28, cl28, HG28⟩ := Kd.R_form HO_6.out (by omega); (first | cases eo28 | (injection eo28 with ea_ en_ ec_; (first | subst ea_ | (injection ea_ with ea_; subst ea_)); subst ec_; clear en_)); have GB28 := Aside0.mk gb28; have GG28 := Aside0.mk HG28; clear gb28 gl28 HG28; obtain ⟨hx28_0, hf28_0⟩ := Kd.R_celln 0 HO_6.out (x34_2 : Int) p28 q28; replace p28 := eq_true p28; replace q28 := eq_true q28; obtain ⟨hy29_, hz29_⟩ := Kd.R_celln 0 HO_6.out (x34_2 : Int) (of_decide_eq_true (by first | (with_reducible assumption) | assumption)) (of_decide_eq_true (by first | (with_reducible assumption) | assumption)); have HP29 := Kd.R_putg HO_6.out (x34_2 : Int) t311) | ((with_reducible refine gate_store (t := 28) (p := 56) rfl ?_); (try (rw [drewN_self wr]; generalize hq_ : World.drewN wr _ = wr; have n0_ := Aside0.mk (Kd.R_at hq_ HO_6.out); have n1_ := Aside0.mk (below_at hq_ HB.out); clear hq_ HO_6 HB; have HO_6 := n0_; have HB := n1_; clear n0_ n1_; (try (obtain ⟨hy29_, hz29_⟩ := Kd.R_celln 0 HO_6.out (x34_2 : Int) (of_decide_eq_true (by first | (with_reducible assumption) | assumption)) (of_decide_eq_true (by first | (with_reducible assumption) | assumption)))); (try (have HP29 := Kd.R_putg HO_6.out (x34_2 : Int) t311)))); refine store_event (t := 28) (p := 56) (v := ?vo_w30) (w1 := (wr.setCell ⟨go28, (x34_2 : Int).toNat, none⟩ (.int .u64 t311))) ?hg ?ho ?hn ?hr ?_; (case ho => rfl); (case hg => rfl); (case hn => rfl); (case hr => first | (go_simp; done) | (go_simp; rfl)); intro w30 hw; have hg : wr.grownBy w30 (some go28) := (by rw [hw]; exact HP29.2); have hp_ : Kd.R (Kd.int .u64) 28 w30 w.heap.size (fun k_ => (w.heap.size ≤ k_)) (.slice (some ⟨go28, 0, none⟩) x6_2.length co28) y313 := (by rw [hw, Ny313.out]; exact HP29.1); clear HP29; have n0_ := Aside0.mk (hp_); have n1_ := Aside0.mk ((by rw [hw]; exact below_set (HB.out) GB28.out : Below w.heap.size w w30)); clear HO_6; clear HB; have HO_6 := n0_; have HB := n1_; clear n0_ n1_; clear hg hw hp_)); try go_wp2_with (first | ((with_reducible refine gate_callee (f := 84) rfl ?_); refine goesX_ (some 53) rfl rfl Tryd.func84 (by kernel_rfl) rfl #[.int .u64 (rd y297 x34_2), .int .u64 (rd y302 x34_2), .int .u64 x7_2] rfl (by (try simp only [List.map_toArray, List.map_cons, List.map_nil]); first | done | rfl | (simp only [List.length_drop, List.length_take]; rfl) | (simp only [gt_iff_lt, Int.natCast_pos]; done) | (simp only [gt_iff_lt, Int.natCast_pos]; rfl)) ?_; (with_reducible refine (bits_Sub64.calls (rd y297 x34_2) (rd y302 x34_2) x7_2 t311 t312 _ A26.out).mono ?_); rintro e w' ⟨rfl, rfl⟩; refine ⟨_, rfl, ?_⟩; have p28 : 0 ≤ (x34_2 : Int) := of_decide_eq_true (by first | (with_reducible assumption) | assumption); have q28 : (x34_2 : Int) < ((x6_2.length : Int) : Int) := of_decide_eq_true (by first | (with_reducible assumption) | assumption); obtain ⟨go28, co28, eo28, gb28, gl28, cl28, HG28⟩ := Kd.R_form HO_6.out (by omega); (first | cases eo28 | (injection eo28 with ea_ en_ ec_; (first | subst ea_ | (injection ea_ with ea_; subst ea_)); subst ec_; clear en_)); have GB28 := Aside0.mk gb28; have GG28 := Aside0.mk HG28; clear gb28 gl28 HG28; obtain ⟨hx28_0, hf28_0⟩ := Kd.R_celln 0 HO_6.out (x34_2 : Int) p28 q28; replace p28 := eq_true p28; replace q28 := eq_true q28; obtain ⟨hy29_, hz29_⟩ := Kd.R_celln 0 HO_6.out (x34_2 : Int) (of_decide_eq_true (by first | (with_reducible assumption) | assumption)) (of_decide_eq_true (by first | (with_reducible assumption) | assumption)); have HP29 := Kd.R_putg HO_6.out (x34_2 : Int) t311) | ((with_reducible refine gate_store (t := 28) (p := 56) rfl ?_); (try (rw [drewN_self wr]; generalize hq_ : World.drewN wr _ = wr; have n0_ := Aside0.mk (Kd.R_at hq_ HO_6.out); have n1_ := Aside0.mk (below_at hq_ HB.out); clear hq_ HO_6 HB; have HO_6 := n0_; have HB := n1_; clear n0_ n1_; (try (obtain ⟨hy29_, hz29_⟩ := Kd.R_celln 0 HO_6.out (x34_2 : Int) (of_decide_eq_true (by first | (with_reducible assumption) | assumption)) (of_decide_eq_true (by first | (with_reducible assumption) | assumption)))); (try (have HP29 := Kd.R_putg HO_6.out (x34_2 : Int) t311)))); refine store_event (t := 28) (p := 56) (v := ?vo_w30) (w1 := (wr.setCell ⟨go28, (x34_2 : Int).toNat, none⟩ (.int .u64 t311))) ?hg ?ho ?hn ?hr ?_; (case ho => rfl); (case hg => rfl); (case hn => rfl); (case hr => first | (go_simp; done) | (go_simp; rfl)); intro w30 hw; have hg : wr.grownBy w30 (some go28) := (by rw [hw]; exact HP29.2); have hp_ : Kd.R (Kd.int .u64) 28 w30 w.heap.size (fun k_ => (w.heap.size ≤ k_)) (.slice (some ⟨go28, 0, none⟩) x6_2.length co28) y313 := (by rw [hw, Ny313.out]; exact HP29.1); clear HP29; have n0_ := Aside0.mk (hp_); have n1_ := Aside0.mk ((by rw [hw]; exact below_set (HB.out) GB28.out : Below w.heap.size w w30)); clear HO_6; clear HB; have HO_6 := n0_; have HB := n1_; clear n0_ n1_; clear hg hw hp_)))
                                    go_roundg k2
                                    case measure => have := HJ2.out; have := HK2.out; omega
                                    case rel => exact ⟨(y313), (t312), (wrap64 (x34_2 + 1)), (by first | rfl | (have e_ := Option.some.inj (A10.out.symm.trans A13.out); cases e_; rfl) | (simp; done) | (simp [*]; done)), (by first | rfl | (have e_ := Option.some.inj (A10.out.symm.trans A13.out); cases e_; rfl) | (simp; done) | (simp [*]; done)), H', ⟨by have := HJ2.out; have := HK2.out; omega⟩, ⟨by (with_reducible repeat (first | apply Kd.R_alloc | apply Kd.R_drewN | apply Kd.R_drew)); exact HO_6.out⟩, ⟨by repeat (first | (with_reducible first | exact HB.out | apply below_alloc | apply pw_below_drewN | apply below_drew1) | exact HB.out)⟩⟩
                                  · rw [if_neg c27] at H
                                    exact absurd H (by simp)
                                · rw [if_neg c25] at H
                                  have c25b0 : decide (x34_2 < (y302.length : Int)) = false := decide_eq_false c25
                                  clear c25
                                  replace H := Option.bind_eq_some_iff.mp H
                                  obtain ⟨⟨t314, t315⟩, A310, H⟩ := H
                                  replace H : (if x34_2 < (x6_2.length : Int) then (nat_Sub.l0 k2 y302 (x6_2.set (x34_2 : Int).toNat t314) t315 y297 (y297.length : Int) (wrap64 (x34_2 + 1))) else (none)) = some (r1, r2) := H
                                  have A31 := Aside0.mk A310
                                  clear A310
                                  by_cases c32 : x34_2 < (x6_2.length : Int)
                                  · rw [if_pos c32] at H
                                    have c32b0 : decide (x34_2 < (x6_2.length : Int)) = true := decide_eq_true c32
                                    clear c32
                                    obtain ⟨y316, hy316⟩ : ∃ y_ : List Int, y_ = (x6_2.set (x34_2 : Int).toNat t314) := ⟨_, rfl⟩
                                    replace H : (nat_Sub.l0 k2 y302 y316 t315 y297 (y297.length : Int) (wrap64 (x34_2 + 1))) = some (r1, r2) := by first | (rw [hy316]; with_reducible exact H) | (have H2_ := (Option.bind_some _ _).symm.trans H; rw [hy316]; with_reducible exact H2_) | (have H2_ := (Option.bind_some _ _).symm.trans H; with_reducible exact H2_) | with_reducible exact H | (rw [hy316]; exact H) | exact H
                                    have Ny316 := Aside0.mk hy316
                                    clear hy316
                                    have H' := Aside0.mk H
                                    clear H
                                    have p309 : 0 ≤ (x34_2 : Int) := of_decide_eq_true (by first | (with_reducible assumption) | assumption)
                                    have q309 : x34_2 < (y297.length : Int) := of_decide_eq_true (by first | (with_reducible assumption) | assumption)
                                    obtain ⟨ad309, e309, hx309_0⟩ := Kd.at_int HR300.out x34_2 p309 q309
                                    cases e309
                                    replace hx309_0 := (HB.out.cell (World.block_lt_of_cell? w _ hx309_0)).trans hx309_0
                                    replace p309 := eq_true p309
                                    replace q309 := eq_true q309
                                    go_wp2_with (first | ((with_reducible refine gate_callee (f := 84) rfl ?_); refine goesX_ (some 53) rfl rfl Tryd.func84 (by kernel_rfl) rfl #[.int .u64 (rd y297 x34_2), .int .u64 0, .int .u64 x7_2] rfl (by (try simp only [List.map_toArray, List.map_cons, List.map_nil]); first | done | rfl | (simp only [List.length_drop, List.length_take]; rfl) | (simp only [gt_iff_lt, Int.natCast_pos]; done) | (simp only [gt_iff_lt, Int.natCast_pos]; rfl)) ?_; (with_reducible refine (bits_Sub64.calls (rd y297 x34_2) 0 x7_2 t314 t315 _ A31.out).mono ?_); rintro e w' ⟨rfl, rfl⟩; refine ⟨_, rfl, ?_⟩; have p33 : 0 ≤ (x34_2 : Int) := of_decide_eq_true (by first | (with_reducible assumption) | assumption); have q33 : (x34_2 : Int) < ((x6_2.length : Int) : Int) := of_decide_eq_true (by first | (with_reducible assumption) | assumption); obtain ⟨go33, co33, eo33, gb33, gl33, cl33, HG33⟩ := Kd.R_form HO_6.out (by omega); (first | cases eo33 | (injection eo33 with ea_ en_ ec_; (first | subst ea_ | (injection ea_ with ea_; subst ea_)); subst ec_; clear en_)); have GB33 := Aside0.mk gb33; have GG33 := Aside0.mk HG33; clear gb33 gl33 HG33; obtain ⟨hx33_0, hf33_0⟩ := Kd.R_celln 0 HO_6.out (x34_2 : Int) p33 q33; replace p33 := eq_true p33; replace q33 := eq_true q33; obtain ⟨hy34_, hz34_⟩ := Kd.R_celln 0 HO_6.out (x34_2 : Int) (of_decide_eq_true (by first | (with_reducible assumption) | assumption)) (of_decide_eq_true (by first | (with_reducible assumption) | assumption)); have HP34 := Kd.R_putg HO_6.out (x34_2 : Int) t314) | ((with_reducible refine gate_store (t := 28) (p := 56) rfl ?_); (try (rw [drewN_self wr]; generalize hq_ : World.drewN wr _ = wr; have n0_ := Aside0.mk (Kd.R_at hq_ HO_6.out); have n1_ := Aside0.mk (below_at hq_ HB.out); clear hq_ HO_6 HB; have HO_6 := n0_; have HB := n1_; clear n0_ n1_; (try (obtain ⟨hy34_, hz34_⟩ := Kd.R_celln 0 HO_6.out (x34_2 : Int) (of_decide_eq_true (by first | (with_reducible assumption) | assumption)) (of_decide_eq_true (by first | (with_reducible assumption) | assumption)))); (try (have HP34 := Kd.R_putg HO_6.out (x34_2 : Int) t314)))); refine store_event (t := 28) (p := 56) (v := ?vo_w35) (w1 := (wr.setCell ⟨go33, (x34_2 : Int).toNat, none⟩ (.int .u64 t314))) ?hg ?ho ?hn ?hr ?_; (case ho => rfl); (case hg => rfl); (case hn => rfl); (case hr => first | (go_simp; done) | (go_simp; rfl)); intro w35 hw; have hg : wr.grownBy w35 (some go33) := (by rw [hw]; exact HP34.2); have hp_ : Kd.R (Kd.int .u64) 28 w35 w.heap.size (fun k_ => (w.heap.size ≤ k_)) (.slice (some ⟨go33, 0, none⟩) x6_2.length co33) y316 := (by rw [hw, Ny316.out]; exact HP34.1); clear HP34; have n0_ := Aside0.mk (hp_); have n1_ := Aside0.mk ((by rw [hw]; exact below_set (HB.out) GB33.out : Below w.heap.size w w35)); clear HO_6; clear HB; have HO_6 := n0_; have HB := n1_; clear n0_ n1_; clear hg hw hp_))
                                    repeat (go_quiet (first | ((with_reducible refine gate_callee (f := 84) rfl ?_); refine goesX_ (some 53) rfl rfl Tryd.func84 (by kernel_rfl) rfl #[.int .u64 (rd y297 x34_2), .int .u64 0, .int .u64 x7_2] rfl (by (try simp only [List.map_toArray, List.map_cons, List.map_nil]); first | done | rfl | (simp only [List.length_drop, List.length_take]; rfl) | (simp only [gt_iff_lt, Int.natCast_pos]; done) | (simp only [gt_iff_lt, Int.natCast_pos]; rfl)) ?_; (with_reducible refine (bits_Sub64.calls (rd y297 x34_2) 0 x7_2 t314 t315 _ A31.out).mono ?_); rintro e w' ⟨rfl, rfl⟩; refine ⟨_, rfl, ?_⟩; have p33 : 0 ≤ (x34_2 : Int) := of_decide_eq_true (by first | (with_reducible assumption) | assumption); have q33 : (x34_2 : Int) < ((x6_2.length : Int) : Int) := of_decide_eq_true (by first | (with_reducible assumption) | assumption); obtain ⟨go33, co33, eo33, gb33, gl33, cl33, HG33⟩ := Kd.R_form HO_6.out (by omega); (first | cases eo33 | (injection eo33 with ea_ en_ ec_; (first | subst ea_ | (injection ea_ with ea_; subst ea_)); subst ec_; clear en_)); have GB33 := Aside0.mk gb33; have GG33 := Aside0.mk HG33; clear gb33 gl33 HG33; obtain ⟨hx33_0, hf33_0⟩ := Kd.R_celln 0 HO_6.out (x34_2 : Int) p33 q33; replace p33 := eq_true p33; replace q33 := eq_true q33; obtain ⟨hy34_, hz34_⟩ := Kd.R_celln 0 HO_6.out (x34_2 : Int) (of_decide_eq_true (by first | (with_reducible assumption) | assumption)) (of_decide_eq_true (by first | (with_reducible assumption) | assumption)); have HP34 := Kd.R_putg HO_6.out (x34_2 : Int) t314) | ((with_reducible refine gate_store (t := 28) (p := 56) rfl ?_); (try (rw [drewN_self wr]; generalize hq_ : World.drewN wr _ = wr; have n0_ := Aside0.mk (Kd.R_at hq_ HO_6.out); have n1_ := Aside0.mk (below_at hq_ HB.out); clear hq_ HO_6 HB; have HO_6 := n0_; have HB := n1_; clear n0_ n1_; (try (obtain ⟨hy34_, hz34_⟩ := Kd.R_celln 0 HO_6.out (x34_2 : Int) (of_decide_eq_true (by first | (with_reducible assumption) | assumption)) (of_decide_eq_true (by first | (with_reducible assumption) | assumption)))); (try (have HP34 := Kd.R_putg HO_6.out (x34_2 : Int) t314)))); refine store_event (t := 28) (p := 56) (v := ?vo_w35) (w1 := (wr.setCell ⟨go33, (x34_2 : Int).toNat, none⟩ (.int .u64 t314))) ?hg ?ho ?hn ?hr ?_; (case ho => rfl); (case hg => rfl); (case hn => rfl); (case hr => first | (go_simp; done) | (go_simp; rfl)); intro w35 hw; have hg : wr.grownBy w35 (some go33) := (by rw [hw]; exact HP34.2); have hp_ : Kd.R (Kd.int .u64) 28 w35 w.heap.size (fun k_ => (w.heap.size ≤ k_)) (.slice (some ⟨go33, 0, none⟩) x6_2.length co33) y316 := (by rw [hw, Ny316.out]; exact HP34.1); clear HP34; have n0_ := Aside0.mk (hp_); have n1_ := Aside0.mk ((by rw [hw]; exact below_set (HB.out) GB33.out : Below w.heap.size w w35)); clear HO_6; clear HB; have HO_6 := n0_; have HB := n1_; clear n0_ n1_; clear hg hw hp_)); try go_wp2_with (first | ((with_reducible refine gate_callee (f := 84) rfl ?_); refine goesX_ (some 53) rfl rfl Tryd.func84 (by kernel_rfl) rfl #[.int .u64 (rd y297 x34_2), .int .u64 0, .int .u64 x7_2] rfl (by (try simp only [List.map_toArray, List.map_cons, List.map_nil]); first | done | rfl | (simp only [List.length_drop, List.length_take]; rfl) | (simp only [gt_iff_lt, Int.natCast_pos]; done) | (simp only [gt_iff_lt, Int.natCast_pos]; rfl)) ?_; (with_reducible refine (bits_Sub64.calls (rd y297 x34_2) 0 x7_2 t314 t315 _ A31.out).mono ?_); rintro e w' ⟨rfl, rfl⟩; refine ⟨_, rfl, ?_⟩; have p33 : 0 ≤ (x34_2 : Int) := of_decide_eq_true (by first | (with_reducible assumption) | assumption); have q33 : (x34_2 : Int) < ((x6_2.length : Int) : Int) := of_decide_eq_true (by first | (with_reducible assumption) | assumption); obtain ⟨go33, co33, eo33, gb33, gl33, cl33, HG33⟩ := Kd.R_form HO_6.out (by omega); (first | cases eo33 | (injection eo33 with ea_ en_ ec_; (first | subst ea_ | (injection ea_ with ea_; subst ea_)); subst ec_; clear en_)); have GB33 := Aside0.mk gb33; have GG33 := Aside0.mk HG33; clear gb33 gl33 HG33; obtain ⟨hx33_0, hf33_0⟩ := Kd.R_celln 0 HO_6.out (x34_2 : Int) p33 q33; replace p33 := eq_true p33; replace q33 := eq_true q33; obtain ⟨hy34_, hz34_⟩ := Kd.R_celln 0 HO_6.out (x34_2 : Int) (of_decide_eq_true (by first | (with_reducible assumption) | assumption)) (of_decide_eq_true (by first | (with_reducible assumption) | assumption)); have HP34 := Kd.R_putg HO_6.out (x34_2 : Int) t314) | ((with_reducible refine gate_store (t := 28) (p := 56) rfl ?_); (try (rw [drewN_self wr]; generalize hq_ : World.drewN wr _ = wr; have n0_ := Aside0.mk (Kd.R_at hq_ HO_6.out); have n1_ := Aside0.mk (below_at hq_ HB.out); clear hq_ HO_6 HB; have HO_6 := n0_; have HB := n1_; clear n0_ n1_; (try (obtain ⟨hy34_, hz34_⟩ := Kd.R_celln 0 HO_6.out (x34_2 : Int) (of_decide_eq_true (by first | (with_reducible assumption) | assumption)) (of_decide_eq_true (by first | (with_reducible assumption) | assumption)))); (try (have HP34 := Kd.R_putg HO_6.out (x34_2 : Int) t314)))); refine store_event (t := 28) (p := 56) (v := ?vo_w35) (w1 := (wr.setCell ⟨go33, (x34_2 : Int).toNat, none⟩ (.int .u64 t314))) ?hg ?ho ?hn ?hr ?_; (case ho => rfl); (case hg => rfl); (case hn => rfl); (case hr => first | (go_simp; done) | (go_simp; rfl)); intro w35 hw; have hg : wr.grownBy w35 (some go33) := (by rw [hw]; exact HP34.2); have hp_ : Kd.R (Kd.int .u64) 28 w35 w.heap.size (fun k_ => (w.heap.size ≤ k_)) (.slice (some ⟨go33, 0, none⟩) x6_2.length co33) y316 := (by rw [hw, Ny316.out]; exact HP34.1); clear HP34; have n0_ := Aside0.mk (hp_); have n1_ := Aside0.mk ((by rw [hw]; exact below_set (HB.out) GB33.out : Below w.heap.size w w35)); clear HO_6; clear HB; have HO_6 := n0_; have HB := n1_; clear n0_ n1_; clear hg hw hp_)))
                                    go_roundg k2
                                    case measure => have := HJ2.out; have := HK2.out; omega
                                    case rel => exact ⟨(y316), (t315), (wrap64 (x34_2 + 1)), (by first | rfl | (have e_ := Option.some.inj (A10.out.symm.trans A13.out); cases e_; rfl) | (simp; done) | (simp [*]; done)), (by first | rfl | (have e_ := Option.some.inj (A10.out.symm.trans A13.out); cases e_; rfl) | (simp; done) | (simp [*]; done)), H', ⟨by have := HJ2.out; have := HK2.out; omega⟩, ⟨by (with_reducible repeat (first | apply Kd.R_alloc | apply Kd.R_drewN | apply Kd.R_drew)); exact HO_6.out⟩, ⟨by repeat (first | (with_reducible first | exact HB.out | apply below_alloc | apply pw_below_drewN | apply below_drew1) | exact HB.out)⟩⟩
                                  · rw [if_neg c32] at H
                                    exact absurd H (by simp)
                              · rw [if_neg c24] at H
                                exact absurd H (by simp)
                            · rw [if_neg c23] at H
                              exact absurd H (by simp)
                          · rw [if_neg c22] at H
                            have c22b0 : decide (x34_2 < (y297.length : Int)) = false := decide_eq_false c22
                            clear c22
                            replace H := Option.bind_eq_some_iff.mp H
                            obtain ⟨⟨t317, t320⟩, A360, H⟩ := H
                            replace H : (some (t317, t320)) = some (r1, r2) := H
                            have A36 := Aside0.mk A360
                            clear A360
                            simp only [Option.some.injEq, Prod.mk.injEq] at H
                            obtain ⟨rfl, rfl⟩ := H
                            obtain ⟨Ao37, co37, eo37⟩ := Kd.R_slice HO_6.out
                            subst eo37
                            go_wp2_with (first | (go_at_call 56; (with_reducible refine (nat_cut.calls k2 (fun k_ => some k_ = (.slice Ao37 x6_2.length co37 : Value).ownBlock) _ _ x6_2 t317 t320 _ ?side1 A36.out).mono ?_); (case side1 => exact Kd.R_V (Kd.R_tight rfl (HO_6.out))); rintro e w38 ⟨v318, rfl, ho0, hb⟩; have n0_ := Aside0.mk (Kd.R_below (by (with_reducible repeat (first | apply Kd.R_alloc | apply Kd.R_drewN | apply Kd.R_drew)); exact HO_6.out) hb); have n1_ := Aside0.mk (Kd.V_lower (Kd.V_mono (ok' := fun k_ => (w.heap.size ≤ k_)) ho0 (fun k_ hk_ => Or.elim hk_ (fun hs_ => ((HO_6.out).1 k_ hs_.symm)) (fun hn_ => (Nat.le_trans (below_size (by repeat (first | (with_reducible first | exact HB.out | apply below_alloc | apply pw_below_drewN | apply below_drew1) | exact HB.out))) hn_)))) (below_size (by repeat (first | (with_reducible first | exact HB.out | apply below_alloc | apply pw_below_drewN | apply below_drew1) | exact HB.out)))); have n2_ := Aside0.mk (below_step (by repeat (first | (with_reducible first | exact HB.out | apply below_alloc | apply pw_below_drewN | apply below_drew1) | exact HB.out)) hb); clear HO_6; clear HB; have HO_6 := n0_; have HO319 := n1_; have HB := n2_; clear n0_ n1_ n2_; (try clear hb); (try clear hb2); (try clear hk); (try clear hi); (try clear ho0)))
                            repeat (go_quiet (first | (go_at_call 56; (with_reducible refine (nat_cut.calls k2 (fun k_ => some k_ = (.slice Ao37 x6_2.length co37 : Value).ownBlock) _ _ x6_2 t317 t320 _ ?side1 A36.out).mono ?_); (case side1 => exact Kd.R_V (Kd.R_tight rfl (HO_6.out))); rintro e w38 ⟨v318, rfl, ho0, hb⟩; have n0_ := Aside0.mk (Kd.R_below (by (with_reducible repeat (first | apply Kd.R_alloc | apply Kd.R_drewN | apply Kd.R_drew)); exact HO_6.out) hb); have n1_ := Aside0.mk (Kd.V_lower (Kd.V_mono (ok' := fun k_ => (w.heap.size ≤ k_)) ho0 (fun k_ hk_ => Or.elim hk_ (fun hs_ => ((HO_6.out).1 k_ hs_.symm)) (fun hn_ => (Nat.le_trans (below_size (by repeat (first | (with_reducible first | exact HB.out | apply below_alloc | apply pw_below_drewN | apply below_drew1) | exact HB.out))) hn_)))) (below_size (by repeat (first | (with_reducible first | exact HB.out | apply below_alloc | apply pw_below_drewN | apply below_drew1) | exact HB.out)))); have n2_ := Aside0.mk (below_step (by repeat (first | (with_reducible first | exact HB.out | apply below_alloc | apply pw_below_drewN | apply below_drew1) | exact HB.out)) hb); clear HO_6; clear HB; have HO_6 := n0_; have HO319 := n1_; have HB := n2_; clear n0_ n1_ n2_; (try clear hb); (try clear hb2); (try clear hk); (try clear hi); (try clear ho0))); try go_wp2_with (first | (go_at_call 56; (with_reducible refine (nat_cut.calls k2 (fun k_ => some k_ = (.slice Ao37 x6_2.length co37 : Value).ownBlock) _ _ x6_2 t317 t320 _ ?side1 A36.out).mono ?_); (case side1 => exact Kd.R_V (Kd.R_tight rfl (HO_6.out))); rintro e w38 ⟨v318, rfl, ho0, hb⟩; have n0_ := Aside0.mk (Kd.R_below (by (with_reducible repeat (first | apply Kd.R_alloc | apply Kd.R_drewN | apply Kd.R_drew)); exact HO_6.out) hb); have n1_ := Aside0.mk (Kd.V_lower (Kd.V_mono (ok' := fun k_ => (w.heap.size ≤ k_)) ho0 (fun k_ hk_ => Or.elim hk_ (fun hs_ => ((HO_6.out).1 k_ hs_.symm)) (fun hn_ => (Nat.le_trans (below_size (by repeat (first | (with_reducible first | exact HB.out | apply below_alloc | apply pw_below_drewN | apply below_drew1) | exact HB.out))) hn_)))) (below_size (by repeat (first | (with_reducible first | exact HB.out | apply below_alloc | apply pw_below_drewN | apply below_drew1) | exact HB.out)))); have n2_ := Aside0.mk (below_step (by repeat (first | (with_reducible first | exact HB.out | apply below_alloc | apply pw_below_drewN | apply below_drew1) | exact HB.out)) hb); clear HO_6; clear HB; have HO_6 := n0_; have HO319 := n1_; have HB := n2_; clear n0_ n1_ n2_; (try clear hb); (try clear hb2); (try clear hk); (try clear hi); (try clear ho0))))
                            go_ret2
                            exact ⟨_, by first | rfl | (simp [errW_none, errW_some] <;> rfl) | (simp [*, errW_none, errW_some] <;> rfl), by (with_reducible repeat (first | apply Kd.V_alloc | apply Kd.V_drewN | apply Kd.V_drew)); exact HO319.out, by repeat (first | (with_reducible first | exact HB.out | apply below_alloc | apply pw_below_drewN | apply below_drew1) | exact HB.out)⟩
                    · rw [if_neg c17] at H
                      exact absurd H (by simp)
                  · rw [if_neg c16] at H
                    exact absurd H (by simp)
                · rw [if_neg c15] at H
                  exact absurd H (by simp)
              · rw [if_neg c14] at H
                exact absurd H (by simp)
            · rw [if_neg c12] at H
              exact absurd H (by simp)
          · rw [if_neg c11] at H
            exact absurd H (by simp)

end Go.Proofs.YtiigfmmflicdpaaDoor.PN
