-- printed by a program
import Derived.Test.YtegollbojafekaaDoorPSx0
import Derived.Test.YtegollbojafekaaDoorPSx1
import Derived.Test.YtegollbojafekaaDoorPSx2
import Derived.Test.YtegollbojafekaaDoorPSx3
import Derived.Test.YtegollbojafekaaDoorPSx4
namespace Go.Proofs.YtegollbojafekaaDoor.PS
open Go.Proofs.YtegollbojafekaaDoorX
open Go.RowKit Go.Proofs.YtegollbojafekaaDoorW.PrintWords Go.Proofs.YtegollbojafekaaDoorW.PrintLast Go.Proofs.YtegollbojafekaaDoorW.PrintMore
attribute [local go_sem] max2_int min2_int max_two min_two max_three min_three max_four min_four   -- for this text's walks alone
set_option linter.unusedVariables false
set_option linter.unusedSimpArgs false

/-! ### quot_long: function 37 (its contract by hand) -/
open Go.Proofs.YtegollbojafekaaDoor.Lib Go.Proofs.YtegollbojafekaaDoor.LongL in
/-- What is asked of the callees, at these lists. -/
structure quot_long.Good (l0 l1 : List Int) (k : Nat) (s : Int) (v u : List Int) (lost : Bool) (er : Int) : Prop where
  n2 : 2 ≤ l1.length
  nm : l1.length ≤ l0.length
  mx : l0.length ≤ 4096
  lz : bits_LeadingZeros64.f (rd l1 ((l1.length : Int) - 1)) = some s
  rv : quot_raised.f k l1 s (l1.length : Int) = some v
  ru : quot_raised.f k l0 s ((l0.length : Int) + 1) = some u
  vl : v.length = l1.length
  ul : u.length = l0.length + 1
  vo : ok v
  uo : ok u
  vb : 9223372036854775808 * B (l1.length - 1) ≤ val v
  ub : val u < 9223372036854775808 * B l0.length
  gs : ∀ part, part.length = l1.length + 1 → ok part → val part < 18446744073709551616 * val v → ∃ k' d, quot_guess.f k' part v = some d ∧ 0 ≤ d ∧ d < 18446744073709551616 ∧ val part < (d.toNat + 1) * val v
  sh : nat_Shr.f k (fixl l1.length (val u % val v)) s = some (lim (val l0 % val l1), lost, er)
  tr : nat_Trim.f k (fixl (l0.length - l1.length + 1) (val u / val v)) = some (lim (val l0 / val l1))
open Go.Proofs.YtegollbojafekaaDoor.Lib Classical in
noncomputable def quot_long.f (l0 l1 : List Int) : Option (List Int × List Int) := if ∃ k s v u lost er, quot_long.Good l0 l1 k s v u lost er then some (lim (val l0 / val l1), lim (val l0 % val l1)) else none
set_option maxHeartbeats 4000000 in
set_option maxRecDepth 100000 in
open Go.Proofs.YtegollbojafekaaDoor.Lib Go.Proofs.YtegollbojafekaaDoor.LongL in
theorem quot_long.calls (A0 : Option Addr) (c0 : Nat) (l0 : List Int) (A1 : Option Addr) (c1 : Nat) (l1 : List Int) (r1 : List Int) (r2 : List Int) (w : World) (hT : Kd.C (Kd.int .u8) w (some ⟨2, 0, none⟩) 64 tabL) (hr0 : Kd.C (Kd.int .u64) w A0 l0.length l0) (hc0 : l0.length ≤ c0) (hr1 : Kd.C (Kd.int .u64) w A1 l1.length l1) (hc1 : l1.length ≤ c1) (h : quot_long.f l0 l1 = some (r1, r2)) :
    Calls Tryd.prog 37 #[.slice A0 l0.length c0, .slice A1 l1.length c1] w fun e w' => ∃ v0_ v1_ : Value, e = .returned (.tuple #[v0_, v1_]) ∧ Kd.V (Kd.int .u64) 27 w' w.heap.size (fun k_ => (w.heap.size ≤ k_)) v0_ r1 ∧ Kd.V (Kd.int .u64) 27 w' w.heap.size (fun k_ => (w.heap.size ≤ k_)) v1_ r2 ∧ Below w.heap.size w w' := by
  unfold quot_long.f at h
  split at h
  · rename_i hg
    obtain ⟨k, s, v, u, lost, er, G⟩ := hg
    simp only [Option.some.injEq, Prod.mk.injEq] at h
    obtain ⟨rfl, rfl⟩ := h
    have n2 := G.n2
    have nm := G.nm
    have mx := G.mx
    obtain ⟨n, hn⟩ : ∃ n, n = l1.length := ⟨_, rfl⟩
    obtain ⟨q1, e1, hx1⟩ := Kd.at_int hr1 ((l1.length : Int) - 1) (by omega) (by omega)
    have HG := Aside0.mk G
    have HT0 := Aside0.mk hT
    have HR0 := Aside0.mk hr0
    have HC0 := Aside0.mk hc0
    have HR1 := Aside0.mk hr1
    have HC1 := Aside0.mk hc1
    have HB := Aside0.mk (Below.refl w.heap.size w)
    have p1 : 0 ≤ ((l1.length : Int) - 1) := by omega
    have p2 : ((l1.length : Int) - 1) < (l1.length : Int) := by omega
    obtain ⟨x, hx⟩ : ∃ x, x = rd l1 ((l1.length : Int) - 1) := ⟨_, rfl⟩
    rw [← hx, show ((l1.length : Int) - 1).toNat = l1.length - 1 by omega] at hx1
    have P3 : (1 ≤ (l1.length : Int)) = True := eq_true (by omega)
    have HX := Aside0.mk hx
    subst e1
    have P1 := eq_true p1
    have P2 := eq_true p2
    clear hT hr0 hc0 hr1 hc1 hx p1 p2 G
    go_enter Tryd.func37, Tryd.ntmps37
    go_wp2
    apply wp_scope_straight
    have N1 := Aside0.mk nm
    have N2 := Aside0.mk n2
    have N3 := Aside0.mk mx
    have NN := Aside0.mk hn
    have pz0 : 0 ≤ ((l0.length : Int) - (l1.length : Int) + 1) := by omega
    have PZ0 := eq_true pz0
    have hmm : (((l0.length : Int) - (l1.length : Int) + 1).toNat) = l0.length - l1.length + 1 := by omega
    have HMM := Aside0.mk hmm
    have mx1 : (l1.length : Int) ≤ 4096 := by omega
    have mx0 : (l0.length : Int) ≤ 4096 := by omega
    clear nm n2 mx hn hmm pz0
    go_wp2_with (first
      | (go_at_call 61; (with_reducible refine (bits_LeadingZeros64.calls x s _ (by rw [HX.out]; exact HG.out.lz)).mono ?_); rintro e w' ⟨rfl, ⟨nd, rfl⟩⟩)
      | ((with_reducible refine gate_callee (f := 62) rfl ?_); refine goesL_ (some 29) rfl rfl Tryd.func62 (by kernel_rfl) rfl #[.slice (some q1) l1.length c1, .int .i64 s, .int .i64 l1.length] rfl (by (try simp only [List.map_toArray, List.map_cons, List.map_nil]); first | done | rfl) ?_; (with_reducible refine (quot_raised.calls k _ _ l1 s l1.length v _ ?sa HC1.out HG.out.rv).mono ?_); (case sa => first | exact HR1.out | exact Kd.C_drewN HR1.out _); rintro e w1 ⟨vv, rfl, hv, hb⟩; refine ⟨_, rfl, ?_⟩; have B1 := Aside0.mk (below_step (by first | exact HB.out | exact pw_below_drewN HB.out _) hb); have HV := Aside0.mk hv; clear HB hb hv)
      | ((with_reducible refine gate_callee (f := 62) rfl ?_); refine goesL_ (some 35) rfl rfl Tryd.func62 (by kernel_rfl) rfl #[.slice A0 l0.length c0, .int .i64 s, .int .i64 ((l0.length : Int) + 1)] rfl (by (try simp only [List.map_toArray, List.map_cons, List.map_nil]); first | done | rfl) ?_; (with_reducible refine (quot_raised.calls k _ _ l0 s _ u _ ?sa HC0.out HG.out.ru).mono ?_); (case sa => exact Kd.C_below HR0.out B1.out); rintro e w2 ⟨vu, rfl, hu, hb⟩; refine ⟨_, rfl, ?_⟩; have B2 := Aside0.mk (below_step B1.out hb); have HU := Aside0.mk hu; have HV2 := Aside0.mk (Kd.R_below HV.out hb); have S1 := Aside0.mk (Kd.R_lt HV.out); clear B1 HV hb hu)
      | ((with_reducible refine gate_dst (N := 41) rfl ?_); refine Kd.R_make (Kd.int .u64) _ 27 rfl (N := 41) rfl 22 _ _ rfl ((l0.length : Int) - (l1.length : Int) + 1) rfl rfl Tryd.underlying22 (.int .u64 0) 8 info27 rfl (by decide) (by omega) 0 (ok := fun _ => True) (okp := fun _ => True) rfl (fun _ hk => hk) trivial (of_eq_true PZ0) (by rw [HMM.out]; have := N3.out; omega) (Below.refl _ _) (Nat.le_refl _) ?_; intro vq w3 hq hb hg_ hnew_; clear hg_ hnew_; rw [HMM.out] at hq; have B3 := Aside0.mk (below_step B2.out hb); have HQ := Aside0.mk hq; have HV3 := Aside0.mk (Kd.R_below HV2.out hb); have HU3 := Aside0.mk (Kd.R_below HU.out hb); have S2 := Aside0.mk (Kd.R_lt HU.out); clear B2 HV2 HU hb hq))
    obtain ⟨gv, cv, rfl, gv0, cv0, BV⟩ := Blk.of_R HV3.out (by rw [HG.out.vl]; have := N2.out; omega)
    obtain ⟨gu, cu, rfl, gu0, cu0, BU⟩ := Blk.of_R HU3.out (by rw [HG.out.ul]; omega)
    obtain ⟨gq, cq, rfl, gq0, cq0, BQ⟩ := Blk.of_R HQ.out (by rw [List.length_replicate]; omega)
    have ngvu : gv ≠ gu := by have := S1.out gv rfl; omega
    have ngvq : gv ≠ gq := by have := S1.out gv rfl; have := B3.out.size; have := S2.out gu rfl; omega
    have nguq : gu ≠ gq := by have := S2.out gu rfl; omega
    have gvw : w.heap.size ≤ gv := gv0
    have guw : w.heap.size ≤ gu := by have := S1.out gv rfl; omega
    have gqw : w.heap.size ≤ gq := by have := S2.out gu rfl; omega
    obtain ⟨m, hm⟩ : ∃ m, m = l0.length - l1.length + 1 := ⟨_, rfl⟩
    have hmq : (List.replicate (l0.length - l1.length + 1) (0 : Int)).length = m := by rw [List.length_replicate, hm]
    rw [hmq] at cq0 ⊢
    rw [← hm] at BQ
    have n1 := N1.out
    have n2 := N2.out
    have n3 := N3.out
    have L0 := Aside0.mk (Lg.start (U := val u) (V := val v) (n := l1.length) (m := m) (by rw [HG.out.ul]; omega) HG.out.uo rfl (by omega) HG.out.vb (by have h := HG.out.ub; rw [show m + l1.length - 1 = l0.length by omega]; exact h))
    have hVB : val v < B l1.length := by have h := val_lt HG.out.vo; rw [HG.out.vl] at h; exact h
    have hV0 : 0 < val v := by have h := HG.out.vb; have h2 := B_pos (l1.length - 1); omega
    have hm9 : m ≤ 4096 := by omega
    have hm0 : 0 < m := by omega
    have HVB := Aside0.mk hVB
    have HV0 := Aside0.mk hV0
    have HM := Aside0.mk hm
    have HM9 := Aside0.mk hm9
    have BV := Aside0.mk BV
    have HVM := Aside0.mk (show v.length ≤ 140737488351232 by rw [HG.out.vl]; omega)
    have BU := Aside0.mk BU
    have BQ := Aside0.mk BQ
    have hul : l1.length + m ≤ cu := by have h := HG.out.ul; omega
    have HUL := Aside0.mk hul
    have CV0 := Aside0.mk cv0
    have CU0 := Aside0.mk cu0
    have CQ0 := Aside0.mk cq0
    have NG := Aside0.mk (And.intro ngvu (And.intro ngvq nguq))
    have GW := Aside0.mk (And.intro gvw (And.intro guw gqw))
    have mb : (m : Int) ≤ 4096 := by omega
    clear hVB hV0 hm hm9 hmq cv0 cu0 cq0 hul n1 n2 n3 ngvu ngvq nguq gvw guw gqw gv0 gu0 gq0 HV3 HU3 HQ S1 S2 hm0 HMM PZ0
    apply wp_label
    go_wp2
    go_loopg [11] m (fun kq v11 w' => ∃ (xi : Int) (us qs : List Int), v11 = .int .i64 xi ∧ Aside0 (xi = (kq : Int) - 1) ∧ Aside0 (kq ≤ m) ∧ Aside0 (Lg (val u) (val v) l1.length m kq us qs) ∧ Aside0 (Blk w' gu 27 us) ∧ Aside0 (Blk w' gq 27 qs) ∧ Aside0 (Blk w' gv 27 v) ∧ Aside0 (Below w.heap.size w w'))
    case atStart => exact ⟨_, u, _, rfl, ⟨rfl⟩, ⟨Nat.le_refl _⟩, L0, BU, BQ, BV, B3⟩
    case round =>
      clear L0 BU BQ BV B3
      obtain ⟨xi, us, qs, rfl, HI, HK, L, BU, BQ, BV, HB⟩ := hrel
      have hi := HI.out
      have hk := HK.out
      cases gk with
      | zero =>
        have d1 : decide (0 ≤ xi) = false := decide_eq_false (by omega)
        have d2 : (0 ≤ xi) = False := eq_false (by omega)
        obtain ⟨f1, f2⟩ := L.out.finish (Nat.le_of_lt HVB.out) HV0.out
        have n1 := N1.out
        have n2 := N2.out
        have n3 := N3.out
        have hus := L.out.ul
        have hqs := L.out.ql
        have m9 := HM9.out
        obtain ⟨fx, hfx⟩ : ∃ fx, fx = fixl l1.length (val u % val v) := ⟨_, rfl⟩
        have hfu : us.take l1.length = fx := by rw [hfx, ← f2]; exact fixl_of (ok_take L.out.uo _) (by rw [List.length_take]; omega)
        have hfl : ((l1.length : Int)).toNat = fx.length := by rw [hfx, fixl_len]; omega
        obtain ⟨i0, hi0, _, hsz, _⟩ := info_parts info27
        have hcut := cut_to (P := Tryd.prog) 22 27 .i64 Tryd.underlying22 hi0 (some ⟨gu, 0, none⟩) u.length cu (l1.length : Int) (by omega) (by rw [HG.out.ul]; omega) CU0.out
        rw [hfl] at hcut
        have hC := BU.out.win 0 l1.length (by omega) (by omega)
        rw [List.drop_zero, hfu] at hC
        have HSH := HG.out.sh
        rw [← hfx] at HSH
        have HTR := HG.out.tr
        have hqf : qs = fixl (l0.length - l1.length + 1) (val u / val v) := by rw [← f1]; exact fixl_of L.out.qo (by rw [hqs]; exact HM.out)
        rw [← hqf] at HTR
        have hfc : fx.length ≤ cu := by rw [← hfl]; have := HUL.out; omega
        have hCq := BQ.out.win 0 qs.length (by omega) (by omega)
        rw [List.drop_zero, List.take_length] at hCq
        have TR : Aside0 (∀ W : World, Kd.C (Kd.int .u64) W (some ⟨gq, 0, none⟩) qs.length qs → Calls Tryd.prog 59 #[.slice (some ⟨gq, 0, none⟩) m cq] W (fun e w' => ∃ v0_, e = .returned v0_ ∧ Kd.R (Kd.int .u64) 27 w' W.heap.size (fun _ => True) v0_ (lim (val l0 / val l1)) ∧ Below W.heap.size W w')) := ⟨by
          intro W hC
          have := nat_Trim.calls k (some _) cq qs (lim (val l0 / val l1)) W hC (by rw [hqs]; exact CQ0.out) HTR
          rwa [hqs] at this⟩
        have HC9 := Aside0.mk hC
        have HS9 := Aside0.mk HSH
        have HF9 := Aside0.mk hfc
        have HQ9 := Aside0.mk hCq
        have HTb := Aside0.mk (Kd.C_below HT0.out HB.out)
        clear f1 f2 hus hqs hfx hfu hfl hi0 hsz hC HSH HTR hqf hfc hCq n1 n2 n3 m9 hi hk
        go_wp2_with (first
          | ((with_reducible refine gate_callee (f := 47) rfl ?_); refine goesL_ (some 80) rfl rfl Tryd.func47 (by kernel_rfl) rfl #[.slice (some ⟨gu, 0, none⟩) fx.length cu, .int .i64 s] rfl (by (try simp only [List.map_toArray, List.map_cons, List.map_nil]); first | done | rfl) ?_; (with_reducible refine (nat_Shr.calls k _ _ fx s _ lost er _ HTb.out HC9.out HF9.out HS9.out).mono ?_); rintro e w4 ⟨vr, rfl, hr, hb⟩; refine ⟨_, rfl, ?_⟩; have B4 := Aside0.mk (below_step HB.out hb); have HR4 := Aside0.mk (Kd.V_mono (ok' := fun k_ => w.heap.size ≤ k_) hr (fun k_ hk_ => Nat.le_trans HB.out.size hk_)); have HQ4 := Aside0.mk (Kd.C_below HQ9.out hb); clear hb hr)
          | ((with_reducible refine gate_callee (f := 59) rfl ?_); refine goesL_ (some 85) rfl rfl Tryd.func59 (by kernel_rfl) rfl #[.slice (some ⟨gq, 0, none⟩) m cq] rfl (by (try simp only [List.map_toArray, List.map_cons, List.map_nil]); first | done | rfl) ?_; (with_reducible refine (TR.out _ HQ4.out).mono ?_); rintro e w5 ⟨vt, rfl, ht, hb⟩; refine ⟨_, rfl, ?_⟩; have B5 := Aside0.mk (below_step B4.out hb); have HR5 := Aside0.mk (Kd.V_below HR4.out hb); have HT5 := Aside0.mk ht; clear hb ht))
        rw [Exit.noGoto_ret]
        go_ret2
        exact ⟨vt, vr, rfl, Kd.R_V (Kd.R_mono (Kd.R_bound HT5.out) (fun k_ hk_ => Nat.le_trans B4.out.size hk_.2.1)), HR5.out, B5.out⟩
      | succ k1 =>
        have d1 : decide (0 ≤ xi) = true := decide_eq_true (by omega)
        have d2 : 0 ≤ xi := by omega
        have n1 := N1.out
        have n2 := N2.out
        have n3 := N3.out
        have m9 := HM9.out
        have hus := L.out.ul
        have hqs := L.out.ql
        have hx1' : xi = (k1 : Int) := by omega
        have hx9 : xi ≤ 4096 := by omega
        obtain ⟨i0, hi0, _, hsz, _⟩ := info_parts info27
        have hcu := HUL.out
        have hcut := cut_win (P := Tryd.prog) 22 27 .i64 .i64 Tryd.underlying22 hi0 hsz ⟨gu, 0, none⟩ u.length cu xi (xi + (l1.length : Int) + 1) (by omega) (by omega) (by omega)
        obtain ⟨ap, hap⟩ : ∃ ap, ap = (⟨gu, 0, none⟩ : Addr).add xi.toNat := ⟨_, rfl⟩
        obtain ⟨pt, hpt⟩ : ∃ pt, pt = (us.drop k1).take (l1.length + 1) := ⟨_, rfl⟩
        have hpl : pt.length = l1.length + 1 := by rw [hpt, List.length_take, List.length_drop]; omega
        obtain ⟨cp, hcp⟩ : ∃ cp, cp = cu - xi.toNat := ⟨_, rfl⟩
        rw [← hap, ← hcp, show (xi + (l1.length : Int) + 1).toNat - xi.toNat = pt.length by omega] at hcut
        have hap' : ap = ⟨gu, k1, none⟩ := by rw [hap, add_plain, hx1', Int.toNat_natCast]
        have hPC : Kd.C (Kd.int .u64) wr (some ap) pt.length pt := by
          have h := BU.out.win k1 (l1.length + 1) (by omega) (by omega)
          rw [← hpt] at h
          rw [hap']
          exact h
        have hpo : ok pt := by rw [hpt]; exact ok_take (ok_drop L.out.uo _) _
        obtain ⟨we, wl⟩ := L.out.win_eq (Nat.le_of_lt HVB.out) (by omega)
        have hwv : win us k1 (l1.length + 1) = val pt := by rw [hpt]; rfl
        obtain ⟨kg, dg, hgd, hg0, hg1, hg2⟩ := HG.out.gs pt hpl hpo (by rw [← hwv]; exact wl)
        have hpc : pt.length ≤ cp := by omega
        have HPC := Aside0.mk hPC
        have HPL := Aside0.mk hpl
        have HCP := Aside0.mk hpc
        have HGD := Aside0.mk hgd
        have HD0 := Aside0.mk (And.intro hg0 hg1)
        have HD2 := Aside0.mk (show win us k1 (l1.length + 1) < (dg.toNat + 1) * val v by rw [hwv]; exact hg2)
        have HAP := Aside0.mk hap'
        have HXK := Aside0.mk hx1'
        have HUS := Aside0.mk (show k1 + l1.length < us.length by omega)
        have HKM := Aside0.mk (show k1 < m by omega)
        have hNE : Aside0 (∀ a, some (⟨gv, 0, none⟩ : Addr) = some a → a.block ≠ gu) := ⟨fun a ha => by injection ha with ha; rw [← ha]; exact NG.out.1⟩
        clear n1 n2 n3 m9 hus hqs hx1' hi0 hsz hap hpt hpl hcp hap' hPC hpo we wl hwv hgd hg0 hg1 hg2 hpc hcu hi hk
        go_wp2_with (first
          | ((with_reducible refine gate_callee (f := 63) rfl ?_); refine goesL_ (some 58) rfl rfl Tryd.func63 (by kernel_rfl) rfl #[.slice (some ap) pt.length cp, .slice (some ⟨gv, 0, none⟩) v.length cv] rfl (by (try simp only [List.map_toArray, List.map_cons, List.map_nil]); first | done | rfl) ?_; (with_reducible refine (quot_guess.calls kg _ _ pt _ _ v dg _ HPC.out HCP.out (BV.out.full HVM.out) CV0.out HGD.out).mono ?_); rintro e w' ⟨rfl, ⟨nd, rfl⟩⟩; refine ⟨_, rfl, ?_⟩)
          | ((with_reducible refine gate_callee (f := 64) rfl ?_); refine goesL_ (some 62) rfl rfl Tryd.func64 (by kernel_rfl) rfl #[.slice (some ap) pt.length cp, .slice (some ⟨gv, 0, none⟩) v.length cv, .int .u64 dg] rfl (by (try simp only [List.map_toArray, List.map_cons, List.map_nil]); first | done | rfl) ?_; (with_reducible refine (quot_takeOff.calls _ ap gu k1 l1.length pt.length cp us v _ cv dg HAP.out HPL.out (BU.out.drewN _) (Kd.C_drewN (BV.out.full HVM.out) _) hNE.out HG.out.vl HUS.out L.out.uo HG.out.vo HD0.out HVM.out).mono ?_); rintro e w4 ⟨ys, b, rfl, hT, hB, hG⟩; refine ⟨_, rfl, ?_⟩; have T4 := Aside0.mk hT; have B4 := Aside0.mk hB; have G4 := Aside0.mk (grown_trans (grown_drewN _ _ _) hG); clear hT hB hG))
        have D0 := Aside0.mk (Dg.start L.out rfl HD0.out HV0.out HD2.out T4.out)
        clear HPC HGD HD2 T4
        go_loopg [13, 14] dg.toNat (fun kd v13 v14 w' => ∃ (d : Int) (neg : Bool) (zs : List Int), v13 = .int .u64 d ∧ v14 = .bool neg ∧ Aside0 (d.toNat = kd) ∧ Aside0 (Dg (val u) (val v) l1.length m k1 us qs zs d neg) ∧ Aside0 (Blk w' gu 27 zs) ∧ Aside0 (wr.grownBy w' (some gu)))
        case atStart => exact ⟨dg, _, ys, rfl, rfl, ⟨rfl⟩, D0, B4, G4⟩
        case round =>
          clear D0 B4 G4
          obtain ⟨d, neg, zs, rfl, rfl, HD, D, BZ, GZ⟩ := hrel
          cases neg with
          | false =>
            have BQ2 := Aside0.mk (BQ.out.kept GZ.out (by intro h; injection h with h; exact NG.out.2.2 h.symm))
            have BV2 := Aside0.mk (BV.out.kept GZ.out (by intro h; injection h with h; exact NG.out.1 h))
            have HB2 := Aside0.mk (HB.out.grown GZ.out HB.out.size (fun k_ hk_ => by injection hk_ with hk_; rw [← hk_]; exact GW.out.2.1))
            have hq3 : xi < (m : Int) := by have := HXK.out; have := HKM.out; omega
            obtain ⟨hc, hf⟩ := BQ2.out.at_ k1 (by rw [L.out.ql]; exact HKM.out)
            have hkx : xi.toNat = k1 := by rw [HXK.out, Int.toNat_natCast]
            obtain ⟨X, hX⟩ : ∃ X, X = rd qs (k1 : Int) := ⟨_, rfl⟩
            rw [← hX, ← hkx] at hc
            rw [← hkx] at hf
            have HKX := Aside0.mk hkx
            have hL := Aside0.mk (L.out.step (Nat.le_of_lt HVB.out) HV0.out HKM.out D.out)
            have hw8 : wrap64 (xi - 1) = xi - 1 := by unfold wrap64; omega
            have P8 := BQ2.out.put k1 d (by rw [L.out.ql]; exact HKM.out)
            rw [← hkx] at P8
            have PB := Aside0.mk P8.1
            have PG := Aside0.mk P8.2
            have HW8 := Aside0.mk hw8
            clear hkx hX P8 hw8
            go_wp2
            go_roundg k1
            case measure => omega
            case rel =>
              refine ⟨xi - 1, zs, _, by first | rfl | (rw [HW8.out]), ⟨by have := HXK.out; omega⟩, ⟨by have := HKM.out; omega⟩, hL, ⟨BZ.out.kept PG.out (by intro h; injection h with h; exact NG.out.2.2 h)⟩, ⟨by have h := PB.out; rw [HKX.out] at h ⊢; exact h⟩, ⟨BV2.out.kept PG.out (by intro h; injection h with h; exact NG.out.2.1 h)⟩, ⟨?_⟩⟩
              exact HB2.out.grown PG.out HB2.out.size (fun k_ hk_ => by injection hk_ with hk_; rw [← hk_]; exact GW.out.2.2)
          | true =>
            have d1 := D.out.pos HV0.out
            have d9 := D.out.d0
            have hd := HD.out
            cases gk with
            | zero => omega
            | succ k2 =>
              have BV2 := Aside0.mk (BV.out.kept GZ.out (by intro h; injection h with h; exact NG.out.1 h))
              have hw8 : IntKind.u64.wrap (d - 1) = d - 1 := by rw [IntKind.wrap_u64]; omega
              have HW8 := Aside0.mk hw8
              have hzl := Aside0.mk (show k1 + l1.length < zs.length by rw [D.out.len]; exact HUS.out)
              clear hw8 hd
              go_wp2_with (first
                | ((with_reducible refine gate_callee (f := 65) rfl ?_); refine goesL_ (some 73) rfl rfl Tryd.func65 (by kernel_rfl) rfl #[.slice (some ap) pt.length cp, .slice (some ⟨gv, 0, none⟩) v.length cv] rfl (by (try simp only [List.map_toArray, List.map_cons, List.map_nil]); first | done | rfl) ?_; (with_reducible refine (quot_putBack.calls _ ap gu k1 l1.length pt.length cp zs v _ cv HAP.out HPL.out BZ.out (BV2.out.full HVM.out) hNE.out HG.out.vl hzl.out D.out.uo HG.out.vo HVM.out).mono ?_); rintro e w5 ⟨us5, c5, rfl, hT, hB, hG⟩; refine ⟨_, rfl, ?_⟩; have T5 := Aside0.mk hT; have B5 := Aside0.mk hB; have G5 := Aside0.mk (grown_trans GZ.out hG); clear hT hB hG))
              go_roundg k2
              case measure => omega
              case rel => exact ⟨d - 1, !(c5 != 0), us5, by first | rfl | (rw [HW8.out]), rfl, ⟨by have := HD.out; omega⟩, ⟨(D.out.back rfl HV0.out T5.out).2⟩, B5, G5⟩
  · exact absurd h (by simp)

/-! ### quot_DivMod: function 10 -/
noncomputable def quot_DivMod.j0 : Nat → List Int → List Int → Bool → Option (List Int × List Int × Int)
  | 0, _, _, _ => none
  | k + 1, x7, x9, x26 => if x26 = true then (some (([] : List Int), ([] : List Int), 2)) else (if (x9.length : Int) = 0 then (some (([] : List Int), ([] : List Int), 4)) else ((nat_Cmp.f k x7 x9).bind fun t184 => (if t184 < 0 then (some (([] : List Int), x7, 0)) else (if (x9.length : Int) = 1 then (if 0 < (x9.length : Int) then ((nat_DivSmall.f k x7 (rd x9 0)).bind fun bt186 => ((nat_FromUint.f bt186.2.1).bind fun t191 => (some (bt186.1, t191, bt186.2.2)))) else (none)) else ((quot_long.f x7 x9).bind fun bt194 => (some (bt194.1, bt194.2, 0)))))))
noncomputable def quot_DivMod.f (k : Nat) (l0 : List Int) (l1 : List Int) : Option (List Int × List Int × Int) := (quot_small.f k l0 4096).bind fun bt176 => ((quot_small.f k l1 4096).bind fun bt180 => (if bt176.2 = true then (quot_DivMod.j0 k bt176.1 bt180.1 (!bt180.2)) else (quot_DivMod.j0 k bt176.1 bt180.1 true)))
theorem quot_DivMod.mono_l : ∀ k, (∀ y0 y1 y2, LeO (quot_DivMod.j0 k y0 y1 y2) (quot_DivMod.j0 (k + 1) y0 y1 y2))
  | 0 => fun _ _ _ r h => by simp [quot_DivMod.j0] at h
  | k + 1 => by
    have ih0 := quot_DivMod.mono_l k
    · intro y0 y1 y2
      unfold quot_DivMod.j0
      repeat' first
      | (with_reducible exact ih0 _ _ _)
      | (with_reducible exact nat_Cmp.mono _ _ _)
      | (with_reducible exact nat_DivSmall.mono _ _ _)
      | (with_reducible exact quot_small.mono _ _ _)
      | (with_reducible exact LeO.refl _)
      | (with_reducible exact LeO.none _)
      | (with_reducible refine LeO.ite ?_ ?_)
      | (with_reducible refine LeO.bind ?_ (fun _ => ?_))
      | exact ih0 _ _ _
      | exact nat_Cmp.mono _ _ _
      | exact nat_DivSmall.mono _ _ _
      | exact quot_small.mono _ _ _
      | exact LeO.none _
      | refine LeO.ite ?_ ?_
      | refine LeO.bind ?_ (fun _ => ?_)
theorem quot_DivMod.mono : ∀ a0 a1 k, LeO (quot_DivMod.f k a0 a1) (quot_DivMod.f (k + 1) a0 a1) := by
  intro a0 a1 k
  have ih0 := quot_DivMod.mono_l k
  unfold quot_DivMod.f
  repeat' first
      | (with_reducible exact ih0 _ _ _)
      | (with_reducible exact nat_Cmp.mono _ _ _)
      | (with_reducible exact nat_DivSmall.mono _ _ _)
      | (with_reducible exact quot_small.mono _ _ _)
      | (with_reducible exact LeO.refl _)
      | (with_reducible exact LeO.none _)
      | (with_reducible refine LeO.ite ?_ ?_)
      | (with_reducible refine LeO.bind ?_ (fun _ => ?_))
      | exact ih0 _ _ _
      | exact nat_Cmp.mono _ _ _
      | exact nat_DivSmall.mono _ _ _
      | exact quot_small.mono _ _ _
      | exact LeO.none _
      | refine LeO.ite ?_ ?_
      | refine LeO.bind ?_ (fun _ => ?_)
set_option maxHeartbeats 8000000 in
set_option maxRecDepth 100000 in
theorem quot_DivMod.calls (k : Nat) (A0 : Option Addr) (c0 : Nat) (l0 : List Int) (A1 : Option Addr) (c1 : Nat) (l1 : List Int) (r1 : List Int) (r2 : List Int) (r3 : Int) (w : World) (hT : Kd.C (Kd.int .u8) w (some ⟨2, 0, none⟩) 64 tabL) (hr0 : Kd.C (Kd.int .u64) w A0 l0.length l0) (hc0 : l0.length ≤ c0) (hr1 : Kd.C (Kd.int .u64) w A1 l1.length l1) (hc1 : l1.length ≤ c1) (h : quot_DivMod.f k l0 l1 = some (r1, r2, r3)) :
    Calls Tryd.prog 10 #[.slice A0 l0.length c0, .slice A1 l1.length c1] w fun e w' => ∃ v0_ v1_ : Value, e = .returned (.tuple #[v0_, v1_, .int .i64 r3]) ∧ Kd.V (Kd.int .u64) 27 w' w.heap.size (fun k_ => (w.heap.size ≤ k_)) v0_ r1 ∧ Kd.V (Kd.int .u64) 27 w' w.heap.size (fun k_ => (w.heap.size ≤ k_)) v1_ r2 ∧ Below w.heap.size w w' := by
  have HT := Aside0.mk hT
  clear hT
  have HR0 := Aside0.mk hr0
  have HC0 := Aside0.mk hc0
  clear hr0 hc0
  have HR1 := Aside0.mk hr1
  have HC1 := Aside0.mk hc1
  clear hr1 hc1
  have HB := Aside0.mk (Below.refl w.heap.size w)
  have H : ((quot_small.f k l0 4096).bind fun bt176 => ((quot_small.f k l1 4096).bind fun bt180 => (if bt176.2 = true then (quot_DivMod.j0 k bt176.1 bt180.1 (!bt180.2)) else (quot_DivMod.j0 k bt176.1 bt180.1 true)))) = some (r1, r2, r3) := h
  clear h
  replace H := Option.bind_eq_some_iff.mp H
  obtain ⟨⟨t176, t177⟩, A30, H⟩ := H
  replace H : ((quot_small.f k l1 4096).bind fun bt180 => (if t177 = true then (quot_DivMod.j0 k t176 bt180.1 (!bt180.2)) else (quot_DivMod.j0 k t176 bt180.1 true))) = some (r1, r2, r3) := H
  have A3 := Aside0.mk A30
  clear A30
  replace H := Option.bind_eq_some_iff.mp H
  obtain ⟨⟨t180, t181⟩, A40, H⟩ := H
  replace H : (if t177 = true then (quot_DivMod.j0 k t176 t180 (!t181)) else (quot_DivMod.j0 k t176 t180 true)) = some (r1, r2, r3) := H
  have A4 := Aside0.mk A40
  clear A40
  have HC5 := Aside0.mk H
  clear H
  go_enter Tryd.func10, Tryd.ntmps10
  go_upto_region 3 with (first | ((with_reducible refine gate_callee (f := 34) rfl ?_); refine goesL_ (some 18) rfl rfl Tryd.func34 (by kernel_rfl) rfl #[.slice A0 l0.length c0, .int .i64 4096] rfl (by (try simp only [List.map_toArray, List.map_cons, List.map_nil]); first | done | rfl | (simp only [List.length_drop, List.length_take]; rfl) | (simp only [gt_iff_lt, Int.natCast_pos]; done) | (simp only [gt_iff_lt, Int.natCast_pos]; rfl)) ?_; (with_reducible refine (quot_small.calls k _ _ l0 4096 t176 t177 _ ?side1 ?side2 A3.out).mono ?_); (case side1 => repeat (first | exact HR0.out | (with_reducible refine Kd.C_alloc ?_ _) | (with_reducible refine Kd.C_drewN ?_ _) | (with_reducible refine Kd.C_drew ?_))); (case side2 => exact HC0.out); rintro e w6 ⟨v178, rfl, ho0, hb⟩; refine ⟨_, rfl, ?_⟩; have n0_ := Aside0.mk (Kd.R_lower (Kd.R_newM (M := fun k_ => (w.heap.size ≤ k_)) ho0 (below_size (by repeat (first | (with_reducible first | exact HB.out | apply below_alloc | apply pw_below_drewN | apply below_drew1) | exact HB.out))) (fun k_ h_ => h_)) (below_size (by repeat (first | (with_reducible first | exact HB.out | apply below_alloc | apply pw_below_drewN | apply below_drew1) | exact HB.out)))); have n1_ := Aside0.mk (below_step (by repeat (first | (with_reducible first | exact HB.out | apply below_alloc | apply pw_below_drewN | apply below_drew1) | exact HB.out)) hb); clear HB; have HO179 := n0_; have HB := n1_; clear n0_ n1_; (try clear hb); (try clear hb2); (try clear hk); (try clear hi); (try clear ho0)) | ((with_reducible refine gate_callee (f := 34) rfl ?_); refine goesL_ (some 23) rfl rfl Tryd.func34 (by kernel_rfl) rfl #[.slice A1 l1.length c1, .int .i64 4096] rfl (by (try simp only [List.map_toArray, List.map_cons, List.map_nil]); first | done | rfl | (simp only [List.length_drop, List.length_take]; rfl) | (simp only [gt_iff_lt, Int.natCast_pos]; done) | (simp only [gt_iff_lt, Int.natCast_pos]; rfl)) ?_; (with_reducible refine (quot_small.calls k _ _ l1 4096 t180 t181 _ ?side1 ?side2 A4.out).mono ?_); (case side1 => repeat (first | exact (Kd.C_below HR1.out HB.out) | (with_reducible refine Kd.C_alloc ?_ _) | (with_reducible refine Kd.C_drewN ?_ _) | (with_reducible refine Kd.C_drew ?_))); (case side2 => exact HC1.out); rintro e w7 ⟨v182, rfl, ho0, hb⟩; refine ⟨_, rfl, ?_⟩; have n0_ := Aside0.mk (Kd.R_elder' (by (with_reducible repeat (first | apply Kd.R_alloc | apply Kd.R_drewN | apply Kd.R_drew)); exact HO179.out) (Kd.R_base ho0) hb); have n1_ := Aside0.mk (Kd.R_lower (Kd.R_new' (Kd.R_newM (M := fun k_ => (w.heap.size ≤ k_)) ho0 (below_size (by repeat (first | (with_reducible first | exact HB.out | apply below_alloc | apply pw_below_drewN | apply below_drew1) | exact HB.out))) (fun k_ h_ => h_)) (Kd.R_lt (by (with_reducible repeat (first | apply Kd.R_alloc | apply Kd.R_drewN | apply Kd.R_drew)); exact HO179.out))) (below_size (by repeat (first | (with_reducible first | exact HB.out | apply below_alloc | apply pw_below_drewN | apply below_drew1) | exact HB.out)))); have n2_ := Aside0.mk (below_step (by repeat (first | (with_reducible first | exact HB.out | apply below_alloc | apply pw_below_drewN | apply below_drew1) | exact HB.out)) hb); clear HO179; clear HB; have HO179 := n0_; have HO183 := n1_; have HB := n2_; clear n0_ n1_ n2_; (try clear hb); (try clear hb2); (try clear hk); (try clear hi); (try clear ho0)))
  (try simp only [Act.put, List.setIfInBounds_toArray, List.set_cons_zero, List.set_cons_succ])
  go_cut [26] (fun v26 wc => ∃ (kq : Nat) (x26_4 : Bool), v26 = .bool x26_4 ∧ Aside0 (quot_DivMod.j0 kq t176 t180 x26_4 = some (r1, r2, r3)) ∧ Aside0 (kq ≤ k) ∧ Aside0 (Kd.R (Kd.int .u64) 27 wc w.heap.size (fun k_ => (w.heap.size ≤ k_) ∧ some k_ ≠ (v182 : Value).ownBlock) v178 t176) ∧ Aside0 (Kd.R (Kd.int .u64) 27 wc w.heap.size (fun k_ => (w.heap.size ≤ k_) ∧ some k_ ≠ (v178 : Value).ownBlock) v182 t180) ∧ Aside0 (Below w.heap.size w wc))
  case first =>
    have H := HC5.out
    clear HC5
    by_cases c8 : t177 = true
    · subst c8
      have H1 : (quot_DivMod.j0 k t176 t180 (!t181)) = some (r1, r2, r3) := by rw [if_pos rfl] at H; exact H
      clear H
      have H := H1
      clear H1
      have H' := Aside0.mk H
      clear H
      go_wp2
      go_meet
      case rel => exact ⟨_, (!t181), (by first | rfl | (simp; done) | (simp [*]; done)), H', ⟨by first | omega | exact Nat.le_refl _⟩, ⟨by (with_reducible repeat (first | apply Kd.R_alloc | apply Kd.R_drewN | apply Kd.R_drew)); exact Kd.R_mono HO179.out (fun _ hk => ⟨hk.1.1, hk.2⟩)⟩, ⟨by (with_reducible repeat (first | apply Kd.R_alloc | apply Kd.R_drewN | apply Kd.R_drew)); exact Kd.R_mono HO183.out (fun _ hk => ⟨hk.1.1, hk.2⟩)⟩, ⟨by repeat (first | (with_reducible first | exact HB.out | apply below_alloc | apply pw_below_drewN | apply below_drew1) | exact HB.out)⟩⟩
    · replace c8 := Bool.eq_false_iff.mpr c8
      subst c8
      have H1 : (quot_DivMod.j0 k t176 t180 true) = some (r1, r2, r3) := by rw [if_neg (show ¬ (false = true) by decide)] at H; exact H
      clear H
      have H := H1
      clear H1
      have H' := Aside0.mk H
      clear H
      go_wp2
      go_meet
      case rel => exact ⟨_, (true), (by first | rfl | (simp; done) | (simp [*]; done)), H', ⟨by first | omega | exact Nat.le_refl _⟩, ⟨by (with_reducible repeat (first | apply Kd.R_alloc | apply Kd.R_drewN | apply Kd.R_drew)); exact Kd.R_mono HO179.out (fun _ hk => ⟨hk.1.1, hk.2⟩)⟩, ⟨by (with_reducible repeat (first | apply Kd.R_alloc | apply Kd.R_drewN | apply Kd.R_drew)); exact Kd.R_mono HO183.out (fun _ hk => ⟨hk.1.1, hk.2⟩)⟩, ⟨by repeat (first | (with_reducible first | exact HB.out | apply below_alloc | apply pw_below_drewN | apply below_drew1) | exact HB.out)⟩⟩
  case rest =>
    clear HC5
    try clear c1
    try clear p2
    try clear c3
    try clear c8
    obtain ⟨kq, x26_4, rfl, HA, HJ4, HO_7, HO_9, HB⟩ := hcut
    cases kq with
    | zero => exact absurd HA.out (by simp [quot_DivMod.j0])
    | succ kj4 =>
      have H := HA.out
      clear HA
      simp only [quot_DivMod.j0] at H
      by_cases c9 : x26_4 = true
      · subst c9
        have H1 : (some (([] : List Int), ([] : List Int), 2)) = some (r1, r2, r3) := by rw [if_pos rfl] at H; exact H
        clear H
        have H := H1
        clear H1
        simp only [Option.some.injEq, Prod.mk.injEq] at H
        obtain ⟨rfl, rfl, rfl⟩ := H
        go_wp2
        go_ret3
        exact ⟨.slice none 0 0, .slice none 0 0, by first | rfl | (simp [errW_none, errW_some] <;> rfl) | (simp [*, errW_none, errW_some] <;> rfl), Kd.V_nil _ _ _ _ _, Kd.V_nil _ _ _ _ _, by repeat (first | (with_reducible first | exact HB.out | apply below_alloc | apply pw_below_drewN | apply below_drew1) | exact HB.out)⟩
      · replace c9 := Bool.eq_false_iff.mpr c9
        subst c9
        have H1 : (if (t180.length : Int) = 0 then (some (([] : List Int), ([] : List Int), 4)) else ((nat_Cmp.f kj4 t176 t180).bind fun t184 => (if t184 < 0 then (some (([] : List Int), t176, 0)) else (if (t180.length : Int) = 1 then (if 0 < (t180.length : Int) then ((nat_DivSmall.f kj4 t176 (rd t180 0)).bind fun bt186 => ((nat_FromUint.f bt186.2.1).bind fun t191 => (some (bt186.1, t191, bt186.2.2)))) else (none)) else ((quot_long.f t176 t180).bind fun bt194 => (some (bt194.1, bt194.2, 0))))))) = some (r1, r2, r3) := by rw [if_neg (show ¬ (false = true) by decide)] at H; exact H
        clear H
        have H := H1
        clear H1
        by_cases c10 : (t180.length : Int) = 0
        · rw [if_pos c10] at H
          have c10b0 : ((t180.length : Int) == 0) = true := beq_iff_eq.mpr c10
          have c10b1 : ((t180.length : Int) != 0) = false := bne_eq_false_iff_eq.mpr c10
          clear c10
          simp only [Option.some.injEq, Prod.mk.injEq] at H
          obtain ⟨rfl, rfl, rfl⟩ := H
          obtain ⟨Ao11, co11, eo11⟩ := Kd.R_slice HO_9.out
          subst eo11
          go_wp2
          go_ret3
          exact ⟨.slice none 0 0, .slice none 0 0, by first | rfl | (simp [errW_none, errW_some] <;> rfl) | (simp [*, errW_none, errW_some] <;> rfl), Kd.V_nil _ _ _ _ _, Kd.V_nil _ _ _ _ _, by repeat (first | (with_reducible first | exact HB.out | apply below_alloc | apply pw_below_drewN | apply below_drew1) | exact HB.out)⟩
        · rw [if_neg c10] at H
          have c10b0 : ((t180.length : Int) == 0) = false := beq_eq_false_iff_ne.mpr c10
          have c10b1 : ((t180.length : Int) != 0) = true := bne_iff_ne.mpr c10
          have c10b2 : ¬ (t180 = []) := fun h_ => c10 (by rw [h_]; rfl)
          replace H := Option.bind_eq_some_iff.mp H
          obtain ⟨t184, A120, H⟩ := H
          replace H : (if t184 < 0 then (some (([] : List Int), t176, 0)) else (if (t180.length : Int) = 1 then (if 0 < (t180.length : Int) then ((nat_DivSmall.f kj4 t176 (rd t180 0)).bind fun bt186 => ((nat_FromUint.f bt186.2.1).bind fun t191 => (some (bt186.1, t191, bt186.2.2)))) else (none)) else ((quot_long.f t176 t180).bind fun bt194 => (some (bt194.1, bt194.2, 0))))) = some (r1, r2, r3) := H
          have A12 := Aside0.mk A120
          clear A120
          by_cases c13 : t184 < 0
          · rw [if_pos c13] at H
            have c13b0 : decide (t184 < 0) = true := decide_eq_true c13
            clear c13
            simp only [Option.some.injEq, Prod.mk.injEq] at H
            obtain ⟨rfl, rfl, rfl⟩ := H
            obtain ⟨Ao14, co14, eo14⟩ := Kd.R_slice HO_9.out
            subst eo14
            obtain ⟨Ao15, co15, eo15⟩ := Kd.R_slice HO_7.out
            subst eo15
            go_wp2_with (first | ((with_reducible refine gate_callee (f := 16) rfl ?_); refine goesL_ (some 40) rfl rfl Tryd.func16 (by kernel_rfl) rfl #[.slice Ao15 t176.length co15, .slice Ao14 t180.length co14] rfl (by (try simp only [List.map_toArray, List.map_cons, List.map_nil]); first | done | rfl | (simp only [List.length_drop, List.length_take]; rfl) | (simp only [gt_iff_lt, Int.natCast_pos]; done) | (simp only [gt_iff_lt, Int.natCast_pos]; rfl)) ?_; (with_reducible refine (nat_Cmp.calls kj4 _ _ t176 _ _ t180 t184 _ ?side1 ?side2 ?side3 ?side4 A12.out).mono ?_); (case side1 => repeat (first | exact (Kd.R_reads' HO_7.out).2.2 | (with_reducible refine Kd.C_alloc ?_ _) | (with_reducible refine Kd.C_drewN ?_ _) | (with_reducible refine Kd.C_drew ?_))); (case side2 => exact (Kd.R_reads' HO_7.out).2.1); (case side3 => repeat (first | exact (Kd.R_reads' HO_9.out).2.2 | (with_reducible refine Kd.C_alloc ?_ _) | (with_reducible refine Kd.C_drewN ?_ _) | (with_reducible refine Kd.C_drew ?_))); (case side4 => exact (Kd.R_reads' HO_9.out).2.1); rintro e w' ⟨rfl, ⟨nd, rfl⟩⟩; refine ⟨_, rfl, ?_⟩))
            go_ret3
            exact ⟨.slice none 0 0, _, by first | rfl | (simp [errW_none, errW_some] <;> rfl) | (simp [*, errW_none, errW_some] <;> rfl), Kd.V_nil _ _ _ _ _, Kd.R_V (by (with_reducible repeat (first | apply Kd.R_alloc | apply Kd.R_drewN | apply Kd.R_drew)); exact Kd.R_mono HO_7.out (fun _ hk => hk.1)), by repeat (first | (with_reducible first | exact HB.out | apply below_alloc | apply pw_below_drewN | apply below_drew1) | exact HB.out)⟩
          · rw [if_neg c13] at H
            have c13b0 : decide (t184 < 0) = false := decide_eq_false c13
            clear c13
            by_cases c16 : (t180.length : Int) = 1
            · rw [if_pos c16] at H
              have c16b0 : ((t180.length : Int) == 1) = true := beq_iff_eq.mpr c16
              have c16b1 : ((t180.length : Int) != 1) = false := bne_eq_false_iff_eq.mpr c16
              clear c16
              by_cases c17 : 0 < (t180.length : Int)
              · rw [if_pos c17] at H
                have c17b0 : decide (0 < (t180.length : Int)) = true := decide_eq_true c17
                have c17b1 : decide (0 < t180.length) = true := decide_eq_true (by omega)
                clear c17
                replace H := Option.bind_eq_some_iff.mp H
                obtain ⟨⟨t186, t189, t190⟩, A180, H⟩ := H
                replace H : ((nat_FromUint.f t189).bind fun t191 => (some (t186, t191, t190))) = some (r1, r2, r3) := H
                have A18 := Aside0.mk A180
                clear A180
                replace H := Option.bind_eq_some_iff.mp H
                obtain ⟨t191, A190, H⟩ := H
                replace H : (some (t186, t191, t190)) = some (r1, r2, r3) := H
                have A19 := Aside0.mk A190
                clear A190
                simp only [Option.some.injEq, Prod.mk.injEq] at H
                obtain ⟨rfl, rfl, rfl⟩ := H
                obtain ⟨Ao20, co20, eo20⟩ := Kd.R_slice HO_9.out
                subst eo20
                obtain ⟨Ao21, co21, eo21⟩ := Kd.R_slice HO_7.out
                subst eo21
                go_wp2_with (first | ((with_reducible refine gate_callee (f := 16) rfl ?_); refine goesL_ (some 40) rfl rfl Tryd.func16 (by kernel_rfl) rfl #[.slice Ao21 t176.length co21, .slice Ao20 t180.length co20] rfl (by (try simp only [List.map_toArray, List.map_cons, List.map_nil]); first | done | rfl | (simp only [List.length_drop, List.length_take]; rfl) | (simp only [gt_iff_lt, Int.natCast_pos]; done) | (simp only [gt_iff_lt, Int.natCast_pos]; rfl)) ?_; (with_reducible refine (nat_Cmp.calls kj4 _ _ t176 _ _ t180 t184 _ ?side1 ?side2 ?side3 ?side4 A12.out).mono ?_); (case side1 => repeat (first | exact (Kd.R_reads' HO_7.out).2.2 | (with_reducible refine Kd.C_alloc ?_ _) | (with_reducible refine Kd.C_drewN ?_ _) | (with_reducible refine Kd.C_drew ?_))); (case side2 => exact (Kd.R_reads' HO_7.out).2.1); (case side3 => repeat (first | exact (Kd.R_reads' HO_9.out).2.2 | (with_reducible refine Kd.C_alloc ?_ _) | (with_reducible refine Kd.C_drewN ?_ _) | (with_reducible refine Kd.C_drew ?_))); (case side4 => exact (Kd.R_reads' HO_9.out).2.1); rintro e w' ⟨rfl, ⟨nd, rfl⟩⟩; refine ⟨_, rfl, ?_⟩; have p185 : 0 ≤ (0 : Int) := (by omega); have q185 : 0 < (t180.length : Int) := of_decide_eq_true (by first | (with_reducible assumption) | assumption); obtain ⟨ad185, e185, hx185_0⟩ := Kd.at_int (Kd.R_reads' HO_9.out).2.2 0 p185 q185; cases e185; have qi185 : (0 < t180.length) = True := eq_true (by omega); (try rw [show ((0 : Int)).toNat = 0 from rfl] at hx185_0); (try rw [Addr.add_zero'] at hx185_0); replace p185 := eq_true p185; replace q185 := eq_true q185) | ((with_reducible refine gate_callee (f := 35) rfl ?_); refine goesL_ (some 52) rfl rfl Tryd.func35 (by kernel_rfl) rfl #[.slice Ao21 t176.length co21, .int .u64 (rd t180 0)] rfl (by (try simp only [List.map_toArray, List.map_cons, List.map_nil]); first | done | rfl | (simp only [List.length_drop, List.length_take]; rfl) | (simp only [gt_iff_lt, Int.natCast_pos]; done) | (simp only [gt_iff_lt, Int.natCast_pos]; rfl)) ?_; (with_reducible refine (nat_DivSmall.calls kj4 _ _ t176 (rd t180 0) t186 t189 t190 _ ?side1 ?side2 A18.out).mono ?_); (case side1 => repeat (first | exact (Kd.R_reads' HO_7.out).2.2 | (with_reducible refine Kd.C_alloc ?_ _) | (with_reducible refine Kd.C_drewN ?_ _) | (with_reducible refine Kd.C_drew ?_))); (case side2 => exact (Kd.R_reads' HO_7.out).2.1); rintro e w22 ⟨v187, rfl, ho0, hb⟩; refine ⟨_, rfl, ?_⟩; have n0_ := Aside0.mk (Kd.R_below (by (with_reducible repeat (first | apply Kd.R_alloc | apply Kd.R_drewN | apply Kd.R_drew)); exact HO_7.out) hb); have n1_ := Aside0.mk (Kd.R_below (by (with_reducible repeat (first | apply Kd.R_alloc | apply Kd.R_drewN | apply Kd.R_drew)); exact HO_9.out) hb); have n2_ := Aside0.mk (Kd.V_lower (Kd.V_mono (ok' := fun k_ => (w.heap.size ≤ k_) ∧ some k_ ≠ (.slice Ao21 t176.length co21 : Value).ownBlock ∧ some k_ ≠ (.slice (some ad185) t180.length co20 : Value).ownBlock) ho0 (fun k_ hk_ => ⟨(Nat.le_trans (below_size (by repeat (first | (with_reducible first | exact HB.out | apply below_alloc | apply pw_below_drewN | apply below_drew1) | exact HB.out))) hk_), (Kd.fresh' (Kd.R_lt (by (with_reducible repeat (first | apply Kd.R_alloc | apply Kd.R_drewN | apply Kd.R_drew)); exact HO_7.out)) k_ hk_), (Kd.fresh' (Kd.R_lt (by (with_reducible repeat (first | apply Kd.R_alloc | apply Kd.R_drewN | apply Kd.R_drew)); exact HO_9.out)) k_ hk_)⟩)) (below_size (by repeat (first | (with_reducible first | exact HB.out | apply below_alloc | apply pw_below_drewN | apply below_drew1) | exact HB.out)))); have n3_ := Aside0.mk (below_step (by repeat (first | (with_reducible first | exact HB.out | apply below_alloc | apply pw_below_drewN | apply below_drew1) | exact HB.out)) hb); clear HO_7; clear HO_9; clear HB; have HO_7 := n0_; have HO_9 := n1_; have HO188 := n2_; have HB := n3_; clear n0_ n1_ n2_ n3_; (try clear hb); (try clear hb2); (try clear hk); (try clear hi); (try clear ho0)) | ((with_reducible refine gate_callee (f := 36) rfl ?_); refine goesL_ (some 58) rfl rfl Tryd.func36 (by kernel_rfl) rfl #[.int .u64 t189] rfl (by (try simp only [List.map_toArray, List.map_cons, List.map_nil]); first | done | rfl | (simp only [List.length_drop, List.length_take]; rfl) | (simp only [gt_iff_lt, Int.natCast_pos]; done) | (simp only [gt_iff_lt, Int.natCast_pos]; rfl)) ?_; (with_reducible refine (nat_FromUint.calls t189 t191 _ A19.out).mono ?_); rintro e w23 ⟨v192, rfl, ho0, hb⟩; refine ⟨_, rfl, ?_⟩; have n0_ := Aside0.mk (Kd.R_elder' (by (with_reducible repeat (first | apply Kd.R_alloc | apply Kd.R_drewN | apply Kd.R_drew)); exact HO_7.out) (Kd.R_base ho0) hb); have n1_ := Aside0.mk (Kd.R_elder' (by (with_reducible repeat (first | apply Kd.R_alloc | apply Kd.R_drewN | apply Kd.R_drew)); exact HO_9.out) (Kd.R_base ho0) hb); have n2_ := Aside0.mk (Kd.V_elder' (by (with_reducible repeat (first | apply Kd.V_alloc | apply Kd.V_drewN | apply Kd.V_drew)); exact HO188.out) (Kd.R_base ho0) hb); have n3_ := Aside0.mk (Kd.R_lower (Kd.R_new' (Kd.R_new' (Kd.R_newM (M := fun k_ => (w.heap.size ≤ k_)) ho0 (below_size (by repeat (first | (with_reducible first | exact HB.out | apply below_alloc | apply pw_below_drewN | apply below_drew1) | exact HB.out))) (fun k_ h_ => h_)) (Kd.R_lt (by (with_reducible repeat (first | apply Kd.R_alloc | apply Kd.R_drewN | apply Kd.R_drew)); exact HO_7.out))) (Kd.R_lt (by (with_reducible repeat (first | apply Kd.R_alloc | apply Kd.R_drewN | apply Kd.R_drew)); exact HO_9.out))) (below_size (by repeat (first | (with_reducible first | exact HB.out | apply below_alloc | apply pw_below_drewN | apply below_drew1) | exact HB.out)))); have n4_ := Aside0.mk (below_step (by repeat (first | (with_reducible first | exact HB.out | apply below_alloc | apply pw_below_drewN | apply below_drew1) | exact HB.out)) hb); clear HO_7; clear HO_9; clear HO188; clear HB; have HO_7 := n0_; have HO_9 := n1_; have HO188 := n2_; have HO193 := n3_; have HB := n4_; clear n0_ n1_ n2_ n3_ n4_; (try clear hb); (try clear hb2); (try clear hk); (try clear hi); (try clear ho0)))
                go_ret3
                exact ⟨_, _, by first | rfl | (simp [errW_none, errW_some] <;> rfl) | (simp [*, errW_none, errW_some] <;> rfl), by (with_reducible repeat (first | apply Kd.V_alloc | apply Kd.V_drewN | apply Kd.V_drew)); exact Kd.V_mono HO188.out (fun _ hk => hk.1.1), Kd.R_V (by (with_reducible repeat (first | apply Kd.R_alloc | apply Kd.R_drewN | apply Kd.R_drew)); exact Kd.R_mono HO193.out (fun _ hk => hk.1.1.1)), by repeat (first | (with_reducible first | exact HB.out | apply below_alloc | apply pw_below_drewN | apply below_drew1) | exact HB.out)⟩
              · rw [if_neg c17] at H
                exact absurd H (by simp)
            · rw [if_neg c16] at H
              have c16b0 : ((t180.length : Int) == 1) = false := beq_eq_false_iff_ne.mpr c16
              have c16b1 : ((t180.length : Int) != 1) = true := bne_iff_ne.mpr c16
              replace H := Option.bind_eq_some_iff.mp H
              obtain ⟨⟨t194, t197⟩, A240, H⟩ := H
              replace H : (some (t194, t197, 0)) = some (r1, r2, r3) := H
              have A24 := Aside0.mk A240
              clear A240
              simp only [Option.some.injEq, Prod.mk.injEq] at H
              obtain ⟨rfl, rfl, rfl⟩ := H
              obtain ⟨Ao25, co25, eo25⟩ := Kd.R_slice HO_9.out
              subst eo25
              obtain ⟨Ao26, co26, eo26⟩ := Kd.R_slice HO_7.out
              subst eo26
              go_wp2_with (first | ((with_reducible refine gate_callee (f := 16) rfl ?_); refine goesL_ (some 40) rfl rfl Tryd.func16 (by kernel_rfl) rfl #[.slice Ao26 t176.length co26, .slice Ao25 t180.length co25] rfl (by (try simp only [List.map_toArray, List.map_cons, List.map_nil]); first | done | rfl | (simp only [List.length_drop, List.length_take]; rfl) | (simp only [gt_iff_lt, Int.natCast_pos]; done) | (simp only [gt_iff_lt, Int.natCast_pos]; rfl)) ?_; (with_reducible refine (nat_Cmp.calls kj4 _ _ t176 _ _ t180 t184 _ ?side1 ?side2 ?side3 ?side4 A12.out).mono ?_); (case side1 => repeat (first | exact (Kd.R_reads' HO_7.out).2.2 | (with_reducible refine Kd.C_alloc ?_ _) | (with_reducible refine Kd.C_drewN ?_ _) | (with_reducible refine Kd.C_drew ?_))); (case side2 => exact (Kd.R_reads' HO_7.out).2.1); (case side3 => repeat (first | exact (Kd.R_reads' HO_9.out).2.2 | (with_reducible refine Kd.C_alloc ?_ _) | (with_reducible refine Kd.C_drewN ?_ _) | (with_reducible refine Kd.C_drew ?_))); (case side4 => exact (Kd.R_reads' HO_9.out).2.1); rintro e w' ⟨rfl, ⟨nd, rfl⟩⟩; refine ⟨_, rfl, ?_⟩) | ((with_reducible refine gate_callee (f := 37) rfl ?_); refine goesL_ (some 63) rfl rfl Tryd.func37 (by kernel_rfl) rfl #[.slice Ao26 t176.length co26, .slice Ao25 t180.length co25] rfl (by (try simp only [List.map_toArray, List.map_cons, List.map_nil]); first | done | rfl | (simp only [List.length_drop, List.length_take]; rfl) | (simp only [gt_iff_lt, Int.natCast_pos]; done) | (simp only [gt_iff_lt, Int.natCast_pos]; rfl)) ?_; (with_reducible refine (quot_long.calls _ _ t176 _ _ t180 t194 t197 _ ?side5 ?side1 ?side2 ?side3 ?side4 A24.out).mono ?_); (case side1 => repeat (first | exact (Kd.R_reads' HO_7.out).2.2 | (with_reducible refine Kd.C_alloc ?_ _) | (with_reducible refine Kd.C_drewN ?_ _) | (with_reducible refine Kd.C_drew ?_))); (case side2 => exact (Kd.R_reads' HO_7.out).2.1); (case side3 => repeat (first | exact (Kd.R_reads' HO_9.out).2.2 | (with_reducible refine Kd.C_alloc ?_ _) | (with_reducible refine Kd.C_drewN ?_ _) | (with_reducible refine Kd.C_drew ?_))); (case side4 => exact (Kd.R_reads' HO_9.out).2.1); (case side5 => repeat (first | exact (Kd.C_below HT.out (by repeat (first | (with_reducible first | exact HB.out | apply below_alloc | apply pw_below_drewN | apply below_drew1) | exact HB.out))) | (with_reducible refine Kd.C_alloc ?_ _) | (with_reducible refine Kd.C_drewN ?_ _) | (with_reducible refine Kd.C_drew ?_))); rintro e w27 ⟨v195, v198, rfl, ho0, ho1, hb⟩; refine ⟨_, rfl, ?_⟩; have n0_ := Aside0.mk (Kd.R_below (by (with_reducible repeat (first | apply Kd.R_alloc | apply Kd.R_drewN | apply Kd.R_drew)); exact HO_7.out) hb); have n1_ := Aside0.mk (Kd.R_below (by (with_reducible repeat (first | apply Kd.R_alloc | apply Kd.R_drewN | apply Kd.R_drew)); exact HO_9.out) hb); have n2_ := Aside0.mk (Kd.V_lower (Kd.V_mono (ok' := fun k_ => (w.heap.size ≤ k_) ∧ some k_ ≠ (.slice Ao26 t176.length co26 : Value).ownBlock ∧ some k_ ≠ (.slice Ao25 t180.length co25 : Value).ownBlock) ho0 (fun k_ hk_ => ⟨(Nat.le_trans (below_size (by repeat (first | (with_reducible first | exact HB.out | apply below_alloc | apply pw_below_drewN | apply below_drew1) | exact HB.out))) hk_), (Kd.fresh' (Kd.R_lt (by (with_reducible repeat (first | apply Kd.R_alloc | apply Kd.R_drewN | apply Kd.R_drew)); exact HO_7.out)) k_ hk_), (Kd.fresh' (Kd.R_lt (by (with_reducible repeat (first | apply Kd.R_alloc | apply Kd.R_drewN | apply Kd.R_drew)); exact HO_9.out)) k_ hk_)⟩)) (below_size (by repeat (first | (with_reducible first | exact HB.out | apply below_alloc | apply pw_below_drewN | apply below_drew1) | exact HB.out)))); have n3_ := Aside0.mk (Kd.V_lower (Kd.V_mono (ok' := fun k_ => (w.heap.size ≤ k_) ∧ some k_ ≠ (.slice Ao26 t176.length co26 : Value).ownBlock ∧ some k_ ≠ (.slice Ao25 t180.length co25 : Value).ownBlock) ho1 (fun k_ hk_ => ⟨(Nat.le_trans (below_size (by repeat (first | (with_reducible first | exact HB.out | apply below_alloc | apply pw_below_drewN | apply below_drew1) | exact HB.out))) hk_), (Kd.fresh' (Kd.R_lt (by (with_reducible repeat (first | apply Kd.R_alloc | apply Kd.R_drewN | apply Kd.R_drew)); exact HO_7.out)) k_ hk_), (Kd.fresh' (Kd.R_lt (by (with_reducible repeat (first | apply Kd.R_alloc | apply Kd.R_drewN | apply Kd.R_drew)); exact HO_9.out)) k_ hk_)⟩)) (below_size (by repeat (first | (with_reducible first | exact HB.out | apply below_alloc | apply pw_below_drewN | apply below_drew1) | exact HB.out)))); have n4_ := Aside0.mk (below_step (by repeat (first | (with_reducible first | exact HB.out | apply below_alloc | apply pw_below_drewN | apply below_drew1) | exact HB.out)) hb); clear HO_7; clear HO_9; clear HB; have HO_7 := n0_; have HO_9 := n1_; have HO196 := n2_; have HO199 := n3_; have HB := n4_; clear n0_ n1_ n2_ n3_ n4_; (try clear hb); (try clear hb2); (try clear hk); (try clear hi); (try clear ho0); (try clear ho1)))
              go_ret3
              exact ⟨_, _, by first | rfl | (simp [errW_none, errW_some] <;> rfl) | (simp [*, errW_none, errW_some] <;> rfl), by (with_reducible repeat (first | apply Kd.V_alloc | apply Kd.V_drewN | apply Kd.V_drew)); exact Kd.V_mono HO196.out (fun _ hk => hk.1), by (with_reducible repeat (first | apply Kd.V_alloc | apply Kd.V_drewN | apply Kd.V_drew)); exact Kd.V_mono HO199.out (fun _ hk => hk.1), by repeat (first | (with_reducible first | exact HB.out | apply below_alloc | apply pw_below_drewN | apply below_drew1) | exact HB.out)⟩

/-! ### abacuslaw02_one: function 11 -/
def abacuslaw02_one.f (a0 : Int) : Option (List Int) := some (([a0] : List Int))
set_option maxHeartbeats 8000000 in
set_option maxRecDepth 100000 in
theorem abacuslaw02_one.calls (a0 : Int) (r : List Int) (w : World) (h : abacuslaw02_one.f a0 = some r) :
    Calls Tryd.prog 11 #[.int .u64 a0] w fun e w' => ∃ v0_ : Value, e = .returned (v0_) ∧ Kd.R (Kd.int .u64) 27 w' w.heap.size (fun _ => True) v0_ r ∧ Below w.heap.size w w' := by
  have HB := Aside0.mk (Below.refl w.heap.size w)
  have H : (some (([a0] : List Int))) = some r := h
  clear h
  obtain ⟨y200, hy200⟩ : ∃ y_ : List Int, y_ = (([a0] : List Int)) := ⟨_, rfl⟩
  replace H : (some y200) = some r := by first | (rw [hy200]; with_reducible exact H) | (have H2_ := (Option.bind_some _ _).symm.trans H; rw [hy200]; with_reducible exact H2_) | (have H2_ := (Option.bind_some _ _).symm.trans H; with_reducible exact H2_) | with_reducible exact H | (rw [hy200]; exact H) | exact H
  have Ny200 := Aside0.mk hy200
  clear hy200
  obtain rfl := Option.some.inj H
  go_enter Tryd.func11, Tryd.ntmps11
  go_wp2_with (first | ((with_reducible refine gate_dst (N := 4) rfl ?_); refine Kd.R_lit (Kd.int .u64) _ 27 ?hg (N := 4) ?hd (xs := ([a0] : List Int)) (inner := [.int .u64 a0]) (ok := fun _ => True) (okp := fun _ => True) ?hr ?hp (fun _ hk => hk) trivial (Below.refl _ _) (Nat.le_refl _) (by simp) ?_; (case hd => rfl); (case hg => rfl); (case hr => first | (go_simp; done) | (go_simp; rfl)); (case hp => exact (Reps.one (show Kd.M (Kd.int .u64) _ _ _ a0 [.int .u64 a0] from rfl) (Reps.none _ _))); intro v201 w2 ho3 hb hg_ hnew_; clear hg_ hnew_; (first | rw [← Ny200.out] at ho3 | (simp only [Int.reduceToNat] at ho3; rw [← Ny200.out] at ho3)); have n0_ := Aside0.mk (Kd.R_lower ho3 (below_size (by repeat (first | (with_reducible first | exact HB.out | apply below_alloc | apply pw_below_drewN | apply below_drew1) | exact HB.out)))); have n1_ := Aside0.mk (below_step (by repeat (first | (with_reducible first | exact HB.out | apply below_alloc | apply pw_below_drewN | apply below_drew1) | exact HB.out)) hb); clear HB; have HO202 := n0_; have HB := n1_; clear n0_ n1_; clear hb ho3))
  go_ret
  exact ⟨_, by first | rfl | (simp [errW_none, errW_some] <;> rfl) | (simp [*, errW_none, errW_some] <;> rfl), by (with_reducible repeat (first | apply Kd.R_alloc | apply Kd.R_drewN | apply Kd.R_drew)); exact HO202.out, by repeat (first | (with_reducible first | exact HB.out | apply below_alloc | apply pw_below_drewN | apply below_drew1) | exact HB.out)⟩

/-! ### abacuslaw02_alike: function 12 -/
def abacuslaw02_alike.l0 : Nat → List Int → List Int → Int → Option (Bool)
  | 0, _, _, _ => none
  | k + 1, x0, x1, x5 => if x5 < (x1.length : Int) then (if 0 ≤ x5 then (if x5 < (x0.length : Int) then (if (rd x0 x5) = (rd x1 x5) then (abacuslaw02_alike.l0 k x0 x1 (wrap64 (x5 + 1))) else (some false)) else (none)) else (none)) else (some true)
def abacuslaw02_alike.f (k : Nat) (l0 : List Int) (l1 : List Int) : Option (Bool) := if (l0.length : Int) = (l1.length : Int) then (abacuslaw02_alike.l0 k l0 l1 0) else (some false)
theorem abacuslaw02_alike.mono_l : ∀ k, (∀ y0 y1 y2, LeO (abacuslaw02_alike.l0 k y0 y1 y2) (abacuslaw02_alike.l0 (k + 1) y0 y1 y2))
  | 0 => fun _ _ _ r h => by simp [abacuslaw02_alike.l0] at h
  | k + 1 => by
    have ih0 := abacuslaw02_alike.mono_l k
    · intro y0 y1 y2
      unfold abacuslaw02_alike.l0
      repeat' first
      | (with_reducible exact ih0 _ _ _)
      | (with_reducible exact LeO.refl _)
      | (with_reducible exact LeO.none _)
      | (with_reducible refine LeO.ite ?_ ?_)
      | (with_reducible refine LeO.bind ?_ (fun _ => ?_))
      | exact ih0 _ _ _
      | exact LeO.none _
      | refine LeO.ite ?_ ?_
      | refine LeO.bind ?_ (fun _ => ?_)
theorem abacuslaw02_alike.mono : ∀ a0 a1 k, LeO (abacuslaw02_alike.f k a0 a1) (abacuslaw02_alike.f (k + 1) a0 a1) := by
  intro a0 a1 k
  have ih0 := abacuslaw02_alike.mono_l k
  unfold abacuslaw02_alike.f
  repeat' first
      | (with_reducible exact ih0 _ _ _)
      | (with_reducible exact LeO.refl _)
      | (with_reducible exact LeO.none _)
      | (with_reducible refine LeO.ite ?_ ?_)
      | (with_reducible refine LeO.bind ?_ (fun _ => ?_))
      | exact ih0 _ _ _
      | exact LeO.none _
      | refine LeO.ite ?_ ?_
      | refine LeO.bind ?_ (fun _ => ?_)
set_option maxHeartbeats 8000000 in
set_option maxRecDepth 100000 in
theorem abacuslaw02_alike.calls (k : Nat) (A0 : Option Addr) (c0 : Nat) (l0 : List Int) (A1 : Option Addr) (c1 : Nat) (l1 : List Int) (r : Bool) (w : World) (hr0 : Kd.C (Kd.int .u64) w A0 l0.length l0) (hc0 : l0.length ≤ c0) (hr1 : Kd.C (Kd.int .u64) w A1 l1.length l1) (hc1 : l1.length ≤ c1) (h : abacuslaw02_alike.f k l0 l1 = some r) :
    Calls Tryd.prog 12 #[.slice A0 l0.length c0, .slice A1 l1.length c1] w fun e w' => e = .returned (.bool r) ∧ Drawn0 w w' := by
  have HR0 := Aside0.mk hr0
  have HC0 := Aside0.mk hc0
  clear hr0 hc0
  have HR1 := Aside0.mk hr1
  have HC1 := Aside0.mk hc1
  clear hr1 hc1
  have H : (if (l0.length : Int) = (l1.length : Int) then (abacuslaw02_alike.l0 k l0 l1 0) else (some false)) = some r := h
  clear h
  by_cases c3 : (l0.length : Int) = (l1.length : Int)
  · rw [if_pos c3] at H
    have c3b0 : ((l0.length : Int) == (l1.length : Int)) = true := beq_iff_eq.mpr c3
    have c3b1 : ((l0.length : Int) != (l1.length : Int)) = false := bne_eq_false_iff_eq.mpr c3
    have c3b2 : (l0.length == l1.length) = true := by first | simpa using c3 | (simp at c3 ⊢; omega)
    clear c3
    have H' := Aside0.mk H
    clear H
    go_enter Tryd.func12, Tryd.ntmps12
    go_wp2
    repeat (go_quiet (fail); try go_wp2)
    go_loopg [5] k (fun kq v5 w' => ∃ (x5_1 : Int), v5 = .int .i64 x5_1 ∧ Aside0 (abacuslaw02_alike.l0 kq l0 l1 x5_1 = some r) ∧ Aside0 (kq ≤ k) ∧ Drawn0 w w')
    case atStart => exact ⟨(0), (by first | rfl | (simp; done) | (simp [*]; done)), H', ⟨Nat.le_refl _⟩, by repeat (first | exact Drawn0.refl _ | apply Drawn0.step)⟩
    case round =>
      clear H'
      try clear c1
      try clear p2
      try clear c3
      try clear c3b0
      try clear c3b1
      try clear c3b2
      obtain ⟨x5_1, rfl, HA, HK1, ⟨m1, rfl⟩⟩ := hrel
      cases gk with
      | zero => exact absurd HA.out (by simp [abacuslaw02_alike.l0])
      | succ k1 =>
        have H := HA.out
        clear HA
        simp only [abacuslaw02_alike.l0] at H
        by_cases c4 : x5_1 < (l1.length : Int)
        · rw [if_pos c4] at H
          have c4b0 : decide (x5_1 < (l1.length : Int)) = true := decide_eq_true c4
          clear c4
          by_cases c5 : 0 ≤ x5_1
          · rw [if_pos c5] at H
            have c5b0 : decide (0 ≤ x5_1) = true := decide_eq_true c5
            clear c5
            by_cases c6 : x5_1 < (l0.length : Int)
            · rw [if_pos c6] at H
              have c6b0 : decide (x5_1 < (l0.length : Int)) = true := decide_eq_true c6
              clear c6
              by_cases c7 : (rd l0 x5_1) = (rd l1 x5_1)
              · rw [if_pos c7] at H
                have c7b0 : ((rd l0 x5_1) == (rd l1 x5_1)) = true := beq_iff_eq.mpr c7
                have c7b1 : ((rd l0 x5_1) != (rd l1 x5_1)) = false := bne_eq_false_iff_eq.mpr c7
                clear c7
                have H' := Aside0.mk H
                clear H
                have p203 : 0 ≤ (x5_1 : Int) := of_decide_eq_true (by first | (with_reducible assumption) | assumption)
                have q203 : x5_1 < (l0.length : Int) := of_decide_eq_true (by first | (with_reducible assumption) | assumption)
                obtain ⟨ad203, e203, hx203_0⟩ := Kd.at_int HR0.out x5_1 p203 q203
                cases e203
                replace p203 := eq_true p203
                replace q203 := eq_true q203
                have p204 : 0 ≤ (x5_1 : Int) := of_decide_eq_true (by first | (with_reducible assumption) | assumption)
                have q204 : x5_1 < (l1.length : Int) := of_decide_eq_true (by first | (with_reducible assumption) | assumption)
                obtain ⟨ad204, e204, hx204_0⟩ := Kd.at_int HR1.out x5_1 p204 q204
                cases e204
                replace p204 := eq_true p204
                replace q204 := eq_true q204
                go_wp2
                repeat (go_quiet (fail); try go_wp2)
                go_roundg k1
                case measure => have := HK1.out; omega
                case rel => exact ⟨(wrap64 (x5_1 + 1)), (by first | rfl | (simp; done) | (simp [*]; done)), H', ⟨by have := HK1.out; omega⟩, by repeat (first | exact Drawn0.refl _ | apply Drawn0.step)⟩
              · rw [if_neg c7] at H
                have c7b0 : ((rd l0 x5_1) == (rd l1 x5_1)) = false := beq_eq_false_iff_ne.mpr c7
                have c7b1 : ((rd l0 x5_1) != (rd l1 x5_1)) = true := bne_iff_ne.mpr c7
                obtain rfl := Option.some.inj H
                have p203 : 0 ≤ (x5_1 : Int) := of_decide_eq_true (by first | (with_reducible assumption) | assumption)
                have q203 : x5_1 < (l0.length : Int) := of_decide_eq_true (by first | (with_reducible assumption) | assumption)
                obtain ⟨ad203, e203, hx203_0⟩ := Kd.at_int HR0.out x5_1 p203 q203
                cases e203
                replace p203 := eq_true p203
                replace q203 := eq_true q203
                have p204 : 0 ≤ (x5_1 : Int) := of_decide_eq_true (by first | (with_reducible assumption) | assumption)
                have q204 : x5_1 < (l1.length : Int) := of_decide_eq_true (by first | (with_reducible assumption) | assumption)
                obtain ⟨ad204, e204, hx204_0⟩ := Kd.at_int HR1.out x5_1 p204 q204
                cases e204
                replace p204 := eq_true p204
                replace q204 := eq_true q204
                go_wp2
                repeat (go_quiet (fail); try go_wp2)
                go_ret
                exact ⟨by first | rfl | (simp; done) | (simp [*]; done), by repeat (first | exact Drawn0.refl _ | apply Drawn0.step)⟩
            · rw [if_neg c6] at H
              exact absurd H (by simp)
          · rw [if_neg c5] at H
            exact absurd H (by simp)
        · rw [if_neg c4] at H
          have c4b0 : decide (x5_1 < (l1.length : Int)) = false := decide_eq_false c4
          clear c4
          obtain rfl := Option.some.inj H
          go_wp2
          repeat (go_quiet (fail); try go_wp2)
          go_ret
          exact ⟨by first | rfl | (simp; done) | (simp [*]; done), by repeat (first | exact Drawn0.refl _ | apply Drawn0.step)⟩
  · rw [if_neg c3] at H
    have c3b0 : ((l0.length : Int) == (l1.length : Int)) = false := beq_eq_false_iff_ne.mpr c3
    have c3b1 : ((l0.length : Int) != (l1.length : Int)) = true := bne_iff_ne.mpr c3
    have c3b2 : (l0.length == l1.length) = false := by first | simpa using c3 | (simp at c3 ⊢; omega)
    obtain rfl := Option.some.inj H
    go_enter Tryd.func12, Tryd.ntmps12
    go_wp2
    repeat (go_quiet (fail); try go_wp2)
    go_ret
    exact ⟨by first | rfl | (simp; done) | (simp [*]; done), by repeat (first | exact Drawn0.refl _ | apply Drawn0.step)⟩

/-! ### abacusref02_Top: function 21 -/
def abacusref02_Top.l0 : Nat → List Int → Int → Option (Int)
  | 0, _, _ => none
  | k + 1, x0, x3 => if x3 > 0 then (if 0 ≤ (wrap64 (x3 - 1)) then (if (wrap64 (x3 - 1)) < (x0.length : Int) then (if (rd x0 (wrap64 (x3 - 1))) = 0 then (abacusref02_Top.l0 k x0 (wrap64 (x3 - 1))) else (some x3)) else (none)) else (none)) else (some x3)
def abacusref02_Top.f (k : Nat) (l0 : List Int) : Option (Int) := abacusref02_Top.l0 k l0 (l0.length : Int)
theorem abacusref02_Top.mono_l : ∀ k, (∀ y0 y1, LeO (abacusref02_Top.l0 k y0 y1) (abacusref02_Top.l0 (k + 1) y0 y1))
  | 0 => fun _ _ r h => by simp [abacusref02_Top.l0] at h
  | k + 1 => by
    have ih0 := abacusref02_Top.mono_l k
    · intro y0 y1
      unfold abacusref02_Top.l0
      repeat' first
      | (with_reducible exact ih0 _ _)
      | (with_reducible exact LeO.refl _)
      | (with_reducible exact LeO.none _)
      | (with_reducible refine LeO.ite ?_ ?_)
      | (with_reducible refine LeO.bind ?_ (fun _ => ?_))
      | exact ih0 _ _
      | exact LeO.none _
      | refine LeO.ite ?_ ?_
      | refine LeO.bind ?_ (fun _ => ?_)
theorem abacusref02_Top.mono : ∀ a0 k, LeO (abacusref02_Top.f k a0) (abacusref02_Top.f (k + 1) a0) := by
  intro a0 k
  have ih0 := abacusref02_Top.mono_l k
  unfold abacusref02_Top.f
  repeat' first
      | (with_reducible exact ih0 _ _)
      | (with_reducible exact LeO.refl _)
      | (with_reducible exact LeO.none _)
      | (with_reducible refine LeO.ite ?_ ?_)
      | (with_reducible refine LeO.bind ?_ (fun _ => ?_))
      | exact ih0 _ _
      | exact LeO.none _
      | refine LeO.ite ?_ ?_
      | refine LeO.bind ?_ (fun _ => ?_)
set_option maxHeartbeats 8000000 in
set_option maxRecDepth 100000 in
theorem abacusref02_Top.calls (k : Nat) (A0 : Option Addr) (c0 : Nat) (l0 : List Int) (r : Int) (w : World) (hr0 : Kd.C (Kd.int .u64) w A0 l0.length l0) (hc0 : l0.length ≤ c0) (h : abacusref02_Top.f k l0 = some r) :
    Calls Tryd.prog 21 #[.slice A0 l0.length c0] w fun e w' => e = .returned (.int .i64 r) ∧ Drawn0 w w' := by
  have HR0 := Aside0.mk hr0
  have HC0 := Aside0.mk hc0
  clear hr0 hc0
  have H : (abacusref02_Top.l0 k l0 (l0.length : Int)) = some r := h
  clear h
  have H' := Aside0.mk H
  clear H
  go_enter Tryd.func21, Tryd.ntmps21
  go_wp2
  go_loopg [3] k (fun kq v3 w' => ∃ (x3_1 : Int), v3 = .int .i64 x3_1 ∧ Aside0 (abacusref02_Top.l0 kq l0 x3_1 = some r) ∧ Aside0 (kq ≤ k) ∧ Drawn0 w w')
  case atStart => exact ⟨((l0.length : Int)), (by first | rfl | (simp; done) | (simp [*]; done)), H', ⟨Nat.le_refl _⟩, by repeat (first | exact Drawn0.refl _ | apply Drawn0.step)⟩
  case round =>
    clear H'
    obtain ⟨x3_1, rfl, HA, HK1, ⟨m1, rfl⟩⟩ := hrel
    cases gk with
    | zero => exact absurd HA.out (by simp [abacusref02_Top.l0])
    | succ k1 =>
      have H := HA.out
      clear HA
      simp only [abacusref02_Top.l0] at H
      by_cases c2 : x3_1 > 0
      · rw [if_pos c2] at H
        have c2b0 : decide (0 < x3_1) = true := decide_eq_true c2
        clear c2
        obtain ⟨ji3, hji3⟩ : ∃ j_ : Int, (wrap64 (x3_1 - 1)) = j_ := ⟨_, rfl⟩
        replace H : (if 0 ≤ (ji3) then (if (ji3) < (l0.length : Int) then (if (rd l0 (ji3)) = 0 then (abacusref02_Top.l0 k1 l0 ji3) else (some x3_1)) else (none)) else (none)) = some r := by first | (rw [hji3] at H; exact H) | (simp only [hji3] at H ⊢; exact H)
        have hji3w : (IntKind.i64.wrap (x3_1 - 1)) = ji3 := (i64_w _).trans hji3
        by_cases c4 : 0 ≤ (ji3)
        · rw [if_pos c4] at H
          have c4b0 : decide (0 ≤ (ji3)) = true := decide_eq_true c4
          clear c4
          by_cases c5 : (ji3) < (l0.length : Int)
          · rw [if_pos c5] at H
            have c5b0 : decide ((ji3) < (l0.length : Int)) = true := decide_eq_true c5
            clear c5
            by_cases c6 : (rd l0 (ji3)) = 0
            · rw [if_pos c6] at H
              have c6b0 : ((rd l0 (ji3)) == 0) = true := beq_iff_eq.mpr c6
              have c6b1 : ((rd l0 (ji3)) != 0) = false := bne_eq_false_iff_eq.mpr c6
              clear c6
              have H' := Aside0.mk H
              clear H
              have p205 : 0 ≤ ((ji3) : Int) := of_decide_eq_true (by first | (with_reducible assumption) | assumption)
              have q205 : (ji3) < (l0.length : Int) := of_decide_eq_true (by first | (with_reducible assumption) | assumption)
              obtain ⟨ad205, e205, hx205_0⟩ := Kd.at_int HR0.out (ji3) p205 q205
              cases e205
              replace p205 := eq_true p205
              replace q205 := eq_true q205
              go_wp2
              go_roundg k1
              case measure => have := HK1.out; omega
              case rel => exact ⟨(ji3), (by first | rfl | (simp; done) | (simp only [← hji3] <;> (first | rfl | simp)) | (simp [*]; done)), H', ⟨by have := HK1.out; omega⟩, by repeat (first | exact Drawn0.refl _ | apply Drawn0.step)⟩
            · rw [if_neg c6] at H
              have c6b0 : ((rd l0 (ji3)) == 0) = false := beq_eq_false_iff_ne.mpr c6
              have c6b1 : ((rd l0 (ji3)) != 0) = true := bne_iff_ne.mpr c6
              obtain rfl := Option.some.inj H
              have p205 : 0 ≤ ((ji3) : Int) := of_decide_eq_true (by first | (with_reducible assumption) | assumption)
              have q205 : (ji3) < (l0.length : Int) := of_decide_eq_true (by first | (with_reducible assumption) | assumption)
              obtain ⟨ad205, e205, hx205_0⟩ := Kd.at_int HR0.out (ji3) p205 q205
              cases e205
              replace p205 := eq_true p205
              replace q205 := eq_true q205
              go_wp2
              go_ret
              exact ⟨by first | rfl | (simp; done) | (simp only [← hji3] <;> (first | rfl | simp)) | (simp [*]; done), by repeat (first | exact Drawn0.refl _ | apply Drawn0.step)⟩
          · rw [if_neg c5] at H
            exact absurd H (by simp)
        · rw [if_neg c4] at H
          exact absurd H (by simp)
      · rw [if_neg c2] at H
        have c2b0 : decide (0 < x3_1) = false := decide_eq_false c2
        clear c2
        obtain rfl := Option.some.inj H
        go_wp2
        go_ret
        exact ⟨by first | rfl | (simp; done) | (simp [*]; done), by repeat (first | exact Drawn0.refl _ | apply Drawn0.step)⟩

end Go.Proofs.YtegollbojafekaaDoor.PS
