/- What the printed functions of gather compute: a row, by the value of its limbs. Conditions: no overflow. -/
import Derived.Test.YtcacmhcekoeblaaDoorQRatio
namespace Go.Proofs.YtcacmhcekoeblaaDoor.Gat
open Go.RowKit Go.Proofs.YtcacmhcekoeblaaDoor.Lib Go.Proofs.YtcacmhcekoeblaaDoor.LibB Go.Proofs.YtcacmhcekoeblaaDoor.F Go.Proofs.YtcacmhcekoeblaaDoor.Nat1 Go.Proofs.YtcacmhcekoeblaaDoor.Nat2 Go.Proofs.YtcacmhcekoeblaaDoor.Rnd Go.Proofs.YtcacmhcekoeblaaDoor.Ieee1 Go.Proofs.YtcacmhcekoeblaaDoor.Ieee2
open Go.Proofs.YtcacmhcekoeblaaDoorA (rd ln ln_eq mx mn shl shr wr wr_eq)
set_option linter.unusedVariables false
set_option linter.unusedSimpArgs false
/-- One place: the row, the carry on, and what has been added. -/
theorem put_next {l : List Int} {j : Nat} {d e x c : Int} {S T : Nat} (hj : j < l.length) (hl : ok l) (hd : 0 ≤ d) (he : 0 ≤ e) (hx : 0 ≤ x) (hc : 0 ≤ c) (hde : d + 18446744073709551616 * e = rd l (j : Int) + x + c) (hv : val l + B j * c.toNat = S) (hT : S + B j * x.toNat = T) :
    val (l.set j d) + B (j + 1) * e.toNat = T := by
  have h1 := val_set l j d hj
  have h2 : d.toNat + 18446744073709551616 * e.toNat = (rd l (j : Int)).toNat + x.toNat + c.toNat := by
    have := (ok_rd hl (j : Int)).1
    clear h1 hv hT
    omega
  rw [B_succ]
  have h3 : B j * d.toNat + 18446744073709551616 * B j * e.toNat = B j * (rd l (j : Int)).toNat + B j * x.toNat + B j * c.toNat := by
    rw [Nat.mul_comm 18446744073709551616, Nat.mul_assoc, ← Nat.mul_add, h2, Nat.mul_add, Nat.mul_add]
  generalize B j * d.toNat = p at *
  generalize 18446744073709551616 * B j * e.toNat = q at *
  generalize B j * (rd l (j : Int)).toNat = r at *
  generalize B j * x.toNat = s at *
  generalize B j * c.toNat = t at *
  omega
theorem carry_facts {r x c : Int} (hr : 0 ≤ r ∧ r < 18446744073709551616) (hx : 0 ≤ x ∧ x < 18446744073709551616) (hc : 0 ≤ c ∧ c ≤ 1) :
    (0 ≤ (r + x + c) % 18446744073709551616 ∧ (r + x + c) % 18446744073709551616 < 18446744073709551616) ∧ (0 ≤ (r + x + c) / 18446744073709551616 ∧ (r + x + c) / 18446744073709551616 ≤ 1) ∧
      (r + x + c) % 18446744073709551616 + 18446744073709551616 * ((r + x + c) / 18446744073709551616) = r + x + c := by
  refine ⟨⟨?_, ?_⟩, ⟨?_, ?_⟩, ?_⟩ <;> omega
theorem add_take {add : List Int} {k : Nat} {x : Int} (h3 : add.length = 3) (hx : x = if k < 3 then rd add (k : Int) else 0) : val (add.take k) + B k * x.toNat = val (add.take (k + 1)) := by
  split at hx
  · rw [hx, val_take_succ]
  · rw [hx, List.take_of_length_le (by omega), List.take_of_length_le (by omega)]; simp
theorem no_carry {V W : Nat} {c : Int} {j : Nat} (hj : 72 ≤ j) (hc : 0 ≤ c ∧ c ≤ 1) (h : V + B j * c.toNat = W) (hW : W < B 72) : c = 0 := by
  have h1 := B_mono hj
  rcases (by omega : c = 0 ∨ c = 1) with h2 | h2
  · exact h2
  · subst h2
    exfalso
    have : (1 : Int).toNat = 1 := rfl
    rw [this, Nat.mul_one] at h
    omega
theorem put_l {i V W : Nat} {add : List Int} (hadd : ok add) (h3 : add.length = 3) (hi : i ≤ 69) (hW : Aside0 (V + B i * val add = W)) (hB : Aside0 (W < B 72)) (d : Nat) :
    ∀ (k : Nat) (r : List Int) (c : Int), i + k + d = 72 → ok r → r.length = 72 → 0 ≤ c ∧ c ≤ 1 → Aside0 (val r + B (i + k) * c.toNat = V + B i * val (add.take k)) →
      ∃ r', Ev (fun n m _ => gather_row_put.l253 n m i c k r add) (r', ()) ∧ ok r' ∧ r'.length = 72 ∧ val r' = W := by
  have fin : ∀ (k : Nat) (r : List Int) (c : Int), 3 ≤ k → c = 0 → val r + B (i + k) * c.toNat = V + B i * val (add.take k) → val r = W := by
    intro k r c hk hc hv
    rw [hc, List.take_of_length_le (by omega), hW.out] at hv
    simpa using hv
  induction d with
  | zero =>
    intro k r c hk hr hrl hc hv
    have e : wrap64 ((i : Int) + (k : Int)) = ((i + k : Nat) : Int) := by unfold wrap64; omega
    refine ⟨r, ?_, hr, hrl, ?_⟩
    · refine Ev_succ ?_
      simp only [gather_row_put.l253, gather_row_put.b253, e]
      exact Ev_neg (by omega) (Ev.now _)
    · have h1 := hv.out
      have hc0 : c = 0 := no_carry (j := i + k) (by omega) hc (by rw [h1, List.take_of_length_le (by omega), hW.out]) hB.out
      exact fin k r c (by omega) hc0 h1
  | succ d ih =>
    intro k r c hk hr hrl hc hv
    have e : wrap64 ((i : Int) + (k : Int)) = ((i + k : Nat) : Int) := by unfold wrap64; omega
    have e2 : wrap64 ((k : Int) + 1) = ((k + 1 : Nat) : Int) := by unfold wrap64; omega
    have rr := ok_rd hr ((i + k : Nat) : Int)
    have step : ∀ x : Int, (0 ≤ x ∧ x < 18446744073709551616) → x = (if k < 3 then rd add (k : Int) else 0) → ∃ r', Ev (fun n m _ => gather_row_put.l8083 n (gather_row_put.l253 n m) i c k x r add) (r', ()) ∧ ok r' ∧ r'.length = 72 ∧ val r' = W := by
      intro x hx hxe
      obtain ⟨hd, hce, hsum⟩ := carry_facts rr hx hc
      have hn := put_next (l := r) (j := i + k) (T := V + B i * val (add.take (k + 1))) (by omega) hr hd.1 hce.1 hx.1 hc.1 hsum hv.out (by
        rw [← add_take h3 hxe, Nat.mul_add, ← Nat.mul_assoc, ← B_add, Nat.add_assoc])
      obtain ⟨r', h1, h2, h4, h5⟩ := ih (k + 1) (r.set (i + k) ((rd r ((i + k : Nat) : Int) + x + c) % 18446744073709551616)) ((rd r ((i + k : Nat) : Int) + x + c) / 18446744073709551616) (by omega) (ok_set hr _ hd.1 hd.2) (by simp [hrl]) hce ⟨hn⟩
      refine ⟨r', ?_, h2, h4, h5⟩
      simp only [gather_row_put.l8083, gather_row_put.b8083, e, e2, Int.toNat_natCast]
      exact Ev_pos (by omega) (Ev_pos (by omega) (Ev_bind_eq (add64 rr hx hc) (Ev_pos (by omega) (Ev_pos (by omega) h1))))
    have body : (k < 3 ∨ c > 0) → ∃ r', Ev (fun n m _ => gather_row_put.l505 n (gather_row_put.l253 n m) i c k r add) (r', ()) ∧ ok r' ∧ r'.length = 72 ∧ val r' = W := by
      intro _
      by_cases hk3 : k < 3
      · obtain ⟨r', h1, h2⟩ := step (rd add (k : Int)) (ok_rd hadd _) (by rw [if_pos hk3])
        refine ⟨r', ?_, h2⟩
        simp only [gather_row_put.l505, gather_row_put.b505]
        exact Ev_pos (by omega) (Ev_pos (by omega) (Ev_pos (by omega) h1))
      · obtain ⟨r', h1, h2⟩ := step 0 (by omega) (by rw [if_neg hk3])
        refine ⟨r', ?_, h2⟩
        simp only [gather_row_put.l505, gather_row_put.b505]
        exact Ev_neg (by omega) h1
    by_cases hk3 : k < 3
    · obtain ⟨r', h1, h2⟩ := body (.inl hk3)
      refine ⟨r', ?_, h2⟩
      refine Ev_succ ?_
      simp only [gather_row_put.l253, gather_row_put.b253, e]
      exact Ev_pos (by omega) (Ev_pos (by omega) h1)
    · by_cases hc0 : c > 0
      · obtain ⟨r', h1, h2⟩ := body (.inr hc0)
        refine ⟨r', ?_, h2⟩
        refine Ev_succ ?_
        simp only [gather_row_put.l253, gather_row_put.b253, e]
        exact Ev_pos (by omega) (Ev_neg (by omega) (Ev_pos hc0 h1))
      · refine ⟨r, ?_, hr, hrl, fin k r c (by omega) (by omega) hv.out⟩
        refine Ev_succ ?_
        simp only [gather_row_put.l253, gather_row_put.b253, e]
        exact Ev_pos (by omega) (Ev_neg (by omega) (Ev_neg hc0 (Ev.now _)))
theorem nlt {n : Nat} (h : n < 18446744073709551616) : (0 : Int) ≤ (n : Int) ∧ (n : Int) < 18446744073709551616 := by omega
theorem or_nat {p x s : Nat} (h2 : x < 2 ^ s) (h3 : p * 2 ^ s + x < 18446744073709551616) : Go.bits .or .u64 ((p * 2 ^ s : Nat) : Int) (x : Int) = ((p * 2 ^ s + x : Nat) : Int) := by
  have h := or_low (p := (p : Int)) (x := (x : Int)) (s := s) (Int.natCast_nonneg _) (Int.natCast_nonneg _) (Int.ofNat_lt.2 h2) (by
    rw [← Int.natCast_mul, ← Int.natCast_add]
    generalize p * 2 ^ s + x = z at h3 ⊢
    omega)
  rw [← Int.natCast_mul, ← Int.natCast_add] at h
  exact h
theorem put_limbs {L H P R : Nat} {s : Nat} (hR : 0 < R) (hPR : P * R = 18446744073709551616) : L * P % 18446744073709551616 + 18446744073709551616 * ((H % R) * P + L / R + 18446744073709551616 * (H / R)) = (H * 18446744073709551616 + L) * P := by
  have h1 : L * P % 18446744073709551616 = L % R * P := by rw [← hPR, Nat.mul_comm P R, Nat.mul_mod_mul_right]
  rw [h1]
  have h2 : L % R * P + 18446744073709551616 * (L / R) = L * P := by
    rw [← hPR, Nat.mul_assoc, Nat.mul_comm _ P, ← Nat.mul_add, Nat.mod_add_div, Nat.mul_comm]
  have h3 : (H % R) * P + 18446744073709551616 * (H / R) = H * P := by
    rw [← hPR, Nat.mul_assoc, Nat.mul_comm _ P, ← Nat.mul_add, Nat.mod_add_div, Nat.mul_comm]
  rw [Nat.add_mul, Nat.mul_assoc H, Nat.mul_comm 18446744073709551616 P, ← Nat.mul_assoc, ← h3, ← h2]
  generalize L / R = a
  generalize (H % R) * P = b
  generalize H / R = c
  omega
theorem put_ev {r : List Int} {H L at' : Nat} {hi lo a : Int} (hr : ok r) (hrl : r.length = 72) (hhi : hi = (H : Int)) (hlo : lo = (L : Int)) (ha : a = (at' : Int)) (hH : H < 18446744073709551616) (hL : L < 18446744073709551616) (hat : at' ≤ 4400) (hB : val r + (H * 18446744073709551616 + L) * 2 ^ at' < B 72) :
    ∃ r', Ev (fun n _ _ => gather_row_put.f n r hi lo a) (r', ()) ∧ ok r' ∧ r'.length = 72 ∧ val r' = val r + (H * 18446744073709551616 + L) * 2 ^ at' := by
  subst hhi hlo ha
  obtain ⟨i, s, hs, rfl⟩ : ∃ i s, s < 64 ∧ at' = 64 * i + s := ⟨at' / 64, at' % 64, by omega, by omega⟩
  have e1 : IntKind.u64.wrap (Int.tmod ((64 * i + s : Nat) : Int) 64) = (s : Int) := by
    rw [IntKind.wrap_u64, Int.tmod_eq_emod_of_nonneg (by omega)]
    omega
  have e2 : wrap64 (Int.tdiv ((64 * i + s : Nat) : Int) 64) = (i : Int) := by
    rw [Int.tdiv_eq_ediv_of_nonneg (by omega)]
    unfold wrap64
    omega
  have e3 : IntKind.u64.wrap (64 - (s : Int)) = ((64 - s : Nat) : Int) := by rw [IntKind.wrap_u64]; omega
  have hP : 2 ^ s * 2 ^ (64 - s) = 18446744073709551616 := by rw [← Nat.pow_add, show s + (64 - s) = 64 from by omega]
  have hpow : (H * 18446744073709551616 + L) * 2 ^ (64 * i + s) = B i * ((H * 18446744073709551616 + L) * 2 ^ s) := by
    rw [B_two, Nat.pow_add, Nat.mul_left_comm]
  rw [hpow] at hB ⊢
  have go : ∀ add : List Int, ok add → add.length = 3 → val add = (H * 18446744073709551616 + L) * 2 ^ s → ∃ r', Ev (fun n _ _ => gather_row_put.l15 n i r add) (r', ()) ∧ ok r' ∧ r'.length = 72 ∧ val r' = val r + B i * ((H * 18446744073709551616 + L) * 2 ^ s) := by
    intro add h1 h2 h3
    obtain ⟨r', h4, h5⟩ := put_l (i := i) (V := val r) (W := val r + B i * ((H * 18446744073709551616 + L) * 2 ^ s)) h1 h2 (by omega) ⟨by rw [h3]⟩ ⟨hB⟩ (72 - i) 0 r 0 (by omega) hr hrl (by omega) ⟨by simp [val_nil]⟩
    refine ⟨r', ?_, h5⟩
    simp only [gather_row_put.l15, gather_row_put.b15]
    exact Ev_in (g := fun n m _ => gather_row_put.l253 n m i 0 0 r add) h4
  have c1 : ∀ X : Nat, shl .u64 (X : Int) (s : Int) = ((X * 2 ^ s % 18446744073709551616 : Nat) : Int) := by
    intro X
    rw [shl_u64 (by omega) (by omega)]
    simp
  have hlt : ∀ X : Nat, (0 : Int) ≤ ((X % 18446744073709551616 : Nat) : Int) ∧ ((X % 18446744073709551616 : Nat) : Int) < 18446744073709551616 := fun X => by omega
  by_cases hs0 : s = 0
  · subst hs0
    obtain ⟨r', h1, h2⟩ := go [((L * 2 ^ 0 % 18446744073709551616 : Nat) : Int), ((H * 2 ^ 0 % 18446744073709551616 : Nat) : Int), 0] (by
      intro x hx
      simp only [List.mem_cons, List.not_mem_nil, or_false] at hx
      rcases hx with rfl | rfl | rfl
      · exact hlt _
      · exact hlt _
      · omega) rfl (by
      simp only [val_cons, val_nil, Int.toNat_natCast, Nat.pow_zero, Nat.mul_one, Nat.mod_eq_of_lt hH, Nat.mod_eq_of_lt hL, Int.toNat_zero, Nat.mul_zero, Nat.add_zero]
      omega)
    refine ⟨r', ?_, h2⟩
    simp only [gather_row_put.f, gather_row_put.b0, e1, e2]
    rw [c1, c1]
    exact Ev_pos (by omega) (Ev_pos (by omega) (Ev_neg (by omega) h1))
  · have hR : 0 < 2 ^ (64 - s) := Nat.pow_pos (by omega)
    have hlow : L / 2 ^ (64 - s) < 2 ^ s := by
      rw [Nat.div_lt_iff_lt_mul hR, hP]; exact hL
    have hhigh : H * 2 ^ s % 18446744073709551616 = H % 2 ^ (64 - s) * 2 ^ s := by
      rw [← hP, Nat.mul_comm (2 ^ s) (2 ^ (64 - s)), Nat.mul_mod_mul_right]
    have hmid : H % 2 ^ (64 - s) * 2 ^ s + L / 2 ^ (64 - s) < 18446744073709551616 := by
      have h1 : H % 2 ^ (64 - s) + 1 ≤ 2 ^ (64 - s) := Nat.mod_lt _ hR
      have h2 := Nat.mul_le_mul_right (2 ^ s) h1
      rw [Nat.mul_comm (2 ^ (64 - s)), hP, Nat.add_mul, Nat.one_mul] at h2
      omega
    have hhd : H / 2 ^ (64 - s) < 18446744073709551616 := Nat.lt_of_le_of_lt (Nat.div_le_self _ _) hH
    have eS : ∀ X : Nat, shr .u64 (X : Int) ((64 - s : Nat) : Int) = ((X / 2 ^ (64 - s) : Nat) : Int) := by
      intro X
      rw [shr_u64 (by omega)]
      simp
    have eO : Go.bits .or .u64 ((H * 2 ^ s % 18446744073709551616 : Nat) : Int) ((L / 2 ^ (64 - s) : Nat) : Int) = ((H % 2 ^ (64 - s) * 2 ^ s + L / 2 ^ (64 - s) : Nat) : Int) := by
      rw [hhigh]
      exact or_nat hlow hmid
    obtain ⟨r', h1, h2⟩ := go [((L * 2 ^ s % 18446744073709551616 : Nat) : Int), ((H % 2 ^ (64 - s) * 2 ^ s + L / 2 ^ (64 - s) : Nat) : Int), ((H / 2 ^ (64 - s) : Nat) : Int)] (by
      intro x hx
      simp only [List.mem_cons, List.not_mem_nil, or_false] at hx
      rcases hx with rfl | rfl | rfl
      · exact hlt _
      · exact nlt hmid
      · exact nlt hhd) rfl (by
      simp only [val_cons, val_nil, Int.toNat_natCast, Int.toNat_zero, Nat.mul_zero, Nat.add_zero]
      exact put_limbs (s := s) hR hP)
    refine ⟨r', ?_, h2⟩
    simp only [gather_row_put.f, gather_row_put.b0, e1, e2, e3]
    rw [c1, c1, eS, eS]
    refine Ev_pos (by omega) (Ev_pos (by omega) (Ev_pos (by omega) (Ev_pos (by omega) (Ev_pos (by omega) ?_))))
    have eR : rd [((L * 2 ^ s % 18446744073709551616 : Nat) : Int), ((H * 2 ^ s % 18446744073709551616 : Nat) : Int), 0] 1 = ((H * 2 ^ s % 18446744073709551616 : Nat) : Int) := rfl
    rw [eR, eO]
    exact h1
end Go.Proofs.YtcacmhcekoeblaaDoor.Gat
