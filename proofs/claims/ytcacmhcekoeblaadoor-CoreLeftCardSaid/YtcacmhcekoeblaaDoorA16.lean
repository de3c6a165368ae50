/- Types by a check; tables of callees; what the proofs about the functions use. No conditions. -/
import Derived.Test.YtcacmhcekoeblaaDoorA15
namespace Go.Proofs.YtcacmhcekoeblaaDoorA
open Go.RowKit
set_option linter.unusedVariables false
set_option linter.unusedSimpArgs false
set_option linter.unusedSectionVars false
def cellB : AV → Value → Bool
  | .int k n, .int k' n' => kEq k k' && n == n'
  | .bool b, .bool b' => b == b'
  | .nil, .slice none 0 0 => true
  | .nilp, .pointer none => true
  | .nilf, .nilFunc => true
  | _, _ => false
def cellsB : List AV → List Value → Bool
  | [], [] => true
  | a :: as, v :: vs => cellB a v && cellsB as vs
  | _, _ => false
def zeroB (ti : TI) : Option Value → Bool
  | some (.agg cs) => ti.isAgg && cellsB ti.zero cs.toList
  | some v => !ti.isAgg && cellsB ti.zero [v]
  | none => false
def aggDB : Option TypeDesc → Bool → Bool
  | some d, g => aggD d == g
  | none, _ => false
def sizeB : Option TypeInfo → Nat → Bool
  | some i, s => Nat.beq i.size s
  | none, _ => false
def fieldsB (P : Program) : List Field → List (Nat × Nat × Bool) → Bool
  | [], [] => true
  | f :: fs, (o, s, g) :: xs => Nat.beq f.offset o && sizeB (P.info? f.type) s && aggDB (P.underlying f.type) g && fieldsB P fs xs
  | _, _ => false
def descB (P : Program) : TD → Option TypeDesc → Bool
  | .int k, some (.int k') => kEq k k'
  | .bool, some .bool => true
  | .slice e, some (.slice e') => Nat.beq e e'
  | .struct fs, some (.struct fields) => fieldsB P fields.toList fs
  | .array n e, some (.array n' e') => Nat.beq n n' && Nat.beq e e'
  | .ptr e, some (.pointer e') => Nat.beq e e'
  | .other, some d => !aggD d
  | _, _ => false
def infoB : Option TypeInfo → TI → Bool
  | some i, ti => Nat.beq i.size ti.size && Nat.beq i.bytes ti.bytes && zeroB ti i.zero
  | none, _ => false
def kindB : AV → Option TypeDesc → Bool
  | .int _ _, some (.int _) => true
  | .bool _, some .bool => true
  | _, _ => false
def eqFsB (P : Program) : List Field → List AV → Nat → Bool
  | [], [], _ => true
  | f :: fs, z :: zs, i => !(f.name == "_") && Nat.beq f.offset i && kindB z (P.underlying f.type) && eqFsB P fs zs (i + 1)
  | _, _, _ => false
def eqOkB (P : Program) (t : Nat) (zs : List AV) : Bool := match P.underlying t with
  | some (.struct fields) => !P.stoodInHeld t && !P.eqGuardType P.depth t && eqFsB P fields.toList zs 0
  | _ => false
theorem kindB_ok {z : AV} {d : Option TypeDesc} (h : kindB z d = true) : (∃ k n, z = .int k n) ∧ (∃ k, d = some (.int k)) ∨ (∃ b, z = .bool b) ∧ d = some .bool := by
  unfold kindB at h
  split at h
  · exact .inl ⟨⟨_, _, rfl⟩, _, rfl⟩
  · exact .inr ⟨⟨_, rfl⟩, rfl⟩
  · cases h
theorem eqFsB_ok {P : Program} : ∀ {fs : List Field} {zs : List AV} {i : Nat}, eqFsB P fs zs i = true → EqFs P fs zs i
  | [], [], _, _ => rfl
  | f :: fs, z :: zs, i, h => by
    simp only [eqFsB, Bool.and_eq_true, Bool.not_eq_true'] at h
    exact ⟨z, zs, rfl, h.1.1.1, Nat.eq_of_beq_eq_true h.1.1.2, kindB_ok h.1.2, eqFsB_ok h.2⟩
  | [], _ :: _, _, h => by cases h
  | _ :: _, [], _, h => by cases h
theorem eqOkB_ok {P : Program} {t : Nat} {zs : List AV} (h : eqOkB P t zs = true) : EqOK P t zs := by
  unfold eqOkB at h
  split at h
  · rename_i fields hu
    simp only [Bool.and_eq_true, Bool.not_eq_true'] at h
    exact ⟨fields, hu, h.1.1, h.1.2, eqFsB_ok h.2⟩
  · cases h
def tyB (P : Program) (t : Nat) (ti : TI) : Bool := infoB (P.info? t) ti && descB P ti.d (P.underlying t) && ti.zero.all plainAV && Nat.beq ti.zero.length ti.size && (ti.isAgg || Nat.beq ti.size 1) && (!ti.eq || eqOkB P t ti.zero)
theorem cellB_eq {a : AV} {v : Value} (h : cellB a v = true) : v = unAV a := by
  unfold cellB at h
  split at h
  · simp only [Bool.and_eq_true, beq_iff_eq] at h
    rw [kEq_eq h.1, h.2]; rfl
  · simp only [beq_iff_eq] at h; rw [h]; rfl
  · rfl
  · rfl
  · rfl
  · cases h
theorem cellsB_eq : ∀ {as : List AV} {vs : List Value}, cellsB as vs = true → vs = as.map unAV
  | [], [], _ => rfl
  | a :: as, v :: vs, h => by
    simp only [cellsB, Bool.and_eq_true] at h
    rw [cellB_eq h.1, cellsB_eq h.2]; rfl
  | [], _ :: _, h => by cases h
  | _ :: _, [], h => by cases h
theorem fieldsB_ok {P : Program} : ∀ {fs : List Field} {xs : List (Nat × Nat × Bool)}, fieldsB P fs xs = true → FieldsOK P fs xs
  | [], [], _ => rfl
  | f :: fs, (o, s, g) :: xs, h => by
    simp only [fieldsB, Bool.and_eq_true] at h
    obtain ⟨⟨⟨h1, h2⟩, h3⟩, h4⟩ := h
    refine ⟨_, _, rfl, ⟨Nat.eq_of_beq_eq_true h1, ?_, ?_⟩, fieldsB_ok h4⟩
    · unfold sizeB at h2
      split at h2
      · rename_i i _ hi
        rw [hi]; simp [Nat.eq_of_beq_eq_true h2]
      · cases h2
    · unfold aggDB at h3
      split at h3
      · rename_i d _ hd
        rw [hd]; simpa using h3
      · cases h3
  | [], _ :: _, h => by cases h
  | _ :: _, [], h => by cases h
theorem descB_ok {P : Program} {t : Nat} : ∀ (d : TD), descB P d (P.underlying t) = true → TDOK P t d
  | .int k, h => by
    cases hu : P.underlying t with
    | none => rw [hu] at h; cases h
    | some q => rw [hu] at h; cases q <;> first | (cases h; done) | (show P.underlying t = _; rw [hu, kEq_eq h])
  | .bool, h => by
    cases hu : P.underlying t with
    | none => rw [hu] at h; cases h
    | some q => rw [hu] at h; cases q <;> first | (cases h; done) | exact hu
  | .slice e, h => by
    cases hu : P.underlying t with
    | none => rw [hu] at h; cases h
    | some q => rw [hu] at h; cases q <;> first | (cases h; done) | (show P.underlying t = _; rw [hu, Nat.eq_of_beq_eq_true h])
  | .struct fs, h => by
    cases hu : P.underlying t with
    | none => rw [hu] at h; cases h
    | some q => rw [hu] at h; cases q <;> first | (cases h; done) | exact ⟨_, hu, fieldsB_ok h⟩
  | .array n e, h => by
    cases hu : P.underlying t with
    | none => rw [hu] at h; cases h
    | some q => rw [hu] at h; cases q <;> first | (cases h; done) | (simp only [descB, Bool.and_eq_true] at h; show P.underlying t = _; rw [hu, Nat.eq_of_beq_eq_true h.1, Nat.eq_of_beq_eq_true h.2])
  | .ptr e, h => by
    cases hu : P.underlying t with
    | none => rw [hu] at h; cases h
    | some q => rw [hu] at h; cases q <;> first | (cases h; done) | (show P.underlying t = _; rw [hu, Nat.eq_of_beq_eq_true h])
  | .other, h => by
    cases hu : P.underlying t with
    | none => rw [hu] at h; cases h
    | some q => rw [hu] at h; show (P.underlying t).map aggD = some false; rw [hu]; simpa [descB] using h
theorem tyB_ok {P : Program} {t : Nat} {ti : TI} (h : tyB P t ti = true) : TyOK P t ti := by
  unfold tyB at h
  simp only [Bool.and_eq_true] at h
  obtain ⟨⟨⟨⟨⟨h1, h2⟩, h3⟩, h4⟩, h5⟩, h6⟩ := h
  cases hi : P.info? t with
  | none => rw [hi] at h1; cases h1
  | some i =>
    rw [hi] at h1
    simp only [infoB, Bool.and_eq_true] at h1
    obtain ⟨⟨e1, e2⟩, e3⟩ := h1
    refine ⟨by rw [hi]; simp [Nat.eq_of_beq_eq_true e1, Nat.eq_of_beq_eq_true e2], ?_, h3, Nat.eq_of_beq_eq_true h4, fun hg => by rw [hg, Bool.false_or] at h5; exact Nat.eq_of_beq_eq_true h5, descB_ok _ h2, fun he => by rw [he] at h6; exact eqOkB_ok (by simpa using h6)⟩
    rw [hi]
    simp only [Option.bind_some]
    cases hz : i.zero with
    | none => rw [hz] at e3; cases e3
    | some v =>
      rw [hz] at e3
      have agg : ∀ cs, v = .agg cs → some v = some (zeroOf ti) := by
        rintro cs rfl
        simp only [zeroB, Bool.and_eq_true] at e3
        unfold zeroOf
        rw [if_pos e3.1, ← cellsB_eq e3.2]
      have one : (∀ cs, v ≠ .agg cs) → some v = some (zeroOf ti) := by
        intro hne
        have e4 : (!ti.isAgg && cellsB ti.zero [v]) = true := by
          unfold zeroB at e3
          split at e3
          · rename_i cs hcs; injection hcs with hcs; exact absurd hcs (hne cs)
          · rename_i v' _ hv'; injection hv' with hv'; subst hv'; exact e3
          · rename_i hn; cases hn
        simp only [Bool.and_eq_true, Bool.not_eq_true'] at e4
        unfold zeroOf
        rw [if_neg (by rw [e4.1]; decide)]
        have hc := cellsB_eq e4.2
        cases hzz : ti.zero with
        | nil => rw [hzz] at hc; cases hc
        | cons z zs => rw [hzz] at hc; injection hc with hc _; rw [hc]; rfl
      cases v with
      | agg cs => exact agg cs rfl
      | _ => exact one (fun cs h => by cases h)
theorem tok_of {P : Program} {T : List (Nat × TI)} (h : (T.all fun p => tyB P p.1 p.2) = true) : TOK P T := by
  induction T with
  | nil => intro t ti hf; cases hf
  | cons p T ih =>
    obtain ⟨s, x⟩ := p
    simp only [List.all_cons, Bool.and_eq_true] at h
    intro t ti hf
    simp only [find] at hf
    split at hf
    · rename_i he
      simp only [Option.some.injEq] at hf
      subst hf
      rw [← Nat.eq_of_beq_eq_true he]
      exact tyB_ok h.1
    · exact ih h.2 t ti hf
section
variable {α : Type}
abbrev Tab (α : Type) := Nat → List D → (List D → Option α) → Option α
def noCall : Tab α := fun _ _ _ => none
def orCall (i : Nat) (g : List D → (List D → Option α) → Option α) (rest : Tab α) : Tab α := fun f ds K => match Nat.beq f i with
  | true => g ds K
  | false => rest f ds K
def TabOK (P : Program) (H : World → Prop) (t : Tab α) : Prop := ∀ f ds K r, t f ds K = some r → ∃ rs, K rs = some r ∧ CallD P H f ds rs
theorem noCall_ok {P : Program} {H : World → Prop} : TabOK P H (noCall : Tab α) := fun f ds K r h => by cases h
theorem orCall_ok {P : Program} {H : World → Prop} {i : Nat} {g : List D → (List D → Option α) → Option α} {rest : Tab α} (hg : ∀ ds K r, g ds K = some r → ∃ rs, K rs = some r ∧ CallD P H i ds rs) (hr : TabOK P H rest) : TabOK P H (orCall i g rest) := by
  intro f ds K r h
  simp only [orCall] at h
  split at h
  · rename_i he
    rw [Nat.eq_of_beq_eq_true he]
    exact hg ds K r h
  · exact hr f ds K r h
abbrev TabW (α : Type) := Nat → List Int → List D → (List Int → List D → Option α) → Option α
def noW : TabW α := fun _ _ _ _ => none
def orW (i : Nat) (g : List Int → List D → (List Int → List D → Option α) → Option α) (rest : TabW α) : TabW α := fun f l ds K => match Nat.beq f i with
  | true => g l ds K
  | false => rest f l ds K
def TabWOK (P : Program) (H : World → Prop) (t : TabW α) : Prop := ∀ f l ds K r, t f l ds K = some r → ∃ l' rs, K l' rs = some r ∧ CallW P H f l ds l' rs
theorem noW_ok {P : Program} {H : World → Prop} : TabWOK P H (noW : TabW α) := fun f l ds K r h => by cases h
theorem orW_ok {P : Program} {H : World → Prop} {i : Nat} {g : List Int → List D → (List Int → List D → Option α) → Option α} {rest : TabW α} (hg : ∀ l ds K r, g l ds K = some r → ∃ l' rs, K l' rs = some r ∧ CallW P H i l ds l' rs) (hr : TabWOK P H rest) : TabWOK P H (orW i g rest) := by
  intro f l ds K r h
  simp only [orW] at h
  split at h
  · rename_i he
    rw [Nat.eq_of_beq_eq_true he]
    exact hg l ds K r h
  · exact hr f l ds K r h
abbrev TabP (α : Type) := Nat → Bool → List Seg → List D → (List Seg → List D → Option α) → Option α
def noP : TabP α := fun _ _ _ _ _ => none
def orP (i : Nat) (g : Bool → List Seg → List D → (List Seg → List D → Option α) → Option α) (rest : TabP α) : TabP α := fun f al l ds K => match Nat.beq f i with
  | true => g al l ds K
  | false => rest f al l ds K
def TabPOK (P : Program) (H : World → Prop) (t : TabP α) : Prop := ∀ f al l ds K r, t f al l ds K = some r → ∃ l' rs, K l' rs = some r ∧ CallP P H f al l ds l' rs
theorem noP_ok {P : Program} {H : World → Prop} : TabPOK P H (noP : TabP α) := fun f al l ds K r h => by cases h
theorem noP_ok' {P : Program} {H : World → Prop} : TabPOK P H (fun _ _ _ _ _ => none : TabP α) := fun f al l ds K r h => by cases h
theorem orP_ok {P : Program} {H : World → Prop} {i : Nat} {g : Bool → List Seg → List D → (List Seg → List D → Option α) → Option α} {rest : TabP α} (hg : ∀ al l ds K r, g al l ds K = some r → ∃ l' rs, K l' rs = some r ∧ CallP P H i al l ds l' rs) (hr : TabPOK P H rest) : TabPOK P H (orP i g rest) := by
  intro f al l ds K r h
  simp only [orP] at h
  split at h
  · rename_i he
    rw [Nat.eq_of_beq_eq_true he]
    exact hg al l ds K r h
  · exact hr f al l ds K r h
abbrev TabQ (α : Type) := Nat → List D → (Int → Option α) → Option α
def noQ : TabQ α := fun _ _ _ => none
def orQ (i : Nat) (g : List D → (Int → Option α) → Option α) (rest : TabQ α) : TabQ α := fun f ds K => match Nat.beq f i with
  | true => g ds K
  | false => rest f ds K
def TabQOK (P : Program) (H : World → Prop) (t : TabQ α) : Prop := ∀ f ds K r, t f ds K = some r → ∃ off, K off = some r ∧ CallQ P H f ds off
theorem noQ_ok {P : Program} {H : World → Prop} : TabQOK P H (noQ : TabQ α) := fun f ds K r h => by cases h
theorem noQ_ok' {P : Program} {H : World → Prop} : TabQOK P H (fun _ _ _ => none : TabQ α) := fun f ds K r h => by cases h
theorem orQ_ok {P : Program} {H : World → Prop} {i : Nat} {g : List D → (Int → Option α) → Option α} {rest : TabQ α} (hg : ∀ ds K r, g ds K = some r → ∃ off, K off = some r ∧ CallQ P H i ds off) (hr : TabQOK P H rest) : TabQOK P H (orQ i g rest) := by
  intro f ds K r h
  simp only [orQ] at h
  split at h
  · rename_i he
    rw [Nat.eq_of_beq_eq_true he]
    exact hg ds K r h
  · exact hr f ds K r h
end
/-- Data of which a callee looks at the first parts alone. -/
def Sub : List D → List D → Prop
  | [], [] => True
  | .pseg ss :: ds, .pseg ss' :: ds' => (∃ t, ss' = ss ++ t) ∧ Sub ds ds'
  | d :: ds, d' :: ds' => d = d' ∧ Sub ds ds'
  | _, _ => False
theorem sub_VRs {ρ : Nat → Option Value} {N : Nat → Prop} {w : World} : ∀ {ds ds' : List D} (m : Nat) {vs : List Value}, Sub ds ds' → VRs ρ N w (ofDs ds' m) vs → VRs ρ N w (ofDs ds m) vs
  | [], [], _, _, _, h => h
  | [], _ :: _, _, _, hs, _ => by simp [Sub] at hs
  | _ :: _, [], _, _, hs, _ => by simp [Sub] at hs
  | d :: ds, d' :: ds', m, vs, hs, ⟨u, us, h1, h2, h3⟩ => by
    have go : d = d' → Sub ds ds' → VRs ρ N w (ofDs (d :: ds) m) vs := by
      rintro rfl hs
      exact ⟨u, us, h1, h2, sub_VRs _ hs h3⟩
    unfold Sub at hs
    split at hs
    · rename_i heq _; cases heq
    · rename_i ss ds1 ss' ds1' e1 e2
      injection e1 with e1 e3
      injection e2 with e2 e4
      subst e1 e2 e3 e4
      obtain ⟨⟨t, rfl⟩, hs⟩ := hs
      obtain ⟨g, o, mid, e, hN, hg, hc⟩ := h2
      obtain ⟨a, b, rfl, ha, hb⟩ := SegsV.append.1 hg
      refine ⟨u, us, h1, ⟨g, o, a, e, hN, ha, fun j x hj => hc j x ?_⟩, sub_VRs _ hs h3⟩
      rw [List.getElem?_append_left (List.getElem?_eq_some_iff.1 hj).1]
      exact hj
    · rename_i d1 ds1 d1' ds1' _ e1 e2
      injection e1 with e1 e3
      injection e2 with e2 e4
      subst e1 e2 e3 e4
      exact go hs.1 hs.2
    · exact hs.elim
theorem calld_sub {P : Program} {H : World → Prop} {f : FuncId} {ds ds' rs : List D} (h : CallD P H f ds rs) (hs : Sub ds ds') : CallD P H f ds' rs :=
  fun w vals AB hH hv hAB => h w vals AB hH (sub_VRs 0 hs hv) hAB
section
end
end Go.Proofs.YtcacmhcekoeblaaDoorA
