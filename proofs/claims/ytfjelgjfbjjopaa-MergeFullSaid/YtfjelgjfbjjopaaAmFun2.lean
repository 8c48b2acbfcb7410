import Derived.Test.YtfjelgjfbjjopaaAmFun
/-
  AM, part 24: what is made becomes plain data; pure functions.
-/
set_option linter.unusedVariables false
set_option linter.unusedSectionVars false
set_option linter.unusedSimpArgs false
namespace Go.AM
open Go Go.RowKit
variable [Glob]

section
variable {P : Program} {N : Nat} {A : Nat → Nat → Prop} {μ μ' : Nat → Option Place} {T T' : Nat → V} {σ σ' : Store} {w w' : World} {a : Act} {n n' : Nat} {v : V}

theorem frz_own {id : Nat} {m : Bool} {k : Option Nat} {els : List D} (h : σ id = some (.lst m k els)) {j b o : Nat} {blk : Blk} (hj : upd σ id (some (.lst false k els)) j = some blk) (ho : blk.ownsAt (μ j) b o) : owns μ σ b o := by
  by_cases e : j = id
  · subst e
    rw [upd_same] at hj
    cases hj
    refine ⟨j, _, h, ?_⟩
    cases m with
    | false => exact ho
    | true =>
      cases hm : μ j with
      | none => rw [hm] at ho; exact ho.elim
      | some p => cases p with
        | nil => rw [hm] at ho; exact ho.elim
        | «at» b0 k0 => rw [hm] at ho; exact ho.1
  · rw [upd_ne _ _ e] at hj
    exact ⟨j, blk, hj, ho⟩

theorem Guar.frz {id : Nat} {m : Bool} {k : Option Nat} {els : List D} (h : σ id = some (.lst m k els)) : Guar μ σ w μ (upd σ id (some (.lst false k els))) w where
  os := rfl
  tape := rfl
  output := rfl
  size := Nat.le_refl _
  block _ _ _ := rfl
  cells _ c _ _ hc := ⟨c, hc, rfl, fun _ _ => rfl⟩
  own b o ho := let ⟨j, blk, h1, h2⟩ := ho; .inl (frz_own h h1 h2)
  ownB b ho := by
    obtain ⟨j, blk, k', h1, h2⟩ := ho
    by_cases e : j = id
    · subst e; exact .inl ⟨j, _, k', h, h2⟩
    · rw [upd_ne _ _ e] at h1; exact .inl ⟨j, blk, k', h1, h2⟩
  grow _ _ h := h

theorem StoreSim.frz (hs : StoreSim A μ σ w) {id : Nat} {m : Bool} {k : Option Nat} {els : List D} (h : σ id = some (.lst m k els)) : StoreSim A μ (upd σ id (some (.lst false k els))) w := by
  refine hs.update (Guar.frz h) id (fun j blk e hj => by rw [upd_ne _ _ e] at hj; exact hj) (fun _ _ => rfl) (fun blk hb => ?_) (fun _ _ _ _ _ _ _ => rfl) (fun b k' blk hb hm => ?_)
  · rw [upd_same] at hb
    cases hb
    have := BRel.keep (Guar.frz (w := w) h) hs.alt (fun _ _ _ => rfl) (hs.blks id _ h)
    exact this
  · refine ⟨hs.amb id _ b k' h hm, fun j x k2 e hj hmj => e (hs.inj j id x _ b k2 k' (by rw [upd_ne _ _ e] at hj; exact hj) h hmj hm)⟩

def viewE0 (σ : Store) : V → Option D
  | .d x => some x
  | .loc id off len => match σ id with
    | some (.lst _ k els) => if off + len ≤ els.length then some (.vec k ((els.drop off).take len)) else none
    | _ => none
  | _ => none

def viewE1 (σ : Store) : V → Option D
  | .agg vs => (optAll (vs.map (viewE0 σ))).map D.agg
  | v => viewE0 σ v

def viewE (σ : Store) : V → Option D
  | .tup vs => (optAll (vs.map (viewE1 σ))).map D.tup
  | v => viewE1 σ v

theorem viewE0_sound (hs : StoreSim A μ σ w) {d : D} {u : Value} (h : viewE0 σ v = some d) (hv : VRel μ (full A μ σ) w v u) : DRel A w d u := by
  unfold viewE0 at h
  split at h
  · cases h
    cases hv with
    | d _ _ h => exact h.mono fun b o v h1 h2 => ⟨h1, fun h3 => h2 (.inr h3)⟩
  · rename_i id off len
    split at h
    · rename_i m k els hid
      split at h
      · rename_i hle
        cases h
        have := viewC_sound (hs.frz hid) (v := .loc id off len) (d := .vec k ((els.drop off).take len)) (by simp [viewC, upd_same, hle]) ((Guar.frz (w := w) hid).keepV hs.alt hv)
        exact this.mono fun b o v h1 h2 => ⟨h1, fun h3 => h2 (.inr h3)⟩
      · cases h
    · cases h
  · cases h

theorem viewE1_sound (hs : StoreSim A μ σ w) {d : D} {u : Value} (h : viewE1 σ v = some d) (hv : VRel μ (full A μ σ) w v u) : DRel A w d u := by
  unfold viewE1 at h
  split at h
  · rename_i vs
    cases hr : optAll (vs.map (viewE0 σ)) with
    | none => rw [hr] at h; simp at h
    | some r =>
      rw [hr] at h
      simp at h
      subst h
      obtain ⟨h1, h2⟩ := optAll_map hr
      cases hv with
      | agg _ cs hl hc =>
        refine .agg r cs (by omega) fun i d v hd hv => ?_
        have hi : i < vs.length := by have := (List.getElem?_eq_some_iff.1 hd).1; omega
        exact viewE0_sound hs (h2 i vs[i] d (by simp [hi]) hd) (hc i vs[i] v (by simp [hi]) hv)
  · exact viewE0_sound hs h hv

theorem viewE_sound (hs : StoreSim A μ σ w) {d : D} {u : Value} (h : viewE σ v = some d) (hv : VRel μ (full A μ σ) w v u) : DRel A w d u := by
  unfold viewE at h
  split at h
  · rename_i vs
    cases hr : optAll (vs.map (viewE1 σ)) with
    | none => rw [hr] at h; simp at h
    | some r =>
      rw [hr] at h
      simp at h
      subst h
      obtain ⟨h1, h2⟩ := optAll_map hr
      cases hv with
      | tup _ cs hl hc =>
        refine .tup r cs (by omega) fun i d v hd hv => ?_
        have hi : i < vs.length := by have := (List.getElem?_eq_some_iff.1 hd).1; omega
        exact viewE1_sound hs (h2 i vs[i] d (by simp [hi]) hd) (hc i vs[i] v (by simp [hi]) hv)
  · exact viewE1_sound hs h hv

/-- Code may go on as if from a weaker state. -/
theorem AWp.weak {c : ACode} {Q : Exit → S → Prop} {s s' : S} (hn : s'.n = s.n)
    (h : ∀ A μ w, StoreSim A μ s.σ w → StoreSim A μ s'.σ w ∧ Guar μ s.σ w μ s'.σ w ∧ ∀ i u, VRel μ (full A μ s.σ) w (s.T i) u → VRel μ (full A μ s'.σ) w (s'.T i) u) (hc : AWp P N c Q s') : AWp P N c Q s := by
  intro code hck A μ a w ⟨hsim, hfr⟩
  obtain ⟨h1, h2, h3⟩ := h A μ w hsim.store
  refine wp_mono (hc code hck A μ a w ⟨⟨hsim.size, hsim.defers, fun i => h3 i _ (hsim.tmps i), h1⟩, by rw [hn]; exact hfr⟩) fun e a' w' ⟨g1, s2, μ2, g2, g3, g4, g5⟩ => ?_
  exact ⟨g1, s2, μ2, g2, g3, h2.trans g4, by rw [← hn]; exact g5⟩

/-- Names are dropped, slots forgotten. -/
theorem AWp.drop {c : ACode} {Q : Exit → S → Prop} {s : S} (T' : Nat → V) (σ' : Store) (hT : ∀ i, T' i = s.T i ∨ T' i = V.undef) (hσ : ∀ id blk, σ' id = some blk → s.σ id = some blk) (h : AWp P N c Q ⟨T', σ', s.n⟩) : AWp P N c Q s := by
  refine AWp.weak (s' := ⟨T', σ', s.n⟩) rfl (fun A μ w hs => ⟨hs.drop hσ, Guar.drop hσ, fun i u hu => ?_⟩) h
  rcases hT i with h' | h' <;> simp only [h']
  · exact (Guar.drop hσ).keepV hs.alt hu
  · exact .d _ _ (.undef _)

/-- A value in which a list that is changed no more is seen as what it holds. -/
inductive Imm (id : Nat) (k : Option Nat) (els : List D) : V → V → Prop
  | refl (x : V) : Imm id k els x x
  | undef (x : V) : Imm id k els x V.undef
  | loc (off len) : off + len ≤ els.length → Imm id k els (.loc id off len) (.d (.vec k ((els.drop off).take len)))
  | agg (vs us : List V) : vs.length = us.length → (∀ (i : Nat) x y, vs[i]? = some x → us[i]? = some y → Imm id k els x y) → Imm id k els (.agg vs) (.agg us)
  | aggd (vs : List V) (us : List D) : vs.length = us.length → (∀ (i : Nat) x y, vs[i]? = some x → us[i]? = some y → Imm id k els x (.d y)) → Imm id k els (.agg vs) (.d (.agg us))

theorem Imm.sound (hs : StoreSim A μ σ w) {id : Nat} {m : Bool} {k : Option Nat} {els : List D} (hid : σ id = some (.lst m k els)) {v v' : V} (h : Imm id k els v v') : ∀ {u : Value}, VRel μ (full A μ σ) w v u → VRel μ (full A μ (upd σ id none)) w v' u := by
  have hσ : ∀ j blk, upd σ id none j = some blk → σ j = some blk := by
    intro j blk h
    by_cases e : j = id
    · subst e; simp [upd_same] at h
    · rw [upd_ne _ _ e] at h; exact h
  have hσ2 : ∀ j blk, upd σ id none j = some blk → upd σ id (some (.lst false k els)) j = some blk := by
    intro j blk h
    by_cases e : j = id
    · subst e; simp [upd_same] at h
    · rw [upd_ne _ _ e] at h ⊢; exact h
  induction h with
  | refl x => exact fun h => (Guar.drop hσ).keepV hs.alt h
  | undef x => exact fun _ => .d _ _ (.undef _)
  | loc off len hle =>
    intro u hu
    have := viewC_sound (hs.frz hid) (v := .loc id off len) (d := .vec k ((els.drop off).take len)) (by simp [viewC, upd_same, hle]) ((Guar.frz (w := w) hid).keepV hs.alt hu)
    exact .d _ _ ((Guar.drop hσ2).keepD hs.alt this)
  | agg vs us hl _ ih =>
    intro u hu
    cases hu with
    | agg _ cs h1 h2 =>
      refine .agg us cs (by omega) fun i x v hx hv => ?_
      have hi : i < vs.length := by have := (List.getElem?_eq_some_iff.1 hx).1; omega
      exact ih i vs[i] x (by simp [hi]) hx (h2 i vs[i] v (by simp [hi]) hv)
  | aggd vs us hl _ ih =>
    intro u hu
    cases hu with
    | agg _ cs h1 h2 =>
      refine .d _ _ (.agg us cs (by omega) fun i x v hx hv => ?_)
      have hi : i < vs.length := by have := (List.getElem?_eq_some_iff.1 hx).1; omega
      have := ih i vs[i] x (by simp [hi]) hx (h2 i vs[i] v (by simp [hi]) hv)
      cases this with | d _ _ h => exact h

/-- A list that is changed no more becomes plain data. -/
theorem AWp.imm {c : ACode} {Q : Exit → S → Prop} {s : S} (T' : Nat → V) {id : Nat} {m : Bool} {k : Option Nat} {els : List D} (hid : s.σ id = some (.lst m k els)) (hT : ∀ i, Imm id k els (s.T i) (T' i))
    (h : AWp P N c Q ⟨T', upd s.σ id none, s.n⟩) : AWp P N c Q s := by
  have hσ : ∀ j blk, upd s.σ id none j = some blk → s.σ j = some blk := by
    intro j blk h
    by_cases e : j = id
    · subst e; simp [upd_same] at h
    · rw [upd_ne _ _ e] at h; exact h
  exact AWp.weak (s' := ⟨T', upd s.σ id none, s.n⟩) rfl (fun A μ w hs => ⟨hs.drop hσ, Guar.drop hσ, fun i u hu => (hT i).sound hs hid hu⟩) h

/-- A list is written into no more. -/
theorem AWp.frz {c : ACode} {Q : Exit → S → Prop} {s : S} {id : Nat} {m : Bool} {k : Option Nat} {els : List D} (hid : s.σ id = some (.lst m k els)) (h : AWp P N c Q ⟨s.T, upd s.σ id (some (.lst false k els)), s.n⟩) : AWp P N c Q s :=
  AWp.weak (s' := ⟨s.T, upd s.σ id (some (.lst false k els)), s.n⟩) rfl (fun A μ w hs => ⟨hs.frz hid, Guar.frz hid, fun i u hu => (Guar.frz hid).keepV hs.alt hu⟩) h

/-! the equations of evaluation -/

theorem upd_ap {α : Type} (f : Nat → α) (i : Nat) (x : α) (j : Nat) : upd f i x j = if j = i then x else f j := rfl

end
end Go.AM
