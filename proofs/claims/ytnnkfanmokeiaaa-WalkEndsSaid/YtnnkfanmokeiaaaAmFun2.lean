import Derived.Test.YtnnkfanmokeiaaaAmFun
set_option linter.unusedVariables false
set_option linter.unusedSectionVars false
set_option linter.unusedSimpArgs false
namespace Go.AM
open Go Go.RowKit
variable [Glob]
section
variable {P : Program} {N : Nat} {A : Nat → Nat → Prop} {μ μ' : Nat → Option bg} {T T' : Nat → V} {σ σ' : az} {w w' : World} {a : Act} {n n' : Nat} {v : V}
theorem p7 {id : Nat} {m : Bool} {k : Option Nat} {els : List D} (h : σ id = some (.lst m k els)) {j b o : Nat} {blk : aQ} (hj : ak σ id (some (.lst false k els)) j = some blk) (ho : blk.ownsAt (μ j) b o) : cr μ σ b o := by
  by_cases e : j = id
  · subst e
    rw [bb] at hj
    cases hj
    refine ⟨j, _, h, ?_⟩
    cases m with
    | false => exact ho
    | true =>
      cases hm : μ j with
      | none => rw [hm] at ho; exact ho.elim
      | some p => cases p with
        | nil => rw [hm] at ho; exact ho.elim
        | «at» b0 k0 => rw [hm] at ho; exact ho.1
  · rw [aM _ _ e] at hj
    exact ⟨j, blk, hj, ho⟩
theorem aL.frz {id : Nat} {m : Bool} {k : Option Nat} {els : List D} (h : σ id = some (.lst m k els)) : aL μ σ w μ (ak σ id (some (.lst false k els))) w where
  os := rfl
  tape := rfl
  output := rfl
  size := Nat.le_refl _
  block _ _ _ := rfl
  cells _ c _ _ hc := ⟨c, hc, rfl, fun _ _ => rfl⟩
  own b o ho := let ⟨j, blk, h1, h2⟩ := ho; .inl (p7 h h1 h2)
  ownB b ho := by
    obtain ⟨j, blk, k', h1, h2⟩ := ho
    by_cases e : j = id
    · subst e; exact .inl ⟨j, _, k', h, h2⟩
    · rw [aM _ _ e] at h1; exact .inl ⟨j, blk, k', h1, h2⟩
  grow _ _ h := h
theorem aH.frz (hs : aH A μ σ w) {id : Nat} {m : Bool} {k : Option Nat} {els : List D} (h : σ id = some (.lst m k els)) : aH A μ (ak σ id (some (.lst false k els))) w := by
  refine hs.update (aL.frz h) id (fun j blk e hj => by rw [aM _ _ e] at hj; exact hj) (fun _ _ => rfl) (fun blk hb => ?_) (fun _ _ _ _ _ _ _ => rfl) (fun b k' blk hb hm => ?_)
  · rw [bb] at hb
    cases hb
    have := bZ.keep (aL.frz (w := w) h) hs.alt (fun _ _ _ => rfl) (hs.blks id _ h)
    exact this
  · refine ⟨hs.amb id _ b k' h hm, fun j x k2 e hj hmj => e (hs.inj j id x _ b k2 k' (by rw [aM _ _ e] at hj; exact hj) h hmj hm)⟩
def d7 (σ : az) : V → Option D
  | .d x => some x
  | .loc id off len => match σ id with
    | some (.lst _ k els) => if off + len ≤ els.length then some (.vec k ((els.drop off).take len)) else none
    | _ => none
  | _ => none
def dP (σ : az) : V → Option D
  | .agg vs => (bP (vs.map (d7 σ))).map D.agg
  | v => d7 σ v
def ga (σ : az) : V → Option D
  | .tup vs => (bP (vs.map (dP σ))).map D.tup
  | v => dP σ v
theorem me (hs : aH A μ σ w) {d : D} {u : Value} (h : d7 σ v = some d) (hv : aD μ (au A μ σ) w v u) : DRel A w d u := by
  unfold d7 at h
  split at h
  · cases h
    cases hv with
    | d _ _ h => exact h.mono fun b o v h1 h2 => ⟨h1, fun h3 => h2 (.inr h3)⟩
  · rename_i id off len
    split at h
    · rename_i m k els hid
      split at h
      · rename_i hle
        cases h
        have := f6 (hs.frz hid) (v := .loc id off len) (d := .vec k ((els.drop off).take len)) (by simp [cE, bb, hle]) ((aL.frz (w := w) hid).keepV hs.alt hv)
        exact this.mono fun b o v h1 h2 => ⟨h1, fun h3 => h2 (.inr h3)⟩
      · cases h
    · cases h
  · cases h
theorem mf (hs : aH A μ σ w) {d : D} {u : Value} (h : dP σ v = some d) (hv : aD μ (au A μ σ) w v u) : DRel A w d u := by
  unfold dP at h
  split at h
  · rename_i vs
    cases hr : bP (vs.map (d7 σ)) with
    | none => rw [hr] at h; simp at h
    | some r =>
      rw [hr] at h
      simp at h
      subst h
      obtain ⟨h1, h2⟩ := gM hr
      cases hv with
      | agg _ cs hl hc =>
        refine .agg r cs (by omega) fun i d v hd hv => ?_
        have hi : i < vs.length := by have := (List.getElem?_eq_some_iff.1 hd).1; omega
        exact me hs (h2 i vs[i] d (by simp [hi]) hd) (hc i vs[i] v (by simp [hi]) hv)
  · exact me hs h hv
theorem mg (hs : aH A μ σ w) {d : D} {u : Value} (h : ga σ v = some d) (hv : aD μ (au A μ σ) w v u) : DRel A w d u := by
  unfold ga at h
  split at h
  · rename_i vs
    cases hr : bP (vs.map (dP σ)) with
    | none => rw [hr] at h; simp at h
    | some r =>
      rw [hr] at h
      simp at h
      subst h
      obtain ⟨h1, h2⟩ := gM hr
      cases hv with
      | tup _ cs hl hc =>
        refine .tup r cs (by omega) fun i d v hd hv => ?_
        have hi : i < vs.length := by have := (List.getElem?_eq_some_iff.1 hd).1; omega
        exact mf hs (h2 i vs[i] d (by simp [hi]) hd) (hc i vs[i] v (by simp [hi]) hv)
  · exact mf hs h hv
theorem jI {c : bv} {Q : Exit → S → Prop} {s s' : S} (hn : s'.n = s.n)
    (h : ∀ A μ w, aH A μ s.σ w → aH A μ s'.σ w ∧ aL μ s.σ w μ s'.σ w ∧ ∀ i u, aD μ (au A μ s.σ) w (s.T i) u → aD μ (au A μ s'.σ) w (s'.T i) u) (hc : bH P N c Q s') : bH P N c Q s := by
  intro code hck A μ a w ⟨hsim, hfr⟩
  obtain ⟨h1, h2, h3⟩ := h A μ w hsim.store
  refine wp_mono (hc code hck A μ a w ⟨⟨hsim.size, hsim.defers, fun i => h3 i _ (hsim.tmps i), h1⟩, by rw [hn]; exact hfr⟩) fun e a' w' ⟨g1, s2, μ2, g2, g3, g4, g5⟩ => ?_
  exact ⟨g1, s2, μ2, g2, g3, h2.trans g4, by rw [← hn]; exact g5⟩
theorem bH.drop {c : bv} {Q : Exit → S → Prop} {s : S} (T' : Nat → V) (σ' : az) (hT : ∀ i, T' i = s.T i ∨ T' i = V.undef) (hσ : ∀ id blk, σ' id = some blk → s.σ id = some blk) (h : bH P N c Q ⟨T', σ', s.n⟩) : bH P N c Q s := by
  refine jI (s' := ⟨T', σ', s.n⟩) rfl (fun A μ w hs => ⟨hs.drop hσ, aL.drop hσ, fun i u hu => ?_⟩) h
  rcases hT i with h' | h' <;> simp only [h']
  · exact (aL.drop hσ).keepV hs.alt hu
  · exact .d _ _ (.undef _)
inductive d8 (id : Nat) (k : Option Nat) (els : List D) : V → V → Prop
  | refl (x : V) : d8 id k els x x
  | undef (x : V) : d8 id k els x V.undef
  | loc (off len) : off + len ≤ els.length → d8 id k els (.loc id off len) (.d (.vec k ((els.drop off).take len)))
  | agg (vs us : List V) : vs.length = us.length → (∀ (i : Nat) x y, vs[i]? = some x → us[i]? = some y → d8 id k els x y) → d8 id k els (.agg vs) (.agg us)
  | aggd (vs : List V) (us : List D) : vs.length = us.length → (∀ (i : Nat) x y, vs[i]? = some x → us[i]? = some y → d8 id k els x (.d y)) → d8 id k els (.agg vs) (.d (.agg us))
theorem d8.sound (hs : aH A μ σ w) {id : Nat} {m : Bool} {k : Option Nat} {els : List D} (hid : σ id = some (.lst m k els)) {v v' : V} (h : d8 id k els v v') : ∀ {u : Value}, aD μ (au A μ σ) w v u → aD μ (au A μ (ak σ id none)) w v' u := by
  have hσ : ∀ j blk, ak σ id none j = some blk → σ j = some blk := by
    intro j blk h
    by_cases e : j = id
    · subst e; simp [bb] at h
    · rw [aM _ _ e] at h; exact h
  have hσ2 : ∀ j blk, ak σ id none j = some blk → ak σ id (some (.lst false k els)) j = some blk := by
    intro j blk h
    by_cases e : j = id
    · subst e; simp [bb] at h
    · rw [aM _ _ e] at h ⊢; exact h
  induction h with
  | refl x => exact fun h => (aL.drop hσ).keepV hs.alt h
  | undef x => exact fun _ => .d _ _ (.undef _)
  | loc off len hle =>
    intro u hu
    have := f6 (hs.frz hid) (v := .loc id off len) (d := .vec k ((els.drop off).take len)) (by simp [cE, bb, hle]) ((aL.frz (w := w) hid).keepV hs.alt hu)
    exact .d _ _ ((aL.drop hσ2).keepD hs.alt this)
  | agg vs us hl _ ih =>
    intro u hu
    cases hu with
    | agg _ cs h1 h2 =>
      refine .agg us cs (by omega) fun i x v hx hv => ?_
      have hi : i < vs.length := by have := (List.getElem?_eq_some_iff.1 hx).1; omega
      exact ih i vs[i] x (by simp [hi]) hx (h2 i vs[i] v (by simp [hi]) hv)
  | aggd vs us hl _ ih =>
    intro u hu
    cases hu with
    | agg _ cs h1 h2 =>
      refine .d _ _ (.agg us cs (by omega) fun i x v hx hv => ?_)
      have hi : i < vs.length := by have := (List.getElem?_eq_some_iff.1 hx).1; omega
      have := ih i vs[i] x (by simp [hi]) hx (h2 i vs[i] v (by simp [hi]) hv)
      cases this with | d _ _ h => exact h
theorem bH.imm {c : bv} {Q : Exit → S → Prop} {s : S} (T' : Nat → V) {id : Nat} {m : Bool} {k : Option Nat} {els : List D} (hid : s.σ id = some (.lst m k els)) (hT : ∀ i, d8 id k els (s.T i) (T' i))
    (h : bH P N c Q ⟨T', ak s.σ id none, s.n⟩) : bH P N c Q s := by
  have hσ : ∀ j blk, ak s.σ id none j = some blk → s.σ j = some blk := by
    intro j blk h
    by_cases e : j = id
    · subst e; simp [bb] at h
    · rw [aM _ _ e] at h; exact h
  exact jI (s' := ⟨T', ak s.σ id none, s.n⟩) rfl (fun A μ w hs => ⟨hs.drop hσ, aL.drop hσ, fun i u hu => (hT i).sound hs hid hu⟩) h
theorem bH.frz {c : bv} {Q : Exit → S → Prop} {s : S} {id : Nat} {m : Bool} {k : Option Nat} {els : List D} (hid : s.σ id = some (.lst m k els)) (h : bH P N c Q ⟨s.T, ak s.σ id (some (.lst false k els)), s.n⟩) : bH P N c Q s :=
  jI (s' := ⟨s.T, ak s.σ id (some (.lst false k els)), s.n⟩) rfl (fun A μ w hs => ⟨hs.frz hid, aL.frz hid, fun i u hu => (aL.frz hid).keepV hs.alt hu⟩) h
theorem p8 {α : Type} (f : Nat → α) (i : Nat) (x : α) (j : Nat) : ak f i x j = if j = i then x else f j := rfl
end
end Go.AM
