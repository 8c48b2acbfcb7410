import Derived.Test.YtkgegocfjalcbaaAmStep
/-
  AM, part 17: what a call of a function is; a region's operations in the text's order.
-/
set_option linter.unusedVariables false
set_option linter.unusedSectionVars false
set_option linter.unusedSimpArgs false
namespace Go.AM
open Go Go.RowKit
variable [Glob]

def callable (P : Program) (f : Nat) : Bool :=
  match P.funcs[f]? with
  | some fn => fn.name != "runtime.NumGoroutine" && fn.body.isSome
  | none => false

/-- A function called with plain data hands back a plain datum, and leaves all that was there as it was. -/
def PCall (P : Program) (f : Nat) (ds : List D) (r : D) : Prop :=
  callable P f = true ∧ ∀ (A : Nat → Nat → Prop) (w : World) (vs : Array Value), (∀ b o, A b o → b < w.heap.size) → GlobOk A w → ds.length = vs.size → (∀ (i : Nat) d v, ds[i]? = some d → vs[i]? = some v → DRel A w d v) →
    Calls P f vs w fun e w' => ∃ cv, e = .returned cv ∧ DRel A w' r cv ∧ Below w.heap.size w w'

/-- A function called with values of a store. -/
def SCall (P : Program) (f : Nat) (vals : List V) (σ : Store) (n : Nat) (v : V) (σ' : Store) (n' : Nat) : Prop :=
  callable P f = true ∧ ∀ (A : Nat → Nat → Prop) (μ : Nat → Option Place) (w : World) (vs : Array Value), StoreSim A μ σ w → (∀ id, n ≤ id → μ id = none) → vals.length = vs.size →
    (∀ (i : Nat) x v, vals[i]? = some x → vs[i]? = some v → VRel μ (full A μ σ) w x v) →
    Calls P f vs w fun e w' => ∃ cv μ', e = .returned cv ∧ VRel μ' (full A μ' σ') w' v cv ∧ StoreSim A μ' σ' w' ∧ Guar μ σ w μ' σ' w' ∧ ∀ id, μ' id ≠ none → μ id ≠ none ∨ (n ≤ id ∧ id < n')

/-- Nil where an empty list is as good. -/
inductive Sub : D → D → Prop
  | refl (d) : Sub d d
  | nils (k) : Sub .nils (.vec k [])
  | agg (l m : List D) : l.length = m.length → (∀ (i : Nat) a b, l[i]? = some a → m[i]? = some b → Sub a b) → Sub (.agg l) (.agg m)
  | tup (l m : List D) : l.length = m.length → (∀ (i : Nat) a b, l[i]? = some a → m[i]? = some b → Sub a b) → Sub (.tup l) (.tup m)

theorem DRel.sub {own : Nat → Nat → Prop} {w : World} {d d' : D} (h : Sub d d') : ∀ {v : Value}, DRel own w d v → DRel own w d' v := by
  induction h with
  | refl d => exact fun h => h
  | nils k => intro v h; cases h; exact .vecn k none
  | agg l m hl _ ih =>
    intro v h
    cases h with
    | agg _ cs h1 h2 =>
      refine .agg m cs (by omega) fun i d v hd hv => ?_
      have hi : i < l.length := by have := (List.getElem?_eq_some_iff.1 hd).1; omega
      exact ih i l[i] d (by simp [hi]) hd (h2 i l[i] v (by simp [hi]) hv)
  | tup l m hl _ ih =>
    intro v h
    cases h with
    | tup _ cs h1 h2 =>
      refine .tup m cs (by omega) fun i d v hd hv => ?_
      have hi : i < l.length := by have := (List.getElem?_eq_some_iff.1 hd).1; omega
      exact ih i l[i] d (by simp [hi]) hd (h2 i l[i] v (by simp [hi]) hv)

/-! values seen as data -/

def viewC (σ : Store) : V → Option D
  | .d x => some x
  | .loc id off len => match σ id with
    | some (.lst false k els) => if off + len ≤ els.length then some (.vec k ((els.drop off).take len)) else none
    | _ => none
  | _ => none

def viewA (σ : Store) : V → Option D
  | .agg vs => (optAll (vs.map (viewC σ))).map D.agg
  | v => viewC σ v

def ArgsOk (σ : Store) : List V → List D → Prop
  | [], [] => True
  | v :: vs, d :: ds => (∃ d0, viewA σ v = some d0 ∧ Sub d0 d) ∧ ArgsOk σ vs ds
  | _, _ => False

theorem optAll_map {α β : Type} {f : α → Option β} : ∀ {l : List α} {r : List β}, optAll (l.map f) = some r → l.length = r.length ∧ ∀ (i : Nat) a b, l[i]? = some a → r[i]? = some b → f a = some b
  | [], r, h => by simp at h; subst h; exact ⟨rfl, fun i a b h => by simp at h⟩
  | a :: l, r, h => by
    simp only [List.map_cons] at h
    cases hf : f a with
    | none => rw [hf] at h; simp at h
    | some b =>
      rw [hf] at h
      simp only [optAll_cons] at h
      cases hr : optAll (l.map f) with
      | none => rw [hr] at h; simp at h
      | some r' =>
        rw [hr] at h
        simp at h
        subst h
        obtain ⟨h1, h2⟩ := optAll_map hr
        refine ⟨by simp [h1], fun i x y hx hy => ?_⟩
        cases i with
        | zero => simp at hx hy; subst hx; subst hy; exact hf
        | succ i => exact h2 i x y (by simpa using hx) (by simpa using hy)

section
variable {P : Program} {A : Nat → Nat → Prop} {μ : Nat → Option Place} {σ σ' : Store} {w : World}

theorem viewC_sound (hs : StoreSim A μ σ w) {v : V} {d : D} {u : Value} (h : viewC σ v = some d) (hv : VRel μ (full A μ σ) w v u) : DRel (full A μ σ) w d u := by
  unfold viewC at h
  split at h
  · cases h
    cases hv with | d _ _ h => exact h
  · rename_i id off len
    split at h
    · rename_i k els hid
      split at h
      · rename_i hle
        cases h
        have hlen : ((els.drop off).take len).length = len := by simp; omega
        have hget : ∀ (i : Nat) d, ((els.drop off).take len)[i]? = some d → i < len ∧ els[off + i]? = some d := by
          intro i d hd
          rw [List.getElem?_take] at hd
          split at hd
          · rename_i hi; rw [List.getElem?_drop] at hd; exact ⟨hi, hd⟩
          · cases hd
        cases hv with
        | loc0 _ _ ad hm =>
          have : (els.drop off).take 0 = [] := by simp
          rw [this]
          exact .vecn k ad
        | loc _ _ _ b k' cap h1 h2 h3 h4 =>
          rcases hs.blks id _ hid with ⟨g1, _⟩ | ⟨b', c, ty, fr, g1, g2, g3, g4, g5⟩
          · rw [g1] at h1; cases h1
          · rw [g1] at h1; cases h1
            have hcell : ∀ (i : Nat) d (j : Nat) x, ((els.drop off).take len)[i]? = some d → d.cells[j]? = some x → ∃ v, c[(off + i) * stride k + j]? = some v ∧ v.oneCell' = true ∧ DRel (full A μ σ) w x v :=
              fun i d j x hd hx => (g5 _ d (hget i d hd).2).2 j x hx
            have := DRel.vec (own := full A μ σ) (w := w) k ((els.drop off).take len) b (off * stride k) cap (fun i j => c.getD ((off + i) * stride k + j) Go.undef) ⟨by rw [hlen]; exact h2, h3⟩
              (fun i d hd => (g5 _ d (hget i d hd).2).1)
              (fun i d j x hd hx => by
                obtain ⟨v, hv, _⟩ := hcell i d j x hd hx
                rw [cell?_of g2, show off * stride k + i * stride k + j = (off + i) * stride k + j by rw [Nat.add_mul], hv]; simp [hv])
              (fun i d j x hd hx => by
                rintro (⟨id', blk', q1, q2⟩ | hA)
                · have hpl : ∃ kk, μ id' = some (.at b kk) := by
                    cases hm' : μ id' with
                    | none => rw [hm'] at q2; cases blk' with
                      | lst m _ _ => cases m <;> exact q2.elim
                      | var _ => exact q2.elim
                    | some pl => cases pl with
                      | nil => rw [hm'] at q2; cases blk' with
                        | lst m _ _ => cases m <;> exact q2.elim
                        | var _ => exact q2.elim
                      | «at» b0 k0 =>
                        rw [hm'] at q2
                        cases blk' with
                        | lst m _ _ => cases m with
                          | true => have : b = b0 := q2; subst this; exact ⟨k0, rfl⟩
                          | false => obtain ⟨h, _⟩ := q2; subst h; exact ⟨k0, rfl⟩
                        | var _ => have : b = b0 := q2; subst this; exact ⟨k0, rfl⟩
                  obtain ⟨kk, hkk⟩ := hpl
                  have := hs.inj id' id blk' _ b kk k q1 hid hkk g1
                  subst this
                  rw [hid] at q1; cases q1
                  rw [g1] at q2
                  obtain ⟨_, q2⟩ := q2
                  have hj : j < stride k := by have := (List.getElem?_eq_some_iff.1 hx).1; rw [cells_len (g5 _ d (hget i d hd).2).1] at this; exact this
                  have hi := (List.getElem?_eq_some_iff.1 (hget i d hd).2).1
                  have : (off + i + 1) * stride k ≤ els.length * stride k := Nat.mul_le_mul_right _ hi
                  rw [Nat.add_mul, Nat.add_mul] at this
                  omega
                · exact hs.amb id _ b k hid g1 _ hA)
              (fun i d j x hd hx => by obtain ⟨v, hv, _, hr⟩ := hcell i d j x hd hx; simpa [hv] using hr)
              (fun i d j x hd hx => by obtain ⟨v, hv, ho, _⟩ := hcell i d j x hd hx; simpa [hv] using ho)
            rw [hlen] at this
            exact this
      · cases h
    · cases h
  · cases h

theorem viewA_sound (hs : StoreSim A μ σ w) {v : V} {d : D} {u : Value} (h : viewA σ v = some d) (hv : VRel μ (full A μ σ) w v u) : DRel (full A μ σ) w d u := by
  unfold viewA at h
  split at h
  · rename_i vs
    cases hr : optAll (vs.map (viewC σ)) with
    | none => rw [hr] at h; simp at h
    | some r =>
      rw [hr] at h
      simp at h
      subst h
      obtain ⟨h1, h2⟩ := optAll_map hr
      cases hv with
      | agg _ cs hl hc =>
        refine .agg r cs (by omega) fun i d v hd hv => ?_
        have hi : i < vs.length := by have := (List.getElem?_eq_some_iff.1 hd).1; omega
        exact viewC_sound hs (h2 i vs[i] d (by simp [hi]) hd) (hc i vs[i] v (by simp [hi]) hv)
  · exact viewC_sound hs h hv

theorem ArgsOk.sound (hs : StoreSim A μ σ w) : ∀ {vals : List V} {ds : List D} {us : List Value}, ArgsOk σ vals ds → vals.length = us.length → (∀ (i : Nat) x v, vals[i]? = some x → us[i]? = some v → VRel μ (full A μ σ) w x v) →
    ds.length = us.length ∧ ∀ (i : Nat) d v, ds[i]? = some d → us[i]? = some v → DRel (full A μ σ) w d v
  | [], [], us, _, hl, _ => ⟨hl, fun i d v h => by simp at h⟩
  | x :: vals, d :: ds, [], _, hl, _ => by simp at hl
  | x :: vals, d :: ds, u :: us, h, hl, hr => by
    obtain ⟨⟨d0, h1, h2⟩, h3⟩ := h
    obtain ⟨g1, g2⟩ := ArgsOk.sound hs h3 (us := us) (by simpa using hl) (fun i x v hx hv => hr (i + 1) x v (by simpa using hx) (by simpa using hv))
    refine ⟨by simp [g1], fun i d' v hd hv => ?_⟩
    cases i with
    | zero => simp at hd hv; subst hd; subst hv; exact (viewA_sound hs h1 (hr 0 x u rfl rfl)).sub h2
    | succ i => exact g2 i d' v (by simpa using hd) (by simpa using hv)
  | [], _ :: _, _, h, _, _ => h.elim
  | _ :: _, [], _, h, _, _ => h.elim

theorem Guar.ofBelow (hs : StoreSim A μ σ w) {w' : World} (h : Below w.heap.size w w') : Guar μ σ w μ σ w' where
  os := h.os
  tape := h.tape
  output := h.output
  size := h.size
  block b hb _ := h.block b hb
  cells b c ty fr hc := ⟨c, by rw [h.block b (heap_lt hc)]; exact hc, rfl, fun _ _ => rfl⟩
  own _ _ h := .inl h
  ownB _ h := .inl h
  grow _ _ h := h

theorem StoreSim.ofBelow (hs : StoreSim A μ σ w) {w' : World} (h : Below w.heap.size w w') : StoreSim A μ σ w' where
  blks j blk hj := BRel.keep (Guar.ofBelow hs h) hs.alt (fun b k hb => by
    obtain ⟨c, ty, fr, hc⟩ := BRel.block (hs.blks j blk hj) hb
    exact h.block b (heap_lt hc)) (hs.blks j blk hj)
  inj := hs.inj
  amb := hs.amb
  alt b o h' := Nat.lt_of_lt_of_le (hs.alt b o h') h.size
  glob := hs.glob.mono ((Guar.ofBelow hs h).keepCell hs.alt)

end
end Go.AM
