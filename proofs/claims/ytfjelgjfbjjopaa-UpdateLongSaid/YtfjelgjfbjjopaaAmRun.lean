import Derived.Test.YtfjelgjfbjjopaaAmStep
set_option linter.unusedVariables false
set_option linter.unusedSectionVars false
set_option linter.unusedSimpArgs false
namespace Go.AM
open Go Go.RowKit
variable [Glob]
def fu (P : Program) (f : Nat) : Bool :=
  match P.funcs[f]? with
  | some fn => fn.name != "runtime.NumGoroutine" && fn.body.isSome
  | none => false
def PCall (P : Program) (f : Nat) (ds : List D) (r : D) : Prop :=
  fu P f = true ∧ ∀ (A : Nat → Nat → Prop) (w : World) (vs : Array Value), (∀ b o, A b o → b < w.heap.size) → ic A w → ds.length = vs.size → (∀ (i : Nat) d v, ds[i]? = some d → vs[i]? = some v → DRel A w d v) →
    Calls P f vs w fun e w' => ∃ cv, e = .returned cv ∧ DRel A w' r cv ∧ Below w.heap.size w w'
def cy (P : Program) (f : Nat) (vals : List V) (σ : au) (n : Nat) (v : V) (σ' : au) (n' : Nat) : Prop :=
  fu P f = true ∧ ∀ (A : Nat → Nat → Prop) (μ : Nat → Option aJ) (w : World) (vs : Array Value), aB A μ σ w → (∀ id, n ≤ id → μ id = none) → vals.length = vs.size →
    (∀ (i : Nat) x v, vals[i]? = some x → vs[i]? = some v → aw μ (ak A μ σ) w x v) →
    Calls P f vs w fun e w' => ∃ cv μ', e = .returned cv ∧ aw μ' (ak A μ' σ') w' v cv ∧ aB A μ' σ' w' ∧ aA μ σ w μ' σ' w' ∧ ∀ id, μ' id ≠ none → μ id ≠ none ∨ (n ≤ id ∧ id < n')
def dE (P : Program) (f : Nat) (vals : List V) (σ : au) (n : Nat) (v : V) (σ' : au) (n' : Nat) : Prop :=
  fu P f = true ∧ ∀ (A : Nat → Nat → Prop) (μ : Nat → Option aJ) (w : World) (vs : Array Value), aB A μ σ w → (∀ id, n ≤ id → id < n' → μ id = none) → vals.length = vs.size →
    (∀ (i : Nat) x v, vals[i]? = some x → vs[i]? = some v → aw μ (ak A μ σ) w x v) →
    Calls P f vs w fun e w' => ∃ cv μ', e = .returned cv ∧ aw μ' (ak A μ' σ') w' v cv ∧ aB A μ' σ' w' ∧ aA μ σ w μ' σ' w' ∧ ∀ id, μ' id ≠ none → μ id ≠ none ∨ (n ≤ id ∧ id < n')
inductive cK : D → D → Prop
  | refl (d) : cK d d
  | nils (k) : cK .nils (.vec k [])
  | agg (l m : List D) : l.length = m.length → (∀ (i : Nat) a b, l[i]? = some a → m[i]? = some b → cK a b) → cK (.agg l) (.agg m)
  | tup (l m : List D) : l.length = m.length → (∀ (i : Nat) a b, l[i]? = some a → m[i]? = some b → cK a b) → cK (.tup l) (.tup m)
theorem DRel.sub {own : Nat → Nat → Prop} {w : World} {d d' : D} (h : cK d d') : ∀ {v : Value}, DRel own w d v → DRel own w d' v := by
  induction h with
  | refl d => exact fun h => h
  | nils k => intro v h; cases h; exact .vecn k none
  | agg l m hl _ ih =>
    intro v h
    cases h with
    | agg _ cs h1 h2 =>
      refine .agg m cs (by omega) fun i d v hd hv => ?_
      have hi : i < l.length := by have := (List.getElem?_eq_some_iff.1 hd).1; omega
      exact ih i l[i] d (by simp [hi]) hd (h2 i l[i] v (by simp [hi]) hv)
  | tup l m hl _ ih =>
    intro v h
    cases h with
    | tup _ cs h1 h2 =>
      refine .tup m cs (by omega) fun i d v hd hv => ?_
      have hi : i < l.length := by have := (List.getElem?_eq_some_iff.1 hd).1; omega
      exact ih i l[i] d (by simp [hi]) hd (h2 i l[i] v (by simp [hi]) hv)
def bh (σ : au) : List V → List D → Prop
  | [], [] => True
  | v :: vs, d :: ds => (∃ d0, cO σ v = some d0 ∧ cK d0 d) ∧ bh σ vs ds
  | _, _ => False
section
variable {P : Program} {A : Nat → Nat → Prop} {μ : Nat → Option aJ} {σ σ' : au} {w : World}
theorem bh.sound (hs : aB A μ σ w) : ∀ {vals : List V} {ds : List D} {us : List Value}, bh σ vals ds → vals.length = us.length → (∀ (i : Nat) x v, vals[i]? = some x → us[i]? = some v → aw μ (ak A μ σ) w x v) →
    ds.length = us.length ∧ ∀ (i : Nat) d v, ds[i]? = some d → us[i]? = some v → DRel (ak A μ σ) w d v
  | [], [], us, _, hl, _ => ⟨hl, fun i d v h => by simp at h⟩
  | x :: vals, d :: ds, [], _, hl, _ => by simp at hl
  | x :: vals, d :: ds, u :: us, h, hl, hr => by
    obtain ⟨⟨d0, h1, h2⟩, h3⟩ := h
    obtain ⟨g1, g2⟩ := bh.sound hs h3 (us := us) (by simpa using hl) (fun i x v hx hv => hr (i + 1) x v (by simpa using hx) (by simpa using hv))
    refine ⟨by simp [g1], fun i d' v hd hv => ?_⟩
    cases i with
    | zero => simp at hd hv; subst hd; subst hv; exact (kD hs h1 (hr 0 x u rfl rfl)).sub h2
    | succ i => exact g2 i d' v (by simpa using hd) (by simpa using hv)
  | [], _ :: _, _, h, _, _ => h.elim
  | _ :: _, [], _, h, _, _ => h.elim
theorem aA.ofBelow (hs : aB A μ σ w) {w' : World} (h : Below w.heap.size w w') : aA μ σ w μ σ w' where
  os := h.os
  tape := h.tape
  output := h.output
  size := h.size
  block b hb _ := h.block b hb
  cells b c ty fr hc := ⟨c, by rw [h.block b (b5 hc)]; exact hc, rfl, fun _ _ => rfl⟩
  own _ _ h := .inl h
  ownB _ h := .inl h
  grow _ _ h := h
theorem aB.ofBelow (hs : aB A μ σ w) {w' : World} (h : Below w.heap.size w w') : aB A μ σ w' where
  blks j blk hj := bD.keep (aA.ofBelow hs h) hs.alt (fun b k hb => by
    obtain ⟨_, hc⟩ := bD.block (hs.blks j blk hj) hb
    exact h.block b (b5 hc)) (hs.blks j blk hj)
  inj := hs.inj
  amb := hs.amb
  alt b o h' := Nat.lt_of_lt_of_le (hs.alt b o h') h.size
  glob := hs.glob.mono ((aA.ofBelow hs h).keepCell hs.alt)
end
end Go.AM
