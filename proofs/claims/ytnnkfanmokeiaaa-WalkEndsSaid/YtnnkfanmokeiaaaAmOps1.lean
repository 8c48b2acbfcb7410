import Derived.Test.YtnnkfanmokeiaaaAmStore
import Derived.Laws.Cells
import Derived.Laws.Rows
set_option linter.unusedVariables false
set_option linter.unusedSectionVars false
set_option linter.unusedSimpArgs false
namespace Go.AM
open Go Go.RowKit
variable [Glob]
def cI (μ : Nat → Option bg) (O : Nat → Nat → Prop) (w : World) (e : AX → V) (a : Act) : Prop := ∀ x y, br x y = true → aD μ O w (e x) (a.eval y)
def bw (P : Program) (A : Nat → Nat → Prop) (μ : Nat → Option bg) (σ : az) (w : World) (o : Oper) (a : Act) (v : V) (σ' : az) (n n' : Nat) : Prop :=
  ∃ nx cv w' μ', (execOp a.eval o).run P w = .ok nx w' ∧ (nx = .value cv ∨ (nx = .skip ∧ cv = Go.undef)) ∧ aD μ' (au A μ' σ') w' v cv ∧ aH A μ' σ' w' ∧
    aL μ σ w μ' σ' w' ∧ ∀ id, μ' id ≠ none → μ id ≠ none ∨ (n ≤ id ∧ id < n')
section
variable {P : Program} {A : Nat → Nat → Prop} {μ : Nat → Option bg} {σ σ' : az} {w : World} {o : Oper} {a : Act} {v : V} {n n' : Nat}
theorem bw.val (hs : aH A μ σ w) {cv : Value} (hr : (execOp a.eval o).run P w = .ok (.value cv) w) (hv : aD μ (au A μ σ) w v cv) : bw P A μ σ w o a v σ n n :=
  ⟨_, cv, w, μ, hr, .inl rfl, hv, hs, aL.refl _ _ _, fun id h => .inl h⟩
theorem kM {t : TypeId} {d : TypeDesc} (h : P.underlying t = some d) : ∃ i, P.info? t = some i := by
  unfold Program.underlying at h
  cases hi : P.info? t with
  | none => simp [hi] at h
  | some i => exact ⟨i, rfl⟩
theorem fZ {t : TypeId} {i : TypeInfo} (h : P.info? t = some i) : (sizeOf t).run P w = .ok (P.cellsOf t) w := by
  simp [sizeOf, typeInfo, Program.cellsOf, h]
theorem bE {t : TypeId} {d : TypeDesc} (h : P.underlying t = some d) : (underlying t).run P w = .ok d w := by
  simp [underlying, h]
theorem cY {t : TypeId} {k : Option Nat} (h : bN P t = some k) : (isAgg t).run P w = .ok k.isSome w ∧ (sizeOf t).run P w = .ok (ap k) w ∧ P.cellsOf t = ap k ∧ (∃ i, P.info? t = some i) ∧ 0 < ap k := by
  unfold bN at h
  cases hu : P.underlying t with
  | none => simp [hu] at h
  | some d =>
    obtain ⟨i, hi⟩ := kM hu
    have hsz := fZ (w := w) hi
    rw [hu] at h
    cases d <;> simp only [reduceCtorEq] at h
    all_goals
      split at h
      · rename_i hc
        cases h
        refine ⟨by simp [isAgg, bE hu], ?_, ?_, ⟨i, hi⟩, ?_⟩
        · rw [hsz]; simp [ap]; try omega
        · simp [ap]; try omega
        · simp [ap]; try omega
      · cases h
theorem ox {k : Option Nat} {d : D} (h : d.shape k = true) : cM d.cells 0 k = some d := by
  cases d <;> simp [D.shape] at h <;> subst h <;> simp [D.cells, cM]
theorem ic {own : Nat → Nat → Prop} {t : TypeId} {k : Option Nat} (ht : bN P t = some k) (cs : List D) (b off j : Nat) (f : Nat → Value)
    (hc : ∀ (i : Nat) x, cs[i]? = some x → w.cell? ⟨b, off + i, none⟩ = some (f i)) (hr : ∀ (i : Nat) x, cs[i]? = some x → DRel own w x (f i)) {x : D} (hx : cM cs j k = some x) :
    ∃ v, (loadVar t ⟨b, off + j, none⟩).run P w = .ok v w ∧ DRel own w x v := by
  obtain ⟨h1, h2, _⟩ := cY (w := w) ht
  cases k with
  | none =>
    refine ⟨f j, ?_, hr j x hx⟩
    simp [loadVar, h1, hc j x hx]
  | some m =>
    simp only [cM] at hx
    split at hx
    · rename_i hm
      cases hx
      have hload := run_loadCells (P := P) w ⟨b, off + j, none⟩ m (fun i => f (j + i)) (fun i hi => by
        rw [Addr.add_lit, Nat.add_assoc]
        have : j + i < cs.length := by omega
        exact hc (j + i) cs[j + i] (by simp [this]))
      refine ⟨.agg ((List.range m).map fun i => f (j + i)).toArray, by simp [loadVar, h1, h2, hload], .agg _ _ (by simp; omega) fun i d v hd hv => ?_⟩
      have hi : i < m := by
        have := (List.getElem?_eq_some_iff.1 hd).1
        simp at this; omega
      have e1 : cs[j + i]? = some d := by
        rw [List.getElem?_take, if_pos hi, List.getElem?_drop] at hd
        exact hd
      have e2 : v = f (j + i) := by
        simp [hi] at hv
        exact hv.symm
      rw [e2]
      exact hr (j + i) d e1
    · cases hx
theorem kN {O : Nat → Nat → Prop} {t : TypeId} {k : Option Nat} (ht : bN P t = some k) (cs : List V) (b j : Nat) (c : Array Value) (hsz : cs.length = c.size)
    (hc : ∀ o, w.cell? ⟨b, o, none⟩ = c[o]?) (hr : ∀ (i : Nat) x v, cs[i]? = some x → c[i]? = some v → aD μ O w x v) {x : V} (hx : dz cs j k = some x) :
    ∃ v, (loadVar t ⟨b, j, none⟩).run P w = .ok v w ∧ aD μ O w x v := by
  obtain ⟨h1, h2, _⟩ := cY (w := w) ht
  cases k with
  | none =>
    simp only [dz] at hx
    have hj : j < c.size := by have := (List.getElem?_eq_some_iff.1 hx).1; omega
    refine ⟨c[j], ?_, hr j x _ hx (by simp [hj])⟩
    simp [loadVar, h1, hc j, hj]
  | some m =>
    simp only [dz] at hx
    split at hx
    · rename_i hm
      cases hx
      have hload := run_loadCells (P := P) w ⟨b, j, none⟩ m (fun i => c.getD (j + i) Go.undef) (fun i hi => by
        rw [Addr.add_lit, hc]
        have : j + i < c.size := by omega
        simp [this])
      refine ⟨.agg ((List.range m).map fun i => c.getD (j + i) Go.undef).toArray, by simp [loadVar, h1, h2, hload], hZ (by simp; omega) fun i y v hy hv => ?_⟩
      have hi : i < m := by
        have := (List.getElem?_eq_some_iff.1 hy).1
        simp at this; omega
      have e1 : cs[j + i]? = some y := by
        rw [List.getElem?_take, if_pos hi, List.getElem?_drop] at hy
        exact hy
      have hlt : j + i < c.size := by omega
      have e2 : v = c[j + i] := by
        simp [hi, hlt] at hv
        exact hv.symm
      rw [e2]
      exact hr (j + i) y _ e1 (by simp [hlt])
    · cases hx
theorem ie {kb k : Option Nat} {d x : D} {j : Nat} (hs : d.shape kb = true) (h : dA kb d j k = some x) : cM d.cells j k = some x := by
  unfold dA at h
  split at h
  · rename_i hc
    obtain ⟨rfl, rfl⟩ := hc
    cases h
    exact ox hs
  · split at h
    · exact h
    · cases h
theorem kO {k : Option Nat} {x : AX} {t : TypeId} {y : Operand} {e : AX → V} (ho : o.op = .load t y) (ht : bN P t = some k) (he : aD μ (au A μ σ) w (e x) (a.eval y))
    (hs : aH A μ σ w) (hv : cd σ k (e x) = some v) : bw P A μ σ w o a v σ n n := by
  unfold cd at hv
  split at hv
  · rename_i kb d j heq
    rw [heq] at he
    cases he with
    | d _ _ hd =>
      cases hl : dA kb d j k with
      | none => simp [hl] at hv
      | some z =>
        simp [hl] at hv
        subst hv
        generalize hav : a.eval y = av at hd
        cases hd with
        | cptr _ _ _ b off f hsh h1 h2 h3 h4 =>
          obtain ⟨u, hu, hru⟩ := ic (P := P) (own := au A μ σ) ht d.cells b off j f h1 h3 (ie hsh hl)
          exact .val hs (cv := u) (by simp [execOp, ho, hav, Instr.loadAt, Instr.sureAddr, hu]) (.d _ _ hru)
  · rename_i id i j heq
    rw [heq] at he
    generalize hav : a.eval y = av at he
    cases he with
    | ptr _ _ _ b kp hp =>
      split at hv
      · rename_i m kb els hid
        split at hv
        · rename_i d hd
          cases hl : dA kb d j k with
          | none => simp [hl] at hv
          | some z =>
            simp [hl] at hv
            subst hv
            have hb := hs.blks id _ hid
            rcases hb with ⟨h1, _⟩ | ⟨b', c, ty, fr, h1, h2, h3, h4, h5⟩
            · simp [h1] at hp
            · rw [h1] at hp
              cases hp
              obtain ⟨hsh, hcs⟩ := h5 i d hd
              obtain ⟨u, hu, hru⟩ := ic (P := P) (own := au A μ σ) (w := w) ht d.cells b (i * ap kp) j (fun j => c.getD (i * ap kp + j) Go.undef)
                (fun j x hx => by obtain ⟨v, hv, _⟩ := hcs j x hx; rw [dJ h2]; simp [hv])
                (fun j x hx => by obtain ⟨v, hv, _, hr⟩ := hcs j x hx; simpa [hv] using hr) (ie hsh hl)
              exact .val hs (cv := u) (by simp [execOp, ho, hav, Instr.loadAt, Instr.sureAddr, hu]) (.d _ _ hru)
        · cases hv
      · rename_i cs hid
        have hb := hs.blks id _ hid
        obtain ⟨b', c, ty, fr, h1, h2, h3, h4, h5⟩ := hb
        rw [h1] at hp
        cases hp
        obtain ⟨u, hu, hru⟩ := kN (P := P) (O := au A μ σ) ht cs b (i + j) c h4 (fun o => dJ h2) (fun i x v hx hv => (h5 i x v hx hv).2) hv
        exact .val hs (cv := u) (by simp [execOp, ho, hav, Instr.loadAt, Instr.sureAddr, hu]) hru
      · cases hv
  · cases hv
end
end Go.AM
