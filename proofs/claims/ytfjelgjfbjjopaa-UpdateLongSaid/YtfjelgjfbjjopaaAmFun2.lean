import Derived.Test.YtfjelgjfbjjopaaAmFun
set_option linter.unusedVariables false
set_option linter.unusedSectionVars false
set_option linter.unusedSimpArgs false
namespace Go.AM
open Go Go.RowKit
variable [Glob]
section
variable {P : Program} {N : Nat} {A : Nat → Nat → Prop} {μ μ' : Nat → Option aJ} {T T' : Nat → V} {σ σ' : au} {w w' : World} {a : Act} {n n' : Nat} {v : V}
theorem nA {id : Nat} {m : Bool} {k : Option Nat} {els : List D} (h : σ id = some (.lst m k els)) {j b o : Nat} {blk : aK} (hj : aj σ id (some (.lst false k els)) j = some blk) (ho : blk.ownsAt (μ j) b o) : bJ μ σ b o := by
  by_cases e : j = id
  · subst e
    rw [aL] at hj
    cases hj
    refine ⟨j, _, h, ?_⟩
    cases m with
    | false => exact ho
    | true =>
      cases hm : μ j with
      | none => rw [hm] at ho; exact ho.elim
      | some p => cases p with
        | nil => rw [hm] at ho; exact ho.elim
        | «at» b0 k0 => rw [hm] at ho; exact ho.1
  · rw [aG _ _ e] at hj
    exact ⟨j, blk, hj, ho⟩
theorem aA.frz {id : Nat} {m : Bool} {k : Option Nat} {els : List D} (h : σ id = some (.lst m k els)) : aA μ σ w μ (aj σ id (some (.lst false k els))) w where
  os := rfl
  tape := rfl
  output := rfl
  size := Nat.le_refl _
  block _ _ _ := rfl
  cells _ c _ _ hc := ⟨c, hc, rfl, fun _ _ => rfl⟩
  own b o ho := let ⟨j, blk, h1, h2⟩ := ho; .inl (nA h h1 h2)
  ownB b ho := by
    obtain ⟨j, blk, k', h1, h2⟩ := ho
    by_cases e : j = id
    · subst e; exact .inl ⟨j, _, k', h, h2⟩
    · rw [aG _ _ e] at h1; exact .inl ⟨j, blk, k', h1, h2⟩
  grow _ _ h := h
theorem aB.frz (hs : aB A μ σ w) {id : Nat} {m : Bool} {k : Option Nat} {els : List D} (h : σ id = some (.lst m k els)) : aB A μ (aj σ id (some (.lst false k els))) w := by
  refine hs.update (aA.frz h) id (fun j blk e hj => by rw [aG _ _ e] at hj; exact hj) (fun _ _ => rfl) (fun blk hb => ?_) (fun _ _ _ _ _ _ _ => rfl) (fun b k' blk hb hm => ?_)
  · rw [aL] at hb
    cases hb
    have := bD.keep (aA.frz (w := w) h) hs.alt (fun _ _ _ => rfl) (hs.blks id _ h)
    exact this
  · refine ⟨hs.amb id _ b k' h hm, fun j x k2 e hj hmj => e (hs.inj j id x _ b k2 k' (by rw [aG _ _ e] at hj; exact hj) h hmj hm)⟩
def c4 (σ : au) : V → Option D
  | .d x => some x
  | .loc id off len => match σ id with
    | some (.lst _ k els) => if off + len ≤ els.length then some (.vec k ((els.drop off).take len)) else none
    | _ => none
  | _ => none
def dk (σ : au) : V → Option D
  | .agg vs => (bu (vs.map (c4 σ))).map D.agg
  | .loc id off len => match σ id with
    | some (.var cs) => if off = 0 ∧ len = cs.length then (match bu (cs.map (c4 σ)) with
        | some r => if r.all (fun d => d.shape none) then some (.vec none r) else none
        | none => none) else none
    | _ => c4 σ (.loc id off len)
  | v => c4 σ v
def iC (σ : au) : V → Option D
  | .tup vs => (bu (vs.map (dk σ))).map D.tup
  | v => dk σ v
theorem jy (hs : aB A μ σ w) {d : D} {u : Value} (h : c4 σ v = some d) (hv : aw μ (ak A μ σ) w v u) : DRel A w d u := by
  unfold c4 at h
  split at h
  · cases h
    cases hv with
    | d _ _ h => exact h.mono fun b o v h1 h2 => ⟨h1, fun h3 => h2 (.inr h3)⟩
  · rename_i id off len
    split at h
    · rename_i m k els hid
      split at h
      · rename_i hle
        cases h
        have := fS (hs.frz hid) (v := .loc id off len) (d := .vec k ((els.drop off).take len)) (by simp [cJ, aL, hle]) ((aA.frz (w := w) hid).keepV hs.alt hv)
        exact this.mono fun b o v h1 h2 => ⟨h1, fun h3 => h2 (.inr h3)⟩
      · cases h
    · cases h
  · cases h
theorem qC {d : D} (h : d.shape none = true) {j : Nat} {x : D} (hx : d.cells[j]? = some x) : j = 0 ∧ x = d := by
  cases d <;> simp [D.shape] at h <;> (cases j <;> simp [D.cells] at hx <;> exact ⟨rfl, hx.symm⟩)
theorem nB (hs : aB A μ σ w) {d : D} {u : Value} (h : dk σ v = some d) (hv : aw μ (ak A μ σ) w v u) : DRel A w d u := by
  unfold dk at h
  split at h
  · rename_i vs
    cases hr : bu (vs.map (c4 σ)) with
    | none => rw [hr] at h; simp at h
    | some r =>
      rw [hr] at h
      simp at h
      subst h
      obtain ⟨h1, h2⟩ := gG hr
      cases hv with
      | agg _ cs hl hc =>
        refine .agg r cs (by omega) fun i d v hd hv => ?_
        have hi : i < vs.length := by have := (List.getElem?_eq_some_iff.1 hd).1; omega
        exact jy hs (h2 i vs[i] d (by simp [hi]) hd) (hc i vs[i] v (by simp [hi]) hv)
  · rename_i id off len
    split at h
    · rename_i cs hid
      split at h
      · rename_i hc
        obtain ⟨rfl, rfl⟩ := hc
        cases hr : bu (cs.map (c4 σ)) with
        | none => rw [hr] at h; cases h
        | some r =>
          rw [hr] at h
          simp only at h
          split at h
          · rename_i hall
            cases h
            obtain ⟨h1, h2⟩ := gG hr
            have hsh : ∀ (i : Nat) d, r[i]? = some d → d.shape none = true := fun i d hd => (List.all_eq_true.1 hall) d (dx hd)
            obtain ⟨b, c, ty, fr, m1, m2, _, m4, m5⟩ := hs.blks id _ hid
            have key : ∀ (i : Nat) d (j : Nat) x, r[i]? = some d → d.cells[j]? = some x → j = 0 ∧ ∃ u, c[i]? = some u ∧ u.oneCell' = true ∧ DRel A w x u := by
              intro i d j x hd hx
              obtain ⟨rfl, rfl⟩ := qC (hsh i d hd) hx
              have hi : i < cs.length := by have := (List.getElem?_eq_some_iff.1 hd).1; omega
              have hcu : c[i]? = some (c[i]'(by omega)) := Array.getElem?_eq_getElem (by omega)
              obtain ⟨n1, n2⟩ := m5 i cs[i] _ (by simp [hi]) hcu
              exact ⟨rfl, _, hcu, n1, jy hs (h2 i cs[i] x (by simp [hi]) hd) n2⟩
            generalize hll : cs.length = ll at hv
            cases hv with
            | loc0 _ _ a hm =>
              have : r = [] := List.eq_nil_of_length_eq_zero (by omega)
              subst this
              exact .vecn _ a
            | loc _ _ _ b' k cap g1 g2 g3 g4 =>
              rw [m1] at g1
              cases g1
              have e0 : (0 : Nat) * ah none = 0 := Nat.zero_mul _
              rw [e0, ← hll, h1]
              refine .vec none r b 0 cap (fun i j => c.getD i Go.undef) ⟨by omega, g3⟩ hsh (fun i d j x hd hx => ?_) (fun i d j x hd hx => hs.amb id _ b none hid m1 _) (fun i d j x hd hx => ?_) (fun i d j x hd hx => ?_)
              · obtain ⟨rfl, u, hu, _, _⟩ := key i d j x hd hx
                rw [cD m2]
                have : (0 + i * ah none + 0) = i := by simp [ah]
                rw [this, hu]
                simp [Array.getD_eq_getD_getElem?, hu]
              · obtain ⟨rfl, u, hu, _, hr⟩ := key i d j x hd hx
                simpa [Array.getD_eq_getD_getElem?, hu] using hr
              · obtain ⟨rfl, u, hu, ho, _⟩ := key i d j x hd hx
                simpa [Array.getD_eq_getD_getElem?, hu] using ho
          · cases h
      · cases h
    · exact jy hs h hv
  · exact jy hs h hv
theorem nC (hs : aB A μ σ w) {d : D} {u : Value} (h : iC σ v = some d) (hv : aw μ (ak A μ σ) w v u) : DRel A w d u := by
  unfold iC at h
  split at h
  · rename_i vs
    cases hr : bu (vs.map (dk σ)) with
    | none => rw [hr] at h; simp at h
    | some r =>
      rw [hr] at h
      simp at h
      subst h
      obtain ⟨h1, h2⟩ := gG hr
      cases hv with
      | tup _ cs hl hc =>
        refine .tup r cs (by omega) fun i d v hd hv => ?_
        have hi : i < vs.length := by have := (List.getElem?_eq_some_iff.1 hd).1; omega
        exact nB hs (h2 i vs[i] d (by simp [hi]) hd) (hc i vs[i] v (by simp [hi]) hv)
  · exact nB hs h hv
theorem kU {c : bk} {Q : Exit → S → Prop} {s s' : S} (hn : s'.n = s.n)
    (h : ∀ A μ w, aB A μ s.σ w → aB A μ s'.σ w ∧ aA μ s.σ w μ s'.σ w ∧ ∀ i u, aw μ (ak A μ s.σ) w (s.T i) u → aw μ (ak A μ s'.σ) w (s'.T i) u) (hc : bv P N c Q s') : bv P N c Q s := by
  intro code hck A μ a w ⟨hsim, hfr⟩
  obtain ⟨h1, h2, h3⟩ := h A μ w hsim.store
  refine wp_mono (hc code hck A μ a w ⟨⟨hsim.size, hsim.defers, fun i => h3 i _ (hsim.tmps i), h1⟩, by rw [hn]; exact hfr⟩) fun e a' w' ⟨g1, s2, μ2, g2, g3, g4, g5⟩ => ?_
  exact ⟨g1, s2, μ2, g2, g3, h2.trans g4, by rw [← hn]; exact g5⟩
theorem bv.drop {c : bk} {Q : Exit → S → Prop} {s : S} (T' : Nat → V) (σ' : au) (hT : ∀ i, T' i = s.T i ∨ T' i = V.undef) (hσ : ∀ id blk, σ' id = some blk → s.σ id = some blk) (h : bv P N c Q ⟨T', σ', s.n⟩) : bv P N c Q s := by
  refine kU (s' := ⟨T', σ', s.n⟩) rfl (fun A μ w hs => ⟨hs.drop hσ, aA.drop hσ, fun i u hu => ?_⟩) h
  rcases hT i with h' | h' <;> simp only [h']
  · exact (aA.drop hσ).keepV hs.alt hu
  · exact .d _ _ (.undef _)
inductive d7 (id : Nat) (k : Option Nat) (els : List D) : V → V → Prop
  | refl (x : V) : d7 id k els x x
  | undef (x : V) : d7 id k els x V.undef
  | loc (off len) : off + len ≤ els.length → d7 id k els (.loc id off len) (.d (.vec k ((els.drop off).take len)))
  | agg (vs us : List V) : vs.length = us.length → (∀ (i : Nat) x y, vs[i]? = some x → us[i]? = some y → d7 id k els x y) → d7 id k els (.agg vs) (.agg us)
  | aggd (vs : List V) (us : List D) : vs.length = us.length → (∀ (i : Nat) x y, vs[i]? = some x → us[i]? = some y → d7 id k els x (.d y)) → d7 id k els (.agg vs) (.d (.agg us))
theorem d7.sound (hs : aB A μ σ w) {id : Nat} {m : Bool} {k : Option Nat} {els : List D} (hid : σ id = some (.lst m k els)) {v v' : V} (h : d7 id k els v v') : ∀ {u : Value}, aw μ (ak A μ σ) w v u → aw μ (ak A μ (aj σ id none)) w v' u := by
  have hσ : ∀ j blk, aj σ id none j = some blk → σ j = some blk := by
    intro j blk h
    by_cases e : j = id
    · subst e; simp [aL] at h
    · rw [aG _ _ e] at h; exact h
  have hσ2 : ∀ j blk, aj σ id none j = some blk → aj σ id (some (.lst false k els)) j = some blk := by
    intro j blk h
    by_cases e : j = id
    · subst e; simp [aL] at h
    · rw [aG _ _ e] at h ⊢; exact h
  induction h with
  | refl x => exact fun h => (aA.drop hσ).keepV hs.alt h
  | undef x => exact fun _ => .d _ _ (.undef _)
  | loc off len hle =>
    intro u hu
    have := fS (hs.frz hid) (v := .loc id off len) (d := .vec k ((els.drop off).take len)) (by simp [cJ, aL, hle]) ((aA.frz (w := w) hid).keepV hs.alt hu)
    exact .d _ _ ((aA.drop hσ2).keepD hs.alt this)
  | agg vs us hl _ ih =>
    intro u hu
    cases hu with
    | agg _ cs h1 h2 =>
      refine .agg us cs (by omega) fun i x v hx hv => ?_
      have hi : i < vs.length := by have := (List.getElem?_eq_some_iff.1 hx).1; omega
      exact ih i vs[i] x (by simp [hi]) hx (h2 i vs[i] v (by simp [hi]) hv)
  | aggd vs us hl _ ih =>
    intro u hu
    cases hu with
    | agg _ cs h1 h2 =>
      refine .d _ _ (.agg us cs (by omega) fun i x v hx hv => ?_)
      have hi : i < vs.length := by have := (List.getElem?_eq_some_iff.1 hx).1; omega
      have := ih i vs[i] x (by simp [hi]) hx (h2 i vs[i] v (by simp [hi]) hv)
      cases this with | d _ _ h => exact h
theorem bv.imm {c : bk} {Q : Exit → S → Prop} {s : S} (T' : Nat → V) {id : Nat} {m : Bool} {k : Option Nat} {els : List D} (hid : s.σ id = some (.lst m k els)) (hT : ∀ i, d7 id k els (s.T i) (T' i))
    (h : bv P N c Q ⟨T', aj s.σ id none, s.n⟩) : bv P N c Q s := by
  have hσ : ∀ j blk, aj s.σ id none j = some blk → s.σ j = some blk := by
    intro j blk h
    by_cases e : j = id
    · subst e; simp [aL] at h
    · rw [aG _ _ e] at h; exact h
  exact kU (s' := ⟨T', aj s.σ id none, s.n⟩) rfl (fun A μ w hs => ⟨hs.drop hσ, aA.drop hσ, fun i u hu => (hT i).sound hs hid hu⟩) h
theorem bv.frz {c : bk} {Q : Exit → S → Prop} {s : S} {id : Nat} {m : Bool} {k : Option Nat} {els : List D} (hid : s.σ id = some (.lst m k els)) (h : bv P N c Q ⟨s.T, aj s.σ id (some (.lst false k els)), s.n⟩) : bv P N c Q s :=
  kU (s' := ⟨s.T, aj s.σ id (some (.lst false k els)), s.n⟩) rfl (fun A μ w hs => ⟨hs.frz hid, aA.frz hid, fun i u hu => (aA.frz hid).keepV hs.alt hu⟩) h
theorem qD {α : Type} (f : Nat → α) (i : Nat) (x : α) (j : Nat) : aj f i x j = if j = i then x else f j := rfl
theorem qE {k : IntKind} (hk : k.signed = false) (n : Int) : k.wrap n = n % 2 ^ k.bits := by
  simp only [IntKind.wrap, hk, Bool.false_and, Bool.false_eq_true, if_false]
theorem qF (n : Int) : IntKind.u8.wrap n = n % 256 := qE rfl n
theorem gK {n : Int} (h0 : -9223372036854775808 ≤ n) (h1 : n < 9223372036854775808) : IntKind.i64.wrap n = n := by
  have hb : IntKind.i64.bits = 64 := rfl
  have hs : IntKind.i64.signed = true := rfl
  simp only [IntKind.wrap, hb, hs, Bool.true_and]
  by_cases hn : 0 ≤ n
  · have e : n % (2 ^ 64 : Int) = n := Int.emod_eq_of_lt hn (by omega)
    simp only [e]
    rw [if_neg]
    simp; omega
  · have e : n % (2 ^ 64 : Int) = n + 2 ^ 64 := by
      rw [← Int.add_emod_right n]
      exact Int.emod_eq_of_lt (by omega) (by omega)
    simp only [e]
    rw [if_pos]
    · omega
    · simp; omega
end
end Go.AM
