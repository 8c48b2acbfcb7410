import Derived.Test.YtnnkfanmokeiaaaAmFun
set_option linter.unusedVariables false
set_option linter.unusedSectionVars false
set_option linter.unusedSimpArgs false
namespace Go.AM
open Go Go.RowKit
variable [Glob]
section
variable {P : Program} {N : Nat} {A : Nat → Nat → Prop} {μ μ' : Nat → Option bg} {T T' : Nat → V} {σ σ' : ax} {w w' : World} {a : Act} {n n' : Nat} {v : V}
theorem ru {id : Nat} {m : Bool} {k : Option Nat} {els : List D} (h : σ id = some (.lst m k els)) {j b o : Nat} {blk : bd} (hj : al σ id (some (.lst false k els)) j = some blk) (ho : blk.ownsAt (μ j) b o) : cn μ σ b o := by
  by_cases e : j = id
  · subst e
    rw [be] at hj
    cases hj
    refine ⟨j, _, h, ?_⟩
    cases m with
    | false => exact ho
    | true =>
      cases hm : μ j with
      | none => rw [hm] at ho; exact ho.elim
      | some p => cases p with
        | nil => rw [hm] at ho; exact ho.elim
        | «at» b0 k0 => rw [hm] at ho; exact ho.1
  · rw [aR _ _ e] at hj
    exact ⟨j, blk, hj, ho⟩
theorem aO.frz {id : Nat} {m : Bool} {k : Option Nat} {els : List D} (h : σ id = some (.lst m k els)) : aO μ σ w μ (al σ id (some (.lst false k els))) w where
  os := rfl
  tape := rfl
  output := rfl
  size := Nat.le_refl _
  block _ _ _ := rfl
  cells _ c _ _ hc := ⟨c, hc, rfl, fun _ _ => rfl⟩
  own b o ho := let ⟨j, blk, h1, h2⟩ := ho; .inl (ru h h1 h2)
  ownB b ho := by
    obtain ⟨j, blk, k', h1, h2⟩ := ho
    by_cases e : j = id
    · subst e; exact .inl ⟨j, _, k', h, h2⟩
    · rw [aR _ _ e] at h1; exact .inl ⟨j, blk, k', h1, h2⟩
  grow _ _ h := h
theorem aK.frz (hs : aK A μ σ w) {id : Nat} {m : Bool} {k : Option Nat} {els : List D} (h : σ id = some (.lst m k els)) : aK A μ (al σ id (some (.lst false k els))) w := by
  refine hs.update (aO.frz h) id (fun j blk e hj => by rw [aR _ _ e] at hj; exact hj) (fun _ _ => rfl) (fun blk hb => ?_) (fun _ _ _ _ _ _ _ => rfl) (fun b k' blk hb hm => ?_)
  · rw [be] at hb
    cases hb
    have := bX.keep (aO.frz (w := w) h) hs.alt (fun _ _ _ => rfl) (hs.blks id _ h)
    exact this
  · refine ⟨hs.amb id _ b k' h hm, fun j x k2 e hj hmj => e (hs.inj j id x _ b k2 k' (by rw [aR _ _ e] at hj; exact hj) h hmj hm)⟩
def eo (σ : ax) : V → Option D
  | .d x => some x
  | .loc id off len => match σ id with
    | some (.lst _ k els) => if off + len ≤ els.length then some (.vec k ((els.drop off).take len)) else none
    | _ => none
  | _ => none
def dT (σ : ax) : V → Option D
  | .agg vs => (bK (vs.map (eo σ))).map D.agg
  | v => eo σ v
def gM (σ : ax) : V → Option D
  | .tup vs => (bK (vs.map (dT σ))).map D.tup
  | v => dT σ v
theorem nG (hs : aK A μ σ w) {d : D} {u : Value} (h : eo σ v = some d) (hv : aD μ (ar A μ σ) w v u) : DRel A w d u := by
  unfold eo at h
  split at h
  · cases h
    cases hv with
    | d _ _ h => exact h.mono fun b o v h1 h2 => ⟨h1, fun h3 => h2 (.inr h3)⟩
  · rename_i id off len
    split at h
    · rename_i m k els hid
      split at h
      · rename_i hle
        cases h
        have := gI (hs.frz hid) (v := .loc id off len) (d := .vec k ((els.drop off).take len)) (by simp [ct, be, hle]) ((aO.frz (w := w) hid).keepV hs.alt hv)
        exact this.mono fun b o v h1 h2 => ⟨h1, fun h3 => h2 (.inr h3)⟩
      · cases h
    · cases h
  · cases h
theorem nH (hs : aK A μ σ w) {d : D} {u : Value} (h : dT σ v = some d) (hv : aD μ (ar A μ σ) w v u) : DRel A w d u := by
  unfold dT at h
  split at h
  · rename_i vs
    cases hr : bK (vs.map (eo σ)) with
    | none => rw [hr] at h; simp at h
    | some r =>
      rw [hr] at h
      simp at h
      subst h
      obtain ⟨h1, h2⟩ := iB hr
      cases hv with
      | agg _ cs hl hc =>
        refine .agg r cs (by omega) fun i d v hd hv => ?_
        have hi : i < vs.length := by have := (List.getElem?_eq_some_iff.1 hd).1; omega
        exact nG hs (h2 i vs[i] d (by simp [hi]) hd) (hc i vs[i] v (by simp [hi]) hv)
  · exact nG hs h hv
theorem nI (hs : aK A μ σ w) {d : D} {u : Value} (h : gM σ v = some d) (hv : aD μ (ar A μ σ) w v u) : DRel A w d u := by
  unfold gM at h
  split at h
  · rename_i vs
    cases hr : bK (vs.map (dT σ)) with
    | none => rw [hr] at h; simp at h
    | some r =>
      rw [hr] at h
      simp at h
      subst h
      obtain ⟨h1, h2⟩ := iB hr
      cases hv with
      | tup _ cs hl hc =>
        refine .tup r cs (by omega) fun i d v hd hv => ?_
        have hi : i < vs.length := by have := (List.getElem?_eq_some_iff.1 hd).1; omega
        exact nH hs (h2 i vs[i] d (by simp [hi]) hd) (hc i vs[i] v (by simp [hi]) hv)
  · exact nH hs h hv
theorem kX {c : bw} {Q : Exit → S → Prop} {s s' : S} (hn : s'.n = s.n)
    (h : ∀ A μ w, aK A μ s.σ w → aK A μ s'.σ w ∧ aO μ s.σ w μ s'.σ w ∧ ∀ i u, aD μ (ar A μ s.σ) w (s.T i) u → aD μ (ar A μ s'.σ) w (s'.T i) u) (hc : bG P N c Q s') : bG P N c Q s := by
  intro code hck A μ a w ⟨hsim, hfr⟩
  obtain ⟨h1, h2, h3⟩ := h A μ w hsim.store
  refine wp_mono (hc code hck A μ a w ⟨⟨hsim.size, hsim.defers, fun i => h3 i _ (hsim.tmps i), h1⟩, by rw [hn]; exact hfr⟩) fun e a' w' ⟨g1, s2, μ2, g2, g3, g4, g5⟩ => ?_
  exact ⟨g1, s2, μ2, g2, g3, h2.trans g4, by rw [← hn]; exact g5⟩
theorem bG.drop {c : bw} {Q : Exit → S → Prop} {s : S} (T' : Nat → V) (σ' : ax) (hT : ∀ i, T' i = s.T i ∨ T' i = V.undef) (hσ : ∀ id blk, σ' id = some blk → s.σ id = some blk) (h : bG P N c Q ⟨T', σ', s.n⟩) : bG P N c Q s := by
  refine kX (s' := ⟨T', σ', s.n⟩) rfl (fun A μ w hs => ⟨hs.drop hσ, aO.drop hσ, fun i u hu => ?_⟩) h
  rcases hT i with h' | h' <;> simp only [h']
  · exact (aO.drop hσ).keepV hs.alt hu
  · exact .d _ _ (.undef _)
inductive eG (id : Nat) (k : Option Nat) (els : List D) : V → V → Prop
  | refl (x : V) : eG id k els x x
  | undef (x : V) : eG id k els x V.undef
  | loc (off len) : off + len ≤ els.length → eG id k els (.loc id off len) (.d (.vec k ((els.drop off).take len)))
  | agg (vs us : List V) : vs.length = us.length → (∀ (i : Nat) x y, vs[i]? = some x → us[i]? = some y → eG id k els x y) → eG id k els (.agg vs) (.agg us)
  | aggd (vs : List V) (us : List D) : vs.length = us.length → (∀ (i : Nat) x y, vs[i]? = some x → us[i]? = some y → eG id k els x (.d y)) → eG id k els (.agg vs) (.d (.agg us))
theorem eG.sound (hs : aK A μ σ w) {id : Nat} {m : Bool} {k : Option Nat} {els : List D} (hid : σ id = some (.lst m k els)) {v v' : V} (h : eG id k els v v') : ∀ {u : Value}, aD μ (ar A μ σ) w v u → aD μ (ar A μ (al σ id none)) w v' u := by
  have hσ : ∀ j blk, al σ id none j = some blk → σ j = some blk := by
    intro j blk h
    by_cases e : j = id
    · subst e; simp [be] at h
    · rw [aR _ _ e] at h; exact h
  have hσ2 : ∀ j blk, al σ id none j = some blk → al σ id (some (.lst false k els)) j = some blk := by
    intro j blk h
    by_cases e : j = id
    · subst e; simp [be] at h
    · rw [aR _ _ e] at h ⊢; exact h
  induction h with
  | refl x => exact fun h => (aO.drop hσ).keepV hs.alt h
  | undef x => exact fun _ => .d _ _ (.undef _)
  | loc off len hle =>
    intro u hu
    have := gI (hs.frz hid) (v := .loc id off len) (d := .vec k ((els.drop off).take len)) (by simp [ct, be, hle]) ((aO.frz (w := w) hid).keepV hs.alt hu)
    exact .d _ _ ((aO.drop hσ2).keepD hs.alt this)
  | agg vs us hl _ ih =>
    intro u hu
    cases hu with
    | agg _ cs h1 h2 =>
      refine .agg us cs (by omega) fun i x v hx hv => ?_
      have hi : i < vs.length := by have := (List.getElem?_eq_some_iff.1 hx).1; omega
      exact ih i vs[i] x (by simp [hi]) hx (h2 i vs[i] v (by simp [hi]) hv)
  | aggd vs us hl _ ih =>
    intro u hu
    cases hu with
    | agg _ cs h1 h2 =>
      refine .d _ _ (.agg us cs (by omega) fun i x v hx hv => ?_)
      have hi : i < vs.length := by have := (List.getElem?_eq_some_iff.1 hx).1; omega
      have := ih i vs[i] x (by simp [hi]) hx (h2 i vs[i] v (by simp [hi]) hv)
      cases this with | d _ _ h => exact h
theorem bG.imm {c : bw} {Q : Exit → S → Prop} {s : S} (T' : Nat → V) {id : Nat} {m : Bool} {k : Option Nat} {els : List D} (hid : s.σ id = some (.lst m k els)) (hT : ∀ i, eG id k els (s.T i) (T' i))
    (h : bG P N c Q ⟨T', al s.σ id none, s.n⟩) : bG P N c Q s := by
  have hσ : ∀ j blk, al s.σ id none j = some blk → s.σ j = some blk := by
    intro j blk h
    by_cases e : j = id
    · subst e; simp [be] at h
    · rw [aR _ _ e] at h; exact h
  exact kX (s' := ⟨T', al s.σ id none, s.n⟩) rfl (fun A μ w hs => ⟨hs.drop hσ, aO.drop hσ, fun i u hu => (hT i).sound hs hid hu⟩) h
theorem bG.frz {c : bw} {Q : Exit → S → Prop} {s : S} {id : Nat} {m : Bool} {k : Option Nat} {els : List D} (hid : s.σ id = some (.lst m k els)) (h : bG P N c Q ⟨s.T, al s.σ id (some (.lst false k els)), s.n⟩) : bG P N c Q s :=
  kX (s' := ⟨s.T, al s.σ id (some (.lst false k els)), s.n⟩) rfl (fun A μ w hs => ⟨hs.frz hid, aO.frz hid, fun i u hu => (aO.frz hid).keepV hs.alt hu⟩) h
theorem rv {α : Type} (f : Nat → α) (i : Nat) (x : α) (j : Nat) : al f i x j = if j = i then x else f j := rfl
theorem rx {k : IntKind} (hk : k.signed = false) (n : Int) : k.wrap n = n % 2 ^ k.bits := by
  simp only [IntKind.wrap, hk, Bool.false_and, Bool.false_eq_true, if_false]
theorem ry (n : Int) : IntKind.u8.wrap n = n % 256 := rx rfl n
theorem rz {n : Int} (h0 : -9223372036854775808 ≤ n) (h1 : n < 9223372036854775808) : IntKind.i64.wrap n = n := by
  have hb : IntKind.i64.bits = 64 := rfl
  have hs : IntKind.i64.signed = true := rfl
  simp only [IntKind.wrap, hb, hs, Bool.true_and]
  by_cases hn : 0 ≤ n
  · have e : n % (2 ^ 64 : Int) = n := Int.emod_eq_of_lt hn (by omega)
    simp only [e]
    rw [if_neg]
    simp; omega
  · have e : n % (2 ^ 64 : Int) = n + 2 ^ 64 := by
      rw [← Int.add_emod_right n]
      exact Int.emod_eq_of_lt (by omega) (by omega)
    simp only [e]
    rw [if_pos]
    · omega
    · simp; omega
end
end Go.AM
