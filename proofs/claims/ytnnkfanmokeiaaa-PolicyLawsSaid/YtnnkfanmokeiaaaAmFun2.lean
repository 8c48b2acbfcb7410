import Derived.Test.YtnnkfanmokeiaaaAmWp2
/-  Several texts in one. -/
section
set_option linter.unusedVariables false
set_option linter.unusedSectionVars false
set_option linter.unusedSimpArgs false
namespace Go.AM
open Go Go.RowKit
variable [Glob]
inductive ef where
  | t (n : Nat)
  | cell (n : Nat) (k : Option Nat)
def eK (P : Program) : List ef → List ResultVar → Bool
  | [], [] => true
  | .t n :: l, .tmp m :: r => n == m && eK P l r
  | .cell n k :: l, .cell m ty :: r => n == m && bQ P ty == some k && eK P l r
  | _, _ => false
def jF (s : S) : ef → Option V
  | .t n => some (s.T n)
  | .cell n k => cn s.σ k (s.T n)
def dJ (s : S) : List ef → Option (List V)
  | [] => some []
  | r :: l => match jF s r, dJ s l with
    | some v, some vs => some (v :: vs)
    | _, _ => none
def gv : List V → V
  | [v] => v
  | vs => jp vs
structure bH where
  n : Nat
  code : bB
  res : List ef
def bL (P : Program) (f : Nat) (af : bH) : Bool :=
  match P.funcs[f]? with
  | some fn => fn.name != "runtime.NumGoroutine" && fn.ntmps == af.n && eK P af.res fn.results.toList && (match fn.body with
    | some c => cz P af.n af.code c
    | none => false)
  | none => false
def jG (tmps : Array Value) : ResultVar → Sem Value
  | .tmp t => pure (tmps.getD t Go.undef)
  | .cell a t => do loadVar t (← asAddr (tmps.getD a Go.undef))
def eM (vals : List V) : Nat → V := fun i => (vals[i]?).getD V.undef
section
variable {P : Program} {N : Nat} {A : Nat → Nat → Prop} {μ μ' : Nat → Option bh} {T T' : Nat → V} {σ σ' : az} {w w' : World} {a : Act} {n n' : Nat} {v : V}
theorem pS {O : Nat → Nat → Prop} {vs : List V} {cs : Array Value} (hl : vs.length = cs.size) (h : ∀ (i : Nat) x v, vs[i]? = some x → cs[i]? = some v → aD μ O w x v) :
    aD μ O w (jp vs) (.tuple cs) := by
  unfold jp
  split
  · rename_i ds hds
    have := iC hds
    subst this
    refine .d _ _ (.tup ds cs (by simpa using hl) fun i d v hd hv => ?_)
    have := h i (.d d) v (by simp [hd]) hv
    cases this with | d _ _ h => exact h
  · exact .tup vs cs hl h
theorem tP {k : Option Nat} {x : V} {t : TypeId} {av : Value} (ht : bQ P t = some k) (he : aD μ (au A μ σ) w x av)
    (hs : aI A μ σ w) (hv : cn σ k x = some v) : ∃ ad u, av = .pointer (some ad) ∧ (loadVar t ad).run P w = .ok u w ∧ aD μ (au A μ σ) w v u := by
  unfold cn at hv
  split at hv
  · rename_i kb d j
    cases he with
    | d _ _ hd =>
      cases hl : dY kb d j k with
      | none => simp [hl] at hv
      | some z =>
        simp [hl] at hv
        subst hv
        cases hd with
        | cptr _ _ _ b off f hsh h1 h2 h3 h4 =>
          obtain ⟨u, hu, hru⟩ := kn (P := P) (own := au A μ σ) ht d.cells b off j f h1 h3 (ko hsh hl)
          exact ⟨_, u, rfl, hu, (.d _ _ hru)⟩
  · rename_i id i j
    cases he with
    | ptr _ _ _ b kp hp =>
      split at hv
      · rename_i m kb els hid
        split at hv
        · rename_i d hd
          cases hl : dY kb d j k with
          | none => simp [hl] at hv
          | some z =>
            simp [hl] at hv
            subst hv
            have hb := hs.blks id _ hid
            rcases hb with ⟨h1, _⟩ | ⟨b', c, ty, fr, h1, h2, h3, h4, h5⟩
            · simp [h1] at hp
            · rw [h1] at hp
              cases hp
              obtain ⟨hsh, hcs⟩ := h5 i d hd
              obtain ⟨u, hu, hru⟩ := kn (P := P) (own := au A μ σ) (w := w) ht d.cells b (i * ao kp) j (fun j => c.getD (i * ao kp + j) Go.undef)
                (fun j x hx => by obtain ⟨v, hv, _⟩ := hcs j x hx; rw [dO h2]; simp [hv])
                (fun j x hx => by obtain ⟨v, hv, _, hr⟩ := hcs j x hx; simpa [hv] using hr) (ko hsh hl)
              exact ⟨_, u, rfl, hu, (.d _ _ hru)⟩
        · cases hv
      · rename_i cs hid
        have hb := hs.blks id _ hid
        obtain ⟨b', c, ty, fr, h1, h2, h3, h4, h5⟩ := hb
        rw [h1] at hp
        cases hp
        obtain ⟨u, hu, hru⟩ := oB (P := P) (O := au A μ σ) ht cs b (i + j) c h4 (fun o => dO h2) (fun i x v hx hv => (h5 i x v hx hv).2) hv
        exact ⟨_, u, rfl, by simpa using hu, hru⟩
      · cases hv
  · cases hv
theorem ms (hs : aI A μ σ w) {tmps : Array Value} (ht : ∀ i, aD μ (au A μ σ) w (T i) (tmps.getD i Go.undef)) : ∀ {l : List ef} {rs : List ResultVar} {vs : List V}, eK P l rs = true → dJ ⟨T, σ, n⟩ l = some vs →
    ∃ cs : List Value, (rs.mapM (jG tmps)).run P w = .ok cs w ∧ vs.length = cs.length ∧ ∀ (i : Nat) x v, vs[i]? = some x → cs[i]? = some v → aD μ (au A μ σ) w x v
  | [], [], vs, _, hv => by
    simp [dJ] at hv; subst hv
    exact ⟨[], by simp, rfl, fun i x v h => by simp at h⟩
  | .t n1 :: l, .tmp m :: rs, vs, hc, hv => by
    simp only [eK, Bool.and_eq_true, beq_iff_eq] at hc
    obtain ⟨rfl, hc⟩ := hc
    simp only [dJ, jF] at hv
    split at hv
    · rename_i v1 vs1 h1 h2
      cases hv; cases h1
      obtain ⟨cs, g1, g2, g3⟩ := ms hs ht hc h2
      refine ⟨tmps.getD n1 Go.undef :: cs, ?_, by simp [g2], fun i x v hx hv => ?_⟩
      · rw [List.mapM_cons]; simp [g1, jG, -Array.getD_eq_getD_getElem?]
      · cases i with
        | zero => simp at hx hv; subst hx; subst hv; exact by simpa using ht n1
        | succ i => exact g3 i x v (by simpa using hx) (by simpa using hv)
    · cases hv
  | .cell n1 k :: l, .cell m ty :: rs, vs, hc, hv => by
    simp only [eK, Bool.and_eq_true, beq_iff_eq] at hc
    obtain ⟨⟨rfl, hk⟩, hc⟩ := hc
    simp only [dJ, jF] at hv
    split at hv
    · rename_i v1 vs1 h1 h2
      cases hv
      obtain ⟨cs, g1, g2, g3⟩ := ms hs ht hc h2
      have hld : ∃ cv, (jG tmps (.cell n1 ty)).run P w = .ok cv w ∧ aD μ (au A μ σ) w v1 cv := by
        obtain ⟨ad, u, e1, e2, e3⟩ := tP hk (ht n1) hs h1
        exact ⟨u, by simp only [jG, e1, asAddr]; simp [e2], e3⟩
      obtain ⟨cv, q1, q2⟩ := hld
      refine ⟨cv :: cs, ?_, by simp [g2], fun i x v hx hv => ?_⟩
      · rw [List.mapM_cons]; simp [g1, q1, -Array.getD_eq_getD_getElem?]
      · cases i with
        | zero => simp at hx hv; subst hx; subst hv; exact q2
        | succ i => exact g3 i x v (by simpa using hx) (by simpa using hv)
    · cases hv
  | .t _ :: _, [], _, hc, _ => by simp [eK] at hc
  | .cell .. :: _, [], _, hc, _ => by simp [eK] at hc
  | .t _ :: _, .cell .. :: _, _, hc, _ => by simp [eK] at hc
  | .cell .. :: _, .tmp _ :: _, _, hc, _ => by simp [eK] at hc
  | [], _ :: _, _, hc, _ => by simp [eK] at hc
theorem tQ (hs : aI A μ σ w) {tmps : Array Value} (ht : ∀ i, aD μ (au A μ σ) w (T i) (tmps.getD i Go.undef)) {l : List ef} {fn : Func} {vs : List V} (hc : eK P l fn.results.toList = true) (hv : dJ ⟨T, σ, n⟩ l = some vs) :
    ∃ cv, (results fn tmps).run P w = .ok cv w ∧ aD μ (au A μ σ) w (gv vs) cv := by
  obtain ⟨cs, h1, h2, h3⟩ := ms hs ht hc hv
  have he : results fn tmps = (do let vs ← fn.results.mapM (jG tmps); pure (if h : vs.size = 1 then vs[0] else .tuple vs)) := by
    unfold results
    congr 1
  rw [he, Array.mapM_eq_mapM_toList]
  simp only [bind_map_left, bind_pure_comp]
  refine ⟨if h : cs.toArray.size = 1 then cs.toArray[0] else .tuple cs.toArray, by simp [h1], ?_⟩
  match vs, cs, h2, h3 with
  | [], [], _, h3 => simp [gv]; exact pS (by simp) (fun i x v h => by simp at h)
  | [x], [c], _, h3 => simpa [gv] using h3 0 x c rfl rfl
  | x :: y :: vs, c :: d :: cs, h2, h3 =>
    simp [gv]
    exact pS (by simpa using h2) (fun i x v hx hv => h3 i x v hx (by simpa using hv))
theorem jH {f : Nat} {af : bH} (h : bL P f af = true) : gL P f = true ∧ ∃ fn c, P.funcs[f]? = some fn ∧ fn.body = some c ∧ fn.ntmps = af.n ∧ eK P af.res fn.results.toList = true ∧ cz P af.n af.code c = true := by
  unfold bL at h
  split at h
  · rename_i fn hf
    simp only [Bool.and_eq_true, bne_iff_ne, beq_iff_eq] at h
    obtain ⟨⟨⟨h1, h2⟩, h3⟩, h4⟩ := h
    cases hb : fn.body with
    | none => rw [hb] at h4; cases h4
    | some c =>
      rw [hb] at h4
      exact ⟨by simp [gL, hf, hb, h1], fn, c, hf, hb, h2, h3, h4⟩
  · cases h
end
end Go.AM
end
section
set_option linter.unusedVariables false
set_option linter.unusedSectionVars false
set_option linter.unusedSimpArgs false
namespace Go.AM
open Go Go.RowKit
variable [Glob]
section
variable {P : Program} {N : Nat} {A : Nat → Nat → Prop} {μ μ' : Nat → Option bh} {T T' : Nat → V} {σ σ' : az} {w w' : World} {a : Act} {n n' : Nat} {v : V}
theorem tR {id : Nat} {m : Bool} {k : Option Nat} {els : List D} (h : σ id = some (.lst m k els)) {j b o : Nat} {blk : bf} (hj : ak σ id (some (.lst false k els)) j = some blk) (ho : blk.ownsAt (μ j) b o) : cA μ σ b o := by
  by_cases e : j = id
  · subst e
    rw [bk] at hj
    cases hj
    refine ⟨j, _, h, ?_⟩
    cases m with
    | false => exact ho
    | true =>
      cases hm : μ j with
      | none => rw [hm] at ho; exact ho.elim
      | some p => cases p with
        | nil => rw [hm] at ho; exact ho.elim
        | «at» b0 k0 => rw [hm] at ho; exact ho.1
  · rw [aT _ _ e] at hj
    exact ⟨j, blk, hj, ho⟩
theorem aM.frz {id : Nat} {m : Bool} {k : Option Nat} {els : List D} (h : σ id = some (.lst m k els)) : aM μ σ w μ (ak σ id (some (.lst false k els))) w where
  os := rfl
  tape := rfl
  output := rfl
  size := Nat.le_refl _
  block _ _ _ := rfl
  cells _ c _ _ hc := ⟨c, hc, rfl, fun _ _ => rfl⟩
  own b o ho := let ⟨j, blk, h1, h2⟩ := ho; .inl (tR h h1 h2)
  ownB b ho := by
    obtain ⟨j, blk, k', h1, h2⟩ := ho
    by_cases e : j = id
    · subst e; exact .inl ⟨j, _, k', h, h2⟩
    · rw [aT _ _ e] at h1; exact .inl ⟨j, blk, k', h1, h2⟩
  grow _ _ h := h
theorem aI.frz (hs : aI A μ σ w) {id : Nat} {m : Bool} {k : Option Nat} {els : List D} (h : σ id = some (.lst m k els)) : aI A μ (ak σ id (some (.lst false k els))) w := by
  refine hs.update (aM.frz h) id (fun j blk e hj => by rw [aT _ _ e] at hj; exact hj) (fun _ _ => rfl) (fun blk hb => ?_) (fun _ _ _ _ _ _ _ => rfl) (fun b k' blk hb hm => ?_)
  · rw [bk] at hb
    cases hb
    have := b4.keep (aM.frz (w := w) h) hs.alt (fun _ _ _ => rfl) (hs.blks id _ h)
    exact this
  · refine ⟨hs.amb id _ b k' h hm, fun j x k2 e hj hmj => e (hs.inj j id x _ b k2 k' (by rw [aT _ _ e] at hj; exact hj) h hmj hm)⟩
def ff (σ : az) : V → Option D
  | .d x => some x
  | .loc id off len => match σ id with
    | some (.lst _ k els) => if off + len ≤ els.length then some (.vec k ((els.drop off).take len)) else none
    | _ => none
  | _ => none
def eN (σ : az) : V → Option D
  | .agg vs => (bP (vs.map (ff σ))).map D.agg
  | v => ff σ v
def iK (σ : az) : V → Option D
  | .tup vs => (bP (vs.map (eN σ))).map D.tup
  | v => eN σ v
theorem pT (hs : aI A μ σ w) {d : D} {u : Value} (h : ff σ v = some d) (hv : aD μ (au A μ σ) w v u) : DRel A w d u := by
  unfold ff at h
  split at h
  · cases h
    cases hv with
    | d _ _ h => exact h.mono fun b o v h1 h2 => ⟨h1, fun h3 => h2 (.inr h3)⟩
  · rename_i id off len
    split at h
    · rename_i m k els hid
      split at h
      · rename_i hle
        cases h
        have := iH (hs.frz hid) (v := .loc id off len) (d := .vec k ((els.drop off).take len)) (by simp [cD, bk, hle]) ((aM.frz (w := w) hid).keepV hs.alt hv)
        exact this.mono fun b o v h1 h2 => ⟨h1, fun h3 => h2 (.inr h3)⟩
      · cases h
    · cases h
  · cases h
theorem pU (hs : aI A μ σ w) {d : D} {u : Value} (h : eN σ v = some d) (hv : aD μ (au A μ σ) w v u) : DRel A w d u := by
  unfold eN at h
  split at h
  · rename_i vs
    cases hr : bP (vs.map (ff σ)) with
    | none => rw [hr] at h; simp at h
    | some r =>
      rw [hr] at h
      simp at h
      subst h
      obtain ⟨h1, h2⟩ := jB hr
      cases hv with
      | agg _ cs hl hc =>
        refine .agg r cs (by omega) fun i d v hd hv => ?_
        have hi : i < vs.length := by have := (List.getElem?_eq_some_iff.1 hd).1; omega
        exact pT hs (h2 i vs[i] d (by simp [hi]) hd) (hc i vs[i] v (by simp [hi]) hv)
  · exact pT hs h hv
theorem pV (hs : aI A μ σ w) {d : D} {u : Value} (h : iK σ v = some d) (hv : aD μ (au A μ σ) w v u) : DRel A w d u := by
  unfold iK at h
  split at h
  · rename_i vs
    cases hr : bP (vs.map (eN σ)) with
    | none => rw [hr] at h; simp at h
    | some r =>
      rw [hr] at h
      simp at h
      subst h
      obtain ⟨h1, h2⟩ := jB hr
      cases hv with
      | tup _ cs hl hc =>
        refine .tup r cs (by omega) fun i d v hd hv => ?_
        have hi : i < vs.length := by have := (List.getElem?_eq_some_iff.1 hd).1; omega
        exact pU hs (h2 i vs[i] d (by simp [hi]) hd) (hc i vs[i] v (by simp [hi]) hv)
  · exact pU hs h hv
theorem mt {c : bB} {Q : Exit → S → Prop} {s s' : S} (hn : s'.n = s.n)
    (h : ∀ A μ w, aI A μ s.σ w → aI A μ s'.σ w ∧ aM μ s.σ w μ s'.σ w ∧ ∀ i u, aD μ (au A μ s.σ) w (s.T i) u → aD μ (au A μ s'.σ) w (s'.T i) u) (hc : bG P N c Q s') : bG P N c Q s := by
  intro code hck A μ a w ⟨hsim, hfr⟩
  obtain ⟨h1, h2, h3⟩ := h A μ w hsim.store
  refine wp_mono (hc code hck A μ a w ⟨⟨hsim.size, hsim.defers, fun i => h3 i _ (hsim.tmps i), h1⟩, by rw [hn]; exact hfr⟩) fun e a' w' ⟨g1, s2, μ2, g2, g3, g4, g5⟩ => ?_
  exact ⟨g1, s2, μ2, g2, g3, h2.trans g4, by rw [← hn]; exact g5⟩
theorem bG.drop {c : bB} {Q : Exit → S → Prop} {s : S} (T' : Nat → V) (σ' : az) (hT : ∀ i, T' i = s.T i ∨ T' i = V.undef) (hσ : ∀ id blk, σ' id = some blk → s.σ id = some blk) (h : bG P N c Q ⟨T', σ', s.n⟩) : bG P N c Q s := by
  refine mt (s' := ⟨T', σ', s.n⟩) rfl (fun A μ w hs => ⟨hs.drop hσ, aM.drop hσ, fun i u hu => ?_⟩) h
  rcases hT i with h' | h' <;> simp only [h']
  · exact (aM.drop hσ).keepV hs.alt hu
  · exact .d _ _ (.undef _)
inductive fx (id : Nat) (k : Option Nat) (els : List D) : V → V → Prop
  | refl (x : V) : fx id k els x x
  | undef (x : V) : fx id k els x V.undef
  | loc (off len) : off + len ≤ els.length → fx id k els (.loc id off len) (.d (.vec k ((els.drop off).take len)))
  | agg (vs us : List V) : vs.length = us.length → (∀ (i : Nat) x y, vs[i]? = some x → us[i]? = some y → fx id k els x y) → fx id k els (.agg vs) (.agg us)
  | aggd (vs : List V) (us : List D) : vs.length = us.length → (∀ (i : Nat) x y, vs[i]? = some x → us[i]? = some y → fx id k els x (.d y)) → fx id k els (.agg vs) (.d (.agg us))
theorem fx.sound (hs : aI A μ σ w) {id : Nat} {m : Bool} {k : Option Nat} {els : List D} (hid : σ id = some (.lst m k els)) {v v' : V} (h : fx id k els v v') : ∀ {u : Value}, aD μ (au A μ σ) w v u → aD μ (au A μ (ak σ id none)) w v' u := by
  have hσ : ∀ j blk, ak σ id none j = some blk → σ j = some blk := by
    intro j blk h
    by_cases e : j = id
    · subst e; simp [bk] at h
    · rw [aT _ _ e] at h; exact h
  have hσ2 : ∀ j blk, ak σ id none j = some blk → ak σ id (some (.lst false k els)) j = some blk := by
    intro j blk h
    by_cases e : j = id
    · subst e; simp [bk] at h
    · rw [aT _ _ e] at h ⊢; exact h
  induction h with
  | refl x => exact fun h => (aM.drop hσ).keepV hs.alt h
  | undef x => exact fun _ => .d _ _ (.undef _)
  | loc off len hle =>
    intro u hu
    have := iH (hs.frz hid) (v := .loc id off len) (d := .vec k ((els.drop off).take len)) (by simp [cD, bk, hle]) ((aM.frz (w := w) hid).keepV hs.alt hu)
    exact .d _ _ ((aM.drop hσ2).keepD hs.alt this)
  | agg vs us hl _ ih =>
    intro u hu
    cases hu with
    | agg _ cs h1 h2 =>
      refine .agg us cs (by omega) fun i x v hx hv => ?_
      have hi : i < vs.length := by have := (List.getElem?_eq_some_iff.1 hx).1; omega
      exact ih i vs[i] x (by simp [hi]) hx (h2 i vs[i] v (by simp [hi]) hv)
  | aggd vs us hl _ ih =>
    intro u hu
    cases hu with
    | agg _ cs h1 h2 =>
      refine .d _ _ (.agg us cs (by omega) fun i x v hx hv => ?_)
      have hi : i < vs.length := by have := (List.getElem?_eq_some_iff.1 hx).1; omega
      have := ih i vs[i] x (by simp [hi]) hx (h2 i vs[i] v (by simp [hi]) hv)
      cases this with | d _ _ h => exact h
theorem bG.imm {c : bB} {Q : Exit → S → Prop} {s : S} (T' : Nat → V) {id : Nat} {m : Bool} {k : Option Nat} {els : List D} (hid : s.σ id = some (.lst m k els)) (hT : ∀ i, fx id k els (s.T i) (T' i))
    (h : bG P N c Q ⟨T', ak s.σ id none, s.n⟩) : bG P N c Q s := by
  have hσ : ∀ j blk, ak s.σ id none j = some blk → s.σ j = some blk := by
    intro j blk h
    by_cases e : j = id
    · subst e; simp [bk] at h
    · rw [aT _ _ e] at h; exact h
  exact mt (s' := ⟨T', ak s.σ id none, s.n⟩) rfl (fun A μ w hs => ⟨hs.drop hσ, aM.drop hσ, fun i u hu => (hT i).sound hs hid hu⟩) h
theorem bG.frz {c : bB} {Q : Exit → S → Prop} {s : S} {id : Nat} {m : Bool} {k : Option Nat} {els : List D} (hid : s.σ id = some (.lst m k els)) (h : bG P N c Q ⟨s.T, ak s.σ id (some (.lst false k els)), s.n⟩) : bG P N c Q s :=
  mt (s' := ⟨s.T, ak s.σ id (some (.lst false k els)), s.n⟩) rfl (fun A μ w hs => ⟨hs.frz hid, aM.frz hid, fun i u hu => (aM.frz hid).keepV hs.alt hu⟩) h
theorem tS {α : Type} (f : Nat → α) (i : Nat) (x : α) (j : Nat) : ak f i x j = if j = i then x else f j := rfl
theorem tT {k : IntKind} (hk : k.signed = false) (n : Int) : k.wrap n = n % 2 ^ k.bits := by
  simp only [IntKind.wrap, hk, Bool.false_and, Bool.false_eq_true, if_false]
theorem tU (n : Int) : IntKind.u8.wrap n = n % 256 := tT rfl n
theorem tV {n : Int} (h0 : -9223372036854775808 ≤ n) (h1 : n < 9223372036854775808) : IntKind.i64.wrap n = n := by
  have hb : IntKind.i64.bits = 64 := rfl
  have hs : IntKind.i64.signed = true := rfl
  simp only [IntKind.wrap, hb, hs, Bool.true_and]
  by_cases hn : 0 ≤ n
  · have e : n % (2 ^ 64 : Int) = n := Int.emod_eq_of_lt hn (by omega)
    simp only [e]
    rw [if_neg]
    simp; omega
  · have e : n % (2 ^ 64 : Int) = n + 2 ^ 64 := by
      rw [← Int.add_emod_right n]
      exact Int.emod_eq_of_lt (by omega) (by omega)
    simp only [e]
    rw [if_pos]
    · omega
    · simp; omega
end
end Go.AM
end
