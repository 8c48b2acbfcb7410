import Derived.Test.YtnnkfanmokeiaaaAmWp2
/-  Several texts in one. -/
section
set_option linter.unusedVariables false
set_option linter.unusedSectionVars false
set_option linter.unusedSimpArgs false
namespace Go.AM
open Go Go.RowKit
variable [Glob]
inductive eD where
  | t (n : Nat)
  | cell (n : Nat) (k : Option Nat)
def eY (P : Program) : List eD → List ResultVar → Bool
  | [], [] => true
  | .t n :: l, .tmp m :: r => n == m && eY P l r
  | .cell n k :: l, .cell m ty :: r => n == m && bR P ty == some k && eY P l r
  | _, _ => false
def jO (s : S) : eD → Option V
  | .t n => some (s.T n)
  | .cell n k => cB s.σ k (s.T n)
def dT (s : S) : List eD → Option (List V)
  | [] => some []
  | r :: l => match jO s r, dT s l with
    | some v, some vs => some (v :: vs)
    | _, _ => none
def gE : List V → V
  | [v] => v
  | vs => jz vs
structure bI where
  n : Nat
  code : bA
  res : List eD
def bL (P : Program) (f : Nat) (af : bI) : Bool :=
  match P.funcs[f]? with
  | some fn => fn.name != "runtime.NumGoroutine" && fn.ntmps == af.n && eY P af.res fn.results.toList && (match fn.body with
    | some c => cP P af.n af.code c
    | none => false)
  | none => false
def jP (tmps : Array Value) : ResultVar → Sem Value
  | .tmp t => pure (tmps.getD t Go.undef)
  | .cell a t => do loadVar t (← asAddr (tmps.getD a Go.undef))
def eZ (vals : List V) : Nat → V := fun i => (vals[i]?).getD V.undef
section
variable {P : Program} {N : Nat} {A : Nat → Nat → Prop} {μ μ' : Nat → Option bn} {T T' : Nat → V} {σ σ' : aB} {w w' : World} {a : Act} {n n' : Nat} {v : V}
theorem qd {O : Nat → Nat → Prop} {vs : List V} {cs : Array Value} (hl : vs.length = cs.size) (h : ∀ (i : Nat) x v, vs[i]? = some x → cs[i]? = some v → aE μ O w x v) :
    aE μ O w (jz vs) (.tuple cs) := by
  unfold jz
  split
  · rename_i ds hds
    have := iM hds
    subst this
    refine .d _ _ (.tup ds cs (by simpa using hl) fun i d v hd hv => ?_)
    have := h i (.d d) v (by simp [hd]) hv
    cases this with | d _ _ h => exact h
  · exact .tup vs cs hl h
theorem uK {k : Option Nat} {x : V} {t : TypeId} {av : Value} (ht : bR P t = some k) (he : aE μ (aw A μ σ) w x av)
    (hs : aJ A μ σ w) (hv : cB σ k x = some v) : ∃ ad u, av = .pointer (some ad) ∧ (loadVar t ad).run P w = .ok u w ∧ aE μ (aw A μ σ) w v u := by
  unfold cB at hv
  split at hv
  · rename_i kb d j
    cases he with
    | d _ _ hd =>
      cases hl : eu kb d j k with
      | none => simp [hl] at hv
      | some z =>
        simp [hl] at hv
        subst hv
        cases hd with
        | cptr _ _ _ b off f hsh h1 h2 h3 h4 =>
          obtain ⟨u, hu, hru⟩ := ku (P := P) (own := aw A μ σ) ht d.cells b off j f h1 h3 (kv hsh hl)
          exact ⟨_, u, rfl, hu, (.d _ _ hru)⟩
  · rename_i id i j
    cases he with
    | ptr _ _ _ b kp hp =>
      split at hv
      · rename_i m kb els hid
        split at hv
        · rename_i d hd
          cases hl : eu kb d j k with
          | none => simp [hl] at hv
          | some z =>
            simp [hl] at hv
            subst hv
            have hb := hs.blks id _ hid
            rcases hb with ⟨h1, _⟩ | ⟨b', c, ty, fr, h1, h2, h3, h4, h5⟩
            · simp [h1] at hp
            · rw [h1] at hp
              cases hp
              obtain ⟨hsh, hcs⟩ := h5 i d hd
              obtain ⟨u, hu, hru⟩ := ku (P := P) (own := aw A μ σ) (w := w) ht d.cells b (i * ap kp) j (fun j => c.getD (i * ap kp + j) Go.undef)
                (fun j x hx => by obtain ⟨v, hv, _⟩ := hcs j x hx; rw [dY h2]; simp [hv])
                (fun j x hx => by obtain ⟨v, hv, _, hr⟩ := hcs j x hx; simpa [hv] using hr) (kv hsh hl)
              exact ⟨_, u, rfl, hu, (.d _ _ hru)⟩
        · cases hv
      · rename_i cs hid
        have hb := hs.blks id _ hid
        obtain ⟨b', c, ty, fr, h1, h2, h3, h4, h5⟩ := hb
        rw [h1] at hp
        cases hp
        obtain ⟨u, hu, hru⟩ := oS (P := P) (O := aw A μ σ) ht cs b (i + j) c h4 (fun o => dY h2) (fun i x v hx hv => (h5 i x v hx hv).2) hv
        exact ⟨_, u, rfl, by simpa using hu, hru⟩
      · cases hv
  · cases hv
theorem mR (hs : aJ A μ σ w) {tmps : Array Value} (ht : ∀ i, aE μ (aw A μ σ) w (T i) (tmps.getD i Go.undef)) : ∀ {l : List eD} {rs : List ResultVar} {vs : List V}, eY P l rs = true → dT ⟨T, σ, n⟩ l = some vs →
    ∃ cs : List Value, (rs.mapM (jP tmps)).run P w = .ok cs w ∧ vs.length = cs.length ∧ ∀ (i : Nat) x v, vs[i]? = some x → cs[i]? = some v → aE μ (aw A μ σ) w x v
  | [], [], vs, _, hv => by
    simp [dT] at hv; subst hv
    exact ⟨[], by simp, rfl, fun i x v h => by simp at h⟩
  | .t n1 :: l, .tmp m :: rs, vs, hc, hv => by
    simp only [eY, Bool.and_eq_true, beq_iff_eq] at hc
    obtain ⟨rfl, hc⟩ := hc
    simp only [dT, jO] at hv
    split at hv
    · rename_i v1 vs1 h1 h2
      cases hv; cases h1
      obtain ⟨cs, g1, g2, g3⟩ := mR hs ht hc h2
      refine ⟨tmps.getD n1 Go.undef :: cs, ?_, by simp [g2], fun i x v hx hv => ?_⟩
      · rw [List.mapM_cons]; simp [g1, jP, -Array.getD_eq_getD_getElem?]
      · cases i with
        | zero => simp at hx hv; subst hx; subst hv; exact by simpa using ht n1
        | succ i => exact g3 i x v (by simpa using hx) (by simpa using hv)
    · cases hv
  | .cell n1 k :: l, .cell m ty :: rs, vs, hc, hv => by
    simp only [eY, Bool.and_eq_true, beq_iff_eq] at hc
    obtain ⟨⟨rfl, hk⟩, hc⟩ := hc
    simp only [dT, jO] at hv
    split at hv
    · rename_i v1 vs1 h1 h2
      cases hv
      obtain ⟨cs, g1, g2, g3⟩ := mR hs ht hc h2
      have hld : ∃ cv, (jP tmps (.cell n1 ty)).run P w = .ok cv w ∧ aE μ (aw A μ σ) w v1 cv := by
        obtain ⟨ad, u, e1, e2, e3⟩ := uK hk (ht n1) hs h1
        exact ⟨u, by simp only [jP, e1, asAddr]; simp [e2], e3⟩
      obtain ⟨cv, q1, q2⟩ := hld
      refine ⟨cv :: cs, ?_, by simp [g2], fun i x v hx hv => ?_⟩
      · rw [List.mapM_cons]; simp [g1, q1, -Array.getD_eq_getD_getElem?]
      · cases i with
        | zero => simp at hx hv; subst hx; subst hv; exact q2
        | succ i => exact g3 i x v (by simpa using hx) (by simpa using hv)
    · cases hv
  | .t _ :: _, [], _, hc, _ => by simp [eY] at hc
  | .cell .. :: _, [], _, hc, _ => by simp [eY] at hc
  | .t _ :: _, .cell .. :: _, _, hc, _ => by simp [eY] at hc
  | .cell .. :: _, .tmp _ :: _, _, hc, _ => by simp [eY] at hc
  | [], _ :: _, _, hc, _ => by simp [eY] at hc
theorem uL (hs : aJ A μ σ w) {tmps : Array Value} (ht : ∀ i, aE μ (aw A μ σ) w (T i) (tmps.getD i Go.undef)) {l : List eD} {fn : Func} {vs : List V} (hc : eY P l fn.results.toList = true) (hv : dT ⟨T, σ, n⟩ l = some vs) :
    ∃ cv, (results fn tmps).run P w = .ok cv w ∧ aE μ (aw A μ σ) w (gE vs) cv := by
  obtain ⟨cs, h1, h2, h3⟩ := mR hs ht hc hv
  have he : results fn tmps = (do let vs ← fn.results.mapM (jP tmps); pure (if h : vs.size = 1 then vs[0] else .tuple vs)) := by
    unfold results
    congr 1
  rw [he, Array.mapM_eq_mapM_toList]
  simp only [bind_map_left, bind_pure_comp]
  refine ⟨if h : cs.toArray.size = 1 then cs.toArray[0] else .tuple cs.toArray, by simp [h1], ?_⟩
  match vs, cs, h2, h3 with
  | [], [], _, h3 => simp [gE]; exact qd (by simp) (fun i x v h => by simp at h)
  | [x], [c], _, h3 => simpa [gE] using h3 0 x c rfl rfl
  | x :: y :: vs, c :: d :: cs, h2, h3 =>
    simp [gE]
    exact qd (by simpa using h2) (fun i x v hx hv => h3 i x v hx (by simpa using hv))
theorem jQ {f : Nat} {af : bI} (h : bL P f af = true) : gR P f = true ∧ ∃ fn c, P.funcs[f]? = some fn ∧ fn.body = some c ∧ fn.ntmps = af.n ∧ eY P af.res fn.results.toList = true ∧ cP P af.n af.code c = true := by
  unfold bL at h
  split at h
  · rename_i fn hf
    simp only [Bool.and_eq_true, bne_iff_ne, beq_iff_eq] at h
    obtain ⟨⟨⟨h1, h2⟩, h3⟩, h4⟩ := h
    cases hb : fn.body with
    | none => rw [hb] at h4; cases h4
    | some c =>
      rw [hb] at h4
      exact ⟨by simp [gR, hf, hb, h1], fn, c, hf, hb, h2, h3, h4⟩
  · cases h
end
end Go.AM
end
section
set_option linter.unusedVariables false
set_option linter.unusedSectionVars false
set_option linter.unusedSimpArgs false
namespace Go.AM
open Go Go.RowKit
variable [Glob]
section
variable {P : Program} {N : Nat} {A : Nat → Nat → Prop} {μ μ' : Nat → Option bn} {T T' : Nat → V} {σ σ' : aB} {w w' : World} {a : Act} {n n' : Nat} {v : V}
theorem uM {id : Nat} {m : Bool} {k : Option Nat} {els : List D} (h : σ id = some (.lst m k els)) {j b o : Nat} {blk : aX} (hj : al σ id (some (.lst false k els)) j = some blk) (ho : blk.ownsAt (μ j) b o) : cO μ σ b o := by
  by_cases e : j = id
  · subst e
    rw [bm] at hj
    cases hj
    refine ⟨j, _, h, ?_⟩
    cases m with
    | false => exact ho
    | true =>
      cases hm : μ j with
      | none => rw [hm] at ho; exact ho.elim
      | some p => cases p with
        | nil => rw [hm] at ho; exact ho.elim
        | «at» b0 k0 => rw [hm] at ho; exact ho.1
  · rw [aR _ _ e] at hj
    exact ⟨j, blk, hj, ho⟩
theorem aM.frz {id : Nat} {m : Bool} {k : Option Nat} {els : List D} (h : σ id = some (.lst m k els)) : aM μ σ w μ (al σ id (some (.lst false k els))) w where
  os := rfl
  tape := rfl
  output := rfl
  size := Nat.le_refl _
  block _ _ _ := rfl
  cells _ c _ _ hc := ⟨c, hc, rfl, fun _ _ => rfl⟩
  own b o ho := let ⟨j, blk, h1, h2⟩ := ho; .inl (uM h h1 h2)
  ownB b ho := by
    obtain ⟨j, blk, k', h1, h2⟩ := ho
    by_cases e : j = id
    · subst e; exact .inl ⟨j, _, k', h, h2⟩
    · rw [aR _ _ e] at h1; exact .inl ⟨j, blk, k', h1, h2⟩
  grow _ _ h := h
theorem aJ.frz (hs : aJ A μ σ w) {id : Nat} {m : Bool} {k : Option Nat} {els : List D} (h : σ id = some (.lst m k els)) : aJ A μ (al σ id (some (.lst false k els))) w := by
  refine hs.update (aM.frz h) id (fun j blk e hj => by rw [aR _ _ e] at hj; exact hj) (fun _ _ => rfl) (fun blk hb => ?_) (fun _ _ _ _ _ _ _ => rfl) (fun b k' blk hb hm => ?_)
  · rw [bm] at hb
    cases hb
    have := cf.keep (aM.frz (w := w) h) hs.alt (fun _ _ _ => rfl) (hs.blks id _ h)
    exact this
  · refine ⟨hs.amb id _ b k' h hm, fun j x k2 e hj hmj => e (hs.inj j id x _ b k2 k' (by rw [aR _ _ e] at hj; exact hj) h hmj hm)⟩
def fu (σ : aB) : V → Option D
  | .d x => some x
  | .loc id off len => match σ id with
    | some (.lst _ k els) => if off + len ≤ els.length then some (.vec k ((els.drop off).take len)) else none
    | _ => none
  | _ => none
def e8 (σ : aB) : V → Option D
  | .agg vs => (bQ (vs.map (fu σ))).map D.agg
  | v => fu σ v
def iU (σ : aB) : V → Option D
  | .tup vs => (bQ (vs.map (e8 σ))).map D.tup
  | v => e8 σ v
theorem qe (hs : aJ A μ σ w) {d : D} {u : Value} (h : fu σ v = some d) (hv : aE μ (aw A μ σ) w v u) : DRel A w d u := by
  unfold fu at h
  split at h
  · cases h
    cases hv with
    | d _ _ h => exact h.mono fun b o v h1 h2 => ⟨h1, fun h3 => h2 (.inr h3)⟩
  · rename_i id off len
    split at h
    · rename_i m k els hid
      split at h
      · rename_i hle
        cases h
        have := iR (hs.frz hid) (v := .loc id off len) (d := .vec k ((els.drop off).take len)) (by simp [cZ, bm, hle]) ((aM.frz (w := w) hid).keepV hs.alt hv)
        exact this.mono fun b o v h1 h2 => ⟨h1, fun h3 => h2 (.inr h3)⟩
      · cases h
    · cases h
  · cases h
theorem qf (hs : aJ A μ σ w) {d : D} {u : Value} (h : e8 σ v = some d) (hv : aE μ (aw A μ σ) w v u) : DRel A w d u := by
  unfold e8 at h
  split at h
  · rename_i vs
    cases hr : bQ (vs.map (fu σ)) with
    | none => rw [hr] at h; simp at h
    | some r =>
      rw [hr] at h
      simp at h
      subst h
      obtain ⟨h1, h2⟩ := jK hr
      cases hv with
      | agg _ cs hl hc =>
        refine .agg r cs (by omega) fun i d v hd hv => ?_
        have hi : i < vs.length := by have := (List.getElem?_eq_some_iff.1 hd).1; omega
        exact qe hs (h2 i vs[i] d (by simp [hi]) hd) (hc i vs[i] v (by simp [hi]) hv)
  · exact qe hs h hv
theorem qg (hs : aJ A μ σ w) {d : D} {u : Value} (h : iU σ v = some d) (hv : aE μ (aw A μ σ) w v u) : DRel A w d u := by
  unfold iU at h
  split at h
  · rename_i vs
    cases hr : bQ (vs.map (e8 σ)) with
    | none => rw [hr] at h; simp at h
    | some r =>
      rw [hr] at h
      simp at h
      subst h
      obtain ⟨h1, h2⟩ := jK hr
      cases hv with
      | tup _ cs hl hc =>
        refine .tup r cs (by omega) fun i d v hd hv => ?_
        have hi : i < vs.length := by have := (List.getElem?_eq_some_iff.1 hd).1; omega
        exact qf hs (h2 i vs[i] d (by simp [hi]) hd) (hc i vs[i] v (by simp [hi]) hv)
  · exact qf hs h hv
theorem mS {c : bA} {Q : Exit → S → Prop} {s s' : S} (hn : s'.n = s.n)
    (h : ∀ A μ w, aJ A μ s.σ w → aJ A μ s'.σ w ∧ aM μ s.σ w μ s'.σ w ∧ ∀ i u, aE μ (aw A μ s.σ) w (s.T i) u → aE μ (aw A μ s'.σ) w (s'.T i) u) (hc : bM P N c Q s') : bM P N c Q s := by
  intro code hck A μ a w ⟨hsim, hfr⟩
  obtain ⟨h1, h2, h3⟩ := h A μ w hsim.store
  refine wp_mono (hc code hck A μ a w ⟨⟨hsim.size, hsim.defers, fun i => h3 i _ (hsim.tmps i), h1⟩, by rw [hn]; exact hfr⟩) fun e a' w' ⟨g1, s2, μ2, g2, g3, g4, g5⟩ => ?_
  exact ⟨g1, s2, μ2, g2, g3, h2.trans g4, by rw [← hn]; exact g5⟩
theorem bM.drop {c : bA} {Q : Exit → S → Prop} {s : S} (T' : Nat → V) (σ' : aB) (hT : ∀ i, T' i = s.T i ∨ T' i = V.undef) (hσ : ∀ id blk, σ' id = some blk → s.σ id = some blk) (h : bM P N c Q ⟨T', σ', s.n⟩) : bM P N c Q s := by
  refine mS (s' := ⟨T', σ', s.n⟩) rfl (fun A μ w hs => ⟨hs.drop hσ, aM.drop hσ, fun i u hu => ?_⟩) h
  rcases hT i with h' | h' <;> simp only [h']
  · exact (aM.drop hσ).keepV hs.alt hu
  · exact .d _ _ (.undef _)
inductive fw (id : Nat) (k : Option Nat) (els : List D) : V → V → Prop
  | refl (x : V) : fw id k els x x
  | undef (x : V) : fw id k els x V.undef
  | loc (off len) : off + len ≤ els.length → fw id k els (.loc id off len) (.d (.vec k ((els.drop off).take len)))
  | agg (vs us : List V) : vs.length = us.length → (∀ (i : Nat) x y, vs[i]? = some x → us[i]? = some y → fw id k els x y) → fw id k els (.agg vs) (.agg us)
  | aggd (vs : List V) (us : List D) : vs.length = us.length → (∀ (i : Nat) x y, vs[i]? = some x → us[i]? = some y → fw id k els x (.d y)) → fw id k els (.agg vs) (.d (.agg us))
theorem fw.sound (hs : aJ A μ σ w) {id : Nat} {m : Bool} {k : Option Nat} {els : List D} (hid : σ id = some (.lst m k els)) {v v' : V} (h : fw id k els v v') : ∀ {u : Value}, aE μ (aw A μ σ) w v u → aE μ (aw A μ (al σ id none)) w v' u := by
  have hσ : ∀ j blk, al σ id none j = some blk → σ j = some blk := by
    intro j blk h
    by_cases e : j = id
    · subst e; simp [bm] at h
    · rw [aR _ _ e] at h; exact h
  have hσ2 : ∀ j blk, al σ id none j = some blk → al σ id (some (.lst false k els)) j = some blk := by
    intro j blk h
    by_cases e : j = id
    · subst e; simp [bm] at h
    · rw [aR _ _ e] at h ⊢; exact h
  induction h with
  | refl x => exact fun h => (aM.drop hσ).keepV hs.alt h
  | undef x => exact fun _ => .d _ _ (.undef _)
  | loc off len hle =>
    intro u hu
    have := iR (hs.frz hid) (v := .loc id off len) (d := .vec k ((els.drop off).take len)) (by simp [cZ, bm, hle]) ((aM.frz (w := w) hid).keepV hs.alt hu)
    exact .d _ _ ((aM.drop hσ2).keepD hs.alt this)
  | agg vs us hl _ ih =>
    intro u hu
    cases hu with
    | agg _ cs h1 h2 =>
      refine .agg us cs (by omega) fun i x v hx hv => ?_
      have hi : i < vs.length := by have := (List.getElem?_eq_some_iff.1 hx).1; omega
      exact ih i vs[i] x (by simp [hi]) hx (h2 i vs[i] v (by simp [hi]) hv)
  | aggd vs us hl _ ih =>
    intro u hu
    cases hu with
    | agg _ cs h1 h2 =>
      refine .d _ _ (.agg us cs (by omega) fun i x v hx hv => ?_)
      have hi : i < vs.length := by have := (List.getElem?_eq_some_iff.1 hx).1; omega
      have := ih i vs[i] x (by simp [hi]) hx (h2 i vs[i] v (by simp [hi]) hv)
      cases this with | d _ _ h => exact h
theorem bM.imm {c : bA} {Q : Exit → S → Prop} {s : S} (T' : Nat → V) {id : Nat} {m : Bool} {k : Option Nat} {els : List D} (hid : s.σ id = some (.lst m k els)) (hT : ∀ i, fw id k els (s.T i) (T' i))
    (h : bM P N c Q ⟨T', al s.σ id none, s.n⟩) : bM P N c Q s := by
  have hσ : ∀ j blk, al s.σ id none j = some blk → s.σ j = some blk := by
    intro j blk h
    by_cases e : j = id
    · subst e; simp [bm] at h
    · rw [aR _ _ e] at h; exact h
  exact mS (s' := ⟨T', al s.σ id none, s.n⟩) rfl (fun A μ w hs => ⟨hs.drop hσ, aM.drop hσ, fun i u hu => (hT i).sound hs hid hu⟩) h
theorem bM.frz {c : bA} {Q : Exit → S → Prop} {s : S} {id : Nat} {m : Bool} {k : Option Nat} {els : List D} (hid : s.σ id = some (.lst m k els)) (h : bM P N c Q ⟨s.T, al s.σ id (some (.lst false k els)), s.n⟩) : bM P N c Q s :=
  mS (s' := ⟨s.T, al s.σ id (some (.lst false k els)), s.n⟩) rfl (fun A μ w hs => ⟨hs.frz hid, aM.frz hid, fun i u hu => (aM.frz hid).keepV hs.alt hu⟩) h
theorem uN {α : Type} (f : Nat → α) (i : Nat) (x : α) (j : Nat) : al f i x j = if j = i then x else f j := rfl
theorem uO {k : IntKind} (hk : k.signed = false) (n : Int) : k.wrap n = n % 2 ^ k.bits := by
  simp only [IntKind.wrap, hk, Bool.false_and, Bool.false_eq_true, if_false]
theorem uP (n : Int) : IntKind.u8.wrap n = n % 256 := uO rfl n
theorem uQ {n : Int} (h0 : -9223372036854775808 ≤ n) (h1 : n < 9223372036854775808) : IntKind.i64.wrap n = n := by
  have hb : IntKind.i64.bits = 64 := rfl
  have hs : IntKind.i64.signed = true := rfl
  simp only [IntKind.wrap, hb, hs, Bool.true_and]
  by_cases hn : 0 ≤ n
  · have e : n % (2 ^ 64 : Int) = n := Int.emod_eq_of_lt hn (by omega)
    simp only [e]
    rw [if_neg]
    simp; omega
  · have e : n % (2 ^ 64 : Int) = n + 2 ^ 64 := by
      rw [← Int.add_emod_right n]
      exact Int.emod_eq_of_lt (by omega) (by omega)
    simp only [e]
    rw [if_pos]
    · omega
    · simp; omega
end
end Go.AM
end
