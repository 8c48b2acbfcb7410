import Derived.Test.YtfjelgjfbjjopaaAmWp2
/-  Several texts in one. -/
section
set_option linter.unusedVariables false
set_option linter.unusedSectionVars false
set_option linter.unusedSimpArgs false
namespace Go.AM
open Go Go.RowKit
variable [Glob]
inductive eS where
  | t (n : Nat)
  | cell (n : Nat) (k : Option Nat)
def eg (P : Program) : List eS → List ResultVar → Bool
  | [], [] => true
  | .t n :: l, .tmp m :: r => n == m && eg P l r
  | .cell n k :: l, .cell m ty :: r => n == m && bG P ty == some k && eg P l r
  | _, _ => false
def kc (s : S) : eS → Option V
  | .t n => some (s.T n)
  | .cell n k => co s.σ k (s.T n)
def dT (s : S) : List eS → Option (List V)
  | [] => some []
  | r :: l => match kc s r, dT s l with
    | some v, some vs => some (v :: vs)
    | _, _ => none
def fD : List V → V
  | [v] => v
  | vs => iK vs
structure b7 where
  n : Nat
  code : bb
  res : List eS
def cb (P : Program) (f : Nat) (af : b7) : Bool :=
  match P.funcs[f]? with
  | some fn => fn.name != "runtime.NumGoroutine" && fn.ntmps == af.n && eg P af.res fn.results.toList && (match fn.body with
    | some c => cE P af.n af.code c
    | none => false)
  | none => false
def iY (tmps : Array Value) : ResultVar → Sem Value
  | .tmp t => pure (tmps.getD t Go.undef)
  | .cell a t => do loadVar t (← asAddr (tmps.getD a Go.undef))
def gJ (vals : List V) : Nat → V := fun i => (vals[i]?).getD V.undef
section
variable {P : Program} {N : Nat} {A : Nat → Nat → Prop} {μ μ' : Nat → Option aR} {T T' : Nat → V} {σ σ' : au} {w w' : World} {a : Act} {n n' : Nat} {v : V}
theorem oI {O : Nat → Nat → Prop} {vs : List V} {cs : Array Value} (hl : vs.length = cs.size) (h : ∀ (i : Nat) x v, vs[i]? = some x → cs[i]? = some v → aA μ O w x v) :
    aA μ O w (iK vs) (.tuple cs) := by
  unfold iK
  split
  · rename_i ds hds
    have := g8 hds
    subst this
    refine .d _ _ (.tup ds cs (by simpa using hl) fun i d v hd hv => ?_)
    have := h i (.d d) v (by simp [hd]) hv
    cases this with | d _ _ h => exact h
  · exact .tup vs cs hl h
theorem rB {k : Option Nat} {x : V} {t : TypeId} {av : Value} (ht : bG P t = some k) (he : aA μ (ao A μ σ) w x av)
    (hs : aI A μ σ w) (hv : co σ k x = some v) : ∃ ad u, av = .pointer (some ad) ∧ (loadVar t ad).run P w = .ok u w ∧ aA μ (ao A μ σ) w v u := by
  unfold co at hv
  split at hv
  · rename_i kb d j
    cases he with
    | d _ _ hd =>
      cases hl : ey kb d j k with
      | none => simp [hl] at hv
      | some z =>
        simp [hl] at hv
        subst hv
        cases hd with
        | cptr _ _ _ b off f hsh h1 h2 h3 h4 =>
          obtain ⟨u, hu, hru⟩ := jW (P := P) (own := ao A μ σ) ht d.cells b off j f h1 h3 (jX hsh hl)
          exact ⟨_, u, rfl, hu, (.d _ _ hru)⟩
  · rename_i id i j
    cases he with
    | ptr _ _ _ b kp hp =>
      split at hv
      · rename_i m kb els hid
        split at hv
        · rename_i d hd
          cases hl : ey kb d j k with
          | none => simp [hl] at hv
          | some z =>
            simp [hl] at hv
            subst hv
            have hb := hs.blks id _ hid
            rcases hb with ⟨h1, _⟩ | ⟨b', c, ty, fr, h1, h2, h3, h4, h5⟩
            · simp [h1] at hp
            · rw [h1] at hp
              cases hp
              obtain ⟨hsh, hcs⟩ := h5 i d hd
              obtain ⟨u, hu, hru⟩ := jW (P := P) (own := ao A μ σ) (w := w) ht d.cells b (i * ag kp) j (fun j => c.getD (i * ag kp + j) Go.undef)
                (fun j x hx => by obtain ⟨v, hv, _⟩ := hcs j x hx; rw [dA h2]; simp [hv])
                (fun j x hx => by obtain ⟨v, hv, _, hr⟩ := hcs j x hx; simpa [hv] using hr) (jX hsh hl)
              exact ⟨_, u, rfl, hu, (.d _ _ hru)⟩
        · cases hv
      · rename_i cs hid
        have hb := hs.blks id _ hid
        obtain ⟨b', c, ty, fr, h1, h2, h3, h4, h5⟩ := hb
        rw [h1] at hp
        cases hp
        obtain ⟨u, hu, hru⟩ := nh (P := P) (O := ao A μ σ) ht cs b (i + j) c h4 (fun o => dA h2) (fun i x v hx hv => (h5 i x v hx hv).2) hv
        exact ⟨_, u, rfl, by simpa using hu, hru⟩
      · cases hv
  · cases hv
theorem lS (hs : aI A μ σ w) {tmps : Array Value} (ht : ∀ i, aA μ (ao A μ σ) w (T i) (tmps.getD i Go.undef)) : ∀ {l : List eS} {rs : List ResultVar} {vs : List V}, eg P l rs = true → dT ⟨T, σ, n⟩ l = some vs →
    ∃ cs : List Value, (rs.mapM (iY tmps)).run P w = .ok cs w ∧ vs.length = cs.length ∧ ∀ (i : Nat) x v, vs[i]? = some x → cs[i]? = some v → aA μ (ao A μ σ) w x v
  | [], [], vs, _, hv => by
    simp [dT] at hv; subst hv
    exact ⟨[], by simp, rfl, fun i x v h => by simp at h⟩
  | .t n1 :: l, .tmp m :: rs, vs, hc, hv => by
    simp only [eg, Bool.and_eq_true, beq_iff_eq] at hc
    obtain ⟨rfl, hc⟩ := hc
    simp only [dT, kc] at hv
    split at hv
    · rename_i v1 vs1 h1 h2
      cases hv; cases h1
      obtain ⟨cs, g1, g2, g3⟩ := lS hs ht hc h2
      refine ⟨tmps.getD n1 Go.undef :: cs, ?_, by simp [g2], fun i x v hx hv => ?_⟩
      · rw [List.mapM_cons]; simp [g1, iY, -Array.getD_eq_getD_getElem?]
      · cases i with
        | zero => simp at hx hv; subst hx; subst hv; exact by simpa using ht n1
        | succ i => exact g3 i x v (by simpa using hx) (by simpa using hv)
    · cases hv
  | .cell n1 k :: l, .cell m ty :: rs, vs, hc, hv => by
    simp only [eg, Bool.and_eq_true, beq_iff_eq] at hc
    obtain ⟨⟨rfl, hk⟩, hc⟩ := hc
    simp only [dT, kc] at hv
    split at hv
    · rename_i v1 vs1 h1 h2
      cases hv
      obtain ⟨cs, g1, g2, g3⟩ := lS hs ht hc h2
      have hld : ∃ cv, (iY tmps (.cell n1 ty)).run P w = .ok cv w ∧ aA μ (ao A μ σ) w v1 cv := by
        obtain ⟨ad, u, e1, e2, e3⟩ := rB hk (ht n1) hs h1
        exact ⟨u, by simp only [iY, e1, asAddr]; simp [e2], e3⟩
      obtain ⟨cv, q1, q2⟩ := hld
      refine ⟨cv :: cs, ?_, by simp [g2], fun i x v hx hv => ?_⟩
      · rw [List.mapM_cons]; simp [g1, q1, -Array.getD_eq_getD_getElem?]
      · cases i with
        | zero => simp at hx hv; subst hx; subst hv; exact q2
        | succ i => exact g3 i x v (by simpa using hx) (by simpa using hv)
    · cases hv
  | .t _ :: _, [], _, hc, _ => by simp [eg] at hc
  | .cell .. :: _, [], _, hc, _ => by simp [eg] at hc
  | .t _ :: _, .cell .. :: _, _, hc, _ => by simp [eg] at hc
  | .cell .. :: _, .tmp _ :: _, _, hc, _ => by simp [eg] at hc
  | [], _ :: _, _, hc, _ => by simp [eg] at hc
theorem rC (hs : aI A μ σ w) {tmps : Array Value} (ht : ∀ i, aA μ (ao A μ σ) w (T i) (tmps.getD i Go.undef)) {l : List eS} {fn : Func} {vs : List V} (hc : eg P l fn.results.toList = true) (hv : dT ⟨T, σ, n⟩ l = some vs) :
    ∃ cv, (results fn tmps).run P w = .ok cv w ∧ aA μ (ao A μ σ) w (fD vs) cv := by
  obtain ⟨cs, h1, h2, h3⟩ := lS hs ht hc hv
  have he : results fn tmps = (do let vs ← fn.results.mapM (iY tmps); pure (if h : vs.size = 1 then vs[0] else .tuple vs)) := by
    unfold results
    congr 1
  rw [he, Array.mapM_eq_mapM_toList]
  simp only [bind_map_left, bind_pure_comp]
  refine ⟨if h : cs.toArray.size = 1 then cs.toArray[0] else .tuple cs.toArray, by simp [h1], ?_⟩
  match vs, cs, h2, h3 with
  | [], [], _, h3 => simp [fD]; exact oI (by simp) (fun i x v h => by simp at h)
  | [x], [c], _, h3 => simpa [fD] using h3 0 x c rfl rfl
  | x :: y :: vs, c :: d :: cs, h2, h3 =>
    simp [fD]
    exact oI (by simpa using h2) (fun i x v hx hv => h3 i x v hx (by simpa using hv))
theorem lT {f : Nat} {af : b7} (h : cb P f af = true) : gH P f = true ∧ ∃ fn c, P.funcs[f]? = some fn ∧ fn.body = some c ∧ fn.ntmps = af.n ∧ eg P af.res fn.results.toList = true ∧ cE P af.n af.code c = true := by
  unfold cb at h
  split at h
  · rename_i fn hf
    simp only [Bool.and_eq_true, bne_iff_ne, beq_iff_eq] at h
    obtain ⟨⟨⟨h1, h2⟩, h3⟩, h4⟩ := h
    cases hb : fn.body with
    | none => rw [hb] at h4; cases h4
    | some c =>
      rw [hb] at h4
      exact ⟨by simp [gH, hf, hb, h1], fn, c, hf, hb, h2, h3, h4⟩
  · cases h
end
end Go.AM
end
section
set_option linter.unusedVariables false
set_option linter.unusedSectionVars false
set_option linter.unusedSimpArgs false
namespace Go.AM
open Go Go.RowKit
variable [Glob]
section
variable {P : Program} {N : Nat} {A : Nat → Nat → Prop} {μ μ' : Nat → Option aR} {T T' : Nat → V} {σ σ' : au} {w w' : World} {a : Act} {n n' : Nat} {v : V}
theorem rD {id : Nat} {m : Bool} {k : Option Nat} {els : List D} (h : σ id = some (.lst m k els)) {j b o : Nat} {blk : aV} (hj : aj σ id (some (.lst false k els)) j = some blk) (ho : blk.ownsAt (μ j) b o) : cC μ σ b o := by
  by_cases e : j = id
  · subst e
    rw [aM] at hj
    cases hj
    refine ⟨j, _, h, ?_⟩
    cases m with
    | false => exact ho
    | true =>
      cases hm : μ j with
      | none => rw [hm] at ho; exact ho.elim
      | some p => cases p with
        | nil => rw [hm] at ho; exact ho.elim
        | «at» b0 k0 => rw [hm] at ho; exact ho.1
  · rw [aH _ _ e] at hj
    exact ⟨j, blk, hj, ho⟩
theorem aJ.frz {id : Nat} {m : Bool} {k : Option Nat} {els : List D} (h : σ id = some (.lst m k els)) : aJ μ σ w μ (aj σ id (some (.lst false k els))) w where
  os := rfl
  tape := rfl
  output := rfl
  size := Nat.le_refl _
  block _ _ _ := rfl
  cells _ c _ _ hc := ⟨c, hc, rfl, fun _ _ => rfl⟩
  own b o ho := let ⟨j, blk, h1, h2⟩ := ho; .inl (rD h h1 h2)
  ownB b ho := by
    obtain ⟨j, blk, k', h1, h2⟩ := ho
    by_cases e : j = id
    · subst e; exact .inl ⟨j, _, k', h, h2⟩
    · rw [aH _ _ e] at h1; exact .inl ⟨j, blk, k', h1, h2⟩
  grow _ _ h := h
theorem aI.frz (hs : aI A μ σ w) {id : Nat} {m : Bool} {k : Option Nat} {els : List D} (h : σ id = some (.lst m k els)) : aI A μ (aj σ id (some (.lst false k els))) w := by
  refine hs.update (aJ.frz h) id (fun j blk e hj => by rw [aH _ _ e] at hj; exact hj) (fun _ _ => rfl) (fun blk hb => ?_) (fun _ _ _ _ _ _ _ => rfl) (fun b k' blk hb hm => ?_)
  · rw [aM] at hb
    cases hb
    have := bU.keep (aJ.frz (w := w) h) hs.alt (fun _ _ _ => rfl) (hs.blks id _ h)
    exact this
  · refine ⟨hs.amb id _ b k' h hm, fun j x k2 e hj hmj => e (hs.inj j id x _ b k2 k' (by rw [aH _ _ e] at hj; exact hj) h hmj hm)⟩
def dj (σ : au) : V → Option D
  | .d x => some x
  | .loc id off len => match σ id with
    | some (.lst _ k els) => if off + len ≤ els.length then some (.vec k ((els.drop off).take len)) else none
    | _ => none
  | _ => none
def dJ (σ : au) : V → Option D
  | .agg vs => (bJ (vs.map (dj σ))).map D.agg
  | .loc id off len => match σ id with
    | some (.var cs) => if off = 0 ∧ len = cs.length then (match bJ (cs.map (dj σ)) with
        | some r => if r.all (fun d => d.shape none) then some (.vec none r) else none
        | none => none) else none
    | _ => dj σ (.loc id off len)
  | v => dj σ v
def iZ (σ : au) : V → Option D
  | .tup vs => (bJ (vs.map (dJ σ))).map D.tup
  | v => dJ σ v
theorem ke (hs : aI A μ σ w) {d : D} {u : Value} (h : dj σ v = some d) (hv : aA μ (ao A μ σ) w v u) : DRel A w d u := by
  unfold dj at h
  split at h
  · cases h
    cases hv with
    | d _ _ h => exact h.mono fun b o v h1 h2 => ⟨h1, fun h3 => h2 (.inr h3)⟩
  · rename_i id off len
    split at h
    · rename_i m k els hid
      split at h
      · rename_i hle
        cases h
        have := hY (hs.frz hid) (v := .loc id off len) (d := .vec k ((els.drop off).take len)) (by simp [c8, aM, hle]) ((aJ.frz (w := w) hid).keepV hs.alt hv)
        exact this.mono fun b o v h1 h2 => ⟨h1, fun h3 => h2 (.inr h3)⟩
      · cases h
    · cases h
  · cases h
theorem rE {d : D} (h : d.shape none = true) {j : Nat} {x : D} (hx : d.cells[j]? = some x) : j = 0 ∧ x = d := by
  cases d <;> simp [D.shape] at h <;> (cases j <;> simp [D.cells] at hx <;> exact ⟨rfl, hx.symm⟩)
theorem oJ (hs : aI A μ σ w) {d : D} {u : Value} (h : dJ σ v = some d) (hv : aA μ (ao A μ σ) w v u) : DRel A w d u := by
  unfold dJ at h
  split at h
  · rename_i vs
    cases hr : bJ (vs.map (dj σ)) with
    | none => rw [hr] at h; simp at h
    | some r =>
      rw [hr] at h
      simp at h
      subst h
      obtain ⟨h1, h2⟩ := hX hr
      cases hv with
      | agg _ cs hl hc =>
        refine .agg r cs (by omega) fun i d v hd hv => ?_
        have hi : i < vs.length := by have := (List.getElem?_eq_some_iff.1 hd).1; omega
        exact ke hs (h2 i vs[i] d (by simp [hi]) hd) (hc i vs[i] v (by simp [hi]) hv)
  · rename_i id off len
    split at h
    · rename_i cs hid
      split at h
      · rename_i hc
        obtain ⟨rfl, rfl⟩ := hc
        cases hr : bJ (cs.map (dj σ)) with
        | none => rw [hr] at h; cases h
        | some r =>
          rw [hr] at h
          simp only at h
          split at h
          · rename_i hall
            cases h
            obtain ⟨h1, h2⟩ := hX hr
            have hsh : ∀ (i : Nat) d, r[i]? = some d → d.shape none = true := fun i d hd => (List.all_eq_true.1 hall) d (dm hd)
            obtain ⟨b, c, ty, fr, m1, m2, _, m4, m5⟩ := hs.blks id _ hid
            have key : ∀ (i : Nat) d (j : Nat) x, r[i]? = some d → d.cells[j]? = some x → j = 0 ∧ ∃ u, c[i]? = some u ∧ u.oneCell' = true ∧ DRel A w x u := by
              intro i d j x hd hx
              obtain ⟨rfl, rfl⟩ := rE (hsh i d hd) hx
              have hi : i < cs.length := by have := (List.getElem?_eq_some_iff.1 hd).1; omega
              have hcu : c[i]? = some (c[i]'(by omega)) := Array.getElem?_eq_getElem (by omega)
              obtain ⟨n1, n2⟩ := m5 i cs[i] _ (by simp [hi]) hcu
              exact ⟨rfl, _, hcu, n1, ke hs (h2 i cs[i] x (by simp [hi]) hd) n2⟩
            generalize hll : cs.length = ll at hv
            cases hv with
            | loc0 _ _ a hm =>
              have : r = [] := List.eq_nil_of_length_eq_zero (by omega)
              subst this
              exact .vecn _ a
            | loc _ _ _ b' k cap g1 g2 g3 g4 =>
              rw [m1] at g1
              cases g1
              have e0 : (0 : Nat) * ag none = 0 := Nat.zero_mul _
              rw [e0, ← hll, h1]
              refine .vec none r b 0 cap (fun i j => c.getD i Go.undef) ⟨by omega, g3⟩ hsh (fun i d j x hd hx => ?_) (fun i d j x hd hx => hs.amb id _ b none hid m1 _) (fun i d j x hd hx => ?_) (fun i d j x hd hx => ?_)
              · obtain ⟨rfl, u, hu, _, _⟩ := key i d j x hd hx
                rw [dA m2]
                have : (0 + i * ag none + 0) = i := by simp [ag]
                rw [this, hu]
                simp [Array.getD_eq_getD_getElem?, hu]
              · obtain ⟨rfl, u, hu, _, hr⟩ := key i d j x hd hx
                simpa [Array.getD_eq_getD_getElem?, hu] using hr
              · obtain ⟨rfl, u, hu, ho, _⟩ := key i d j x hd hx
                simpa [Array.getD_eq_getD_getElem?, hu] using ho
          · cases h
      · cases h
    · exact ke hs h hv
  · exact ke hs h hv
theorem rF (hs : aI A μ σ w) {d : D} {u : Value} (h : iZ σ v = some d) (hv : aA μ (ao A μ σ) w v u) : DRel A w d u := by
  unfold iZ at h
  split at h
  · rename_i vs
    cases hr : bJ (vs.map (dJ σ)) with
    | none => rw [hr] at h; simp at h
    | some r =>
      rw [hr] at h
      simp at h
      subst h
      obtain ⟨h1, h2⟩ := hX hr
      cases hv with
      | tup _ cs hl hc =>
        refine .tup r cs (by omega) fun i d v hd hv => ?_
        have hi : i < vs.length := by have := (List.getElem?_eq_some_iff.1 hd).1; omega
        exact oJ hs (h2 i vs[i] d (by simp [hi]) hd) (hc i vs[i] v (by simp [hi]) hv)
  · exact oJ hs h hv
theorem lU {c : bb} {Q : Exit → S → Prop} {s s' : S} (hn : s'.n = s.n)
    (h : ∀ A μ w, aI A μ s.σ w → aI A μ s'.σ w ∧ aJ μ s.σ w μ s'.σ w ∧ ∀ i u, aA μ (ao A μ s.σ) w (s.T i) u → aA μ (ao A μ s'.σ) w (s'.T i) u) (hc : bK P N c Q s') : bK P N c Q s := by
  intro code hck A μ a w ⟨hsim, hfr⟩
  obtain ⟨h1, h2, h3⟩ := h A μ w hsim.store
  refine wp_mono (hc code hck A μ a w ⟨⟨hsim.size, hsim.defers, fun i => h3 i _ (hsim.tmps i), h1⟩, by rw [hn]; exact hfr⟩) fun e a' w' ⟨g1, s2, μ2, g2, g3, g4, g5⟩ => ?_
  exact ⟨g1, s2, μ2, g2, g3, h2.trans g4, by rw [← hn]; exact g5⟩
theorem bK.drop {c : bb} {Q : Exit → S → Prop} {s : S} (T' : Nat → V) (σ' : au) (hT : ∀ i, T' i = s.T i ∨ T' i = V.undef) (hσ : ∀ id blk, σ' id = some blk → s.σ id = some blk) (h : bK P N c Q ⟨T', σ', s.n⟩) : bK P N c Q s := by
  refine lU (s' := ⟨T', σ', s.n⟩) rfl (fun A μ w hs => ⟨hs.drop hσ, aJ.drop hσ, fun i u hu => ?_⟩) h
  rcases hT i with h' | h' <;> simp only [h']
  · exact (aJ.drop hσ).keepV hs.alt hu
  · exact .d _ _ (.undef _)
inductive eU (id : Nat) (k : Option Nat) (els : List D) : V → V → Prop
  | refl (x : V) : eU id k els x x
  | undef (x : V) : eU id k els x V.undef
  | loc (off len) : off + len ≤ els.length → eU id k els (.loc id off len) (.d (.vec k ((els.drop off).take len)))
  | agg (vs us : List V) : vs.length = us.length → (∀ (i : Nat) x y, vs[i]? = some x → us[i]? = some y → eU id k els x y) → eU id k els (.agg vs) (.agg us)
  | aggd (vs : List V) (us : List D) : vs.length = us.length → (∀ (i : Nat) x y, vs[i]? = some x → us[i]? = some y → eU id k els x (.d y)) → eU id k els (.agg vs) (.d (.agg us))
theorem eU.sound (hs : aI A μ σ w) {id : Nat} {m : Bool} {k : Option Nat} {els : List D} (hid : σ id = some (.lst m k els)) {v v' : V} (h : eU id k els v v') : ∀ {u : Value}, aA μ (ao A μ σ) w v u → aA μ (ao A μ (aj σ id none)) w v' u := by
  have hσ : ∀ j blk, aj σ id none j = some blk → σ j = some blk := by
    intro j blk h
    by_cases e : j = id
    · subst e; simp [aM] at h
    · rw [aH _ _ e] at h; exact h
  have hσ2 : ∀ j blk, aj σ id none j = some blk → aj σ id (some (.lst false k els)) j = some blk := by
    intro j blk h
    by_cases e : j = id
    · subst e; simp [aM] at h
    · rw [aH _ _ e] at h ⊢; exact h
  induction h with
  | refl x => exact fun h => (aJ.drop hσ).keepV hs.alt h
  | undef x => exact fun _ => .d _ _ (.undef _)
  | loc off len hle =>
    intro u hu
    have := hY (hs.frz hid) (v := .loc id off len) (d := .vec k ((els.drop off).take len)) (by simp [c8, aM, hle]) ((aJ.frz (w := w) hid).keepV hs.alt hu)
    exact .d _ _ ((aJ.drop hσ2).keepD hs.alt this)
  | agg vs us hl _ ih =>
    intro u hu
    cases hu with
    | agg _ cs h1 h2 =>
      refine .agg us cs (by omega) fun i x v hx hv => ?_
      have hi : i < vs.length := by have := (List.getElem?_eq_some_iff.1 hx).1; omega
      exact ih i vs[i] x (by simp [hi]) hx (h2 i vs[i] v (by simp [hi]) hv)
  | aggd vs us hl _ ih =>
    intro u hu
    cases hu with
    | agg _ cs h1 h2 =>
      refine .d _ _ (.agg us cs (by omega) fun i x v hx hv => ?_)
      have hi : i < vs.length := by have := (List.getElem?_eq_some_iff.1 hx).1; omega
      have := ih i vs[i] x (by simp [hi]) hx (h2 i vs[i] v (by simp [hi]) hv)
      cases this with | d _ _ h => exact h
theorem bK.imm {c : bb} {Q : Exit → S → Prop} {s : S} (T' : Nat → V) {id : Nat} {m : Bool} {k : Option Nat} {els : List D} (hid : s.σ id = some (.lst m k els)) (hT : ∀ i, eU id k els (s.T i) (T' i))
    (h : bK P N c Q ⟨T', aj s.σ id none, s.n⟩) : bK P N c Q s := by
  have hσ : ∀ j blk, aj s.σ id none j = some blk → s.σ j = some blk := by
    intro j blk h
    by_cases e : j = id
    · subst e; simp [aM] at h
    · rw [aH _ _ e] at h; exact h
  exact lU (s' := ⟨T', aj s.σ id none, s.n⟩) rfl (fun A μ w hs => ⟨hs.drop hσ, aJ.drop hσ, fun i u hu => (hT i).sound hs hid hu⟩) h
theorem bK.frz {c : bb} {Q : Exit → S → Prop} {s : S} {id : Nat} {m : Bool} {k : Option Nat} {els : List D} (hid : s.σ id = some (.lst m k els)) (h : bK P N c Q ⟨s.T, aj s.σ id (some (.lst false k els)), s.n⟩) : bK P N c Q s :=
  lU (s' := ⟨s.T, aj s.σ id (some (.lst false k els)), s.n⟩) rfl (fun A μ w hs => ⟨hs.frz hid, aJ.frz hid, fun i u hu => (aJ.frz hid).keepV hs.alt hu⟩) h
theorem rG {α : Type} (f : Nat → α) (i : Nat) (x : α) (j : Nat) : aj f i x j = if j = i then x else f j := rfl
end
end Go.AM
end
