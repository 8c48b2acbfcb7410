import Derived.Test.YtnnkfanmokeiaaaAmWp2
/-  Several texts in one. -/
section
set_option linter.unusedVariables false
set_option linter.unusedSectionVars false
set_option linter.unusedSimpArgs false
namespace Go.AM
open Go Go.RowKit
variable [Glob]
inductive gO where
  | t (n : Nat)
  | cell (n : Nat) (k : Option Nat)
def gA (P : Program) : List gO → List ResultVar → Bool
  | [], [] => true
  | .t n :: l, .tmp m :: r => n == m && gA P l r
  | .cell n k :: l, .cell m ty :: r => n == m && co P ty == some k && gA P l r
  | _, _ => false
def mb (s : S) : gO → Option V
  | .t n => some (s.T n)
  | .cell n k => cW s.σ k (s.T n)
def fB (s : S) : List gO → Option (List V)
  | [] => some []
  | r :: l => match mb s r, fB s l with
    | some v, some vs => some (v :: vs)
    | _, _ => none
def iR : List V → V
  | [v] => v
  | vs => lO vs
structure bY where
  n : Nat
  code : bC
  res : List gO
def j8 (P : Program) (f : Nat) (af : bY) : Bool :=
  match P.funcs[f]? with
  | some fn => fn.name != "runtime.NumGoroutine" && fn.ntmps == af.n && gA P af.res fn.results.toList && (match fn.body with
    | some c => dN P af.n af.code c
    | none => false)
  | none => false
def mc (tmps : Array Value) : ResultVar → Sem Value
  | .tmp t => pure (tmps.getD t Go.undef)
  | .cell a t => do loadVar t (← asAddr (tmps.getD a Go.undef))
def j9 (vals : List V) : Nat → V := fun i => (vals[i]?).getD V.undef
section
variable {P : Program} {N : Nat} {A : Nat → Nat → Prop} {μ μ' : Nat → Option bI} {T T' : Nat → V} {σ σ' : aL} {w w' : World} {a : Act} {n n' : Nat} {v : V}
theorem tJ {O : Nat → Nat → Prop} {vs : List V} {cs : Array Value} (hl : vs.length = cs.size) (h : ∀ (i : Nat) x v, vs[i]? = some x → cs[i]? = some v → aR μ O w x v) :
    aR μ O w (lO vs) (.tuple cs) := by
  unfold lO
  split
  · rename_i ds hds
    have := kN hds
    subst this
    refine .d _ _ (.tup ds cs (by simpa using hl) fun i d v hd hv => ?_)
    have := h i (.d d) v (by simp [hd]) hv
    cases this with | d _ _ h => exact h
  · exact .tup vs cs hl h
theorem ze {k : Option Nat} {x : V} {t : TypeId} {av : Value} (ht : co P t = some k) (he : aR μ (aD A μ σ) w x av)
    (hs : bm A μ σ w) (hv : cW σ k x = some v) : ∃ ad u, av = .pointer (some ad) ∧ (loadVar t ad).run P w = .ok u w ∧ aR μ (aD A μ σ) w v u := by
  unfold cW at hv
  split at hv
  · rename_i kb d j
    cases he with
    | d _ _ hd =>
      cases hl : fH kb d j k with
      | none => simp [hl] at hv
      | some z =>
        simp [hl] at hv
        subst hv
        cases hd with
        | cptr _ _ _ b off f hsh h1 h2 h3 h4 =>
          obtain ⟨u, hu, hru⟩ := ny (P := P) (own := aD A μ σ) ht d.cells b off j f h1 h3 (nz hsh hl)
          exact ⟨_, u, rfl, hu, (.d _ _ hru)⟩
  · rename_i id i j
    cases he with
    | ptr _ _ _ b kp hp =>
      split at hv
      · rename_i m kb els hid
        split at hv
        · rename_i d hd
          cases hl : fH kb d j k with
          | none => simp [hl] at hv
          | some z =>
            simp [hl] at hv
            subst hv
            have hb := hs.blks id _ hid
            rcases hb with ⟨h1, _⟩ | ⟨b', c, ty, fr, h1, h2, h3, h4, h5⟩
            · simp [h1] at hp
            · rw [h1] at hp
              cases hp
              obtain ⟨hsh, hcs⟩ := h5 i d hd
              obtain ⟨u, hu, hru⟩ := ny (P := P) (own := aD A μ σ) (w := w) ht d.cells b (i * am kp) j (fun j => c.getD (i * am kp + j) Go.undef)
                (fun j x hx => by obtain ⟨v, hv, _⟩ := hcs j x hx; rw [fu h2]; simp [hv])
                (fun j x hx => by obtain ⟨v, hv, _, hr⟩ := hcs j x hx; simpa [hv] using hr) (nz hsh hl)
              exact ⟨_, u, rfl, hu, (.d _ _ hru)⟩
        · cases hv
      · rename_i cs hid
        have hb := hs.blks id _ hid
        obtain ⟨b', c, ty, fr, h1, h2, h3, h4, h5⟩ := hb
        rw [h1] at hp
        cases hp
        obtain ⟨u, hu, hru⟩ := sp (P := P) (O := aD A μ σ) ht cs b (i + j) c h4 (fun o => fu h2) (fun i x v hx hv => (h5 i x v hx hv).2) hv
        exact ⟨_, u, rfl, by simpa using hu, hru⟩
      · cases hv
  · cases hv
theorem qb (hs : bm A μ σ w) {tmps : Array Value} (ht : ∀ i, aR μ (aD A μ σ) w (T i) (tmps.getD i Go.undef)) : ∀ {l : List gO} {rs : List ResultVar} {vs : List V}, gA P l rs = true → fB ⟨T, σ, n⟩ l = some vs →
    ∃ cs : List Value, (rs.mapM (mc tmps)).run P w = .ok cs w ∧ vs.length = cs.length ∧ ∀ (i : Nat) x v, vs[i]? = some x → cs[i]? = some v → aR μ (aD A μ σ) w x v
  | [], [], vs, _, hv => by
    simp [fB] at hv; subst hv
    exact ⟨[], by simp, rfl, fun i x v h => by simp at h⟩
  | .t n1 :: l, .tmp m :: rs, vs, hc, hv => by
    simp only [gA, Bool.and_eq_true, beq_iff_eq] at hc
    obtain ⟨rfl, hc⟩ := hc
    simp only [fB, mb] at hv
    split at hv
    · rename_i v1 vs1 h1 h2
      cases hv; cases h1
      obtain ⟨cs, g1, g2, g3⟩ := qb hs ht hc h2
      refine ⟨tmps.getD n1 Go.undef :: cs, ?_, by simp [g2], fun i x v hx hv => ?_⟩
      · rw [List.mapM_cons]; simp [g1, mc, -Array.getD_eq_getD_getElem?]
      · cases i with
        | zero => simp at hx hv; subst hx; subst hv; exact by simpa using ht n1
        | succ i => exact g3 i x v (by simpa using hx) (by simpa using hv)
    · cases hv
  | .cell n1 k :: l, .cell m ty :: rs, vs, hc, hv => by
    simp only [gA, Bool.and_eq_true, beq_iff_eq] at hc
    obtain ⟨⟨rfl, hk⟩, hc⟩ := hc
    simp only [fB, mb] at hv
    split at hv
    · rename_i v1 vs1 h1 h2
      cases hv
      obtain ⟨cs, g1, g2, g3⟩ := qb hs ht hc h2
      have hld : ∃ cv, (mc tmps (.cell n1 ty)).run P w = .ok cv w ∧ aR μ (aD A μ σ) w v1 cv := by
        obtain ⟨ad, u, e1, e2, e3⟩ := ze hk (ht n1) hs h1
        exact ⟨u, by simp only [mc, e1, asAddr]; simp [e2], e3⟩
      obtain ⟨cv, q1, q2⟩ := hld
      refine ⟨cv :: cs, ?_, by simp [g2], fun i x v hx hv => ?_⟩
      · rw [List.mapM_cons]; simp [g1, q1, -Array.getD_eq_getD_getElem?]
      · cases i with
        | zero => simp at hx hv; subst hx; subst hv; exact q2
        | succ i => exact g3 i x v (by simpa using hx) (by simpa using hv)
    · cases hv
  | .t _ :: _, [], _, hc, _ => by simp [gA] at hc
  | .cell .. :: _, [], _, hc, _ => by simp [gA] at hc
  | .t _ :: _, .cell .. :: _, _, hc, _ => by simp [gA] at hc
  | .cell .. :: _, .tmp _ :: _, _, hc, _ => by simp [gA] at hc
  | [], _ :: _, _, hc, _ => by simp [gA] at hc
theorem zf (hs : bm A μ σ w) {tmps : Array Value} (ht : ∀ i, aR μ (aD A μ σ) w (T i) (tmps.getD i Go.undef)) {l : List gO} {fn : Func} {vs : List V} (hc : gA P l fn.results.toList = true) (hv : fB ⟨T, σ, n⟩ l = some vs) :
    ∃ cv, (results fn tmps).run P w = .ok cv w ∧ aR μ (aD A μ σ) w (iR vs) cv := by
  obtain ⟨cs, h1, h2, h3⟩ := qb hs ht hc hv
  have he : results fn tmps = (do let vs ← fn.results.mapM (mc tmps); pure (if h : vs.size = 1 then vs[0] else .tuple vs)) := by
    unfold results
    congr 1
  rw [he, Array.mapM_eq_mapM_toList]
  simp only [bind_map_left, bind_pure_comp]
  refine ⟨if h : cs.toArray.size = 1 then cs.toArray[0] else .tuple cs.toArray, by simp [h1], ?_⟩
  match vs, cs, h2, h3 with
  | [], [], _, h3 => simp [iR]; exact tJ (by simp) (fun i x v h => by simp at h)
  | [x], [c], _, h3 => simpa [iR] using h3 0 x c rfl rfl
  | x :: y :: vs, c :: d :: cs, h2, h3 =>
    simp [iR]
    exact tJ (by simpa using h2) (fun i x v hx hv => h3 i x v hx (by simpa using hv))
theorem qc {f : Nat} {af : bY} (h : j8 P f af = true) : j6 P f = true ∧ ∃ fn c, P.funcs[f]? = some fn ∧ fn.body = some c ∧ fn.ntmps = af.n ∧ gA P af.res fn.results.toList = true ∧ dN P af.n af.code c = true := by
  unfold j8 at h
  split at h
  · rename_i fn hf
    simp only [Bool.and_eq_true, bne_iff_ne, beq_iff_eq] at h
    obtain ⟨⟨⟨h1, h2⟩, h3⟩, h4⟩ := h
    cases hb : fn.body with
    | none => rw [hb] at h4; cases h4
    | some c =>
      rw [hb] at h4
      exact ⟨by simp [j6, hf, hb, h1], fn, c, hf, hb, h2, h3, h4⟩
  · cases h
end
end Go.AM
end
section
set_option linter.unusedVariables false
set_option linter.unusedSectionVars false
set_option linter.unusedSimpArgs false
namespace Go.AM
open Go Go.RowKit
variable [Glob]
section
variable {P : Program} {N : Nat} {A : Nat → Nat → Prop} {μ μ' : Nat → Option bI} {T T' : Nat → V} {σ σ' : aL} {w w' : World} {a : Act} {n n' : Nat} {v : V}
theorem zg {id : Nat} {m : Bool} {k : Option Nat} {els : List D} (h : σ id = some (.lst m k els)) {j b o : Nat} {blk : bu} (hj : aw σ id (some (.lst false k els)) j = some blk) (ho : blk.ownsAt (μ j) b o) : dl μ σ b o := by
  by_cases e : j = id
  · subst e
    rw [bz] at hj
    cases hj
    refine ⟨j, _, h, ?_⟩
    cases m with
    | false => exact ho
    | true =>
      cases hm : μ j with
      | none => rw [hm] at ho; exact ho.elim
      | some p => cases p with
        | nil => rw [hm] at ho; exact ho.elim
        | «at» b0 k0 => rw [hm] at ho; exact ho.1
  · rw [bg _ _ e] at hj
    exact ⟨j, blk, hj, ho⟩
theorem bk.frz {id : Nat} {m : Bool} {k : Option Nat} {els : List D} (h : σ id = some (.lst m k els)) : bk μ σ w μ (aw σ id (some (.lst false k els))) w where
  os := rfl
  tape := rfl
  output := rfl
  size := Nat.le_refl _
  block _ _ _ := rfl
  cells _ c _ _ hc := ⟨c, hc, rfl, fun _ _ => rfl⟩
  own b o ho := let ⟨j, blk, h1, h2⟩ := ho; .inl (zg h h1 h2)
  ownB b ho := by
    obtain ⟨j, blk, k', h1, h2⟩ := ho
    by_cases e : j = id
    · subst e; exact .inl ⟨j, _, k', h, h2⟩
    · rw [bg _ _ e] at h1; exact .inl ⟨j, blk, k', h1, h2⟩
  grow _ _ h := h
theorem bm.frz (hs : bm A μ σ w) {id : Nat} {m : Bool} {k : Option Nat} {els : List D} (h : σ id = some (.lst m k els)) : bm A μ (aw σ id (some (.lst false k els))) w := by
  refine hs.update (bk.frz h) id (fun j blk e hj => by rw [bg _ _ e] at hj; exact hj) (fun _ _ => rfl) (fun blk hb => ?_) (fun _ _ _ _ _ _ _ => rfl) (fun b k' blk hb hm => ?_)
  · rw [bz] at hb
    cases hb
    have := cH.keep (bk.frz (w := w) h) hs.alt (fun _ _ _ => rfl) (hs.blks id _ h)
    exact this
  · refine ⟨hs.amb id _ b k' h hm, fun j x k2 e hj hmj => e (hs.inj j id x _ b k2 k' (by rw [bg _ _ e] at hj; exact hj) h hmj hm)⟩
def eZ (σ : aL) : V → Option D
  | .d x => some x
  | .loc id off len => match σ id with
    | some (.lst _ k els) => if off + len ≤ els.length then some (.vec k ((els.drop off).take len)) else none
    | _ => none
  | _ => none
def fJ (σ : aL) : V → Option D
  | .agg vs => (cg (vs.map (eZ σ))).map D.agg
  | .loc id off len => match σ id with
    | some (.var cs) => if off = 0 ∧ len = cs.length then (match cg (cs.map (eZ σ)) with
        | some r => if r.all (fun d => d.shape none) then some (.vec none r) else none
        | none => none) else none
    | _ => eZ σ (.loc id off len)
  | v => eZ σ v
def kY (σ : aL) : V → Option D
  | .tup vs => (cg (vs.map (fJ σ))).map D.tup
  | v => fJ σ v
theorem nM (hs : bm A μ σ w) {d : D} {u : Value} (h : eZ σ v = some d) (hv : aR μ (aD A μ σ) w v u) : DRel A w d u := by
  unfold eZ at h
  split at h
  · cases h
    cases hv with
    | d _ _ h => exact h.mono fun b o v h1 h2 => ⟨h1, fun h3 => h2 (.inr h3)⟩
  · rename_i id off len
    split at h
    · rename_i m k els hid
      split at h
      · rename_i hle
        cases h
        have := kU (hs.frz hid) (v := .loc id off len) (d := .vec k ((els.drop off).take len)) (by simp [dR, bz, hle]) ((bk.frz (w := w) hid).keepV hs.alt hv)
        exact this.mono fun b o v h1 h2 => ⟨h1, fun h3 => h2 (.inr h3)⟩
      · cases h
    · cases h
  · cases h
theorem zh {d : D} (h : d.shape none = true) {j : Nat} {x : D} (hx : d.cells[j]? = some x) : j = 0 ∧ x = d := by
  cases d <;> simp [D.shape] at h <;> (cases j <;> simp [D.cells] at hx <;> exact ⟨rfl, hx.symm⟩)
theorem tK (hs : bm A μ σ w) {d : D} {u : Value} (h : fJ σ v = some d) (hv : aR μ (aD A μ σ) w v u) : DRel A w d u := by
  unfold fJ at h
  split at h
  · rename_i vs
    cases hr : cg (vs.map (eZ σ)) with
    | none => rw [hr] at h; simp at h
    | some r =>
      rw [hr] at h
      simp at h
      subst h
      obtain ⟨h1, h2⟩ := kT hr
      cases hv with
      | agg _ cs hl hc =>
        refine .agg r cs (by omega) fun i d v hd hv => ?_
        have hi : i < vs.length := by have := (List.getElem?_eq_some_iff.1 hd).1; omega
        exact nM hs (h2 i vs[i] d (by simp [hi]) hd) (hc i vs[i] v (by simp [hi]) hv)
  · rename_i id off len
    split at h
    · rename_i cs hid
      split at h
      · rename_i hc
        obtain ⟨rfl, rfl⟩ := hc
        cases hr : cg (cs.map (eZ σ)) with
        | none => rw [hr] at h; cases h
        | some r =>
          rw [hr] at h
          simp only at h
          split at h
          · rename_i hall
            cases h
            obtain ⟨h1, h2⟩ := kT hr
            have hsh : ∀ (i : Nat) d, r[i]? = some d → d.shape none = true := fun i d hd => (List.all_eq_true.1 hall) d (c7 hd)
            obtain ⟨b, c, ty, fr, m1, m2, _, m4, m5⟩ := hs.blks id _ hid
            have key : ∀ (i : Nat) d (j : Nat) x, r[i]? = some d → d.cells[j]? = some x → j = 0 ∧ ∃ u, c[i]? = some u ∧ u.oneCell' = true ∧ DRel A w x u := by
              intro i d j x hd hx
              obtain ⟨rfl, rfl⟩ := zh (hsh i d hd) hx
              have hi : i < cs.length := by have := (List.getElem?_eq_some_iff.1 hd).1; omega
              have hcu : c[i]? = some (c[i]'(by omega)) := Array.getElem?_eq_getElem (by omega)
              obtain ⟨n1, n2⟩ := m5 i cs[i] _ (by simp [hi]) hcu
              exact ⟨rfl, _, hcu, n1, nM hs (h2 i cs[i] x (by simp [hi]) hd) n2⟩
            generalize hll : cs.length = ll at hv
            cases hv with
            | loc0 _ _ a hm =>
              have : r = [] := List.eq_nil_of_length_eq_zero (by omega)
              subst this
              exact .vecn _ a
            | loc _ _ _ b' k cap g1 g2 g3 g4 =>
              rw [m1] at g1
              cases g1
              have e0 : (0 : Nat) * am none = 0 := Nat.zero_mul _
              rw [e0, ← hll, h1]
              refine .vec none r b 0 cap (fun i j => c.getD i Go.undef) ⟨by omega, g3⟩ hsh (fun i d j x hd hx => ?_) (fun i d j x hd hx => hs.amb id _ b none hid m1 _) (fun i d j x hd hx => ?_) (fun i d j x hd hx => ?_)
              · obtain ⟨rfl, u, hu, _, _⟩ := key i d j x hd hx
                rw [fu m2]
                have : (0 + i * am none + 0) = i := by simp [am]
                rw [this, hu]
                simp [Array.getD_eq_getD_getElem?, hu]
              · obtain ⟨rfl, u, hu, _, hr⟩ := key i d j x hd hx
                simpa [Array.getD_eq_getD_getElem?, hu] using hr
              · obtain ⟨rfl, u, hu, ho, _⟩ := key i d j x hd hx
                simpa [Array.getD_eq_getD_getElem?, hu] using ho
          · cases h
      · cases h
    · exact nM hs h hv
  · exact nM hs h hv
theorem tL (hs : bm A μ σ w) {d : D} {u : Value} (h : kY σ v = some d) (hv : aR μ (aD A μ σ) w v u) : DRel A w d u := by
  unfold kY at h
  split at h
  · rename_i vs
    cases hr : cg (vs.map (fJ σ)) with
    | none => rw [hr] at h; simp at h
    | some r =>
      rw [hr] at h
      simp at h
      subst h
      obtain ⟨h1, h2⟩ := kT hr
      cases hv with
      | tup _ cs hl hc =>
        refine .tup r cs (by omega) fun i d v hd hv => ?_
        have hi : i < vs.length := by have := (List.getElem?_eq_some_iff.1 hd).1; omega
        exact tK hs (h2 i vs[i] d (by simp [hi]) hd) (hc i vs[i] v (by simp [hi]) hv)
  · exact tK hs h hv
theorem qe {c : bC} {Q : Exit → S → Prop} {s s' : S} (hn : s'.n = s.n)
    (h : ∀ A μ w, bm A μ s.σ w → bm A μ s'.σ w ∧ bk μ s.σ w μ s'.σ w ∧ ∀ i u, aR μ (aD A μ s.σ) w (s.T i) u → aR μ (aD A μ s'.σ) w (s'.T i) u) (hc : ct P N c Q s') : ct P N c Q s := by
  intro code hck A μ a w ⟨hsim, hfr⟩
  obtain ⟨h1, h2, h3⟩ := h A μ w hsim.store
  refine wp_mono (hc code hck A μ a w ⟨⟨hsim.size, hsim.defers, fun i => h3 i _ (hsim.tmps i), h1⟩, by rw [hn]; exact hfr⟩) fun e a' w' ⟨g1, s2, μ2, g2, g3, g4, g5⟩ => ?_
  exact ⟨g1, s2, μ2, g2, g3, h2.trans g4, by rw [← hn]; exact g5⟩
theorem ct.drop {c : bC} {Q : Exit → S → Prop} {s : S} (T' : Nat → V) (σ' : aL) (hT : ∀ i, T' i = s.T i ∨ T' i = V.undef) (hσ : ∀ id blk, σ' id = some blk → s.σ id = some blk) (h : ct P N c Q ⟨T', σ', s.n⟩) : ct P N c Q s := by
  refine qe (s' := ⟨T', σ', s.n⟩) rfl (fun A μ w hs => ⟨hs.drop hσ, bk.drop hσ, fun i u hu => ?_⟩) h
  rcases hT i with h' | h' <;> simp only [h']
  · exact (bk.drop hσ).keepV hs.alt hu
  · exact .d _ _ (.undef _)
inductive g7 (id : Nat) (k : Option Nat) (els : List D) : V → V → Prop
  | refl (x : V) : g7 id k els x x
  | undef (x : V) : g7 id k els x V.undef
  | loc (off len) : off + len ≤ els.length → g7 id k els (.loc id off len) (.d (.vec k ((els.drop off).take len)))
  | agg (vs us : List V) : vs.length = us.length → (∀ (i : Nat) x y, vs[i]? = some x → us[i]? = some y → g7 id k els x y) → g7 id k els (.agg vs) (.agg us)
  | aggd (vs : List V) (us : List D) : vs.length = us.length → (∀ (i : Nat) x y, vs[i]? = some x → us[i]? = some y → g7 id k els x (.d y)) → g7 id k els (.agg vs) (.d (.agg us))
theorem g7.sound (hs : bm A μ σ w) {id : Nat} {m : Bool} {k : Option Nat} {els : List D} (hid : σ id = some (.lst m k els)) {v v' : V} (h : g7 id k els v v') : ∀ {u : Value}, aR μ (aD A μ σ) w v u → aR μ (aD A μ (aw σ id none)) w v' u := by
  have hσ : ∀ j blk, aw σ id none j = some blk → σ j = some blk := by
    intro j blk h
    by_cases e : j = id
    · subst e; simp [bz] at h
    · rw [bg _ _ e] at h; exact h
  have hσ2 : ∀ j blk, aw σ id none j = some blk → aw σ id (some (.lst false k els)) j = some blk := by
    intro j blk h
    by_cases e : j = id
    · subst e; simp [bz] at h
    · rw [bg _ _ e] at h ⊢; exact h
  induction h with
  | refl x => exact fun h => (bk.drop hσ).keepV hs.alt h
  | undef x => exact fun _ => .d _ _ (.undef _)
  | loc off len hle =>
    intro u hu
    have := kU (hs.frz hid) (v := .loc id off len) (d := .vec k ((els.drop off).take len)) (by simp [dR, bz, hle]) ((bk.frz (w := w) hid).keepV hs.alt hu)
    exact .d _ _ ((bk.drop hσ2).keepD hs.alt this)
  | agg vs us hl _ ih =>
    intro u hu
    cases hu with
    | agg _ cs h1 h2 =>
      refine .agg us cs (by omega) fun i x v hx hv => ?_
      have hi : i < vs.length := by have := (List.getElem?_eq_some_iff.1 hx).1; omega
      exact ih i vs[i] x (by simp [hi]) hx (h2 i vs[i] v (by simp [hi]) hv)
  | aggd vs us hl _ ih =>
    intro u hu
    cases hu with
    | agg _ cs h1 h2 =>
      refine .d _ _ (.agg us cs (by omega) fun i x v hx hv => ?_)
      have hi : i < vs.length := by have := (List.getElem?_eq_some_iff.1 hx).1; omega
      have := ih i vs[i] x (by simp [hi]) hx (h2 i vs[i] v (by simp [hi]) hv)
      cases this with | d _ _ h => exact h
theorem ct.imm {c : bC} {Q : Exit → S → Prop} {s : S} (T' : Nat → V) {id : Nat} {m : Bool} {k : Option Nat} {els : List D} (hid : s.σ id = some (.lst m k els)) (hT : ∀ i, g7 id k els (s.T i) (T' i))
    (h : ct P N c Q ⟨T', aw s.σ id none, s.n⟩) : ct P N c Q s := by
  have hσ : ∀ j blk, aw s.σ id none j = some blk → s.σ j = some blk := by
    intro j blk h
    by_cases e : j = id
    · subst e; simp [bz] at h
    · rw [bg _ _ e] at h; exact h
  exact qe (s' := ⟨T', aw s.σ id none, s.n⟩) rfl (fun A μ w hs => ⟨hs.drop hσ, bk.drop hσ, fun i u hu => (hT i).sound hs hid hu⟩) h
theorem ct.frz {c : bC} {Q : Exit → S → Prop} {s : S} {id : Nat} {m : Bool} {k : Option Nat} {els : List D} (hid : s.σ id = some (.lst m k els)) (h : ct P N c Q ⟨s.T, aw s.σ id (some (.lst false k els)), s.n⟩) : ct P N c Q s :=
  qe (s' := ⟨s.T, aw s.σ id (some (.lst false k els)), s.n⟩) rfl (fun A μ w hs => ⟨hs.frz hid, bk.frz hid, fun i u hu => (bk.frz hid).keepV hs.alt hu⟩) h
theorem zj {α : Type} (f : Nat → α) (i : Nat) (x : α) (j : Nat) : aw f i x j = if j = i then x else f j := rfl
theorem tM {k : IntKind} (hk : k.signed = false) (n : Int) : k.wrap n = n % 2 ^ k.bits := by
  simp only [IntKind.wrap, hk, Bool.false_and, Bool.false_eq_true, if_false]
theorem zk (n : Int) : IntKind.u8.wrap n = n % 256 := tM rfl n
theorem zl (n : Int) : IntKind.u16.wrap n = n % 65536 := tM rfl n
theorem zm {n : Int} (h0 : -9223372036854775808 ≤ n) (h1 : n < 9223372036854775808) : IntKind.i64.wrap n = n := by
  have hb : IntKind.i64.bits = 64 := rfl
  have hs : IntKind.i64.signed = true := rfl
  simp only [IntKind.wrap, hb, hs, Bool.true_and]
  by_cases hn : 0 ≤ n
  · have e : n % (2 ^ 64 : Int) = n := Int.emod_eq_of_lt hn (by omega)
    simp only [e]
    rw [if_neg]
    simp; omega
  · have e : n % (2 ^ 64 : Int) = n + 2 ^ 64 := by
      rw [← Int.add_emod_right n]
      exact Int.emod_eq_of_lt (by omega) (by omega)
    simp only [e]
    rw [if_pos]
    · omega
    · simp; omega
end
end Go.AM
end
