import Derived.Test.YtfjelgjfbjjopaaAmRun
set_option linter.unusedVariables false
set_option linter.unusedSectionVars false
set_option linter.unusedSimpArgs false
namespace Go.AM
open Go Go.RowKit
variable [Glob]
def aD (T : Nat → V) : AX → V
  | .t n => T n
  | .c x => .d x
def aO (T : Nat → V) (dst : Option Nat) (v : V) : Nat → V :=
  match dst with
  | some d => aj T d v
  | none => T
def V.skip : V := .d (.tup [])
def fU : V → Option (Option Bool)
  | .d (.bool b) => some (some b)
  | .d (.tup []) => some none
  | _ => none
def bQ (P : Program) (op : aM) (e : AX → V) (σ : au) (n : Nat) (v : V) (σ' : au) (n' : Nat) : Prop :=
  match op with
  | .call false f xs => ∃ ds r, bh σ (xs.map e) ds ∧ PCall P f ds r ∧ v = .d r ∧ σ' = σ ∧ n' = n
  | .call true f xs => dE P f (xs.map e) σ n v σ' n' ∧ n ≤ n'
  | .callv false x xs => ∃ f caps ds r, e x = .d (.func f caps) ∧ bh σ (xs.map e) ds ∧ PCall P f (ds ++ caps) r ∧ v = .d r ∧ σ' = σ ∧ n' = n
  | .callv true x xs => ∃ f caps, (e x = .func f caps ∨ ∃ ds, e x = .d (.func f ds) ∧ caps = ds.map V.d) ∧ dE P f (xs.map e ++ caps) σ n v σ' n' ∧ n ≤ n'
  | op => ay op e σ n = some (v, σ', n')
def aU (P : Program) (i : aQ) (T : Nat → V) (σ : au) (n : Nat) (T' : Nat → V) (σ' : au) (n' : Nat) : Prop :=
  match i.guard with
  | none => ∃ v, bQ P i.op (aD T) σ n v σ' n' ∧ T' = aO T i.dst v
  | some (g, b) => ∃ b', fU (T g) = some b' ∧ if b' = some b then (∃ v, bQ P i.op (aD T) σ n v σ' n' ∧ T' = aO T i.dst v) else (T' = aO T i.dst V.skip ∧ σ' = σ ∧ n' = n)
def m7 (ds : List Deferred) : Prop := ∃ l, ds = l ++ Glob.base ∧ ∀ d ∈ l, d.args = #[] ∧ ∃ G cap, G ∈ Glob.dfr ∧ d.target = .fn (.func G) cap
structure ca (N : Nat) (A : Nat → Nat → Prop) (μ : Nat → Option aJ) (T : Nat → V) (σ : au) (a : Act) (w : World) : Prop where
  size : a.tmps.size = N
  defers : m7 a.defers
  tmps : ∀ i, aw μ (ak A μ σ) w (T i) (a.tmps.getD i Go.undef)
  store : aB A μ σ w
section
variable {P : Program} {N : Nat} {A : Nat → Nat → Prop} {μ : Nat → Option aJ} {T T' : Nat → V} {σ σ' : au} {w : World} {a : Act} {o : Oper} {n n' : Nat}
theorem m8 : ∀ (l : List Int) (ds : List D), fK l ds = true → ds = l.map (D.int .u8)
  | [], [], _ => rfl
  | n :: l, d :: ds, h => by
    unfold fK at h
    split at h
    · rename_i h1 _; cases h1
    · rename_i h1 h2
      cases h1
      cases h2
      simp only [Bool.and_eq_true, beq_iff_eq] at h
      obtain ⟨rfl, h⟩ := h
      rw [m8 _ _ h]; rfl
    · cases h
  | [], d :: ds, h => by
    unfold fK at h
    cases h
  | n :: l, [], h => by
    unfold fK at h
    cases h
theorem qf {d : D} {g : Nat} (h : aY (.c d) (.global g) = true) : ∃ l, (g, l) ∈ Glob.tab ∧ d = .cptr (some l.length) (.agg (l.map (D.int .u8))) 0 := by
  unfold aY at h
  split at h
  · rename_i h1 _; cases h1
  · rename_i h1; cases h1
  · rename_i h1; cases h1
  · rename_i k ds g' h1 h2
    cases h1
    cases h2
    simp only [Bool.and_eq_true, beq_iff_eq, List.any_eq_true] at h
    obtain ⟨rfl, ⟨g2, l⟩, hm, h3, h4⟩ := h
    have h3 : g2 = g := h3
    have h4 : fK l ds = true := h4
    subst h3
    have := m8 _ _ h4
    subst this
    exact ⟨l, hm, by simp⟩
  · cases h
theorem ca.ev (h : ca N A μ T σ a w) : cx μ (ak A μ σ) w (aD T) a := by
  intro x y hc
  cases x with
  | t m =>
    cases y with
    | tmp q => simp [aY] at hc; subst hc; exact h.tmps m
    | _ => simp [aY] at hc
  | c d =>
    cases y with
    | const v => have h1 : gu d v = true := hc; exact .d _ _ (ke h1)
    | func f =>
      unfold aY at hc
      split at hc <;> first | (rename_i hh _; cases hh; done) | skip
      all_goals simp_all
      rename_i f1 _
      obtain ⟨_, rfl⟩ := hc
      exact .d _ _ (.func _ [] #[] rfl (fun i d v h => by simp at h))
    | global g =>
      obtain ⟨l, hm, rfl⟩ := qf hc
      have key : ∀ (i : Nat) x, (D.agg (l.map (D.int .u8))).cells[i]? = some x → ∃ n, l[i]? = some n ∧ x = .int .u8 n := by
        intro i x hx
        simp only [D.cells, List.getElem?_map] at hx
        cases hn : l[i]? with
        | none => rw [hn] at hx; cases hx
        | some n => rw [hn] at hx; cases hx; exact ⟨n, rfl, rfl⟩
      have gt : ∀ (i : Nat) n, l[i]? = some n → (l.getD i 0) = n := fun i n hn => by rw [List.getD_eq_getElem?_getD, hn]; rfl
      refine .d _ _ (.cptr _ _ 0 g 0 (fun i => .int .u8 (l.getD i 0)) (by simp [D.shape]) (fun i x hx => ?_) (fun i x hx => ?_) (fun i x hx => ?_) (fun i x hx => ?_))
      · obtain ⟨n, hn, rfl⟩ := key i x hx
        rw [gt i n hn, Nat.zero_add]; exact (h.store.glob g l hm i n hn).1
      · obtain ⟨n, hn, rfl⟩ := key i x hx
        rw [Nat.zero_add]; exact (h.store.glob g l hm i n hn).2.1
      · obtain ⟨n, hn, rfl⟩ := key i x hx
        rw [gt i n hn]; exact .int _ _ (h.store.glob g l hm i n hn).2.2
      · rfl
    | _ => simp [aY] at hc
theorem ca.put {w' : World} {μ' : Nat → Option aJ} (h : ca N A μ T σ a w) (g : aA μ σ w μ' σ' w') (hs : aB A μ' σ' w') {v : V} {cv : Value} (hv : aw μ' (ak A μ' σ') w' v cv) {dst : Option Nat} (hd : ∀ d, dst = some d → d < N) :
    ca N A μ' (aO T dst v) σ' (a.put dst cv) w' where
  size := by cases dst <;> simp [Act.put, h.size]
  defers := by cases dst <;> simp [Act.put, h.defers]
  tmps i := by
    cases dst with
    | none => exact g.keepV h.store.alt (h.tmps i)
    | some d =>
      have hdN := hd d rfl
      simp only [aO, Act.put]
      by_cases e : i = d
      · subst e
        rw [aL]
        have : (a.tmps.setIfInBounds i cv).getD i Go.undef = cv := by
          have : i < a.tmps.size := by rw [h.size]; exact hdN
          simp [Array.getD, this]
        rw [this]; exact hv
      · rw [aG _ _ e]
        have : (a.tmps.setIfInBounds d cv).getD i Go.undef = a.tmps.getD i Go.undef := by
          simp only [Array.getD_eq_getD_getElem?, Array.getElem?_setIfInBounds_ne (Ne.symm e)]
        rw [this]; exact g.keepV h.store.alt (h.tmps i)
  store := hs
def gH (P : Program) (N : Nat) (A : Nat → Nat → Prop) (μ : Nat → Option aJ) (σ : au) (w : World) (T' : Nat → V) (σ' : au) (n n' : Nat) (K : Act → World → Prop) : Prop :=
  ∀ a' w' μ', ca N A μ' T' σ' a' w' → aA μ σ w μ' σ' w' → (∀ id, μ' id ≠ none → μ id ≠ none ∨ (n ≤ id ∧ id < n')) → K a' w'
theorem kG {c : Call} {f : Nat} {fn : Func} {first captured : Array Value} {vs : Array Value} (ho : o.op = .call c) (hv : ∃ x, c.callee = .value x ∧ a.eval x = .func (.func f) first captured) (hf : P.funcs[f]? = some fn) (hn : (fn.name == "runtime.NumGoroutine") = false) (hb : fn.body.isSome = true)
    (hargs : first ++ c.args.map a.eval ++ captured = vs) : (execOp a.eval o).run P w = .ok (.enter f vs) w := by
  obtain ⟨x, hc, hx⟩ := hv
  have hb' : fn.body ≠ none := by intro h; simp [h] at hb
  have hn' : fn.name ≠ "runtime.NumGoroutine" := by simpa using hn
  simp [execOp, ho, resolve, hc, hx, Deferred.ofValue, invoke, callFunc, hf, hn', hb', hargs]
theorem kH {f : Nat} (h : fu P f = true) : ∃ fn, P.funcs[f]? = some fn ∧ (fn.name == "runtime.NumGoroutine") = false ∧ fn.body.isSome = true := by
  unfold fu at h
  split at h
  · rename_i fn hf
    simp only [Bool.and_eq_true, bne_iff_ne] at h
    exact ⟨fn, hf, by simpa using h.1, h.2⟩
  · cases h
theorem m9 {f : Nat} {ds : List D} {r : D} {vs : Array Value} {K : Act → World → Prop} {Q : Exit → Act → World → Prop} (hs : aB A μ σ w) (hp : PCall P f ds r) (hl : ds.length = vs.size) (hr : ∀ (i : Nat) d v, ds[i]? = some d → vs[i]? = some v → DRel (ak A μ σ) w d v)
    (hrun : (execOp a.eval o).run P w = .ok (.enter f vs) w) (hk : ∀ cv w', aw μ (ak A μ σ) w' (.d r) cv → aB A μ σ w' → aA μ σ w μ σ w' → K (a.put o.dst cv) w') : o.wp P a w K Q := by
  unfold Oper.wp
  rw [hrun]
  simp only [Oper.upon]
  refine (hp.2 (ak A μ σ) w vs (fun b o h => ?_) hs.glob hl hr).mono fun e w' ⟨cv, he, hd, hb⟩ => ?_
  · rcases h with h | h
    · obtain ⟨j, bl, k, hj, hp⟩ := gp h
      obtain ⟨_, hc⟩ := bD.block (hs.blks j bl hj) hp
      exact b5 hc
    · exact hs.alt b o h
  · subst he
    exact hk cv w' (.d _ _ hd) (hs.ofBelow hb) (.ofBelow hs hb)
theorem qg {f : Nat} {vals : List V} {v : V} {vs : Array Value} {K : Act → World → Prop} {Q : Exit → Act → World → Prop} (hs : aB A μ σ w) (hp : dE P f vals σ n v σ' n') (hfr : ∀ id, n ≤ id → id < n' → μ id = none) (hl : vals.length = vs.size) (hr : ∀ (i : Nat) d v, vals[i]? = some d → vs[i]? = some v → aw μ (ak A μ σ) w d v)
    (hrun : (execOp a.eval o).run P w = .ok (.enter f vs) w) (hk : ∀ cv w' μ', aw μ' (ak A μ' σ') w' v cv → aB A μ' σ' w' → aA μ σ w μ' σ' w' → (∀ id, μ' id ≠ none → μ id ≠ none ∨ (n ≤ id ∧ id < n')) → K (a.put o.dst cv) w') : o.wp P a w K Q := by
  unfold Oper.wp
  rw [hrun]
  simp only [Oper.upon]
  refine (hp.2 A μ w vs hs hfr hl hr).mono fun e w' ⟨cv, μ', he, hd, hs', hg, hdom⟩ => ?_
  subst he
  exact hk cv w' μ' hd hs' hg hdom
theorem qh {O : Nat → Nat → Prop} {l m : List V} {us vs : Array Value} (h1 : l.length = us.size) (h2 : ∀ (i : Nat) x v, l[i]? = some x → us[i]? = some v → aw μ O w x v) (h3 : m.length = vs.size) (h4 : ∀ (i : Nat) x v, m[i]? = some x → vs[i]? = some v → aw μ O w x v) :
    (l ++ m).length = (us ++ vs).size ∧ ∀ (i : Nat) x v, (l ++ m)[i]? = some x → (us ++ vs)[i]? = some v → aw μ O w x v := by
  refine ⟨by simp [h1, h3], fun i x v hx hv => ?_⟩
  by_cases hi : i < l.length
  · rw [List.getElem?_append_left hi] at hx
    rw [Array.getElem?_append_left (by omega)] at hv
    exact h2 i x v hx hv
  · rw [List.getElem?_append_right (by omega)] at hx
    rw [Array.getElem?_append_right (by omega)] at hv
    exact h4 _ x v hx (by rw [h1]; exact hv)
theorem qi {O : Nat → Nat → Prop} {l m : List D} {us vs : Array Value} (h1 : l.length = us.size) (h2 : ∀ (i : Nat) x v, l[i]? = some x → us[i]? = some v → DRel O w x v) (h3 : m.length = vs.size) (h4 : ∀ (i : Nat) x v, m[i]? = some x → vs[i]? = some v → DRel O w x v) :
    (l ++ m).length = (us ++ vs).size ∧ ∀ (i : Nat) x v, (l ++ m)[i]? = some x → (us ++ vs)[i]? = some v → DRel O w x v := by
  refine ⟨by simp [h1, h3], fun i x v hx hv => ?_⟩
  by_cases hi : i < l.length
  · rw [List.getElem?_append_left hi] at hx
    rw [Array.getElem?_append_left (by omega)] at hv
    exact h2 i x v hx hv
  · rw [List.getElem?_append_right (by omega)] at hx
    rw [Array.getElem?_append_right (by omega)] at hv
    exact h4 _ x v hx (by rw [h1]; exact hv)
theorem bQ.sound {op : aM} {v : V} {K : Act → World → Prop} {Q : Exit → Act → World → Prop} (hc : eu P op o.op = true) (hd : ∀ d, o.dst = some d → d < N) (hsim : ca N A μ T σ a w) (hfr : ∀ id, n ≤ id → id < n' → μ id = none)
    (h : bQ P op (aD T) σ n v σ' n') (hk : gH P N A μ σ w (aO T o.dst v) σ' n n' K) : o.wp P a w K Q := by
  have plain : ay op (aD T) σ n = some (v, σ', n') → o.wp P a w K Q := by
    intro hst
    obtain ⟨nx, cv, w', μ', hr, hnx, hv, hs', hg, hdom⟩ := m6 hc hsim.ev hsim.store hfr hst
    unfold Oper.wp
    rw [hr]
    rcases hnx with rfl | ⟨rfl, rfl⟩
    · exact hk _ _ μ' (hsim.put hg hs' hv hd) hg hdom
    · exact hk _ _ μ' (hsim.put hg hs' hv hd) hg hdom
  have callS : ∀ (vals : List V) (f : Nat) (first captured : Array Value) (c : Call), op.callish = true → o.op = .call c → (∃ x, c.callee = .value x ∧ a.eval x = .func (.func f) first captured) → dE P f vals σ n v σ' n' →
      (vals.length = (first ++ c.args.map a.eval ++ captured).size ∧ ∀ (i : Nat) x u, vals[i]? = some x → (first ++ c.args.map a.eval ++ captured)[i]? = some u → aw μ (ak A μ σ) w x u) → o.wp P a w K Q := by
    intro vals f first captured c h3 hop hcal h2 ⟨g1, g2⟩
    obtain ⟨fn, k1, k2, k3⟩ := kH h2.1
    exact qg hsim.store h2 hfr g1 g2 (kG hop hcal k1 k2 k3 rfl) fun cv w' μ' hv hs' hg hdom => hk _ _ μ' (hsim.put hg hs' hv hd) hg hdom
  generalize hop : o.op = oo at hc
  unfold bQ at h
  split at h
  · -- a pure call
    rename_i f xs
    obtain ⟨ds, r, h1, h2, rfl, rfl, rfl⟩ := h
    unfold eu at hc
    cases oo <;> simp only [Bool.false_eq_true] at hc
    rename_i c
    split at hc
    · rename_i f' hcal
      simp only [Bool.and_eq_true, beq_iff_eq] at hc
      obtain ⟨rfl, hxs⟩ := hc
      obtain ⟨g1, g2⟩ := hsim.ev.list hxs
      obtain ⟨g3, g4⟩ := bh.sound hsim.store h1 (us := (c.args.map a.eval).toList) (by simpa using g1) (fun i x v hx hv => g2 i x v hx (by simpa using hv))
      obtain ⟨fn, k1, k2, k3⟩ := kH h2.1
      exact m9 hsim.store h2 (vs := c.args.map a.eval) (by simpa using g3) (fun i d v hd hv => g4 i d v hd (by simpa using hv))
        (kG (first := #[]) (captured := #[]) hop ⟨_, hcal, rfl⟩ k1 k2 k3 (by simp)) fun cv w' hv hs' hg => hk _ _ μ (hsim.put hg hs' hv hd) hg fun id h => .inl h
    · cases hc
  · -- a call with a store
    rename_i f xs
    obtain ⟨h2, _⟩ := h
    unfold eu at hc
    cases oo <;> simp only [Bool.false_eq_true] at hc
    rename_i c
    split at hc
    · rename_i f' hcal
      simp only [Bool.and_eq_true, beq_iff_eq] at hc
      obtain ⟨rfl, hxs⟩ := hc
      obtain ⟨g1, g2⟩ := hsim.ev.list hxs
      exact callS _ f #[] #[] c rfl hop ⟨_, hcal, rfl⟩ h2 ⟨by simpa using g1, fun i x u hx hu => g2 i x u hx (by simpa using hu)⟩
    · cases hc
  · -- a function value, pure
    rename_i x xs
    obtain ⟨f, caps, ds, r, hx, h1, h2, rfl, rfl, rfl⟩ := h
    unfold eu at hc
    cases oo <;> simp only [Bool.false_eq_true] at hc
    rename_i c
    split at hc
    · rename_i y hcal
      simp only [Bool.and_eq_true] at hc
      obtain ⟨hcx, hxs⟩ := hc
      have hxv := hsim.ev _ _ hcx
      rw [hx] at hxv
      generalize hev : a.eval y = u at hxv
      cases hxv with
      | d _ _ hdr => cases hdr with
        | func _ _ cs q1 q2 =>
          obtain ⟨g1, g2⟩ := hsim.ev.list hxs
          obtain ⟨g3, g4⟩ := bh.sound hsim.store h1 (us := (c.args.map a.eval).toList) (by simpa using g1) (fun i x v hx hv => g2 i x v hx (by simpa using hv))
          obtain ⟨fn, k1, k2, k3⟩ := kH h2.1
          obtain ⟨m1, m2⟩ := qi (O := ak A μ _) (w := w) (l := ds) (m := caps) (us := c.args.map a.eval) (vs := cs) (by simpa using g3) (fun i d v hd hv => g4 i d v hd (by simpa using hv)) q1 q2
          exact m9 hsim.store h2 (vs := c.args.map a.eval ++ cs) m1 m2
            (kG (first := #[]) (captured := cs) hop ⟨_, hcal, hev⟩ k1 k2 k3 (by simp)) fun cv w' hv hs' hg => hk _ _ μ (hsim.put hg hs' hv hd) hg fun id h => .inl h
    · cases hc
  · -- a function value, with a store
    rename_i x xs
    obtain ⟨f, caps, hx, h2, _⟩ := h
    unfold eu at hc
    cases oo <;> simp only [Bool.false_eq_true] at hc
    rename_i c
    split at hc
    · rename_i y hcal
      simp only [Bool.and_eq_true] at hc
      obtain ⟨hcx, hxs⟩ := hc
      have hxv := hsim.ev _ _ hcx
      obtain ⟨g1, g2⟩ := hsim.ev.list hxs
      generalize hev : a.eval y = u at hxv
      have hcs : ∃ cs, u = .func (.func f) #[] cs ∧ caps.length = cs.size ∧ ∀ (i : Nat) x v, caps[i]? = some x → cs[i]? = some v → aw μ (ak A μ σ) w x v := by
        rcases hx with hx | ⟨ds, hx, rfl⟩ <;> rw [hx] at hxv
        · cases hxv with
          | func _ _ cs q1 q2 => exact ⟨cs, rfl, q1, q2⟩
        · cases hxv with
          | d _ _ hdr => cases hdr with
            | func _ _ cs q1 q2 => exact ⟨cs, rfl, by simpa using q1, pc q1 q2⟩
      obtain ⟨cs, rfl, q1, q2⟩ := hcs
      obtain ⟨m1, m2⟩ := qh (μ := μ) (O := ak A μ σ) (w := w) (us := c.args.map a.eval) (vs := cs) g1 g2 q1 q2
      exact callS _ f #[] cs c rfl hop ⟨_, hcal, hev⟩ h2 ⟨by simpa using m1, fun i x u hx hu => m2 i x u hx (by simpa using hu)⟩
    · cases hc
  · rw [← hop] at hc
    exact plain h
theorem aU.sound {ops : Array Oper} {i : aQ} {K : Act → World → Prop} {Q : Exit → Act → World → Prop} (hc : fN P N ops i o = true) (hsim : ca N A μ T σ a w) (hfr : ∀ id, n ≤ id → id < n' → μ id = none)
    (h : aU P i T σ n T' σ' n') (hk : gH P N A μ σ w T' σ' n n' K) :
    if Region.wanted o (yielded ops a.tmps) then o.wp P a w K Q else K (a.put o.dst Go.undef) w := by
  simp only [fN, Bool.and_eq_true, beq_iff_eq] at hc
  obtain ⟨⟨⟨hdst, hdN⟩, hg⟩, hop⟩ := hc
  have hd : ∀ d, o.dst = some d → d < N := by
    intro d hd
    rw [← hdst] at hd
    rw [hd] at hdN
    simpa using hdN
  unfold aU at h
  have go : (∃ v, bQ P i.op (aD T) σ n v σ' n' ∧ T' = aO T i.dst v) → o.wp P a w K Q := by
    rintro ⟨v, hv, rfl⟩
    rw [hdst] at hk
    exact hv.sound hop hd hsim hfr hk
  cases hgi : i.guard with
  | none =>
    rw [hgi] at h hg
    cases hgo : o.guard with
    | some q => rw [hgo] at hg; simp [gw] at hg
    | none =>
      simp only [Region.wanted, hgo, if_true]
      exact go h
  | some p =>
    obtain ⟨s, b⟩ := p
    rw [hgi] at h hg
    cases hgo : o.guard with
    | none => rw [hgo] at hg; simp [gw] at hg
    | some q =>
      obtain ⟨j, b'⟩ := q
      rw [hgo] at hg
      simp only [gw, Bool.and_eq_true, beq_iff_eq] at hg
      obtain ⟨rfl, hg⟩ := hg
      cases hoj : ops[j]? with
      | none => rw [hoj] at hg; simp at hg
      | some oj =>
        rw [hoj] at hg
        simp only [beq_iff_eq] at hg
        obtain ⟨b1, hT, h⟩ := h
        have hv := hsim.tmps s
        have hy : yielded ops a.tmps j = b1 := by
          unfold fU at hT
          split at hT
          · rename_i b2 hq
            cases hT
            rw [hq] at hv
            have hv := fp hv
            have hs2 : a.tmps[s]? = some (.bool b2) := by
              rw [Array.getD_eq_getD_getElem?] at hv
              cases hq : a.tmps[s]? with
              | none => rw [hq] at hv; simp [Go.undef] at hv
              | some u => rw [hq] at hv; simpa using hv
            simp [yielded, hoj, hg, hs2]
          · rename_i hq
            cases hT
            rw [hq] at hv
            have hv2 : a.tmps.getD s Go.undef = .tuple #[] := by
              generalize a.tmps.getD s Go.undef = u at hv
              cases hv with
              | d _ _ hd => cases hd with
                | tup _ cs h1 _ =>
                  have : cs = #[] := Array.eq_empty_of_size_eq_zero (by simpa using h1.symm)
                  rw [this]
            rw [Array.getD_eq_getD_getElem?] at hv2
            cases hq2 : a.tmps[s]? with
            | none => simp [yielded, hoj, hg, hq2]
            | some u => rw [hq2] at hv2; simp at hv2; subst hv2; simp [yielded, hoj, hg, hq2]
          · cases hT
        simp only [Region.wanted, hgo, hy]
        by_cases hbb : b1 = some b
        · subst hbb
          rw [if_pos rfl] at h
          simp only [beq_self_eq_true, if_true]
          exact go h
        · rw [if_neg hbb] at h
          obtain ⟨rfl, rfl, rfl⟩ := h
          have : (b1 == some b) = false := by simp [hbb]
          simp only [this, Bool.false_eq_true, if_false]
          rw [hdst] at hk
          exact hk _ _ μ (hsim.put (aA.refl _ _ _) hsim.store (.d _ _ (.tup [] #[] rfl (fun i d v h => by simp at h))) hd) (aA.refl _ _ _) fun id h => .inl h
end
end Go.AM
