import Derived.Test.YtnnkfanmokeiaaaAmStep
/-  Several texts in one. -/
section
set_option linter.unusedVariables false
set_option linter.unusedSectionVars false
set_option linter.unusedSimpArgs false
namespace Go.AM
open Go Go.RowKit
variable [Glob]
def j6 (P : Program) (f : Nat) : Bool :=
  match P.funcs[f]? with
  | some fn => fn.name != "runtime.NumGoroutine" && fn.body.isSome
  | none => false
def PCall (P : Program) (f : Nat) (ds : List D) (r : D) : Prop :=
  j6 P f = true ∧ ∀ (A : Nat → Nat → Prop) (w : World) (vs : Array Value), (∀ b o, A b o → b < w.heap.size) → lN A w → ds.length = vs.size → (∀ (i : Nat) d v, ds[i]? = some d → vs[i]? = some v → DRel A w d v) →
    Calls P f vs w fun e w' => ∃ cv, e = .returned cv ∧ DRel A w' r cv ∧ Below w.heap.size w w'
def dp (P : Program) (f : Nat) (vals : List V) (σ : aL) (n : Nat) (v : V) (σ' : aL) (n' : Nat) : Prop :=
  j6 P f = true ∧ ∀ (A : Nat → Nat → Prop) (μ : Nat → Option bI) (w : World) (vs : Array Value), bm A μ σ w → (∀ id, n ≤ id → μ id = none) → vals.length = vs.size →
    (∀ (i : Nat) x v, vals[i]? = some x → vs[i]? = some v → aR μ (aD A μ σ) w x v) →
    Calls P f vs w fun e w' => ∃ cv μ', e = .returned cv ∧ aR μ' (aD A μ' σ') w' v cv ∧ bm A μ' σ' w' ∧ bk μ σ w μ' σ' w' ∧ ∀ id, μ' id ≠ none → μ id ≠ none ∨ (n ≤ id ∧ id < n')
def gf (P : Program) (f : Nat) (vals : List V) (σ : aL) (n : Nat) (v : V) (σ' : aL) (n' : Nat) : Prop :=
  j6 P f = true ∧ ∀ (A : Nat → Nat → Prop) (μ : Nat → Option bI) (w : World) (vs : Array Value), bm A μ σ w → (∀ id, n ≤ id → id < n' → μ id = none) → vals.length = vs.size →
    (∀ (i : Nat) x v, vals[i]? = some x → vs[i]? = some v → aR μ (aD A μ σ) w x v) →
    Calls P f vs w fun e w' => ∃ cv μ', e = .returned cv ∧ aR μ' (aD A μ' σ') w' v cv ∧ bm A μ' σ' w' ∧ bk μ σ w μ' σ' w' ∧ ∀ id, μ' id ≠ none → μ id ≠ none ∨ (n ≤ id ∧ id < n')
inductive eg : D → D → Prop
  | refl (d) : eg d d
  | nils (k) : eg .nils (.vec k [])
  | agg (l m : List D) : l.length = m.length → (∀ (i : Nat) a b, l[i]? = some a → m[i]? = some b → eg a b) → eg (.agg l) (.agg m)
  | tup (l m : List D) : l.length = m.length → (∀ (i : Nat) a b, l[i]? = some a → m[i]? = some b → eg a b) → eg (.tup l) (.tup m)
theorem DRel.sub {own : Nat → Nat → Prop} {w : World} {d d' : D} (h : eg d d') : ∀ {v : Value}, DRel own w d v → DRel own w d' v := by
  induction h with
  | refl d => exact fun h => h
  | nils k => intro v h; cases h; exact .vecn k none
  | agg l m hl _ ih =>
    intro v h
    cases h with
    | agg _ cs h1 h2 =>
      refine .agg m cs (by omega) fun i d v hd hv => ?_
      have hi : i < l.length := by have := (List.getElem?_eq_some_iff.1 hd).1; omega
      exact ih i l[i] d (by simp [hi]) hd (h2 i l[i] v (by simp [hi]) hv)
  | tup l m hl _ ih =>
    intro v h
    cases h with
    | tup _ cs h1 h2 =>
      refine .tup m cs (by omega) fun i d v hd hv => ?_
      have hi : i < l.length := by have := (List.getElem?_eq_some_iff.1 hd).1; omega
      exact ih i l[i] d (by simp [hi]) hd (h2 i l[i] v (by simp [hi]) hv)
def bq (σ : aL) : List V → List D → Prop
  | [], [] => True
  | v :: vs, d :: ds => (∃ d0, dH σ v = some d0 ∧ eg d0 d) ∧ bq σ vs ds
  | _, _ => False
section
variable {P : Program} {A : Nat → Nat → Prop} {μ : Nat → Option bI} {σ σ' : aL} {w : World}
theorem bq.sound (hs : bm A μ σ w) : ∀ {vals : List V} {ds : List D} {us : List Value}, bq σ vals ds → vals.length = us.length → (∀ (i : Nat) x v, vals[i]? = some x → us[i]? = some v → aR μ (aD A μ σ) w x v) →
    ds.length = us.length ∧ ∀ (i : Nat) d v, ds[i]? = some d → us[i]? = some v → DRel (aD A μ σ) w d v
  | [], [], us, _, hl, _ => ⟨hl, fun i d v h => by simp at h⟩
  | x :: vals, d :: ds, [], _, hl, _ => by simp at hl
  | x :: vals, d :: ds, u :: us, h, hl, hr => by
    obtain ⟨⟨d0, h1, h2⟩, h3⟩ := h
    obtain ⟨g1, g2⟩ := bq.sound hs h3 (us := us) (by simpa using hl) (fun i x v hx hv => hr (i + 1) x v (by simpa using hx) (by simpa using hv))
    refine ⟨by simp [g1], fun i d' v hd hv => ?_⟩
    cases i with
    | zero => simp at hd hv; subst hd; subst hv; exact (pS hs h1 (hr 0 x u rfl rfl)).sub h2
    | succ i => exact g2 i d' v (by simpa using hd) (by simpa using hv)
  | [], _ :: _, _, h, _, _ => h.elim
  | _ :: _, [], _, h, _, _ => h.elim
theorem bk.ofBelow (hs : bm A μ σ w) {w' : World} (h : Below w.heap.size w w') : bk μ σ w μ σ w' where
  os := h.os
  tape := h.tape
  output := h.output
  size := h.size
  block b hb _ := h.block b hb
  cells b c ty fr hc := ⟨c, by rw [h.block b (eA hc)]; exact hc, rfl, fun _ _ => rfl⟩
  own _ _ h := .inl h
  ownB _ h := .inl h
  grow _ _ h := h
theorem bm.ofBelow (hs : bm A μ σ w) {w' : World} (h : Below w.heap.size w w') : bm A μ σ w' where
  blks j blk hj := cH.keep (bk.ofBelow hs h) hs.alt (fun b k hb => by
    obtain ⟨_, hc⟩ := cH.block (hs.blks j blk hj) hb
    exact h.block b (eA hc)) (hs.blks j blk hj)
  inj := hs.inj
  amb := hs.amb
  alt b o h' := Nat.lt_of_lt_of_le (hs.alt b o h') h.size
  glob := hs.glob.mono ((bk.ofBelow hs h).keepCell hs.alt)
end
end Go.AM
end
section
set_option linter.unusedVariables false
set_option linter.unusedSectionVars false
set_option linter.unusedSimpArgs false
namespace Go.AM
open Go Go.RowKit
variable [Glob]
def aF (T : Nat → V) : AX → V
  | .t n => T n
  | .c x => .d x
def bD (T : Nat → V) (dst : Option Nat) (v : V) : Nat → V :=
  match dst with
  | some d => aw T d v
  | none => T
def V.skip : V := .d (.tup [])
def iO : V → Option (Option Bool)
  | .d (.bool b) => some (some b)
  | .d (.tup []) => some none
  | _ => none
def cX (P : Program) (op : bF) (e : AX → V) (σ : aL) (n : Nat) (v : V) (σ' : aL) (n' : Nat) : Prop :=
  match op with
  | .call false f xs => ∃ ds r, bq σ (xs.map e) ds ∧ PCall P f ds r ∧ v = .d r ∧ σ' = σ ∧ n' = n
  | .call true f xs => gf P f (xs.map e) σ n v σ' n' ∧ n ≤ n'
  | .callv false x xs => ∃ f caps ds r, e x = .d (.func f caps) ∧ bq σ (xs.map e) ds ∧ PCall P f (ds ++ caps) r ∧ v = .d r ∧ σ' = σ ∧ n' = n
  | .callv true x xs => ∃ f caps, (e x = .func f caps ∨ ∃ ds, e x = .d (.func f ds) ∧ caps = ds.map V.d) ∧ gf P f (xs.map e ++ caps) σ n v σ' n' ∧ n ≤ n'
  | op => aI op e σ n = some (v, σ', n')
def bQ (P : Program) (i : bL) (T : Nat → V) (σ : aL) (n : Nat) (T' : Nat → V) (σ' : aL) (n' : Nat) : Prop :=
  match i.guard with
  | none => ∃ v, cX P i.op (aF T) σ n v σ' n' ∧ T' = bD T i.dst v
  | some (g, b) => ∃ b', iO (T g) = some b' ∧ if b' = some b then (∃ v, cX P i.op (aF T) σ n v σ' n' ∧ T' = bD T i.dst v) else (T' = bD T i.dst V.skip ∧ σ' = σ ∧ n' = n)
def tn (ds : List Deferred) : Prop := ∀ d ∈ ds, d.args = #[] ∧ ∃ G cap, G ∈ Glob.dfr ∧ d.target = .fn (.func G) cap
structure dO (N : Nat) (A : Nat → Nat → Prop) (μ : Nat → Option bI) (T : Nat → V) (σ : aL) (a : Act) (w : World) : Prop where
  size : a.tmps.size = N
  defers : tn a.defers
  tmps : ∀ i, aR μ (aD A μ σ) w (T i) (a.tmps.getD i Go.undef)
  store : bm A μ σ w
section
variable {P : Program} {N : Nat} {A : Nat → Nat → Prop} {μ : Nat → Option bI} {T T' : Nat → V} {σ σ' : aL} {w : World} {a : Act} {o : Oper} {n n' : Nat}
theorem tp : ∀ (l : List Int) (ds : List D), jU l ds = true → ds = l.map (D.int .u8)
  | [], [], _ => rfl
  | n :: l, d :: ds, h => by
    unfold jU at h
    split at h
    · rename_i h1 _; cases h1
    · rename_i h1 h2
      cases h1
      cases h2
      simp only [Bool.and_eq_true, beq_iff_eq] at h
      obtain ⟨rfl, h⟩ := h
      rw [tp _ _ h]; rfl
    · cases h
  | [], d :: ds, h => by
    unfold jU at h
    cases h
  | n :: l, [], h => by
    unfold jU at h
    cases h
theorem yH {d : D} {g : Nat} (h : bT (.c d) (.global g) = true) : ∃ l, (g, l) ∈ Glob.tab ∧ d = .cptr (some l.length) (.agg (l.map (D.int .u8))) 0 := by
  unfold bT at h
  split at h
  · rename_i h1 _; cases h1
  · rename_i h1; cases h1
  · rename_i h1; cases h1
  · rename_i k ds g' h1 h2
    cases h1
    cases h2
    simp only [Bool.and_eq_true, beq_iff_eq, List.any_eq_true] at h
    obtain ⟨rfl, ⟨g2, l⟩, hm, h3, h4⟩ := h
    have h3 : g2 = g := h3
    have h4 : jU l ds = true := h4
    subst h3
    have := tp _ _ h4
    subst this
    exact ⟨l, hm, by simp⟩
  · cases h
theorem dO.ev (h : dO N A μ T σ a w) : dU μ (aD A μ σ) w (aF T) a := by
  intro x y hc
  cases x with
  | t m =>
    cases y with
    | tmp q => simp [bT] at hc; subst hc; exact h.tmps m
    | _ => simp [bT] at hc
  | c d =>
    cases y with
    | const v => have h1 : kK d v = true := hc; exact .d _ _ (py h1)
    | func f =>
      unfold bT at hc
      split at hc <;> first | (rename_i hh _; cases hh; done) | skip
      all_goals simp_all
      rename_i f1 _
      obtain ⟨_, rfl⟩ := hc
      exact .d _ _ (.func _ [] #[] rfl (fun i d v h => by simp at h))
    | global g =>
      obtain ⟨l, hm, rfl⟩ := yH hc
      have key : ∀ (i : Nat) x, (D.agg (l.map (D.int .u8))).cells[i]? = some x → ∃ n, l[i]? = some n ∧ x = .int .u8 n := by
        intro i x hx
        simp only [D.cells, List.getElem?_map] at hx
        cases hn : l[i]? with
        | none => rw [hn] at hx; cases hx
        | some n => rw [hn] at hx; cases hx; exact ⟨n, rfl, rfl⟩
      have gt : ∀ (i : Nat) n, l[i]? = some n → (l.getD i 0) = n := fun i n hn => by rw [List.getD_eq_getElem?_getD, hn]; rfl
      refine .d _ _ (.cptr _ _ 0 g 0 (fun i => .int .u8 (l.getD i 0)) (by simp [D.shape]) (fun i x hx => ?_) (fun i x hx => ?_) (fun i x hx => ?_) (fun i x hx => ?_))
      · obtain ⟨n, hn, rfl⟩ := key i x hx
        rw [gt i n hn, Nat.zero_add]; exact (h.store.glob g l hm i n hn).1
      · obtain ⟨n, hn, rfl⟩ := key i x hx
        rw [Nat.zero_add]; exact (h.store.glob g l hm i n hn).2.1
      · obtain ⟨n, hn, rfl⟩ := key i x hx
        rw [gt i n hn]; exact .int _ _ (h.store.glob g l hm i n hn).2.2
      · rfl
    | _ => simp [bT] at hc
theorem dO.put {w' : World} {μ' : Nat → Option bI} (h : dO N A μ T σ a w) (g : bk μ σ w μ' σ' w') (hs : bm A μ' σ' w') {v : V} {cv : Value} (hv : aR μ' (aD A μ' σ') w' v cv) {dst : Option Nat} (hd : ∀ d, dst = some d → d < N) :
    dO N A μ' (bD T dst v) σ' (a.put dst cv) w' where
  size := by cases dst <;> simp [Act.put, h.size]
  defers := by cases dst <;> simp [Act.put, h.defers]
  tmps i := by
    cases dst with
    | none => exact g.keepV h.store.alt (h.tmps i)
    | some d =>
      have hdN := hd d rfl
      simp only [bD, Act.put]
      by_cases e : i = d
      · subst e
        rw [bz]
        have : (a.tmps.setIfInBounds i cv).getD i Go.undef = cv := by
          have : i < a.tmps.size := by rw [h.size]; exact hdN
          simp [Array.getD, this]
        rw [this]; exact hv
      · rw [bg _ _ e]
        have : (a.tmps.setIfInBounds d cv).getD i Go.undef = a.tmps.getD i Go.undef := by
          simp only [Array.getD_eq_getD_getElem?, Array.getElem?_setIfInBounds_ne (Ne.symm e)]
        rw [this]; exact g.keepV h.store.alt (h.tmps i)
  store := hs
def kV (P : Program) (N : Nat) (A : Nat → Nat → Prop) (μ : Nat → Option bI) (σ : aL) (w : World) (T' : Nat → V) (σ' : aL) (n n' : Nat) (K : Act → World → Prop) : Prop :=
  ∀ a' w' μ', dO N A μ' T' σ' a' w' → bk μ σ w μ' σ' w' → (∀ id, μ' id ≠ none → μ id ≠ none ∨ (n ≤ id ∧ id < n')) → K a' w'
theorem pV {c : Call} {f : Nat} {fn : Func} {first captured : Array Value} {vs : Array Value} (ho : o.op = .call c) (hv : ∃ x, c.callee = .value x ∧ a.eval x = .func (.func f) first captured) (hf : P.funcs[f]? = some fn) (hn : (fn.name == "runtime.NumGoroutine") = false) (hb : fn.body.isSome = true)
    (hargs : first ++ c.args.map a.eval ++ captured = vs) : (execOp a.eval o).run P w = .ok (.enter f vs) w := by
  obtain ⟨x, hc, hx⟩ := hv
  have hb' : fn.body ≠ none := by intro h; simp [h] at hb
  have hn' : fn.name ≠ "runtime.NumGoroutine" := by simpa using hn
  simp [execOp, ho, resolve, hc, hx, Deferred.ofValue, invoke, callFunc, hf, hn', hb', hargs]
theorem pW {f : Nat} (h : j6 P f = true) : ∃ fn, P.funcs[f]? = some fn ∧ (fn.name == "runtime.NumGoroutine") = false ∧ fn.body.isSome = true := by
  unfold j6 at h
  split at h
  · rename_i fn hf
    simp only [Bool.and_eq_true, bne_iff_ne] at h
    exact ⟨fn, hf, by simpa using h.1, h.2⟩
  · cases h
theorem tq {f : Nat} {ds : List D} {r : D} {vs : Array Value} {K : Act → World → Prop} {Q : Exit → Act → World → Prop} (hs : bm A μ σ w) (hp : PCall P f ds r) (hl : ds.length = vs.size) (hr : ∀ (i : Nat) d v, ds[i]? = some d → vs[i]? = some v → DRel (aD A μ σ) w d v)
    (hrun : (execOp a.eval o).run P w = .ok (.enter f vs) w) (hk : ∀ cv w', aR μ (aD A μ σ) w' (.d r) cv → bm A μ σ w' → bk μ σ w μ σ w' → K (a.put o.dst cv) w') : o.wp P a w K Q := by
  unfold Oper.wp
  rw [hrun]
  simp only [Oper.upon]
  refine (hp.2 (aD A μ σ) w vs (fun b o h => ?_) hs.glob hl hr).mono fun e w' ⟨cv, he, hd, hb⟩ => ?_
  · rcases h with h | h
    · obtain ⟨j, bl, k, hj, hp⟩ := jP h
      obtain ⟨_, hc⟩ := cH.block (hs.blks j bl hj) hp
      exact eA hc
    · exact hs.alt b o h
  · subst he
    exact hk cv w' (.d _ _ hd) (hs.ofBelow hb) (.ofBelow hs hb)
theorem yI {f : Nat} {vals : List V} {v : V} {vs : Array Value} {K : Act → World → Prop} {Q : Exit → Act → World → Prop} (hs : bm A μ σ w) (hp : gf P f vals σ n v σ' n') (hfr : ∀ id, n ≤ id → id < n' → μ id = none) (hl : vals.length = vs.size) (hr : ∀ (i : Nat) d v, vals[i]? = some d → vs[i]? = some v → aR μ (aD A μ σ) w d v)
    (hrun : (execOp a.eval o).run P w = .ok (.enter f vs) w) (hk : ∀ cv w' μ', aR μ' (aD A μ' σ') w' v cv → bm A μ' σ' w' → bk μ σ w μ' σ' w' → (∀ id, μ' id ≠ none → μ id ≠ none ∨ (n ≤ id ∧ id < n')) → K (a.put o.dst cv) w') : o.wp P a w K Q := by
  unfold Oper.wp
  rw [hrun]
  simp only [Oper.upon]
  refine (hp.2 A μ w vs hs hfr hl hr).mono fun e w' ⟨cv, μ', he, hd, hs', hg, hdom⟩ => ?_
  subst he
  exact hk cv w' μ' hd hs' hg hdom
theorem yJ {O : Nat → Nat → Prop} {l m : List V} {us vs : Array Value} (h1 : l.length = us.size) (h2 : ∀ (i : Nat) x v, l[i]? = some x → us[i]? = some v → aR μ O w x v) (h3 : m.length = vs.size) (h4 : ∀ (i : Nat) x v, m[i]? = some x → vs[i]? = some v → aR μ O w x v) :
    (l ++ m).length = (us ++ vs).size ∧ ∀ (i : Nat) x v, (l ++ m)[i]? = some x → (us ++ vs)[i]? = some v → aR μ O w x v := by
  refine ⟨by simp [h1, h3], fun i x v hx hv => ?_⟩
  by_cases hi : i < l.length
  · rw [List.getElem?_append_left hi] at hx
    rw [Array.getElem?_append_left (by omega)] at hv
    exact h2 i x v hx hv
  · rw [List.getElem?_append_right (by omega)] at hx
    rw [Array.getElem?_append_right (by omega)] at hv
    exact h4 _ x v hx (by rw [h1]; exact hv)
theorem yK {O : Nat → Nat → Prop} {l m : List D} {us vs : Array Value} (h1 : l.length = us.size) (h2 : ∀ (i : Nat) x v, l[i]? = some x → us[i]? = some v → DRel O w x v) (h3 : m.length = vs.size) (h4 : ∀ (i : Nat) x v, m[i]? = some x → vs[i]? = some v → DRel O w x v) :
    (l ++ m).length = (us ++ vs).size ∧ ∀ (i : Nat) x v, (l ++ m)[i]? = some x → (us ++ vs)[i]? = some v → DRel O w x v := by
  refine ⟨by simp [h1, h3], fun i x v hx hv => ?_⟩
  by_cases hi : i < l.length
  · rw [List.getElem?_append_left hi] at hx
    rw [Array.getElem?_append_left (by omega)] at hv
    exact h2 i x v hx hv
  · rw [List.getElem?_append_right (by omega)] at hx
    rw [Array.getElem?_append_right (by omega)] at hv
    exact h4 _ x v hx (by rw [h1]; exact hv)
theorem cX.sound {op : bF} {v : V} {K : Act → World → Prop} {Q : Exit → Act → World → Prop} (hc : iM P op o.op = true) (hd : ∀ d, o.dst = some d → d < N) (hsim : dO N A μ T σ a w) (hfr : ∀ id, n ≤ id → id < n' → μ id = none)
    (h : cX P op (aF T) σ n v σ' n') (hk : kV P N A μ σ w (bD T o.dst v) σ' n n' K) : o.wp P a w K Q := by
  have plain : aI op (aF T) σ n = some (v, σ', n') → o.wp P a w K Q := by
    intro hst
    obtain ⟨nx, cv, w', μ', hr, hnx, hv, hs', hg, hdom⟩ := yG hc hsim.ev hsim.store hfr hst
    unfold Oper.wp
    rw [hr]
    rcases hnx with rfl | ⟨rfl, rfl⟩
    · exact hk _ _ μ' (hsim.put hg hs' hv hd) hg hdom
    · exact hk _ _ μ' (hsim.put hg hs' hv hd) hg hdom
  have callS : ∀ (vals : List V) (f : Nat) (first captured : Array Value) (c : Call), op.callish = true → o.op = .call c → (∃ x, c.callee = .value x ∧ a.eval x = .func (.func f) first captured) → gf P f vals σ n v σ' n' →
      (vals.length = (first ++ c.args.map a.eval ++ captured).size ∧ ∀ (i : Nat) x u, vals[i]? = some x → (first ++ c.args.map a.eval ++ captured)[i]? = some u → aR μ (aD A μ σ) w x u) → o.wp P a w K Q := by
    intro vals f first captured c h3 hop hcal h2 ⟨g1, g2⟩
    obtain ⟨fn, k1, k2, k3⟩ := pW h2.1
    exact yI hsim.store h2 hfr g1 g2 (pV hop hcal k1 k2 k3 rfl) fun cv w' μ' hv hs' hg hdom => hk _ _ μ' (hsim.put hg hs' hv hd) hg hdom
  generalize hop : o.op = oo at hc
  unfold cX at h
  split at h
  · -- a pure call
    rename_i f xs
    obtain ⟨ds, r, h1, h2, rfl, rfl, rfl⟩ := h
    unfold iM at hc
    cases oo <;> simp only [Bool.false_eq_true] at hc
    rename_i c
    split at hc
    · rename_i f' hcal
      simp only [Bool.and_eq_true, beq_iff_eq] at hc
      obtain ⟨rfl, hxs⟩ := hc
      obtain ⟨g1, g2⟩ := hsim.ev.list hxs
      obtain ⟨g3, g4⟩ := bq.sound hsim.store h1 (us := (c.args.map a.eval).toList) (by simpa using g1) (fun i x v hx hv => g2 i x v hx (by simpa using hv))
      obtain ⟨fn, k1, k2, k3⟩ := pW h2.1
      exact tq hsim.store h2 (vs := c.args.map a.eval) (by simpa using g3) (fun i d v hd hv => g4 i d v hd (by simpa using hv))
        (pV (first := #[]) (captured := #[]) hop ⟨_, hcal, rfl⟩ k1 k2 k3 (by simp)) fun cv w' hv hs' hg => hk _ _ μ (hsim.put hg hs' hv hd) hg fun id h => .inl h
    · cases hc
  · -- a call with a store
    rename_i f xs
    obtain ⟨h2, _⟩ := h
    unfold iM at hc
    cases oo <;> simp only [Bool.false_eq_true] at hc
    rename_i c
    split at hc
    · rename_i f' hcal
      simp only [Bool.and_eq_true, beq_iff_eq] at hc
      obtain ⟨rfl, hxs⟩ := hc
      obtain ⟨g1, g2⟩ := hsim.ev.list hxs
      exact callS _ f #[] #[] c rfl hop ⟨_, hcal, rfl⟩ h2 ⟨by simpa using g1, fun i x u hx hu => g2 i x u hx (by simpa using hu)⟩
    · cases hc
  · -- a function value, pure
    rename_i x xs
    obtain ⟨f, caps, ds, r, hx, h1, h2, rfl, rfl, rfl⟩ := h
    unfold iM at hc
    cases oo <;> simp only [Bool.false_eq_true] at hc
    rename_i c
    split at hc
    · rename_i y hcal
      simp only [Bool.and_eq_true] at hc
      obtain ⟨hcx, hxs⟩ := hc
      have hxv := hsim.ev _ _ hcx
      rw [hx] at hxv
      generalize hev : a.eval y = u at hxv
      cases hxv with
      | d _ _ hdr => cases hdr with
        | func _ _ cs q1 q2 =>
          obtain ⟨g1, g2⟩ := hsim.ev.list hxs
          obtain ⟨g3, g4⟩ := bq.sound hsim.store h1 (us := (c.args.map a.eval).toList) (by simpa using g1) (fun i x v hx hv => g2 i x v hx (by simpa using hv))
          obtain ⟨fn, k1, k2, k3⟩ := pW h2.1
          obtain ⟨m1, m2⟩ := yK (O := aD A μ _) (w := w) (l := ds) (m := caps) (us := c.args.map a.eval) (vs := cs) (by simpa using g3) (fun i d v hd hv => g4 i d v hd (by simpa using hv)) q1 q2
          exact tq hsim.store h2 (vs := c.args.map a.eval ++ cs) m1 m2
            (pV (first := #[]) (captured := cs) hop ⟨_, hcal, hev⟩ k1 k2 k3 (by simp)) fun cv w' hv hs' hg => hk _ _ μ (hsim.put hg hs' hv hd) hg fun id h => .inl h
    · cases hc
  · -- a function value, with a store
    rename_i x xs
    obtain ⟨f, caps, hx, h2, _⟩ := h
    unfold iM at hc
    cases oo <;> simp only [Bool.false_eq_true] at hc
    rename_i c
    split at hc
    · rename_i y hcal
      simp only [Bool.and_eq_true] at hc
      obtain ⟨hcx, hxs⟩ := hc
      have hxv := hsim.ev _ _ hcx
      obtain ⟨g1, g2⟩ := hsim.ev.list hxs
      generalize hev : a.eval y = u at hxv
      have hcs : ∃ cs, u = .func (.func f) #[] cs ∧ caps.length = cs.size ∧ ∀ (i : Nat) x v, caps[i]? = some x → cs[i]? = some v → aR μ (aD A μ σ) w x v := by
        rcases hx with hx | ⟨ds, hx, rfl⟩ <;> rw [hx] at hxv
        · cases hxv with
          | func _ _ cs q1 q2 => exact ⟨cs, rfl, q1, q2⟩
        · cases hxv with
          | d _ _ hdr => cases hdr with
            | func _ _ cs q1 q2 => exact ⟨cs, rfl, by simpa using q1, xx q1 q2⟩
      obtain ⟨cs, rfl, q1, q2⟩ := hcs
      obtain ⟨m1, m2⟩ := yJ (μ := μ) (O := aD A μ σ) (w := w) (us := c.args.map a.eval) (vs := cs) g1 g2 q1 q2
      exact callS _ f #[] cs c rfl hop ⟨_, hcal, hev⟩ h2 ⟨by simpa using m1, fun i x u hx hu => m2 i x u hx (by simpa using hu)⟩
    · cases hc
  · rw [← hop] at hc
    exact plain h
theorem bQ.sound {ops : Array Oper} {i : bL} {K : Act → World → Prop} {Q : Exit → Act → World → Prop} (hc : kM P N ops i o = true) (hsim : dO N A μ T σ a w) (hfr : ∀ id, n ≤ id → id < n' → μ id = none)
    (h : bQ P i T σ n T' σ' n') (hk : kV P N A μ σ w T' σ' n n' K) :
    if Region.wanted o (yielded ops a.tmps) then o.wp P a w K Q else K (a.put o.dst Go.undef) w := by
  simp only [kM, Bool.and_eq_true, beq_iff_eq] at hc
  obtain ⟨⟨⟨hdst, hdN⟩, hg⟩, hop⟩ := hc
  have hd : ∀ d, o.dst = some d → d < N := by
    intro d hd
    rw [← hdst] at hd
    rw [hd] at hdN
    simpa using hdN
  unfold bQ at h
  have go : (∃ v, cX P i.op (aF T) σ n v σ' n' ∧ T' = bD T i.dst v) → o.wp P a w K Q := by
    rintro ⟨v, hv, rfl⟩
    rw [hdst] at hk
    exact hv.sound hop hd hsim hfr hk
  cases hgi : i.guard with
  | none =>
    rw [hgi] at h hg
    cases hgo : o.guard with
    | some q => rw [hgo] at hg; simp [lR] at hg
    | none =>
      simp only [Region.wanted, hgo, if_true]
      exact go h
  | some p =>
    obtain ⟨s, b⟩ := p
    rw [hgi] at h hg
    cases hgo : o.guard with
    | none => rw [hgo] at hg; simp [lR] at hg
    | some q =>
      obtain ⟨j, b'⟩ := q
      rw [hgo] at hg
      simp only [lR, Bool.and_eq_true, beq_iff_eq] at hg
      obtain ⟨rfl, hg⟩ := hg
      cases hoj : ops[j]? with
      | none => rw [hoj] at hg; simp at hg
      | some oj =>
        rw [hoj] at hg
        simp only [beq_iff_eq] at hg
        obtain ⟨b1, hT, h⟩ := h
        have hv := hsim.tmps s
        have hy : yielded ops a.tmps j = b1 := by
          unfold iO at hT
          split at hT
          · rename_i b2 hq
            cases hT
            rw [hq] at hv
            have hv := j1 hv
            have hs2 : a.tmps[s]? = some (.bool b2) := by
              rw [Array.getD_eq_getD_getElem?] at hv
              cases hq : a.tmps[s]? with
              | none => rw [hq] at hv; simp [Go.undef] at hv
              | some u => rw [hq] at hv; simpa using hv
            simp [yielded, hoj, hg, hs2]
          · rename_i hq
            cases hT
            rw [hq] at hv
            have hv2 : a.tmps.getD s Go.undef = .tuple #[] := by
              generalize a.tmps.getD s Go.undef = u at hv
              cases hv with
              | d _ _ hd => cases hd with
                | tup _ cs h1 _ =>
                  have : cs = #[] := Array.eq_empty_of_size_eq_zero (by simpa using h1.symm)
                  rw [this]
            rw [Array.getD_eq_getD_getElem?] at hv2
            cases hq2 : a.tmps[s]? with
            | none => simp [yielded, hoj, hg, hq2]
            | some u => rw [hq2] at hv2; simp at hv2; subst hv2; simp [yielded, hoj, hg, hq2]
          · cases hT
        simp only [Region.wanted, hgo, hy]
        by_cases hbb : b1 = some b
        · subst hbb
          rw [if_pos rfl] at h
          simp only [beq_self_eq_true, if_true]
          exact go h
        · rw [if_neg hbb] at h
          obtain ⟨rfl, rfl, rfl⟩ := h
          have : (b1 == some b) = false := by simp [hbb]
          simp only [this, Bool.false_eq_true, if_false]
          rw [hdst] at hk
          exact hk _ _ μ (hsim.put (bk.refl _ _ _) hsim.store (.d _ _ (.tup [] #[] rfl (fun i d v h => by simp at h))) hd) (bk.refl _ _ _) fun id h => .inl h
end
end Go.AM
end
