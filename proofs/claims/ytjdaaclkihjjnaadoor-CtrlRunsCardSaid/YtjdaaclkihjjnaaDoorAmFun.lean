import Derived.Test.YtjdaaclkihjjnaaDoorAmWp2
/-
  AM, part 23: functions, from their abstract code.
-/
set_option linter.unusedVariables false
set_option linter.unusedSectionVars false
set_option linter.unusedSimpArgs false
namespace Go.AM
open Go Go.RowKit
variable [Glob]

inductive ARes where
  | t (n : Nat)
  | cell (n : Nat) (k : Option Nat)

def chkRes (P : Program) : List ARes → List ResultVar → Bool
  | [], [] => true
  | .t n :: l, .tmp m :: r => n == m && chkRes P l r
  | .cell n k :: l, .cell m ty :: r => n == m && tyk P ty == some k && chkRes P l r
  | _, _ => false

def resV1 (s : S) : ARes → Option V
  | .t n => some (s.T n)
  | .cell n k => loadAt s.σ k (s.T n)

def resVs (s : S) : List ARes → Option (List V)
  | [] => some []
  | r :: l => match resV1 s r, resVs s l with
    | some v, some vs => some (v :: vs)
    | _, _ => none

def packV : List V → V
  | [v] => v
  | vs => mkTup vs

structure AFn where
  n : Nat
  code : ACode
  res : List ARes

def chkFn (P : Program) (f : Nat) (af : AFn) : Bool :=
  match P.funcs[f]? with
  | some fn => fn.name != "runtime.NumGoroutine" && fn.ntmps == af.n && chkRes P af.res fn.results.toList && (match fn.body with
    | some c => chk P af.n af.code c
    | none => false)
  | none => false

def resOne (tmps : Array Value) : ResultVar → Sem Value
  | .tmp t => pure (tmps.getD t Go.undef)
  | .cell a t => do loadVar t (← asAddr (tmps.getD a Go.undef))

def argT (vals : List V) : Nat → V := fun i => (vals[i]?).getD V.undef

section
variable {P : Program} {N : Nat} {A : Nat → Nat → Prop} {μ μ' : Nat → Option Place} {T T' : Nat → V} {σ σ' : Store} {w w' : World} {a : Act} {n n' : Nat} {v : V}

theorem mkTup_rel {O : Nat → Nat → Prop} {vs : List V} {cs : Array Value} (hl : vs.length = cs.size) (h : ∀ (i : Nat) x v, vs[i]? = some x → cs[i]? = some v → VRel μ O w x v) :
    VRel μ O w (mkTup vs) (.tuple cs) := by
  unfold mkTup
  split
  · rename_i ds hds
    have := optAll_toD hds
    subst this
    refine .d _ _ (.tup ds cs (by simpa using hl) fun i d v hd hv => ?_)
    have := h i (.d d) v (by simp [hd]) hv
    cases this with | d _ _ h => exact h
  · exact .tup vs cs hl h

theorem load_run {k : Option Nat} {x : V} {t : TypeId} {av : Value} (ht : tyk P t = some k) (he : VRel μ (full A μ σ) w x av)
    (hs : StoreSim A μ σ w) (hv : loadAt σ k x = some v) : ∃ ad u, av = .pointer (some ad) ∧ (loadVar t ad).run P w = .ok u w ∧ VRel μ (full A μ σ) w v u := by
  unfold loadAt at hv
  split at hv
  · rename_i kb d j
    cases he with
    | d _ _ hd =>
      cases hl : loadD kb d j k with
      | none => simp [hl] at hv
      | some z =>
        simp [hl] at hv
        subst hv
        cases hd with
        | cptr _ _ _ b off f hsh h1 h2 h3 h4 =>
          obtain ⟨u, hu, hru⟩ := run_load_D (P := P) (own := full A μ σ) ht d.cells b off j f h1 h3 (loadD_sub hsh hl)
          exact ⟨_, u, rfl, hu, (.d _ _ hru)⟩
  · rename_i id i j
    cases he with
    | ptr _ _ _ b kp hp =>
      split at hv
      · rename_i m kb els hid
        split at hv
        · rename_i d hd
          cases hl : loadD kb d j k with
          | none => simp [hl] at hv
          | some z =>
            simp [hl] at hv
            subst hv
            have hb := hs.blks id _ hid
            rcases hb with ⟨h1, _⟩ | ⟨b', c, ty, fr, h1, h2, h3, h4, h5⟩
            · simp [h1] at hp
            · rw [h1] at hp
              cases hp
              obtain ⟨hsh, hcs⟩ := h5 i d hd
              obtain ⟨u, hu, hru⟩ := run_load_D (P := P) (own := full A μ σ) (w := w) ht d.cells b (i * stride kp) j (fun j => c.getD (i * stride kp + j) Go.undef)
                (fun j x hx => by obtain ⟨v, hv, _⟩ := hcs j x hx; rw [cell?_of h2]; simp [hv])
                (fun j x hx => by obtain ⟨v, hv, _, hr⟩ := hcs j x hx; simpa [hv] using hr) (loadD_sub hsh hl)
              exact ⟨_, u, rfl, hu, (.d _ _ hru)⟩
        · cases hv
      · rename_i cs hid
        have hb := hs.blks id _ hid
        obtain ⟨b', c, ty, fr, h1, h2, h3, h4, h5⟩ := hb
        rw [h1] at hp
        cases hp
        obtain ⟨u, hu, hru⟩ := run_load_V (P := P) (O := full A μ σ) ht cs b (i + j) c h4 (fun o => cell?_of h2) (fun i x v hx hv => (h5 i x v hx hv).2) hv
        exact ⟨_, u, rfl, by simpa using hu, hru⟩
      · cases hv
  · cases hv

theorem res_run (hs : StoreSim A μ σ w) {tmps : Array Value} (ht : ∀ i, VRel μ (full A μ σ) w (T i) (tmps.getD i Go.undef)) : ∀ {l : List ARes} {rs : List ResultVar} {vs : List V}, chkRes P l rs = true → resVs ⟨T, σ, n⟩ l = some vs →
    ∃ cs : List Value, (rs.mapM (resOne tmps)).run P w = .ok cs w ∧ vs.length = cs.length ∧ ∀ (i : Nat) x v, vs[i]? = some x → cs[i]? = some v → VRel μ (full A μ σ) w x v
  | [], [], vs, _, hv => by
    simp [resVs] at hv; subst hv
    exact ⟨[], by simp, rfl, fun i x v h => by simp at h⟩
  | .t n1 :: l, .tmp m :: rs, vs, hc, hv => by
    simp only [chkRes, Bool.and_eq_true, beq_iff_eq] at hc
    obtain ⟨rfl, hc⟩ := hc
    simp only [resVs, resV1] at hv
    split at hv
    · rename_i v1 vs1 h1 h2
      cases hv; cases h1
      obtain ⟨cs, g1, g2, g3⟩ := res_run hs ht hc h2
      refine ⟨tmps.getD n1 Go.undef :: cs, ?_, by simp [g2], fun i x v hx hv => ?_⟩
      · rw [List.mapM_cons]; simp [g1, resOne, -Array.getD_eq_getD_getElem?]
      · cases i with
        | zero => simp at hx hv; subst hx; subst hv; exact by simpa using ht n1
        | succ i => exact g3 i x v (by simpa using hx) (by simpa using hv)
    · cases hv
  | .cell n1 k :: l, .cell m ty :: rs, vs, hc, hv => by
    simp only [chkRes, Bool.and_eq_true, beq_iff_eq] at hc
    obtain ⟨⟨rfl, hk⟩, hc⟩ := hc
    simp only [resVs, resV1] at hv
    split at hv
    · rename_i v1 vs1 h1 h2
      cases hv
      obtain ⟨cs, g1, g2, g3⟩ := res_run hs ht hc h2
      have hld : ∃ cv, (resOne tmps (.cell n1 ty)).run P w = .ok cv w ∧ VRel μ (full A μ σ) w v1 cv := by
        obtain ⟨ad, u, e1, e2, e3⟩ := load_run hk (ht n1) hs h1
        exact ⟨u, by simp only [resOne, e1, asAddr]; simp [e2], e3⟩
      obtain ⟨cv, q1, q2⟩ := hld
      refine ⟨cv :: cs, ?_, by simp [g2], fun i x v hx hv => ?_⟩
      · rw [List.mapM_cons]; simp [g1, q1, -Array.getD_eq_getD_getElem?]
      · cases i with
        | zero => simp at hx hv; subst hx; subst hv; exact q2
        | succ i => exact g3 i x v (by simpa using hx) (by simpa using hv)
    · cases hv
  | .t _ :: _, [], _, hc, _ => by simp [chkRes] at hc
  | .cell .. :: _, [], _, hc, _ => by simp [chkRes] at hc
  | .t _ :: _, .cell .. :: _, _, hc, _ => by simp [chkRes] at hc
  | .cell .. :: _, .tmp _ :: _, _, hc, _ => by simp [chkRes] at hc
  | [], _ :: _, _, hc, _ => by simp [chkRes] at hc

theorem results_run (hs : StoreSim A μ σ w) {tmps : Array Value} (ht : ∀ i, VRel μ (full A μ σ) w (T i) (tmps.getD i Go.undef)) {l : List ARes} {fn : Func} {vs : List V} (hc : chkRes P l fn.results.toList = true) (hv : resVs ⟨T, σ, n⟩ l = some vs) :
    ∃ cv, (results fn tmps).run P w = .ok cv w ∧ VRel μ (full A μ σ) w (packV vs) cv := by
  obtain ⟨cs, h1, h2, h3⟩ := res_run hs ht hc hv
  have he : results fn tmps = (do let vs ← fn.results.mapM (resOne tmps); pure (if h : vs.size = 1 then vs[0] else .tuple vs)) := by
    unfold results
    congr 1
  rw [he, Array.mapM_eq_mapM_toList]
  simp only [bind_map_left, bind_pure_comp]
  refine ⟨if h : cs.toArray.size = 1 then cs.toArray[0] else .tuple cs.toArray, by simp [h1], ?_⟩
  match vs, cs, h2, h3 with
  | [], [], _, h3 => simp [packV]; exact mkTup_rel (by simp) (fun i x v h => by simp at h)
  | [x], [c], _, h3 => simpa [packV] using h3 0 x c rfl rfl
  | x :: y :: vs, c :: d :: cs, h2, h3 =>
    simp [packV]
    exact mkTup_rel (by simpa using h2) (fun i x v hx hv => h3 i x v hx (by simpa using hv))

/-! names that a value mentions -/

inductive Old (p : Nat → Prop) : V → Prop
  | d (x) : Old p (.d x)
  | loc (id off len) : p id → Old p (.loc id off len)
  | ptr (id i j) : p id → Old p (.ptr id i j)
  | agg (vs : List V) : (∀ x ∈ vs, Old p x) → Old p (.agg vs)
  | tup (vs : List V) : (∀ x ∈ vs, Old p x) → Old p (.tup vs)
  | func (f) (vs : List V) : (∀ x ∈ vs, Old p x) → Old p (.func f vs)
  | iface (t x) : Old p x → Old p (.iface t x)
  | nne (id) : Old p (.mapr id)

def cut (μ : Nat → Option Place) (n : Nat) : Nat → Option Place := fun id => if id < n then μ id else none

theorem VRel.cut {O : Nat → Nat → Prop} {x : V} {u : Value} (h : VRel μ O w x u) (ho : Old (· < n) x) : VRel (cut μ n) O w x u := by
  induction h with
  | d x v hd => exact .d x v hd
  | loc0 id off a h1 => cases ho with | loc _ _ _ hp => exact .loc0 id off a (by simp only [Go.AM.cut, if_pos hp]; exact h1)
  | loc id off len b k cap h1 h2 h3 h4 => cases ho with | loc _ _ _ hp => exact .loc id off len b k cap (by simp only [Go.AM.cut, if_pos hp]; exact h1) h2 h3 h4
  | ptr id i j b k h1 => cases ho with | ptr _ _ _ hp => exact .ptr id i j b k (by simp only [Go.AM.cut, if_pos hp]; exact h1)
  | agg vs cs hl _ ih => cases ho with | agg _ hp => exact .agg vs cs hl fun i x v hx hv => ih i x v hx hv (hp x (List.mem_of_getElem? hx))
  | tup vs cs hl _ ih => cases ho with | tup _ hp => exact .tup vs cs hl fun i x v hx hv => ih i x v hx hv (hp x (List.mem_of_getElem? hx))
  | func f cap c hl _ ih => cases ho with | func _ _ hp => exact .func f cap c hl fun i x v hx hv => ih i x v hx hv (hp x (List.mem_of_getElem? hx))
  | iface t x v _ ih => cases ho with | iface _ _ hp => exact .iface t x v (ih hp)
  | nne id a c h1 => exact .nne id a c h1

theorem VRel.old {O : Nat → Nat → Prop} {x : V} {u : Value} (h : VRel μ O w x u) : Old (fun id => μ id ≠ none) x := by
  induction h with
  | d x v hd => exact .d x
  | loc0 id off a h1 => exact .loc _ _ _ h1
  | loc id off len b k cap h1 h2 h3 h4 => exact .loc _ _ _ (by rw [h1]; simp)
  | ptr id i j b k h1 => exact .ptr _ _ _ (by rw [h1]; simp)
  | agg vs cs hl _ ih =>
    refine .agg vs fun x hx => ?_
    obtain ⟨i, hi, rfl⟩ := List.mem_iff_getElem.1 hx
    exact ih i _ cs[i] (by simp [hi]) (by simp)
  | tup vs cs hl _ ih =>
    refine .tup vs fun x hx => ?_
    obtain ⟨i, hi, rfl⟩ := List.mem_iff_getElem.1 hx
    exact ih i _ cs[i] (by simp [hi]) (by simp)
  | func f vs cs hl _ ih =>
    refine .func f vs fun x hx => ?_
    obtain ⟨i, hi, rfl⟩ := List.mem_iff_getElem.1 hx
    exact ih i _ cs[i] (by simp [hi]) (by simp)
  | iface t x v _ ih => exact .iface t x ih
  | nne id a c h1 => exact .nne id

theorem Old.mono {p q : Nat → Prop} (h : ∀ id, p id → q id) {x : V} (ho : Old p x) : Old q x := by
  induction ho with
  | d x => exact .d x
  | loc id off len hp => exact .loc _ _ _ (h _ hp)
  | ptr id i j hp => exact .ptr _ _ _ (h _ hp)
  | agg vs _ ih => exact .agg vs ih
  | tup vs _ ih => exact .tup vs ih
  | func f vs _ ih => exact .func f vs ih
  | iface t x _ ih => exact .iface t x ih
  | nne id => exact .nne id

def Blk.old (n : Nat) : Blk → Prop
  | .lst .. => True
  | .var cs => ∀ x ∈ cs, Old (· < n) x

theorem full_cut (hσ : ∀ id blk, σ id = some blk → id < n) (b o : Nat) : full A (cut μ n) σ b o ↔ full A μ σ b o := by
  unfold full owns
  constructor <;> rintro (⟨id, blk, h1, h2⟩ | h)
  · refine .inl ⟨id, blk, h1, ?_⟩; simp only [cut, if_pos (hσ id blk h1)] at h2; exact h2
  · exact .inr h
  · refine .inl ⟨id, blk, h1, ?_⟩; simp only [cut, if_pos (hσ id blk h1)]; exact h2
  · exact .inr h

/-- Names from 'n' on, of which nothing is left, are forgotten. -/
theorem StoreSim.cut (hs : StoreSim A μ σ w) (hσ : ∀ id blk, σ id = some blk → id < n ∧ blk.old n) : StoreSim A (cut μ n) σ w := by
  have hlt : ∀ id blk, σ id = some blk → id < n := fun id blk h => (hσ id blk h).1
  have hfull : full A (Go.AM.cut μ n) σ = full A μ σ := by
    funext b o
    exact propext (full_cut hlt b o)
  have hat : ∀ id blk, σ id = some blk → Go.AM.cut μ n id = μ id := fun id blk h => by simp only [Go.AM.cut, if_pos (hlt id blk h)]
  constructor
  · intro id blk h
    have := hs.blks id blk h
    rw [hfull]
    cases blk with
    | lst m k els =>
      rcases this with ⟨h1, h2⟩ | ⟨b, c, ty, fr, h1, h2⟩
      · exact .inl ⟨by rw [hat id _ h]; exact h1, h2⟩
      · exact .inr ⟨b, c, ty, fr, by rw [hat id _ h]; exact h1, h2⟩
    | var cs =>
      obtain ⟨b, c, ty, fr, h1, h2, h3, h4, h5⟩ := this
      exact ⟨b, c, ty, fr, by rw [hat id _ h]; exact h1, h2, h3, h4, fun i x v hx hv => ⟨(h5 i x v hx hv).1, (h5 i x v hx hv).2.cut ((hσ id _ h).2 x (List.mem_of_getElem? hx))⟩⟩
  · intro id id' x y b k k' h1 h2 h3 h4
    rw [hat id x h1] at h3
    rw [hat id' y h2] at h4
    exact hs.inj id id' x y b k k' h1 h2 h3 h4
  · intro id x b k h1 h2
    rw [hat id x h1] at h2
    exact hs.amb id x b k h1 h2
  · exact hs.alt
  · rw [hfull]; exact hs.glob

theorem Guar.cut (g : Guar μ σ w μ' σ' w') (hσ : ∀ id blk, σ' id = some blk → id < n) (hμ : ∀ id, n ≤ id → μ id = none) : Guar μ σ w (cut μ' n) σ' w' where
  os := g.os
  tape := g.tape
  output := g.output
  size := g.size
  block := g.block
  cells := g.cells
  own b o h := by
    obtain ⟨id, blk, h1, h2⟩ := h
    simp only [Go.AM.cut, if_pos (hσ id blk h1)] at h2
    exact g.own b o ⟨id, blk, h1, h2⟩
  ownB b h := by
    obtain ⟨id, blk, k, h1, h2⟩ := h
    simp only [Go.AM.cut, if_pos (hσ id blk h1)] at h2
    exact g.ownB b ⟨id, blk, k, h1, h2⟩
  grow id p h := by
    have : id < n := by
      rcases Nat.lt_or_ge id n with h' | h'
      · exact h'
      · rw [hμ id h'] at h; cases h
    simp only [Go.AM.cut, if_pos this]
    exact g.grow id p h

theorem chkFn_spec {f : Nat} {af : AFn} (h : chkFn P f af = true) : callable P f = true ∧ ∃ fn c, P.funcs[f]? = some fn ∧ fn.body = some c ∧ fn.ntmps = af.n ∧ chkRes P af.res fn.results.toList = true ∧ chk P af.n af.code c = true := by
  unfold chkFn at h
  split at h
  · rename_i fn hf
    simp only [Bool.and_eq_true, bne_iff_ne, beq_iff_eq] at h
    obtain ⟨⟨⟨h1, h2⟩, h3⟩, h4⟩ := h
    cases hb : fn.body with
    | none => rw [hb] at h4; cases h4
    | some c =>
      rw [hb] at h4
      exact ⟨by simp [callable, hf, hb, h1], fn, c, hf, hb, h2, h3, h4⟩
  · cases h

/-- A function's run, from its abstract code. -/
theorem fn_run {f : Nat} {af : AFn} (hc : chkFn P f af = true) {vals : List V} {vs : Array Value} (hl : vals.length ≤ af.n) (hs : StoreSim A μ σ w) (hfr : ∀ id, n ≤ id → μ id = none) (hlen : vals.length = vs.size)
    (hrel : ∀ (i : Nat) x v, vals[i]? = some x → vs[i]? = some v → VRel μ (full A μ σ) w x v) {R : S → List V → Prop}
    (h : AWp P af.n af.code (fun e s' => (e = .normal ∨ e = .ret) ∧ ∃ rs, resVs s' af.res = some rs ∧ R s' rs) ⟨argT vals, σ, n⟩) :
    Calls P f vs w fun e w' => ∃ cv μ' s' rs, e = .returned cv ∧ R s' rs ∧ VRel μ' (full A μ' s'.σ) w' (packV rs) cv ∧ StoreSim A μ' s'.σ w' ∧ Guar μ σ w μ' s'.σ w' ∧ Dom μ n μ' s'.n ∧ ∀ id, s'.n ≤ id → μ' id = none := by
  obtain ⟨h1, fn, c, h2, h3, h4, h5, h6⟩ := chkFn_spec hc
  refine calls_of_wp h2 h3 ?_
  have hsim : Sim af.n A μ ⟨argT vals, σ, n⟩ { tmps := vs ++ Array.replicate (fn.ntmps - vs.size) Go.undef, defers := [] } w := by
    refine ⟨⟨by simp; omega, rfl, fun i => ?_, hs⟩, hfr⟩
    simp only [argT]
    by_cases hi : i < vals.length
    · have e1 : vals[i]? = some vals[i] := by simp [hi]
      have e2 : vs[i]? = some (vs[i]'(by omega)) := by simp
      rw [Array.getD_eq_getD_getElem?, Array.getElem?_append_left (by omega), e1, e2]
      exact hrel i _ _ e1 e2
    · rw [List.getElem?_eq_none (by omega)]
      exact .d _ _ (.undef _)
  refine wp_mono (h c h6 A μ _ w hsim) fun e a' w' ⟨hp, s', μ', ⟨he, rs, hrs, hR⟩, hs', hg, hdo⟩ => ?_
  have fin : a'.defers = [] ∧ ∃ v, (results fn a'.tmps).run P w' = .ok v w' ∧ ∃ cv μ' s' rs, Ending.returned v = .returned cv ∧ R s' rs ∧ VRel μ' (full A μ' s'.σ) w' (packV rs) cv ∧ StoreSim A μ' s'.σ w' ∧ Guar μ σ w μ' s'.σ w' ∧ Dom μ n μ' s'.n ∧ ∀ id, s'.n ≤ id → μ' id = none := by
    obtain ⟨cv, g1, g2⟩ := results_run (T := s'.T) (n := s'.n) hs'.1.store hs'.1.tmps h5 hrs
    exact ⟨hs'.1.defers, cv, g1, cv, μ', s', rs, rfl, hR, g2, hs'.1.store, hg, hdo, hs'.2⟩
  rcases he with rfl | rfl
  · exact fin
  · exact fin

theorem SCall.intro {f : Nat} {af : AFn} (hc : chkFn P f af = true) {vals : List V} (hl : vals.length ≤ af.n) (hn : n ≤ n') (hv : Old (· < n') v) (hσ : (∀ id, n ≤ id → σ id = none) → ∀ id blk, σ' id = some blk → σ id = some blk ∨ (id < n' ∧ blk.old n'))
    (h : (∀ id, n ≤ id → σ id = none) → AWp P af.n af.code (fun e s' => (e = .normal ∨ e = .ret) ∧ ∃ rs, resVs s' af.res = some rs ∧ packV rs = v ∧ ∀ id blk, σ' id = some blk → s'.σ id = some blk) ⟨argT vals, σ, n⟩) : SCall P f vals σ n v σ' n' := by
  refine ⟨(chkFn_spec hc).1, fun A μ w vs hs hfr hlen hrel => ?_⟩
  refine (fn_run hc hl hs hfr hlen hrel (h fun id hid => fresh_store hs (hfr id hid))).mono fun e w' ⟨cv, μ', s', rs, he, ⟨hR1, hR2⟩, hv', hs', hg, hdo, hfr'⟩ => ?_
  subst hR1
  have hd := hs'.drop hR2
  have hgd : Guar μ σ w μ' σ' w' := hg.trans (Guar.drop hR2)
  have hold : ∀ id blk, σ' id = some blk → id < n' ∧ blk.old n' := by
    intro id blk h
    rcases hσ (fun id hid => fresh_store hs (hfr id hid)) id blk h with h | h
    · have hb := hs.blks id blk h
      have hdom : ∀ id, μ id ≠ none → id < n' := by
        intro id h
        rcases Nat.lt_or_ge id n with h' | h'
        · omega
        · exact (h (hfr id h')).elim
      refine ⟨hdom id hb.placed, ?_⟩
      cases blk with
      | lst => trivial
      | var cs =>
        obtain ⟨b, c, ty, fr, h1, h2, h3, h4, h5⟩ := hb
        intro x hx
        obtain ⟨i, hi, rfl⟩ := List.mem_iff_getElem.1 hx
        exact (h5 i _ (c[i]'(by omega)) (by simp [hi]) (by simp)).2.old.mono hdom
    · exact h
  have hlt : ∀ id blk, σ' id = some blk → id < n' := fun id blk h => (hold id blk h).1
  refine ⟨cv, cut μ' n', he, ?_, hd.cut hold, hgd.cut hlt (fun id h => hfr id (by omega)), fun id h => ?_⟩
  · have hfull : full A (cut μ' n') σ' = full A μ' σ' := by
      funext b o
      exact propext (full_cut hlt b o)
    rw [hfull]
    exact ((Guar.drop hR2).keepV hs'.alt hv').cut hv
  · by_cases h' : id < n'
    · by_cases h2 : n ≤ id
      · exact .inr ⟨h2, h'⟩
      · left
        simp only [cut, if_pos h'] at h
        rcases hdo.2 id h with h3 | h3
        · exact h3
        · exact (h2 h3).elim
    · simp [cut, h'] at h

end
end Go.AM
