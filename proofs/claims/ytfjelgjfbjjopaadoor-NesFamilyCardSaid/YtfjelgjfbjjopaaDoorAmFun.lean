import Derived.Test.YtfjelgjfbjjopaaDoorAmWp2
set_option linter.unusedVariables false
set_option linter.unusedSectionVars false
set_option linter.unusedSimpArgs false
namespace Go.AM
open Go Go.RowKit
variable [Glob]
inductive gF where
  | t (n : Nat)
  | cell (n : Nat) (k : Option Nat)
def gh (P : Program) : List gF → List ResultVar → Bool
  | [], [] => true
  | .t n :: l, .tmp m :: r => n == m && gh P l r
  | .cell n k :: l, .cell m ty :: r => n == m && cz P ty == some k && gh P l r
  | _, _ => false
def lS (s : S) : gF → Option V
  | .t n => some (s.T n)
  | .cell n k => dh s.σ k (s.T n)
def fd (s : S) : List gF → Option (List V)
  | [] => some []
  | r :: l => match lS s r, fd s l with
    | some v, some vs => some (v :: vs)
    | _, _ => none
def iK : List V → V
  | [v] => v
  | vs => lD vs
structure bQ where
  n : Nat
  code : bN
  res : List gF
def hY (P : Program) (f : Nat) (af : bQ) : Bool :=
  match P.funcs[f]? with
  | some fn => fn.name != "runtime.NumGoroutine" && fn.ntmps == af.n && gh P af.res fn.results.toList && (match fn.body with
    | some c => dR P af.n af.code c
    | none => false)
  | none => false
def lT (tmps : Array Value) : ResultVar → Sem Value
  | .tmp t => pure (tmps.getD t Go.undef)
  | .cell a t => do loadVar t (← asAddr (tmps.getD a Go.undef))
def jQ (vals : List V) : Nat → V := fun i => (vals[i]?).getD V.undef
section
variable {P : Program} {N : Nat} {A : Nat → Nat → Prop} {μ μ' : Nat → Option bF} {T T' : Nat → V} {σ σ' : aD} {w w' : World} {a : Act} {n n' : Nat} {v : V}
theorem tz {O : Nat → Nat → Prop} {vs : List V} {cs : Array Value} (hl : vs.length = cs.size) (h : ∀ (i : Nat) x v, vs[i]? = some x → cs[i]? = some v → aJ μ O w x v) :
    aJ μ O w (lD vs) (.tuple cs) := by
  unfold lD
  split
  · rename_i ds hds
    have := kv hds
    subst this
    refine .d _ _ (.tup ds cs (by simpa using hl) fun i d v hd hv => ?_)
    have := h i (.d d) v (by simp [hd]) hv
    cases this with | d _ _ h => exact h
  · exact .tup vs cs hl h
theorem yL {k : Option Nat} {x : V} {t : TypeId} {av : Value} (ht : cz P t = some k) (he : aJ μ (ax A μ σ) w x av)
    (hs : aP A μ σ w) (hv : dh σ k x = some v) : ∃ ad u, av = .pointer (some ad) ∧ (loadVar t ad).run P w = .ok u w ∧ aJ μ (ax A μ σ) w v u := by
  unfold dh at hv
  split at hv
  · rename_i kb d j
    cases he with
    | d _ _ hd =>
      cases hl : fM kb d j k with
      | none => simp [hl] at hv
      | some z =>
        simp [hl] at hv
        subst hv
        cases hd with
        | cptr _ _ _ b off f hsh h1 h2 h3 h4 =>
          obtain ⟨u, hu, hru⟩ := nf (P := P) (own := ax A μ σ) ht d.cells b off j f h1 h3 (nh hsh hl)
          exact ⟨_, u, rfl, hu, (.d _ _ hru)⟩
  · rename_i id i j
    cases he with
    | ptr _ _ _ b kp hp =>
      split at hv
      · rename_i m kb els hid
        split at hv
        · rename_i d hd
          cases hl : fM kb d j k with
          | none => simp [hl] at hv
          | some z =>
            simp [hl] at hv
            subst hv
            have hb := hs.blks id _ hid
            rcases hb with ⟨h1, _⟩ | ⟨b', c, ty, fr, h1, h2, h3, h4, h5⟩
            · simp [h1] at hp
            · rw [h1] at hp
              cases hp
              obtain ⟨hsh, hcs⟩ := h5 i d hd
              obtain ⟨u, hu, hru⟩ := nf (P := P) (own := ax A μ σ) (w := w) ht d.cells b (i * ao kp) j (fun j => c.getD (i * ao kp + j) Go.undef)
                (fun j x hx => by obtain ⟨v, hv, _⟩ := hcs j x hx; rw [gf h2]; simp [hv])
                (fun j x hx => by obtain ⟨v, hv, _, hr⟩ := hcs j x hx; simpa [hv] using hr) (nh hsh hl)
              exact ⟨_, u, rfl, hu, (.d _ _ hru)⟩
        · cases hv
      · rename_i cs hid
        have hb := hs.blks id _ hid
        obtain ⟨b', c, ty, fr, h1, h2, h3, h4, h5⟩ := hb
        rw [h1] at hp
        cases hp
        obtain ⟨u, hu, hru⟩ := sg (P := P) (O := ax A μ σ) ht cs b (i + j) c h4 (fun o => gf h2) (fun i x v hx hv => (h5 i x v hx hv).2) hv
        exact ⟨_, u, rfl, by simpa using hu, hru⟩
      · cases hv
  · cases hv
theorem pM (hs : aP A μ σ w) {tmps : Array Value} (ht : ∀ i, aJ μ (ax A μ σ) w (T i) (tmps.getD i Go.undef)) : ∀ {l : List gF} {rs : List ResultVar} {vs : List V}, gh P l rs = true → fd ⟨T, σ, n⟩ l = some vs →
    ∃ cs : List Value, (rs.mapM (lT tmps)).run P w = .ok cs w ∧ vs.length = cs.length ∧ ∀ (i : Nat) x v, vs[i]? = some x → cs[i]? = some v → aJ μ (ax A μ σ) w x v
  | [], [], vs, _, hv => by
    simp [fd] at hv; subst hv
    exact ⟨[], by simp, rfl, fun i x v h => by simp at h⟩
  | .t n1 :: l, .tmp m :: rs, vs, hc, hv => by
    simp only [gh, Bool.and_eq_true, beq_iff_eq] at hc
    obtain ⟨rfl, hc⟩ := hc
    simp only [fd, lS] at hv
    split at hv
    · rename_i v1 tA h1 h2
      cases hv; cases h1
      obtain ⟨cs, g1, g2, g3⟩ := pM hs ht hc h2
      refine ⟨tmps.getD n1 Go.undef :: cs, ?_, by simp [g2], fun i x v hx hv => ?_⟩
      · rw [List.mapM_cons]; simp [g1, lT, -Array.getD_eq_getD_getElem?]
      · cases i with
        | zero => simp at hx hv; subst hx; subst hv; exact by simpa using ht n1
        | succ i => exact g3 i x v (by simpa using hx) (by simpa using hv)
    · cases hv
  | .cell n1 k :: l, .cell m ty :: rs, vs, hc, hv => by
    simp only [gh, Bool.and_eq_true, beq_iff_eq] at hc
    obtain ⟨⟨rfl, hk⟩, hc⟩ := hc
    simp only [fd, lS] at hv
    split at hv
    · rename_i v1 tA h1 h2
      cases hv
      obtain ⟨cs, g1, g2, g3⟩ := pM hs ht hc h2
      have hld : ∃ cv, (lT tmps (.cell n1 ty)).run P w = .ok cv w ∧ aJ μ (ax A μ σ) w v1 cv := by
        obtain ⟨ad, u, e1, e2, e3⟩ := yL hk (ht n1) hs h1
        exact ⟨u, by simp only [lT, e1, asAddr]; simp [e2], e3⟩
      obtain ⟨cv, q1, q2⟩ := hld
      refine ⟨cv :: cs, ?_, by simp [g2], fun i x v hx hv => ?_⟩
      · rw [List.mapM_cons]; simp [g1, q1, -Array.getD_eq_getD_getElem?]
      · cases i with
        | zero => simp at hx hv; subst hx; subst hv; exact q2
        | succ i => exact g3 i x v (by simpa using hx) (by simpa using hv)
    · cases hv
  | .t _ :: _, [], _, hc, _ => by simp [gh] at hc
  | .cell .. :: _, [], _, hc, _ => by simp [gh] at hc
  | .t _ :: _, .cell .. :: _, _, hc, _ => by simp [gh] at hc
  | .cell .. :: _, .tmp _ :: _, _, hc, _ => by simp [gh] at hc
  | [], _ :: _, _, hc, _ => by simp [gh] at hc
theorem yM (hs : aP A μ σ w) {tmps : Array Value} (ht : ∀ i, aJ μ (ax A μ σ) w (T i) (tmps.getD i Go.undef)) {l : List gF} {fn : Func} {vs : List V} (hc : gh P l fn.results.toList = true) (hv : fd ⟨T, σ, n⟩ l = some vs) :
    ∃ cv, (results fn tmps).run P w = .ok cv w ∧ aJ μ (ax A μ σ) w (iK vs) cv := by
  obtain ⟨cs, h1, h2, h3⟩ := pM hs ht hc hv
  have he : results fn tmps = (do let vs ← fn.results.mapM (lT tmps); pure (if h : vs.size = 1 then vs[0] else .tuple vs)) := by
    unfold results
    congr 1
  rw [he, Array.mapM_eq_mapM_toList]
  simp only [bind_map_left, bind_pure_comp]
  refine ⟨if h : cs.toArray.size = 1 then cs.toArray[0] else .tuple cs.toArray, by simp [h1], ?_⟩
  match vs, cs, h2, h3 with
  | [], [], _, h3 => simp [iK]; exact tz (by simp) (fun i x v h => by simp at h)
  | [x], [c], _, h3 => simpa [iK] using h3 0 x c rfl rfl
  | x :: y :: vs, c :: d :: cs, h2, h3 =>
    simp [iK]
    exact tz (by simpa using h2) (fun i x v hx hv => h3 i x v hx (by simpa using hv))
theorem pN {f : Nat} {af : bQ} (h : hY P f af = true) : jO P f = true ∧ ∃ fn c, P.funcs[f]? = some fn ∧ fn.body = some c ∧ fn.ntmps = af.n ∧ gh P af.res fn.results.toList = true ∧ dR P af.n af.code c = true := by
  unfold hY at h
  split at h
  · rename_i fn hf
    simp only [Bool.and_eq_true, bne_iff_ne, beq_iff_eq] at h
    obtain ⟨⟨⟨h1, h2⟩, h3⟩, h4⟩ := h
    cases hb : fn.body with
    | none => rw [hb] at h4; cases h4
    | some c =>
      rw [hb] at h4
      exact ⟨by simp [jO, hf, hb, h1], fn, c, hf, hb, h2, h3, h4⟩
  · cases h
end
end Go.AM
