import Derived.Test.YtnnkfanmokeiaaaAmWp2
set_option linter.unusedVariables false
set_option linter.unusedSectionVars false
set_option linter.unusedSimpArgs false
namespace Go.AM
open Go Go.RowKit
variable [Glob]
inductive d6 where
  | t (n : Nat)
  | cell (n : Nat) (k : Option Nat)
def dO (P : Program) : List d6 → List ResultVar → Bool
  | [], [] => true
  | .t n :: l, .tmp m :: r => n == m && dO P l r
  | .cell n k :: l, .cell m ty :: r => n == m && bN P ty == some k && dO P l r
  | _, _ => false
def gQ (s : S) : d6 → Option V
  | .t n => some (s.T n)
  | .cell n k => cd s.σ k (s.T n)
def db (s : S) : List d6 → Option (List V)
  | [] => some []
  | r :: l => match gQ s r, db s l with
    | some v, some vs => some (v :: vs)
    | _, _ => none
def fe : List V → V
  | [v] => v
  | vs => gC vs
structure bA where
  n : Nat
  code : bv
  res : List d6
def bB (P : Program) (f : Nat) (af : bA) : Bool :=
  match P.funcs[f]? with
  | some fn => fn.name != "runtime.NumGoroutine" && fn.ntmps == af.n && dO P af.res fn.results.toList && (match fn.body with
    | some c => cu P af.n af.code c
    | none => false)
  | none => false
def gR (tmps : Array Value) : ResultVar → Sem Value
  | .tmp t => pure (tmps.getD t Go.undef)
  | .cell a t => do loadVar t (← asAddr (tmps.getD a Go.undef))
def fL (vals : List V) : Nat → V := fun i => (vals[i]?).getD V.undef
section
variable {P : Program} {N : Nat} {A : Nat → Nat → Prop} {μ μ' : Nat → Option bg} {T T' : Nat → V} {σ σ' : az} {w w' : World} {a : Act} {n n' : Nat} {v : V}
theorem md {O : Nat → Nat → Prop} {vs : List V} {cs : Array Value} (hl : vs.length = cs.size) (h : ∀ (i : Nat) x v, vs[i]? = some x → cs[i]? = some v → aD μ O w x v) :
    aD μ O w (gC vs) (.tuple cs) := by
  unfold gC
  split
  · rename_i ds hds
    have := fY hds
    subst this
    refine .d _ _ (.tup ds cs (by simpa using hl) fun i d v hd hv => ?_)
    have := h i (.d d) v (by simp [hd]) hv
    cases this with | d _ _ h => exact h
  · exact .tup vs cs hl h
theorem p5 {k : Option Nat} {x : V} {t : TypeId} {av : Value} (ht : bN P t = some k) (he : aD μ (au A μ σ) w x av)
    (hs : aH A μ σ w) (hv : cd σ k x = some v) : ∃ ad u, av = .pointer (some ad) ∧ (loadVar t ad).run P w = .ok u w ∧ aD μ (au A μ σ) w v u := by
  unfold cd at hv
  split at hv
  · rename_i kb d j
    cases he with
    | d _ _ hd =>
      cases hl : dA kb d j k with
      | none => simp [hl] at hv
      | some z =>
        simp [hl] at hv
        subst hv
        cases hd with
        | cptr _ _ _ b off f hsh h1 h2 h3 h4 =>
          obtain ⟨u, hu, hru⟩ := ic (P := P) (own := au A μ σ) ht d.cells b off j f h1 h3 (ie hsh hl)
          exact ⟨_, u, rfl, hu, (.d _ _ hru)⟩
  · rename_i id i j
    cases he with
    | ptr _ _ _ b kp hp =>
      split at hv
      · rename_i m kb els hid
        split at hv
        · rename_i d hd
          cases hl : dA kb d j k with
          | none => simp [hl] at hv
          | some z =>
            simp [hl] at hv
            subst hv
            have hb := hs.blks id _ hid
            rcases hb with ⟨h1, _⟩ | ⟨b', c, ty, fr, h1, h2, h3, h4, h5⟩
            · simp [h1] at hp
            · rw [h1] at hp
              cases hp
              obtain ⟨hsh, hcs⟩ := h5 i d hd
              obtain ⟨u, hu, hru⟩ := ic (P := P) (own := au A μ σ) (w := w) ht d.cells b (i * ap kp) j (fun j => c.getD (i * ap kp + j) Go.undef)
                (fun j x hx => by obtain ⟨v, hv, _⟩ := hcs j x hx; rw [dJ h2]; simp [hv])
                (fun j x hx => by obtain ⟨v, hv, _, hr⟩ := hcs j x hx; simpa [hv] using hr) (ie hsh hl)
              exact ⟨_, u, rfl, hu, (.d _ _ hru)⟩
        · cases hv
      · rename_i cs hid
        have hb := hs.blks id _ hid
        obtain ⟨b', c, ty, fr, h1, h2, h3, h4, h5⟩ := hb
        rw [h1] at hp
        cases hp
        obtain ⟨u, hu, hru⟩ := kN (P := P) (O := au A μ σ) ht cs b (i + j) c h4 (fun o => dJ h2) (fun i x v hx hv => (h5 i x v hx hv).2) hv
        exact ⟨_, u, rfl, by simpa using hu, hru⟩
      · cases hv
  · cases hv
theorem jG (hs : aH A μ σ w) {tmps : Array Value} (ht : ∀ i, aD μ (au A μ σ) w (T i) (tmps.getD i Go.undef)) : ∀ {l : List d6} {rs : List ResultVar} {vs : List V}, dO P l rs = true → db ⟨T, σ, n⟩ l = some vs →
    ∃ cs : List Value, (rs.mapM (gR tmps)).run P w = .ok cs w ∧ vs.length = cs.length ∧ ∀ (i : Nat) x v, vs[i]? = some x → cs[i]? = some v → aD μ (au A μ σ) w x v
  | [], [], vs, _, hv => by
    simp [db] at hv; subst hv
    exact ⟨[], by simp, rfl, fun i x v h => by simp at h⟩
  | .t n1 :: l, .tmp m :: rs, vs, hc, hv => by
    simp only [dO, Bool.and_eq_true, beq_iff_eq] at hc
    obtain ⟨rfl, hc⟩ := hc
    simp only [db, gQ] at hv
    split at hv
    · rename_i v1 vs1 h1 h2
      cases hv; cases h1
      obtain ⟨cs, g1, g2, g3⟩ := jG hs ht hc h2
      refine ⟨tmps.getD n1 Go.undef :: cs, ?_, by simp [g2], fun i x v hx hv => ?_⟩
      · rw [List.mapM_cons]; simp [g1, gR, -Array.getD_eq_getD_getElem?]
      · cases i with
        | zero => simp at hx hv; subst hx; subst hv; exact by simpa using ht n1
        | succ i => exact g3 i x v (by simpa using hx) (by simpa using hv)
    · cases hv
  | .cell n1 k :: l, .cell m ty :: rs, vs, hc, hv => by
    simp only [dO, Bool.and_eq_true, beq_iff_eq] at hc
    obtain ⟨⟨rfl, hk⟩, hc⟩ := hc
    simp only [db, gQ] at hv
    split at hv
    · rename_i v1 vs1 h1 h2
      cases hv
      obtain ⟨cs, g1, g2, g3⟩ := jG hs ht hc h2
      have hld : ∃ cv, (gR tmps (.cell n1 ty)).run P w = .ok cv w ∧ aD μ (au A μ σ) w v1 cv := by
        obtain ⟨ad, u, e1, e2, e3⟩ := p5 hk (ht n1) hs h1
        exact ⟨u, by simp only [gR, e1, asAddr]; simp [e2], e3⟩
      obtain ⟨cv, q1, q2⟩ := hld
      refine ⟨cv :: cs, ?_, by simp [g2], fun i x v hx hv => ?_⟩
      · rw [List.mapM_cons]; simp [g1, q1, -Array.getD_eq_getD_getElem?]
      · cases i with
        | zero => simp at hx hv; subst hx; subst hv; exact q2
        | succ i => exact g3 i x v (by simpa using hx) (by simpa using hv)
    · cases hv
  | .t _ :: _, [], _, hc, _ => by simp [dO] at hc
  | .cell .. :: _, [], _, hc, _ => by simp [dO] at hc
  | .t _ :: _, .cell .. :: _, _, hc, _ => by simp [dO] at hc
  | .cell .. :: _, .tmp _ :: _, _, hc, _ => by simp [dO] at hc
  | [], _ :: _, _, hc, _ => by simp [dO] at hc
theorem p6 (hs : aH A μ σ w) {tmps : Array Value} (ht : ∀ i, aD μ (au A μ σ) w (T i) (tmps.getD i Go.undef)) {l : List d6} {fn : Func} {vs : List V} (hc : dO P l fn.results.toList = true) (hv : db ⟨T, σ, n⟩ l = some vs) :
    ∃ cv, (results fn tmps).run P w = .ok cv w ∧ aD μ (au A μ σ) w (fe vs) cv := by
  obtain ⟨cs, h1, h2, h3⟩ := jG hs ht hc hv
  have he : results fn tmps = (do let vs ← fn.results.mapM (gR tmps); pure (if h : vs.size = 1 then vs[0] else .tuple vs)) := by
    unfold results
    congr 1
  rw [he, Array.mapM_eq_mapM_toList]
  simp only [bind_map_left, bind_pure_comp]
  refine ⟨if h : cs.toArray.size = 1 then cs.toArray[0] else .tuple cs.toArray, by simp [h1], ?_⟩
  match vs, cs, h2, h3 with
  | [], [], _, h3 => simp [fe]; exact md (by simp) (fun i x v h => by simp at h)
  | [x], [c], _, h3 => simpa [fe] using h3 0 x c rfl rfl
  | x :: y :: vs, c :: d :: cs, h2, h3 =>
    simp [fe]
    exact md (by simpa using h2) (fun i x v hx hv => h3 i x v hx (by simpa using hv))
theorem jH {f : Nat} {af : bA} (h : bB P f af = true) : fJ P f = true ∧ ∃ fn c, P.funcs[f]? = some fn ∧ fn.body = some c ∧ fn.ntmps = af.n ∧ dO P af.res fn.results.toList = true ∧ cu P af.n af.code c = true := by
  unfold bB at h
  split at h
  · rename_i fn hf
    simp only [Bool.and_eq_true, bne_iff_ne, beq_iff_eq] at h
    obtain ⟨⟨⟨h1, h2⟩, h3⟩, h4⟩ := h
    cases hb : fn.body with
    | none => rw [hb] at h4; cases h4
    | some c =>
      rw [hb] at h4
      exact ⟨by simp [fJ, hf, hb, h1], fn, c, hf, hb, h2, h3, h4⟩
  · cases h
end
end Go.AM
