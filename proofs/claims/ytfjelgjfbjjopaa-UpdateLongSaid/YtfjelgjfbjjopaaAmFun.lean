import Derived.Test.YtfjelgjfbjjopaaAmWp2
set_option linter.unusedVariables false
set_option linter.unusedSectionVars false
set_option linter.unusedSimpArgs false
namespace Go.AM
open Go Go.RowKit
variable [Glob]
inductive d6 where
  | t (n : Nat)
  | cell (n : Nat) (k : Option Nat)
def dP (P : Program) : List d6 → List ResultVar → Bool
  | [], [] => true
  | .t n :: l, .tmp m :: r => n == m && dP P l r
  | .cell n k :: l, .cell m ty :: r => n == m && bp P ty == some k && dP P l r
  | _, _ => false
def iA (s : S) : d6 → Option V
  | .t n => some (s.T n)
  | .cell n k => bU s.σ k (s.T n)
def db (s : S) : List d6 → Option (List V)
  | [] => some []
  | r :: l => match iA s r, db s l with
    | some v, some vs => some (v :: vs)
    | _, _ => none
def fe : List V → V
  | [v] => v
  | vs => ig vs
structure cm where
  n : Nat
  code : bk
  res : List d6
def cn (P : Program) (f : Nat) (af : cm) : Bool :=
  match P.funcs[f]? with
  | some fn => fn.name != "runtime.NumGoroutine" && fn.ntmps == af.n && dP P af.res fn.results.toList && (match fn.body with
    | some c => ct P af.n af.code c
    | none => false)
  | none => false
def iB (tmps : Array Value) : ResultVar → Sem Value
  | .tmp t => pure (tmps.getD t Go.undef)
  | .cell a t => do loadVar t (← asAddr (tmps.getD a Go.undef))
def eS (vals : List V) : Nat → V := fun i => (vals[i]?).getD V.undef
section
variable {P : Program} {N : Nat} {A : Nat → Nat → Prop} {μ μ' : Nat → Option aJ} {T T' : Nat → V} {σ σ' : au} {w w' : World} {a : Act} {n n' : Nat} {v : V}
theorem ny {O : Nat → Nat → Prop} {vs : List V} {cs : Array Value} (hl : vs.length = cs.size) (h : ∀ (i : Nat) x v, vs[i]? = some x → cs[i]? = some v → aw μ O w x v) :
    aw μ O w (ig vs) (.tuple cs) := by
  unfold ig
  split
  · rename_i ds hds
    have := gx hds
    subst this
    refine .d _ _ (.tup ds cs (by simpa using hl) fun i d v hd hv => ?_)
    have := h i (.d d) v (by simp [hd]) hv
    cases this with | d _ _ h => exact h
  · exact .tup vs cs hl h
theorem qB {k : Option Nat} {x : V} {t : TypeId} {av : Value} (ht : bp P t = some k) (he : aw μ (ak A μ σ) w x av)
    (hs : aB A μ σ w) (hv : bU σ k x = some v) : ∃ ad u, av = .pointer (some ad) ∧ (loadVar t ad).run P w = .ok u w ∧ aw μ (ak A μ σ) w v u := by
  unfold bU at hv
  split at hv
  · rename_i kb d j
    cases he with
    | d _ _ hd =>
      cases hl : eo kb d j k with
      | none => simp [hl] at hv
      | some z =>
        simp [hl] at hv
        subst hv
        cases hd with
        | cptr _ _ _ b off f hsh h1 h2 h3 h4 =>
          obtain ⟨u, hu, hru⟩ := jk (P := P) (own := ak A μ σ) ht d.cells b off j f h1 h3 (jl hsh hl)
          exact ⟨_, u, rfl, hu, (.d _ _ hru)⟩
  · rename_i id i j
    cases he with
    | ptr _ _ _ b kp hp =>
      split at hv
      · rename_i m kb els hid
        split at hv
        · rename_i d hd
          cases hl : eo kb d j k with
          | none => simp [hl] at hv
          | some z =>
            simp [hl] at hv
            subst hv
            have hb := hs.blks id _ hid
            rcases hb with ⟨h1, _⟩ | ⟨b', c, ty, fr, h1, h2, h3, h4, h5⟩
            · simp [h1] at hp
            · rw [h1] at hp
              cases hp
              obtain ⟨hsh, hcs⟩ := h5 i d hd
              obtain ⟨u, hu, hru⟩ := jk (P := P) (own := ak A μ σ) (w := w) ht d.cells b (i * ah kp) j (fun j => c.getD (i * ah kp + j) Go.undef)
                (fun j x hx => by obtain ⟨v, hv, _⟩ := hcs j x hx; rw [cD h2]; simp [hv])
                (fun j x hx => by obtain ⟨v, hv, _, hr⟩ := hcs j x hx; simpa [hv] using hr) (jl hsh hl)
              exact ⟨_, u, rfl, hu, (.d _ _ hru)⟩
        · cases hv
      · rename_i cs hid
        have hb := hs.blks id _ hid
        obtain ⟨b', c, ty, fr, h1, h2, h3, h4, h5⟩ := hb
        rw [h1] at hp
        cases hp
        obtain ⟨u, hu, hru⟩ := lX (P := P) (O := ak A μ σ) ht cs b (i + j) c h4 (fun o => cD h2) (fun i x v hx hv => (h5 i x v hx hv).2) hv
        exact ⟨_, u, rfl, by simpa using hu, hru⟩
      · cases hv
  · cases hv
theorem kS (hs : aB A μ σ w) {tmps : Array Value} (ht : ∀ i, aw μ (ak A μ σ) w (T i) (tmps.getD i Go.undef)) : ∀ {l : List d6} {rs : List ResultVar} {vs : List V}, dP P l rs = true → db ⟨T, σ, n⟩ l = some vs →
    ∃ cs : List Value, (rs.mapM (iB tmps)).run P w = .ok cs w ∧ vs.length = cs.length ∧ ∀ (i : Nat) x v, vs[i]? = some x → cs[i]? = some v → aw μ (ak A μ σ) w x v
  | [], [], vs, _, hv => by
    simp [db] at hv; subst hv
    exact ⟨[], by simp, rfl, fun i x v h => by simp at h⟩
  | .t n1 :: l, .tmp m :: rs, vs, hc, hv => by
    simp only [dP, Bool.and_eq_true, beq_iff_eq] at hc
    obtain ⟨rfl, hc⟩ := hc
    simp only [db, iA] at hv
    split at hv
    · rename_i v1 dF h1 h2
      cases hv; cases h1
      obtain ⟨cs, g1, g2, g3⟩ := kS hs ht hc h2
      refine ⟨tmps.getD n1 Go.undef :: cs, ?_, by simp [g2], fun i x v hx hv => ?_⟩
      · rw [List.mapM_cons]; simp [g1, iB, -Array.getD_eq_getD_getElem?]
      · cases i with
        | zero => simp at hx hv; subst hx; subst hv; exact by simpa using ht n1
        | succ i => exact g3 i x v (by simpa using hx) (by simpa using hv)
    · cases hv
  | .cell n1 k :: l, .cell m ty :: rs, vs, hc, hv => by
    simp only [dP, Bool.and_eq_true, beq_iff_eq] at hc
    obtain ⟨⟨rfl, hk⟩, hc⟩ := hc
    simp only [db, iA] at hv
    split at hv
    · rename_i v1 dF h1 h2
      cases hv
      obtain ⟨cs, g1, g2, g3⟩ := kS hs ht hc h2
      have hld : ∃ cv, (iB tmps (.cell n1 ty)).run P w = .ok cv w ∧ aw μ (ak A μ σ) w v1 cv := by
        obtain ⟨ad, u, e1, e2, e3⟩ := qB hk (ht n1) hs h1
        exact ⟨u, by simp only [iB, e1, asAddr]; simp [e2], e3⟩
      obtain ⟨cv, q1, q2⟩ := hld
      refine ⟨cv :: cs, ?_, by simp [g2], fun i x v hx hv => ?_⟩
      · rw [List.mapM_cons]; simp [g1, q1, -Array.getD_eq_getD_getElem?]
      · cases i with
        | zero => simp at hx hv; subst hx; subst hv; exact q2
        | succ i => exact g3 i x v (by simpa using hx) (by simpa using hv)
    · cases hv
  | .t _ :: _, [], _, hc, _ => by simp [dP] at hc
  | .cell .. :: _, [], _, hc, _ => by simp [dP] at hc
  | .t _ :: _, .cell .. :: _, _, hc, _ => by simp [dP] at hc
  | .cell .. :: _, .tmp _ :: _, _, hc, _ => by simp [dP] at hc
  | [], _ :: _, _, hc, _ => by simp [dP] at hc
theorem nz (hs : aB A μ σ w) {tmps : Array Value} (ht : ∀ i, aw μ (ak A μ σ) w (T i) (tmps.getD i Go.undef)) {l : List d6} {fn : Func} {vs : List V} (hc : dP P l fn.results.toList = true) (hv : db ⟨T, σ, n⟩ l = some vs) :
    ∃ cv, (results fn tmps).run P w = .ok cv w ∧ aw μ (ak A μ σ) w (fe vs) cv := by
  obtain ⟨cs, h1, h2, h3⟩ := kS hs ht hc hv
  have he : results fn tmps = (do let vs ← fn.results.mapM (iB tmps); pure (if h : vs.size = 1 then vs[0] else .tuple vs)) := by
    unfold results
    congr 1
  rw [he, Array.mapM_eq_mapM_toList]
  simp only [bind_map_left, bind_pure_comp]
  refine ⟨if h : cs.toArray.size = 1 then cs.toArray[0] else .tuple cs.toArray, by simp [h1], ?_⟩
  match vs, cs, h2, h3 with
  | [], [], _, h3 => simp [fe]; exact ny (by simp) (fun i x v h => by simp at h)
  | [x], [c], _, h3 => simpa [fe] using h3 0 x c rfl rfl
  | x :: y :: vs, c :: d :: cs, h2, h3 =>
    simp [fe]
    exact ny (by simpa using h2) (fun i x v hx hv => h3 i x v hx (by simpa using hv))
theorem kT {f : Nat} {af : cm} (h : cn P f af = true) : fu P f = true ∧ ∃ fn c, P.funcs[f]? = some fn ∧ fn.body = some c ∧ fn.ntmps = af.n ∧ dP P af.res fn.results.toList = true ∧ ct P af.n af.code c = true := by
  unfold cn at h
  split at h
  · rename_i fn hf
    simp only [Bool.and_eq_true, bne_iff_ne, beq_iff_eq] at h
    obtain ⟨⟨⟨h1, h2⟩, h3⟩, h4⟩ := h
    cases hb : fn.body with
    | none => rw [hb] at h4; cases h4
    | some c =>
      rw [hb] at h4
      exact ⟨by simp [fu, hf, hb, h1], fn, c, hf, hb, h2, h3, h4⟩
  · cases h
end
end Go.AM
