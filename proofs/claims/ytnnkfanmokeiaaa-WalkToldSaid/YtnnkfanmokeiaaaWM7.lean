import Derived.Test.YtnnkfanmokeiaaaWM6
set_option linter.unusedVariables false
set_option linter.unusedSimpArgs false
namespace Go.AM
open Go
def fo {α σ : Type} (step : σ → α → Option σ) : σ → List α → Option σ
  | s, [] => some s
  | s, x :: l => (step s x).bind fun s => fo step s l
theorem n9 {α σ : Type} (step : σ → α → Option σ) : ∀ (l m : List α) (s : σ), fo step s (l ++ m) = (fo step s l).bind fun s => fo step s m
  | [], m, s => rfl
  | x :: l, m, s => by
    simp only [List.cons_append, fo]
    cases step s x with
    | none => rfl
    | some s' => simp only [Option.bind_some]; exact n9 step l m s'
def oa {σ ρ : Type} (o : Option σ) (r : ρ) : Ex σ ρ := match o with | some s' => .done s' | none => .ret r
def vY {σ ρ : Type} (o : Option σ) (r : ρ) : Br σ ρ := match o with | some s' => .next s' | none => .ret r
theorem ob {α σ ρ : Type} (f : Int → σ → Option (Br σ ρ)) (l : List α) (step : σ → α → Option σ) (r : ρ) (Inv : Nat → σ → Prop) (s : σ) (h0 : Inv 0 s)
    (h : ∀ (i : Nat) x s, l[i]? = some x → Inv i s → f (i : Int) s = some (vY (step s x) r) ∧ ∀ s', step s x = some s' → Inv (i + 1) s') :
    bT f (bJ 0 (l.length : Int)) s = some (oa (fo step s l) r) ∧ ∀ s', fo step s l = some s' → Inv l.length s' := by
  have := j0 f l (fun d s' => Inv d.length s' ∧ fo step s d = some s') (fun _ => False) (fun r' => r' = r ∧ fo step s l = none) s ⟨h0, rfl⟩ (fun i x s1 hx ⟨h1, h2⟩ => by
    have hlt : i < l.length := (List.getElem?_eq_some_iff.1 hx).1
    have ht : (l.take i).length = i := by simp; omega
    rw [ht] at h1
    obtain ⟨e1, e2⟩ := h i x s1 hx h1
    cases hs : step s1 x with
    | some s2 =>
      rw [hs] at e1
      refine .inl ⟨s2, e1, by simp [ht]; exact e2 s2 hs, ?_⟩
      rw [n9, h2]
      simp only [Option.bind_some, fo, hs]
    | none =>
      rw [hs] at e1
      refine .inr (.inr ⟨r, e1, rfl, ?_⟩)
      have hd : l = l.take i ++ x :: l.drop (i + 1) := rh hx
      rw [hd, n9, h2]
      simp only [Option.bind_some, fo, hs]; rfl)
  rcases this with ⟨s', e, ⟨h1, h2⟩ | h1⟩ | ⟨r', e, rfl, h2⟩
  · rw [h2]; exact ⟨e, fun s2 hs2 => by cases hs2; exact h1⟩
  · exact h1.elim
  · rw [h2]; exact ⟨e, fun s2 hs2 => by cases hs2⟩
def ol (b : Bool) (q : Pk) : List Pk := if b then [q] else []
theorem jm (b : Bool) (q : Pk) : gZ b q = some (ol b q) := by cases b <;> rfl
theorem rN (b : Bool) (q : Pk) : (ol b q).length ≤ 1 := by cases b <;> simp [ol]
theorem rO (b : Bool) (q : Pk) : ef (ol b q) := by cases b <;> simp [ol, jk, nY]
theorem vZ (b : Bool) (q x : Pk) : x ∈ ol b q ↔ x = q ∧ b = true := by cases b <;> simp [ol]
section
variable (st : List Int)
mutual
def ex : ai → Pk → Option (List Pk)
  | ⟨o, f, n, l⟩, q =>
    if o = 0 then some [] else if o = 1 then some [q] else if o = 2 then some (ol (q.get f == some n) q) else if o = 3 then some (ol (bq st f == some n) q)
    else if o = 4 then jn l q else if o = 5 then some [gh q f n] else if o = 6 then jo l [q] else jp l q []
def jn : List ai → Pk → Option (List Pk)
  | [], q => some [q]
  | k :: _, q => (ex k q).bind fun m => some (ol (decide (m = [])) q)
def jp : List ai → Pk → List Pk → Option (List Pk)
  | [], _, s => some s
  | k :: l, q, s => ((ex k q).bind fun m => fi (s ++ m)).bind fun s => jp l q s
def jo : List ai → List Pk → Option (List Pk)
  | [], s => some s
  | k :: l, s => ((fo (fun a x => (ex k x).map fun m => a ++ m) [] s).bind fi).bind fun s => jo l s
end
theorem oc (p : ai) (q : Pk) : ex st p q =
    if p.Op = 0 then some [] else if p.Op = 1 then some [q] else if p.Op = 2 then some (ol (q.get p.F == some p.N) q) else if p.Op = 3 then some (ol (bq st p.F == some p.N) q)
    else if p.Op = 4 then jn st p.Kids q else if p.Op = 5 then some [gh q p.F p.N] else if p.Op = 6 then jo st p.Kids [q] else jp st p.Kids q [] := by
  cases p; rw [ex]
def hE (q : Pk) (s : List Pk) (k : ai) : Option (List Pk) := (ex st k q).bind fun m => fi (s ++ m)
def hI (k : ai) (a : List Pk) (x : Pk) : Option (List Pk) := (ex st k x).map fun m => a ++ m
def hJ (s : List Pk) (k : ai) : Option (List Pk) := (fo (hI st k) [] s).bind fi
theorem lO (q : Pk) : ∀ (l : List ai) (s : List Pk), jp st l q s = fo (hE st q) s l
  | [], s => by rw [jp]; rfl
  | k :: l, s => by
    rw [jp]
    simp only [fo, hE]
    congr 1
    funext s
    exact lO q l s
theorem lP : ∀ (l : List ai) (s : List Pk), jo st l s = fo (hJ st) s l
  | [], s => by rw [jo]; rfl
  | k :: l, s => by
    rw [jo]
    simp only [fo, hJ, hI]
    congr 1
    funext s
    exact lP l s
def gj (l : List Pk) : Prop := l.length ≤ 64 ∧ ef l
theorem od {α σ : Type} {step : σ → α → Option σ} {I : σ → Prop} (h : ∀ s x s', I s → step s x = some s' → I s') : ∀ (l : List α) (s : σ) {s' : σ}, I s → fo step s l = some s' → I s'
  | [], s, s', hs, e => by cases e; exact hs
  | x :: l, s, s', hs, e => by
    simp only [fo] at e
    obtain ⟨s1, e1, e2⟩ := Option.bind_eq_some_iff.1 e
    exact od h l s1 (h s x s1 hs e1) e2
theorem oe {p : ai} {q : Pk} {l : List Pk} (h : ex st p q = some l) : gj l := by
  rw [oc] at h
  have one : ∀ x : Pk, gj [x] := fun x => ⟨by simp, nY x⟩
  have olf : ∀ b, gj (ol b q) := fun b => ⟨by have := rN b q; omega, rO b q⟩
  split at h
  · cases h; exact ⟨by simp, jk⟩
  split at h
  · cases h; exact one _
  split at h
  · cases h; exact olf _
  split at h
  · cases h; exact olf _
  split at h
  · cases hk : p.Kids with
    | nil => rw [hk, jn] at h; cases h; exact one _
    | cons k r =>
      rw [hk, jn] at h
      obtain ⟨m, _, h⟩ := Option.bind_eq_some_iff.1 h
      cases h; exact olf _
  split at h
  · cases h; exact one _
  have stp : ∀ m l, fi m = some l → gj l := fun m l hm => ⟨(jl hm).2.1, (jl hm).2.2⟩
  split at h
  · rw [lP] at h
    refine od (I := gj) (fun s x s' _ e => ?_) _ _ (one q) h
    obtain ⟨m, _, e⟩ := Option.bind_eq_some_iff.1 e
    exact stp _ _ e
  · rw [lO] at h
    refine od (I := gj) (fun s x s' _ e => ?_) _ _ ⟨by simp, jk⟩ h
    obtain ⟨m, _, e⟩ := Option.bind_eq_some_iff.1 e
    exact stp _ _ e
theorem og (l : List Pk) (b : Bool) (q : Pk) (h : ∀ x, x ∈ l ↔ x ∈ ol b q) : fi l = some (ol b q) := by
  have e : gi l = ol b q := (vU (rO b q) fun x => (h x).symm).symm
  unfold fi
  rw [e, if_neg (by have := rN b q; omega)]
theorem oh : ∀ (k : Nat) (p : ai), c9 p ≤ k → fD p = true → cT 4 p = true → ∀ q, ∃ b, ex st p q = some (ol b q)
  | 0, p, h, _, _, _ => by have := ji p; omega
  | k + 1, p, h, hp, hf, q => by
    have hd := g8 p
    rw [rd] at hp
    have hop := rH hf
    rw [oc]
    have h5 : p.Op ≠ 5 := by intro e; rw [e] at hp; simp at hp
    by_cases h0 : p.Op = 0
    · exact ⟨false, by simp [h0, ol]⟩
    by_cases h1 : p.Op = 1
    · exact ⟨true, by simp [h1, ol]⟩
    by_cases h2 : p.Op = 2
    · exact ⟨_, by rw [if_neg h0, if_neg h1, if_pos h2]⟩
    by_cases h3 : p.Op = 3
    · exact ⟨_, by rw [if_neg h0, if_neg h1, if_neg h2, if_pos h3]⟩
    rw [if_neg h0, if_neg h1, if_neg h2, if_neg h3]
    by_cases h4 : p.Op = 4
    · rw [if_pos h4]
      obtain ⟨y, rfl, hy1, hy2⟩ := rG hf h4
      obtain ⟨b, hb⟩ := oh k y (by simp only [dP] at hd; omega) hy1 hy2 q
      simp only [jn, hb, Option.bind_some]
      exact ⟨_, rfl⟩
    rw [if_neg h4, if_neg h5]
    have h67 : p.Op = 6 ∨ p.Op = 7 := by omega
    rw [if_neg (by omega), if_pos h67] at hp
    have hks : ∀ x ∈ p.Kids, ∃ b, ex st x q = some (ol b q) := fun x hx => oh k x (by have := g9 hx; omega) (List.all_eq_true.1 hp x hx) ((rF hf h67).1 x hx) q
    by_cases h6 : p.Op = 6
    · rw [if_pos h6, lP]
      have : ∀ (l : List ai) (b : Bool), (∀ x ∈ l, ∃ b, ex st x q = some (ol b q)) → ∃ b', fo (hJ st) (ol b q) l = some (ol b' q) := by
        intro l
        induction l with
        | nil => intro b _; exact ⟨b, rfl⟩
        | cons x l ih =>
          intro b hl
          obtain ⟨b1, hb1⟩ := hl x (by simp)
          simp only [fo]
          have e : hJ st (ol b q) x = some (ol (b && b1) q) := by
            unfold hJ
            cases b with
            | false => exact og _ _ _ fun x => Iff.rfl
            | true =>
              simp only [ol, if_true, fo, hI, hb1, Option.map_some, Option.bind_some, List.nil_append]
              exact og _ _ _ fun x => by simp [ol]
          rw [e]
          exact ih (b && b1) fun y hy => hl y (by simp [hy])
      exact this p.Kids true hks
    · rw [if_neg h6, lO]
      have : ∀ (l : List ai) (b : Bool), (∀ x ∈ l, ∃ b, ex st x q = some (ol b q)) → ∃ b', fo (hE st q) (ol b q) l = some (ol b' q) := by
        intro l
        induction l with
        | nil => intro b _; exact ⟨b, rfl⟩
        | cons x l ih =>
          intro b hl
          obtain ⟨b1, hb1⟩ := hl x (by simp)
          simp only [fo]
          have e : hE st q (ol b q) x = some (ol (b || b1) q) := by
            unfold hE
            rw [hb1, Option.bind_some]
            exact og _ _ _ fun x => by
              simp only [List.mem_append, vZ, Bool.or_eq_true]
              constructor
              · rintro (h | h)
                · exact ⟨h.1, .inl h.2⟩
                · exact ⟨h.1, .inr h.2⟩
              · rintro ⟨h, h' | h'⟩
                · exact .inl ⟨h, h'⟩
                · exact .inr ⟨h, h'⟩
          rw [e]
          exact ih (b || b1) fun y hy => hl y (by simp [hy])
      exact this p.Kids false hks
theorem wa {p : ai} (h : 0 ≤ p.F) : lk st p = some (bq st p.F == some p.N) := by
  unfold lk
  rw [decide_eq_true h, if_pos rfl]
  by_cases c : p.F < (st.length : Int)
  · rw [decide_eq_true c, if_pos rfl]
    have : bq st p.F = some (st[p.F.toNat]'(by omega)) := by unfold bq; rw [if_pos h]; exact bV _
    rw [this]
    simp only [Option.bind_some]
    congr 1
  · rw [decide_eq_false c, if_neg (by simp)]
    have : bq st p.F = none := by unfold bq; rw [if_pos h]; exact List.getElem?_eq_none (by omega)
    rw [this]; rfl
theorem wb (q : Pk) {f : Int} (n : Int) (h0 : 0 ≤ f) (h1 : f < 8) : lm q f n = some (gh q f n) := by
  obtain ⟨e1, _, ⟨v, e2⟩, _⟩ := rE q n h0 h1
  unfold lm ny
  rw [show decide (f ≥ 0) = true from decide_eq_true h0, show decide (f < 8) = true from decide_eq_true h1]
  simp [e1, e2]
theorem rP : ∀ (k : Nat) (p : ai), c9 p ≤ k → cT 4 p = true → ∀ q, fN k p st q = some (ex st p q)
  | 0, p, h, _, _ => by have := ji p; omega
  | k + 1, p, h, hf, q => by
    show lw (fN k) p st q = _
    have hd := g8 p
    have hop := rH hf
    have hks : (∀ x ∈ p.Kids, cT 4 x = true) → ∀ x ∈ p.Kids, ∀ q, fN k x st q = some (ex st x q) := fun hk x hx q => rP k x (by have := g9 hx; omega) (hk x hx) q
    rw [oc]
    unfold lw
    by_cases h0 : p.Op = 0
    · simp [h0]
    by_cases h1 : p.Op = 1
    · simp [h1, jm, ol]
    by_cases h2 : p.Op = 2
    · obtain ⟨f0, f1⟩ := vO hf h2
      obtain ⟨_, _, ⟨v, e2⟩, _⟩ := rE q 0 f0 f1
      simp [h2, e2, jm]
    by_cases h3 : p.Op = 3
    · simp [h3, wa st (vQ hf h3), jm]
    by_cases h4 : p.Op = 4
    · obtain ⟨y, rfl, hy1, hy2⟩ := rG hf h4
      obtain ⟨b, hb⟩ := oh st (c9 y) y (Nat.le_refl _) hy1 hy2 q
      have hy := hks (by simp [hy2]) y (by simp) q
      have hy : fN k y st q = some (some (ol b q)) := by rw [hy, hb]
      simp only [jn, hb, Option.bind_some]
      simp [bq, hy, f5, jm]
      cases b <;> simp [ol]
    by_cases h5 : p.Op = 5
    · obtain ⟨f0, f1⟩ := vP hf h5
      simp [h5, wb q p.N f0 f1, jm, ol]
    have h67 : p.Op = 6 ∨ p.Op = 7 := by omega
    have hks := hks (rF hf h67).1
    by_cases h6 : p.Op = 6
    · rw [lP]
      have inner : ∀ (x : ai), x ∈ p.Kids → ∀ s : List Pk, gj s → bT (lu st s x (fN k)) (bJ 0 (s.length : Int)) [] = some (oa (fo (hI st x) [] s) (Br.ret none : Br (List Pk) (Option (List Pk)))) ∧ ∀ s', fo (hI st x) [] s = some s' → s'.length ≤ 64 * s.length := fun x hx s hs =>
        ob (lu st s x (fN k)) s (hI st x) (Br.ret none : Br (List Pk) (Option (List Pk))) (fun i a => a.length ≤ 64 * i) [] (by simp) fun i y a hy ha => by
          have hi : i < s.length := (List.getElem?_eq_some_iff.1 hy).1
          have hs64 := hs.1
          simp only [lu, cS, hy, Option.bind_some, hks x hx y]
          unfold hI
          cases he : ex st x y with
          | none => exact ⟨by rfl, fun s' h => by cases h⟩
          | some m =>
            have hm := (oe st he).1
            have : cx a m = some (a ++ m) := by unfold cx; rw [if_pos (by omega)]
            simp only [f5, this, Option.bind_some, Option.map_some]
            refine ⟨by first | rfl | trivial, fun s' h => ?_⟩
            cases h
            simp only [List.length_append]; omega
      have outer := ob (nC p st (fN k)) p.Kids (hJ st) none (fun _ s => gj s) [q] ⟨by simp, nY q⟩ fun i x s hx hs => by
        have hm := dx hx
        obtain ⟨i1, i2⟩ := inner x hm s hs
        simp only [nC, cS, hx, Option.bind_some, i1]
        unfold hJ
        cases he : fo (hI st x) [] s with
        | none => exact ⟨rfl, fun s' h => by cases h⟩
        | some z =>
          have hz := i2 z he
          have hs64 := hs.1
          simp only [Option.bind_some, oa, rM (l := z) (by omega)]
          cases hb : fi z with
          | none => exact ⟨rfl, fun s' h => by cases h⟩
          | some w => exact ⟨rfl, fun s' h => by cases h; exact ⟨(jl hb).2.1, (jl hb).2.2⟩⟩
      have o1 := outer.1
      simp [h6, jm, ol] at o1 ⊢
      rw [o1]
      cases fo (hJ st) [q] p.Kids <;> rfl
    · have h7 : p.Op = 7 := by omega
      rw [lO]
      have outer := ob (nB p st q (fN k)) p.Kids (hE st q) none (fun _ s => gj s) [] ⟨by simp, jk⟩ fun i x s hx hs => by
        have hm := dx hx
        simp only [nB, cS, hx, Option.bind_some, hks x hm q]
        unfold hE
        cases he : ex st x q with
        | none => exact ⟨rfl, fun s' h => by cases h⟩
        | some m =>
          have hmf := (oe st he).1
          have hs64 := hs.1
          have : cx s m = some (s ++ m) := by unfold cx; rw [if_pos (by omega)]
          simp only [f5, this, Option.bind_some, rM (l := s ++ m) (by simp; omega)]
          cases hb : fi (s ++ m) with
          | none => exact ⟨rfl, fun s' h => by cases h⟩
          | some w => exact ⟨rfl, fun s' h => by cases h; exact ⟨(jl hb).2.1, (jl hb).2.2⟩⟩
      have o1 := outer.1
      simp [h7] at o1 ⊢
      rw [o1]
      cases fo (hE st q) [] p.Kids <;> rfl
end
end Go.AM
