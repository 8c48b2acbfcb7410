import Derived.Test.YtnnkfanmokeiaaaRP6
/-  Several texts in one. -/
section
set_option linter.unusedVariables false
set_option linter.unusedSimpArgs false
namespace Go.AM
open Go
def fo {α σ : Type} (step : σ → α → Option σ) : σ → List α → Option σ
  | s, [] => some s
  | s, x :: l => (step s x).bind fun s => fo step s l
theorem ot {α σ : Type} (step : σ → α → Option σ) : ∀ (l m : List α) (s : σ), fo step s (l ++ m) = (fo step s l).bind fun s => fo step s m
  | [], m, s => rfl
  | x :: l, m, s => by
    simp only [List.cons_append, fo]
    cases step s x with
    | none => rfl
    | some s' => simp only [Option.bind_some]; exact ot step l m s'
def q8 {σ ρ : Type} (o : Option σ) (r : ρ) : Ex σ ρ := match o with | some s' => .done s' | none => .ret r
def zN {σ ρ : Type} (o : Option σ) (r : ρ) : Br σ ρ := match o with | some s' => .next s' | none => .ret r
theorem ra {α σ ρ : Type} (f : Int → σ → Option (Br σ ρ)) (l : List α) (step : σ → α → Option σ) (r : ρ) (Inv : Nat → σ → Prop) (s : σ) (h0 : Inv 0 s)
    (h : ∀ (i : Nat) x s, l[i]? = some x → Inv i s → f (i : Int) s = some (zN (step s x) r) ∧ ∀ s', step s x = some s' → Inv (i + 1) s') :
    bV f (bu 0 (l.length : Int)) s = some (q8 (fo step s l) r) ∧ ∀ s', fo step s l = some s' → Inv l.length s' := by
  have := jQ f l (fun d s' => Inv d.length s' ∧ fo step s d = some s') (fun _ => False) (fun r' => r' = r ∧ fo step s l = none) s ⟨h0, rfl⟩ (fun i x s1 hx ⟨h1, h2⟩ => by
    have hlt : i < l.length := (List.getElem?_eq_some_iff.1 hx).1
    have ht : (l.take i).length = i := by simp; omega
    rw [ht] at h1
    obtain ⟨e1, e2⟩ := h i x s1 hx h1
    cases hs : step s1 x with
    | some s2 =>
      rw [hs] at e1
      refine .inl ⟨s2, e1, by simp [ht]; exact e2 s2 hs, ?_⟩
      rw [ot, h2]
      simp only [Option.bind_some, fo, hs]
    | none =>
      rw [hs] at e1
      refine .inr (.inr ⟨r, e1, rfl, ?_⟩)
      have hd : l = l.take i ++ x :: l.drop (i + 1) := qH hx
      rw [hd, ot, h2]
      simp only [Option.bind_some, fo, hs]; rfl)
  rcases this with ⟨s', e, ⟨h1, h2⟩ | h1⟩ | ⟨r', e, rfl, h2⟩
  · rw [h2]; exact ⟨e, fun s2 hs2 => by cases hs2; exact h1⟩
  · exact h1.elim
  · rw [h2]; exact ⟨e, fun s2 hs2 => by cases hs2⟩
def ol (b : Bool) (q : Pk) : List Pk := if b then [q] else []
theorem uK (b : Bool) (q : Pk) : (ol b q).length ≤ 1 := by cases b <;> simp [ol]
theorem uL (b : Bool) (q : Pk) : cZ (ol b q) := by cases b <;> simp [ol, mh, qV]
theorem uM (b : Bool) (q x : Pk) : x ∈ ol b q ↔ x = q ∧ b = true := by cases b <;> simp [ol]
section
variable (st : List Int)
mutual
def ex : ak → Pk → Option (List Pk)
  | ⟨o, f, n, l⟩, q =>
    if o = 0 then some [] else if o = 1 then some [q] else if o = 2 then some (ol (q.get f == some n) q) else if o = 3 then some (ol (aW st f == some n) q)
    else if o = 4 then jf l q else if o = 5 then some [fu q f n] else if o = 6 then iE l [q] else jZ l q []
def jf : List ak → Pk → Option (List Pk)
  | [], q => some [q]
  | k :: _, q => (ex k q).bind fun m => some (ol (decide (m = [])) q)
def jZ : List ak → Pk → List Pk → Option (List Pk)
  | [], _, s => some s
  | k :: l, q, s => ((ex k q).bind fun m => gN (s ++ m)).bind fun s => jZ l q s
def iE : List ak → List Pk → Option (List Pk)
  | [], s => some s
  | k :: l, s => ((fo (fun a x => (ex k x).map fun m => a ++ m) [] s).bind gN).bind fun s => iE l s
end
theorem gO (p : ak) (q : Pk) : ex st p q =
    if p.Op = 0 then some [] else if p.Op = 1 then some [q] else if p.Op = 2 then some (ol (q.get p.F == some p.N) q) else if p.Op = 3 then some (ol (aW st p.F == some p.N) q)
    else if p.Op = 4 then jf st p.Kids q else if p.Op = 5 then some [fu q p.F p.N] else if p.Op = 6 then iE st p.Kids [q] else jZ st p.Kids q [] := by
  cases p; rw [ex]
def gP (q : Pk) (s : List Pk) (k : ak) : Option (List Pk) := (ex st k q).bind fun m => gN (s ++ m)
def ie (k : ak) (a : List Pk) (x : Pk) : Option (List Pk) := (ex st k x).map fun m => a ++ m
def fN (s : List Pk) (k : ak) : Option (List Pk) := (fo (ie st k) [] s).bind gN
theorem ml (q : Pk) : ∀ (l : List ak) (s : List Pk), jZ st l q s = fo (gP st q) s l
  | [], s => by rw [jZ]; rfl
  | k :: l, s => by
    rw [jZ]
    simp only [fo, gP]
    congr 1
    funext s
    exact ml q l s
theorem j1 : ∀ (l : List ak) (s : List Pk), iE st l s = fo (fN st) s l
  | [], s => by rw [iE]; rfl
  | k :: l, s => by
    rw [iE]
    simp only [fo, fN, ie]
    congr 1
    funext s
    exact j1 l s
def iF (l : List Pk) : Prop := l.length ≤ 64 ∧ cZ l
theorem rb {α σ : Type} {step : σ → α → Option σ} {I : σ → Prop} (h : ∀ s x s', I s → step s x = some s' → I s') : ∀ (l : List α) (s : σ) {s' : σ}, I s → fo step s l = some s' → I s'
  | [], s, s', hs, e => by cases e; exact hs
  | x :: l, s, s', hs, e => by
    simp only [fo] at e
    obtain ⟨s1, e1, e2⟩ := Option.bind_eq_some_iff.1 e
    exact rb h l s1 (h s x s1 hs e1) e2
theorem uN {p : ak} {q : Pk} {l : List Pk} (h : ex st p q = some l) : iF l := by
  rw [gO] at h
  have one : ∀ x : Pk, iF [x] := fun x => ⟨by simp, qV x⟩
  have olf : ∀ b, iF (ol b q) := fun b => ⟨by have := uK b q; omega, uL b q⟩
  split at h
  · cases h; exact ⟨by simp, mh⟩
  split at h
  · cases h; exact one _
  split at h
  · cases h; exact olf _
  split at h
  · cases h; exact olf _
  split at h
  · cases hk : p.Kids with
    | nil => rw [hk, jf] at h; cases h; exact one _
    | cons k r =>
      rw [hk, jf] at h
      obtain ⟨m, _, h⟩ := Option.bind_eq_some_iff.1 h
      cases h; exact olf _
  split at h
  · cases h; exact one _
  have stp : ∀ m l, gN m = some l → iF l := fun m l hm => ⟨(uJ hm).2.1, (uJ hm).2.2⟩
  split at h
  · rw [j1] at h
    refine rb (I := iF) (fun s x s' _ e => ?_) _ _ (one q) h
    obtain ⟨m, _, e⟩ := Option.bind_eq_some_iff.1 e
    exact stp _ _ e
  · rw [ml] at h
    refine rb (I := iF) (fun s x s' _ e => ?_) _ _ ⟨by simp, mh⟩ h
    obtain ⟨m, _, e⟩ := Option.bind_eq_some_iff.1 e
    exact stp _ _ e
theorem gQ (l : List Pk) (b : Bool) (q : Pk) (h : ∀ x, x ∈ l ↔ x ∈ ol b q) : gN l = some (ol b q) := by
  have e : d6 l = ol b q := (q7 (uL b q) fun x => (h x).symm).symm
  unfold gN
  rw [e, if_neg (by have := uK b q; omega)]
theorem rc : ∀ (k : Nat) (p : ak), di p ≤ k → ep p = true → cC 4 p = true → ∀ q, ∃ b, ex st p q = some (ol b q)
  | 0, p, h, _, _, _ => by have := kS p; omega
  | k + 1, p, h, hp, hf, q => by
    have hd := jd p
    rw [kR] at hp
    have hop := uA hf
    rw [gO]
    have h5 : p.Op ≠ 5 := by intro e; rw [e] at hp; simp at hp
    by_cases h0 : p.Op = 0
    · exact ⟨false, by simp [h0, ol]⟩
    by_cases h1 : p.Op = 1
    · exact ⟨true, by simp [h1, ol]⟩
    by_cases h2 : p.Op = 2
    · exact ⟨_, by rw [if_neg h0, if_neg h1, if_pos h2]⟩
    by_cases h3 : p.Op = 3
    · exact ⟨_, by rw [if_neg h0, if_neg h1, if_neg h2, if_pos h3]⟩
    rw [if_neg h0, if_neg h1, if_neg h2, if_neg h3]
    by_cases h4 : p.Op = 4
    · rw [if_pos h4]
      obtain ⟨y, rfl, hy1, hy2⟩ := uz hf h4
      obtain ⟨b, hb⟩ := rc k y (by simp only [eT] at hd; omega) hy1 hy2 q
      simp only [jf, hb, Option.bind_some]
      exact ⟨_, rfl⟩
    rw [if_neg h4, if_neg h5]
    have h67 : p.Op = 6 ∨ p.Op = 7 := by omega
    rw [if_neg (by omega), if_pos h67] at hp
    have hks : ∀ x ∈ p.Kids, ∃ b, ex st x q = some (ol b q) := fun x hx => rc k x (by have := je hx; omega) (List.all_eq_true.1 hp x hx) ((uw hf h67).1 x hx) q
    by_cases h6 : p.Op = 6
    · rw [if_pos h6, j1]
      have : ∀ (l : List ak) (b : Bool), (∀ x ∈ l, ∃ b, ex st x q = some (ol b q)) → ∃ b', fo (fN st) (ol b q) l = some (ol b' q) := by
        intro l
        induction l with
        | nil => intro b _; exact ⟨b, rfl⟩
        | cons x l ih =>
          intro b hl
          obtain ⟨b1, hb1⟩ := hl x (by simp)
          simp only [fo]
          have e : fN st (ol b q) x = some (ol (b && b1) q) := by
            unfold fN
            cases b with
            | false => exact gQ _ _ _ fun x => Iff.rfl
            | true =>
              simp only [ol, if_true, fo, ie, hb1, Option.map_some, Option.bind_some, List.nil_append]
              exact gQ _ _ _ fun x => by simp [ol]
          rw [e]
          exact ih (b && b1) fun y hy => hl y (by simp [hy])
      exact this p.Kids true hks
    · rw [if_neg h6, ml]
      have : ∀ (l : List ak) (b : Bool), (∀ x ∈ l, ∃ b, ex st x q = some (ol b q)) → ∃ b', fo (gP st q) (ol b q) l = some (ol b' q) := by
        intro l
        induction l with
        | nil => intro b _; exact ⟨b, rfl⟩
        | cons x l ih =>
          intro b hl
          obtain ⟨b1, hb1⟩ := hl x (by simp)
          simp only [fo]
          have e : gP st q (ol b q) x = some (ol (b || b1) q) := by
            unfold gP
            rw [hb1, Option.bind_some]
            exact gQ _ _ _ fun x => by
              simp only [List.mem_append, uM, Bool.or_eq_true]
              constructor
              · rintro (h | h)
                · exact ⟨h.1, .inl h.2⟩
                · exact ⟨h.1, .inr h.2⟩
              · rintro ⟨h, h' | h'⟩
                · exact .inl ⟨h, h'⟩
                · exact .inr ⟨h, h'⟩
          rw [e]
          exact ih (b || b1) fun y hy => hl y (by simp [hy])
      exact this p.Kids false hks
end
end Go.AM
end
section
set_option linter.unusedVariables false
set_option linter.unusedSimpArgs false
namespace Go.AM
open Go
section
variable (st : List Int)
theorem uO {l m : List Pk} (hs : cZ l) (hl : l.length + m.length ≤ cY) : kN l m = some (d6 (l ++ m)) := by
  obtain ⟨r, e, h1, _, h3⟩ := zA hs hl
  rw [e]
  congr 1
  exact q7 h1 fun x => by rw [h3]; simp
def j3 (k : ak) (a : List Pk) (x : Pk) : Option (List Pk) := (ex st k x).map fun m => d6 (a ++ m)
theorem uP (k : ak) : ∀ (l a : List Pk), fo (j3 st k) (d6 a) l = (fo (ie st k) a l).map d6
  | [], a => rfl
  | x :: l, a => by
    simp only [fo, j3, ie]
    cases ex st k x with
    | none => rfl
    | some m =>
      simp only [Option.map_some, Option.bind_some]
      rw [zL]
      exact uP k l (a ++ m)
def gC (o : Option (List Pk)) : List Pk × Bool := match o with | some l => (l, true) | none => ([], false)
theorem zO (l : List Pk) : (d6 l).length ≤ l.length := by
  have key : ∀ (l acc : List Pk), (l.foldl gM acc).length ≤ acc.length + l.length := by
    intro l
    induction l with
    | nil => intro acc; simp
    | cons x l ih =>
      intro acc
      rw [List.foldl_cons]
      have := ih (gM acc x)
      have := zK acc x
      simp only [List.length_cons]; omega
  have := key (mj l) []
  have h2 := (qY l).length_eq
  unfold d6 oi
  simp only [List.length_nil] at this
  omega
theorem uQ : ∀ (k : Nat) (p : ak), di p ≤ k → cC 4 p = true → ∀ q, gL k p st q = some (gC (ex st p q))
  | 0, p, h, _, _ => by have := kS p; omega
  | k + 1, p, h, hf, q => by
    show n5 (gL k) p st q = _
    have hd := jd p
    have hop := uA hf
    have hks : (∀ x ∈ p.Kids, cC 4 x = true) → ∀ x ∈ p.Kids, ∀ q, gL k x st q = some (gC (ex st x q)) := fun hk x hx q => uQ k x (by have := je hx; omega) (hk x hx) q
    rw [gO]
    unfold n5
    by_cases h0 : p.Op = 0
    · simp [h0, gC]
    by_cases h1 : p.Op = 1
    · simp [h1, gC]
    by_cases h2 : p.Op = 2
    · obtain ⟨f0, f1⟩ := zB hf h2
      obtain ⟨_, _, ⟨v, e2⟩, _⟩ := qU q 0 f0 f1
      by_cases c : v = p.N <;> simp [h2, e2, gC, ol, c]
    by_cases h3 : p.Op = 3
    · have f0 := zD hf h3
      by_cases c : p.F < (st.length : Int)
      · have hv : aW st p.F = some (st[p.F.toNat]'(by omega)) := by unfold aW; rw [if_pos f0]; exact bM _
        generalize (st[p.F.toNat]'(by omega)) = v at hv
        by_cases c2 : v = p.N <;> simp [h3, hv, c, c2, gC, ol]
      · have hv : aW st p.F = none := by unfold aW; rw [if_pos f0]; exact List.getElem?_eq_none (by omega)
        simp [h3, hv, c, gC, ol]
    by_cases h4 : p.Op = 4
    · obtain ⟨y, rfl, hy1, hy2⟩ := uz hf h4
      obtain ⟨b, hb⟩ := rc st (di y) y (Nat.le_refl _) hy1 hy2 q
      have hy := hks (by simp [hy2]) y (by simp) q
      have hy : gL k y st q = some (ol b q, true) := by rw [hy, hb]; rfl
      simp only [jf, hb, Option.bind_some]
      cases b <;> simp [aW, hy, gC, ol]
    by_cases h5 : p.Op = 5
    · obtain ⟨f0, f1⟩ := zC hf h5
      simp [h5, zE q p.N f0 f1, gC]
    have h67 : p.Op = 6 ∨ p.Op = 7 := by omega
    have hks := hks (uw hf h67).1
    by_cases h6 : p.Op = 6
    · rw [j1]
      have inner : ∀ (j : Nat) (x : ak), p.Kids[j]? = some x → ∀ s : List Pk, iF s → bV (nZ p st s (j : Int) (gL k)) (bu 0 (s.length : Int)) [] = some (q8 (fo (j3 st x) [] s) (Br.ret ([], false) : Br (List Pk) ((List Pk) × Bool))) ∧ ∀ s', fo (j3 st x) [] s = some s' → cZ s' ∧ s'.length ≤ 64 * s.length := fun j x hx s hs =>
        ra (nZ p st s (j : Int) (gL k)) s (j3 st x) (Br.ret ([], false) : Br (List Pk) ((List Pk) × Bool)) (fun i a => cZ a ∧ a.length ≤ 64 * i) [] ⟨mh, by simp⟩ fun i y a hy ha => by
          have hi : i < s.length := (List.getElem?_eq_some_iff.1 hy).1
          have hs64 := hs.1
          have hm := cU hx
          simp only [nZ, bW, hx, hy, Option.bind_some, hks x hm y]
          unfold j3
          cases he : ex st x y with
          | none => exact ⟨by rfl, fun s' h => by cases h⟩
          | some m =>
            have hml := (uN st he).1
            obtain ⟨ha1, ha2⟩ := ha
            simp only [gC, Bool.not_true, Bool.false_eq_true, if_false, uO ha1 (m := m) (by unfold cY; omega), Option.bind_some, Option.map_some]
            refine ⟨by first | rfl | trivial, fun s' h => ?_⟩
            cases h
            refine ⟨kV _, ?_⟩
            have := zO (a ++ m)
            simp only [List.length_append] at this; omega
      have outer := ra (qw p st (gL k)) p.Kids (fN st) ([], false) (fun _ s => iF s) [q] ⟨by simp, qV q⟩ fun i x s hx hs => by
        have hm := cU hx
        obtain ⟨i1, i2⟩ := inner i x hx s hs
        simp only [qw, i1, Option.bind_some]
        unfold fN
        have hr := uP st x s []
        rw [zM] at hr
        cases he : fo (ie st x) [] s with
        | none =>
          rw [he] at hr
          rw [hr]
          exact ⟨by rfl, fun s' h => by cases h⟩
        | some z =>
          rw [he] at hr
          have hr : fo (j3 st x) [] s = some (d6 z) := hr
          rw [hr]
          simp only [Option.bind_some, q8]
          unfold gN
          by_cases c : (d6 z).length > 64
          · rw [decide_eq_true (by omega), if_pos rfl, if_pos c]
            exact ⟨by rfl, fun s' h => by cases h⟩
          · rw [decide_eq_false (by omega), if_neg (by simp), if_neg c]
            exact ⟨by rfl, fun s' h => by cases h; exact ⟨by omega, kV z⟩⟩
      have o1 := outer.1
      simp [h6] at o1 ⊢
      rw [o1]
      cases fo (fN st) [q] p.Kids <;> rfl
    · have h7 : p.Op = 7 := by omega
      rw [ml]
      have outer := ra (qx p st q (gL k)) p.Kids (gP st q) ([], false) (fun _ s => iF s) [] ⟨by simp, mh⟩ fun i x s hx hs => by
        have hm := cU hx
        simp only [qx, bW, hx, Option.bind_some, hks x hm q]
        unfold gP
        cases he : ex st x q with
        | none => exact ⟨by rfl, fun s' h => by cases h⟩
        | some m =>
          have hml := (uN st he).1
          have hs64 := hs.1
          simp only [gC, Bool.not_true, Bool.false_eq_true, if_false, uO hs.2 (m := m) (by unfold cY; omega), Option.bind_some]
          unfold gN
          by_cases c : (d6 (s ++ m)).length > 64
          · rw [decide_eq_true (by omega), if_pos rfl, if_pos c]
            exact ⟨by rfl, fun s' h => by cases h⟩
          · rw [decide_eq_false (by omega), if_neg (by simp), if_neg c]
            exact ⟨by rfl, fun s' h => by cases h; exact ⟨by omega, kV _⟩⟩
      have o1 := outer.1
      simp [h7] at o1 ⊢
      rw [o1]
      cases fo (gP st q) [] p.Kids <;> rfl
end
end Go.AM
end
section
set_option linter.unusedVariables false
set_option linter.unusedSimpArgs false
namespace Go.AM
open Go
section
variable (st : List Int)
def re (p : ak) (q : Pk) : List Pk × Int := if jY p then (match ex st p q with | some l => (l, 0) | none => ([], 24)) else ([], 11)
theorem zP {p : ak} (h : cq p ≤ cY) (q : Pk) : jW p st q = some (re st p q) := by
  unfold jW re
  rw [zp h]
  simp only [Option.bind_some]
  cases hp : jY p
  · rfl
  · have h2 : cC 4 p = true := by
      unfold jY at hp; simp only [Bool.and_eq_true] at hp; exact hp.2
    have hr : qy p st q = some (gC (ex st p q)) := uQ st _ _ (jX h) h2 q
    rw [hr]
    cases ex st p q <;> rfl
end
end Go.AM
end
