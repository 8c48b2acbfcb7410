import Derived.Test.YtnnkfanmokeiaaaPM6
import Derived.Test.YtnnkfanmokeiaaaPmT
/-  Several texts in one. -/
section
set_option linter.unusedVariables false
set_option linter.unusedSimpArgs false
namespace Go.AM
open Go
def fo {α σ : Type} (step : σ → α → Option σ) : σ → List α → Option σ
  | s, [] => some s
  | s, x :: l => (step s x).bind fun s => fo step s l
theorem nM {α σ : Type} (step : σ → α → Option σ) : ∀ (l m : List α) (s : σ), fo step s (l ++ m) = (fo step s l).bind fun s => fo step s m
  | [], m, s => rfl
  | x :: l, m, s => by
    simp only [List.cons_append, fo]
    cases step s x with
    | none => rfl
    | some s' => simp only [Option.bind_some]; exact nM step l m s'
def nN {σ ρ : Type} (o : Option σ) (r : ρ) : Ex σ ρ := match o with | some s' => .done s' | none => .ret r
def vl {σ ρ : Type} (o : Option σ) (r : ρ) : Br σ ρ := match o with | some s' => .next s' | none => .ret r
theorem nO {α σ ρ : Type} (f : Int → σ → Option (Br σ ρ)) (l : List α) (step : σ → α → Option σ) (r : ρ) (Inv : Nat → σ → Prop) (s : σ) (h0 : Inv 0 s)
    (h : ∀ (i : Nat) x s, l[i]? = some x → Inv i s → f (i : Int) s = some (vl (step s x) r) ∧ ∀ s', step s x = some s' → Inv (i + 1) s') :
    ca f (bJ 0 (l.length : Int)) s = some (nN (fo step s l) r) ∧ ∀ s', fo step s l = some s' → Inv l.length s' := by
  have := qk f l (fun d s' => Inv d.length s' ∧ fo step s d = some s') (fun _ => False) (fun r' => r' = r ∧ fo step s l = none) s ⟨h0, rfl⟩ (fun i x s1 hx ⟨h1, h2⟩ => by
    have hlt : i < l.length := (List.getElem?_eq_some_iff.1 hx).1
    have ht : (l.take i).length = i := by simp; omega
    rw [ht] at h1
    obtain ⟨e1, e2⟩ := h i x s1 hx h1
    cases hs : step s1 x with
    | some s2 =>
      rw [hs] at e1
      refine .inl ⟨s2, e1, by simp [ht]; exact e2 s2 hs, ?_⟩
      rw [nM, h2]
      simp only [Option.bind_some, fo, hs]
    | none =>
      rw [hs] at e1
      refine .inr (.inr ⟨r, e1, rfl, ?_⟩)
      have hd : l = l.take i ++ x :: l.drop (i + 1) := qC hx
      rw [hd, nM, h2]
      simp only [Option.bind_some, fo, hs]; rfl)
  rcases this with ⟨s', e, ⟨h1, h2⟩ | h1⟩ | ⟨r', e, rfl, h2⟩
  · rw [h2]; exact ⟨e, fun s2 hs2 => by cases hs2; exact h1⟩
  · exact h1.elim
  · rw [h2]; exact ⟨e, fun s2 hs2 => by cases hs2⟩
def ol (b : Bool) (q : Pk) : List Pk := if b then [q] else []
theorem jb (b : Bool) (q : Pk) : gV b q = some (ol b q) := by cases b <;> rfl
theorem qW (b : Bool) (q : Pk) : (ol b q).length ≤ 1 := by cases b <;> simp [ol]
theorem qY (b : Bool) (q : Pk) : dM (ol b q) := by cases b <;> simp [ol, j5, nG]
theorem lA (b : Bool) (q x : Pk) : x ∈ ol b q ↔ x = q ∧ b = true := by cases b <;> simp [ol]
section
variable (st : List Int)
mutual
def ex : ah → Pk → Option (List Pk)
  | ⟨o, f, n, l⟩, q =>
    if o = 0 then some [] else if o = 1 then some [q] else if o = 2 then some (ol (q.get f == some n) q) else if o = 3 then some (ol (bv st f == some n) q)
    else if o = 4 then ip l q else if o = 5 then some [fB q f n] else if o = 6 then jc l [q] else jd l q []
def ip : List ah → Pk → Option (List Pk)
  | [], q => some [q]
  | k :: _, q => (ex k q).bind fun m => some (ol (decide (m = [])) q)
def jd : List ah → Pk → List Pk → Option (List Pk)
  | [], _, s => some s
  | k :: l, q, s => ((ex k q).bind fun m => eW (s ++ m)).bind fun s => jd l q s
def jc : List ah → List Pk → Option (List Pk)
  | [], s => some s
  | k :: l, s => ((fo (fun a x => (ex k x).map fun m => a ++ m) [] s).bind eW).bind fun s => jc l s
end
theorem lB (p : ah) (q : Pk) : ex st p q =
    if p.Op = 0 then some [] else if p.Op = 1 then some [q] else if p.Op = 2 then some (ol (q.get p.F == some p.N) q) else if p.Op = 3 then some (ol (bv st p.F == some p.N) q)
    else if p.Op = 4 then ip st p.Kids q else if p.Op = 5 then some [fB q p.F p.N] else if p.Op = 6 then jc st p.Kids [q] else jd st p.Kids q [] := by
  cases p; rw [ex]
def fS (q : Pk) (s : List Pk) (k : ah) : Option (List Pk) := (ex st k q).bind fun m => eW (s ++ m)
def fT (k : ah) (a : List Pk) (x : Pk) : Option (List Pk) := (ex st k x).map fun m => a ++ m
def fU (s : List Pk) (k : ah) : Option (List Pk) := (fo (fT st k) [] s).bind eW
theorem j6 (q : Pk) : ∀ (l : List ah) (s : List Pk), jd st l q s = fo (fS st q) s l
  | [], s => by rw [jd]; rfl
  | k :: l, s => by
    rw [jd]
    simp only [fo, fS]
    congr 1
    funext s
    exact j6 q l s
theorem j7 : ∀ (l : List ah) (s : List Pk), jc st l s = fo (fU st) s l
  | [], s => by rw [jc]; rfl
  | k :: l, s => by
    rw [jc]
    simp only [fo, fU, fT]
    congr 1
    funext s
    exact j7 l s
def gF (l : List Pk) : Prop := l.length ≤ 64 ∧ dM l
theorem nP {α σ : Type} {step : σ → α → Option σ} {I : σ → Prop} (h : ∀ s x s', I s → step s x = some s' → I s') : ∀ (l : List α) (s : σ) {s' : σ}, I s → fo step s l = some s' → I s'
  | [], s, s', hs, e => by cases e; exact hs
  | x :: l, s, s', hs, e => by
    simp only [fo] at e
    obtain ⟨s1, e1, e2⟩ := Option.bind_eq_some_iff.1 e
    exact nP h l s1 (h s x s1 hs e1) e2
theorem nQ {p : ah} {q : Pk} {l : List Pk} (h : ex st p q = some l) : gF l := by
  rw [lB] at h
  have one : ∀ x : Pk, gF [x] := fun x => ⟨by simp, nG x⟩
  have olf : ∀ b, gF (ol b q) := fun b => ⟨by have := qW b q; omega, qY b q⟩
  split at h
  · cases h; exact ⟨by simp, j5⟩
  split at h
  · cases h; exact one _
  split at h
  · cases h; exact olf _
  split at h
  · cases h; exact olf _
  split at h
  · cases hk : p.Kids with
    | nil => rw [hk, ip] at h; cases h; exact one _
    | cons k r =>
      rw [hk, ip] at h
      obtain ⟨m, _, h⟩ := Option.bind_eq_some_iff.1 h
      cases h; exact olf _
  split at h
  · cases h; exact one _
  have stp : ∀ m l, eW m = some l → gF l := fun m l hm => ⟨(gY hm).2.1, (gY hm).2.2⟩
  split at h
  · rw [j7] at h
    refine nP (I := gF) (fun s x s' _ e => ?_) _ _ (one q) h
    obtain ⟨m, _, e⟩ := Option.bind_eq_some_iff.1 e
    exact stp _ _ e
  · rw [j6] at h
    refine nP (I := gF) (fun s x s' _ e => ?_) _ _ ⟨by simp, j5⟩ h
    obtain ⟨m, _, e⟩ := Option.bind_eq_some_iff.1 e
    exact stp _ _ e
theorem nS (l : List Pk) (b : Bool) (q : Pk) (h : ∀ x, x ∈ l ↔ x ∈ ol b q) : eW l = some (ol b q) := by
  have e : fR l = ol b q := (ve (qY b q) fun x => (h x).symm).symm
  unfold eW
  rw [e, if_neg (by have := qW b q; omega)]
theorem nT : ∀ (k : Nat) (p : ah), bW p ≤ k → dw p = true → bX 4 p = true → ∀ q, ∃ b, ex st p q = some (ol b q)
  | 0, p, h, _, _, _ => by have := gC p; omega
  | k + 1, p, h, hp, hf, q => by
    have hd := fm p
    rw [np] at hp
    have hop := nF hf
    rw [lB]
    have h5 : p.Op ≠ 5 := by intro e; rw [e] at hp; simp at hp
    by_cases h0 : p.Op = 0
    · exact ⟨false, by simp [h0, ol]⟩
    by_cases h1 : p.Op = 1
    · exact ⟨true, by simp [h1, ol]⟩
    by_cases h2 : p.Op = 2
    · exact ⟨_, by rw [if_neg h0, if_neg h1, if_pos h2]⟩
    by_cases h3 : p.Op = 3
    · exact ⟨_, by rw [if_neg h0, if_neg h1, if_neg h2, if_pos h3]⟩
    rw [if_neg h0, if_neg h1, if_neg h2, if_neg h3]
    by_cases h4 : p.Op = 4
    · rw [if_pos h4]
      obtain ⟨y, rfl, hy1, hy2⟩ := nE hf h4
      obtain ⟨b, hb⟩ := nT k y (by simp only [cO] at hd; omega) hy1 hy2 q
      simp only [ip, hb, Option.bind_some]
      exact ⟨_, rfl⟩
    rw [if_neg h4, if_neg h5]
    have h67 : p.Op = 6 ∨ p.Op = 7 := by omega
    rw [if_neg (by omega), if_pos h67] at hp
    have hks : ∀ x ∈ p.Kids, ∃ b, ex st x q = some (ol b q) := fun x hx => nT k x (by have := fp hx; omega) (List.all_eq_true.1 hp x hx) ((nD hf h67).1 x hx) q
    by_cases h6 : p.Op = 6
    · rw [if_pos h6, j7]
      have : ∀ (l : List ah) (b : Bool), (∀ x ∈ l, ∃ b, ex st x q = some (ol b q)) → ∃ b', fo (fU st) (ol b q) l = some (ol b' q) := by
        intro l
        induction l with
        | nil => intro b _; exact ⟨b, rfl⟩
        | cons x l ih =>
          intro b hl
          obtain ⟨b1, hb1⟩ := hl x (by simp)
          simp only [fo]
          have e : fU st (ol b q) x = some (ol (b && b1) q) := by
            unfold fU
            cases b with
            | false => exact nS _ _ _ fun x => Iff.rfl
            | true =>
              simp only [ol, if_true, fo, fT, hb1, Option.map_some, Option.bind_some, List.nil_append]
              exact nS _ _ _ fun x => by simp [ol]
          rw [e]
          exact ih (b && b1) fun y hy => hl y (by simp [hy])
      exact this p.Kids true hks
    · rw [if_neg h6, j6]
      have : ∀ (l : List ah) (b : Bool), (∀ x ∈ l, ∃ b, ex st x q = some (ol b q)) → ∃ b', fo (fS st q) (ol b q) l = some (ol b' q) := by
        intro l
        induction l with
        | nil => intro b _; exact ⟨b, rfl⟩
        | cons x l ih =>
          intro b hl
          obtain ⟨b1, hb1⟩ := hl x (by simp)
          simp only [fo]
          have e : fS st q (ol b q) x = some (ol (b || b1) q) := by
            unfold fS
            rw [hb1, Option.bind_some]
            exact nS _ _ _ fun x => by
              simp only [List.mem_append, lA, Bool.or_eq_true]
              constructor
              · rintro (h | h)
                · exact ⟨h.1, .inl h.2⟩
                · exact ⟨h.1, .inr h.2⟩
              · rintro ⟨h, h' | h'⟩
                · exact .inl ⟨h, h'⟩
                · exact .inr ⟨h, h'⟩
          rw [e]
          exact ih (b || b1) fun y hy => hl y (by simp [hy])
      exact this p.Kids false hks
theorem vm {p : ah} (h : 0 ≤ p.F) : k5 st p = some (bv st p.F == some p.N) := by
  unfold k5
  rw [decide_eq_true h, if_pos rfl]
  by_cases c : p.F < (st.length : Int)
  · rw [decide_eq_true c, if_pos rfl]
    have : bv st p.F = some (st[p.F.toNat]'(by omega)) := by unfold bv; rw [if_pos h]; exact bZ _
    rw [this]
    simp only [Option.bind_some]
    congr 1
  · rw [decide_eq_false c, if_neg (by simp)]
    have : bv st p.F = none := by unfold bv; rw [if_pos h]; exact List.getElem?_eq_none (by omega)
    rw [this]; rfl
theorem vn (q : Pk) {f : Int} (n : Int) (h0 : 0 ≤ f) (h1 : f < 8) : k8 q f n = some (fB q f n) := by
  obtain ⟨e1, _, ⟨v, e2⟩, _⟩ := qQ q n h0 h1
  unfold k8 mW
  rw [show decide (f ≥ 0) = true from decide_eq_true h0, show decide (f < 8) = true from decide_eq_true h1]
  simp [e1, e2]
theorem qZ : ∀ (k : Nat) (p : ah), bW p ≤ k → bX 4 p = true → ∀ q, fz k p st q = some (ex st p q)
  | 0, p, h, _, _ => by have := gC p; omega
  | k + 1, p, h, hf, q => by
    show lf (fz k) p st q = _
    have hd := fm p
    have hop := nF hf
    have hks : (∀ x ∈ p.Kids, bX 4 x = true) → ∀ x ∈ p.Kids, ∀ q, fz k x st q = some (ex st x q) := fun hk x hx q => qZ k x (by have := fp hx; omega) (hk x hx) q
    rw [lB]
    unfold lf
    by_cases h0 : p.Op = 0
    · simp [h0]
    by_cases h1 : p.Op = 1
    · simp [h1, jb, ol]
    by_cases h2 : p.Op = 2
    · obtain ⟨f0, f1⟩ := u7 hf h2
      obtain ⟨_, _, ⟨v, e2⟩, _⟩ := qQ q 0 f0 f1
      simp [h2, e2, jb]
    by_cases h3 : p.Op = 3
    · simp [h3, vm st (va hf h3), jb]
    by_cases h4 : p.Op = 4
    · obtain ⟨y, rfl, hy1, hy2⟩ := nE hf h4
      obtain ⟨b, hb⟩ := nT st (bW y) y (Nat.le_refl _) hy1 hy2 q
      have hy := hks (by simp [hy2]) y (by simp) q
      have hy : fz k y st q = some (some (ol b q)) := by rw [hy, hb]
      simp only [ip, hb, Option.bind_some]
      simp [bv, hy, fN, jb]
      cases b <;> simp [ol]
    by_cases h5 : p.Op = 5
    · obtain ⟨f0, f1⟩ := u9 hf h5
      simp [h5, vn q p.N f0 f1, jb, ol]
    have h67 : p.Op = 6 ∨ p.Op = 7 := by omega
    have hks := hks (nD hf h67).1
    by_cases h6 : p.Op = 6
    · rw [j7]
      have inner : ∀ (x : ah), x ∈ p.Kids → ∀ s : List Pk, gF s → ca (lb st s x (fz k)) (bJ 0 (s.length : Int)) [] = some (nN (fo (fT st x) [] s) (Br.ret none : Br (List Pk) (Option (List Pk)))) ∧ ∀ s', fo (fT st x) [] s = some s' → s'.length ≤ 64 * s.length := fun x hx s hs =>
        nO (lb st s x (fz k)) s (fT st x) (Br.ret none : Br (List Pk) (Option (List Pk))) (fun i a => a.length ≤ 64 * i) [] (by simp) fun i y a hy ha => by
          have hi : i < s.length := (List.getElem?_eq_some_iff.1 hy).1
          have hs64 := hs.1
          simp only [lb, fk, hy, Option.bind_some, hks x hx y]
          unfold fT
          cases he : ex st x y with
          | none => exact ⟨by rfl, fun s' h => by cases h⟩
          | some m =>
            have hm := (nQ st he).1
            have : dq a m = some (a ++ m) := by unfold dq; rw [if_pos (by omega)]
            simp only [fN, this, Option.bind_some, Option.map_some]
            refine ⟨by first | rfl | trivial, fun s' h => ?_⟩
            cases h
            simp only [List.length_append]; omega
      have outer := nO (m0 p st (fz k)) p.Kids (fU st) none (fun _ s => gF s) [q] ⟨by simp, nG q⟩ fun i x s hx hs => by
        have hm := dj hx
        obtain ⟨i1, i2⟩ := inner x hm s hs
        simp only [m0, fk, hx, Option.bind_some, i1]
        unfold fU
        cases he : fo (fT st x) [] s with
        | none => exact ⟨rfl, fun s' h => by cases h⟩
        | some z =>
          have hz := i2 z he
          have hs64 := hs.1
          simp only [Option.bind_some, nN, qV (l := z) (by omega)]
          cases hb : eW z with
          | none => exact ⟨rfl, fun s' h => by cases h⟩
          | some w => exact ⟨rfl, fun s' h => by cases h; exact ⟨(gY hb).2.1, (gY hb).2.2⟩⟩
      have o1 := outer.1
      simp [h6, jb, ol] at o1 ⊢
      rw [o1]
      cases fo (fU st) [q] p.Kids <;> rfl
    · have h7 : p.Op = 7 := by omega
      rw [j6]
      have outer := nO (mZ p st q (fz k)) p.Kids (fS st q) none (fun _ s => gF s) [] ⟨by simp, j5⟩ fun i x s hx hs => by
        have hm := dj hx
        simp only [mZ, fk, hx, Option.bind_some, hks x hm q]
        unfold fS
        cases he : ex st x q with
        | none => exact ⟨rfl, fun s' h => by cases h⟩
        | some m =>
          have hmf := (nQ st he).1
          have hs64 := hs.1
          have : dq s m = some (s ++ m) := by unfold dq; rw [if_pos (by omega)]
          simp only [fN, this, Option.bind_some, qV (l := s ++ m) (by simp; omega)]
          cases hb : eW (s ++ m) with
          | none => exact ⟨rfl, fun s' h => by cases h⟩
          | some w => exact ⟨rfl, fun s' h => by cases h; exact ⟨(gY hb).2.1, (gY hb).2.2⟩⟩
      have o1 := outer.1
      simp [h7] at o1 ⊢
      rw [o1]
      cases fo (fS st q) [] p.Kids <;> rfl
end
end Go.AM
end
section
set_option linter.unusedVariables false
set_option linter.unusedSimpArgs false
namespace Go.AM
open Go
section
variable (st : List Int)
end
end Go.AM
end
section
namespace Go.AM
open Go
theorem vo : m8 = some true := by decide +kernel
end Go.AM
end
section
set_option linter.unusedVariables false
set_option linter.unusedSimpArgs false
namespace Go.AM
open Go
section
variable (st : List Int)
def nU (p : ah) (q : Pk) : List Pk × Int := if gE p then (match ex st p q with | some l => (l, 0) | none => ([], 24)) else ([], 11)
theorem vp {p : ah} (h : bC p ≤ ck) (q : Pk) : gW p st q = some (nU st p q) := by
  unfold gW nU gE
  rw [uW h]
  simp only [Option.bind_some]
  by_cases h1 : bC p ≤ 300 ∧ bW p ≤ 20
  · by_cases h2 : bX 4 p = true
    · have hr : lg p st q = some (ex st p q) := qZ st _ _ (gD h) h2 q
      rw [if_pos h1, h2, hr]
      simp only [if_true]
      rw [if_neg (by decide), decide_eq_true h1]
      cases ex st p q <;> rfl
    · have h2 : bX 4 p = false := by simpa using h2
      rw [if_pos h1, h2]; simp
  · rw [if_neg h1, decide_eq_false h1]; simp
theorem vq (l : List (A8 Int)) : ls l l = some true := by
  unfold ls
  rw [if_neg (by simp)]
  have := lw (nj l l) (fun _ _ _ => (none : Option Bool)) l fun pre x r e => by
    simp only [nj, i9 e, Option.bind_some]
    simp [kR]
  rw [this]
  have e : ∀ (l pre : List (A8 Int)), eV (fun _ _ _ => (none : Option Bool)) pre l = none := by
    intro l
    induction l with
    | nil => intro pre; rfl
    | cons x l ih => intro pre; simp only [eV]; exact ih _
  rw [e]; rfl
end
end Go.AM
end
