import Derived.Test.YtnnkfanmokeiaaaPM6
import Derived.Test.YtnnkfanmokeiaaaPmT
/-  Several texts in one. -/
section
set_option linter.unusedVariables false
set_option linter.unusedSimpArgs false
namespace Go.AM
open Go
def fo {α σ : Type} (step : σ → α → Option σ) : σ → List α → Option σ
  | s, [] => some s
  | s, x :: l => (step s x).bind fun s => fo step s l
theorem nL {α σ : Type} (step : σ → α → Option σ) : ∀ (l m : List α) (s : σ), fo step s (l ++ m) = (fo step s l).bind fun s => fo step s m
  | [], m, s => rfl
  | x :: l, m, s => by
    simp only [List.cons_append, fo]
    cases step s x with
    | none => rfl
    | some s' => simp only [Option.bind_some]; exact nL step l m s'
def jS {σ ρ : Type} (o : Option σ) (r : ρ) : Ex σ ρ := match o with | some s' => .done s' | none => .ret r
def ve {σ ρ : Type} (o : Option σ) (r : ρ) : Br σ ρ := match o with | some s' => .next s' | none => .ret r
theorem iV {α σ ρ : Type} (f : Int → σ → Option (Br σ ρ)) (l : List α) (step : σ → α → Option σ) (r : ρ) (Inv : Nat → σ → Prop) (s : σ) (h0 : Inv 0 s)
    (h : ∀ (i : Nat) x s, l[i]? = some x → Inv i s → f (i : Int) s = some (ve (step s x) r) ∧ ∀ s', step s x = some s' → Inv (i + 1) s') :
    bO f (bA 0 (l.length : Int)) s = some (jS (fo step s l) r) ∧ ∀ s', fo step s l = some s' → Inv l.length s' := by
  have := uj f l (fun d s' => Inv d.length s' ∧ fo step s d = some s') (fun _ => False) (fun r' => r' = r ∧ fo step s l = none) s ⟨h0, rfl⟩ (fun i x s1 hx ⟨h1, h2⟩ => by
    have hlt : i < l.length := (List.getElem?_eq_some_iff.1 hx).1
    have ht : (l.take i).length = i := by simp; omega
    rw [ht] at h1
    obtain ⟨e1, e2⟩ := h i x s1 hx h1
    cases hs : step s1 x with
    | some s2 =>
      rw [hs] at e1
      refine .inl ⟨s2, e1, by simp [ht]; exact e2 s2 hs, ?_⟩
      rw [nL, h2]
      simp only [Option.bind_some, fo, hs]
    | none =>
      rw [hs] at e1
      refine .inr (.inr ⟨r, e1, rfl, ?_⟩)
      have hd : l = l.take i ++ x :: l.drop (i + 1) := nn hx
      rw [hd, nL, h2]
      simp only [Option.bind_some, fo, hs]; rfl)
  rcases this with ⟨s', e, ⟨h1, h2⟩ | h1⟩ | ⟨r', e, rfl, h2⟩
  · rw [h2]; exact ⟨e, fun s2 hs2 => by cases hs2; exact h1⟩
  · exact h1.elim
  · rw [h2]; exact ⟨e, fun s2 hs2 => by cases hs2⟩
def ol (b : Bool) (q : Pk) : List Pk := if b then [q] else []
theorem iW (b : Bool) (q : Pk) : gL b q = some (ol b q) := by cases b <;> rfl
theorem qQ (b : Bool) (q : Pk) : (ol b q).length ≤ 1 := by cases b <;> simp [ol]
theorem qR (b : Bool) (q : Pk) : cf (ol b q) := by cases b <;> simp [ol, iS, lA]
theorem vf (b : Bool) (q x : Pk) : x ∈ ol b q ↔ x = q ∧ b = true := by cases b <;> simp [ol]
section
variable (st : List Int)
mutual
def ex : aj → Pk → Option (List Pk)
  | ⟨o, f, n, l⟩, q =>
    if o = 0 then some [] else if o = 1 then some [q] else if o = 2 then some (ol (q.get f == some n) q) else if o = 3 then some (ol (bn st f == some n) q)
    else if o = 4 then hU l q else if o = 5 then some [fw q f n] else if o = 6 then iX l [q] else iY l q []
def hU : List aj → Pk → Option (List Pk)
  | [], q => some [q]
  | k :: _, q => (ex k q).bind fun m => some (ol (decide (m = [])) q)
def iY : List aj → Pk → List Pk → Option (List Pk)
  | [], _, s => some s
  | k :: l, q, s => ((ex k q).bind fun m => d9 (s ++ m)).bind fun s => iY l q s
def iX : List aj → List Pk → Option (List Pk)
  | [], s => some s
  | k :: l, s => ((fo (fun a x => (ex k x).map fun m => a ++ m) [] s).bind d9).bind fun s => iX l s
end
theorem lB (p : aj) (q : Pk) : ex st p q =
    if p.Op = 0 then some [] else if p.Op = 1 then some [q] else if p.Op = 2 then some (ol (q.get p.F == some p.N) q) else if p.Op = 3 then some (ol (bn st p.F == some p.N) q)
    else if p.Op = 4 then hU st p.Kids q else if p.Op = 5 then some [fw q p.F p.N] else if p.Op = 6 then iX st p.Kids [q] else iY st p.Kids q [] := by
  cases p; rw [ex]
def fx (q : Pk) (s : List Pk) (k : aj) : Option (List Pk) := (ex st k q).bind fun m => d9 (s ++ m)
def fy (k : aj) (a : List Pk) (x : Pk) : Option (List Pk) := (ex st k x).map fun m => a ++ m
def fz (s : List Pk) (k : aj) : Option (List Pk) := (fo (fy st k) [] s).bind d9
theorem jT (q : Pk) : ∀ (l : List aj) (s : List Pk), iY st l q s = fo (fx st q) s l
  | [], s => by rw [iY]; rfl
  | k :: l, s => by
    rw [iY]
    simp only [fo, fx]
    congr 1
    funext s
    exact jT q l s
theorem jU : ∀ (l : List aj) (s : List Pk), iX st l s = fo (fz st) s l
  | [], s => by rw [iX]; rfl
  | k :: l, s => by
    rw [iX]
    simp only [fo, fz, fy]
    congr 1
    funext s
    exact jU l s
def fd (l : List Pk) : Prop := l.length ≤ 64 ∧ cf l
theorem nM {α σ : Type} {step : σ → α → Option σ} {I : σ → Prop} (h : ∀ s x s', I s → step s x = some s' → I s') : ∀ (l : List α) (s : σ) {s' : σ}, I s → fo step s l = some s' → I s'
  | [], s, s', hs, e => by cases e; exact hs
  | x :: l, s, s', hs, e => by
    simp only [fo] at e
    obtain ⟨s1, e1, e2⟩ := Option.bind_eq_some_iff.1 e
    exact nM h l s1 (h s x s1 hs e1) e2
theorem lC {p : aj} {q : Pk} {l : List Pk} (h : ex st p q = some l) : fd l := by
  rw [lB] at h
  have one : ∀ x : Pk, fd [x] := fun x => ⟨by simp, lA x⟩
  have olf : ∀ b, fd (ol b q) := fun b => ⟨by have := qQ b q; omega, qR b q⟩
  split at h
  · cases h; exact ⟨by simp, iS⟩
  split at h
  · cases h; exact one _
  split at h
  · cases h; exact olf _
  split at h
  · cases h; exact olf _
  split at h
  · cases hk : p.Kids with
    | nil => rw [hk, hU] at h; cases h; exact one _
    | cons k r =>
      rw [hk, hU] at h
      obtain ⟨m, _, h⟩ := Option.bind_eq_some_iff.1 h
      cases h; exact olf _
  split at h
  · cases h; exact one _
  have stp : ∀ m l, d9 m = some l → fd l := fun m l hm => ⟨(iU hm).2.1, (iU hm).2.2⟩
  split at h
  · rw [jU] at h
    refine nM (I := fd) (fun s x s' _ e => ?_) _ _ (one q) h
    obtain ⟨m, _, e⟩ := Option.bind_eq_some_iff.1 e
    exact stp _ _ e
  · rw [jT] at h
    refine nM (I := fd) (fun s x s' _ e => ?_) _ _ ⟨by simp, iS⟩ h
    obtain ⟨m, _, e⟩ := Option.bind_eq_some_iff.1 e
    exact stp _ _ e
theorem nN (l : List Pk) (b : Bool) (q : Pk) (h : ∀ x, x ∈ l ↔ x ∈ ol b q) : d9 l = some (ol b q) := by
  have e : cR l = ol b q := (nH (qR b q) fun x => (h x).symm).symm
  unfold d9
  rw [e, if_neg (by have := qQ b q; omega)]
theorem lD : ∀ (k : Nat) (p : aj), b4 p ≤ k → dj p = true → bS 4 p = true → ∀ q, ∃ b, ex st p q = some (ol b q)
  | 0, p, h, _, _, _ => by have := gq p; omega
  | k + 1, p, h, hp, hf, q => by
    have hd := fu p
    rw [nj] at hp
    have hop := nF hf
    rw [lB]
    have h5 : p.Op ≠ 5 := by intro e; rw [e] at hp; simp at hp
    by_cases h0 : p.Op = 0
    · exact ⟨false, by simp [h0, ol]⟩
    by_cases h1 : p.Op = 1
    · exact ⟨true, by simp [h1, ol]⟩
    by_cases h2 : p.Op = 2
    · exact ⟨_, by rw [if_neg h0, if_neg h1, if_pos h2]⟩
    by_cases h3 : p.Op = 3
    · exact ⟨_, by rw [if_neg h0, if_neg h1, if_neg h2, if_pos h3]⟩
    rw [if_neg h0, if_neg h1, if_neg h2, if_neg h3]
    by_cases h4 : p.Op = 4
    · rw [if_pos h4]
      obtain ⟨y, rfl, hy1, hy2⟩ := nE hf h4
      obtain ⟨b, hb⟩ := lD k y (by simp only [dz] at hd; omega) hy1 hy2 q
      simp only [hU, hb, Option.bind_some]
      exact ⟨_, rfl⟩
    rw [if_neg h4, if_neg h5]
    have h67 : p.Op = 6 ∨ p.Op = 7 := by omega
    rw [if_neg (by omega), if_pos h67] at hp
    have hks : ∀ x ∈ p.Kids, ∃ b, ex st x q = some (ol b q) := fun x hx => lD k x (by have := e9 hx; omega) (List.all_eq_true.1 hp x hx) ((nD hf h67).1 x hx) q
    by_cases h6 : p.Op = 6
    · rw [if_pos h6, jU]
      have : ∀ (l : List aj) (b : Bool), (∀ x ∈ l, ∃ b, ex st x q = some (ol b q)) → ∃ b', fo (fz st) (ol b q) l = some (ol b' q) := by
        intro l
        induction l with
        | nil => intro b _; exact ⟨b, rfl⟩
        | cons x l ih =>
          intro b hl
          obtain ⟨b1, hb1⟩ := hl x (by simp)
          simp only [fo]
          have e : fz st (ol b q) x = some (ol (b && b1) q) := by
            unfold fz
            cases b with
            | false => exact nN _ _ _ fun x => Iff.rfl
            | true =>
              simp only [ol, if_true, fo, fy, hb1, Option.map_some, Option.bind_some, List.nil_append]
              exact nN _ _ _ fun x => by simp [ol]
          rw [e]
          exact ih (b && b1) fun y hy => hl y (by simp [hy])
      exact this p.Kids true hks
    · rw [if_neg h6, jT]
      have : ∀ (l : List aj) (b : Bool), (∀ x ∈ l, ∃ b, ex st x q = some (ol b q)) → ∃ b', fo (fx st q) (ol b q) l = some (ol b' q) := by
        intro l
        induction l with
        | nil => intro b _; exact ⟨b, rfl⟩
        | cons x l ih =>
          intro b hl
          obtain ⟨b1, hb1⟩ := hl x (by simp)
          simp only [fo]
          have e : fx st q (ol b q) x = some (ol (b || b1) q) := by
            unfold fx
            rw [hb1, Option.bind_some]
            exact nN _ _ _ fun x => by
              simp only [List.mem_append, vf, Bool.or_eq_true]
              constructor
              · rintro (h | h)
                · exact ⟨h.1, .inl h.2⟩
                · exact ⟨h.1, .inr h.2⟩
              · rintro ⟨h, h' | h'⟩
                · exact .inl ⟨h, h'⟩
                · exact .inr ⟨h, h'⟩
          rw [e]
          exact ih (b || b1) fun y hy => hl y (by simp [hy])
      exact this p.Kids false hks
theorem vg {p : aj} (h : 0 ≤ p.F) : kO st p = some (bn st p.F == some p.N) := by
  unfold kO
  rw [decide_eq_true h, if_pos rfl]
  by_cases c : p.F < (st.length : Int)
  · rw [decide_eq_true c, if_pos rfl]
    have : bn st p.F = some (st[p.F.toNat]'(by omega)) := by unfold bn; rw [if_pos h]; exact bT _
    rw [this]
    simp only [Option.bind_some]
    congr 1
  · rw [decide_eq_false c, if_neg (by simp)]
    have : bn st p.F = none := by unfold bn; rw [if_pos h]; exact List.getElem?_eq_none (by omega)
    rw [this]; rfl
theorem vk (q : Pk) {f : Int} (n : Int) (h0 : 0 ≤ f) (h1 : f < 8) : kP q f n = some (fw q f n) := by
  obtain ⟨e1, _, ⟨v, e2⟩, _⟩ := lz q n h0 h1
  unfold kP mQ
  rw [show decide (f ≥ 0) = true from decide_eq_true h0, show decide (f < 8) = true from decide_eq_true h1]
  simp [e1, e2]
theorem qS : ∀ (k : Nat) (p : aj), b4 p ≤ k → bS 4 p = true → ∀ q, fq k p st q = some (ex st p q)
  | 0, p, h, _, _ => by have := gq p; omega
  | k + 1, p, h, hf, q => by
    show kT (fq k) p st q = _
    have hd := fu p
    have hop := nF hf
    have hks : (∀ x ∈ p.Kids, bS 4 x = true) → ∀ x ∈ p.Kids, ∀ q, fq k x st q = some (ex st x q) := fun hk x hx q => qS k x (by have := e9 hx; omega) (hk x hx) q
    rw [lB]
    unfold kT
    by_cases h0 : p.Op = 0
    · simp [h0]
    by_cases h1 : p.Op = 1
    · simp [h1, iW, ol]
    by_cases h2 : p.Op = 2
    · obtain ⟨f0, f1⟩ := qI hf h2
      obtain ⟨_, _, ⟨v, e2⟩, _⟩ := lz q 0 f0 f1
      simp [h2, e2, iW]
    by_cases h3 : p.Op = 3
    · simp [h3, vg st (qK hf h3), iW]
    by_cases h4 : p.Op = 4
    · obtain ⟨y, rfl, hy1, hy2⟩ := nE hf h4
      obtain ⟨b, hb⟩ := lD st (b4 y) y (Nat.le_refl _) hy1 hy2 q
      have hy := hks (by simp [hy2]) y (by simp) q
      have hy : fq k y st q = some (some (ol b q)) := by rw [hy, hb]
      simp only [hU, hb, Option.bind_some]
      simp [bn, hy, fP, iW]
      cases b <;> simp [ol]
    by_cases h5 : p.Op = 5
    · obtain ⟨f0, f1⟩ := qJ hf h5
      simp [h5, vk q p.N f0 f1, iW, ol]
    have h67 : p.Op = 6 ∨ p.Op = 7 := by omega
    have hks := hks (nD hf h67).1
    by_cases h6 : p.Op = 6
    · rw [jU]
      have inner : ∀ (x : aj), x ∈ p.Kids → ∀ s : List Pk, fd s → bO (kS st s x (fq k)) (bA 0 (s.length : Int)) [] = some (jS (fo (fy st x) [] s) (Br.ret none : Br (List Pk) (Option (List Pk)))) ∧ ∀ s', fo (fy st x) [] s = some s' → s'.length ≤ 64 * s.length := fun x hx s hs =>
        iV (kS st s x (fq k)) s (fy st x) (Br.ret none : Br (List Pk) (Option (List Pk))) (fun i a => a.length ≤ 64 * i) [] (by simp) fun i y a hy ha => by
          have hi : i < s.length := (List.getElem?_eq_some_iff.1 hy).1
          have hs64 := hs.1
          simp only [kS, dP, hy, Option.bind_some, hks x hx y]
          unfold fy
          cases he : ex st x y with
          | none => exact ⟨by rfl, fun s' h => by cases h⟩
          | some m =>
            have hm := (lC st he).1
            have : cV a m = some (a ++ m) := by unfold cV; rw [if_pos (by omega)]
            simp only [fP, this, Option.bind_some, Option.map_some]
            refine ⟨by first | rfl | trivial, fun s' h => ?_⟩
            cases h
            simp only [List.length_append]; omega
      have outer := iV (mU p st (fq k)) p.Kids (fz st) none (fun _ s => fd s) [q] ⟨by simp, lA q⟩ fun i x s hx hs => by
        have hm := c8 hx
        obtain ⟨i1, i2⟩ := inner x hm s hs
        simp only [mU, dP, hx, Option.bind_some, i1]
        unfold fz
        cases he : fo (fy st x) [] s with
        | none => exact ⟨rfl, fun s' h => by cases h⟩
        | some z =>
          have hz := i2 z he
          have hs64 := hs.1
          simp only [Option.bind_some, jS, qP (l := z) (by omega)]
          cases hb : d9 z with
          | none => exact ⟨rfl, fun s' h => by cases h⟩
          | some w => exact ⟨rfl, fun s' h => by cases h; exact ⟨(iU hb).2.1, (iU hb).2.2⟩⟩
      have o1 := outer.1
      simp [h6, iW, ol] at o1 ⊢
      rw [o1]
      cases fo (fz st) [q] p.Kids <;> rfl
    · have h7 : p.Op = 7 := by omega
      rw [jT]
      have outer := iV (mT p st q (fq k)) p.Kids (fx st q) none (fun _ s => fd s) [] ⟨by simp, iS⟩ fun i x s hx hs => by
        have hm := c8 hx
        simp only [mT, dP, hx, Option.bind_some, hks x hm q]
        unfold fx
        cases he : ex st x q with
        | none => exact ⟨rfl, fun s' h => by cases h⟩
        | some m =>
          have hmf := (lC st he).1
          have hs64 := hs.1
          have : cV s m = some (s ++ m) := by unfold cV; rw [if_pos (by omega)]
          simp only [fP, this, Option.bind_some, qP (l := s ++ m) (by simp; omega)]
          cases hb : d9 (s ++ m) with
          | none => exact ⟨rfl, fun s' h => by cases h⟩
          | some w => exact ⟨rfl, fun s' h => by cases h; exact ⟨(iU hb).2.1, (iU hb).2.2⟩⟩
      have o1 := outer.1
      simp [h7] at o1 ⊢
      rw [o1]
      cases fo (fx st q) [] p.Kids <;> rfl
end
end Go.AM
end
section
set_option linter.unusedVariables false
set_option linter.unusedSimpArgs false
namespace Go.AM
open Go
section
variable (st : List Int)
theorem qT {l m : List Pk} (hs : cf l) (hl : l.length + m.length ≤ b9) : iM l m = some (cR (l ++ m)) := by
  obtain ⟨r, e, h1, _, h3⟩ := u0 hs hl
  rw [e]
  congr 1
  exact nH h1 fun x => by rw [h3]; simp
def hX (k : aj) (a : List Pk) (x : Pk) : Option (List Pk) := (ex st k x).map fun m => cR (a ++ m)
theorem qU (k : aj) : ∀ (l a : List Pk), fo (hX st k) (cR a) l = (fo (fy st k) a l).map cR
  | [], a => rfl
  | x :: l, a => by
    simp only [fo, hX, fy]
    cases ex st k x with
    | none => rfl
    | some m =>
      simp only [Option.map_some, Option.bind_some]
      rw [u7]
      exact qU k l (a ++ m)
def fe (o : Option (List Pk)) : List Pk × Bool := match o with | some l => (l, true) | none => ([], false)
theorem vl (l : List Pk) : (cR l).length ≤ l.length := by
  have key : ∀ (l acc : List Pk), (l.foldl dA acc).length ≤ acc.length + l.length := by
    intro l
    induction l with
    | nil => intro acc; simp
    | cons x l ih =>
      intro acc
      rw [List.foldl_cons]
      have := ih (dA acc x)
      have := u6 acc x
      simp only [List.length_cons]; omega
  have := key (cZ l) []
  have h2 := (gH l).length_eq
  unfold cR fc
  simp only [List.length_nil] at this
  omega
theorem qV : ∀ (k : Nat) (p : aj), b4 p ≤ k → bS 4 p = true → ∀ q, ft k p st q = some (fe (ex st p q))
  | 0, p, h, _, _ => by have := gq p; omega
  | k + 1, p, h, hf, q => by
    show lk (ft k) p st q = _
    have hd := fu p
    have hop := nF hf
    have hks : (∀ x ∈ p.Kids, bS 4 x = true) → ∀ x ∈ p.Kids, ∀ q, ft k x st q = some (fe (ex st x q)) := fun hk x hx q => qV k x (by have := e9 hx; omega) (hk x hx) q
    rw [lB]
    unfold lk
    by_cases h0 : p.Op = 0
    · simp [h0, fe]
    by_cases h1 : p.Op = 1
    · simp [h1, fe]
    by_cases h2 : p.Op = 2
    · obtain ⟨f0, f1⟩ := qI hf h2
      obtain ⟨_, _, ⟨v, e2⟩, _⟩ := lz q 0 f0 f1
      by_cases c : v = p.N <;> simp [h2, e2, fe, ol, c]
    by_cases h3 : p.Op = 3
    · have f0 := qK hf h3
      by_cases c : p.F < (st.length : Int)
      · have hv : bn st p.F = some (st[p.F.toNat]'(by omega)) := by unfold bn; rw [if_pos f0]; exact bT _
        generalize (st[p.F.toNat]'(by omega)) = v at hv
        by_cases c2 : v = p.N <;> simp [h3, hv, c, c2, fe, ol]
      · have hv : bn st p.F = none := by unfold bn; rw [if_pos f0]; exact List.getElem?_eq_none (by omega)
        simp [h3, hv, c, fe, ol]
    by_cases h4 : p.Op = 4
    · obtain ⟨y, rfl, hy1, hy2⟩ := nE hf h4
      obtain ⟨b, hb⟩ := lD st (b4 y) y (Nat.le_refl _) hy1 hy2 q
      have hy := hks (by simp [hy2]) y (by simp) q
      have hy : ft k y st q = some (ol b q, true) := by rw [hy, hb]; rfl
      simp only [hU, hb, Option.bind_some]
      cases b <;> simp [bn, hy, fe, ol]
    by_cases h5 : p.Op = 5
    · obtain ⟨f0, f1⟩ := qJ hf h5
      simp [h5, u3 q p.N f0 f1, fe]
    have h67 : p.Op = 6 ∨ p.Op = 7 := by omega
    have hks := hks (nD hf h67).1
    by_cases h6 : p.Op = 6
    · rw [jU]
      have inner : ∀ (j : Nat) (x : aj), p.Kids[j]? = some x → ∀ s : List Pk, fd s → bO (lj p st s (j : Int) (ft k)) (bA 0 (s.length : Int)) [] = some (jS (fo (hX st x) [] s) (Br.ret ([], false) : Br (List Pk) ((List Pk) × Bool))) ∧ ∀ s', fo (hX st x) [] s = some s' → cf s' ∧ s'.length ≤ 64 * s.length := fun j x hx s hs =>
        iV (lj p st s (j : Int) (ft k)) s (hX st x) (Br.ret ([], false) : Br (List Pk) ((List Pk) × Bool)) (fun i a => cf a ∧ a.length ≤ 64 * i) [] ⟨iS, by simp⟩ fun i y a hy ha => by
          have hi : i < s.length := (List.getElem?_eq_some_iff.1 hy).1
          have hs64 := hs.1
          have hm := c8 hx
          simp only [lj, dP, hx, hy, Option.bind_some, hks x hm y]
          unfold hX
          cases he : ex st x y with
          | none => exact ⟨by rfl, fun s' h => by cases h⟩
          | some m =>
            have hml := (lC st he).1
            obtain ⟨ha1, ha2⟩ := ha
            simp only [fe, Bool.not_true, Bool.false_eq_true, if_false, qT ha1 (m := m) (by unfold b9; omega), Option.bind_some, Option.map_some]
            refine ⟨by first | rfl | trivial, fun s' h => ?_⟩
            cases h
            refine ⟨iT _, ?_⟩
            have := vl (a ++ m)
            simp only [List.length_append] at this; omega
      have outer := iV (nc p st (ft k)) p.Kids (fz st) ([], false) (fun _ s => fd s) [q] ⟨by simp, lA q⟩ fun i x s hx hs => by
        have hm := c8 hx
        obtain ⟨i1, i2⟩ := inner i x hx s hs
        simp only [nc, i1, Option.bind_some]
        unfold fz
        have hr := qU st x s []
        rw [u9] at hr
        cases he : fo (fy st x) [] s with
        | none =>
          rw [he] at hr
          rw [hr]
          exact ⟨by rfl, fun s' h => by cases h⟩
        | some z =>
          rw [he] at hr
          have hr : fo (hX st x) [] s = some (cR z) := hr
          rw [hr]
          simp only [Option.bind_some, jS]
          unfold d9
          by_cases c : (cR z).length > 64
          · rw [decide_eq_true (by omega), if_pos rfl, if_pos c]
            exact ⟨by rfl, fun s' h => by cases h⟩
          · rw [decide_eq_false (by omega), if_neg (by simp), if_neg c]
            exact ⟨by rfl, fun s' h => by cases h; exact ⟨by omega, iT z⟩⟩
      have o1 := outer.1
      simp [h6] at o1 ⊢
      rw [o1]
      cases fo (fz st) [q] p.Kids <;> rfl
    · have h7 : p.Op = 7 := by omega
      rw [jT]
      have outer := iV (nd p st q (ft k)) p.Kids (fx st q) ([], false) (fun _ s => fd s) [] ⟨by simp, iS⟩ fun i x s hx hs => by
        have hm := c8 hx
        simp only [nd, dP, hx, Option.bind_some, hks x hm q]
        unfold fx
        cases he : ex st x q with
        | none => exact ⟨by rfl, fun s' h => by cases h⟩
        | some m =>
          have hml := (lC st he).1
          have hs64 := hs.1
          simp only [fe, Bool.not_true, Bool.false_eq_true, if_false, qT hs.2 (m := m) (by unfold b9; omega), Option.bind_some]
          unfold d9
          by_cases c : (cR (s ++ m)).length > 64
          · rw [decide_eq_true (by omega), if_pos rfl, if_pos c]
            exact ⟨by rfl, fun s' h => by cases h⟩
          · rw [decide_eq_false (by omega), if_neg (by simp), if_neg c]
            exact ⟨by rfl, fun s' h => by cases h; exact ⟨by omega, iT _⟩⟩
      have o1 := outer.1
      simp [h7] at o1 ⊢
      rw [o1]
      cases fo (fx st q) [] p.Kids <;> rfl
end
end Go.AM
end
section
namespace Go.AM
open Go
theorem vm : mV = some true := by decide +kernel
end Go.AM
end
section
set_option linter.unusedVariables false
set_option linter.unusedSimpArgs false
namespace Go.AM
open Go
section
variable (st : List Int)
def jV (p : aj) (q : Pk) : List Pk × Int := if iR p then (match ex st p q with | some l => (l, 0) | none => ([], 24)) else ([], 11)
theorem vn {p : aj} (h : bK p ≤ b9) (q : Pk) : gM p st q = some (jV st p q) := by
  unfold gM jV iR
  rw [uQ h]
  simp only [Option.bind_some]
  by_cases h1 : bK p ≤ 300 ∧ b4 p ≤ 20
  · by_cases h2 : bS 4 p = true
    · have hr : kU p st q = some (ex st p q) := qS st _ _ (fQ h) h2 q
      rw [if_pos h1, h2, hr]
      simp only [if_true]
      rw [if_neg (by decide), decide_eq_true h1]
      cases ex st p q <;> rfl
    · have h2 : bS 4 p = false := by simpa using h2
      rw [if_pos h1, h2]; simp
  · rw [if_neg h1, decide_eq_false h1]; simp
theorem vo {p : aj} (h : bK p ≤ b9) (q : Pk) : lm p st q = some (jV st p q) := by
  unfold lm jV
  rw [uT h]
  simp only [Option.bind_some]
  cases hp : iR p
  · rfl
  · have h2 : bS 4 p = true := by
      unfold iR at hp; simp only [Bool.and_eq_true] at hp; exact hp.2
    have hr : nf p st q = some (fe (ex st p q)) := qV st _ _ (fQ h) h2 q
    rw [hr]
    cases ex st p q <;> rfl
theorem vp (l : List (A8 Int)) : lr l l = some true := by
  unfold lr
  rw [if_neg (by simp)]
  have := lu (nh l l) (fun _ _ _ => (none : Option Bool)) l fun pre x r e => by
    simp only [nh, iP e, Option.bind_some]
    simp [fO]
  rw [this]
  have e : ∀ (l pre : List (A8 Int)), eR (fun _ _ _ => (none : Option Bool)) pre l = none := by
    intro l
    induction l with
    | nil => intro pre; rfl
    | cons x l ih => intro pre; simp only [eR]; exact ih _
  rw [e]; rfl
end
theorem law_PolicyMakes {l : List law05_Step} (h : StepOk l) (st : List Int) (q : Pk) : law07_PolicyMakes l st q = some true := by
  obtain ⟨p, ok, e, hs⟩ := uU h
  have hb : bK p ≤ b9 := by unfold b9; omega
  unfold law07_PolicyMakes
  simp only [vm, Option.bind_some, e, Bool.not_true, Bool.false_eq_true, if_false, vn st hb q, vo st hb q, kV]
  by_cases c : ((!ok) || decide ((st.length : Int) > 6)) = true
  · rw [if_pos c]
  · rw [if_neg c]
    simp only [beq_self_eq_true, if_true, vp, Option.bind_some]
    cases (jV st p q).2 == 0 <;> simp
end Go.AM
end
