import Derived.Test.YtnnkfanmokeiaaaRP6
/-  Several texts in one. -/
section
set_option linter.unusedVariables false
set_option linter.unusedSimpArgs false
namespace Go.AM
open Go
def fo {α σ : Type} (step : σ → α → Option σ) : σ → List α → Option σ
  | s, [] => some s
  | s, x :: l => (step s x).bind fun s => fo step s l
theorem ox {α σ : Type} (step : σ → α → Option σ) : ∀ (l m : List α) (s : σ), fo step s (l ++ m) = (fo step s l).bind fun s => fo step s m
  | [], m, s => rfl
  | x :: l, m, s => by
    simp only [List.cons_append, fo]
    cases step s x with
    | none => rfl
    | some s' => simp only [Option.bind_some]; exact ox step l m s'
def q8 {σ ρ : Type} (o : Option σ) (r : ρ) : Ex σ ρ := match o with | some s' => .done s' | none => .ret r
def zU {σ ρ : Type} (o : Option σ) (r : ρ) : Br σ ρ := match o with | some s' => .next s' | none => .ret r
theorem ra {α σ ρ : Type} (f : Int → σ → Option (Br σ ρ)) (l : List α) (step : σ → α → Option σ) (r : ρ) (Inv : Nat → σ → Prop) (s : σ) (h0 : Inv 0 s)
    (h : ∀ (i : Nat) x s, l[i]? = some x → Inv i s → f (i : Int) s = some (zU (step s x) r) ∧ ∀ s', step s x = some s' → Inv (i + 1) s') :
    bS f (bx 0 (l.length : Int)) s = some (q8 (fo step s l) r) ∧ ∀ s', fo step s l = some s' → Inv l.length s' := by
  have := lV f l (fun d s' => Inv d.length s' ∧ fo step s d = some s') (fun _ => False) (fun r' => r' = r ∧ fo step s l = none) s ⟨h0, rfl⟩ (fun i x s1 hx ⟨h1, h2⟩ => by
    have hlt : i < l.length := (List.getElem?_eq_some_iff.1 hx).1
    have ht : (l.take i).length = i := by simp; omega
    rw [ht] at h1
    obtain ⟨e1, e2⟩ := h i x s1 hx h1
    cases hs : step s1 x with
    | some s2 =>
      rw [hs] at e1
      refine .inl ⟨s2, e1, by simp [ht]; exact e2 s2 hs, ?_⟩
      rw [ox, h2]
      simp only [Option.bind_some, fo, hs]
    | none =>
      rw [hs] at e1
      refine .inr (.inr ⟨r, e1, rfl, ?_⟩)
      have hd : l = l.take i ++ x :: l.drop (i + 1) := qF hx
      rw [hd, ox, h2]
      simp only [Option.bind_some, fo, hs]; rfl)
  rcases this with ⟨s', e, ⟨h1, h2⟩ | h1⟩ | ⟨r', e, rfl, h2⟩
  · rw [h2]; exact ⟨e, fun s2 hs2 => by cases hs2; exact h1⟩
  · exact h1.elim
  · rw [h2]; exact ⟨e, fun s2 hs2 => by cases hs2⟩
def ol (b : Bool) (q : Pk) : List Pk := if b then [q] else []
theorem uV (b : Bool) (q : Pk) : (ol b q).length ≤ 1 := by cases b <;> simp [ol]
theorem uW (b : Bool) (q : Pk) : c8 (ol b q) := by cases b <;> simp [ol, mn, qV]
theorem uX (b : Bool) (q x : Pk) : x ∈ ol b q ↔ x = q ∧ b = true := by cases b <;> simp [ol]
section
variable (st : List Int)
mutual
def ex : aj → Pk → Option (List Pk)
  | ⟨o, f, n, l⟩, q =>
    if o = 0 then some [] else if o = 1 then some [q] else if o = 2 then some (ol (q.get f == some n) q) else if o = 3 then some (ol (bd st f == some n) q)
    else if o = 4 then jl l q else if o = 5 then some [fj q f n] else if o = 6 then iJ l [q] else j4 l q []
def jl : List aj → Pk → Option (List Pk)
  | [], q => some [q]
  | k :: _, q => (ex k q).bind fun m => some (ol (decide (m = [])) q)
def j4 : List aj → Pk → List Pk → Option (List Pk)
  | [], _, s => some s
  | k :: l, q, s => ((ex k q).bind fun m => gT (s ++ m)).bind fun s => j4 l q s
def iJ : List aj → List Pk → Option (List Pk)
  | [], s => some s
  | k :: l, s => ((fo (fun a x => (ex k x).map fun m => a ++ m) [] s).bind gT).bind fun s => iJ l s
end
theorem gU (p : aj) (q : Pk) : ex st p q =
    if p.Op = 0 then some [] else if p.Op = 1 then some [q] else if p.Op = 2 then some (ol (q.get p.F == some p.N) q) else if p.Op = 3 then some (ol (bd st p.F == some p.N) q)
    else if p.Op = 4 then jl st p.Kids q else if p.Op = 5 then some [fj q p.F p.N] else if p.Op = 6 then iJ st p.Kids [q] else j4 st p.Kids q [] := by
  cases p; rw [ex]
def gV (q : Pk) (s : List Pk) (k : aj) : Option (List Pk) := (ex st k q).bind fun m => gT (s ++ m)
def ir (k : aj) (a : List Pk) (x : Pk) : Option (List Pk) := (ex st k x).map fun m => a ++ m
def fR (s : List Pk) (k : aj) : Option (List Pk) := (fo (ir st k) [] s).bind gT
theorem mq (q : Pk) : ∀ (l : List aj) (s : List Pk), j4 st l q s = fo (gV st q) s l
  | [], s => by rw [j4]; rfl
  | k :: l, s => by
    rw [j4]
    simp only [fo, gV]
    congr 1
    funext s
    exact mq q l s
theorem j5 : ∀ (l : List aj) (s : List Pk), iJ st l s = fo (fR st) s l
  | [], s => by rw [iJ]; rfl
  | k :: l, s => by
    rw [iJ]
    simp only [fo, fR, ir]
    congr 1
    funext s
    exact j5 l s
def iK (l : List Pk) : Prop := l.length ≤ 64 ∧ c8 l
theorem rb {α σ : Type} {step : σ → α → Option σ} {I : σ → Prop} (h : ∀ s x s', I s → step s x = some s' → I s') : ∀ (l : List α) (s : σ) {s' : σ}, I s → fo step s l = some s' → I s'
  | [], s, s', hs, e => by cases e; exact hs
  | x :: l, s, s', hs, e => by
    simp only [fo] at e
    obtain ⟨s1, e1, e2⟩ := Option.bind_eq_some_iff.1 e
    exact rb h l s1 (h s x s1 hs e1) e2
theorem uY {p : aj} {q : Pk} {l : List Pk} (h : ex st p q = some l) : iK l := by
  rw [gU] at h
  have one : ∀ x : Pk, iK [x] := fun x => ⟨by simp, qV x⟩
  have olf : ∀ b, iK (ol b q) := fun b => ⟨by have := uV b q; omega, uW b q⟩
  split at h
  · cases h; exact ⟨by simp, mn⟩
  split at h
  · cases h; exact one _
  split at h
  · cases h; exact olf _
  split at h
  · cases h; exact olf _
  split at h
  · cases hk : p.Kids with
    | nil => rw [hk, jl] at h; cases h; exact one _
    | cons k r =>
      rw [hk, jl] at h
      obtain ⟨m, _, h⟩ := Option.bind_eq_some_iff.1 h
      cases h; exact olf _
  split at h
  · cases h; exact one _
  have stp : ∀ m l, gT m = some l → iK l := fun m l hm => ⟨(uU hm).2.1, (uU hm).2.2⟩
  split at h
  · rw [j5] at h
    refine rb (I := iK) (fun s x s' _ e => ?_) _ _ (one q) h
    obtain ⟨m, _, e⟩ := Option.bind_eq_some_iff.1 e
    exact stp _ _ e
  · rw [mq] at h
    refine rb (I := iK) (fun s x s' _ e => ?_) _ _ ⟨by simp, mn⟩ h
    obtain ⟨m, _, e⟩ := Option.bind_eq_some_iff.1 e
    exact stp _ _ e
theorem gW (l : List Pk) (b : Bool) (q : Pk) (h : ∀ x, x ∈ l ↔ x ∈ ol b q) : gT l = some (ol b q) := by
  have e : en l = ol b q := (q7 (uW b q) fun x => (h x).symm).symm
  unfold gT
  rw [e, if_neg (by have := uV b q; omega)]
theorem rc : ∀ (k : Nat) (p : aj), dm p ≤ k → eB p = true → cJ 4 p = true → ∀ q, ∃ b, ex st p q = some (ol b q)
  | 0, p, h, _, _, _ => by have := kW p; omega
  | k + 1, p, h, hp, hf, q => by
    have hd := jh p
    rw [kV] at hp
    have hop := uL hf
    rw [gU]
    have h5 : p.Op ≠ 5 := by intro e; rw [e] at hp; simp at hp
    by_cases h0 : p.Op = 0
    · exact ⟨false, by simp [h0, ol]⟩
    by_cases h1 : p.Op = 1
    · exact ⟨true, by simp [h1, ol]⟩
    by_cases h2 : p.Op = 2
    · exact ⟨_, by rw [if_neg h0, if_neg h1, if_pos h2]⟩
    by_cases h3 : p.Op = 3
    · exact ⟨_, by rw [if_neg h0, if_neg h1, if_neg h2, if_pos h3]⟩
    rw [if_neg h0, if_neg h1, if_neg h2, if_neg h3]
    by_cases h4 : p.Op = 4
    · rw [if_pos h4]
      obtain ⟨y, rfl, hy1, hy2⟩ := uK hf h4
      obtain ⟨b, hb⟩ := rc k y (by simp only [eZ] at hd; omega) hy1 hy2 q
      simp only [jl, hb, Option.bind_some]
      exact ⟨_, rfl⟩
    rw [if_neg h4, if_neg h5]
    have h67 : p.Op = 6 ∨ p.Op = 7 := by omega
    rw [if_neg (by omega), if_pos h67] at hp
    have hks : ∀ x ∈ p.Kids, ∃ b, ex st x q = some (ol b q) := fun x hx => rc k x (by have := ji hx; omega) (List.all_eq_true.1 hp x hx) ((uJ hf h67).1 x hx) q
    by_cases h6 : p.Op = 6
    · rw [if_pos h6, j5]
      have : ∀ (l : List aj) (b : Bool), (∀ x ∈ l, ∃ b, ex st x q = some (ol b q)) → ∃ b', fo (fR st) (ol b q) l = some (ol b' q) := by
        intro l
        induction l with
        | nil => intro b _; exact ⟨b, rfl⟩
        | cons x l ih =>
          intro b hl
          obtain ⟨b1, hb1⟩ := hl x (by simp)
          simp only [fo]
          have e : fR st (ol b q) x = some (ol (b && b1) q) := by
            unfold fR
            cases b with
            | false => exact gW _ _ _ fun x => Iff.rfl
            | true =>
              simp only [ol, if_true, fo, ir, hb1, Option.map_some, Option.bind_some, List.nil_append]
              exact gW _ _ _ fun x => by simp [ol]
          rw [e]
          exact ih (b && b1) fun y hy => hl y (by simp [hy])
      exact this p.Kids true hks
    · rw [if_neg h6, mq]
      have : ∀ (l : List aj) (b : Bool), (∀ x ∈ l, ∃ b, ex st x q = some (ol b q)) → ∃ b', fo (gV st q) (ol b q) l = some (ol b' q) := by
        intro l
        induction l with
        | nil => intro b _; exact ⟨b, rfl⟩
        | cons x l ih =>
          intro b hl
          obtain ⟨b1, hb1⟩ := hl x (by simp)
          simp only [fo]
          have e : gV st q (ol b q) x = some (ol (b || b1) q) := by
            unfold gV
            rw [hb1, Option.bind_some]
            exact gW _ _ _ fun x => by
              simp only [List.mem_append, uX, Bool.or_eq_true]
              constructor
              · rintro (h | h)
                · exact ⟨h.1, .inl h.2⟩
                · exact ⟨h.1, .inr h.2⟩
              · rintro ⟨h, h' | h'⟩
                · exact .inl ⟨h, h'⟩
                · exact .inr ⟨h, h'⟩
          rw [e]
          exact ih (b || b1) fun y hy => hl y (by simp [hy])
      exact this p.Kids false hks
end
end Go.AM
end
section
set_option linter.unusedVariables false
set_option linter.unusedSimpArgs false
namespace Go.AM
open Go
section
variable (st : List Int)
theorem uZ {l m : List Pk} (hs : c8 l) (hl : l.length + m.length ≤ c7) : kS l m = some (en (l ++ m)) := by
  obtain ⟨r, e, h1, _, h3⟩ := zH hs hl
  rw [e]
  congr 1
  exact q7 h1 fun x => by rw [h3]; simp
def j6 (k : aj) (a : List Pk) (x : Pk) : Option (List Pk) := (ex st k x).map fun m => en (a ++ m)
theorem u3 (k : aj) : ∀ (l a : List Pk), fo (j6 st k) (en a) l = (fo (ir st k) a l).map en
  | [], a => rfl
  | x :: l, a => by
    simp only [fo, j6, ir]
    cases ex st k x with
    | none => rfl
    | some m =>
      simp only [Option.map_some, Option.bind_some]
      rw [zS]
      exact u3 k l (a ++ m)
def gH (o : Option (List Pk)) : List Pk × Bool := match o with | some l => (l, true) | none => ([], false)
theorem zV (l : List Pk) : (en l).length ≤ l.length := by
  have key : ∀ (l acc : List Pk), (l.foldl gS acc).length ≤ acc.length + l.length := by
    intro l
    induction l with
    | nil => intro acc; simp
    | cons x l ih =>
      intro acc
      rw [List.foldl_cons]
      have := ih (gS acc x)
      have := zR acc x
      simp only [List.length_cons]; omega
  have := key (mo l) []
  have h2 := (qY l).length_eq
  unfold en ov
  simp only [List.length_nil] at this
  omega
theorem u4 : ∀ (k : Nat) (p : aj), dm p ≤ k → cJ 4 p = true → ∀ q, gP k p st q = some (gH (ex st p q))
  | 0, p, h, _, _ => by have := kW p; omega
  | k + 1, p, h, hf, q => by
    show n6 (gP k) p st q = _
    have hd := jh p
    have hop := uL hf
    have hks : (∀ x ∈ p.Kids, cJ 4 x = true) → ∀ x ∈ p.Kids, ∀ q, gP k x st q = some (gH (ex st x q)) := fun hk x hx q => u4 k x (by have := ji hx; omega) (hk x hx) q
    rw [gU]
    unfold n6
    by_cases h0 : p.Op = 0
    · simp [h0, gH]
    by_cases h1 : p.Op = 1
    · simp [h1, gH]
    by_cases h2 : p.Op = 2
    · obtain ⟨f0, f1⟩ := zI hf h2
      obtain ⟨_, _, ⟨v, e2⟩, _⟩ := uI q 0 f0 f1
      by_cases c : v = p.N <;> simp [h2, e2, gH, ol, c]
    by_cases h3 : p.Op = 3
    · have f0 := zK hf h3
      by_cases c : p.F < (st.length : Int)
      · have hv : bd st p.F = some (st[p.F.toNat]'(by omega)) := by unfold bd; rw [if_pos f0]; exact bO _
        generalize (st[p.F.toNat]'(by omega)) = v at hv
        by_cases c2 : v = p.N <;> simp [h3, hv, c, c2, gH, ol]
      · have hv : bd st p.F = none := by unfold bd; rw [if_pos f0]; exact List.getElem?_eq_none (by omega)
        simp [h3, hv, c, gH, ol]
    by_cases h4 : p.Op = 4
    · obtain ⟨y, rfl, hy1, hy2⟩ := uK hf h4
      obtain ⟨b, hb⟩ := rc st (dm y) y (Nat.le_refl _) hy1 hy2 q
      have hy := hks (by simp [hy2]) y (by simp) q
      have hy : gP k y st q = some (ol b q, true) := by rw [hy, hb]; rfl
      simp only [jl, hb, Option.bind_some]
      cases b <;> simp [bd, hy, gH, ol]
    by_cases h5 : p.Op = 5
    · obtain ⟨f0, f1⟩ := zJ hf h5
      simp [h5, zL q p.N f0 f1, gH]
    have h67 : p.Op = 6 ∨ p.Op = 7 := by omega
    have hks := hks (uJ hf h67).1
    by_cases h6 : p.Op = 6
    · rw [j5]
      have inner : ∀ (j : Nat) (x : aj), p.Kids[j]? = some x → ∀ s : List Pk, iK s → bS (n5 p st s (j : Int) (gP k)) (bx 0 (s.length : Int)) [] = some (q8 (fo (j6 st x) [] s) (Br.ret ([], false) : Br (List Pk) ((List Pk) × Bool))) ∧ ∀ s', fo (j6 st x) [] s = some s' → c8 s' ∧ s'.length ≤ 64 * s.length := fun j x hx s hs =>
        ra (n5 p st s (j : Int) (gP k)) s (j6 st x) (Br.ret ([], false) : Br (List Pk) ((List Pk) × Bool)) (fun i a => c8 a ∧ a.length ≤ 64 * i) [] ⟨mn, by simp⟩ fun i y a hy ha => by
          have hi : i < s.length := (List.getElem?_eq_some_iff.1 hy).1
          have hs64 := hs.1
          have hm := c9 hx
          simp only [n5, bZ, hx, hy, Option.bind_some, hks x hm y]
          unfold j6
          cases he : ex st x y with
          | none => exact ⟨by rfl, fun s' h => by cases h⟩
          | some m =>
            have hml := (uY st he).1
            obtain ⟨ha1, ha2⟩ := ha
            simp only [gH, Bool.not_true, Bool.false_eq_true, if_false, uZ ha1 (m := m) (by unfold c7; omega), Option.bind_some, Option.map_some]
            refine ⟨by first | rfl | trivial, fun s' h => ?_⟩
            cases h
            refine ⟨kY _, ?_⟩
            have := zV (a ++ m)
            simp only [List.length_append] at this; omega
      have outer := ra (qv p st (gP k)) p.Kids (fR st) ([], false) (fun _ s => iK s) [q] ⟨by simp, qV q⟩ fun i x s hx hs => by
        have hm := c9 hx
        obtain ⟨i1, i2⟩ := inner i x hx s hs
        simp only [qv, i1, Option.bind_some]
        unfold fR
        have hr := u3 st x s []
        rw [zT] at hr
        cases he : fo (ir st x) [] s with
        | none =>
          rw [he] at hr
          rw [hr]
          exact ⟨by rfl, fun s' h => by cases h⟩
        | some z =>
          rw [he] at hr
          have hr : fo (j6 st x) [] s = some (en z) := hr
          rw [hr]
          simp only [Option.bind_some, q8]
          unfold gT
          by_cases c : (en z).length > 64
          · rw [decide_eq_true (by omega), if_pos rfl, if_pos c]
            exact ⟨by rfl, fun s' h => by cases h⟩
          · rw [decide_eq_false (by omega), if_neg (by simp), if_neg c]
            exact ⟨by rfl, fun s' h => by cases h; exact ⟨by omega, kY z⟩⟩
      have o1 := outer.1
      simp [h6] at o1 ⊢
      rw [o1]
      cases fo (fR st) [q] p.Kids <;> rfl
    · have h7 : p.Op = 7 := by omega
      rw [mq]
      have outer := ra (qw p st q (gP k)) p.Kids (gV st q) ([], false) (fun _ s => iK s) [] ⟨by simp, mn⟩ fun i x s hx hs => by
        have hm := c9 hx
        simp only [qw, bZ, hx, Option.bind_some, hks x hm q]
        unfold gV
        cases he : ex st x q with
        | none => exact ⟨by rfl, fun s' h => by cases h⟩
        | some m =>
          have hml := (uY st he).1
          have hs64 := hs.1
          simp only [gH, Bool.not_true, Bool.false_eq_true, if_false, uZ hs.2 (m := m) (by unfold c7; omega), Option.bind_some]
          unfold gT
          by_cases c : (en (s ++ m)).length > 64
          · rw [decide_eq_true (by omega), if_pos rfl, if_pos c]
            exact ⟨by rfl, fun s' h => by cases h⟩
          · rw [decide_eq_false (by omega), if_neg (by simp), if_neg c]
            exact ⟨by rfl, fun s' h => by cases h; exact ⟨by omega, kY _⟩⟩
      have o1 := outer.1
      simp [h7] at o1 ⊢
      rw [o1]
      cases fo (gV st q) [] p.Kids <;> rfl
end
end Go.AM
end
section
set_option linter.unusedVariables false
set_option linter.unusedSimpArgs false
namespace Go.AM
open Go
section
variable (st : List Int)
def re (p : aj) (q : Pk) : List Pk × Int := if j3 p then (match ex st p q with | some l => (l, 0) | none => ([], 24)) else ([], 11)
theorem zW {p : aj} (h : cA p ≤ c7) (q : Pk) : fi p st q = some (re st p q) := by
  unfold fi re
  rw [zB h]
  simp only [Option.bind_some]
  cases hp : j3 p
  · rfl
  · have h2 : cJ 4 p = true := by
      unfold j3 at hp; simp only [Bool.and_eq_true] at hp; exact hp.2
    have hr : qx p st q = some (gH (ex st p q)) := u4 st _ _ (j1 h) h2 q
    rw [hr]
    cases ex st p q <;> rfl
theorem zX (l : List (A8 Int)) : n9 l l = some true := by
  unfold n9
  rw [if_neg (by simp)]
  have := qJ (qz l l) (fun _ _ _ => (none : Option Bool)) l fun pre x r e => by
    simp only [qz, qL e, Option.bind_some]
    simp [gD]
  rw [this]
  have e : ∀ (l pre : List (A8 Int)), jk (fun _ _ _ => (none : Option Bool)) pre l = none := by
    intro l
    induction l with
    | nil => intro pre; rfl
    | cons x l ih => intro pre; simp only [jk]; exact ih _
  rw [e]; rfl
end
end Go.AM
end
