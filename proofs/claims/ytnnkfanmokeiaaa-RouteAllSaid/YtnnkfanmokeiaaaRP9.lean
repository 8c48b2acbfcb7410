import Derived.Test.YtnnkfanmokeiaaaRP6
/-  Several texts in one. -/
section
set_option linter.unusedVariables false
set_option linter.unusedSimpArgs false
namespace Go.AM
open Go
def fo {α σ : Type} (step : σ → α → Option σ) : σ → List α → Option σ
  | s, [] => some s
  | s, x :: l => (step s x).bind fun s => fo step s l
theorem oT {α σ : Type} (step : σ → α → Option σ) : ∀ (l m : List α) (s : σ), fo step s (l ++ m) = (fo step s l).bind fun s => fo step s m
  | [], m, s => rfl
  | x :: l, m, s => by
    simp only [List.cons_append, fo]
    cases step s x with
    | none => rfl
    | some s' => simp only [Option.bind_some]; exact oT step l m s'
def ry {σ ρ : Type} (o : Option σ) (r : ρ) : Ex σ ρ := match o with | some s' => .done s' | none => .ret r
def AC {σ ρ : Type} (o : Option σ) (r : ρ) : Br σ ρ := match o with | some s' => .next s' | none => .ret r
theorem rz {α σ ρ : Type} (f : Int → σ → Option (Br σ ρ)) (l : List α) (step : σ → α → Option σ) (r : ρ) (Inv : Nat → σ → Prop) (s : σ) (h0 : Inv 0 s)
    (h : ∀ (i : Nat) x s, l[i]? = some x → Inv i s → f (i : Int) s = some (AC (step s x) r) ∧ ∀ s', step s x = some s' → Inv (i + 1) s') :
    b6 f (bA 0 (l.length : Int)) s = some (ry (fo step s l) r) ∧ ∀ s', fo step s l = some s' → Inv l.length s' := by
  have := n7 f l (fun d s' => Inv d.length s' ∧ fo step s d = some s') (fun _ => False) (fun r' => r' = r ∧ fo step s l = none) s ⟨h0, rfl⟩ (fun i x s1 hx ⟨h1, h2⟩ => by
    have hlt : i < l.length := (List.getElem?_eq_some_iff.1 hx).1
    have ht : (l.take i).length = i := by simp; omega
    rw [ht] at h1
    obtain ⟨e1, e2⟩ := h i x s1 hx h1
    cases hs : step s1 x with
    | some s2 =>
      rw [hs] at e1
      refine .inl ⟨s2, e1, by simp [ht]; exact e2 s2 hs, ?_⟩
      rw [oT, h2]
      simp only [Option.bind_some, fo, hs]
    | none =>
      rw [hs] at e1
      refine .inr (.inr ⟨r, e1, rfl, ?_⟩)
      have hd : l = l.take i ++ x :: l.drop (i + 1) := q6 hx
      rw [hd, oT, h2]
      simp only [Option.bind_some, fo, hs]; rfl)
  rcases this with ⟨s', e, ⟨h1, h2⟩ | h1⟩ | ⟨r', e, rfl, h2⟩
  · rw [h2]; exact ⟨e, fun s2 hs2 => by cases hs2; exact h1⟩
  · exact h1.elim
  · rw [h2]; exact ⟨e, fun s2 hs2 => by cases hs2⟩
def ol (b : Bool) (q : Pk) : List Pk := if b then [q] else []
theorem vr (b : Bool) (q : Pk) : (ol b q).length ≤ 1 := by cases b <;> simp [ol]
theorem vt (b : Bool) (q : Pk) : dg (ol b q) := by cases b <;> simp [ol, mR, rp]
theorem vv (b : Bool) (q x : Pk) : x ∈ ol b q ↔ x = q ∧ b = true := by cases b <;> simp [ol]
section
variable (st : List Int)
mutual
def ex : al → Pk → Option (List Pk)
  | ⟨o, f, n, l⟩, q =>
    if o = 0 then some [] else if o = 1 then some [q] else if o = 2 then some (ol (q.get f == some n) q) else if o = 3 then some (ol (be st f == some n) q)
    else if o = 4 then jC l q else if o = 5 then some [fN q f n] else if o = 6 then iV l [q] else kr l q []
def jC : List al → Pk → Option (List Pk)
  | [], q => some [q]
  | k :: _, q => (ex k q).bind fun m => some (ol (decide (m = [])) q)
def kr : List al → Pk → List Pk → Option (List Pk)
  | [], _, s => some s
  | k :: l, q, s => ((ex k q).bind fun m => hO (s ++ m)).bind fun s => kr l q s
def iV : List al → List Pk → Option (List Pk)
  | [], s => some s
  | k :: l, s => ((fo (fun a x => (ex k x).map fun m => a ++ m) [] s).bind hO).bind fun s => iV l s
end
theorem hU (p : al) (q : Pk) : ex st p q =
    if p.Op = 0 then some [] else if p.Op = 1 then some [q] else if p.Op = 2 then some (ol (q.get p.F == some p.N) q) else if p.Op = 3 then some (ol (be st p.F == some p.N) q)
    else if p.Op = 4 then jC st p.Kids q else if p.Op = 5 then some [fN q p.F p.N] else if p.Op = 6 then iV st p.Kids [q] else kr st p.Kids q [] := by
  cases p; rw [ex]
def hX (q : Pk) (s : List Pk) (k : al) : Option (List Pk) := (ex st k q).bind fun m => hO (s ++ m)
def iF (k : al) (a : List Pk) (x : Pk) : Option (List Pk) := (ex st k x).map fun m => a ++ m
def f6 (s : List Pk) (k : al) : Option (List Pk) := (fo (iF st k) [] s).bind hO
theorem mT (q : Pk) : ∀ (l : List al) (s : List Pk), kr st l q s = fo (hX st q) s l
  | [], s => by rw [kr]; rfl
  | k :: l, s => by
    rw [kr]
    simp only [fo, hX]
    congr 1
    funext s
    exact mT q l s
theorem ku : ∀ (l : List al) (s : List Pk), iV st l s = fo (f6 st) s l
  | [], s => by rw [iV]; rfl
  | k :: l, s => by
    rw [iV]
    simp only [fo, f6, iF]
    congr 1
    funext s
    exact ku l s
def iW (l : List Pk) : Prop := l.length ≤ 64 ∧ dg l
theorem rA {α σ : Type} {step : σ → α → Option σ} {I : σ → Prop} (h : ∀ s x s', I s → step s x = some s' → I s') : ∀ (l : List α) (s : σ) {s' : σ}, I s → fo step s l = some s' → I s'
  | [], s, s', hs, e => by cases e; exact hs
  | x :: l, s, s', hs, e => by
    simp only [fo] at e
    obtain ⟨s1, e1, e2⟩ := Option.bind_eq_some_iff.1 e
    exact rA h l s1 (h s x s1 hs e1) e2
theorem vy {p : al} {q : Pk} {l : List Pk} (h : ex st p q = some l) : iW l := by
  rw [hU] at h
  have one : ∀ x : Pk, iW [x] := fun x => ⟨by simp, rp x⟩
  have olf : ∀ b, iW (ol b q) := fun b => ⟨by have := vr b q; omega, vt b q⟩
  split at h
  · cases h; exact ⟨by simp, mR⟩
  split at h
  · cases h; exact one _
  split at h
  · cases h; exact olf _
  split at h
  · cases h; exact olf _
  split at h
  · cases hk : p.Kids with
    | nil => rw [hk, jC] at h; cases h; exact one _
    | cons k r =>
      rw [hk, jC] at h
      obtain ⟨m, _, h⟩ := Option.bind_eq_some_iff.1 h
      cases h; exact olf _
  split at h
  · cases h; exact one _
  have stp : ∀ m l, hO m = some l → iW l := fun m l hm => ⟨(vq hm).2.1, (vq hm).2.2⟩
  split at h
  · rw [ku] at h
    refine rA (I := iW) (fun s x s' _ e => ?_) _ _ (one q) h
    obtain ⟨m, _, e⟩ := Option.bind_eq_some_iff.1 e
    exact stp _ _ e
  · rw [mT] at h
    refine rA (I := iW) (fun s x s' _ e => ?_) _ _ ⟨by simp, mR⟩ h
    obtain ⟨m, _, e⟩ := Option.bind_eq_some_iff.1 e
    exact stp _ _ e
theorem hY (l : List Pk) (b : Bool) (q : Pk) (h : ∀ x, x ∈ l ↔ x ∈ ol b q) : hO l = some (ol b q) := by
  have e : eJ l = ol b q := (rx (vt b q) fun x => (h x).symm).symm
  unfold hO
  rw [e, if_neg (by have := vr b q; omega)]
theorem rB : ∀ (k : Nat) (p : al), dD p ≤ k → eS p = true → cL 4 p = true → ∀ q, ∃ b, ex st p q = some (ol b q)
  | 0, p, h, _, _, _ => by have := lw p; omega
  | k + 1, p, h, hp, hf, q => by
    have hd := jz p
    rw [lu] at hp
    have hop := vd hf
    rw [hU]
    have h5 : p.Op ≠ 5 := by intro e; rw [e] at hp; simp at hp
    by_cases h0 : p.Op = 0
    · exact ⟨false, by simp [h0, ol]⟩
    by_cases h1 : p.Op = 1
    · exact ⟨true, by simp [h1, ol]⟩
    by_cases h2 : p.Op = 2
    · exact ⟨_, by rw [if_neg h0, if_neg h1, if_pos h2]⟩
    by_cases h3 : p.Op = 3
    · exact ⟨_, by rw [if_neg h0, if_neg h1, if_neg h2, if_pos h3]⟩
    rw [if_neg h0, if_neg h1, if_neg h2, if_neg h3]
    by_cases h4 : p.Op = 4
    · rw [if_pos h4]
      obtain ⟨y, rfl, hy1, hy2⟩ := vc hf h4
      obtain ⟨b, hb⟩ := rB k y (by simp only [fm] at hd; omega) hy1 hy2 q
      simp only [jC, hb, Option.bind_some]
      exact ⟨_, rfl⟩
    rw [if_neg h4, if_neg h5]
    have h67 : p.Op = 6 ∨ p.Op = 7 := by omega
    rw [if_neg (by omega), if_pos h67] at hp
    have hks : ∀ x ∈ p.Kids, ∃ b, ex st x q = some (ol b q) := fun x hx => rB k x (by have := jA hx; omega) (List.all_eq_true.1 hp x hx) ((u9 hf h67).1 x hx) q
    by_cases h6 : p.Op = 6
    · rw [if_pos h6, ku]
      have : ∀ (l : List al) (b : Bool), (∀ x ∈ l, ∃ b, ex st x q = some (ol b q)) → ∃ b', fo (f6 st) (ol b q) l = some (ol b' q) := by
        intro l
        induction l with
        | nil => intro b _; exact ⟨b, rfl⟩
        | cons x l ih =>
          intro b hl
          obtain ⟨b1, hb1⟩ := hl x (by simp)
          simp only [fo]
          have e : f6 st (ol b q) x = some (ol (b && b1) q) := by
            unfold f6
            cases b with
            | false => exact hY _ _ _ fun x => Iff.rfl
            | true =>
              simp only [ol, if_true, fo, iF, hb1, Option.map_some, Option.bind_some, List.nil_append]
              exact hY _ _ _ fun x => by simp [ol]
          rw [e]
          exact ih (b && b1) fun y hy => hl y (by simp [hy])
      exact this p.Kids true hks
    · rw [if_neg h6, mT]
      have : ∀ (l : List al) (b : Bool), (∀ x ∈ l, ∃ b, ex st x q = some (ol b q)) → ∃ b', fo (hX st q) (ol b q) l = some (ol b' q) := by
        intro l
        induction l with
        | nil => intro b _; exact ⟨b, rfl⟩
        | cons x l ih =>
          intro b hl
          obtain ⟨b1, hb1⟩ := hl x (by simp)
          simp only [fo]
          have e : hX st q (ol b q) x = some (ol (b || b1) q) := by
            unfold hX
            rw [hb1, Option.bind_some]
            exact hY _ _ _ fun x => by
              simp only [List.mem_append, vv, Bool.or_eq_true]
              constructor
              · rintro (h | h)
                · exact ⟨h.1, .inl h.2⟩
                · exact ⟨h.1, .inr h.2⟩
              · rintro ⟨h, h' | h'⟩
                · exact .inl ⟨h, h'⟩
                · exact .inr ⟨h, h'⟩
          rw [e]
          exact ih (b || b1) fun y hy => hl y (by simp [hy])
      exact this p.Kids false hks
end
end Go.AM
end
section
set_option linter.unusedVariables false
set_option linter.unusedSimpArgs false
namespace Go.AM
open Go
section
variable (st : List Int)
theorem vz {l m : List Pk} (hs : dg l) (hl : l.length + m.length ≤ df) : lk l m = some (eJ (l ++ m)) := by
  obtain ⟨r, e, h1, _, h3⟩ := Ap hs hl
  rw [e]
  congr 1
  exact rx h1 fun x => by rw [h3]; simp
def kv (k : al) (a : List Pk) (x : Pk) : Option (List Pk) := (ex st k x).map fun m => eJ (a ++ m)
theorem vA (k : al) : ∀ (l a : List Pk), fo (kv st k) (eJ a) l = (fo (iF st k) a l).map eJ
  | [], a => rfl
  | x :: l, a => by
    simp only [fo, kv, iF]
    cases ex st k x with
    | none => rfl
    | some m =>
      simp only [Option.map_some, Option.bind_some]
      rw [AA]
      exact vA k l (a ++ m)
def gT (o : Option (List Pk)) : List Pk × Bool := match o with | some l => (l, true) | none => ([], false)
theorem AD (l : List Pk) : (eJ l).length ≤ l.length := by
  have key : ∀ (l acc : List Pk), (l.foldl hJ acc).length ≤ acc.length + l.length := by
    intro l
    induction l with
    | nil => intro acc; simp
    | cons x l ih =>
      intro acc
      rw [List.foldl_cons]
      have := ih (hJ acc x)
      have := Az acc x
      simp only [List.length_cons]; omega
  have := key (mS l) []
  have h2 := (rt l).length_eq
  unfold eJ oS
  simp only [List.length_nil] at this
  omega
theorem vB : ∀ (k : Nat) (p : al), dD p ≤ k → cL 4 p = true → ∀ q, hE k p st q = some (gT (ex st p q))
  | 0, p, h, _, _ => by have := lw p; omega
  | k + 1, p, h, hf, q => by
    show oD (hE k) p st q = _
    have hd := jz p
    have hop := vd hf
    have hks : (∀ x ∈ p.Kids, cL 4 x = true) → ∀ x ∈ p.Kids, ∀ q, hE k x st q = some (gT (ex st x q)) := fun hk x hx q => vB k x (by have := jA hx; omega) (hk x hx) q
    rw [hU]
    unfold oD
    by_cases h0 : p.Op = 0
    · simp [h0, gT]
    by_cases h1 : p.Op = 1
    · simp [h1, gT]
    by_cases h2 : p.Op = 2
    · obtain ⟨f0, f1⟩ := Aq hf h2
      obtain ⟨_, _, ⟨v, e2⟩, _⟩ := u7 q 0 f0 f1
      by_cases c : v = p.N <;> simp [h2, e2, gT, ol, c]
    by_cases h3 : p.Op = 3
    · have f0 := As hf h3
      by_cases c : p.F < (st.length : Int)
      · have hv : be st p.F = some (st[p.F.toNat]'(by omega)) := by unfold be; rw [if_pos f0]; exact bU _
        generalize (st[p.F.toNat]'(by omega)) = v at hv
        by_cases c2 : v = p.N <;> simp [h3, hv, c, c2, gT, ol]
      · have hv : be st p.F = none := by unfold be; rw [if_pos f0]; exact List.getElem?_eq_none (by omega)
        simp [h3, hv, c, gT, ol]
    by_cases h4 : p.Op = 4
    · obtain ⟨y, rfl, hy1, hy2⟩ := vc hf h4
      obtain ⟨b, hb⟩ := rB st (dD y) y (Nat.le_refl _) hy1 hy2 q
      have hy := hks (by simp [hy2]) y (by simp) q
      have hy : hE k y st q = some (ol b q, true) := by rw [hy, hb]; rfl
      simp only [jC, hb, Option.bind_some]
      cases b <;> simp [be, hy, gT, ol]
    by_cases h5 : p.Op = 5
    · obtain ⟨f0, f1⟩ := Ar hf h5
      simp [h5, At q p.N f0 f1, gT]
    have h67 : p.Op = 6 ∨ p.Op = 7 := by omega
    have hks := hks (u9 hf h67).1
    by_cases h6 : p.Op = 6
    · rw [ku]
      have inner : ∀ (j : Nat) (x : al), p.Kids[j]? = some x → ∀ s : List Pk, iW s → b6 (oC p st s (j : Int) (hE k)) (bA 0 (s.length : Int)) [] = some (ry (fo (kv st x) [] s) (Br.ret ([], false) : Br (List Pk) ((List Pk) × Bool))) ∧ ∀ s', fo (kv st x) [] s = some s' → dg s' ∧ s'.length ≤ 64 * s.length := fun j x hx s hs =>
        rz (oC p st s (j : Int) (hE k)) s (kv st x) (Br.ret ([], false) : Br (List Pk) ((List Pk) × Bool)) (fun i a => dg a ∧ a.length ≤ 64 * i) [] ⟨mR, by simp⟩ fun i y a hy ha => by
          have hi : i < s.length := (List.getElem?_eq_some_iff.1 hy).1
          have hs64 := hs.1
          have hm := c7 hx
          simp only [oC, cd, hx, hy, Option.bind_some, hks x hm y]
          unfold kv
          cases he : ex st x y with
          | none => exact ⟨by rfl, fun s' h => by cases h⟩
          | some m =>
            have hml := (vy st he).1
            obtain ⟨ha1, ha2⟩ := ha
            simp only [gT, Bool.not_true, Bool.false_eq_true, if_false, vz ha1 (m := m) (by unfold df; omega), Option.bind_some, Option.map_some]
            refine ⟨by first | rfl | trivial, fun s' h => ?_⟩
            cases h
            refine ⟨lB _, ?_⟩
            have := AD (a ++ m)
            simp only [List.length_append] at this; omega
      have outer := rz (qP p st (hE k)) p.Kids (f6 st) ([], false) (fun _ s => iW s) [q] ⟨by simp, rp q⟩ fun i x s hx hs => by
        have hm := c7 hx
        obtain ⟨i1, i2⟩ := inner i x hx s hs
        simp only [qP, i1, Option.bind_some]
        unfold f6
        have hr := vA st x s []
        rw [AB] at hr
        cases he : fo (iF st x) [] s with
        | none =>
          rw [he] at hr
          rw [hr]
          exact ⟨by rfl, fun s' h => by cases h⟩
        | some z =>
          rw [he] at hr
          have hr : fo (kv st x) [] s = some (eJ z) := hr
          rw [hr]
          simp only [Option.bind_some, ry]
          unfold hO
          by_cases c : (eJ z).length > 64
          · rw [decide_eq_true (by omega), if_pos rfl, if_pos c]
            exact ⟨by rfl, fun s' h => by cases h⟩
          · rw [decide_eq_false (by omega), if_neg (by simp), if_neg c]
            exact ⟨by rfl, fun s' h => by cases h; exact ⟨by omega, lB z⟩⟩
      have o1 := outer.1
      simp [h6] at o1 ⊢
      rw [o1]
      cases fo (f6 st) [q] p.Kids <;> rfl
    · have h7 : p.Op = 7 := by omega
      rw [mT]
      have outer := rz (qQ p st q (hE k)) p.Kids (hX st q) ([], false) (fun _ s => iW s) [] ⟨by simp, mR⟩ fun i x s hx hs => by
        have hm := c7 hx
        simp only [qQ, cd, hx, Option.bind_some, hks x hm q]
        unfold hX
        cases he : ex st x q with
        | none => exact ⟨by rfl, fun s' h => by cases h⟩
        | some m =>
          have hml := (vy st he).1
          have hs64 := hs.1
          simp only [gT, Bool.not_true, Bool.false_eq_true, if_false, vz hs.2 (m := m) (by unfold df; omega), Option.bind_some]
          unfold hO
          by_cases c : (eJ (s ++ m)).length > 64
          · rw [decide_eq_true (by omega), if_pos rfl, if_pos c]
            exact ⟨by rfl, fun s' h => by cases h⟩
          · rw [decide_eq_false (by omega), if_neg (by simp), if_neg c]
            exact ⟨by rfl, fun s' h => by cases h; exact ⟨by omega, lB _⟩⟩
      have o1 := outer.1
      simp [h7] at o1 ⊢
      rw [o1]
      cases fo (hX st q) [] p.Kids <;> rfl
end
end Go.AM
end
section
set_option linter.unusedVariables false
set_option linter.unusedSimpArgs false
namespace Go.AM
open Go
section
variable (st : List Int)
def rC (p : al) (q : Pk) : List Pk × Int := if kq p then (match ex st p q with | some l => (l, 0) | none => ([], 24)) else ([], 11)
theorem AE {p : al} (h : cE p ≤ df) (q : Pk) : kn p st q = some (rC st p q) := by
  unfold kn rC
  rw [Aj h]
  simp only [Option.bind_some]
  cases hp : kq p
  · rfl
  · have h2 : cL 4 p = true := by
      unfold kq at hp; simp only [Bool.and_eq_true] at hp; exact hp.2
    have hr : qR p st q = some (gT (ex st p q)) := vB st _ _ (ko h) h2 q
    rw [hr]
    cases ex st p q <;> rfl
end
end Go.AM
end
