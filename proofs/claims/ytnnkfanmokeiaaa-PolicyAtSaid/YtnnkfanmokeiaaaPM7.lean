import Derived.Test.YtnnkfanmokeiaaaPM6
set_option linter.unusedVariables false
set_option linter.unusedSimpArgs false
namespace Go.AM
open Go
def fo {α σ : Type} (step : σ → α → Option σ) : σ → List α → Option σ
  | s, [] => some s
  | s, x :: l => (step s x).bind fun s => fo step s l
theorem nF {α σ : Type} (step : σ → α → Option σ) : ∀ (l m : List α) (s : σ), fo step s (l ++ m) = (fo step s l).bind fun s => fo step s m
  | [], m, s => rfl
  | x :: l, m, s => by
    simp only [List.cons_append, fo]
    cases step s x with
    | none => rfl
    | some s' => simp only [Option.bind_some]; exact nF step l m s'
def nG {σ ρ : Type} (o : Option σ) (r : ρ) : Ex σ ρ := match o with | some s' => .done s' | none => .ret r
def vf {σ ρ : Type} (o : Option σ) (r : ρ) : Br σ ρ := match o with | some s' => .next s' | none => .ret r
theorem lw {α σ ρ : Type} (f : Int → σ → Option (Br σ ρ)) (l : List α) (step : σ → α → Option σ) (r : ρ) (Inv : Nat → σ → Prop) (s : σ) (h0 : Inv 0 s)
    (h : ∀ (i : Nat) x s, l[i]? = some x → Inv i s → f (i : Int) s = some (vf (step s x) r) ∧ ∀ s', step s x = some s' → Inv (i + 1) s') :
    b9 f (bG 0 (l.length : Int)) s = some (nG (fo step s l) r) ∧ ∀ s', fo step s l = some s' → Inv l.length s' := by
  have := ur f l (fun d s' => Inv d.length s' ∧ fo step s d = some s') (fun _ => False) (fun r' => r' = r ∧ fo step s l = none) s ⟨h0, rfl⟩ (fun i x s1 hx ⟨h1, h2⟩ => by
    have hlt : i < l.length := (List.getElem?_eq_some_iff.1 hx).1
    have ht : (l.take i).length = i := by simp; omega
    rw [ht] at h1
    obtain ⟨e1, e2⟩ := h i x s1 hx h1
    cases hs : step s1 x with
    | some s2 =>
      rw [hs] at e1
      refine .inl ⟨s2, e1, by simp [ht]; exact e2 s2 hs, ?_⟩
      rw [nF, h2]
      simp only [Option.bind_some, fo, hs]
    | none =>
      rw [hs] at e1
      refine .inr (.inr ⟨r, e1, rfl, ?_⟩)
      have hd : l = l.take i ++ x :: l.drop (i + 1) := qm hx
      rw [hd, nF, h2]
      simp only [Option.bind_some, fo, hs]; rfl)
  rcases this with ⟨s', e, ⟨h1, h2⟩ | h1⟩ | ⟨r', e, rfl, h2⟩
  · rw [h2]; exact ⟨e, fun s2 hs2 => by cases hs2; exact h1⟩
  · exact h1.elim
  · rw [h2]; exact ⟨e, fun s2 hs2 => by cases hs2⟩
def ol (b : Bool) (q : Pk) : List Pk := if b then [q] else []
theorem iY (b : Bool) (q : Pk) : gJ b q = some (ol b q) := by cases b <;> rfl
theorem qL (b : Bool) (q : Pk) : (ol b q).length ≤ 1 := by cases b <;> simp [ol]
theorem qM (b : Bool) (q : Pk) : dS (ol b q) := by cases b <;> simp [ol, lu, nA]
theorem vg (b : Bool) (q x : Pk) : x ∈ ol b q ↔ x = q ∧ b = true := by cases b <;> simp [ol]
section
variable (st : List Int)
mutual
def ex : ah → Pk → Option (List Pk)
  | ⟨o, f, n, l⟩, q =>
    if o = 0 then some [] else if o = 1 then some [q] else if o = 2 then some (ol (q.get f == some n) q) else if o = 3 then some (ol (bh st f == some n) q)
    else if o = 4 then fp l q else if o = 5 then some [fN q f n] else if o = 6 then fq l [q] else ft l q []
def fp : List ah → Pk → Option (List Pk)
  | [], q => some [q]
  | k :: _, q => (ex k q).bind fun m => some (ol (decide (m = [])) q)
def ft : List ah → Pk → List Pk → Option (List Pk)
  | [], _, s => some s
  | k :: l, q, s => ((ex k q).bind fun m => eR (s ++ m)).bind fun s => ft l q s
def fq : List ah → List Pk → Option (List Pk)
  | [], s => some s
  | k :: l, s => ((fo (fun a x => (ex k x).map fun m => a ++ m) [] s).bind eR).bind fun s => fq l s
end
theorem gN (p : ah) (q : Pk) : ex st p q =
    if p.Op = 0 then some [] else if p.Op = 1 then some [q] else if p.Op = 2 then some (ol (q.get p.F == some p.N) q) else if p.Op = 3 then some (ol (bh st p.F == some p.N) q)
    else if p.Op = 4 then fp st p.Kids q else if p.Op = 5 then some [fN q p.F p.N] else if p.Op = 6 then fq st p.Kids [q] else ft st p.Kids q [] := by
  cases p; rw [ex]
def gO (q : Pk) (s : List Pk) (k : ah) : Option (List Pk) := (ex st k q).bind fun m => eR (s ++ m)
def gP (k : ah) (a : List Pk) (x : Pk) : Option (List Pk) := (ex st k x).map fun m => a ++ m
def gQ (s : List Pk) (k : ah) : Option (List Pk) := (fo (gP st k) [] s).bind eR
theorem lz (q : Pk) : ∀ (l : List ah) (s : List Pk), ft st l q s = fo (gO st q) s l
  | [], s => by rw [ft]; rfl
  | k :: l, s => by
    rw [ft]
    simp only [fo, gO]
    congr 1
    funext s
    exact lz q l s
theorem lA : ∀ (l : List ah) (s : List Pk), fq st l s = fo (gQ st) s l
  | [], s => by rw [fq]; rfl
  | k :: l, s => by
    rw [fq]
    simp only [fo, gQ, gP]
    congr 1
    funext s
    exact lA l s
def gr (l : List Pk) : Prop := l.length ≤ 64 ∧ dS l
theorem nH {α σ : Type} {step : σ → α → Option σ} {I : σ → Prop} (h : ∀ s x s', I s → step s x = some s' → I s') : ∀ (l : List α) (s : σ) {s' : σ}, I s → fo step s l = some s' → I s'
  | [], s, s', hs, e => by cases e; exact hs
  | x :: l, s, s', hs, e => by
    simp only [fo] at e
    obtain ⟨s1, e1, e2⟩ := Option.bind_eq_some_iff.1 e
    exact nH h l s1 (h s x s1 hs e1) e2
theorem qN {p : ah} {q : Pk} {l : List Pk} (h : ex st p q = some l) : gr l := by
  rw [gN] at h
  have one : ∀ x : Pk, gr [x] := fun x => ⟨by simp, nA x⟩
  have olf : ∀ b, gr (ol b q) := fun b => ⟨by have := qL b q; omega, qM b q⟩
  split at h
  · cases h; exact ⟨by simp, lu⟩
  split at h
  · cases h; exact one _
  split at h
  · cases h; exact olf _
  split at h
  · cases h; exact olf _
  split at h
  · cases hk : p.Kids with
    | nil => rw [hk, fp] at h; cases h; exact one _
    | cons k r =>
      rw [hk, fp] at h
      obtain ⟨m, _, h⟩ := Option.bind_eq_some_iff.1 h
      cases h; exact olf _
  split at h
  · cases h; exact one _
  have stp : ∀ m l, eR m = some l → gr l := fun m l hm => ⟨(iX hm).2.1, (iX hm).2.2⟩
  split at h
  · rw [lA] at h
    refine nH (I := gr) (fun s x s' _ e => ?_) _ _ (one q) h
    obtain ⟨m, _, e⟩ := Option.bind_eq_some_iff.1 e
    exact stp _ _ e
  · rw [lz] at h
    refine nH (I := gr) (fun s x s' _ e => ?_) _ _ ⟨by simp, lu⟩ h
    obtain ⟨m, _, e⟩ := Option.bind_eq_some_iff.1 e
    exact stp _ _ e
theorem nI (l : List Pk) (b : Bool) (q : Pk) (h : ∀ x, x ∈ l ↔ x ∈ ol b q) : eR l = some (ol b q) := by
  have e : fO l = ol b q := (va (qM b q) fun x => (h x).symm).symm
  unfold eR
  rw [e, if_neg (by have := qL b q; omega)]
theorem nJ : ∀ (k : Nat) (p : ah), bP p ≤ k → cC p = true → bR 4 p = true → ∀ q, ∃ b, ex st p q = some (ol b q)
  | 0, p, h, _, _, _ => by have := d8 p; omega
  | k + 1, p, h, hp, hf, q => by
    have hd := dB p
    rw [jP] at hp
    have hop := qE hf
    rw [gN]
    have h5 : p.Op ≠ 5 := by intro e; rw [e] at hp; simp at hp
    by_cases h0 : p.Op = 0
    · exact ⟨false, by simp [h0, ol]⟩
    by_cases h1 : p.Op = 1
    · exact ⟨true, by simp [h1, ol]⟩
    by_cases h2 : p.Op = 2
    · exact ⟨_, by rw [if_neg h0, if_neg h1, if_pos h2]⟩
    by_cases h3 : p.Op = 3
    · exact ⟨_, by rw [if_neg h0, if_neg h1, if_neg h2, if_pos h3]⟩
    rw [if_neg h0, if_neg h1, if_neg h2, if_neg h3]
    by_cases h4 : p.Op = 4
    · rw [if_pos h4]
      obtain ⟨y, rfl, hy1, hy2⟩ := qD hf h4
      obtain ⟨b, hb⟩ := nJ k y (by simp only [cK] at hd; omega) hy1 hy2 q
      simp only [fp, hb, Option.bind_some]
      exact ⟨_, rfl⟩
    rw [if_neg h4, if_neg h5]
    have h67 : p.Op = 6 ∨ p.Op = 7 := by omega
    rw [if_neg (by omega), if_pos h67] at hp
    have hks : ∀ x ∈ p.Kids, ∃ b, ex st x q = some (ol b q) := fun x hx => nJ k x (by have := dK hx; omega) (List.all_eq_true.1 hp x hx) ((qC hf h67).1 x hx) q
    by_cases h6 : p.Op = 6
    · rw [if_pos h6, lA]
      have : ∀ (l : List ah) (b : Bool), (∀ x ∈ l, ∃ b, ex st x q = some (ol b q)) → ∃ b', fo (gQ st) (ol b q) l = some (ol b' q) := by
        intro l
        induction l with
        | nil => intro b _; exact ⟨b, rfl⟩
        | cons x l ih =>
          intro b hl
          obtain ⟨b1, hb1⟩ := hl x (by simp)
          simp only [fo]
          have e : gQ st (ol b q) x = some (ol (b && b1) q) := by
            unfold gQ
            cases b with
            | false => exact nI _ _ _ fun x => Iff.rfl
            | true =>
              simp only [ol, if_true, fo, gP, hb1, Option.map_some, Option.bind_some, List.nil_append]
              exact nI _ _ _ fun x => by simp [ol]
          rw [e]
          exact ih (b && b1) fun y hy => hl y (by simp [hy])
      exact this p.Kids true hks
    · rw [if_neg h6, lz]
      have : ∀ (l : List ah) (b : Bool), (∀ x ∈ l, ∃ b, ex st x q = some (ol b q)) → ∃ b', fo (gO st q) (ol b q) l = some (ol b' q) := by
        intro l
        induction l with
        | nil => intro b _; exact ⟨b, rfl⟩
        | cons x l ih =>
          intro b hl
          obtain ⟨b1, hb1⟩ := hl x (by simp)
          simp only [fo]
          have e : gO st q (ol b q) x = some (ol (b || b1) q) := by
            unfold gO
            rw [hb1, Option.bind_some]
            exact nI _ _ _ fun x => by
              simp only [List.mem_append, vg, Bool.or_eq_true]
              constructor
              · rintro (h | h)
                · exact ⟨h.1, .inl h.2⟩
                · exact ⟨h.1, .inr h.2⟩
              · rintro ⟨h, h' | h'⟩
                · exact .inl ⟨h, h'⟩
                · exact .inr ⟨h, h'⟩
          rw [e]
          exact ih (b || b1) fun y hy => hl y (by simp [hy])
      exact this p.Kids false hks
theorem qO {p : ah} (h : 0 ≤ p.F) : gK st p = some (bh st p.F == some p.N) := by
  unfold gK
  rw [decide_eq_true h, if_pos rfl]
  by_cases c : p.F < (st.length : Int)
  · rw [decide_eq_true c, if_pos rfl]
    have : bh st p.F = some (st[p.F.toNat]'(by omega)) := by unfold bh; rw [if_pos h]; exact bW _
    rw [this]
    simp only [Option.bind_some]
    congr 1
  · rw [decide_eq_false c, if_neg (by simp)]
    have : bh st p.F = none := by unfold bh; rw [if_pos h]; exact List.getElem?_eq_none (by omega)
    rw [this]; rfl
theorem vk (q : Pk) {f : Int} (n : Int) (h0 : 0 ≤ f) (h1 : f < 8) : kR q f n = some (fN q f n) := by
  obtain ⟨e1, _, ⟨v, e2⟩, _⟩ := qB q n h0 h1
  unfold kR mT
  rw [show decide (f ≥ 0) = true from decide_eq_true h0, show decide (f < 8) = true from decide_eq_true h1]
  simp [e1, e2]
theorem qP : ∀ (k : Nat) (p : ah), bP p ≤ k → bR 4 p = true → ∀ q, fk k p st q = some (ex st p q)
  | 0, p, h, _, _ => by have := d8 p; omega
  | k + 1, p, h, hf, q => by
    show kV (fk k) p st q = _
    have hd := dB p
    have hop := qE hf
    have hks : (∀ x ∈ p.Kids, bR 4 x = true) → ∀ x ∈ p.Kids, ∀ q, fk k x st q = some (ex st x q) := fun hk x hx q => qP k x (by have := dK hx; omega) (hk x hx) q
    rw [gN]
    unfold kV
    by_cases h0 : p.Op = 0
    · simp [h0]
    by_cases h1 : p.Op = 1
    · simp [h1, iY, ol]
    by_cases h2 : p.Op = 2
    · obtain ⟨f0, f1⟩ := u3 hf h2
      obtain ⟨_, _, ⟨v, e2⟩, _⟩ := qB q 0 f0 f1
      simp [h2, e2, iY]
    by_cases h3 : p.Op = 3
    · simp [h3, qO st (u5 hf h3), iY]
    by_cases h4 : p.Op = 4
    · obtain ⟨y, rfl, hy1, hy2⟩ := qD hf h4
      obtain ⟨b, hb⟩ := nJ st (bP y) y (Nat.le_refl _) hy1 hy2 q
      have hy := hks (by simp [hy2]) y (by simp) q
      have hy : fk k y st q = some (some (ol b q)) := by rw [hy, hb]
      simp only [fp, hb, Option.bind_some]
      simp [bh, hy, fJ, iY]
      cases b <;> simp [ol]
    by_cases h5 : p.Op = 5
    · obtain ⟨f0, f1⟩ := u4 hf h5
      simp [h5, vk q p.N f0 f1, iY, ol]
    have h67 : p.Op = 6 ∨ p.Op = 7 := by omega
    have hks := hks (qC hf h67).1
    by_cases h6 : p.Op = 6
    · rw [lA]
      have inner : ∀ (x : ah), x ∈ p.Kids → ∀ s : List Pk, gr s → b9 (kU st s x (fk k)) (bG 0 (s.length : Int)) [] = some (nG (fo (gP st x) [] s) (Br.ret none : Br (List Pk) (Option (List Pk)))) ∧ ∀ s', fo (gP st x) [] s = some s' → s'.length ≤ 64 * s.length := fun x hx s hs =>
        lw (kU st s x (fk k)) s (gP st x) (Br.ret none : Br (List Pk) (Option (List Pk))) (fun i a => a.length ≤ 64 * i) [] (by simp) fun i y a hy ha => by
          have hi : i < s.length := (List.getElem?_eq_some_iff.1 hy).1
          have hs64 := hs.1
          simp only [kU, ey, hy, Option.bind_some, hks x hx y]
          unfold gP
          cases he : ex st x y with
          | none => exact ⟨by rfl, fun s' h => by cases h⟩
          | some m =>
            have hm := (qN st he).1
            have : cB a m = some (a ++ m) := by unfold cB; rw [if_pos (by omega)]
            simp only [fJ, this, Option.bind_some, Option.map_some]
            refine ⟨by first | rfl | trivial, fun s' h => ?_⟩
            cases h
            simp only [List.length_append]; omega
      have outer := lw (mX p st (fk k)) p.Kids (gQ st) none (fun _ s => gr s) [q] ⟨by simp, nA q⟩ fun i x s hx hs => by
        have hm := dc hx
        obtain ⟨i1, i2⟩ := inner x hm s hs
        simp only [mX, ey, hx, Option.bind_some, i1]
        unfold gQ
        cases he : fo (gP st x) [] s with
        | none => exact ⟨rfl, fun s' h => by cases h⟩
        | some z =>
          have hz := i2 z he
          have hs64 := hs.1
          simp only [Option.bind_some, nG, qK (l := z) (by omega)]
          cases hb : eR z with
          | none => exact ⟨rfl, fun s' h => by cases h⟩
          | some w => exact ⟨rfl, fun s' h => by cases h; exact ⟨(iX hb).2.1, (iX hb).2.2⟩⟩
      have o1 := outer.1
      simp [h6, iY, ol] at o1 ⊢
      rw [o1]
      cases fo (gQ st) [q] p.Kids <;> rfl
    · have h7 : p.Op = 7 := by omega
      rw [lz]
      have outer := lw (mW p st q (fk k)) p.Kids (gO st q) none (fun _ s => gr s) [] ⟨by simp, lu⟩ fun i x s hx hs => by
        have hm := dc hx
        simp only [mW, ey, hx, Option.bind_some, hks x hm q]
        unfold gO
        cases he : ex st x q with
        | none => exact ⟨rfl, fun s' h => by cases h⟩
        | some m =>
          have hmf := (qN st he).1
          have hs64 := hs.1
          have : cB s m = some (s ++ m) := by unfold cB; rw [if_pos (by omega)]
          simp only [fJ, this, Option.bind_some, qK (l := s ++ m) (by simp; omega)]
          cases hb : eR (s ++ m) with
          | none => exact ⟨rfl, fun s' h => by cases h⟩
          | some w => exact ⟨rfl, fun s' h => by cases h; exact ⟨(iX hb).2.1, (iX hb).2.2⟩⟩
      have o1 := outer.1
      simp [h7] at o1 ⊢
      rw [o1]
      cases fo (gO st q) [] p.Kids <;> rfl
end
end Go.AM
