import Derived.Test.YtjdaaclkihjjnaaDoorTD2
/-
  Layer 11 of the document's answer: states and edges of a program.
-/
set_option linter.unusedVariables false
set_option linter.unusedSimpArgs false
namespace Go.AM
open Go

def noneS : api_Space := api_Space.mk [] []

/-- A space on its way: n is the number of parts of a state. -/
structure SpOk (n : Nat) (S : List (List Int)) (E : List api_Edge) : Prop where
  ne : S ≠ []
  le : S.length ≤ 128
  len : ∀ s ∈ S, s.length = n
  edg : ∀ e ∈ E, (0 ≤ e.From ∧ e.From < S.length) ∧ (0 ≤ e.To ∧ e.To < S.length)

inductive StepE where
  | go (S : List (List Int)) (E : List api_Edge)
  | many

def stepE (r : api_Rule) (s : List Int) (i k : Nat) (S : List (List Int)) (E : List api_Edge) : StepE :=
  if goB r s && !sameB (aftL r s) s then
    match S.findIdx? (fun x => sameB x (aftL r s)) with
    | some a => if S.length > 128 then .many else .go S (E ++ [api_Edge.mk i k a])
    | none => if S.length + 1 > 128 then .many else .go (S ++ [aftL r s]) (E ++ [api_Edge.mk i k S.length])
  else .go S E

theorem b2_eq (p : api_Program) {i k : Nat} {S : List (List Int)} {E : List api_Edge} {r : api_Rule} {s : List Int} (hr : p.Rules[k]? = some r) (hs : S[i]? = some s) (h1 : s.length ≤ 1000) (h2 : S.length ≤ 1000) (h3 : E.length ≤ 100000) :
    ref11_Explore_b2 p i k (S, E) = some (match stepE r s i k S E with | .go S' E' => .next (S', E') | .many => .ret (.ret (noneS, 21))) := by
  unfold ref11_Explore_b2 stepE
  simp only [gat_nat, hr, hs, Option.bind_some, goes11, after11 r s h1, same11, find11]
  cases hg : goB r s
  · simp
  cases hsm : sameB (aftL r s) s
  · cases hf : S.findIdx? (fun x => sameB x (aftL r s)) with
    | some a =>
      have hd : decide (ix (some a) < 0) = false := by show decide ((a : Int) < 0) = false; simp
      simp only [Bool.not_true, Bool.false_eq_true, if_false, hd, Option.bind_some, Bool.not_false, Bool.and_self, if_true]
      by_cases c : S.length > 128
      · rw [if_pos (by simp; omega), if_pos c]; rfl
      · rw [if_neg (by simp; omega), if_neg c, gapp_some (by simp; omega)]; rfl
    | none =>
      have hd : decide (ix none < 0) = true := rfl
      simp only [Bool.not_true, Bool.false_eq_true, if_false, hd, if_true, Bool.not_false, Bool.and_self]
      rw [gapp_some (by simp; omega)]
      simp only [Option.bind_some]
      by_cases c : S.length + 1 > 128
      · rw [if_pos (by simp; omega), if_pos c]; rfl
      · rw [if_neg (by simp; omega), if_neg c, gapp_some (by simp; omega)]; rfl
  · simp

theorem aft_len {r : api_Rule} {s : List Int} {n : Nat} (h : s.length = n) : (aftL r s).length = n := by rw [aftL_len, h]

theorem stepE_ok {n : Nat} {r : api_Rule} {s : List Int} {i k : Nat} {S S' : List (List Int)} {E E' : List api_Edge} (h : SpOk n S E) (hi : S[i]? = some s) (e : stepE r s i k S E = .go S' E') :
    SpOk n S' E' ∧ S.length ≤ S'.length ∧ E'.length ≤ E.length + 1 ∧ S' = S ++ S'.drop S.length ∧ S'[0]? = S[0]? := by
  have hil : i < S.length := (List.getElem?_eq_some_iff.1 hi).1
  have hs : s.length = n := h.len s (List.mem_of_getElem? hi)
  unfold stepE at e
  split at e
  · split at e
    · rename_i a ha
      obtain ⟨hal, _⟩ := List.findIdx?_eq_some_iff_getElem.1 ha
      split at e
      · cases e
      · cases e
        refine ⟨⟨h.ne, h.le, h.len, fun x hx => ?_⟩, Nat.le_refl _, by simp, by simp, rfl⟩
        rcases List.mem_append.1 hx with hx | hx
        · exact h.edg x hx
        · simp at hx; subst hx; refine ⟨⟨by simp, ?_⟩, by simp, ?_⟩ <;> simp <;> omega
    · rename_i ha
      split at e
      · cases e
      · rename_i c
        cases e
        refine ⟨⟨by simp, by simp; omega, fun x hx => ?_, fun x hx => ?_⟩, by simp, by simp, by simp, ?_⟩
        · rcases List.mem_append.1 hx with hx | hx
          · exact h.len x hx
          · simp at hx; subst hx; exact aft_len hs
        · rcases List.mem_append.1 hx with hx | hx
          · have := h.edg x hx; simp; omega
          · simp at hx; subst hx; refine ⟨⟨by simp, ?_⟩, by simp, ?_⟩ <;> simp <;> omega
        · rw [List.getElem?_append_left (by omega)]
  · cases e; exact ⟨h, Nat.le_refl _, by omega, by simp, rfl⟩

theorem inner_ok (p : api_Program) {n i : Nat} (hn : n ≤ 1000) (hr : p.Rules.length ≤ 26) {S : List (List Int)} {E : List api_Edge} (h : SpOk n S E) (hi : i < S.length) (hE : E.length ≤ 26 * i) (s0 : List Int) (h0 : S[0]? = some s0) :
    (∃ S' E', forR (ref11_Explore_b2 p i) (irange 0 (p.Rules.length : Int)) (S, E) = some (.done (S', E')) ∧ SpOk n S' E' ∧ S.length ≤ S'.length ∧ E'.length ≤ 26 * (i + 1) ∧ S'[0]? = some s0) ∨
    forR (ref11_Explore_b2 p i) (irange 0 (p.Rules.length : Int)) (S, E) = some (.ret (.ret (noneS, 21))) := by
  have := forR_list (ref11_Explore_b2 p i) p.Rules (fun l q => SpOk n q.1 q.2 ∧ S.length ≤ q.1.length ∧ q.2.length ≤ 26 * i + l.length ∧ q.1[0]? = some s0) (fun _ => False) (fun r => r = .ret (noneS, 21)) (S, E) ⟨h, Nat.le_refl _, by simpa using hE, h0⟩ (by
    rintro k r ⟨T, F⟩ hk ⟨g1, g2, g3, g4⟩
    simp only at g1 g2 g3 g4
    have hil : i < T.length := by omega
    have hkl : k < p.Rules.length := (List.getElem?_eq_some_iff.1 hk).1
    have htl : (p.Rules.take k).length = k := by simp; omega
    have hle := g1.le
    rw [b2_eq p hk (List.getElem?_eq_getElem hil) (by rw [g1.len _ (List.getElem_mem hil)]; exact hn) (by omega) (by omega)]
    cases hst : stepE r T[i] i k T F with
    | go S' E' =>
      obtain ⟨q1, q2, q3, q4, q5⟩ := stepE_ok g1 (List.getElem?_eq_getElem hil) hst
      exact .inl ⟨_, rfl, q1, by simp only; omega, by simp only [List.length_append, List.length_singleton]; omega, by rw [q5]; exact g4⟩
    | many => exact .inr (.inr ⟨_, rfl, rfl⟩))
  rcases this with ⟨⟨S', E'⟩, e, ⟨g1, g2, g3, g4⟩ | c⟩ | ⟨r, e, rfl⟩
  · exact .inl ⟨S', E', e, g1, g2, by simp only at g3; omega, g4⟩
  · exact c.elim
  · exact .inr e

theorem outer_ok (p : api_Program) {n : Nat} (hn : n ≤ 1000) (hr : p.Rules.length ≤ 26) (s0 : List Int) : ∀ (d f i : Nat) (S : List (List Int)) (E : List api_Edge), SpOk n S E → i ≤ S.length → E.length ≤ 26 * i → S[0]? = some s0 → 129 ≤ i + d → d < f →
    (∃ S' E' j, whR (ref11_Explore_b1 p) f (S, E, (i : Int)) = some (.done (S', E', j)) ∧ SpOk n S' E' ∧ E'.length ≤ 26 * 128 ∧ S'[0]? = some s0) ∨ whR (ref11_Explore_b1 p) f (S, E, (i : Int)) = some (.ret (noneS, 21)) := by
  intro d
  induction d with
  | zero => intro f i S E h hi hE h0 hd hf; have := h.le; omega
  | succ d ih =>
    intro f i S E h hi hE h0 hd hf
    obtain ⟨f, rfl⟩ : ∃ g, f = g + 1 := ⟨f - 1, by omega⟩
    have hle := h.le
    rw [whR_step]
    simp only [ref11_Explore_b1]
    by_cases c : i < S.length
    · rw [if_pos (by simp; omega)]
      rcases inner_ok p hn hr h c hE s0 h0 with ⟨S', E', e, g1, g2, g3, g4⟩ | e
      · rw [e]
        simp only [Option.bind_some]
        have hw : IntKind.i64.wrap ((i : Int) + 1) = ((i + 1 : Nat) : Int) := by rw [w_i64 (by omega) (by omega)]; omega
        rw [hw]
        exact ih f (i + 1) S' E' g1 (by omega) g3 g4 (by omega) (by omega)
      · rw [e]; exact .inr rfl
    · rw [if_neg (by simp; omega)]
      exact .inl ⟨S, E, _, rfl, h, by omega, h0⟩

/-! does a way lead back? -/

theorem gat_lt' {α : Type} (l : List α) {i : Int} (h0 : 0 ≤ i) (h1 : i < l.length) : ∃ x, gat l i = some x := by
  unfold gat
  rw [if_pos h0]
  exact ⟨l[i.toNat]'(by omega), List.getElem?_eq_getElem (by omega)⟩

theorem gput_lt {α : Type} (l : List α) {i : Int} (h0 : 0 ≤ i) (h1 : i < l.length) (v : α) : gput l i v = some (l.set i.toNat v) := by
  unfold gput
  rw [if_pos h0, if_pos (by omega)]

/-- A loop that keeps something, whatever it does. -/
theorem forO_keep {σ : Type} (f : Int → σ → Option σ) (n : Nat) (P : σ → Prop) (s : σ) (h0 : P s) (hs : ∀ i : Nat, i < n → ∀ s, P s → ∃ s', f (i : Int) s = some s' ∧ P s') : ∃ s', forO f (irange 0 (n : Int)) s = some s' ∧ P s' := by
  have := forO_map f (fun _ => P) n 0 s h0 (fun j s _ hj h => hs j (by omega) s h)
  simpa using this

theorem forR_keep {σ ρ : Type} (f : Int → σ → Option (Br σ ρ)) (n : Nat) (P : σ → Prop) (R : ρ → Prop) (s : σ) (h0 : P s) (hs : ∀ i : Nat, i < n → ∀ s, P s → (∃ s', f (i : Int) s = some (.next s') ∧ P s') ∨ ∃ r, f (i : Int) s = some (.ret r) ∧ R r) :
    (∃ s', forR f (irange 0 (n : Int)) s = some (.done s') ∧ P s') ∨ ∃ r, forR f (irange 0 (n : Int)) s = some (.ret r) ∧ R r := by
  have := forR_map f (fun _ => P) (fun _ => False) R n 0 s h0 (fun j s _ hj h => by
    rcases hs j (by omega) s h with h | h
    · exact .inl h
    · exact .inr (.inr h))
  rcases this with ⟨s', e, h | h⟩ | h
  · exact .inl ⟨s', by simpa using e, h⟩
  · exact h.elim
  · exact .inr (by simpa using h)

theorem round_total {n : Nat} {S : List (List Int)} {E : List api_Edge} (h : SpOk n S E) : ∃ b, ref11_round (api_Space.mk S E) = some b := by
  unfold ref11_round
  have hle := h.le
  have hg : gmk (S.length : Int) false = some (List.replicate S.length false) := by unfold gmk; rw [if_pos (by omega)]; simp
  simp only [hg, Option.bind_some]
  have h3 : ∀ (i : Nat) (l : List Bool), l.length = S.length → ∃ b, forO (ref11_round_b3 (api_Space.mk S E) l i) (irange 0 (E.length : Int)) true = some b := by
    intro i l hl
    obtain ⟨b, e, _⟩ := forO_keep (ref11_round_b3 (api_Space.mk S E) l i) E.length (fun _ => True) true trivial (fun k hk b _ => by
      have he := List.getElem?_eq_getElem hk
      have hed := (h.edg _ (List.getElem_mem hk)).2
      obtain ⟨x, hx⟩ := gat_lt' l hed.1 (by rw [hl]; exact hed.2)
      simp only [ref11_round_b3, gat_nat, he, Option.bind_some]
      by_cases c : (E[k].From == (i : Int)) = true
      · rw [if_pos c, hx]; cases x <;> exact ⟨_, rfl, trivial⟩
      · rw [if_neg c]; exact ⟨_, rfl, trivial⟩)
    exact ⟨b, e⟩
  obtain ⟨l, e, hl⟩ := forO_keep (ref11_round_b1 (api_Space.mk S E)) S.length (fun l => l.length = S.length) (List.replicate S.length false) (by simp) (fun i hi l hl => by
    obtain ⟨l', e, hl'⟩ := forO_keep (ref11_round_b2 (api_Space.mk S E)) S.length (fun l => l.length = S.length) l hl (fun i hi l hl => by
      obtain ⟨b, hb⟩ := h3 i l hl
      obtain ⟨x, hx⟩ := gat_lt' l (i := (i : Int)) (by omega) (by omega)
      simp only [ref11_round_b2, hb, hx, Option.bind_some]
      cases x
      · simp only [Bool.false_eq_true, if_false]
        rw [gput_lt l (by omega) (by omega)]; exact ⟨_, rfl, by simp [hl]⟩
      · simp only [if_true]
        rw [gput_lt l (by omega) (by omega)]; exact ⟨_, rfl, by simp [hl]⟩)
    exact ⟨l', by simp only [ref11_round_b1, e, Option.bind_some], hl'⟩)
  rw [e]
  simp only [Option.bind_some]
  rw [any_run (fun b => !b) true l _ (fun j x hj => by
    simp only [ref11_round_b4, gat_nat, hj, Option.bind_some]
    cases x <;> rfl)]
  cases l.any _ <;> exact ⟨_, rfl⟩

/-- What the document tells of a program's states. -/
theorem explore_total (p : api_Program) (hp : p.Pol = dropP) (hs : SmallP p) : ∃ x f, ref11_Explore p = some (x, f) ∧ (f = 0 → SpOk p.Init.length x.States x.Edges ∧ x.Edges.length ≤ 26 * 128 ∧ x.States[0]? = some p.Init) := by
  unfold ref11_Explore
  rw [check_ok p hp hs]
  simp only [Option.bind_some]
  obtain ⟨h1, h2, h3⟩ := hs
  by_cases c : chk05 p = 0
  · rw [if_neg (by simpa using c)]
    rw [gapp_some (by simp; omega)]
    simp only [Option.bind_some, List.nil_append]
    have hok : SpOk p.Init.length [p.Init] [] := ⟨by simp, by simp, by simp, by simp⟩
    obtain ⟨m, hm⟩ := FUEL_big 200 (by omega)
    have := outer_ok p (n := p.Init.length) (by omega) h2 p.Init 129 FUEL 0 [p.Init] [] hok (by simp) (by simp) rfl (by omega) (by omega)
    rcases this with ⟨S, E, j, e, g1, g2, g3⟩ | e
    · rw [show (0 : Int) = ((0 : Nat) : Int) from rfl, e]
      simp only [Option.bind_some]
      obtain ⟨b, hb⟩ := round_total g1
      rw [hb]
      cases b
      · exact ⟨_, _, rfl, fun _ => ⟨g1, g2, g3⟩⟩
      · exact ⟨_, _, rfl, fun h => by cases h⟩
    · rw [show (0 : Int) = ((0 : Nat) : Int) from rfl, e]
      exact ⟨_, _, rfl, fun h => by cases h⟩
  · rw [if_pos (by simpa using c)]
    exact ⟨_, _, rfl, fun h => (c h).elim⟩

end Go.AM
