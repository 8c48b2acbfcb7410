import Derived.Test.YtkgegocfjalcbaaSP4
/-
  Layer 11: both ways of finding a program's states go alike.
-/
set_option linter.unusedVariables false
set_option linter.unusedSimpArgs false
namespace Go.AM
open Go

/-- Two loops that go alike. -/
theorem forR_sim {σ τ ρ ρ' : Type} (f : Int → σ → Option (Br σ ρ)) (g : Int → τ → Option (Br τ ρ')) (c : τ → σ) (R : ρ → ρ' → Prop) (P : Nat → τ → Prop) : ∀ (k i : Nat) (t : τ), P i t →
    (∀ j t, i ≤ j → j < i + k → P j t → (∃ t', g (j : Int) t = some (.next t') ∧ f (j : Int) (c t) = some (.next (c t')) ∧ P (j + 1) t') ∨ ∃ r r', g (j : Int) t = some (.ret r') ∧ f (j : Int) (c t) = some (.ret r) ∧ R r r') →
    (∃ t', forR g (irange (i : Int) ((i + k : Nat) : Int)) t = some (.done t') ∧ forR f (irange (i : Int) ((i + k : Nat) : Int)) (c t) = some (.done (c t')) ∧ P (i + k) t') ∨
    ∃ r r', forR g (irange (i : Int) ((i + k : Nat) : Int)) t = some (.ret r') ∧ forR f (irange (i : Int) ((i + k : Nat) : Int)) (c t) = some (.ret r) ∧ R r r'
  | 0, i, t, h, _ => .inl ⟨t, by rw [show i + 0 = i from rfl, irangeN_nil]; rfl, by rw [show i + 0 = i from rfl, irangeN_nil]; rfl, h⟩
  | k + 1, i, t, h, hs => by
    rw [irangeN_cons]
    simp only [forR]
    rcases hs i t (Nat.le_refl _) (by omega) h with ⟨t1, e1, e2, h1⟩ | ⟨r, r', e1, e2, h1⟩
    · rw [e1, e2]
      simp only [Option.bind_some]
      rw [show i + (k + 1) = i + 1 + k by omega]
      exact forR_sim f g c R P k (i + 1) t1 h1 fun j s hj hk => hs j s (by omega) (by omega)
    · rw [e1, e2]; exact .inr ⟨r, r', rfl, rfl, h1⟩

/-- Every state but the first one was come to from an earlier one. -/
def Rch (S : List (List Int)) (E : List api_Edge) : Prop := ∀ j : Nat, 0 < j → j < S.length → ∃ e ∈ E, e.To = (j : Int) ∧ 0 ≤ e.From ∧ e.From < j

def RulesOk (p : api_Program) : Prop := (∀ s ∈ [p.Init], U16 s) ∧ ∀ r ∈ p.Rules, r.Guard.length ≤ 1000 ∧ ∀ t ∈ r.Then, IntKind.u16.wrap t.N = t.N

structure SpU (n : Nat) (S : List (List Int)) (E : List api_Edge) : Prop where
  ok : SpOk n S E
  u16 : ∀ s ∈ S, U16 s
  rch : Rch S E

theorem stepE_u {n : Nat} {r : api_Rule} {s : List Int} {i k : Nat} {S S' : List (List Int)} {E E' : List api_Edge} (h : SpU n S E) (hi : S[i]? = some s) (hN : ∀ t ∈ r.Then, IntKind.u16.wrap t.N = t.N) (e : stepE r s i k S E = .go S' E') : SpU n S' E' := by
  obtain ⟨g1, g2, g3, g4, g5⟩ := stepE_ok h.ok hi e
  have hil : i < S.length := (List.getElem?_eq_some_iff.1 hi).1
  refine ⟨g1, ?_, ?_⟩
  · unfold stepE at e
    split at e
    · split at e
      · split at e
        · cases e
        · cases e; exact h.u16
      · split at e
        · cases e
        · cases e
          intro x hx
          rcases List.mem_append.1 hx with hx | hx
          · exact h.u16 x hx
          · simp at hx; subst hx; exact u16_aft (h.u16 s (List.mem_of_getElem? hi)) hN
    · cases e; exact h.u16
  · unfold stepE at e
    split at e
    · split at e
      · split at e
        · cases e
        · cases e
          intro j h0 hj
          obtain ⟨x, hx, hx'⟩ := h.rch j h0 hj
          exact ⟨x, by simp [hx], hx'⟩
      · split at e
        · cases e
        · cases e
          intro j h0 hj
          by_cases c : j < S.length
          · obtain ⟨x, hx, hx'⟩ := h.rch j h0 c
            exact ⟨x, by simp [hx], hx'⟩
          · have : j = S.length := by simp at hj; omega
            subst this
            exact ⟨api_Edge.mk i k S.length, by simp, rfl, by simp, by simp; omega⟩
    · cases e; exact h.rch

theorem inner_sim (p : api_Program) {n i : Nat} (hn : n ≤ 1000) (hr : p.Rules.length ≤ 26) (hp : RulesOk p) {S : List (List Int)} {E : List api_Edge} (h : SpU n S E) (hi : i < S.length) (hE : E.length ≤ 26 * i) :
    (∃ S' E', forR (ref11_Explore_b2 p i) (irange 0 (p.Rules.length : Int)) (S, E) = some (.done (S', E')) ∧ forR (space_Explore_b2 p i) (irange 0 (p.Rules.length : Int)) (S, E, mapOf S) = some (.done (S', E', mapOf S')) ∧ SpU n S' E' ∧ S.length ≤ S'.length ∧ E'.length ≤ 26 * (i + 1) ∧ S'[0]? = S[0]?) ∨
    forR (ref11_Explore_b2 p i) (irange 0 (p.Rules.length : Int)) (S, E) = some (.ret (.ret (noneS, 21))) ∧ forR (space_Explore_b2 p i) (irange 0 (p.Rules.length : Int)) (S, E, mapOf S) = some (.ret (.ret (noneS, 21))) := by
  have := forR_sim (space_Explore_b2 p i) (ref11_Explore_b2 p i) (fun q => (q.1, q.2, mapOf q.1)) (fun r r' => r = .ret (noneS, 21) ∧ r' = .ret (noneS, 21)) (fun k q => SpU n q.1 q.2 ∧ S.length ≤ q.1.length ∧ q.2.length ≤ 26 * i + k ∧ q.1[0]? = S[0]?) p.Rules.length 0 (S, E) ⟨h, Nat.le_refl _, by simpa using hE, rfl⟩ (by
    rintro k ⟨T, F⟩ _ hk ⟨g1, g2, g3, g4⟩
    simp only at g1 g2 g3 g4
    have hkl : k < p.Rules.length := by omega
    have hk' := List.getElem?_eq_getElem hkl
    have hil : i < T.length := by omega
    have hle := g1.ok.le
    have hlen : (T[i]).length ≤ 1000 := by rw [g1.ok.len _ (List.getElem_mem hil)]; exact hn
    obtain ⟨q1, q2⟩ := hp.2 _ (List.getElem_mem hkl)
    rw [b2_eq p hk' (List.getElem?_eq_getElem hil) hlen (by omega) (by omega)]
    simp only
    rw [b2S_eq p hk' (List.getElem?_eq_getElem hil) hlen (by omega) (by omega) q1 g1.u16 q2]
    cases hst : stepE p.Rules[k] T[i] i k T F with
    | go S' E' =>
      obtain ⟨r1, r2, r3, r4, r5⟩ := stepE_ok g1.ok (List.getElem?_eq_getElem hil) hst
      exact .inl ⟨_, rfl, rfl, stepE_u g1 (List.getElem?_eq_getElem hil) q2 hst, by simp only; omega, by simp only; omega, by rw [r5]; exact g4⟩
    | many => exact .inr ⟨_, _, rfl, rfl, rfl, rfl⟩)
  rw [show (0 + p.Rules.length) = p.Rules.length by omega] at this
  rcases this with ⟨⟨S', E'⟩, e1, e2, g1, g2, g3, g4⟩ | ⟨r, r', e1, e2, rfl, rfl⟩
  · exact .inl ⟨S', E', e1, e2, g1, g2, by simp only at g3; omega, g4⟩
  · exact .inr ⟨e1, e2⟩

theorem outer_sim (p : api_Program) {n : Nat} (hn : n ≤ 1000) (hr : p.Rules.length ≤ 26) (hp : RulesOk p) : ∀ (d f i : Nat) (S : List (List Int)) (E : List api_Edge), SpU n S E → i ≤ S.length → E.length ≤ 26 * i → 129 ≤ i + d → d < f →
    (∃ S' E' j, whR (ref11_Explore_b1 p) f (S, E, (i : Int)) = some (.done (S', E', j)) ∧ whR (space_Explore_b1 p) f (S, E, mapOf S, (i : Int)) = some (.done (S', E', mapOf S', j)) ∧ SpU n S' E' ∧ E'.length ≤ 26 * 128) ∨
    whR (ref11_Explore_b1 p) f (S, E, (i : Int)) = some (.ret (noneS, 21)) ∧ whR (space_Explore_b1 p) f (S, E, mapOf S, (i : Int)) = some (.ret (noneS, 21)) := by
  intro d
  induction d with
  | zero => intro f i S E h hi hE hd hf; have := h.ok.le; omega
  | succ d ih =>
    intro f i S E h hi hE hd hf
    obtain ⟨f, rfl⟩ : ∃ g, f = g + 1 := ⟨f - 1, by omega⟩
    have hle := h.ok.le
    rw [whR_step, whR_step]
    simp only [ref11_Explore_b1, space_Explore_b1]
    by_cases c : i < S.length
    · rw [if_pos (by simp; omega), if_pos (by simp; omega)]
      rcases inner_sim p hn hr hp h c hE with ⟨S', E', e1, e2, g1, g2, g3, g4⟩ | ⟨e1, e2⟩
      · rw [e1, e2]
        simp only [Option.bind_some]
        have hw : IntKind.i64.wrap ((i : Int) + 1) = ((i + 1 : Nat) : Int) := by rw [w_i64 (by omega) (by omega)]; omega
        rw [hw]
        exact ih f (i + 1) S' E' g1 (by omega) g3 (by omega) (by omega)
      · rw [e1, e2]; exact .inr ⟨rfl, rfl⟩
    · rw [if_neg (by simp; omega), if_neg (by simp; omega)]
      exact .inl ⟨S, E, _, rfl, rfl, h, by omega⟩
end Go.AM
