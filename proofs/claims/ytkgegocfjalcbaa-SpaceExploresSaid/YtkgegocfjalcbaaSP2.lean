import Derived.Test.YtkgegocfjalcbaaSP1
/-
  Layer 11 of the document's answer: states and edges of a program.
-/
set_option linter.unusedVariables false
set_option linter.unusedSimpArgs false
namespace Go.AM
open Go

def noneS : api_Space := api_Space.mk [] []

/-- A space on its way: n is the number of parts of a state. -/
structure SpOk (n : Nat) (S : List (List Int)) (E : List api_Edge) : Prop where
  ne : S ≠ []
  le : S.length ≤ 128
  len : ∀ s ∈ S, s.length = n
  edg : ∀ e ∈ E, (0 ≤ e.From ∧ e.From < S.length) ∧ (0 ≤ e.To ∧ e.To < S.length)

inductive StepE where
  | go (S : List (List Int)) (E : List api_Edge)
  | many

def stepE (r : api_Rule) (s : List Int) (i k : Nat) (S : List (List Int)) (E : List api_Edge) : StepE :=
  if goB r s && !sameB (aftL r s) s then
    match S.findIdx? (fun x => sameB x (aftL r s)) with
    | some a => if S.length > 128 then .many else .go S (E ++ [api_Edge.mk i k a])
    | none => if S.length + 1 > 128 then .many else .go (S ++ [aftL r s]) (E ++ [api_Edge.mk i k S.length])
  else .go S E

theorem b2_eq (p : api_Program) {i k : Nat} {S : List (List Int)} {E : List api_Edge} {r : api_Rule} {s : List Int} (hr : p.Rules[k]? = some r) (hs : S[i]? = some s) (h1 : s.length ≤ 1000) (h2 : S.length ≤ 1000) (h3 : E.length ≤ 100000) :
    ref11_Explore_b2 p i k (S, E) = some (match stepE r s i k S E with | .go S' E' => .next (S', E') | .many => .ret (.ret (noneS, 21))) := by
  unfold ref11_Explore_b2 stepE
  simp only [gat_nat, hr, hs, Option.bind_some, goes11, after11 r s h1, same11, find11]
  cases hg : goB r s
  · simp
  cases hsm : sameB (aftL r s) s
  · cases hf : S.findIdx? (fun x => sameB x (aftL r s)) with
    | some a =>
      have hd : decide (ix (some a) < 0) = false := by show decide ((a : Int) < 0) = false; simp
      simp only [Bool.not_true, Bool.false_eq_true, if_false, hd, Option.bind_some, Bool.not_false, Bool.and_self, if_true]
      by_cases c : S.length > 128
      · rw [if_pos (by simp; omega), if_pos c]; rfl
      · rw [if_neg (by simp; omega), if_neg c, gapp_some (by simp; omega)]; rfl
    | none =>
      have hd : decide (ix none < 0) = true := rfl
      simp only [Bool.not_true, Bool.false_eq_true, if_false, hd, if_true, Bool.not_false, Bool.and_self]
      rw [gapp_some (by simp; omega)]
      simp only [Option.bind_some]
      by_cases c : S.length + 1 > 128
      · rw [if_pos (by simp; omega), if_pos c]; rfl
      · rw [if_neg (by simp; omega), if_neg c, gapp_some (by simp; omega)]; rfl
  · simp

theorem aft_len {r : api_Rule} {s : List Int} {n : Nat} (h : s.length = n) : (aftL r s).length = n := by rw [aftL_len, h]

theorem stepE_ok {n : Nat} {r : api_Rule} {s : List Int} {i k : Nat} {S S' : List (List Int)} {E E' : List api_Edge} (h : SpOk n S E) (hi : S[i]? = some s) (e : stepE r s i k S E = .go S' E') :
    SpOk n S' E' ∧ S.length ≤ S'.length ∧ E'.length ≤ E.length + 1 ∧ S' = S ++ S'.drop S.length ∧ S'[0]? = S[0]? := by
  have hil : i < S.length := (List.getElem?_eq_some_iff.1 hi).1
  have hs : s.length = n := h.len s (List.mem_of_getElem? hi)
  unfold stepE at e
  split at e
  · split at e
    · rename_i a ha
      obtain ⟨hal, _⟩ := List.findIdx?_eq_some_iff_getElem.1 ha
      split at e
      · cases e
      · cases e
        refine ⟨⟨h.ne, h.le, h.len, fun x hx => ?_⟩, Nat.le_refl _, by simp, by simp, rfl⟩
        rcases List.mem_append.1 hx with hx | hx
        · exact h.edg x hx
        · simp at hx; subst hx; refine ⟨⟨by simp, ?_⟩, by simp, ?_⟩ <;> simp <;> omega
    · rename_i ha
      split at e
      · cases e
      · rename_i c
        cases e
        refine ⟨⟨by simp, by simp; omega, fun x hx => ?_, fun x hx => ?_⟩, by simp, by simp, by simp, ?_⟩
        · rcases List.mem_append.1 hx with hx | hx
          · exact h.len x hx
          · simp at hx; subst hx; exact aft_len hs
        · rcases List.mem_append.1 hx with hx | hx
          · have := h.edg x hx; simp; omega
          · simp at hx; subst hx; refine ⟨⟨by simp, ?_⟩, by simp, ?_⟩ <;> simp <;> omega
        · rw [List.getElem?_append_left (by omega)]
  · cases e; exact ⟨h, Nat.le_refl _, by omega, by simp, rfl⟩

/-! does a way lead back? -/

theorem gput_lt {α : Type} (l : List α) {i : Int} (h0 : 0 ≤ i) (h1 : i < l.length) (v : α) : gput l i v = some (l.set i.toNat v) := by
  unfold gput
  rw [if_pos h0, if_pos (by omega)]

end Go.AM
