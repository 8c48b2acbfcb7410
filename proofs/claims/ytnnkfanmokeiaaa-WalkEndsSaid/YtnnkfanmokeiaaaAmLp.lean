import Derived.Test.YtnnkfanmokeiaaaAmBy
set_option linter.unusedVariables false
set_option linter.unusedSectionVars false
set_option linter.unusedSimpArgs false
namespace Go.AM
open Go
theorem qH {σ ρ : Type} (f : σ → Option (Br σ ρ)) (k : Nat) (s : σ) : gh f (k + 1) s = (f s).bind fun x => match x with
    | .next s => gh f k s
    | .brk s => some (.done s)
    | .ret r => some (.ret r) := rfl
theorem qI {σ : Type} (f : σ → Option (σ ⊕ σ)) (k : Nat) (s : σ) : fM f (k + 1) s = (f s).bind fun x => match x with
    | .inl s => fM f k s
    | .inr s => some s := rfl
def fq {α ρ : Type} (step : α → Option ρ) : List α → Option ρ
  | [] => none
  | x :: l => match step x with
    | some r => some r
    | none => fq step l
def gm {ρ : Type} : Option ρ → Ex Unit ρ
  | some r => .ret r
  | none => .done ()
def fP {ρ : Type} : Option ρ → Br Unit ρ
  | some r => .ret r
  | none => .next ()
theorem mK {α ρ : Type} (f : Int → Unit → Option (Br Unit ρ)) (step : α → Option ρ) : ∀ (l : List α) (a : Nat), (∀ (j : Nat) x, l[j]? = some x → f ((a + j : Nat) : Int) () = some (fP (step x))) →
    cl f (bS (a : Int) ((a + l.length : Nat) : Int)) () = some (gm (fq step l))
  | [], a, _ => by rw [show a + ([] : List α).length = a from rfl, j3]; rfl
  | x :: l, a, h => by
    rw [show a + (x :: l).length = a + (l.length + 1) by simp, j1]
    simp only [cl]
    have h0 := h 0 x rfl
    rw [Nat.add_zero] at h0
    rw [h0]
    simp only [Option.bind_some, fq]
    cases step x with
    | some r => rfl
    | none =>
      show cl f _ () = _
      rw [show a + (l.length + 1) = a + 1 + l.length by omega]
      exact mK f step l (a + 1) fun j y hj => by rw [show a + 1 + j = a + (j + 1) by omega]; exact h (j + 1) y (by simpa using hj)
theorem iE {α ρ : Type} (f : Int → Unit → Option (Br Unit ρ)) (step : α → Option ρ) (l : List α) (h : ∀ (j : Nat) x, l[j]? = some x → f (j : Int) () = some (fP (step x))) :
    cl f (bS 0 (l.length : Int)) () = some (gm (fq step l)) := by
  have := mK f step l 0 (fun j x hj => by rw [Nat.zero_add]; exact h j x hj)
  simpa using this
end Go.AM
