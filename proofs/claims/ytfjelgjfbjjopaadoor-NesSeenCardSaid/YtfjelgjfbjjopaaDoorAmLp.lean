import Derived.Test.YtfjelgjfbjjopaaDoorAmBy
set_option linter.unusedVariables false
set_option linter.unusedSectionVars false
set_option linter.unusedSimpArgs false
namespace Go.AM
open Go
theorem jH {σ ρ : Type} (f : σ → Option (Br σ ρ)) (k : Nat) (s : σ) : dk f (k + 1) s = (f s).bind fun x => match x with
    | .next s => dk f k s
    | .brk s => some (.done s)
    | .ret r => some (.ret r) := rfl
theorem pP {σ : Type} (f : σ → Option (σ ⊕ σ)) (k : Nat) (s : σ) : iV f (k + 1) s = (f s).bind fun x => match x with
    | .inl s => iV f k s
    | .inr s => some s := rfl
def jI {α ρ : Type} (step : α → Option ρ) : List α → Option ρ
  | [] => none
  | x :: l => match step x with
    | some r => some r
    | none => jI step l
def d8 {ρ : Type} : Option ρ → Ex Unit ρ
  | some r => .ret r
  | none => .done ()
def iz {ρ : Type} : Option ρ → Br Unit ρ
  | some r => .ret r
  | none => .next ()
theorem tT {α ρ : Type} (f : Int → Unit → Option (Br Unit ρ)) (step : α → Option ρ) : ∀ (l : List α) (a : Nat), (∀ (j : Nat) x, l[j]? = some x → f ((a + j : Nat) : Int) () = some (iz (step x))) →
    bE f (aS (a : Int) ((a + l.length : Nat) : Int)) () = some (d8 (jI step l))
  | [], a, _ => by rw [show a + ([] : List α).length = a from rfl, jF]; rfl
  | x :: l, a, h => by
    rw [show a + (x :: l).length = a + (l.length + 1) by simp, jE]
    simp only [bE]
    have h0 := h 0 x rfl
    rw [Nat.add_zero] at h0
    rw [h0]
    simp only [Option.bind_some, jI]
    cases step x with
    | some r => rfl
    | none =>
      show bE f _ () = _
      rw [show a + (l.length + 1) = a + 1 + l.length by omega]
      exact tT f step l (a + 1) fun j y hj => by rw [show a + 1 + j = a + (j + 1) by omega]; exact h (j + 1) y (by simpa using hj)
theorem tU {α ρ : Type} (f : Int → Unit → Option (Br Unit ρ)) (step : α → Option ρ) (l : List α) (h : ∀ (j : Nat) x, l[j]? = some x → f (j : Int) () = some (iz (step x))) :
    bE f (aS 0 (l.length : Int)) () = some (d8 (jI step l)) := by
  have := tT f step l 0 (fun j x hj => by rw [Nat.zero_add]; exact h j x hj)
  simpa using this
theorem tV {α β ρ : Type} (f : Int → Unit → Option (Br Unit ρ)) (step : α × β → Option ρ) (l : List α) (m : List β) (hl : l.length = m.length) (h : ∀ (j : Nat) x y, l[j]? = some x → m[j]? = some y → f (j : Int) () = some (iz (step (x, y)))) :
    bE f (aS 0 (l.length : Int)) () = some (d8 (jI step (l.zip m))) := by
  have hz : (l.zip m).length = l.length := by simp; omega
  have := tU f step (l.zip m) fun j x hj => by
    rw [List.getElem?_zip_eq_some] at hj
    exact h j x.1 x.2 hj.1 hj.2
  rwa [hz] at this
theorem nq {α ρ : Type} (p : α → Bool) (r : ρ) : ∀ l : List α, jI (fun x => if p x then some r else none) l = if l.any p then some r else none
  | [] => rfl
  | x :: l => by
    simp only [jI, List.any_cons]
    by_cases h : p x = true
    · simp [h]
    · simp [h, nq p r l]
theorem pQ {α : Type} [DecidableEq α] : ∀ {l m : List α}, l.length = m.length → ((l.zip m).any fun x => decide (x.1 ≠ x.2)) = !decide (l = m)
  | [], [], _ => rfl
  | x :: l, y :: m, h => by
    simp only [List.zip_cons_cons, List.any_cons, pQ (l := l) (m := m) (by simpa using h)]
    by_cases c : x = y
    · subst c; simp
    · simp [c]
  | [], _ :: _, h => by simp at h
  | _ :: _, [], h => by simp at h
end Go.AM
