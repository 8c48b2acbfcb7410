import Derived.Test.YtfjelgjfbjjopaaAmN6
/-  Several texts in one. -/
section
set_option linter.unusedVariables false
set_option linter.unusedSectionVars false
set_option linter.unusedSimpArgs false
namespace Go.AM
open Go
theorem w_u8 (n : Int) : IntKind.u8.wrap n = n % 256 := qF n
theorem nY (i k : Nat) : bq (i : Int) ((i + k : Nat) : Int) = (List.range k).map fun (j : Nat) => ((i + j : Nat) : Int) := by
  simp only [bq]
  rw [show (((i + k : Nat) : Int) - (i : Int)).toNat = k by omega]
  refine List.map_congr_left fun j _ => ?_
  push_cast; rfl
theorem gS (i k : Nat) : bq (i : Int) ((i + (k + 1) : Nat) : Int) = (i : Int) :: bq ((i + 1 : Nat) : Int) ((i + (k + 1) : Nat) : Int) := by
  rw [nY, show i + (k + 1) = (i + 1) + k by omega, nY, List.range_succ_eq_map]
  simp only [List.map_cons, List.map_map, Nat.add_zero]
  congr 1
  refine List.map_congr_left fun j _ => ?_
  simp only [Function.comp_apply, Nat.succ_eq_add_one]
  push_cast; omega
theorem gT (i : Nat) : bq (i : Int) (i : Int) = [] := by simp [bq]
theorem gU {α : Type} {xs ys : List α} (h : xs.length + ys.length ≤ 4294967296) : cU xs ys = some (xs ++ ys) := by unfold cU; rw [if_pos h]
theorem bV {α : Type} (l : List α) (i : Nat) : aW l (i : Int) = l[i]? := by
  unfold aW; rw [if_pos (by omega), Int.toNat_natCast]
theorem lf {σ : Type} (f : Int → σ → Option σ) (P : Nat → σ → Prop) : ∀ (k i : Nat) (s : σ), P i s → (∀ j s, i ≤ j → j < i + k → P j s → ∃ s', f (j : Int) s = some s' ∧ P (j + 1) s') →
    ∃ s', bS f (bq (i : Int) ((i + k : Nat) : Int)) s = some s' ∧ P (i + k) s'
  | 0, i, s, h, _ => ⟨s, by rw [show i + 0 = i from rfl, gT]; rfl, h⟩
  | k + 1, i, s, h, hs => by
    obtain ⟨s1, e1, h1⟩ := hs i s (Nat.le_refl _) (by omega) h
    obtain ⟨s2, e2, h2⟩ := lf f P k (i + 1) s1 h1 fun j s hj hk => hs j s (by omega) (by omega)
    refine ⟨s2, ?_, by rwa [show i + (k + 1) = i + 1 + k by omega]⟩
    rw [gS]
    simp only [bS]
    rw [e1]
    simp only [Option.bind_some]
    rw [show i + (k + 1) = i + 1 + k by omega]
    exact e2
theorem rt {α σ : Type} (f : Int → σ → Option σ) (l : List α) (P : List α → σ → Prop) (s : σ) (h0 : P [] s) (hs : ∀ i x s, l[i]? = some x → P (l.take i) s → ∃ s', f (i : Int) s = some s' ∧ P (l.take i ++ [x]) s') :
    ∃ s', bS f (bq 0 (l.length : Int)) s = some s' ∧ P l s' := by
  have := lf f (fun i s => P (l.take i) s) l.length 0 s (by simpa using h0) (fun j s _ hj h => by
    have hj' : j < l.length := by omega
    obtain ⟨s', e, h'⟩ := hs j l[j] s (bt hj') h
    exact ⟨s', e, by rwa [List.take_add_one, bt hj']⟩)
  obtain ⟨s', e, h'⟩ := this
  refine ⟨s', by simpa using e, by simpa using h'⟩
end Go.AM
end
section
set_option linter.unusedVariables false
set_option linter.unusedSectionVars false
set_option linter.unusedSimpArgs false
namespace Go.AM
open Go
def f4 {α ρ : Type} (step : α → Option ρ) : List α → Option ρ
  | [] => none
  | x :: l => match step x with
    | some r => some r
    | none => f4 step l
def iL {ρ : Type} : Option ρ → Ex Unit ρ
  | some r => .ret r
  | none => .done ()
def iM {ρ : Type} : Option ρ → Br Unit ρ
  | some r => .ret r
  | none => .next ()
theorem nZ {α ρ : Type} (f : Int → Unit → Option (Br Unit ρ)) (step : α → Option ρ) : ∀ (l : List α) (a : Nat), (∀ (j : Nat) x, l[j]? = some x → f ((a + j : Nat) : Int) () = some (iM (step x))) →
    cG f (bq (a : Int) ((a + l.length : Nat) : Int)) () = some (iL (f4 step l))
  | [], a, _ => by rw [show a + ([] : List α).length = a from rfl, gT]; rfl
  | x :: l, a, h => by
    rw [show a + (x :: l).length = a + (l.length + 1) by simp, gS]
    simp only [cG]
    have h0 := h 0 x rfl
    rw [Nat.add_zero] at h0
    rw [h0]
    simp only [Option.bind_some, f4]
    cases step x with
    | some r => rfl
    | none =>
      show cG f _ () = _
      rw [show a + (l.length + 1) = a + 1 + l.length by omega]
      exact nZ f step l (a + 1) fun j y hj => by rw [show a + 1 + j = a + (j + 1) by omega]; exact h (j + 1) y (by simpa using hj)
theorem ru {α ρ : Type} (f : Int → Unit → Option (Br Unit ρ)) (step : α → Option ρ) (l : List α) (h : ∀ (j : Nat) x, l[j]? = some x → f (j : Int) () = some (iM (step x))) :
    cG f (bq 0 (l.length : Int)) () = some (iL (f4 step l)) := by
  have := nZ f step l 0 (fun j x hj => by rw [Nat.zero_add]; exact h j x hj)
  simpa using this
theorem n5 {α β ρ : Type} (f : Int → Unit → Option (Br Unit ρ)) (step : α × β → Option ρ) (l : List α) (m : List β) (hl : l.length = m.length) (h : ∀ (j : Nat) x y, l[j]? = some x → m[j]? = some y → f (j : Int) () = some (iM (step (x, y)))) :
    cG f (bq 0 (l.length : Int)) () = some (iL (f4 step (l.zip m))) := by
  have hz : (l.zip m).length = l.length := by simp; omega
  have := ru f step (l.zip m) fun j x hj => by
    rw [List.getElem?_zip_eq_some] at hj
    exact h j x.1 x.2 hj.1 hj.2
  rwa [hz] at this
theorem lg {α ρ : Type} (p : α → Bool) (r : ρ) : ∀ l : List α, f4 (fun x => if p x then some r else none) l = if l.any p then some r else none
  | [] => rfl
  | x :: l => by
    simp only [f4, List.any_cons]
    by_cases h : p x = true
    · simp [h]
    · simp [h, lg p r l]
theorem lh {α : Type} [DecidableEq α] : ∀ {l m : List α}, l.length = m.length → ((l.zip m).any fun x => decide (x.1 ≠ x.2)) = !decide (l = m)
  | [], [], _ => rfl
  | x :: l, y :: m, h => by
    simp only [List.zip_cons_cons, List.any_cons, lh (l := l) (m := m) (by simpa using h)]
    by_cases c : x = y
    · subst c; simp
    · simp [c]
  | [], _ :: _, h => by simp at h
  | _ :: _, [], h => by simp at h
end Go.AM
end
