import Derived.Test.YtkgegocfjalcbaaAmLp
import Derived.Test.YtkgegocfjalcbaaSpT
/-
  Layers 5 and 11 of the document's answer: what they compute, and that they answer.
-/
set_option linter.unusedVariables false
set_option linter.unusedSimpArgs false
namespace Go.AM
open Go

/-! loops that look for something -/

def runI {α ρ : Type} (step : Nat → α → Option ρ) : Nat → List α → Option ρ
  | _, [] => none
  | i, x :: l => match step i x with
    | some r => some r
    | none => runI step (i + 1) l

theorem forR_runI {α ρ : Type} (f : Int → Unit → Option (Br Unit ρ)) (step : Nat → α → Option ρ) : ∀ (l : List α) (a : Nat), (∀ (j : Nat) x, l[j]? = some x → f ((a + j : Nat) : Int) () = some (brOf (step (a + j) x))) →
    forR f (irange (a : Int) ((a + l.length : Nat) : Int)) () = some (exOf (runI step a l))
  | [], a, _ => by rw [show a + ([] : List α).length = a from rfl, irangeN_nil]; rfl
  | x :: l, a, h => by
    rw [show a + (x :: l).length = a + (l.length + 1) by simp, irangeN_cons]
    simp only [forR]
    have h0 := h 0 x rfl
    rw [Nat.add_zero] at h0
    rw [h0]
    simp only [Option.bind_some, runI]
    cases step a x with
    | some r => rfl
    | none =>
      show forR f _ () = _
      rw [show a + (l.length + 1) = a + 1 + l.length by omega]
      exact forR_runI f step l (a + 1) fun j y hj => by rw [show a + 1 + j = a + (j + 1) by omega]; exact h (j + 1) y (by simpa using hj)

theorem forR_runI0 {α ρ : Type} (f : Int → Unit → Option (Br Unit ρ)) (step : Nat → α → Option ρ) (l : List α) (h : ∀ (j : Nat) x, l[j]? = some x → f (j : Int) () = some (brOf (step j x))) :
    forR f (irange 0 (l.length : Int)) () = some (exOf (runI step 0 l)) := by
  have := forR_runI f step l 0 (fun j x hj => by rw [Nat.zero_add]; exact h j x hj)
  simpa using this

/-- The place of the first one, or -1. -/
def ix : Option Nat → Int
  | some i => i
  | none => -1

theorem runI_find {α : Type} (p : α → Bool) : ∀ (l : List α) (a : Nat), runI (fun i x => if p x then some ((i : Nat) : Int) else none) a l = (l.findIdx? p).map fun i => ((i + a : Nat) : Int)
  | [], a => rfl
  | x :: l, a => by
    simp only [runI, List.findIdx?_cons]
    by_cases h : p x = true
    · simp [h]
    · simp only [h, Bool.false_eq_true, if_false, runI_find p l (a + 1), Option.map_map]
      congr 1
      funext i
      simp only [Function.comp_apply]
      omega

theorem find_run {α : Type} (p : α → Bool) (l : List α) (f : Int → Unit → Option (Br Unit Int)) (h : ∀ (j : Nat) x, l[j]? = some x → f (j : Int) () = some (if p x then .ret (j : Int) else .next ())) :
    forR f (irange 0 (l.length : Int)) () = some (exOf ((l.findIdx? p).map fun (i : Nat) => (i : Int))) := by
  rw [forR_runI0 f (fun i x => if p x then some ((i : Nat) : Int) else none) l (fun j x hj => by
    rw [h j x hj]; cases p x <;> rfl), runI_find]
  rfl

/-- is there one? -/
theorem any_run {α ρ : Type} (p : α → Bool) (r : ρ) (l : List α) (f : Int → Unit → Option (Br Unit ρ)) (h : ∀ (j : Nat) x, l[j]? = some x → f (j : Int) () = some (if p x then .ret r else .next ())) :
    forR f (irange 0 (l.length : Int)) () = some (exOf (if l.any p then some r else none)) := by
  rw [forR_run0 f (fun x => if p x then some r else none) l (fun j x hj => by
    rw [h j x hj]; cases p x <;> rfl), runL_any]

/-! layer 5, for the policy drop -/

/-! layer 11 -/

def sameB (a b : List Int) : Bool := decide (a = b)

theorem same11 (a b : List Int) : ref11_Same a b = some (sameB a b) := by
  unfold ref11_Same sameB
  by_cases h : a.length = b.length
  · rw [if_neg (by simp; omega)]
    rw [forR_zip _ (fun x : Int × Int => if x.1 ≠ x.2 then some false else none) a b h (fun j x y hx hy => by
      simp only [ref11_Same_b1, gat_nat, hx, hy, Option.bind_some]
      by_cases c : x = y
      · subst c; simp [brOf]
      · simp [c, brOf])]
    have := zip_ne h
    have e : (fun x : Int × Int => if x.1 ≠ x.2 then some false else (none : Option Bool)) = fun x => if (decide (x.1 ≠ x.2)) then some false else none := by funext x; simp
    rw [e, runL_any, this]
    by_cases c : a = b
    · subst c; simp [exOf]
    · simp [c, exOf]
  · rw [if_pos (by simp; omega)]
    have : a ≠ b := fun e => h (by rw [e])
    simp [this]

def goB (r : api_Rule) (s : List Int) : Bool := !(r.Guard.any fun g => decide (g.F < 0) || decide (g.F ≥ s.length) || (s[g.F.toNat]?).getD 0 != g.N)

theorem goes11 (r : api_Rule) (s : List Int) : ref11_Goes r s = some (goB r s) := by
  unfold ref11_Goes goB
  rw [any_run (fun g : api_Pair => decide (g.F < 0) || decide (g.F ≥ s.length) || (s[g.F.toNat]?).getD 0 != g.N) false r.Guard]
  · cases r.Guard.any _ <;> rfl
  · intro j g hj
    simp only [ref11_Goes_b1, gat_nat, hj, Option.bind_some]
    by_cases c1 : g.F < 0
    · simp [c1]
    by_cases c2 : g.F ≥ s.length
    · simp [c1, c2]
    · have hlt : g.F.toNat < s.length := by omega
      simp [c1, c2, gat, show (0 : Int) ≤ g.F by omega, List.getElem?_eq_getElem hlt]
      by_cases c3 : s[g.F.toNat] = g.N <;> simp [c3]

def put1 (s : List Int) (t : api_Pair) : List Int := if 0 ≤ t.F then s.set t.F.toNat t.N else s
def aftL (r : api_Rule) (s : List Int) : List Int := r.Then.foldl put1 s

theorem after11 (r : api_Rule) (s : List Int) (hl : s.length ≤ 1000) : ref11_After r s = some (aftL r s) := by
  unfold ref11_After
  rw [gapp_some (by simp; omega)]
  simp only [Option.bind_some, List.nil_append]
  have := forO_list (ref11_After_b1 r) r.Then (fun l t => t = l.foldl put1 s) s rfl (fun i x t hx ht => by
    subst ht
    refine ⟨(r.Then.take i ++ [x]).foldl put1 s, ?_, rfl⟩
    rw [List.foldl_append]
    simp only [ref11_After_b1, gat_nat, hx, Option.bind_some, List.foldl_cons, List.foldl_nil]
    generalize hg : List.foldl put1 s (List.take i r.Then) = u
    by_cases c1 : x.F ≥ 0
    · by_cases c2 : x.F < u.length
      · have hlt : x.F.toNat < u.length := by omega
        rw [if_pos (by simp [c1, c2])]
        simp [gat, gput, show (0 : Int) ≤ x.F from c1, hlt, List.getElem?_eq_getElem hlt, put1]
      · rw [if_neg (by simp [c2])]
        simp [put1, show (0 : Int) ≤ x.F from c1]
        exact (List.set_eq_of_length_le (by omega)).symm
    · rw [if_neg (by simp [c1])]
      simp [put1, c1])
  obtain ⟨t, e, rfl⟩ := this
  rw [e]; rfl

end Go.AM
