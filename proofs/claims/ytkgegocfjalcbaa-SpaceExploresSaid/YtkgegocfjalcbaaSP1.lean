import Derived.Test.YtkgegocfjalcbaaAmLp
import Derived.Test.YtkgegocfjalcbaaSpT
/-
  Layers 5 and 11 of the document's answer: what they compute, and that they answer.
-/
set_option linter.unusedVariables false
set_option linter.unusedSimpArgs false
namespace Go.AM
open Go

/-! loops that look for something -/

def runI {α ρ : Type} (step : Nat → α → Option ρ) : Nat → List α → Option ρ
  | _, [] => none
  | i, x :: l => match step i x with
    | some r => some r
    | none => runI step (i + 1) l

theorem forR_runI {α ρ : Type} (f : Int → Unit → Option (Br Unit ρ)) (step : Nat → α → Option ρ) : ∀ (l : List α) (a : Nat), (∀ (j : Nat) x, l[j]? = some x → f ((a + j : Nat) : Int) () = some (brOf (step (a + j) x))) →
    forR f (irange (a : Int) ((a + l.length : Nat) : Int)) () = some (exOf (runI step a l))
  | [], a, _ => by rw [show a + ([] : List α).length = a from rfl, irangeN_nil]; rfl
  | x :: l, a, h => by
    rw [show a + (x :: l).length = a + (l.length + 1) by simp, irangeN_cons]
    simp only [forR]
    have h0 := h 0 x rfl
    rw [Nat.add_zero] at h0
    rw [h0]
    simp only [Option.bind_some, runI]
    cases step a x with
    | some r => rfl
    | none =>
      show forR f _ () = _
      rw [show a + (l.length + 1) = a + 1 + l.length by omega]
      exact forR_runI f step l (a + 1) fun j y hj => by rw [show a + 1 + j = a + (j + 1) by omega]; exact h (j + 1) y (by simpa using hj)

theorem forR_runI0 {α ρ : Type} (f : Int → Unit → Option (Br Unit ρ)) (step : Nat → α → Option ρ) (l : List α) (h : ∀ (j : Nat) x, l[j]? = some x → f (j : Int) () = some (brOf (step j x))) :
    forR f (irange 0 (l.length : Int)) () = some (exOf (runI step 0 l)) := by
  have := forR_runI f step l 0 (fun j x hj => by rw [Nat.zero_add]; exact h j x hj)
  simpa using this

/-- The place of the first one, or -1. -/
def ix : Option Nat → Int
  | some i => i
  | none => -1

theorem runI_find {α : Type} (p : α → Bool) : ∀ (l : List α) (a : Nat), runI (fun i x => if p x then some ((i : Nat) : Int) else none) a l = (l.findIdx? p).map fun i => ((i + a : Nat) : Int)
  | [], a => rfl
  | x :: l, a => by
    simp only [runI, List.findIdx?_cons]
    by_cases h : p x = true
    · simp [h]
    · simp only [h, Bool.false_eq_true, if_false, runI_find p l (a + 1), Option.map_map]
      congr 1
      funext i
      simp only [Function.comp_apply]
      omega

theorem find_run {α : Type} (p : α → Bool) (l : List α) (f : Int → Unit → Option (Br Unit Int)) (h : ∀ (j : Nat) x, l[j]? = some x → f (j : Int) () = some (if p x then .ret (j : Int) else .next ())) :
    forR f (irange 0 (l.length : Int)) () = some (exOf ((l.findIdx? p).map fun (i : Nat) => (i : Int))) := by
  rw [forR_runI0 f (fun i x => if p x then some ((i : Nat) : Int) else none) l (fun j x hj => by
    rw [h j x hj]; cases p x <;> rfl), runI_find]
  rfl

/-- is there one? -/
theorem any_run {α ρ : Type} (p : α → Bool) (r : ρ) (l : List α) (f : Int → Unit → Option (Br Unit ρ)) (h : ∀ (j : Nat) x, l[j]? = some x → f (j : Int) () = some (if p x then .ret r else .next ())) :
    forR f (irange 0 (l.length : Int)) () = some (exOf (if l.any p then some r else none)) := by
  rw [forR_run0 f (fun x => if p x then some r else none) l (fun j x hj => by
    rw [h j x hj]; cases p x <;> rfl), runL_any]

/-! layer 5, for the policy drop -/

def dropP : api_Pol := api_Pol.mk 0 0 0 []

theorem size_drop : ref05_Size dropP = some 1 := by
  obtain ⟨m, hm⟩ := FUEL_big 1 (by omega)
  unfold ref05_Size; rw [hm]; rfl
theorem depth_drop : ref05_Depth dropP = some 1 := by
  obtain ⟨m, hm⟩ := FUEL_big 1 (by omega)
  unfold ref05_Depth; rw [hm]; rfl
theorem formed_drop (n : Int) : ref05_formed dropP n = some true := by
  obtain ⟨m, hm⟩ := FUEL_big 1 (by omega)
  unfold ref05_formed; rw [hm]; rfl

def risingB (l : List api_Pair) (n : Int) : Bool :=
  !(l.zipIdx.any fun p => decide (p.1.F < 0) || decide (p.1.F ≥ n) || (decide (p.2 > 0) && decide (((l[p.2 - 1]?).getD (api_Pair.mk 0 0)).F ≥ p.1.F)))

theorem rising_ok (l : List api_Pair) (n : Int) (hl : l.length ≤ 1000) : ref05_rising l n = some (risingB l n) := by
  unfold ref05_rising
  have hz : (l.zipIdx).length = l.length := by simp
  rw [← hz, any_run (fun p : api_Pair × Nat => decide (p.1.F < 0) || decide (p.1.F ≥ n) || (decide (p.2 > 0) && decide (((l[p.2 - 1]?).getD (api_Pair.mk 0 0)).F ≥ p.1.F))) false l.zipIdx]
  · unfold risingB; cases (l.zipIdx.any _) <;> rfl
  · rintro j ⟨x, k⟩ hj
    rw [List.getElem?_zipIdx] at hj
    cases hx : l[j]? with
    | none => rw [hx] at hj; cases hj
    | some y =>
      rw [hx] at hj
      simp at hj
      obtain ⟨rfl, rfl⟩ := hj
      have hi : j < l.length := (List.getElem?_eq_some_iff.1 hx).1
      unfold ref05_rising_b1
      simp only [gat_nat, hx, Option.bind_some]
      by_cases c1 : y.F < 0
      · simp [c1]
      by_cases c2 : y.F ≥ n
      · simp [c1, c2]
      by_cases c3 : 0 < j
      · have hw : IntKind.i64.wrap ((j : Int) - 1) = ((j - 1 : Nat) : Int) := by rw [w_i64 (by omega) (by omega)]; omega
        rw [hw, gat_nat, List.getElem?_eq_getElem (show j - 1 < l.length by omega)]
        simp [c1, c2, c3]
        by_cases c4 : y.F ≤ l[j - 1].F <;> simp [c4]
      · simp [c1, c2, c3]

def ruleBad (r : api_Rule) (n : Int) : Bool :=
  decide (r.When.length < 2) || (r.When[0]?.map (·.F)).getD 0 != 0 || (r.When[1]?.map (·.F)).getD 0 != 1 || !risingB r.When 8 || !risingB r.Guard n || !risingB r.Then n || r.Then.isEmpty

def SmallP (p : api_Program) : Prop := p.Init.length ≤ 5 ∧ p.Rules.length ≤ 26 ∧ ∀ r ∈ p.Rules, r.When.length ≤ 8 ∧ r.Guard.length ≤ 6 ∧ r.Then.length ≤ 6

theorem small_ok (p : api_Program) : ∃ b, law11_Small p = some b ∧ (b = true → SmallP p) := by
  unfold law11_Small
  by_cases c : (decide ((p.Init.length : Int) > 5)) || (decide ((p.Rules.length : Int) > 26))
  · rw [if_pos c]; exact ⟨_, rfl, fun h => by cases h⟩
  · rw [if_neg c]
    rw [any_run (fun x : api_Rule => decide ((x.When.length : Int) > 8) || (decide ((x.Guard.length : Int) > 6) || decide ((x.Then.length : Int) > 6))) false p.Rules _ (fun j x hj => by
      simp only [law11_Small_b1, gat_nat, hj, Option.bind_some]
      split <;> rfl)]
    generalize hq : p.Rules.any _ = q
    by_cases hqt : q = true
    · subst hqt; exact ⟨_, rfl, fun h => by cases h⟩
    have hqf : q = false := by simpa using hqt
    subst hqf
    refine ⟨_, rfl, fun _ => ?_⟩
    simp at c hq
    have h := hq
    refine ⟨by omega, by omega, fun r hr => ?_⟩
    have := h r hr
    omega

def chk05 (p : api_Program) : Int :=
  if p.Init.length < 1 ∨ p.Init.length > 4 ∨ p.Rules.length > 24 then 2 else if p.Rules.any (fun r => ruleBad r p.Init.length) then 11 else 0

theorem check_ok (p : api_Program) (hp : p.Pol = dropP) (hs : SmallP p) : ref05_Check p = some (chk05 p) := by
  obtain ⟨h1, h2, h3⟩ := hs
  unfold ref05_Check chk05
  rw [hp, size_drop, depth_drop, formed_drop]
  by_cases c1 : p.Init.length < 1
  · rw [if_pos (by simp; omega), if_pos (by omega)]; rfl
  by_cases c2 : p.Init.length > 4
  · rw [if_neg (by simp; omega), if_pos (by simp; omega), if_pos (by omega)]; rfl
  rw [if_neg (by simp; omega), if_neg (by simp; omega)]
  by_cases c3 : p.Rules.length > 24
  · rw [if_pos (show p.Init.length < 1 ∨ p.Init.length > 4 ∨ p.Rules.length > 24 by omega)]
    have e : (decide ((p.Rules.length : Int) > 24)) = true := by simp; omega
    simp only [Option.bind_some, e, show decide ((1 : Int) > 300) = false from rfl, show decide ((1 : Int) > 20) = false from rfl, Bool.false_eq_true, if_false, if_true]
  rw [if_neg (show ¬ (p.Init.length < 1 ∨ p.Init.length > 4 ∨ p.Rules.length > 24) by omega)]
  have e : (decide ((p.Rules.length : Int) > 24)) = false := by simp; omega
  simp only [Option.bind_some, e, Bool.not_true, Bool.false_eq_true, if_false, show decide ((1 : Int) > 300) = false from rfl, show decide ((1 : Int) > 20) = false from rfl]
  rw [any_run (fun r => ruleBad r p.Init.length) 11 p.Rules]
  · cases p.Rules.any _ <;> rfl
  intro j x hj
  obtain ⟨g1, g2, g3⟩ := h3 x (List.mem_of_getElem? hj)
  unfold ref05_Check_b1
  simp only [gat_nat, hj, Option.bind_some, rising_ok _ _ (show x.When.length ≤ 1000 by omega), rising_ok _ _ (show x.Guard.length ≤ 1000 by omega), rising_ok _ _ (show x.Then.length ≤ 1000 by omega)]
  unfold ruleBad
  match hw : x.When with
  | [] => simp
  | [a] => simp
  | a :: b :: r =>
    simp [gat]
    by_cases d1 : a.F = 0
    · by_cases d2 : b.F = 1
      · cases d3 : risingB (a :: b :: r) 8 <;> cases d4 : risingB x.Guard (p.Init.length : Int) <;> cases d5 : risingB x.Then (p.Init.length : Int) <;> cases d6 : x.Then <;> simp [d1, d2, d3, d4, d5, show ¬ ((r.length : Int) + 1 + 1 < 2) by omega, show ¬ (r.length + 1 + 1 < 2) by omega] <;> (try omega)
      · simp [d1, d2]
    · simp [d1]

/-! layer 11 -/

def sameB (a b : List Int) : Bool := decide (a = b)

theorem same11 (a b : List Int) : ref11_Same a b = some (sameB a b) := by
  unfold ref11_Same sameB
  by_cases h : a.length = b.length
  · rw [if_neg (by simp; omega)]
    rw [forR_zip _ (fun x : Int × Int => if x.1 ≠ x.2 then some false else none) a b h (fun j x y hx hy => by
      simp only [ref11_Same_b1, gat_nat, hx, hy, Option.bind_some]
      by_cases c : x = y
      · subst c; simp [brOf]
      · simp [c, brOf])]
    have := zip_ne h
    have e : (fun x : Int × Int => if x.1 ≠ x.2 then some false else (none : Option Bool)) = fun x => if (decide (x.1 ≠ x.2)) then some false else none := by funext x; simp
    rw [e, runL_any, this]
    by_cases c : a = b
    · subst c; simp [exOf]
    · simp [c, exOf]
  · rw [if_pos (by simp; omega)]
    have : a ≠ b := fun e => h (by rw [e])
    simp [this]

theorem find11 (l : List (List Int)) (s : List Int) : ref11_Find l s = some (ix (l.findIdx? fun x => sameB x s)) := by
  unfold ref11_Find
  rw [find_run (fun x => sameB x s) l _ fun j x hj => by
    simp only [ref11_Find_b1, gat_nat, hj, Option.bind_some, same11]
    cases sameB x s <;> rfl]
  cases l.findIdx? _ <;> rfl

def goB (r : api_Rule) (s : List Int) : Bool := !(r.Guard.any fun g => decide (g.F < 0) || decide (g.F ≥ s.length) || (s[g.F.toNat]?).getD 0 != g.N)

theorem goes11 (r : api_Rule) (s : List Int) : ref11_Goes r s = some (goB r s) := by
  unfold ref11_Goes goB
  rw [any_run (fun g : api_Pair => decide (g.F < 0) || decide (g.F ≥ s.length) || (s[g.F.toNat]?).getD 0 != g.N) false r.Guard]
  · cases r.Guard.any _ <;> rfl
  · intro j g hj
    simp only [ref11_Goes_b1, gat_nat, hj, Option.bind_some]
    by_cases c1 : g.F < 0
    · simp [c1]
    by_cases c2 : g.F ≥ s.length
    · simp [c1, c2]
    · have hlt : g.F.toNat < s.length := by omega
      simp [c1, c2, gat, show (0 : Int) ≤ g.F by omega, List.getElem?_eq_getElem hlt]
      by_cases c3 : s[g.F.toNat] = g.N <;> simp [c3]

def put1 (s : List Int) (t : api_Pair) : List Int := if 0 ≤ t.F then s.set t.F.toNat t.N else s
def aftL (r : api_Rule) (s : List Int) : List Int := r.Then.foldl put1 s

theorem put1_len (s : List Int) (t : api_Pair) : (put1 s t).length = s.length := by unfold put1; split <;> simp
theorem fold_len : ∀ (l : List api_Pair) (s : List Int), (l.foldl put1 s).length = s.length
  | [], _ => rfl
  | t :: l, s => by rw [List.foldl_cons, fold_len, put1_len]
theorem aftL_len (r : api_Rule) (s : List Int) : (aftL r s).length = s.length := fold_len _ _

theorem after11 (r : api_Rule) (s : List Int) (hl : s.length ≤ 1000) : ref11_After r s = some (aftL r s) := by
  unfold ref11_After
  rw [gapp_some (by simp; omega)]
  simp only [Option.bind_some, List.nil_append]
  have := forO_list (ref11_After_b1 r) r.Then (fun l t => t = l.foldl put1 s) s rfl (fun i x t hx ht => by
    subst ht
    refine ⟨(r.Then.take i ++ [x]).foldl put1 s, ?_, rfl⟩
    rw [List.foldl_append]
    simp only [ref11_After_b1, gat_nat, hx, Option.bind_some, List.foldl_cons, List.foldl_nil]
    generalize hg : List.foldl put1 s (List.take i r.Then) = u
    by_cases c1 : x.F ≥ 0
    · by_cases c2 : x.F < u.length
      · have hlt : x.F.toNat < u.length := by omega
        rw [if_pos (by simp [c1, c2])]
        simp [gat, gput, show (0 : Int) ≤ x.F from c1, hlt, List.getElem?_eq_getElem hlt, put1]
      · rw [if_neg (by simp [c2])]
        simp [put1, show (0 : Int) ≤ x.F from c1]
        exact (List.set_eq_of_length_le (by omega)).symm
    · rw [if_neg (by simp [c1])]
      simp [put1, c1])
  obtain ⟨t, e, rfl⟩ := this
  rw [e]; rfl

end Go.AM
