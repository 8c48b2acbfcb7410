import Derived.Test.YtkgegocfjalcbaaAmLp
import Derived.Test.YtkgegocfjalcbaaSpT
/-  Layer 11: all of the plain law, in one text (SP0 to SP11). -/
set_option linter.unusedVariables false
set_option linter.unusedSimpArgs false
namespace Go.AM
open Go
theorem awake11 : law11_awake = some true := by decide +kernel
end Go.AM
/-
  Layers 5 and 11 of the document's answer: what they compute, and that they answer.
-/
namespace Go.AM
open Go

/-! loops that look for something -/

def runI {α ρ : Type} (step : Nat → α → Option ρ) : Nat → List α → Option ρ
  | _, [] => none
  | i, x :: l => match step i x with
    | some r => some r
    | none => runI step (i + 1) l

theorem forR_runI {α ρ : Type} (f : Int → Unit → Option (Br Unit ρ)) (step : Nat → α → Option ρ) : ∀ (l : List α) (a : Nat), (∀ (j : Nat) x, l[j]? = some x → f ((a + j : Nat) : Int) () = some (brOf (step (a + j) x))) →
    forR f (irange (a : Int) ((a + l.length : Nat) : Int)) () = some (exOf (runI step a l))
  | [], a, _ => by rw [show a + ([] : List α).length = a from rfl, irangeN_nil]; rfl
  | x :: l, a, h => by
    rw [show a + (x :: l).length = a + (l.length + 1) by simp, irangeN_cons]
    simp only [forR]
    have h0 := h 0 x rfl
    rw [Nat.add_zero] at h0
    rw [h0]
    simp only [Option.bind_some, runI]
    cases step a x with
    | some r => rfl
    | none =>
      show forR f _ () = _
      rw [show a + (l.length + 1) = a + 1 + l.length by omega]
      exact forR_runI f step l (a + 1) fun j y hj => by rw [show a + 1 + j = a + (j + 1) by omega]; exact h (j + 1) y (by simpa using hj)

theorem forR_runI0 {α ρ : Type} (f : Int → Unit → Option (Br Unit ρ)) (step : Nat → α → Option ρ) (l : List α) (h : ∀ (j : Nat) x, l[j]? = some x → f (j : Int) () = some (brOf (step j x))) :
    forR f (irange 0 (l.length : Int)) () = some (exOf (runI step 0 l)) := by
  have := forR_runI f step l 0 (fun j x hj => by rw [Nat.zero_add]; exact h j x hj)
  simpa using this

/-- The place of the first one, or -1. -/
def ix : Option Nat → Int
  | some i => i
  | none => -1

theorem runI_find {α : Type} (p : α → Bool) : ∀ (l : List α) (a : Nat), runI (fun i x => if p x then some ((i : Nat) : Int) else none) a l = (l.findIdx? p).map fun i => ((i + a : Nat) : Int)
  | [], a => rfl
  | x :: l, a => by
    simp only [runI, List.findIdx?_cons]
    by_cases h : p x = true
    · simp [h]
    · simp only [h, Bool.false_eq_true, if_false, runI_find p l (a + 1), Option.map_map]
      congr 1
      funext i
      simp only [Function.comp_apply]
      omega

theorem find_run {α : Type} (p : α → Bool) (l : List α) (f : Int → Unit → Option (Br Unit Int)) (h : ∀ (j : Nat) x, l[j]? = some x → f (j : Int) () = some (if p x then .ret (j : Int) else .next ())) :
    forR f (irange 0 (l.length : Int)) () = some (exOf ((l.findIdx? p).map fun (i : Nat) => (i : Int))) := by
  rw [forR_runI0 f (fun i x => if p x then some ((i : Nat) : Int) else none) l (fun j x hj => by
    rw [h j x hj]; cases p x <;> rfl), runI_find]
  rfl

/-- is there one? -/
theorem any_run {α ρ : Type} (p : α → Bool) (r : ρ) (l : List α) (f : Int → Unit → Option (Br Unit ρ)) (h : ∀ (j : Nat) x, l[j]? = some x → f (j : Int) () = some (if p x then .ret r else .next ())) :
    forR f (irange 0 (l.length : Int)) () = some (exOf (if l.any p then some r else none)) := by
  rw [forR_run0 f (fun x => if p x then some r else none) l (fun j x hj => by
    rw [h j x hj]; cases p x <;> rfl), runL_any]

/-! layer 5, for the policy drop -/

def dropP : api_Pol := api_Pol.mk 0 0 0 []

theorem size_drop : ref05_Size dropP = some 1 := by
  obtain ⟨m, hm⟩ := FUEL_big 1 (by omega)
  unfold ref05_Size; rw [hm]; rfl
theorem depth_drop : ref05_Depth dropP = some 1 := by
  obtain ⟨m, hm⟩ := FUEL_big 1 (by omega)
  unfold ref05_Depth; rw [hm]; rfl
theorem formed_drop (n : Int) : ref05_formed dropP n = some true := by
  obtain ⟨m, hm⟩ := FUEL_big 1 (by omega)
  unfold ref05_formed; rw [hm]; rfl

def risingB (l : List api_Pair) (n : Int) : Bool :=
  !(l.zipIdx.any fun p => decide (p.1.F < 0) || decide (p.1.F ≥ n) || (decide (p.2 > 0) && decide (((l[p.2 - 1]?).getD (api_Pair.mk 0 0)).F ≥ p.1.F)))

theorem rising_ok (l : List api_Pair) (n : Int) (hl : l.length ≤ 1000) : ref05_rising l n = some (risingB l n) := by
  unfold ref05_rising
  have hz : (l.zipIdx).length = l.length := by simp
  rw [← hz, any_run (fun p : api_Pair × Nat => decide (p.1.F < 0) || decide (p.1.F ≥ n) || (decide (p.2 > 0) && decide (((l[p.2 - 1]?).getD (api_Pair.mk 0 0)).F ≥ p.1.F))) false l.zipIdx]
  · unfold risingB; cases (l.zipIdx.any _) <;> rfl
  · rintro j ⟨x, k⟩ hj
    rw [List.getElem?_zipIdx] at hj
    cases hx : l[j]? with
    | none => rw [hx] at hj; cases hj
    | some y =>
      rw [hx] at hj
      simp at hj
      obtain ⟨rfl, rfl⟩ := hj
      have hi : j < l.length := (List.getElem?_eq_some_iff.1 hx).1
      unfold ref05_rising_b1
      simp only [gat_nat, hx, Option.bind_some]
      by_cases c1 : y.F < 0
      · simp [c1]
      by_cases c2 : y.F ≥ n
      · simp [c1, c2]
      by_cases c3 : 0 < j
      · have hw : IntKind.i64.wrap ((j : Int) - 1) = ((j - 1 : Nat) : Int) := by rw [w_i64 (by omega) (by omega)]; omega
        rw [hw, gat_nat, List.getElem?_eq_getElem (show j - 1 < l.length by omega)]
        simp [c1, c2, c3]
        by_cases c4 : y.F ≤ l[j - 1].F <;> simp [c4]
      · simp [c1, c2, c3]

def ruleBad (r : api_Rule) (n : Int) : Bool :=
  decide (r.When.length < 2) || (r.When[0]?.map (·.F)).getD 0 != 0 || (r.When[1]?.map (·.F)).getD 0 != 1 || !risingB r.When 8 || !risingB r.Guard n || !risingB r.Then n || r.Then.isEmpty

def SmallP (p : api_Program) : Prop := p.Init.length ≤ 5 ∧ p.Rules.length ≤ 26 ∧ ∀ r ∈ p.Rules, r.When.length ≤ 8 ∧ r.Guard.length ≤ 6 ∧ r.Then.length ≤ 6

theorem small_ok (p : api_Program) : ∃ b, law11_Small p = some b ∧ (b = true → SmallP p) := by
  unfold law11_Small
  by_cases c : (decide ((p.Init.length : Int) > 5)) || (decide ((p.Rules.length : Int) > 26))
  · rw [if_pos c]; exact ⟨_, rfl, fun h => by cases h⟩
  · rw [if_neg c]
    rw [any_run (fun x : api_Rule => decide ((x.When.length : Int) > 8) || (decide ((x.Guard.length : Int) > 6) || decide ((x.Then.length : Int) > 6))) false p.Rules _ (fun j x hj => by
      simp only [law11_Small_b1, gat_nat, hj, Option.bind_some]
      split <;> rfl)]
    generalize hq : p.Rules.any _ = q
    by_cases hqt : q = true
    · subst hqt; exact ⟨_, rfl, fun h => by cases h⟩
    have hqf : q = false := by simpa using hqt
    subst hqf
    refine ⟨_, rfl, fun _ => ?_⟩
    simp at c hq
    have h := hq
    refine ⟨by omega, by omega, fun r hr => ?_⟩
    have := h r hr
    omega

def chk05 (p : api_Program) : Int :=
  if p.Init.length < 1 ∨ p.Init.length > 4 ∨ p.Rules.length > 24 then 2 else if p.Rules.any (fun r => ruleBad r p.Init.length) then 11 else 0

theorem check_ok (p : api_Program) (hp : p.Pol = dropP) (hs : SmallP p) : ref05_Check p = some (chk05 p) := by
  obtain ⟨h1, h2, h3⟩ := hs
  unfold ref05_Check chk05
  rw [hp, size_drop, depth_drop, formed_drop]
  by_cases c1 : p.Init.length < 1
  · rw [if_pos (by simp; omega), if_pos (by omega)]; rfl
  by_cases c2 : p.Init.length > 4
  · rw [if_neg (by simp; omega), if_pos (by simp; omega), if_pos (by omega)]; rfl
  rw [if_neg (by simp; omega), if_neg (by simp; omega)]
  by_cases c3 : p.Rules.length > 24
  · rw [if_pos (show p.Init.length < 1 ∨ p.Init.length > 4 ∨ p.Rules.length > 24 by omega)]
    have e : (decide ((p.Rules.length : Int) > 24)) = true := by simp; omega
    simp only [Option.bind_some, e, show decide ((1 : Int) > 300) = false from rfl, show decide ((1 : Int) > 20) = false from rfl, Bool.false_eq_true, if_false, if_true]
  rw [if_neg (show ¬ (p.Init.length < 1 ∨ p.Init.length > 4 ∨ p.Rules.length > 24) by omega)]
  have e : (decide ((p.Rules.length : Int) > 24)) = false := by simp; omega
  simp only [Option.bind_some, e, Bool.not_true, Bool.false_eq_true, if_false, show decide ((1 : Int) > 300) = false from rfl, show decide ((1 : Int) > 20) = false from rfl]
  rw [any_run (fun r => ruleBad r p.Init.length) 11 p.Rules]
  · cases p.Rules.any _ <;> rfl
  intro j x hj
  obtain ⟨g1, g2, g3⟩ := h3 x (List.mem_of_getElem? hj)
  unfold ref05_Check_b1
  simp only [gat_nat, hj, Option.bind_some, rising_ok _ _ (show x.When.length ≤ 1000 by omega), rising_ok _ _ (show x.Guard.length ≤ 1000 by omega), rising_ok _ _ (show x.Then.length ≤ 1000 by omega)]
  unfold ruleBad
  match hw : x.When with
  | [] => simp
  | [a] => simp
  | a :: b :: r =>
    simp [gat]
    by_cases d1 : a.F = 0
    · by_cases d2 : b.F = 1
      · cases d3 : risingB (a :: b :: r) 8 <;> cases d4 : risingB x.Guard (p.Init.length : Int) <;> cases d5 : risingB x.Then (p.Init.length : Int) <;> cases d6 : x.Then <;> simp [d1, d2, d3, d4, d5, show ¬ ((r.length : Int) + 1 + 1 < 2) by omega, show ¬ (r.length + 1 + 1 < 2) by omega] <;> (try omega)
      · simp [d1, d2]
    · simp [d1]

/-! layer 11 -/

def sameB (a b : List Int) : Bool := decide (a = b)

theorem same11 (a b : List Int) : ref11_Same a b = some (sameB a b) := by
  unfold ref11_Same sameB
  by_cases h : a.length = b.length
  · rw [if_neg (by simp; omega)]
    rw [forR_zip _ (fun x : Int × Int => if x.1 ≠ x.2 then some false else none) a b h (fun j x y hx hy => by
      simp only [ref11_Same_b1, gat_nat, hx, hy, Option.bind_some]
      by_cases c : x = y
      · subst c; simp [brOf]
      · simp [c, brOf])]
    have := zip_ne h
    have e : (fun x : Int × Int => if x.1 ≠ x.2 then some false else (none : Option Bool)) = fun x => if (decide (x.1 ≠ x.2)) then some false else none := by funext x; simp
    rw [e, runL_any, this]
    by_cases c : a = b
    · subst c; simp [exOf]
    · simp [c, exOf]
  · rw [if_pos (by simp; omega)]
    have : a ≠ b := fun e => h (by rw [e])
    simp [this]

theorem find11 (l : List (List Int)) (s : List Int) : ref11_Find l s = some (ix (l.findIdx? fun x => sameB x s)) := by
  unfold ref11_Find
  rw [find_run (fun x => sameB x s) l _ fun j x hj => by
    simp only [ref11_Find_b1, gat_nat, hj, Option.bind_some, same11]
    cases sameB x s <;> rfl]
  cases l.findIdx? _ <;> rfl

def goB (r : api_Rule) (s : List Int) : Bool := !(r.Guard.any fun g => decide (g.F < 0) || decide (g.F ≥ s.length) || (s[g.F.toNat]?).getD 0 != g.N)

theorem goes11 (r : api_Rule) (s : List Int) : ref11_Goes r s = some (goB r s) := by
  unfold ref11_Goes goB
  rw [any_run (fun g : api_Pair => decide (g.F < 0) || decide (g.F ≥ s.length) || (s[g.F.toNat]?).getD 0 != g.N) false r.Guard]
  · cases r.Guard.any _ <;> rfl
  · intro j g hj
    simp only [ref11_Goes_b1, gat_nat, hj, Option.bind_some]
    by_cases c1 : g.F < 0
    · simp [c1]
    by_cases c2 : g.F ≥ s.length
    · simp [c1, c2]
    · have hlt : g.F.toNat < s.length := by omega
      simp [c1, c2, gat, show (0 : Int) ≤ g.F by omega, List.getElem?_eq_getElem hlt]
      by_cases c3 : s[g.F.toNat] = g.N <;> simp [c3]

def put1 (s : List Int) (t : api_Pair) : List Int := if 0 ≤ t.F then s.set t.F.toNat t.N else s
def aftL (r : api_Rule) (s : List Int) : List Int := r.Then.foldl put1 s

theorem put1_len (s : List Int) (t : api_Pair) : (put1 s t).length = s.length := by unfold put1; split <;> simp
theorem fold_len : ∀ (l : List api_Pair) (s : List Int), (l.foldl put1 s).length = s.length
  | [], _ => rfl
  | t :: l, s => by rw [List.foldl_cons, fold_len, put1_len]
theorem aftL_len (r : api_Rule) (s : List Int) : (aftL r s).length = s.length := fold_len _ _

theorem after11 (r : api_Rule) (s : List Int) (hl : s.length ≤ 1000) : ref11_After r s = some (aftL r s) := by
  unfold ref11_After
  rw [gapp_some (by simp; omega)]
  simp only [Option.bind_some, List.nil_append]
  have := forO_list (ref11_After_b1 r) r.Then (fun l t => t = l.foldl put1 s) s rfl (fun i x t hx ht => by
    subst ht
    refine ⟨(r.Then.take i ++ [x]).foldl put1 s, ?_, rfl⟩
    rw [List.foldl_append]
    simp only [ref11_After_b1, gat_nat, hx, Option.bind_some, List.foldl_cons, List.foldl_nil]
    generalize hg : List.foldl put1 s (List.take i r.Then) = u
    by_cases c1 : x.F ≥ 0
    · by_cases c2 : x.F < u.length
      · have hlt : x.F.toNat < u.length := by omega
        rw [if_pos (by simp [c1, c2])]
        simp [gat, gput, show (0 : Int) ≤ x.F from c1, hlt, List.getElem?_eq_getElem hlt, put1]
      · rw [if_neg (by simp [c2])]
        simp [put1, show (0 : Int) ≤ x.F from c1]
        exact (List.set_eq_of_length_le (by omega)).symm
    · rw [if_neg (by simp [c1])]
      simp [put1, c1])
  obtain ⟨t, e, rfl⟩ := this
  rw [e]; rfl

end Go.AM
/-
  Layer 11 of the document's answer: states and edges of a program.
-/
namespace Go.AM
open Go

def noneS : api_Space := api_Space.mk [] []

/-- A space on its way: n is the number of parts of a state. -/
structure SpOk (n : Nat) (S : List (List Int)) (E : List api_Edge) : Prop where
  ne : S ≠ []
  le : S.length ≤ 128
  len : ∀ s ∈ S, s.length = n
  edg : ∀ e ∈ E, (0 ≤ e.From ∧ e.From < S.length) ∧ (0 ≤ e.To ∧ e.To < S.length)

inductive StepE where
  | go (S : List (List Int)) (E : List api_Edge)
  | many

def stepE (r : api_Rule) (s : List Int) (i k : Nat) (S : List (List Int)) (E : List api_Edge) : StepE :=
  if goB r s && !sameB (aftL r s) s then
    match S.findIdx? (fun x => sameB x (aftL r s)) with
    | some a => if S.length > 128 then .many else .go S (E ++ [api_Edge.mk i k a])
    | none => if S.length + 1 > 128 then .many else .go (S ++ [aftL r s]) (E ++ [api_Edge.mk i k S.length])
  else .go S E

theorem b2_eq (p : api_Program) {i k : Nat} {S : List (List Int)} {E : List api_Edge} {r : api_Rule} {s : List Int} (hr : p.Rules[k]? = some r) (hs : S[i]? = some s) (h1 : s.length ≤ 1000) (h2 : S.length ≤ 1000) (h3 : E.length ≤ 100000) :
    ref11_Explore_b2 p i k (S, E) = some (match stepE r s i k S E with | .go S' E' => .next (S', E') | .many => .ret (.ret (noneS, 21))) := by
  unfold ref11_Explore_b2 stepE
  simp only [gat_nat, hr, hs, Option.bind_some, goes11, after11 r s h1, same11, find11]
  cases hg : goB r s
  · simp
  cases hsm : sameB (aftL r s) s
  · cases hf : S.findIdx? (fun x => sameB x (aftL r s)) with
    | some a =>
      have hd : decide (ix (some a) < 0) = false := by show decide ((a : Int) < 0) = false; simp
      simp only [Bool.not_true, Bool.false_eq_true, if_false, hd, Option.bind_some, Bool.not_false, Bool.and_self, if_true]
      by_cases c : S.length > 128
      · rw [if_pos (by simp; omega), if_pos c]; rfl
      · rw [if_neg (by simp; omega), if_neg c, gapp_some (by simp; omega)]; rfl
    | none =>
      have hd : decide (ix none < 0) = true := rfl
      simp only [Bool.not_true, Bool.false_eq_true, if_false, hd, if_true, Bool.not_false, Bool.and_self]
      rw [gapp_some (by simp; omega)]
      simp only [Option.bind_some]
      by_cases c : S.length + 1 > 128
      · rw [if_pos (by simp; omega), if_pos c]; rfl
      · rw [if_neg (by simp; omega), if_neg c, gapp_some (by simp; omega)]; rfl
  · simp

theorem aft_len {r : api_Rule} {s : List Int} {n : Nat} (h : s.length = n) : (aftL r s).length = n := by rw [aftL_len, h]

theorem stepE_ok {n : Nat} {r : api_Rule} {s : List Int} {i k : Nat} {S S' : List (List Int)} {E E' : List api_Edge} (h : SpOk n S E) (hi : S[i]? = some s) (e : stepE r s i k S E = .go S' E') :
    SpOk n S' E' ∧ S.length ≤ S'.length ∧ E'.length ≤ E.length + 1 ∧ S' = S ++ S'.drop S.length ∧ S'[0]? = S[0]? := by
  have hil : i < S.length := (List.getElem?_eq_some_iff.1 hi).1
  have hs : s.length = n := h.len s (List.mem_of_getElem? hi)
  unfold stepE at e
  split at e
  · split at e
    · rename_i a ha
      obtain ⟨hal, _⟩ := List.findIdx?_eq_some_iff_getElem.1 ha
      split at e
      · cases e
      · cases e
        refine ⟨⟨h.ne, h.le, h.len, fun x hx => ?_⟩, Nat.le_refl _, by simp, by simp, rfl⟩
        rcases List.mem_append.1 hx with hx | hx
        · exact h.edg x hx
        · simp at hx; subst hx; refine ⟨⟨by simp, ?_⟩, by simp, ?_⟩ <;> simp <;> omega
    · rename_i ha
      split at e
      · cases e
      · rename_i c
        cases e
        refine ⟨⟨by simp, by simp; omega, fun x hx => ?_, fun x hx => ?_⟩, by simp, by simp, by simp, ?_⟩
        · rcases List.mem_append.1 hx with hx | hx
          · exact h.len x hx
          · simp at hx; subst hx; exact aft_len hs
        · rcases List.mem_append.1 hx with hx | hx
          · have := h.edg x hx; simp; omega
          · simp at hx; subst hx; refine ⟨⟨by simp, ?_⟩, by simp, ?_⟩ <;> simp <;> omega
        · rw [List.getElem?_append_left (by omega)]
  · cases e; exact ⟨h, Nat.le_refl _, by omega, by simp, rfl⟩

/-! does a way lead back? -/

theorem gput_lt {α : Type} (l : List α) {i : Int} (h0 : 0 ≤ i) (h1 : i < l.length) (v : α) : gput l i v = some (l.set i.toNat v) := by
  unfold gput
  rw [if_pos h0, if_pos (by omega)]

end Go.AM
/-
  Layer 11 of the program: the rules.
-/
namespace Go.AM
open Go

theorem contains_pair (l : List api_Pair) (p : api_Pair → Bool) (hl : l.length ≤ 1000) (f : api_Pair → Option Bool) (hf : ∀ x, f x = some (p x)) : slices_ContainsFunc_api_Pair l f = some (l.any p) := by
  unfold slices_ContainsFunc_api_Pair slices_IndexFunc_api_Pair
  rw [find_run p l _ fun j x hj => by
    simp only [slices_IndexFunc_api_Pair_b1, gat_nat, hj, Option.bind_some, hf]
    split <;> rfl]
  cases h : l.findIdx? p with
  | none =>
    have : l.any p = false := by rw [List.findIdx?_eq_none_iff] at h; simpa using h
    rw [this]; rfl
  | some i =>
    obtain ⟨hi, hp, _⟩ := List.findIdx?_eq_some_iff_getElem.1 h
    have : l.any p = true := List.any_eq_true.2 ⟨l[i], List.getElem_mem hi, hp⟩
    rw [this]
    simp [exOf]

theorem goes_ok (r : api_Rule) (s : List Int) (hl : r.Guard.length ≤ 1000) : space_Goes r s = some (goB r s) := by
  unfold space_Goes goB
  rw [contains_pair r.Guard (fun g => decide (g.F < 0) || decide (g.F ≥ s.length) || (s[g.F.toNat]?).getD 0 != g.N) hl _ fun g => by
    simp only [space_Goes_1]
    by_cases c1 : g.F < 0
    · simp [c1]
    by_cases c2 : g.F ≥ s.length
    · simp [c1, c2]
    · have hlt : g.F.toNat < s.length := by omega
      simp [c1, c2, gat, show (0 : Int) ≤ g.F by omega, List.getElem?_eq_getElem hlt]]
  rfl

theorem after_ok (r : api_Rule) (s : List Int) (hl : s.length ≤ 1000) : space_After r s = some (aftL r s) := by
  have := after11 r s hl
  unfold ref11_After at this
  unfold space_After slices_Clone_uint16
  rw [gapp_some (by simp; omega)] at this ⊢
  exact this

end Go.AM
/-
  Layer 11 of the program: its states and edges, as the document's.
-/
namespace Go.AM
open Go

/-! the form of a program -/

theorem sizeS_drop : syntax_Size dropP = some 1 := by
  obtain ⟨m, hm⟩ := FUEL_big 1 (by omega)
  unfold syntax_Size; rw [hm]; rfl
theorem depthS_drop : syntax_Depth dropP = some 1 := by
  obtain ⟨m, hm⟩ := FUEL_big 1 (by omega)
  unfold syntax_Depth; rw [hm]; rfl
theorem formedS_drop (n : Int) : syntax_formed dropP n = some true := by
  obtain ⟨m, hm⟩ := FUEL_big 1 (by omega)
  unfold syntax_formed; rw [hm]; rfl

theorem once_eq (l : List api_Pair) (n : Int) : syntax_once l n = ref05_rising l n := rfl

theorem checkS_ok (p : api_Program) (hp : p.Pol = dropP) (hs : SmallP p) : syntax_Check p = some (chk05 p) := by
  obtain ⟨h1, h2, h3⟩ := hs
  unfold syntax_Check chk05
  rw [hp, sizeS_drop, depthS_drop, formedS_drop]
  by_cases c1 : p.Init.length < 1
  · rw [if_pos (by simp; omega), if_pos (by omega)]; rfl
  by_cases c2 : p.Init.length > 4
  · rw [if_neg (by simp; omega), if_pos (by simp; omega), if_pos (by omega)]; rfl
  rw [if_neg (by simp; omega), if_neg (by simp; omega)]
  by_cases c3 : p.Rules.length > 24
  · rw [if_pos (show p.Init.length < 1 ∨ p.Init.length > 4 ∨ p.Rules.length > 24 by omega)]
    have e : (decide ((p.Rules.length : Int) > 24)) = true := by simp; omega
    simp only [Option.bind_some, e, show decide ((1 : Int) > 300) = false from rfl, show decide ((1 : Int) > 20) = false from rfl, Bool.false_eq_true, if_false, if_true]
  rw [if_neg (show ¬ (p.Init.length < 1 ∨ p.Init.length > 4 ∨ p.Rules.length > 24) by omega)]
  have e : (decide ((p.Rules.length : Int) > 24)) = false := by simp; omega
  simp only [Option.bind_some, e, Bool.not_true, Bool.false_eq_true, if_false, show decide ((1 : Int) > 300) = false from rfl, show decide ((1 : Int) > 20) = false from rfl]
  rw [any_run (fun r => ruleBad r p.Init.length) 11 p.Rules]
  · cases p.Rules.any _ <;> rfl
  intro j x hj
  obtain ⟨g1, g2, g3⟩ := h3 x (List.mem_of_getElem? hj)
  unfold syntax_Check_b1
  simp only [gat_nat, hj, Option.bind_some, once_eq, rising_ok _ _ (show x.When.length ≤ 1000 by omega), rising_ok _ _ (show x.Guard.length ≤ 1000 by omega), rising_ok _ _ (show x.Then.length ≤ 1000 by omega)]
  unfold ruleBad
  match hw : x.When with
  | [] => simp
  | [a] => simp
  | a :: b :: r =>
    simp [gat]
    by_cases d1 : a.F = 0
    · by_cases d2 : b.F = 1
      · cases d3 : risingB (a :: b :: r) 8 <;> cases d4 : risingB x.Guard (p.Init.length : Int) <;> cases d5 : risingB x.Then (p.Init.length : Int) <;> cases d6 : x.Then <;> simp [d1, d2, d3, d4, d5, show ((2 : Int) ≤ (r.length : Int) + 1 + 1) by omega, show ¬ (r.length + 1 + 1 < 2) by omega] <;> (try omega)
      · simp [d1, d2, show ((2 : Int) ≤ (r.length : Int) + 1 + 1) by omega]
    · simp [d1, show ((2 : Int) ≤ (r.length : Int) + 1 + 1) by omega]

/-! keys -/

def U16 (s : List Int) : Prop := ∀ x ∈ s, IntKind.u16.wrap x = x

def keyL (s : List Int) : List Int := s.flatMap fun x => [IntKind.u8.wrap (x.fdiv (2 ^ 8)), IntKind.u8.wrap x]
def keyB (s : List Int) : ByteArray := strOfB (keyL s)

theorem keyL_len (s : List Int) : (keyL s).length = 2 * s.length := by
  unfold keyL
  induction s with
  | nil => rfl
  | cons x s ih => simp only [List.flatMap_cons, List.length_append, ih, List.length_cons, List.length_nil]; omega

theorem key_ok (s : List Int) (hl : s.length ≤ 1000) : space_key s = some (keyB s) := by
  unfold space_key
  obtain ⟨t, e, ht⟩ := forO_list (space_key_b1 s) s (fun l t => t = keyL l) [] rfl (fun i x t hx ht => by
    subst ht
    refine ⟨keyL (s.take i ++ [x]), ?_, rfl⟩
    have hlen : (keyL (s.take i)).length ≤ 2000 := by rw [keyL_len]; simp; omega
    simp only [space_key_b1, gat_nat, hx, Option.bind_some]
    rw [gapp_some (by simp; omega)]
    simp [keyL])
  subst ht
  rw [e]; rfl

theorem byte_wrap (x : Int) : 0 ≤ IntKind.u8.wrap x ∧ IntKind.u8.wrap x < 256 := by
  have e : IntKind.u8.wrap x = x % 256 := rfl
  rw [e]; omega

theorem keyL_byte (s : List Int) : Byte (keyL s) := by
  intro b hb
  unfold keyL at hb
  obtain ⟨x, _, hb⟩ := List.mem_flatMap.1 hb
  rcases List.mem_cons.1 hb with rfl | hb
  · exact byte_wrap _
  · rcases List.mem_cons.1 hb with rfl | hb
    · exact byte_wrap _
    · cases hb

theorem keyL_inj : ∀ {s t : List Int}, U16 s → U16 t → keyL s = keyL t → s = t
  | [], [], _, _, _ => rfl
  | [], _ :: _, _, _, h => by simp [keyL] at h
  | _ :: _, [], _, _, h => by simp [keyL] at h
  | x :: s, y :: t, hs, ht, h => by
    simp only [keyL, List.flatMap_cons, List.cons_append, List.nil_append, List.cons.injEq] at h
    obtain ⟨h1, h2, h3⟩ := h
    have e1 := hs x (by simp)
    have e2 := ht y (by simp)
    have f8 : ∀ z : Int, IntKind.u8.wrap z = z % 256 := fun z => rfl
    have f16 : ∀ z : Int, IntKind.u16.wrap z = z % 65536 := fun z => rfl
    rw [f8, f8] at h1 h2
    rw [f16] at e1 e2
    have d : ∀ z : Int, z.fdiv (2 ^ 8) = z / 256 := fun z => by
      rw [show ((2 : Int) ^ 8) = 256 from rfl]; exact Int.fdiv_eq_ediv_of_nonneg _ (by decide)
    rw [d, d] at h1
    have : x = y := by omega
    subst this
    rw [keyL_inj (fun z hz => hs z (by simp [hz])) (fun z hz => ht z (by simp [hz])) h3]

theorem keyB_inj {s t : List Int} (hs : U16 s) (ht : U16 t) (h : keyB s = keyB t) : s = t :=
  keyL_inj hs ht (strOfB_inj (keyL_byte s) (keyL_byte t) h)

/-! the map of the states -/

def mapF (a : Nat) : List (List Int) → List (ByteArray × Int)
  | [] => []
  | s :: S => (keyB s, (a : Int)) :: mapF (a + 1) S
def mapOf (S : List (List Int)) : List (ByteArray × Int) := mapF 0 S

theorem mget_mapF {t : List Int} (ht : U16 t) : ∀ (S : List (List Int)) (a : Nat), (∀ s ∈ S, U16 s) → mget (mapF a S) (keyB t) = (S.findIdx? fun x => sameB x t).map fun i => ((i + a : Nat) : Int)
  | [], a, _ => rfl
  | s :: S, a, h => by
    simp only [mapF, mget, List.findIdx?_cons]
    by_cases c : s = t
    · subst c; simp [sameB]
    · have h1 : ¬ keyB t = keyB s := fun e => c (keyB_inj (h s (by simp)) ht e.symm)
      rw [if_neg h1, mget_mapF ht S (a + 1) fun x hx => h x (by simp [hx])]
      simp only [sameB, c, decide_false, Bool.false_eq_true, if_false, Option.map_map]
      congr 1
      funext i
      simp only [Function.comp_apply]
      omega

theorem mput_new {κ ν : Type} [DecidableEq κ] {k : κ} {v : ν} : ∀ {m : List (κ × ν)}, mget m k = none → mput m k v = m ++ [(k, v)]
  | [], _ => rfl
  | p :: m, h => by
    simp only [mget] at h
    split at h
    · cases h
    · rename_i c
      simp only [mput, if_neg c, mput_new h, List.cons_append]

theorem mapF_app (t : List Int) : ∀ (S : List (List Int)) (a : Nat), mapF a (S ++ [t]) = mapF a S ++ [(keyB t, ((a + S.length : Nat) : Int))]
  | [], a => rfl
  | s :: S, a => by
    simp only [List.cons_append, mapF, mapF_app t S (a + 1), List.length_cons]
    rw [show a + 1 + S.length = a + (S.length + 1) by omega]

def placed (S : List (List Int)) (t : List Int) : List (List Int) × Int := match S.findIdx? (fun x => sameB x t) with
  | some a => (S, a)
  | none => (S ++ [t], S.length)

theorem place_ok {S : List (List Int)} {E : List api_Edge} {t : List Int} (hS : ∀ s ∈ S, U16 s) (ht : U16 t) (hl : t.length ≤ 1000) (hSl : S.length ≤ 1000) :
    space_explorer_place (space_explorer.mk (api_Space.mk S E) (mapOf S)) t = some ((placed S t).2, space_explorer.mk (api_Space.mk (placed S t).1 E) (mapOf (placed S t).1)) := by
  unfold space_explorer_place placed
  rw [key_ok t hl]
  simp only [Option.bind_some]
  have hm := mget_mapF ht S 0 hS
  cases hf : S.findIdx? (fun x => sameB x t) with
  | some a =>
    rw [hf] at hm
    have hm' : mget (mapOf S) (keyB t) = some (a : Int) := hm
    rw [hm']
    rfl
  | none =>
    rw [hf] at hm
    have hm' : mget (mapOf S) (keyB t) = none := hm
    rw [hm']
    simp only [Option.isSome_none, Bool.not_false, if_true]
    rw [gapp_some (by simp; omega), mput_new hm']
    simp only [Option.bind_some, mapOf, mapF_app, Nat.zero_add]

theorem equal16 (a b : List Int) : slices_Equal_uint16 a b = some (sameB a b) := by
  unfold slices_Equal_uint16 sameB
  by_cases h : a.length = b.length
  · rw [if_neg (by simp; omega)]
    rw [forR_zip _ (fun x : Int × Int => if x.1 ≠ x.2 then some false else none) a b h (fun j x y hx hy => by
      simp only [slices_Equal_uint16_b1, gat_nat, hx, hy, Option.bind_some]
      by_cases c : x = y
      · subst c; simp [brOf]
      · simp [c, brOf])]
    have := zip_ne h
    have e : (fun x : Int × Int => if x.1 ≠ x.2 then some false else (none : Option Bool)) = fun x => if (decide (x.1 ≠ x.2)) then some false else none := by funext x; simp
    rw [e, runL_any, this]
    by_cases c : a = b
    · subst c; simp [exOf]
    · simp [c, exOf]
  · rw [if_pos (by simp; omega)]
    have : a ≠ b := fun e => h (by rw [e])
    simp [this]

/-! one rule -/

theorem u16_put {s : List Int} {t : api_Pair} (hs : U16 s) (ht : IntKind.u16.wrap t.N = t.N) : U16 (put1 s t) := by
  unfold put1
  split
  · intro x hx
    rcases List.mem_or_eq_of_mem_set hx with hx | rfl
    · exact hs x hx
    · exact ht
  · exact hs

theorem u16_aft {r : api_Rule} {s : List Int} (hs : U16 s) (hr : ∀ t ∈ r.Then, IntKind.u16.wrap t.N = t.N) : U16 (aftL r s) := by
  unfold aftL
  have : ∀ (l : List api_Pair) (s : List Int), U16 s → (∀ t ∈ l, IntKind.u16.wrap t.N = t.N) → U16 (l.foldl put1 s) := by
    intro l
    induction l with
    | nil => intro s h _; exact h
    | cons t l ih => intro s h hl; exact ih _ (u16_put h (hl t (by simp))) fun x hx => hl x (by simp [hx])
  exact this _ _ hs hr

theorem b2S_eq (p : api_Program) {i k : Nat} {S : List (List Int)} {E : List api_Edge} {r : api_Rule} {s : List Int} (hr : p.Rules[k]? = some r) (hs : S[i]? = some s) (h1 : s.length ≤ 1000) (h2 : S.length ≤ 1000) (h3 : E.length ≤ 100000)
    (hg : r.Guard.length ≤ 1000) (hS : ∀ s ∈ S, U16 s) (hN : ∀ t ∈ r.Then, IntKind.u16.wrap t.N = t.N) :
    space_Explore_b2 p i k (S, E, mapOf S) = some (match stepE r s i k S E with | .go S' E' => .next (S', E', mapOf S') | .many => .ret (.ret (noneS, 21))) := by
  unfold space_Explore_b2 stepE
  simp only [gat_nat, hr, hs, Option.bind_some, goes_ok r s hg, after_ok r s h1, equal16]
  have hsu := hS s (List.mem_of_getElem? hs)
  cases hgo : goB r s
  · simp
  have hsw : sameB s (aftL r s) = sameB (aftL r s) s := by unfold sameB; simp [eq_comm]
  rw [hsw]
  cases hsm : sameB (aftL r s) s
  · simp only [Bool.not_true, Bool.false_eq_true, if_false, Option.bind_some, Bool.not_false, Bool.and_self, if_true]
    rw [place_ok hS (u16_aft hsu hN) (by rw [aftL_len]; exact h1) h2]
    simp only [Option.bind_some]
    rw [gapp_some (by simp; omega)]
    simp only [Option.bind_some]
    unfold placed
    cases hf : S.findIdx? (fun x => sameB x (aftL r s)) with
    | some a =>
      simp only
      by_cases c : S.length > 128
      · rw [if_pos (by simp; omega), if_pos c]; rfl
      · rw [if_neg (by simp; omega), if_neg c]; rfl
    | none =>
      simp only
      by_cases c : S.length + 1 > 128
      · rw [if_pos (by simp; omega), if_pos c]; rfl
      · rw [if_neg (by simp; omega), if_neg c]; rfl
  · simp
end Go.AM
/-
  Layer 11: both ways of finding a program's states go alike.
-/
namespace Go.AM
open Go

/-- Two loops that go alike. -/
theorem forR_sim {σ τ ρ ρ' : Type} (f : Int → σ → Option (Br σ ρ)) (g : Int → τ → Option (Br τ ρ')) (c : τ → σ) (R : ρ → ρ' → Prop) (P : Nat → τ → Prop) : ∀ (k i : Nat) (t : τ), P i t →
    (∀ j t, i ≤ j → j < i + k → P j t → (∃ t', g (j : Int) t = some (.next t') ∧ f (j : Int) (c t) = some (.next (c t')) ∧ P (j + 1) t') ∨ ∃ r r', g (j : Int) t = some (.ret r') ∧ f (j : Int) (c t) = some (.ret r) ∧ R r r') →
    (∃ t', forR g (irange (i : Int) ((i + k : Nat) : Int)) t = some (.done t') ∧ forR f (irange (i : Int) ((i + k : Nat) : Int)) (c t) = some (.done (c t')) ∧ P (i + k) t') ∨
    ∃ r r', forR g (irange (i : Int) ((i + k : Nat) : Int)) t = some (.ret r') ∧ forR f (irange (i : Int) ((i + k : Nat) : Int)) (c t) = some (.ret r) ∧ R r r'
  | 0, i, t, h, _ => .inl ⟨t, by rw [show i + 0 = i from rfl, irangeN_nil]; rfl, by rw [show i + 0 = i from rfl, irangeN_nil]; rfl, h⟩
  | k + 1, i, t, h, hs => by
    rw [irangeN_cons]
    simp only [forR]
    rcases hs i t (Nat.le_refl _) (by omega) h with ⟨t1, e1, e2, h1⟩ | ⟨r, r', e1, e2, h1⟩
    · rw [e1, e2]
      simp only [Option.bind_some]
      rw [show i + (k + 1) = i + 1 + k by omega]
      exact forR_sim f g c R P k (i + 1) t1 h1 fun j s hj hk => hs j s (by omega) (by omega)
    · rw [e1, e2]; exact .inr ⟨r, r', rfl, rfl, h1⟩

/-- Every state but the first one was come to from an earlier one. -/
def Rch (S : List (List Int)) (E : List api_Edge) : Prop := ∀ j : Nat, 0 < j → j < S.length → ∃ e ∈ E, e.To = (j : Int) ∧ 0 ≤ e.From ∧ e.From < j

def RulesOk (p : api_Program) : Prop := (∀ s ∈ [p.Init], U16 s) ∧ ∀ r ∈ p.Rules, r.Guard.length ≤ 1000 ∧ ∀ t ∈ r.Then, IntKind.u16.wrap t.N = t.N

structure SpU (n : Nat) (S : List (List Int)) (E : List api_Edge) : Prop where
  ok : SpOk n S E
  u16 : ∀ s ∈ S, U16 s
  rch : Rch S E

theorem stepE_u {n : Nat} {r : api_Rule} {s : List Int} {i k : Nat} {S S' : List (List Int)} {E E' : List api_Edge} (h : SpU n S E) (hi : S[i]? = some s) (hN : ∀ t ∈ r.Then, IntKind.u16.wrap t.N = t.N) (e : stepE r s i k S E = .go S' E') : SpU n S' E' := by
  obtain ⟨g1, g2, g3, g4, g5⟩ := stepE_ok h.ok hi e
  have hil : i < S.length := (List.getElem?_eq_some_iff.1 hi).1
  refine ⟨g1, ?_, ?_⟩
  · unfold stepE at e
    split at e
    · split at e
      · split at e
        · cases e
        · cases e; exact h.u16
      · split at e
        · cases e
        · cases e
          intro x hx
          rcases List.mem_append.1 hx with hx | hx
          · exact h.u16 x hx
          · simp at hx; subst hx; exact u16_aft (h.u16 s (List.mem_of_getElem? hi)) hN
    · cases e; exact h.u16
  · unfold stepE at e
    split at e
    · split at e
      · split at e
        · cases e
        · cases e
          intro j h0 hj
          obtain ⟨x, hx, hx'⟩ := h.rch j h0 hj
          exact ⟨x, by simp [hx], hx'⟩
      · split at e
        · cases e
        · cases e
          intro j h0 hj
          by_cases c : j < S.length
          · obtain ⟨x, hx, hx'⟩ := h.rch j h0 c
            exact ⟨x, by simp [hx], hx'⟩
          · have : j = S.length := by simp at hj; omega
            subst this
            exact ⟨api_Edge.mk i k S.length, by simp, rfl, by simp, by simp; omega⟩
    · cases e; exact h.rch

theorem inner_sim (p : api_Program) {n i : Nat} (hn : n ≤ 1000) (hr : p.Rules.length ≤ 26) (hp : RulesOk p) {S : List (List Int)} {E : List api_Edge} (h : SpU n S E) (hi : i < S.length) (hE : E.length ≤ 26 * i) :
    (∃ S' E', forR (ref11_Explore_b2 p i) (irange 0 (p.Rules.length : Int)) (S, E) = some (.done (S', E')) ∧ forR (space_Explore_b2 p i) (irange 0 (p.Rules.length : Int)) (S, E, mapOf S) = some (.done (S', E', mapOf S')) ∧ SpU n S' E' ∧ S.length ≤ S'.length ∧ E'.length ≤ 26 * (i + 1) ∧ S'[0]? = S[0]?) ∨
    forR (ref11_Explore_b2 p i) (irange 0 (p.Rules.length : Int)) (S, E) = some (.ret (.ret (noneS, 21))) ∧ forR (space_Explore_b2 p i) (irange 0 (p.Rules.length : Int)) (S, E, mapOf S) = some (.ret (.ret (noneS, 21))) := by
  have := forR_sim (space_Explore_b2 p i) (ref11_Explore_b2 p i) (fun q => (q.1, q.2, mapOf q.1)) (fun r r' => r = .ret (noneS, 21) ∧ r' = .ret (noneS, 21)) (fun k q => SpU n q.1 q.2 ∧ S.length ≤ q.1.length ∧ q.2.length ≤ 26 * i + k ∧ q.1[0]? = S[0]?) p.Rules.length 0 (S, E) ⟨h, Nat.le_refl _, by simpa using hE, rfl⟩ (by
    rintro k ⟨T, F⟩ _ hk ⟨g1, g2, g3, g4⟩
    simp only at g1 g2 g3 g4
    have hkl : k < p.Rules.length := by omega
    have hk' := List.getElem?_eq_getElem hkl
    have hil : i < T.length := by omega
    have hle := g1.ok.le
    have hlen : (T[i]).length ≤ 1000 := by rw [g1.ok.len _ (List.getElem_mem hil)]; exact hn
    obtain ⟨q1, q2⟩ := hp.2 _ (List.getElem_mem hkl)
    rw [b2_eq p hk' (List.getElem?_eq_getElem hil) hlen (by omega) (by omega)]
    simp only
    rw [b2S_eq p hk' (List.getElem?_eq_getElem hil) hlen (by omega) (by omega) q1 g1.u16 q2]
    cases hst : stepE p.Rules[k] T[i] i k T F with
    | go S' E' =>
      obtain ⟨r1, r2, r3, r4, r5⟩ := stepE_ok g1.ok (List.getElem?_eq_getElem hil) hst
      exact .inl ⟨_, rfl, rfl, stepE_u g1 (List.getElem?_eq_getElem hil) q2 hst, by simp only; omega, by simp only; omega, by rw [r5]; exact g4⟩
    | many => exact .inr ⟨_, _, rfl, rfl, rfl, rfl⟩)
  rw [show (0 + p.Rules.length) = p.Rules.length by omega] at this
  rcases this with ⟨⟨S', E'⟩, e1, e2, g1, g2, g3, g4⟩ | ⟨r, r', e1, e2, rfl, rfl⟩
  · exact .inl ⟨S', E', e1, e2, g1, g2, by simp only at g3; omega, g4⟩
  · exact .inr ⟨e1, e2⟩

theorem outer_sim (p : api_Program) {n : Nat} (hn : n ≤ 1000) (hr : p.Rules.length ≤ 26) (hp : RulesOk p) : ∀ (d f i : Nat) (S : List (List Int)) (E : List api_Edge), SpU n S E → i ≤ S.length → E.length ≤ 26 * i → 129 ≤ i + d → d < f →
    (∃ S' E' j, whR (ref11_Explore_b1 p) f (S, E, (i : Int)) = some (.done (S', E', j)) ∧ whR (space_Explore_b1 p) f (S, E, mapOf S, (i : Int)) = some (.done (S', E', mapOf S', j)) ∧ SpU n S' E' ∧ E'.length ≤ 26 * 128) ∨
    whR (ref11_Explore_b1 p) f (S, E, (i : Int)) = some (.ret (noneS, 21)) ∧ whR (space_Explore_b1 p) f (S, E, mapOf S, (i : Int)) = some (.ret (noneS, 21)) := by
  intro d
  induction d with
  | zero => intro f i S E h hi hE hd hf; have := h.ok.le; omega
  | succ d ih =>
    intro f i S E h hi hE hd hf
    obtain ⟨f, rfl⟩ : ∃ g, f = g + 1 := ⟨f - 1, by omega⟩
    have hle := h.ok.le
    rw [whR_step, whR_step]
    simp only [ref11_Explore_b1, space_Explore_b1]
    by_cases c : i < S.length
    · rw [if_pos (by simp; omega), if_pos (by simp; omega)]
      rcases inner_sim p hn hr hp h c hE with ⟨S', E', e1, e2, g1, g2, g3, g4⟩ | ⟨e1, e2⟩
      · rw [e1, e2]
        simp only [Option.bind_some]
        have hw : IntKind.i64.wrap ((i : Int) + 1) = ((i + 1 : Nat) : Int) := by rw [w_i64 (by omega) (by omega)]; omega
        rw [hw]
        exact ih f (i + 1) S' E' g1 (by omega) g3 (by omega) (by omega)
      · rw [e1, e2]; exact .inr ⟨rfl, rfl⟩
    · rw [if_neg (by simp; omega), if_neg (by simp; omega)]
      exact .inl ⟨S, E, _, rfl, rfl, h, by omega⟩
end Go.AM
/-
  Layer 11: does a way lead back? The program's search and the document's rounds answer alike.
-/
namespace Go.AM
open Go

def Eg (E : List api_Edge) (a b : Nat) : Prop := ∃ e ∈ E, e.From = (a : Int) ∧ e.To = (b : Int)

/-- From here every way ends. -/
inductive Term (E : List api_Edge) : Nat → Prop
  | mk (i : Nat) (h : ∀ j, Eg E i j → Term E j) : Term E i

theorem Term.next {E : List api_Edge} {i j : Nat} (h : Term E i) (e : Eg E i j) : Term E j := by
  cases h with | mk _ h => exact h j e

/-- A way of one step or more. -/
inductive Pl (E : List api_Edge) : Nat → Nat → Prop
  | one {a b : Nat} (h : Eg E a b) : Pl E a b
  | step {a b c : Nat} (h : Pl E a b) (g : Eg E b c) : Pl E a c

theorem Pl.first {E : List api_Edge} {a b : Nat} (h : Pl E a b) : ∃ c, Eg E a c ∧ (c = b ∨ Pl E c b) := by
  induction h with
  | one h => exact ⟨_, h, .inl rfl⟩
  | step h g ih =>
    obtain ⟨c, h1, h2⟩ := ih
    rcases h2 with rfl | h2
    · exact ⟨_, h1, .inr (.one g)⟩
    · exact ⟨_, h1, .inr (.step h2 g)⟩

theorem Term.nocycle {E : List api_Edge} {a : Nat} (h : Term E a) : ¬ Pl E a a := by
  induction h with
  | mk i h ih =>
    intro hp
    obtain ⟨c, h1, h2⟩ := hp.first
    rcases h2 with rfl | h2
    · exact ih c h1 hp
    · exact ih c h1 (.step h2 h1)

/-! the rounds -/

def adB (E : List api_Edge) (l : List Bool) (i : Nat) : Bool := E.all fun e => decide (e.From ≠ (i : Int)) || (l[e.To.toNat]?).getD false
def passS (E : List api_Edge) (l : List Bool) (i : Nat) : List Bool := l.set i ((l[i]?).getD false || adB E l i)
def passL (E : List api_Edge) (N : Nat) (l : List Bool) : List Bool := (List.range N).foldl (passS E) l
def passN (E : List api_Edge) (N : Nat) : Nat → List Bool → List Bool
  | 0, l => l
  | k + 1, l => passL E N (passN E N k l)

theorem passS_len (E : List api_Edge) (l : List Bool) (i : Nat) : (passS E l i).length = l.length := by simp [passS]
theorem foldP_len (E : List api_Edge) : ∀ (r : List Nat) (l : List Bool), (r.foldl (passS E) l).length = l.length
  | [], _ => rfl
  | i :: r, l => by rw [List.foldl_cons, foldP_len E r, passS_len]
theorem passN_len (E : List api_Edge) (N : Nat) (l : List Bool) : ∀ k, (passN E N k l).length = l.length
  | 0 => rfl
  | k + 1 => by rw [passN, passL, foldP_len, passN_len E N l k]

def EIn (E : List api_Edge) (N : Nat) : Prop := ∀ e ∈ E, (0 ≤ e.From ∧ e.From < N) ∧ (0 ≤ e.To ∧ e.To < N)

theorem b3_ok (S : List (List Int)) (E : List api_Edge) (hE : EIn E S.length) (l : List Bool) (hl : l.length = S.length) (i : Nat) : forO (ref11_round_b3 (api_Space.mk S E) l i) (irange 0 (E.length : Int)) true = some (adB E l i) := by
  obtain ⟨b, e, hb⟩ := forO_list (ref11_round_b3 (api_Space.mk S E) l i) E (fun m b => b = m.all fun e => decide (e.From ≠ (i : Int)) || (l[e.To.toNat]?).getD false) true rfl (fun k x b hx hb => by
    subst hb
    obtain ⟨h1, h2⟩ := (hE x (List.mem_of_getElem? hx)).2
    refine ⟨_, ?_, rfl⟩
    rw [List.all_append]
    simp only [ref11_round_b3, gat_nat, hx, Option.bind_some, List.all_cons, List.all_nil, Bool.and_true]
    generalize (E.take k).all _ = q
    by_cases c : x.From = (i : Int)
    · rw [if_pos (by simpa using c)]
      have hlt : x.To.toNat < l.length := by omega
      simp only [gat, h1, if_true, List.getElem?_eq_getElem hlt, Option.bind_some, c, ne_eq, not_true, decide_false, Bool.false_or, Option.getD_some]
      cases l[x.To.toNat] <;> cases q <;> rfl
    · rw [if_neg (by simpa using c)]
      simp [c])
  rw [e, hb]; rfl

theorem b2R_ok (S : List (List Int)) (E : List api_Edge) (hE : EIn E S.length) (l : List Bool) (hl : l.length = S.length) (i : Nat) (hi : i < S.length) : ref11_round_b2 (api_Space.mk S E) i l = some (passS E l i) := by
  unfold ref11_round_b2 passS
  have hlt : i < l.length := by omega
  simp only
  rw [b3_ok S E hE l hl i]
  simp only [Option.bind_some, gat_nat, List.getElem?_eq_getElem hlt, Option.getD_some]
  cases hx : l[i]
  · simp only [Bool.false_eq_true, if_false, Bool.false_or]
    rw [gput_lt l (by omega) (by omega)]; rfl
  · simp only [if_true, Bool.true_or]
    rw [gput_lt l (by omega) (by omega)]; rfl

theorem range_take (n i : Nat) (h : i < n) : (List.range n)[i]? = some i := by simp [h]

theorem b1R_ok (S : List (List Int)) (E : List api_Edge) (hE : EIn E S.length) (l : List Bool) (hl : l.length = S.length) (i : Int) : ref11_round_b1 (api_Space.mk S E) i l = some (passL E S.length l) := by
  unfold ref11_round_b1
  have hr : (List.range S.length).length = S.length := by simp
  obtain ⟨t, e, ht⟩ := forO_list (ref11_round_b2 (api_Space.mk S E)) (List.range S.length) (fun m t => t = m.foldl (passS E) l) l rfl (fun k x t hx ht => by
    subst ht
    have hk : k < S.length := by have := (List.getElem?_eq_some_iff.1 hx).1; omega
    have : x = k := by rw [range_take _ _ hk] at hx; cases hx; rfl
    subst this
    refine ⟨_, b2R_ok S E hE _ (by rw [foldP_len]; exact hl) x hk, ?_⟩
    rw [List.foldl_append]; rfl)
  rw [hr] at e
  simp only
  rw [e, ht]; rfl

theorem round_eq (S : List (List Int)) (E : List api_Edge) (hE : EIn E S.length) (hS : S.length ≤ 1000) : ref11_round (api_Space.mk S E) = some ((passN E S.length S.length (List.replicate S.length false)).any fun b => !b) := by
  unfold ref11_round
  have hg : gmk (S.length : Int) false = some (List.replicate S.length false) := by unfold gmk; rw [if_pos (by omega)]; simp
  simp only [hg, Option.bind_some]
  obtain ⟨t, e, ht⟩ := forO_map (ref11_round_b1 (api_Space.mk S E)) (fun k t => t = passN E S.length k (List.replicate S.length false)) S.length 0 (List.replicate S.length false) rfl (fun j t _ hj ht => by
    subst ht
    exact ⟨_, b1R_ok S E hE _ (by rw [passN_len]; simp) j, rfl⟩)
  rw [show (0 + S.length) = S.length by omega] at e ht
  rw [show ((0 : Nat) : Int) = 0 from rfl] at e
  rw [e]
  simp only [Option.bind_some]
  rw [any_run (fun b => !b) true t _ (fun j x hj => by
    simp only [ref11_round_b4, gat_nat, hj, Option.bind_some]
    cases x <;> rfl), ht]
  cases List.any _ _ <;> rfl

/-! what the rounds mark -/

def Mk (l : List Bool) (i : Nat) : Prop := l[i]? = some true

theorem passS_mono {E : List api_Edge} {l : List Bool} {i j : Nat} (h : Mk l j) : Mk (passS E l i) j := by
  unfold Mk passS at *
  rw [List.getElem?_set]
  by_cases c : i = j
  · subst c
    have := (List.getElem?_eq_some_iff.1 h).1
    rw [if_pos rfl, if_pos this, h]; rfl
  · rw [if_neg c]; exact h
theorem foldP_mono {E : List api_Edge} {j : Nat} : ∀ (r : List Nat) {l : List Bool}, Mk l j → Mk (r.foldl (passS E) l) j
  | [], _, h => h
  | i :: r, l, h => foldP_mono r (passS_mono h)

theorem adB_spec {E : List api_Edge} {l : List Bool} {i : Nat} {N : Nat} (hE : EIn E N) : adB E l i = true ↔ ∀ j, Eg E i j → Mk l j := by
  unfold adB Mk
  rw [List.all_eq_true]
  constructor
  · rintro h j ⟨e, he, h1, h2⟩
    have := h e he
    simp only [h1, ne_eq, not_true, decide_false, Bool.false_or, h2, Int.toNat_natCast] at this
    cases hx : l[j]? with
    | none => rw [hx] at this; cases this
    | some b => rw [hx] at this; simp at this; rw [this]
  · intro h e he
    by_cases c : e.From = (i : Int)
    · have h2 := (hE e he).2
      have := h e.To.toNat ⟨e, he, c, by omega⟩
      simp [this]
    · simp [c]

theorem passS_sound {E : List api_Edge} {l : List Bool} {i N : Nat} (hE : EIn E N) (h : ∀ j, Mk l j → Term E j) : ∀ j, Mk (passS E l i) j → Term E j := by
  intro j hj
  unfold Mk passS at hj
  rw [List.getElem?_set] at hj
  by_cases c : i = j
  · subst c
    rw [if_pos rfl] at hj
    split at hj
    · rename_i hlt
      simp only [Option.some.injEq, Bool.or_eq_true] at hj
      rcases hj with hj | hj
      · refine h i ?_
        unfold Mk
        cases hx : l[i]? with
        | none => rw [hx] at hj; cases hj
        | some b => rw [hx] at hj; simp at hj; rw [hj]
      · exact .mk i fun j hj' => h j ((adB_spec hE).1 hj j hj')
    · cases hj
  · rw [if_neg c] at hj; exact h j hj
theorem foldP_sound {E : List api_Edge} {N : Nat} (hE : EIn E N) : ∀ (r : List Nat) {l : List Bool}, (∀ j, Mk l j → Term E j) → ∀ j, Mk (r.foldl (passS E) l) j → Term E j
  | [], _, h => h
  | i :: r, l, h => foldP_sound hE r (passS_sound hE h)
theorem passN_sound {E : List api_Edge} {N : Nat} (hE : EIn E N) {l : List Bool} (h : ∀ j, Mk l j → Term E j) : ∀ k j, Mk (passN E N k l) j → Term E j
  | 0 => h
  | k + 1 => foldP_sound hE _ (passN_sound hE h k)

def unm (l : List Bool) : Nat := l.countP fun b => !b

theorem unm_le : ∀ {l m : List Bool}, l.length = m.length → (∀ j, Mk l j → Mk m j) → unm m ≤ unm l ∧ ((∃ j, j < l.length ∧ ¬ Mk l j ∧ Mk m j) → unm m < unm l)
  | [], [], _, _ => ⟨Nat.le_refl _, by rintro ⟨j, hj, _⟩; simp at hj⟩
  | [], _ :: _, h, _ => by simp at h
  | _ :: _, [], h, _ => by simp at h
  | a :: l, b :: m, h, hm => by
    obtain ⟨i1, i2⟩ := unm_le (l := l) (m := m) (by simpa using h) fun j hj => by have := hm (j + 1) (by simpa [Mk] using hj); simpa [Mk] using this
    have h0 := hm 0
    simp only [Mk, List.getElem?_cons_zero, Option.some.injEq] at h0
    unfold unm at *
    refine ⟨?_, ?_⟩
    · cases a <;> cases b <;> simp at h0 ⊢ <;> omega
    · rintro ⟨j, hj, h1, h2⟩
      cases j with
      | zero =>
        simp only [Mk, List.getElem?_cons_zero, Option.some.injEq] at h1 h2
        cases a <;> cases b <;> simp at h1 h2 ⊢; omega
      | succ j =>
        have := i2 ⟨j, by simpa using hj, by simpa [Mk] using h1, by simpa [Mk] using h2⟩
        cases a <;> cases b <;> simp at h0 ⊢ <;> omega

theorem unm_zero {l : List Bool} (h : unm l = 0) {j : Nat} (hj : j < l.length) : Mk l j := by
  unfold unm at h
  rw [List.countP_eq_zero] at h
  have := h l[j] (List.getElem_mem hj)
  unfold Mk
  rw [List.getElem?_eq_getElem hj]
  simpa using this

/-- Of what ends, and is not yet marked, one has all its next ones marked. -/
theorem Term.min {E : List api_Edge} {l : List Bool} {N : Nat} (hE : EIn E N) {i : Nat} (h : Term E i) : i < N → ¬ Mk l i → ∃ j, j < N ∧ ¬ Mk l j ∧ ∀ k, Eg E j k → Mk l k := by
  induction h with
  | mk i h ih =>
    intro hi hm
    by_cases c : ∀ k, Eg E i k → Mk l k
    · exact ⟨i, hi, hm, c⟩
    · simp only [Classical.not_forall] at c
      obtain ⟨k, hk, hk'⟩ := c
      refine ih k hk ?_ hk'
      obtain ⟨e, he, h1, h2⟩ := hk
      have := (hE e he).2
      omega

theorem passL_less {E : List api_Edge} {l : List Bool} {N : Nat} (hE : EIn E N) (hl : l.length = N) (hT : ∀ i, i < N → Term E i) (h : unm l ≠ 0) : unm (passL E N l) < unm l := by
  have h1 : ∃ i, i < N ∧ ¬ Mk l i := by
    refine Classical.byContradiction fun c => h ?_
    simp only [not_exists, not_and, Classical.not_not] at c
    unfold unm
    rw [List.countP_eq_zero]
    intro b hb
    obtain ⟨i, hi, rfl⟩ := List.getElem_of_mem hb
    have := c i (by omega)
    unfold Mk at this
    rw [List.getElem?_eq_getElem hi] at this
    simpa using this
  obtain ⟨i, hi, hm⟩ := h1
  obtain ⟨j, hj, hj1, hj2⟩ := (hT i hi).min hE hi hm
  refine (unm_le (m := passL E N l) (by unfold passL; rw [foldP_len]) fun k hk => foldP_mono _ hk).2 ⟨j, by omega, hj1, ?_⟩
  -- at j's turn its next ones are marked
  unfold passL
  obtain ⟨r1, r2, hr⟩ := List.append_of_mem (List.mem_range.2 hj)
  rw [hr, List.foldl_append, List.foldl_cons]
  refine foldP_mono _ ?_
  have hlt : j < (r1.foldl (passS E) l).length := by rw [foldP_len]; omega
  have : adB E (r1.foldl (passS E) l) j = true := (adB_spec hE).2 fun k hk => foldP_mono _ (hj2 k hk)
  generalize r1.foldl (passS E) l = q at hlt this
  unfold Mk passS
  rw [List.getElem?_set, if_pos rfl, if_pos hlt, this, Bool.or_true]

theorem passN_all {E : List api_Edge} {l : List Bool} {N : Nat} (hE : EIn E N) (hl : l.length = N) (hT : ∀ i, i < N → Term E i) : ∀ k, unm (passN E N k l) ≤ N - k
  | 0 => by unfold passN unm; have := List.countP_le_length (p := fun b => !b) (l := l); omega
  | k + 1 => by
    have ih := passN_all hE hl hT k
    have hlen := passN_len E N l k
    rw [passN]
    by_cases c : unm (passN E N k l) = 0
    · have := (unm_le (l := passN E N k l) (m := passL E N (passN E N k l)) (by unfold passL; rw [foldP_len]) fun j hj => foldP_mono _ hj).1
      omega
    · have := passL_less hE (by omega) hT c
      omega

theorem round_spec (S : List (List Int)) (E : List api_Edge) (hE : EIn E S.length) (hS : S.length ≤ 1000) : ∃ b, ref11_round (api_Space.mk S E) = some b ∧ (b = true ↔ ∃ j, j < S.length ∧ ¬ Term E j) := by
  refine ⟨_, round_eq S E hE hS, ?_⟩
  generalize hm : passN E S.length S.length (List.replicate S.length false) = m
  have hlen : m.length = S.length := by rw [← hm, passN_len]; simp
  constructor
  · intro h
    refine Classical.byContradiction fun c => ?_
    simp only [not_exists, not_and, Classical.not_not] at c
    have h0 := passN_all hE (l := List.replicate S.length false) (by simp) c S.length
    rw [hm] at h0
    obtain ⟨b, hb, hb'⟩ := List.any_eq_true.1 h
    obtain ⟨i, hi, rfl⟩ := List.getElem_of_mem hb
    have := unm_zero (show unm m = 0 by omega) hi
    unfold Mk at this
    rw [List.getElem?_eq_getElem hi] at this
    simp at this
    rw [this] at hb'
    cases hb'
  · rintro ⟨j, hj, hT⟩
    refine Classical.byContradiction fun c => hT ?_
    refine passN_sound hE (l := List.replicate S.length false) (N := S.length) (fun j hj => ?_) S.length j ?_
    · unfold Mk at hj; rw [List.getElem?_replicate] at hj; split at hj <;> cases hj
    · rw [hm]
      have hjl : j < m.length := by omega
      unfold Mk
      rw [List.getElem?_eq_getElem hjl]
      cases hx : m[j] with
      | true => rfl
      | false =>
        refine (c ?_).elim
        exact List.any_eq_true.2 ⟨m[j], List.getElem_mem hjl, by rw [hx]; rfl⟩
end Go.AM
/-
  Layer 11: the program's search for a way back.
-/
namespace Go.AM
open Go

def outE (E : List api_Edge) (i : Nat) : List api_Edge := E.filter fun e => e.From == (i : Int)

theorem from_ok (S : List (List Int)) (E : List api_Edge) (hE : E.length ≤ 100000) (i : Nat) : space_From (api_Space.mk S E) i = some (outE E i) := by
  unfold space_From
  obtain ⟨t, e, ht⟩ := forO_list (space_From_b1 (api_Space.mk S E) i) E (fun m t => t = outE m i) [] rfl (fun k x t hx ht => by
    subst ht
    have hlen : (outE (E.take k) i).length ≤ 100000 := by
      have := List.length_filter_le (fun e : api_Edge => e.From == (i : Int)) (E.take k)
      have h2 : (E.take k).length ≤ E.length := by simp; omega
      unfold outE; omega
    refine ⟨outE (E.take k ++ [x]) i, ?_, rfl⟩
    have e1 : outE (E.take k ++ [x]) i = outE (E.take k) i ++ (if x.From == (i : Int) then [x] else []) := by
      unfold outE
      rw [List.filter_append]
      congr 1
      by_cases c : (x.From == (i : Int)) = true <;> simp [List.filter_cons, c]
    rw [e1]
    simp only [space_From_b1, gat_nat, hx, Option.bind_some]
    by_cases c : (x.From == (i : Int)) = true
    · rw [if_pos c, if_pos c, gapp_some (by simp; omega)]; rfl
    · rw [if_neg c, if_neg c]; simp)
  simp only
  rw [e, ht]; rfl

theorem mem_out {E : List api_Edge} {i : Nat} {e : api_Edge} : e ∈ outE E i ↔ e ∈ E ∧ e.From = (i : Int) := by simp [outE]

structure Col (E : List api_Edge) (N : Nat) (c : List Int) : Prop where
  len : c.length = N
  val : ∀ x ∈ c, x = 0 ∨ x = 1 ∨ x = 2
  blk : ∀ i : Nat, c[i]? = some 2 → Term E i

def whites (c : List Int) : Nat := c.countP fun x => x == 0

/-- The search has gone from 'c' to 'd'. -/
structure Gone (E : List api_Edge) (N : Nat) (c d : List Int) : Prop where
  col : Col E N d
  gray : ∀ i : Nat, d[i]? = some 1 ↔ c[i]? = some 1
  black : ∀ i : Nat, c[i]? = some 2 → d[i]? = some 2
  wh : whites d ≤ whites c

theorem Gone.trans {E : List api_Edge} {N : Nat} {c d e : List Int} (h : Gone E N c d) (g : Gone E N d e) : Gone E N c e :=
  ⟨g.col, fun i => (g.gray i).trans (h.gray i), fun i hi => g.black i (h.black i hi), Nat.le_trans g.wh h.wh⟩

def Bad (E : List api_Edge) (N : Nat) : Prop := ∃ j, j < N ∧ ¬ Term E j

theorem whites_set {c : List Int} {i : Nat} (hi : c[i]? = some 0) {v : Int} (hv : v ≠ 0) : whites (c.set i v) + 1 = whites c := by
  unfold whites
  induction c generalizing i with
  | nil => simp at hi
  | cons x c ih =>
    cases i with
    | zero =>
      simp at hi; subst hi
      simp [hv]
    | succ i =>
      have := ih (i := i) (by simpa using hi)
      simp only [List.set_cons_succ, List.countP_cons]
      omega
theorem whites_set' {c : List Int} {i : Nat} {v : Int} (hv : v ≠ 0) : whites (c.set i v) ≤ whites c := by
  unfold whites
  induction c generalizing i with
  | nil => simp
  | cons x c ih =>
    cases i with
    | zero => simp [hv, List.countP_cons]
    | succ i =>
      have := ih (i := i)
      simp only [List.set_cons_succ, List.countP_cons]
      omega

theorem dfs (S : List (List Int)) (E : List api_Edge) (hE : EIn E S.length) (hl : E.length ≤ 100000) : ∀ (k i : Nat) (c : List Int), whites c < k → i < S.length → Col E S.length c → (∀ g : Nat, c[g]? = some 1 → Pl E g i) →
    ∃ b d, space_comesBack_1_f k i c (api_Space.mk S E) = some (b, d) ∧ (b = false → Gone E S.length c d ∧ d[i]? = some 2) ∧ (b = true → Bad E S.length) := by
  intro k
  induction k with
  | zero => intro i c h; omega
  | succ k ih =>
    intro i c hw hi hc hg
    have hil : i < c.length := by rw [hc.len]; exact hi
    have hci := List.getElem?_eq_getElem hil
    show ∃ b d, space_comesBack_1_s (space_comesBack_1_f k) i c (api_Space.mk S E) = some (b, d) ∧ _
    unfold space_comesBack_1_s
    simp only [gat_nat, hci, Option.bind_some]
    rcases hc.val _ (List.getElem_mem hil) with h0 | h1 | h2
    rotate_left
    · rw [if_pos (by rw [h1]; rfl), h1]
      exact ⟨_, _, rfl, fun h => by simp at h, fun _ => ⟨i, hi, fun hT => hT.nocycle (hg i (by rw [hci, h1]))⟩⟩
    · rw [if_pos (by rw [h2]; rfl), h2]
      exact ⟨_, _, rfl, fun _ => ⟨⟨hc, fun _ => Iff.rfl, fun _ h => h, Nat.le_refl _⟩, by rw [hci, h2]⟩, fun h => by simp at h⟩
    -- not come to yet
    rw [if_neg (by rw [h0]; simp)]
    have hp : gput c (i : Int) 1 = some (c.set i 1) := by rw [gput_lt c (by omega) (by omega)]; rfl
    rw [hp]
    simp only [Option.bind_some]
    rw [from_ok S E hl i]
    simp only [Option.bind_some]
    rw [h0] at hci
    have hw1 := whites_set hci (v := 1) (by decide)
    have hc1 : Col E S.length (c.set i 1) := by
      refine ⟨by rw [List.length_set]; exact hc.len, fun x hx => ?_, fun j hj => ?_⟩
      · rcases List.mem_or_eq_of_mem_set hx with hx | rfl
        · exact hc.val x hx
        · exact .inr (.inl rfl)
      · rw [List.getElem?_set] at hj
        by_cases q : i = j
        · subst q; rw [if_pos rfl, if_pos hil] at hj; simp at hj
        · rw [if_neg q] at hj; exact hc.blk j hj
    have hi1 : (c.set i 1)[i]? = some 1 := by rw [List.getElem?_set, if_pos rfl, if_pos hil]
    have hgr : ∀ g : Nat, (c.set i 1)[g]? = some 1 → g = i ∨ Pl E g i := by
      intro g h
      rw [List.getElem?_set] at h
      by_cases q : i = g
      · exact .inl q.symm
      · rw [if_neg q] at h; exact .inr (hg g h)
    have := forR_list (space_comesBack_1_b1 (api_Space.mk S E) (outE E i) (space_comesBack_1_f k)) (outE E i) (fun m d => Gone E S.length (c.set i 1) d ∧ ∀ e ∈ m, d[e.To.toNat]? = some 2) (fun _ => False) (fun r => ∃ d, r = (true, d) ∧ Bad E S.length) (c.set i 1)
      ⟨⟨hc1, fun _ => Iff.rfl, fun _ h => h, Nat.le_refl _⟩, fun e he => by simp at he⟩ (by
        intro j x d hx ⟨hd, hm⟩
        obtain ⟨hxE, hxF⟩ := mem_out.1 (List.mem_of_getElem? hx)
        obtain ⟨t1, t2⟩ := (hE x hxE).2
        have hto : x.To = ((x.To.toNat : Nat) : Int) := by omega
        have hedge : Eg E i x.To.toNat := ⟨x, hxE, hxF, hto⟩
        obtain ⟨b, d', e1, e2, e3⟩ := ih x.To.toNat d (by have := hd.wh; omega) (by omega) hd.col (fun g h => by
          rcases hgr g ((hd.gray g).1 h) with rfl | h
          · exact .one hedge
          · exact .step h hedge)
        rw [← hto] at e1
        simp only [space_comesBack_1_b1, gat_nat, hx, Option.bind_some, e1]
        cases b with
        | true => exact .inr (.inr ⟨_, rfl, _, rfl, e3 rfl⟩)
        | false =>
          obtain ⟨g1, g2⟩ := e2 rfl
          refine .inl ⟨d', rfl, hd.trans g1, fun e he => ?_⟩
          rcases List.mem_append.1 he with he | he
          · exact g1.black _ (hm e he)
          · simp at he; subst he; exact g2)
    rcases this with ⟨d, e, ⟨hd, hm⟩ | hf⟩ | ⟨r, e, d, rfl, hb⟩
    · rw [e]
      simp only [Option.bind_some]
      have hdl : i < d.length := by rw [hd.col.len]; exact hi
      have hp2 : gput d (i : Int) 2 = some (d.set i 2) := by rw [gput_lt d (by omega) (by omega)]; rfl
      simp only [gat_nat, List.getElem?_eq_getElem hdl, Option.bind_some, hp2]
      refine ⟨_, _, rfl, fun _ => ⟨⟨⟨by rw [List.length_set]; exact hd.col.len, fun x hx => ?_, fun j hj => ?_⟩, fun j => ?_, fun j hj => ?_, ?_⟩, by rw [List.getElem?_set, if_pos rfl, if_pos hdl]⟩, fun h => by simp at h⟩
      · rcases List.mem_or_eq_of_mem_set hx with hx | rfl
        · exact hd.col.val x hx
        · exact .inr (.inr rfl)
      · rw [List.getElem?_set] at hj
        by_cases q : i = j
        · subst q
          refine .mk i fun j ⟨e, he, h1, h2⟩ => hd.col.blk j ?_
          have := hm e (mem_out.2 ⟨he, h1⟩)
          rw [h2] at this
          simpa using this
        · rw [if_neg q] at hj; exact hd.col.blk j hj
      · rw [List.getElem?_set]
        by_cases q : i = j
        · subst q; rw [if_pos rfl, if_pos hdl, hci]; simp
        · rw [if_neg q, hd.gray j, List.getElem?_set, if_neg q]
      · rw [List.getElem?_set]
        by_cases q : i = j
        · subst q; rw [hci] at hj; simp at hj
        · rw [if_neg q]; refine hd.black j ?_; rw [List.getElem?_set, if_neg q]; exact hj
      · have h1 := whites_set' (c := d) (i := i) (v := 2) (by decide)
        have h2 := hd.wh
        omega
    · exact hf.elim
    · rw [e]
      exact ⟨_, _, rfl, fun h => by simp at h, fun _ => hb⟩

theorem all_term {S : List (List Int)} {E : List api_Edge} (hR : Rch S E) (h0 : Term E 0) : ∀ n j : Nat, j < n → j < S.length → Term E j := by
  intro n
  induction n with
  | zero => intro j h; omega
  | succ n ih =>
    intro j hj hl
    by_cases c : j = 0
    · subst c; exact h0
    · obtain ⟨e, he, h1, h2, h3⟩ := hR j (by omega) hl
      refine (ih e.From.toNat (by omega) (by omega)).next ⟨e, he, by omega, h1⟩

theorem back_eq {n : Nat} {S : List (List Int)} {E : List api_Edge} (h : SpU n S E) (hl : E.length ≤ 100000) : space_comesBack (api_Space.mk S E) = ref11_round (api_Space.mk S E) := by
  have hE : EIn E S.length := h.ok.edg
  have hle := h.ok.le
  have hpos : 0 < S.length := List.length_pos_iff.2 h.ok.ne
  obtain ⟨b, e, hb⟩ := round_spec S E hE (by omega)
  have hg : gmk (S.length : Int) (0 : Int) = some (List.replicate S.length 0) := by unfold gmk; rw [if_pos (by omega)]; simp
  have hz : ∀ (i : Nat) (v : Int), (List.replicate S.length (0 : Int))[i]? = some v → v = 0 := by
    intro i v hv
    rw [List.getElem?_replicate] at hv
    split at hv
    · cases hv; rfl
    · cases hv
  obtain ⟨m, hm⟩ := FUEL_big 1000 (by omega)
  obtain ⟨b', d, e1, e2, e3⟩ := dfs S E hE hl FUEL 0 (List.replicate S.length 0) (by
    have := List.countP_le_length (p := fun x : Int => x == 0) (l := List.replicate S.length 0)
    unfold whites
    simp only [List.length_replicate] at this
    omega) hpos ⟨by simp, fun x hx => .inl (List.eq_of_mem_replicate hx), fun i hi => by have := hz i _ hi; simp at this⟩ (fun g hg => by have := hz g _ hg; simp at this)
  rw [e]
  unfold space_comesBack
  simp only [hg, Option.bind_some]
  rw [if_pos (by simp; omega)]
  unfold space_comesBack_1
  have e1' : space_comesBack_1_f FUEL 0 (List.replicate S.length 0) (api_Space.mk S E) = some (b', d) := e1
  rw [e1']
  simp only [Option.bind_some]
  congr 1
  cases b' with
  | true => exact (hb.2 (e3 rfl)).symm
  | false =>
    obtain ⟨g1, g2⟩ := e2 rfl
    cases b with
    | false => rfl
    | true =>
      obtain ⟨j, hj, hT⟩ := hb.1 rfl
      exact (hT (all_term h.rch (g1.col.blk 0 g2) (j + 1) j (by omega) hj)).elim
end Go.AM
/-
  Layer 11: the program's states and edges are the document's.
-/
namespace Go.AM
open Go

theorem explore_eq (p : api_Program) (hp : p.Pol = dropP) (hs : SmallP p) (hr : RulesOk p) : ∃ x f, space_Explore p = some (x, f) ∧ ref11_Explore p = some (x, f) ∧ (f = 0 → SpU p.Init.length x.States x.Edges ∧ x.Edges.length ≤ 26 * 128) ∧ (f ≠ 0 → x = noneS) := by
  unfold space_Explore ref11_Explore
  rw [check_ok p hp hs, checkS_ok p hp hs]
  simp only [Option.bind_some]
  obtain ⟨h1, h2, h3⟩ := hs
  by_cases c : chk05 p = 0
  · rw [if_neg (by simpa using c), if_neg (by simpa using c)]
    unfold slices_Clone_uint16
    rw [gapp_some (by simp; omega)]
    simp only [Option.bind_some, List.nil_append]
    have hu : U16 p.Init := hr.1 p.Init (by simp)
    have hpl := place_ok (S := []) (E := []) (t := p.Init) (by simp) hu (by omega) (by simp)
    have hm0 : mapOf [] = ([] : List (ByteArray × Int)) := rfl
    rw [hm0] at hpl
    rw [hpl]
    simp only [Option.bind_some]
    have hp1 : (placed [] p.Init).1 = [p.Init] := rfl
    rw [hp1]
    have hok : SpU p.Init.length [p.Init] [] := ⟨⟨by simp, by simp, by simp, by simp⟩, hr.1, fun j h0 hj => by simp at hj; omega⟩
    obtain ⟨m, hm⟩ := FUEL_big 200 (by omega)
    rcases outer_sim p (n := p.Init.length) (by omega) h2 hr 129 FUEL 0 [p.Init] [] hok (by simp) (by simp) (by omega) (by omega) with ⟨S, E, j, e1, e2, g1, g2⟩ | ⟨e1, e2⟩
    · have e1' : whR (ref11_Explore_b1 p) FUEL ([p.Init], [], 0) = some (.done (S, E, j)) := e1
      have e2' : whR (space_Explore_b1 p) FUEL ([p.Init], [], mapOf [p.Init], 0) = some (.done (S, E, mapOf S, j)) := e2
      rw [e1', e2']
      simp only [Option.bind_some]
      rw [back_eq g1 (by omega)]
      obtain ⟨b, hb, _⟩ := round_spec S E g1.ok.edg (by have := g1.ok.le; omega)
      rw [hb]
      cases b
      · exact ⟨_, _, rfl, rfl, fun _ => ⟨g1, g2⟩, fun h => (h rfl).elim⟩
      · exact ⟨_, _, rfl, rfl, fun h => by simp at h, fun _ => rfl⟩
    · have e1' : whR (ref11_Explore_b1 p) FUEL ([p.Init], [], 0) = some (.ret (noneS, 21)) := e1
      have e2' : whR (space_Explore_b1 p) FUEL ([p.Init], [], mapOf [p.Init], 0) = some (.ret (noneS, 21)) := e2
      rw [e1', e2']
      exact ⟨_, _, rfl, rfl, fun h => by simp at h, fun _ => rfl⟩
  · rw [if_pos (by simpa using c), if_pos (by simpa using c)]
    exact ⟨_, _, rfl, rfl, fun h => (c h).elim, fun _ => rfl⟩

/-- What the input's form tells of it. -/
def RulesOk' (p : api_Program) : Prop := U16 p.Init ∧ ∀ r ∈ p.Rules, ∀ t ∈ r.Then, IntKind.u16.wrap t.N = t.N

theorem RulesOk'.ok {p : api_Program} {q : api_Pol} (h : RulesOk' p) (hs : SmallP (api_Program.mk p.Init q p.Rules)) : RulesOk (api_Program.mk p.Init q p.Rules) :=
  ⟨fun s hs => by simp at hs; subst hs; exact h.1, fun r hr => ⟨by have := (hs.2.2 r hr).2.1; omega, h.2 r hr⟩⟩

end Go.AM
/-
  Layer 11: which edges the program finds.
-/
namespace Go.AM
open Go

def mvB (r : api_Rule) (s : List Int) : Bool := goB r s && !sameB (aftL r s) s

/-- The edges of one state, rule by rule. -/
inductive Seg (S : List (List Int)) (i : Nat) (s : List Int) : Nat → List api_Rule → List api_Edge → Prop
  | nil (k : Nat) : Seg S i s k [] []
  | skip {k : Nat} {r : api_Rule} {l : List api_Rule} {es : List api_Edge} (h : mvB r s = false) (g : Seg S i s (k + 1) l es) : Seg S i s k (r :: l) es
  | take {k : Nat} {r : api_Rule} {l : List api_Rule} {es : List api_Edge} {a : Nat} (h : mvB r s = true) (ha : S[a]? = some (aftL r s)) (g : Seg S i s (k + 1) l es) : Seg S i s k (r :: l) (api_Edge.mk i k a :: es)

theorem Seg.app {S : List (List Int)} {i : Nat} {s : List Int} {k : Nat} {l m : List api_Rule} {es fs : List api_Edge} (h : Seg S i s k l es) (g : Seg S i s (k + l.length) m fs) : Seg S i s k (l ++ m) (es ++ fs) := by
  induction h with
  | nil k => simpa using g
  | skip h _ ih => exact .skip h (ih (by simpa [Nat.add_assoc, Nat.add_comm, Nat.add_left_comm] using g))
  | take h ha _ ih => exact .take h ha (ih (by simpa [Nat.add_assoc, Nat.add_comm, Nat.add_left_comm] using g))

/-- The states have only grown. -/
def Pre (S S' : List (List Int)) : Prop := ∀ (a : Nat) s, S[a]? = some s → S'[a]? = some s

theorem Seg.mono {S S' : List (List Int)} {i : Nat} {s : List Int} {k : Nat} {l : List api_Rule} {es : List api_Edge} (hp : Pre S S') (h : Seg S i s k l es) : Seg S' i s k l es := by
  induction h with
  | nil k => exact .nil k
  | skip h _ ih => exact .skip h ih
  | take h ha _ ih => exact .take h (hp _ _ ha) ih

theorem Seg.frm {S : List (List Int)} {i : Nat} {s : List Int} {k : Nat} {l : List api_Rule} {es : List api_Edge} (h : Seg S i s k l es) : ∀ e ∈ es, e.From = (i : Int) := by
  induction h with
  | nil k => intro e he; cases he
  | skip h _ ih => exact ih
  | take h ha _ ih =>
    intro e he
    rcases List.mem_cons.1 he with rfl | he
    · rfl
    · exact ih e he

theorem stepE_seg {r : api_Rule} {s : List Int} {i k : Nat} {S S' : List (List Int)} {E E' : List api_Edge} (e : stepE r s i k S E = .go S' E') : Pre S S' ∧ ∃ es, E' = E ++ es ∧ Seg S' i s k [r] es := by
  unfold stepE at e
  split at e
  · rename_i hm
    split at e
    · rename_i a ha
      obtain ⟨hal, hs, _⟩ := List.findIdx?_eq_some_iff_getElem.1 ha
      split at e
      · cases e
      · cases e
        refine ⟨fun _ _ h => h, _, rfl, .take hm ?_ (.nil _)⟩
        rw [List.getElem?_eq_getElem hal]
        simpa [sameB] using hs
    · split at e
      · cases e
      · cases e
        refine ⟨fun a s h => ?_, _, rfl, .take hm (by simp) (.nil _)⟩
        rw [List.getElem?_append_left (List.getElem?_eq_some_iff.1 h).1]; exact h
  · rename_i hm
    cases e
    exact ⟨fun _ _ h => h, [], by simp, .skip (by simpa [mvB] using hm) (.nil _)⟩

/-- All the edges of the first 'i' states. -/
def Segs (p : api_Program) (S : List (List Int)) (E : List api_Edge) (i : Nat) : Prop :=
  ∃ L : List (List api_Edge), L.length = i ∧ E = L.flatten ∧ ∀ (j : Nat) es, L[j]? = some es → ∃ s, S[j]? = some s ∧ Seg S j s 0 p.Rules es

theorem inner_seg (p : api_Program) {n i : Nat} (hn : n ≤ 1000) (hr : p.Rules.length ≤ 26) {S : List (List Int)} {E : List api_Edge} (h : SpOk n S E) (hi : i < S.length) (hE : E.length ≤ 26 * i) {S' : List (List Int)} {E' : List api_Edge}
    (e : forR (ref11_Explore_b2 p i) (irange 0 (p.Rules.length : Int)) (S, E) = some (.done (S', E'))) (s : List Int) (hs : S[i]? = some s) : Pre S S' ∧ ∃ es, E' = E ++ es ∧ Seg S' i s 0 p.Rules es := by
  have := forR_list (ref11_Explore_b2 p i) p.Rules (fun l q => SpOk n q.1 q.2 ∧ S.length ≤ q.1.length ∧ q.2.length ≤ 26 * i + l.length ∧ Pre S q.1 ∧ ∃ es, q.2 = E ++ es ∧ Seg q.1 i s 0 l es) (fun _ => False) (fun r => r = .ret (noneS, 21)) (S, E) ⟨h, Nat.le_refl _, by simpa using hE, fun _ _ h => h, [], by simp, .nil _⟩ (by
    rintro k r ⟨T, F⟩ hk ⟨g1, g2, g3, g4, es, g5, g6⟩
    simp only at g1 g2 g3 g4 g5 g6
    have hsT := g4 i s hs
    have hkl : k < p.Rules.length := (List.getElem?_eq_some_iff.1 hk).1
    have htl : (p.Rules.take k).length = k := by simp; omega
    have hle := g1.le
    rw [b2_eq p hk hsT (by rw [g1.len _ (List.mem_of_getElem? hsT)]; exact hn) (by omega) (by omega)]
    cases hst : stepE r s i k T F with
    | go S' E' =>
      obtain ⟨q1, q2, q3, q4, q5⟩ := stepE_ok g1 hsT hst
      obtain ⟨r1, es', r2, r3⟩ := stepE_seg hst
      refine .inl ⟨_, rfl, q1, by simp only; omega, by simp only [List.length_append, List.length_singleton]; omega, fun a x hx => r1 a x (g4 a x hx), es ++ es', by rw [r2, g5, List.append_assoc], (g6.mono r1).app (by rw [htl, Nat.zero_add]; exact r3)⟩
    | many => exact .inr (.inr ⟨_, rfl, rfl⟩))
  rcases this with ⟨⟨S1, E1⟩, e1, ⟨g1, g2, g3, g4, g5⟩ | c⟩ | ⟨r, e1, rfl⟩
  · rw [e] at e1; cases e1; exact ⟨g4, g5⟩
  · exact c.elim
  · rw [e] at e1; cases e1

theorem outer_seg (p : api_Program) {n : Nat} (hn : n ≤ 1000) (hr : p.Rules.length ≤ 26) (hp : RulesOk p) : ∀ (d f i : Nat) (S : List (List Int)) (E : List api_Edge), SpU n S E → i ≤ S.length → E.length ≤ 26 * i → 129 ≤ i + d → d < f → Segs p S E i →
    ∀ S' E' j, whR (ref11_Explore_b1 p) f (S, E, (i : Int)) = some (.done (S', E', j)) → Segs p S' E' S'.length := by
  intro d
  induction d with
  | zero => intro f i S E h hi hE hd hf; have := h.ok.le; omega
  | succ d ih =>
    intro f i S E h hi hE hd hf hsg S' E' j he
    obtain ⟨f, rfl⟩ : ∃ g, f = g + 1 := ⟨f - 1, by omega⟩
    have hle := h.ok.le
    rw [whR_step] at he
    simp only [ref11_Explore_b1] at he
    by_cases c : i < S.length
    · rw [if_pos (by simp; omega)] at he
      rcases inner_sim p hn hr hp h c hE with ⟨S1, E1, e1, e2, g1, g2, g3, g4⟩ | ⟨e1, e2⟩
      · obtain ⟨q1, es, q2, q3⟩ := inner_seg p hn hr h.ok c hE e1 _ (List.getElem?_eq_getElem c)
        rw [e1] at he
        simp only [Option.bind_some] at he
        have hw : IntKind.i64.wrap ((i : Int) + 1) = ((i + 1 : Nat) : Int) := by rw [w_i64 (by omega) (by omega)]; omega
        rw [hw] at he
        refine ih f (i + 1) S1 E1 g1 (by omega) g3 (by omega) (by omega) ?_ S' E' j he
        obtain ⟨L, l1, l2, l3⟩ := hsg
        refine ⟨L ++ [es], by simp [l1], by rw [q2, l2]; simp, fun j fs hj => ?_⟩
        by_cases cj : j < i
        · rw [List.getElem?_append_left (by omega)] at hj
          obtain ⟨s, k1, k2⟩ := l3 j fs hj
          exact ⟨s, q1 _ _ k1, k2.mono q1⟩
        · have hjl := (List.getElem?_eq_some_iff.1 hj).1
          simp only [List.length_append, List.length_singleton] at hjl
          have : j = i := by omega
          subst this
          rw [List.getElem?_append_right (by omega), l1, Nat.sub_self] at hj
          simp at hj
          subst hj
          exact ⟨_, q1 _ _ (List.getElem?_eq_getElem c), q3⟩
      · rw [e1] at he; cases he
    · rw [if_neg (by simp; omega)] at he
      cases he
      have : i = S.length := by omega
      subst this
      exact hsg

/-- What the program finds when all is well. -/
theorem explore_full (p : api_Program) (hp : p.Pol = dropP) (hs : SmallP p) (hr : RulesOk p) : ∃ x f, space_Explore p = some (x, f) ∧ (f = 0 → SpU p.Init.length x.States x.Edges ∧ x.Edges.length ≤ 26 * 128 ∧ Segs p x.States x.Edges x.States.length ∧ ∀ j, j < x.States.length → Term x.Edges j) ∧ (f ≠ 0 → x = noneS) := by
  obtain ⟨x, f, e1, e2, e3, e4⟩ := explore_eq p hp hs hr
  refine ⟨x, f, e1, fun hf => ?_, e4⟩
  obtain ⟨g1, g2⟩ := e3 hf
  refine ⟨g1, g2, ?_⟩
  subst hf
  unfold ref11_Explore at e2
  rw [check_ok p hp hs] at e2
  simp only [Option.bind_some] at e2
  obtain ⟨h1, h2, h3⟩ := hs
  by_cases c : chk05 p = 0
  · rw [if_neg (by simpa using c), gapp_some (by simp; omega)] at e2
    simp only [Option.bind_some, List.nil_append] at e2
    have hok : SpU p.Init.length [p.Init] [] := ⟨⟨by simp, by simp, by simp, by simp⟩, hr.1, fun j h0 hj => by simp at hj; omega⟩
    obtain ⟨m, hm⟩ := FUEL_big 200 (by omega)
    have hsg : Segs p [p.Init] [] 0 := ⟨[], rfl, rfl, fun j es hj => by simp at hj⟩
    rcases outer_sim p (n := p.Init.length) (by omega) h2 hr 129 FUEL 0 [p.Init] [] hok (by simp) (by simp) (by omega) (by omega) with ⟨S, E, j, q1, q2, k1, k2⟩ | ⟨q1, q2⟩
    · have hseg := outer_seg p (n := p.Init.length) (by omega) h2 hr 129 FUEL 0 [p.Init] [] hok (by simp) (by simp) (by omega) (by omega) hsg S E j q1
      have q1' : whR (ref11_Explore_b1 p) FUEL ([p.Init], [], 0) = some (.done (S, E, j)) := q1
      rw [q1'] at e2
      simp only [Option.bind_some] at e2
      obtain ⟨b, hb, hb2⟩ := round_spec S E k1.ok.edg (by have := k1.ok.le; omega)
      rw [hb] at e2
      cases b
      · cases e2
        refine ⟨hseg, fun j hj => Classical.byContradiction fun hT => ?_⟩
        have := hb2.2 ⟨j, hj, hT⟩
        cases this
      · cases e2
    · have q1' : whR (ref11_Explore_b1 p) FUEL ([p.Init], [], 0) = some (.ret (noneS, 21)) := q1
      rw [q1'] at e2
      cases e2
  · rw [if_pos (by simpa using c)] at e2
    simp only [Option.some.injEq, Prod.mk.injEq] at e2
    exact (c e2.2).elim
end Go.AM
/-
  Layer 11: the ends, and what leads where.
-/
namespace Go.AM
open Go

theorem outE_app (a b : List api_Edge) (i : Nat) : outE (a ++ b) i = outE a i ++ outE b i := by unfold outE; exact List.filter_append ..
theorem outE_all {es : List api_Edge} {i : Nat} (h : ∀ e ∈ es, e.From = (i : Int)) : outE es i = es := by
  unfold outE; rw [List.filter_eq_self]; intro e he; simpa using h e he
theorem outE_none {es : List api_Edge} {i : Nat} (h : ∀ e ∈ es, e.From ≠ (i : Int)) : outE es i = [] := by
  unfold outE; rw [List.filter_eq_nil_iff]; intro e he; simpa using h e he

theorem outE_low : ∀ (L : List (List api_Edge)) (a i : Nat), (∀ (j : Nat) es, L[j]? = some es → ∀ e ∈ es, e.From = ((a + j : Nat) : Int)) → i < a → outE L.flatten i = []
  | [], a, i, _, _ => rfl
  | h :: L, a, i, hf, hi => by
    rw [List.flatten_cons, outE_app, outE_low L (a + 1) i (fun j es hj e he => by rw [hf (j + 1) es (by simpa using hj) e he]; congr 1; omega) (by omega), outE_none (fun e he => by rw [hf 0 h rfl e he]; omega)]
    rfl
theorem outE_flat : ∀ (L : List (List api_Edge)) (a : Nat), (∀ (j : Nat) es, L[j]? = some es → ∀ e ∈ es, e.From = ((a + j : Nat) : Int)) → ∀ (j : Nat) es, L[j]? = some es → outE L.flatten (a + j) = es
  | [], a, _, j, es, hj => by simp at hj
  | h :: L, a, hf, j, es, hj => by
    have hf' : ∀ (j : Nat) es, L[j]? = some es → ∀ e ∈ es, e.From = ((a + 1 + j : Nat) : Int) := fun j es hj e he => by rw [hf (j + 1) es (by simpa using hj) e he]; congr 1; omega
    rw [List.flatten_cons, outE_app]
    cases j with
    | zero =>
      simp at hj; subst hj
      rw [outE_low L (a + 1) (a + 0) hf' (by omega), outE_all (fun e he => hf 0 h rfl e he)]
      simp
    | succ j =>
      rw [outE_none (fun e he => by rw [hf 0 h rfl e he]; omega)]
      have := outE_flat L (a + 1) hf' j es (by simpa using hj)
      rw [show a + 1 + j = a + (j + 1) by omega] at this
      rw [this]; rfl

/-! the ends -/

def endsN (E : List api_Edge) (N : Nat) : List Nat := (List.range N).filter fun i => (outE E i).isEmpty
def endsL (E : List api_Edge) (N : Nat) : List Int := (endsN E N).map fun (i : Nat) => (i : Int)

theorem ends_ok (S : List (List Int)) (E : List api_Edge) (hE : E.length ≤ 100000) (hS : S.length ≤ 1000) : space_Ends (api_Space.mk S E) = some (endsL E S.length) := by
  unfold space_Ends
  obtain ⟨t, e, ht⟩ := forO_map (space_Ends_b1 (api_Space.mk S E)) (fun k t => t = endsL E k) S.length 0 [] rfl (fun j t _ hj ht => by
    subst ht
    refine ⟨endsL E (j + 1), ?_, rfl⟩
    have hlen : (endsL E j).length ≤ 1000 := by
      have := List.length_filter_le (fun i => (outE E i).isEmpty) (List.range j)
      simp only [List.length_range] at this
      unfold endsL endsN; rw [List.length_map]; omega
    have e1 : endsL E (j + 1) = endsL E j ++ (if (outE E j).isEmpty then [(j : Int)] else []) := by
      unfold endsL endsN
      rw [List.range_succ, List.filter_append, List.map_append]
      congr 1
      cases c : (outE E j).isEmpty <;> simp [List.filter_cons, c]
    rw [e1]
    simp only [space_Ends_b1]
    rw [from_ok S E hE j]
    simp only [Option.bind_some]
    cases hx : outE E j with
    | nil => rw [if_pos (by simp), gapp_some (by simp; omega)]; rfl
    | cons a b => rw [if_neg (by simp; omega)]; simp)
  subst ht
  rw [show ((0 : Nat) : Int) = 0 from rfl, show (0 + S.length) = S.length by omega] at e
  simp only
  rw [e]; rfl

theorem mget_mput {κ ν : Type} [DecidableEq κ] (k k' : κ) (v : ν) : ∀ m : List (κ × ν), mget (mput m k v) k' = if k' = k then some v else mget m k'
  | [] => by simp [mput, mget]
  | p :: m => by
    simp only [mput]
    by_cases c : k = p.1
    · rw [if_pos c]
      simp only [mget]
      by_cases d : k' = k
      · rw [if_pos d, if_pos d]
      · rw [if_neg d, if_neg d, if_neg (by rw [← c]; exact d)]
    · rw [if_neg c]
      simp only [mget, mget_mput k k' v m]
      by_cases d : k' = p.1
      · rw [if_pos d, if_pos d, if_neg (by rw [d]; exact fun e => c e.symm)]
      · rw [if_neg d, if_neg d]

def endM (r : List Int) (m : List (Int × Bool)) : List (Int × Bool) := r.foldl (fun m x => mput m x true) m

theorem endM_get (k : Int) : ∀ (r : List Int) (m : List (Int × Bool)), mget (endM r m) k = if k ∈ r then some true else mget m k
  | [], m => by simp [endM]
  | x :: r, m => by
    show mget (endM r (mput m x true)) k = _
    rw [endM_get k r, mget_mput]
    by_cases c : k ∈ r
    · simp [c]
    · by_cases d : k = x
      · subst d; simp
      · simp [c, d]

theorem mput_len {κ ν : Type} [DecidableEq κ] (k : κ) (v : ν) : ∀ m : List (κ × ν), (mput m k v).length ≤ m.length + 1
  | [] => by simp [mput]
  | p :: m => by
    simp only [mput]
    split
    · simp
    · have := mput_len k v m; simp only [List.length_cons]; omega

theorem endM_len : ∀ (r : List Int) (m : List (Int × Bool)), (endM r m).length ≤ m.length + r.length
  | [], m => by simp [endM]
  | x :: r, m => by
    show (endM r (mput m x true)).length ≤ _
    have := endM_len r (mput m x true)
    have := mput_len x true m
    simp only [List.length_cons]; omega

theorem endsb1_ok (r : List Int) : forO (law11_SpaceEnds_b1 r) (irange 0 (r.length : Int)) ([] : List (Int × Bool)) = some (endM r []) := by
  obtain ⟨t, e, ht⟩ := forO_list (law11_SpaceEnds_b1 r) r (fun l t => t = endM l []) [] rfl (fun i x t hx ht => by
    subst ht
    refine ⟨_, ?_, rfl⟩
    simp only [law11_SpaceEnds_b1, gat_nat, hx, Option.bind_some]
    unfold endM
    rw [List.foldl_append]; rfl)
  rw [e, ht]

/-! what was come to -/

def setTo (l : List Bool) (e : api_Edge) : List Bool := l.set e.To.toNat true
theorem setTo_len : ∀ (es : List api_Edge) (l : List Bool), (es.foldl setTo l).length = l.length
  | [], _ => rfl
  | e :: es, l => by rw [List.foldl_cons, setTo_len es]; simp [setTo]
theorem setTo_get {b : Nat} : ∀ (es : List api_Edge) (l : List Bool), b < l.length → ((es.foldl setTo l)[b]? = some true ↔ l[b]? = some true ∨ ∃ e ∈ es, e.To.toNat = b)
  | [], l, _ => by simp
  | e :: es, l, h => by
    rw [List.foldl_cons, setTo_get es (setTo l e) (by simpa [setTo] using h)]
    unfold setTo
    rw [List.getElem?_set]
    by_cases c : e.To.toNat = b
    · simp [c, h]
    · simp [c]

/-- The law's look at one state's edges. -/
theorem b3_run (a0 : api_Program) (S : List (List Int)) (E : List api_Edge) (i : Nat) (s : List Int) (r28 : List api_Edge) (hs : s.length ≤ 1000) (hrl : r28.length ≤ 100000) (hN : S.length ≤ 1000) {k : Nat} {l : List api_Rule} {es : List api_Edge} (hg : Seg S i s k l es) :
    ∀ (c : Nat) (col : List Bool), (∀ (j : Nat) r, l[j]? = some r → a0.Rules[k + j]? = some r) → r28.drop c = es → c ≤ r28.length → col.length = S.length →
    forR (law11_SpaceEnds_b3 a0 (api_Space.mk S E, 0) i s r28) (irange (k : Int) ((k + l.length : Nat) : Int)) (col, (c : Int)) = some (.done (es.foldl setTo col, ((c + es.length : Nat) : Int))) := by
  induction hg with
  | nil k => intro c col _ h _ _; rw [show k + ([] : List api_Rule).length = k from rfl, irangeN_nil]; rfl
  | @skip k r l es h g ih =>
    intro c col hr hd hc hcl
    rw [show k + (r :: l).length = k + (l.length + 1) by simp, irangeN_cons]
    simp only [forR]
    have h0 := hr 0 r rfl
    rw [Nat.add_zero] at h0
    have hstep : law11_SpaceEnds_b3 a0 (api_Space.mk S E, 0) i s r28 k (col, (c : Int)) = some (.next (col, (c : Int))) := by
      simp only [law11_SpaceEnds_b3, gat_nat, h0, Option.bind_some, after11 r s hs, goes11, same11]
      unfold mvB at h
      cases h1 : goB r s <;> cases h2 : sameB (aftL r s) s <;> simp [h1, h2] at h ⊢
    rw [hstep]
    simp only [Option.bind_some]
    rw [show k + (l.length + 1) = k + 1 + l.length by omega]
    exact ih c col (fun j r' hj => by rw [show k + 1 + j = k + (j + 1) by omega]; exact hr (j + 1) r' (by simpa using hj)) hd hc hcl
  | @take k r l es a h ha g ih =>
    intro c col hr hd hc hcl
    rw [show k + (r :: l).length = k + (l.length + 1) by simp, irangeN_cons]
    simp only [forR]
    have h0 := hr 0 r rfl
    rw [Nat.add_zero] at h0
    have hcl2 : c < r28.length := by
      have := congrArg List.length hd
      simp at this; omega
    have hcx : r28[c]? = some (api_Edge.mk i k a) := by
      have := congrArg (·[0]?) hd
      simpa [List.getElem?_drop] using this
    have hal : a < S.length := (List.getElem?_eq_some_iff.1 ha).1
    have hstep : law11_SpaceEnds_b3 a0 (api_Space.mk S E, 0) i s r28 k (col, (c : Int)) = some (.next (setTo col (api_Edge.mk i k a), ((c + 1 : Nat) : Int))) := by
      simp only [law11_SpaceEnds_b3, gat_nat, h0, Option.bind_some, after11 r s hs, goes11, same11, hcx, ha]
      unfold mvB at h
      rw [show ((c + 1 : Nat) : Int) = IntKind.i64.wrap ((c : Int) + 1) by rw [w_i64 (by omega) (by omega)]; omega]
      cases h1 : goB r s <;> cases h2 : sameB (aftL r s) s <;> simp [h1, h2] at h ⊢
      rw [if_neg (by omega)]
      simp only [Option.bind_some]
      have hself : sameB (aftL r s) (aftL r s) = true := by simp [sameB]
      rw [hself]
      simp only [Bool.not_true, Bool.false_eq_true, if_false]
      rw [List.getElem?_eq_getElem (by omega), gput_lt col (by omega) (by omega)]
      rfl
    rw [hstep]
    simp only [Option.bind_some]
    rw [show k + (l.length + 1) = k + 1 + l.length by omega]
    have := ih (c + 1) (setTo col (api_Edge.mk i k a)) (fun j r' hj => by rw [show k + 1 + j = k + (j + 1) by omega]; exact hr (j + 1) r' (by simpa using hj)) (by
      have := congrArg (List.drop 1) hd
      rw [List.drop_drop] at this
      simpa using this) (by omega) (by simpa [setTo] using hcl)
    rw [this]
    simp only [List.foldl_cons, List.length_cons]
    rw [show c + 1 + es.length = c + (es.length + 1) by omega]
end Go.AM
/-
  Layer 11: the law of the ends.
-/
namespace Go.AM
open Go

theorem Term.anEnd {E : List api_Edge} {N : Nat} (hE : EIn E N) {i : Nat} (h : Term E i) : i < N → ∃ j, j < N ∧ outE E j = [] := by
  induction h with
  | mk i h ih =>
    intro hi
    by_cases c : outE E i = []
    · exact ⟨i, hi, c⟩
    · obtain ⟨e, he⟩ := List.exists_mem_of_ne_nil _ c
      obtain ⟨h1, h2⟩ := mem_out.1 he
      have := (hE e h1).2
      exact ih e.To.toNat ⟨e, h1, h2, by omega⟩ (by omega)

theorem reach_pl {S : List (List Int)} {E : List api_Edge} (hR : Rch S E) : ∀ n j : Nat, j < n → 0 < j → j < S.length → Pl E 0 j := by
  intro n
  induction n with
  | zero => intro j h; omega
  | succ n ih =>
    intro j hj h0 hl
    obtain ⟨e, he, h1, h2, h3⟩ := hR j h0 hl
    have hed : Eg E e.From.toNat j := ⟨e, he, by omega, h1⟩
    by_cases c : e.From.toNat = 0
    · rw [c] at hed; exact .one hed
    · exact .step (ih e.From.toNat (by omega) (by omega) (by omega)) hed

theorem mem_ends {E : List api_Edge} {N i : Nat} : ((i : Int) ∈ endsL E N) ↔ i < N ∧ outE E i = [] := by
  unfold endsL endsN
  rw [List.mem_map]
  constructor
  · rintro ⟨j, hj, e⟩
    have : j = i := by omega
    subst this
    obtain ⟨h1, h2⟩ := List.mem_filter.1 hj
    exact ⟨List.mem_range.1 h1, by simpa using h2⟩
  · rintro ⟨h1, h2⟩
    exact ⟨i, List.mem_filter.2 ⟨List.mem_range.2 h1, by simp [h2]⟩, rfl⟩

theorem law_ends (a0 : api_Program) (hr' : RulesOk' a0) : law11_SpaceEnds a0 = some true := by
  unfold law11_SpaceEnds
  rw [awake11]
  simp only [Option.bind_some, Bool.not_true, Bool.false_eq_true, if_false]
  obtain ⟨b, hb, hsm⟩ := small_ok (api_Program.mk a0.Init (api_Pol.mk 0 0 0 []) a0.Rules)
  rw [hb]
  cases b with
  | false => rfl
  | true =>
    have hs := hsm rfl
    simp only [Option.bind_some, Bool.not_true, Bool.false_eq_true, if_false]
    obtain ⟨⟨S, E⟩, f, e1, e2, e3⟩ := explore_full _ rfl hs (hr'.ok hs)
    rw [e1]
    simp only [Option.bind_some]
    by_cases hf : f = 0
    · subst hf
      obtain ⟨g, gE, ⟨L, hL, hLE, hLs⟩, gT⟩ := e2 rfl
      simp only at g gE hL hLE hLs gT
      have hle := g.ok.le
      have hpos : 0 < S.length := List.length_pos_iff.2 g.ok.ne
      have hinit : a0.Init.length ≤ 5 := hs.1
      have hgm : gmk (S.length : Int) false = some (List.replicate S.length false) := by unfold gmk; rw [if_pos (by omega)]; simp
      rw [if_neg (by simp), hgm]
      simp only [Option.bind_some]
      rw [ends_ok S E (by omega) (by omega)]
      simp only [Option.bind_some]
      rw [endsb1_ok]
      simp only [Option.bind_some]
      have hfrm : ∀ (j : Nat) es, L[j]? = some es → ∀ e ∈ es, e.From = ((0 + j : Nat) : Int) := fun j es hj e he => by
        obtain ⟨s, _, k2⟩ := hLs j es hj
        rw [Nat.zero_add]; exact k2.frm e he
      have hout : ∀ (j : Nat) es, L[j]? = some es → outE E j = es := fun j es hj => by
        have := outE_flat L 0 hfrm j es hj
        rwa [← hLE, Nat.zero_add] at this
      have htk : ∀ i, (L.take i).flatten.length ≤ E.length := fun i => by
        have : E.length = (L.take i).flatten.length + (L.drop i).flatten.length := by
          rw [hLE, ← List.length_append, ← List.flatten_append, List.take_append_drop]
        omega
      -- state by state
      have hmain := forR_map (law11_SpaceEnds_b2 a0 (api_Space.mk S E, 0) (endM (endsL E S.length) [])) (fun i q => q = ((L.take i).flatten.foldl setTo (List.replicate S.length false), ((L.take i).flatten.length : Int))) (fun _ => False) (fun _ => False) S.length 0 (List.replicate S.length false, 0) rfl (by
        rintro i q _ hi rfl
        have hi' : i < S.length := by omega
        have hLi := List.getElem?_eq_getElem (show i < L.length by omega)
        generalize hes : L[i]'(by omega) = es at hLi
        obtain ⟨s, k1, k2⟩ := hLs i es hLi
        have ho := hout i es hLi
        have hsl : s.length ≤ 1000 := by rw [g.ok.len s (List.mem_of_getElem? k1)]; omega
        refine .inl ⟨_, ?_, rfl⟩
        simp only [law11_SpaceEnds_b2, gat_nat, k1, Option.bind_some]
        rw [from_ok S E (by omega) i, ho]
        simp only [Option.bind_some]
        have hget : (mget (endM (endsL E S.length) []) (i : Int)).getD false = decide ((es.length : Int) = 0) := by
          rw [endM_get]
          have : ((i : Int) ∈ endsL E S.length) ↔ es = [] := by rw [mem_ends, ho]; exact ⟨fun h => h.2, fun h => ⟨hi', h⟩⟩
          by_cases c : es = []
          · rw [if_pos (this.2 c)]; simp [c]
          · rw [if_neg (fun h => c (this.1 h))]
            have : es.length ≠ 0 := fun h => c (List.length_eq_zero_iff.1 h)
            simp [mget, this]
        rw [hget]
        have hesl : es.length ≤ E.length := by
          have h1 := htk (i + 1)
          rw [List.take_add_one, hLi] at h1
          simp at h1; omega
        have hb3 := b3_run a0 S E i s es hsl (by omega) (by omega) k2 0 ((L.take i).flatten.foldl setTo (List.replicate S.length false)) (fun j r hj => by rw [Nat.zero_add]; exact hj) (by simp) (by omega) (by rw [setTo_len]; simp)
        rw [Nat.zero_add] at hb3
        have hb3' : forR (law11_SpaceEnds_b3 a0 (api_Space.mk S E, 0) i s es) (irange 0 (a0.Rules.length : Int)) ((L.take i).flatten.foldl setTo (List.replicate S.length false), 0) = _ := hb3
        have hc : (!(((es.length : Int) == 0) == decide ((es.length : Int) = 0))) = false := by
          by_cases c : (es.length : Int) = 0
          · rw [c]; rfl
          · have c2 : ((es.length : Int) == 0) = false := by simpa using c
            rw [c2, decide_eq_false c]; rfl
        rw [if_neg (by rw [hc]; decide), hb3']
        simp only [Option.bind_some, Nat.zero_add]
        rw [if_neg (by simp)]
        have h1 := htk i
        rw [w_i64 (by omega) (by omega)]
        have hsn : L.take (i + 1) = L.take i ++ [es] := by rw [List.take_add_one, hLi]; rfl
        rw [hsn, List.flatten_append, List.foldl_append, List.length_append]
        simp)
      rw [show (0 + S.length) = S.length by omega] at hmain
      rcases hmain with ⟨q, hq, hq2 | hF⟩ | ⟨r, _, hF⟩
      rotate_left
      · exact hF.elim
      · exact hF.elim
      subst hq2
      have hLt : L.take S.length = L := by rw [← hL]; exact List.take_length
      rw [hLt, ← hLE] at hq
      have hq' : forR (law11_SpaceEnds_b2 a0 (api_Space.mk S E, 0) (endM (endsL E S.length) [])) (irange 0 (S.length : Int)) (List.replicate S.length false, 0) = some (.done (E.foldl setTo (List.replicate S.length false), (E.length : Int))) := hq
      rw [hq']
      simp only [Option.bind_some]
      generalize hz : E.foldl setTo (List.replicate S.length false) = z
      have hzl : z.length = S.length := by rw [← hz, setTo_len]; simp
      have hzg : ∀ j : Nat, j < S.length → z[j]? = some (decide ((j : Int) > 0)) := by
        intro j hj
        have hget := setTo_get (b := j) E (List.replicate S.length false) (by simpa using hj)
        rw [hz] at hget
        have hjz : j < z.length := by omega
        rw [List.getElem?_eq_getElem hjz] at hget ⊢
        have hrep : ¬ ((List.replicate S.length false)[j]? = some true) := by rw [List.getElem?_replicate]; split <;> simp
        by_cases c : 0 < j
        · obtain ⟨e, he, h1, _⟩ := g.rch j c hj
          have : z[j] = true := by simpa using hget.2 (.inr ⟨e, he, by omega⟩)
          rw [this]; simp [c]
        · have hj0 : j = 0 := by omega
          subst hj0
          have : z[0] ≠ true := by
            intro hzt
            rcases hget.1 (by rw [hzt]) with h | ⟨e, he, h1⟩
            · exact hrep h
            · have hE := g.ok.edg e he
              have hed : Eg E e.From.toNat 0 := ⟨e, he, by omega, by omega⟩
              refine (gT 0 hpos).nocycle ?_
              by_cases d : e.From.toNat = 0
              · rw [d] at hed; exact .one hed
              · exact .step (reach_pl g.rch (e.From.toNat + 1) e.From.toNat (by omega) (by omega) (by omega)) hed
          have : z[0] = false := by simpa using this
          rw [this]; rfl
      have h4 := forR_map (law11_SpaceEnds_b4 z) (fun _ _ => True) (fun _ => False) (fun _ => False) z.length 0 () trivial (by
        rintro j ⟨⟩ _ hj _
        refine .inl ⟨(), ?_, trivial⟩
        simp only [law11_SpaceEnds_b4, gat_nat, hzg j (by omega), Option.bind_some]
        rw [if_neg (by simp)])
      rw [show (0 + z.length) = z.length by omega] at h4
      rcases h4 with ⟨⟨⟩, h4, _⟩ | ⟨r, _, hF⟩
      rotate_left
      · exact hF.elim
      have h4' : forR (law11_SpaceEnds_b4 z) (irange 0 (z.length : Int)) () = some (.done ()) := h4
      rw [h4']
      simp only [Option.bind_some]
      obtain ⟨j, hj, hje⟩ := (gT 0 hpos).anEnd g.ok.edg hpos
      have hmem : (j : Int) ∈ endsL E S.length := mem_ends.2 ⟨hj, hje⟩
      have hne : endM (endsL E S.length) [] ≠ [] := by
        intro h
        have := endM_get (j : Int) (endsL E S.length) []
        rw [h, if_pos hmem] at this
        cases this
      have hlen := endM_len (endsL E S.length) []
      have hel : (endsL E S.length).length ≤ 1000 := by
        have := List.length_filter_le (fun i => (outE E i).isEmpty) (List.range S.length)
        simp only [List.length_range] at this
        unfold endsL endsN; rw [List.length_map]; omega
      have hp := List.length_pos_iff.2 hne
      rw [if_pos (by simp)]
      unfold glen
      simp only [List.length_nil, Nat.zero_add] at hlen
      rw [if_pos (by omega)]
      simp only [Option.bind_some]
      have : decide (((endM (endsL E S.length) []).length : Int) > 0) = true := by simpa using hp
      rw [this]
    · have := e3 hf
      cases this
      rw [if_pos (by simpa using hf)]
      rfl
end Go.AM
