import Derived.Test.YtjdaaclkihjjnaaAmLp
import Derived.Test.YtjdaaclkihjjnaaSlT
/-
  Plain laws of Slim, part 1: what the functions answer.
-/
set_option linter.unusedVariables false
set_option linter.unusedSimpArgs false
namespace Go.AM
open Go

/-- two lists are the same -/
theorem pairs_eq (a b : List api_Pair) : ref05_SamePairs a b = some (decide (a = b)) := by
  unfold ref05_SamePairs
  by_cases hl : a.length = b.length
  · rw [if_neg (by simp [hl]), forR_zip (ref05_SamePairs_b1 a b) (fun x => if decide (x.1 ≠ x.2) then some false else none) a b hl (fun j x y hx hy => by
      unfold ref05_SamePairs_b1
      rw [gat_nat, gat_nat, hx, hy]
      by_cases c : x = y <;> simp [c, brOf]), runL_any, zip_ne hl]
    by_cases c : a = b <;> simp [c, exOf]
  · have hne : a ≠ b := fun e => hl (by rw [e])
    rw [if_pos (by simp; omega)]; simp [hne]

theorem equal_eq (a b : List api_Pair) : slices_Equal_api_Pair a b = some (decide (a = b)) := pairs_eq a b

theorem alike_eq (a b : api_Row) : slim_alike a b = some (decide (a.Acts = b.Acts)) := by
  unfold slim_alike slices_EqualFunc_api_Act
  by_cases hl : a.Acts.length = b.Acts.length
  · rw [if_neg (by simp [hl]), forR_zip _ (fun x => if decide (x.1 ≠ x.2) then some false else none) a.Acts b.Acts hl (fun j x y hx hy => by
      unfold slices_EqualFunc_api_Act_b1
      rw [gat_nat, gat_nat, hx, hy]
      simp only [Option.bind_some]
      rw [equal_eq]
      by_cases c : x = y <;> simp [c, brOf]), runL_any, zip_ne hl]
    by_cases c : a.Acts = b.Acts <;> simp [c, exOf]
  · have hne : a.Acts ≠ b.Acts := fun e => hl (by rw [e])
    rw [if_pos (by simp; omega)]; simp [hne]

theorem row_eq (a b : api_Row) : a = b ↔ a.Match = b.Match ∧ a.Acts = b.Acts := by
  cases a; cases b; simp

theorem same_eq (a b : List api_Row) : ref09_Same a b = some (decide (a = b)) := by
  unfold ref09_Same
  by_cases hl : a.length = b.length
  · rw [if_neg (by simp [hl]), forR_zip (ref09_Same_b1 a b) (fun x => if decide (x.1 ≠ x.2) then some false else none) a b hl (fun j x y hx hy => by
      unfold ref09_Same_b1
      rw [gat_nat, gat_nat, hx, hy]
      simp only [Option.bind_some]
      rw [pairs_eq]
      simp only [Option.bind_some]
      by_cases hm : x.Match = y.Match
      · by_cases ha : x.Acts.length = y.Acts.length
        · rw [if_neg (by simp [hm, ha]), forR_zip (ref09_Same_b2 x y) (fun z => if decide (z.1 ≠ z.2) then some (Br.ret false) else none) x.Acts y.Acts ha (fun j u v hu hv => by
            unfold ref09_Same_b2
            rw [gat_nat, gat_nat, hu, hv]
            simp only [Option.bind_some]
            rw [pairs_eq]
            by_cases c : u = v <;> simp [c, brOf]), runL_any, zip_ne ha]
          by_cases c : x.Acts = y.Acts
          · have : x = y := (row_eq x y).2 ⟨hm, c⟩
            simp [c, this, exOf, brOf]
          · have : x ≠ y := fun e => c (by rw [e])
            simp [c, this, exOf, brOf]
        · have : x ≠ y := fun e => ha (by rw [e])
          rw [if_pos (by simp; right; omega)]; simp [this, brOf]
      · have : x ≠ y := fun e => hm (by rw [e])
        rw [if_pos (by simp [hm])]; simp [this, brOf]), runL_any, zip_ne hl]
    by_cases c : a = b <;> simp [c, exOf]
  · have hne : a ≠ b := fun e => hl (by rw [e])
    rw [if_pos (by simp; omega)]; simp [hne]

theorem rsame_eq (a b : api_Row) : ref26_same a b = some (decide (a.Acts = b.Acts)) := by
  unfold ref26_same
  rw [same_eq]
  simp

def covers (a b : api_Row) : Bool := a.Match.all fun x => decide (x ∈ b.Match)

theorem has_eq (l : List api_Pair) (p : api_Pair) : ref09_has l p = some (decide (p ∈ l)) := by
  unfold ref09_has
  rw [forR_run0 (ref09_has_b1 l p) (fun x => if decide (x = p) then some true else none) l (fun j x hx => by
    unfold ref09_has_b1
    rw [gat_nat, hx]
    by_cases c : x = p <;> simp [c, brOf]), runL_any]
  by_cases c : p ∈ l
  · rw [if_pos (by simp [c])]; simp [c, exOf]
  · rw [if_neg (by simp [c])]; simp [c, exOf]

theorem rcovers_eq (a b : api_Row) : ref09_Covers a b = some (covers a b) := by
  unfold ref09_Covers
  rw [forR_run0 (ref09_Covers_b1 a b) (fun x => if !decide (x ∈ b.Match) then some false else none) a.Match (fun j x hx => by
    unfold ref09_Covers_b1
    rw [gat_nat, hx]
    simp only [Option.bind_some]
    rw [has_eq]
    by_cases c : x ∈ b.Match <;> simp [c, brOf]), runL_any]
  unfold covers
  rw [show (a.Match.any fun x => !decide (x ∈ b.Match)) = !(a.Match.all fun x => decide (x ∈ b.Match)) by rw [List.not_all_eq_any_not]]
  cases a.Match.all fun x => decide (x ∈ b.Match) <;> simp [exOf]

/-- the place of the first one -/
theorem index_ge {α : Type} (f : Int → Unit → Option (Br Unit Int)) (p : α → Bool) (l : List α) (h : ∀ (j : Nat) x, l[j]? = some x → f (j : Int) () = some (if p x then .ret (j : Int) else .next ())) :
    ((forR f (irange 0 (l.length : Int)) ()).bind fun q => match q with
    | .ret r => some r
    | .done () => some (-1)).bind (fun r1 => some (decide (r1 ≥ 0))) = some (l.any p) := by
  rcases forR_list f l (fun t _ => t.any p = false) (fun _ => False) (fun r => 0 ≤ r ∧ l.any p = true) () rfl (fun i x s hx hs => by
    have := h i x hx
    cases hp : p x with
    | true =>
      refine .inr (.inr ⟨(i : Int), by rw [this, hp]; rfl, by omega, ?_⟩)
      exact List.any_eq_true.2 ⟨x, List.mem_of_getElem? hx, hp⟩
    | false => exact .inl ⟨(), by rw [this, hp]; rfl, by simp [hs, hp]⟩) with ⟨s, e, hh | hh⟩ | ⟨r, e, h1, h2⟩
  · rw [e]; simp [hh]
  · exact hh.elim
  · rw [e]; simp [h1, h2]

theorem contains_eq (l : List api_Pair) (p : api_Pair) : slices_Contains_api_Pair l p = some (decide (p ∈ l)) := by
  unfold slices_Contains_api_Pair slices_Index_api_Pair
  refine (index_ge (slices_Index_api_Pair_b1 l p) (fun x => decide (p = x)) l (fun j x hx => by
    unfold slices_Index_api_Pair_b1
    rw [gat_nat, hx]
    by_cases c : p = x <;> simp [c])).trans ?_
  congr 1
  rw [Bool.eq_iff_iff]
  simp [List.any_eq_true]

theorem containsF_eq (l : List api_Pair) (f : api_Pair → Option Bool) (p : api_Pair → Bool) (h : ∀ x, f x = some (p x)) : slices_ContainsFunc_api_Pair l f = some (l.any p) := by
  unfold slices_ContainsFunc_api_Pair slices_IndexFunc_api_Pair
  exact index_ge _ p l fun j x hx => by
    unfold slices_IndexFunc_api_Pair_b1
    rw [gat_nat, hx]
    simp only [Option.bind_some]
    rw [h]
    cases p x <;> rfl

theorem containsR_eq (l : List api_Row) (f : api_Row → Option Bool) (p : api_Row → Bool) (h : ∀ x, f x = some (p x)) : slices_ContainsFunc_api_Row l f = some (l.any p) := by
  unfold slices_ContainsFunc_api_Row slices_IndexFunc_api_Row
  exact index_ge _ p l fun j x hx => by
    unfold slices_IndexFunc_api_Row_b1
    rw [gat_nat, hx]
    simp only [Option.bind_some]
    rw [h]
    cases p x <;> rfl

theorem covers_eq (a b : api_Row) : table_Covers a b = some (covers a b) := by
  unfold table_Covers
  rw [containsF_eq a.Match _ (fun x => !decide (x ∈ b.Match)) (fun x => by unfold table_Covers_1; rw [contains_eq]; rfl)]
  unfold covers
  rw [show (a.Match.any fun x => !decide (x ∈ b.Match)) = !(a.Match.all fun x => decide (x ∈ b.Match)) by rw [List.not_all_eq_any_not]]
  simp

def apart (a b : api_Row) : Bool := a.Match.any fun x => b.Match.any fun y => (x.F == y.F) && (x.N != y.N)

theorem apart_eq (a b : api_Row) : slim_Apart a b = some (apart a b) := by
  unfold slim_Apart
  rw [containsF_eq a.Match _ (fun x => b.Match.any fun y => (x.F == y.F) && (x.N != y.N)) (fun x => by
    unfold slim_Apart_1
    rw [containsF_eq b.Match (fun y0 => slim_Apart_1_1 y0 x) (fun y => (x.F == y.F) && (x.N != y.N)) (fun y => rfl)]
    rfl)]
  rfl

theorem rapart_eq (a b : api_Row) : ref26_Apart a b = some (apart a b) := by
  unfold ref26_Apart
  rw [forR_run0 (ref26_Apart_b1 a b) (fun x => if b.Match.any (fun y => (x.F == y.F) && (x.N != y.N)) then some true else none) a.Match (fun j x hx => by
    unfold ref26_Apart_b1
    rw [forR_run0 (ref26_Apart_b2 a b (j : Int)) (fun y => if (x.F == y.F) && (x.N != y.N) then some (Br.ret true) else none) b.Match (fun k y hy => by
      unfold ref26_Apart_b2
      rw [gat_nat, gat_nat, hx, hy]
      simp only [Option.bind_some]
      cases (x.F == y.F) && (x.N != y.N) <;> rfl), runL_any]
    cases b.Match.any fun y => (x.F == y.F) && (x.N != y.N) <;> rfl), runL_any]
  unfold apart
  cases a.Match.any fun x => b.Match.any fun y => (x.F == y.F) && (x.N != y.N) <;> rfl

/-- is one spared by those behind it? -/
def spd (x : api_Row) : List api_Row → Bool
  | [] => false
  | r :: l => if r.Acts = x.Acts then (if covers r x then true else spd x l) else if apart r x then spd x l else false

def idle (l : List api_Row) (i : Nat) : Bool := match l[i]? with
  | some x => (l.take i).any (fun r => covers r x) || spd x (l.drop (i + 1))
  | none => false

def spdStep (x r : api_Row) : Option Bool := if r.Acts = x.Acts then (if covers r x then some true else none) else if apart r x then none else some false

theorem spd_run (x : api_Row) : ∀ l, spd x l = (runL (spdStep x) l).getD false
  | [] => rfl
  | r :: l => by
    simp only [spd, runL, spdStep]
    by_cases c : r.Acts = x.Acts
    · simp only [if_pos c]
      cases h : covers r x with
      | true => rfl
      | false => simp only [Bool.false_eq_true, if_false]; exact spd_run x l
    · simp only [if_neg c]
      cases h : apart r x with
      | true => simp only [if_true]; exact spd_run x l
      | false => rfl

theorem covered_eq {l : List api_Row} {i : Nat} {x : api_Row} (hx : l[i]? = some x) : slim_covered l (i : Int) = some ((l.take i).any fun r => covers r x) := by
  have hi := (List.getElem?_eq_some_iff.1 hx).1
  unfold slim_covered
  have : gcut l 0 (i : Int) = some (l.take i) := by
    unfold gcut; rw [if_pos (by omega)]; simp
  rw [this]
  simp only [Option.bind_some]
  rw [containsR_eq (l.take i) _ (fun r => covers r x) (fun r => by unfold slim_covered_1; rw [gat_nat, hx]; simp only [Option.bind_some]; rw [covers_eq]; rfl)]
  rfl

theorem spared_eq {l : List api_Row} {i : Nat} {x : api_Row} (hl : l.length ≤ 1000) (hx : l[i]? = some x) : slim_spared l (i : Int) = some (spd x (l.drop (i + 1))) := by
  have hi := (List.getElem?_eq_some_iff.1 hx).1
  unfold slim_spared
  rw [w_i64 (by omega) (by omega)]
  have : gcut l ((i : Int) + 1) (l.length : Int) = some (l.drop (i + 1)) := by
    unfold gcut
    rw [if_pos (by omega), show ((i : Int) + 1).toNat = i + 1 by omega, Int.toNat_natCast]
    congr 1
    rw [List.take_of_length_le (by simp)]
  rw [this]
  simp only [Option.bind_some]
  rw [forR_run0 (slim_spared_b1 l (i : Int) (l.drop (i + 1))) (spdStep x) (l.drop (i + 1)) (fun j r hr => by
    unfold slim_spared_b1
    rw [gat_nat, gat_nat, hr, hx]
    simp only [Option.bind_some]
    rw [alike_eq]
    simp only [Option.bind_some]
    unfold spdStep
    by_cases c : r.Acts = x.Acts
    · simp only [decide_eq_true c, if_true, if_pos c]
      rw [covers_eq]
      cases covers r x <;> rfl
    · simp only [decide_eq_false c, Bool.false_eq_true, if_false, if_neg c]
      rw [apart_eq]
      cases apart r x <;> rfl), spd_run]
  cases runL (spdStep x) (l.drop (i + 1)) <;> rfl

theorem idle_neg {l : List api_Row} {i : Int} (h : i < 0 ∨ (l.length : Int) ≤ i) : slim_Idle l i = some false ∧ ref26_Idle l i = some false := by
  constructor
  · unfold slim_Idle
    by_cases c : i ≥ 0
    · rw [if_pos (by simpa using c), if_neg (by simp; omega)]; rfl
    · rw [if_neg (by simpa using c)]; rfl
  · unfold ref26_Idle
    rw [if_pos (by simpa using h)]

theorem idle_eq {l : List api_Row} (hl : l.length ≤ 1000) (i : Nat) : slim_Idle l (i : Int) = some (idle l i) := by
  unfold idle
  cases hx : l[i]? with
  | none =>
    have := List.getElem?_eq_none_iff.1 hx
    exact (idle_neg (.inr (by omega))).1
  | some x =>
    have hi := (List.getElem?_eq_some_iff.1 hx).1
    unfold slim_Idle
    rw [if_pos (by simp), if_pos (by simpa using hi), covered_eq hx]
    simp only [Option.bind_some]
    cases h : (l.take i).any fun r => covers r x with
    | true => rfl
    | false =>
      simp only [Bool.false_eq_true, if_false]
      rw [spared_eq hl hx]
      rfl

theorem ridle_eq {l : List api_Row} (hl : l.length ≤ 1000) (i : Nat) : ref26_Idle l (i : Int) = some (idle l i) := by
  unfold idle
  cases hx : l[i]? with
  | none =>
    have := List.getElem?_eq_none_iff.1 hx
    exact (idle_neg (.inr (by omega))).2
  | some x =>
    have hi := (List.getElem?_eq_some_iff.1 hx).1
    unfold ref26_Idle
    rw [if_neg (by simp; omega)]
    have e1 := forR_run0 (ref26_Idle_b1 l (i : Int)) (fun r => if covers r x then some true else none) (l.take i) (fun j r hr => by
      have hj : j < i := by have := (List.getElem?_eq_some_iff.1 hr).1; simp at this; omega
      rw [List.getElem?_take, if_pos hj] at hr
      unfold ref26_Idle_b1
      rw [gat_nat, gat_nat, hr, hx]
      simp only [Option.bind_some]
      rw [rcovers_eq]
      cases covers r x <;> rfl)
    rw [show (((l.take i).length : Nat) : Int) = (i : Int) by simp; omega] at e1
    rw [e1, runL_any]
    cases h : (l.take i).any fun r => covers r x with
    | true => simp [exOf, h]
    | false =>
      simp only [Bool.false_eq_true, if_false, exOf, Option.bind_some]
      rw [w_i64 (by omega) (by omega)]
      have e2 := forR_run (ref26_Idle_b2 l (i : Int)) (spdStep x) (l.drop (i + 1)) (i + 1) (fun j r hr => by
        rw [List.getElem?_drop] at hr
        unfold ref26_Idle_b2
        rw [gat_nat, gat_nat, hr, hx]
        simp only [Option.bind_some]
        rw [rsame_eq]
        simp only [Option.bind_some]
        unfold spdStep
        by_cases c : r.Acts = x.Acts
        · simp only [decide_eq_true c, if_pos c, Bool.not_true, Bool.false_eq_true, if_false]
          rw [rcovers_eq]
          cases covers r x <;> rfl
        · simp only [decide_eq_false c, if_neg c, Bool.not_false, if_true]
          rw [rapart_eq]
          cases apart r x <;> rfl)
      rw [show i + 1 + (l.drop (i + 1)).length = l.length by simp; omega, show ((i + 1 : Nat) : Int) = (i : Int) + 1 by omega] at e2
      rw [e2]
      simp only [h, Bool.false_or]
      rw [spd_run]
      cases runL (spdStep x) (l.drop (i + 1)) <;> rfl

end Go.AM
