import Derived.Test.YtjdaaclkihjjnaaTS1
/-
  Plain laws of Slim, part 2: lists made slim; SlimTells.
-/
set_option linter.unusedVariables false
set_option linter.unusedSimpArgs false
namespace Go.AM
open Go

def del (l : List api_Row) (i : Nat) : List api_Row := l.take i ++ l.drop (i + 1)

def slimP : Nat → List api_Row → List api_Row
  | 0, l => l
  | k + 1, l => slimP k (if idle l k then del l k else l)

def lastI : Nat → List api_Row → Option Nat
  | 0, _ => none
  | k + 1, l => if idle l k then some k else lastI k l

theorem del_len {l : List api_Row} {i : Nat} (h : i < l.length) : (del l i).length = l.length - 1 := by simp [del]; omega

theorem idle_lt {l : List api_Row} {i : Nat} (h : idle l i = true) : i < l.length := by
  unfold idle at h
  cases hx : l[i]? with
  | none => rw [hx] at h; cases h
  | some x => exact (List.getElem?_eq_some_iff.1 hx).1

theorem drange_succ (k : Nat) : drange (k : Int) (-1) = (k : Int) :: drange ((k : Int) - 1) (-1) := by
  unfold drange
  rw [show ((k : Int) - -1).toNat = k + 1 by omega, show ((k : Int) - 1 - -1).toNat = k by omega, List.range_succ_eq_map]
  simp only [List.map_cons, List.map_map]
  refine List.cons_eq_cons.2 ⟨by simp, ?_⟩
  apply List.map_congr_left
  intro i hi
  show (k : Int) - ((i + 1 : Nat) : Int) = (k : Int) - 1 - (i : Int)
  omega

theorem drange_zero : drange (((0 : Nat) : Int) - 1) (-1) = [] := rfl

theorem delete_eq {l : List api_Row} {k : Nat} (h : k < l.length) (hl : l.length ≤ 1000) : slices_Delete_api_Row l (k : Int) (IntKind.i64.wrap ((k : Int) + 1)) = some (del l k) := by
  unfold slices_Delete_api_Row
  rw [w_i64 (by omega) (by omega), if_pos (by omega), show ((k : Int) + 1).toNat = k + 1 by omega, Int.toNat_natCast]
  rfl

theorem slim_loop : ∀ (k : Nat) (l : List api_Row), k ≤ l.length → l.length ≤ 1000 → forO slim_Slim_b1 (drange ((k : Int) - 1) (-1)) l = some (slimP k l)
  | 0, l, _, _ => by rw [drange_zero]; rfl
  | k + 1, l, hk, hl => by
    rw [show ((k + 1 : Nat) : Int) - 1 = (k : Int) by omega, drange_succ]
    simp only [forO, slimP]
    have : slim_Slim_b1 (k : Int) l = some (if idle l k then del l k else l) := by
      unfold slim_Slim_b1
      show ((slim_Idle l (k : Int)).bind _).bind _ = _
      rw [idle_eq hl]
      simp only [Option.bind_some]
      cases h : idle l k with
      | true =>
        simp only [if_true]
        rw [delete_eq (by omega) hl]
        rfl
      | false => rfl
    rw [this]
    simp only [Option.bind_some]
    refine slim_loop k _ ?_ ?_
    · split
      · rw [del_len (by omega)]; omega
      · omega
    · split
      · rw [del_len (by omega)]; omega
      · exact hl

theorem slim_eq {l : List api_Row} (hl : l.length ≤ 1000) : slim_Slim l = some (slimP l.length l) := by
  unfold slim_Slim slices_Clone_api_Row
  rw [gapp_some (by simp; omega)]
  simp only [Option.bind_some, List.nil_append]
  rw [w_i64 (by omega) (by omega), slim_loop l.length l (Nat.le_refl _) hl]
  rfl

theorem ref_loop {l : List api_Row} (hl : l.length ≤ 1000) (self : List api_Row → Option (List api_Row)) : ∀ k, k ≤ l.length → forR (ref26_Slim_b1 l self) (drange ((k : Int) - 1) (-1)) () = match lastI k l with
    | none => some (.done ())
    | some i => (self (del l i)).map .ret
  | 0, _ => by rw [drange_zero]; rfl
  | k + 1, hk => by
    rw [show ((k + 1 : Nat) : Int) - 1 = (k : Int) by omega, drange_succ]
    simp only [forR, lastI]
    have : ref26_Slim_b1 l self (k : Int) () = if idle l k then (self (del l k)).map .ret else some (.next ()) := by
      unfold ref26_Slim_b1
      rw [ridle_eq hl]
      simp only [Option.bind_some]
      cases h : idle l k with
      | true =>
        simp only [if_true]
        have g1 : gcut l 0 (k : Int) = some (l.take k) := by unfold gcut; rw [if_pos (by omega)]; simp
        have g2 : gcut l ((k : Int) + 1) (l.length : Int) = some (l.drop (k + 1)) := by
          unfold gcut
          rw [if_pos (by omega), show ((k : Int) + 1).toNat = k + 1 by omega, Int.toNat_natCast, List.take_of_length_le (by simp)]
        rw [g1]
        simp only [Option.bind_some]
        rw [gapp_some (by simp; omega)]
        simp only [Option.bind_some, List.nil_append]
        rw [w_i64 (by omega) (by omega), g2]
        simp only [Option.bind_some]
        rw [gapp_some (by simp; omega)]
        simp only [Option.bind_some]
        show (self (del l k)).bind _ = _
        cases self (del l k) <;> rfl
      | false => rfl
    rw [this]
    cases h : idle l k with
    | true =>
      simp only [if_true]
      cases self (del l k) <;> rfl
    | false =>
      simp only [Bool.false_eq_true, if_false, Option.bind_some]
      exact ref_loop hl self k (by omega)

theorem slimP_none : ∀ (k : Nat) (l : List api_Row), lastI k l = none → slimP k l = l
  | 0, _, _ => rfl
  | k + 1, l, h => by
    simp only [lastI] at h
    simp only [slimP]
    cases hk : idle l k with
    | true => rw [hk] at h; cases h
    | false => rw [hk] at h; exact slimP_none k l h

theorem slimP_some : ∀ (k : Nat) (l : List api_Row) (i : Nat), lastI k l = some i → slimP k l = slimP i (del l i) ∧ i < k ∧ idle l i = true ∧ ∀ j, i < j → j < k → idle l j = false
  | 0, _, _, h => by cases h
  | k + 1, l, i, h => by
    simp only [lastI] at h
    simp only [slimP]
    cases hk : idle l k with
    | true =>
      rw [hk] at h
      cases h
      exact ⟨rfl, by omega, hk, fun j h1 h2 => by omega⟩
    | false =>
      rw [hk] at h
      obtain ⟨h1, h2, h3, h4⟩ := slimP_some k l i h
      refine ⟨h1, by omega, h3, fun j a b => ?_⟩
      by_cases c : j = k
      · subst c; exact hk
      · exact h4 j a (by omega)

theorem slimP_skip : ∀ (k i : Nat) (l : List api_Row), i ≤ k → (∀ j, i ≤ j → j < k → idle l j = false) → slimP k l = slimP i l
  | 0, i, l, h, _ => by
    have hz : i = 0 := by omega
    rw [hz]
  | k + 1, i, l, h, hn => by
    by_cases c : i = k + 1
    · subst c; rfl
    · simp only [slimP]
      rw [hn k (by omega) (by omega)]
      exact slimP_skip k i l (by omega) fun j a b => hn j a (by omega)

theorem idle_del {l : List api_Row} {i j : Nat} (hi : i < l.length) (hij : i ≤ j) (h : idle (del l i) j = true) : idle l (j + 1) = true := by
  have hg : (del l i)[j]? = l[j + 1]? := by
    unfold del
    rw [List.getElem?_append_right (by simp; omega), List.getElem?_drop]
    congr 1; simp; omega
  unfold idle at h ⊢
  rw [hg] at h
  cases hx : l[j + 1]? with
  | none => rw [hx] at h; cases h
  | some x =>
    rw [hx] at h
    simp only at h ⊢
    have hd : (del l i).drop (j + 1) = l.drop (j + 1 + 1) := by
      unfold del
      rw [List.drop_append, List.drop_eq_nil_of_le (by simp; omega), List.nil_append, List.drop_drop]
      congr 1
      simp; omega
    rw [hd] at h
    rw [Bool.or_eq_true] at h ⊢
    rcases h with h | h
    · left
      obtain ⟨r, hr, hc⟩ := List.any_eq_true.1 h
      refine List.any_eq_true.2 ⟨r, ?_, hc⟩
      unfold del at hr
      rw [List.take_append] at hr
      rcases List.mem_append.1 hr with hr | hr
      · rw [List.take_take] at hr
        exact List.mem_of_mem_take (i := min j i) (by
          have : (l.take (j + 1)).take (min j i) = l.take (min j i) := by rw [List.take_take]; congr 1; omega
          rw [this]; exact hr)
      · obtain ⟨q, hq, rfl⟩ := List.mem_iff_getElem.1 hr
        simp only [List.getElem_take, List.getElem_drop]
        simp at hq
        refine List.mem_iff_getElem?.2 ⟨i + 1 + q, ?_⟩
        rw [List.getElem?_take, if_pos (by omega), List.getElem?_eq_getElem (by omega)]
    · exact .inr h

theorem slimP_del {l : List api_Row} {i : Nat} (h : lastI l.length l = some i) : slimP l.length l = slimP (del l i).length (del l i) := by
  obtain ⟨h1, h2, h3, h4⟩ := slimP_some _ _ _ h
  rw [h1, del_len h2]
  refine (slimP_skip (l.length - 1) i (del l i) (by omega) fun j a b => ?_).symm
  cases hj : idle (del l i) j with
  | false => rfl
  | true =>
    have := idle_del h2 a hj
    rw [h4 (j + 1) (by omega) (by omega)] at this
    cases this

theorem ref_eq : ∀ (n m : Nat) (l : List api_Row), l.length ≤ n → n ≤ 1000 → ref26_Slim_f (m + n + 1) l = some (slimP l.length l)
  | n, m, l, hl, hn => by
    show ref26_Slim_s _ l = _
    unfold ref26_Slim_s
    rw [w_i64 (by omega) (by omega), ref_loop (by omega) _ l.length (Nat.le_refl _)]
    cases h : lastI l.length l with
    | none => simp [slimP_none _ _ h]
    | some i =>
      obtain ⟨h1, h2, h3, h4⟩ := slimP_some _ _ _ h
      simp only
      obtain ⟨n', rfl⟩ : ∃ n', n = n' + 1 := ⟨n - 1, by omega⟩
      have := ref_eq n' m (del l i) (by rw [del_len h2]; omega) (by omega)
      rw [show m + (n' + 1) = m + n' + 1 by omega, this, slimP_del h]
      rfl

theorem refSlim_eq {l : List api_Row} (hl : l.length ≤ 1000) : ref26_Slim l = some (slimP l.length l) := by
  unfold ref26_Slim
  obtain ⟨m, hm⟩ := FUEL_big (l.length + 1) (by omega)
  rw [hm, ← Nat.add_assoc]
  exact ref_eq l.length m l (Nat.le_refl _) hl

/-! guards -/

theorem few_total (l : List api_Row) : ∃ b, law09_Few l = some b ∧ (b = true → ∀ x ∈ l, x.Acts.length ≤ 40) := by
  unfold law09_Few
  by_cases c : l.length > 20
  · exact ⟨false, by rw [if_pos (by simp; omega)], fun h => by cases h⟩
  · rw [if_neg (by simp; omega)]
    rcases forR_list (law09_Few_b1 l) l (fun t _ => ∀ x ∈ t, x.Acts.length ≤ 40) (fun _ => False) (fun r => r = false) () (fun x h => by simp at h) (fun i x s hx hs => by
      unfold law09_Few_b1
      rw [gat_nat, hx]
      simp only [Option.bind_some]
      by_cases c2 : ((decide ((x.Match.length : Int) > 10)) || (decide ((x.Acts.length : Int) > 40))) = true
      · rw [if_pos c2]; exact .inr (.inr ⟨false, rfl, rfl⟩)
      · rw [if_neg c2, forR_run0 (law09_Few_b2 x) (fun y => if decide (y.length > 10) then some (Br.ret false) else none) x.Acts (fun j y hy => by
          unfold law09_Few_b2
          rw [gat_nat, hy]
          by_cases c3 : y.length > 10
          · simp [c3, brOf]
            omega
          · simp [c3, brOf]
            omega), runL_any]
        cases x.Acts.any fun y => decide (y.length > 10) with
        | true => exact .inr (.inr ⟨false, rfl, rfl⟩)
        | false =>
          refine .inl ⟨(), rfl, fun y hy => ?_⟩
          rcases List.mem_append.1 hy with hy | hy
          · exact hs y hy
          · simp at hy; subst hy; simp at c2; omega) with ⟨s, e, h | h⟩ | ⟨r, e, rfl⟩
    · rw [e]; exact ⟨true, rfl, fun _ => h⟩
    · exact h.elim
    · rw [e]; exact ⟨false, rfl, fun h => by cases h⟩

theorem rising_total (l : List api_Pair) (hl : l.length ≤ 9223372036854775807) : ∃ b, ref08_Rising l = some b := by
  unfold ref08_Rising
  rcases forR_list (ref08_Rising_b1 l) l (fun _ _ => True) (fun _ => False) (fun _ => True) () trivial (fun i x s hx _ => by
    have hi := (List.getElem?_eq_some_iff.1 hx).1
    unfold ref08_Rising_b1
    rw [gat_nat, hx]
    simp only [Option.bind_some]
    by_cases c1 : x.F < 0
    · rw [if_pos (by simpa using c1)]; exact .inr (.inr ⟨false, rfl, trivial⟩)
    · rw [if_neg (by simpa using c1)]
      by_cases c2 : x.F > 7
      · rw [if_pos (by simpa using c2)]; exact .inr (.inr ⟨false, rfl, trivial⟩)
      · rw [if_neg (by simpa using c2)]
        by_cases c3 : (i : Int) > 0
        · rw [if_pos (by simpa using c3), w_i64 (by omega) (by omega), show (i : Int) - 1 = ((i - 1 : Nat) : Int) by omega, gat_nat, List.getElem?_eq_getElem (by omega)]
          simp only [Option.bind_some]
          by_cases c4 : l[i - 1].F ≥ x.F
          · rw [if_pos (by simpa using c4)]; exact .inr (.inr ⟨false, rfl, trivial⟩)
          · rw [if_neg (by simpa using c4)]; exact .inl ⟨(), rfl, trivial⟩
        · rw [if_neg (by simpa using c3)]; exact .inl ⟨(), rfl, trivial⟩) with ⟨s, e, h⟩ | ⟨r, e, h⟩
  · rw [e]; exact ⟨true, rfl⟩
  · rw [e]; exact ⟨r, rfl⟩

def Sized (l : List api_Row) : Prop := ∀ x ∈ l, x.Match.length ≤ 9223372036854775807 ∧ ∀ a ∈ x.Acts, a.length ≤ 9223372036854775807

theorem right_total (l : List api_Row) (hs : Sized l) : ∃ b, ref09_Right l = some b := by
  unfold ref09_Right
  rcases forR_list (ref09_Right_b1 l) l (fun _ _ => True) (fun _ => False) (fun _ => True) () trivial (fun i x s hx _ => by
    have hxm := hs x (List.mem_of_getElem? hx)
    unfold ref09_Right_b1
    rw [gat_nat, hx]
    simp only [Option.bind_some]
    obtain ⟨b, hb⟩ := rising_total x.Match hxm.1
    rw [hb]
    simp only [Option.bind_some]
    by_cases c : ((!b) || (decide ((x.Acts.length : Int) > 32))) = true
    · rw [if_pos c]; exact .inr (.inr ⟨false, rfl, trivial⟩)
    · rw [if_neg c]
      rcases forR_list (ref09_Right_b2 x) x.Acts (fun _ _ => True) (fun _ => False) (fun r => ∃ b, r = .ret b) () trivial (fun j y s hy _ => by
        unfold ref09_Right_b2
        rw [gat_nat, hy]
        simp only [Option.bind_some]
        obtain ⟨b2, hb2⟩ := rising_total y (hxm.2 y (List.mem_of_getElem? hy))
        rw [hb2]
        cases b2 with
        | true => exact .inl ⟨(), rfl, trivial⟩
        | false => exact .inr (.inr ⟨_, rfl, false, rfl⟩)) with ⟨s, e, h⟩ | ⟨r, e, b3, rfl⟩
      · rw [e]; exact .inl ⟨(), rfl, trivial⟩
      · rw [e]; exact .inr (.inr ⟨b3, rfl, trivial⟩)) with ⟨s, e, h⟩ | ⟨r, e, h⟩
  · rw [e]; exact ⟨_, rfl⟩
  · rw [e]; exact ⟨r, rfl⟩

theorem awake26 : law26_awake = some true := by decide +kernel

theorem tells_loop {l : List api_Row} (hl : l.length ≤ 1000) : ∀ (k m : Nat) (i : Int), -1 ≤ i → i + k = (l.length : Int) + 1 → ∃ z, whR (law26_SlimTells_b1 l) (m + k + 1) i = some (.done z)
  | 0, m, i, h1, h2 => by
    rw [show m + 0 + 1 = m + 1 from rfl, whR_step]
    unfold law26_SlimTells_b1
    rw [if_neg (by simp; omega)]
    exact ⟨_, rfl⟩
  | k + 1, m, i, h1, h2 => by
    rw [show m + (k + 1) + 1 = (m + k + 1) + 1 by omega, whR_step]
    have e : ∃ b, slim_Idle l i = some b ∧ ref26_Idle l i = some b := by
      by_cases c : i < 0 ∨ (l.length : Int) ≤ i
      · exact ⟨false, idle_neg c⟩
      · refine ⟨idle l i.toNat, ?_, ?_⟩
        · have := idle_eq hl i.toNat; rwa [show ((i.toNat : Nat) : Int) = i by omega] at this
        · have := ridle_eq hl i.toNat; rwa [show ((i.toNat : Nat) : Int) = i by omega] at this
    obtain ⟨b, e1, e2⟩ := e
    have : law26_SlimTells_b1 l i = some (.next (i + 1)) := by
      unfold law26_SlimTells_b1
      rw [if_pos (by simp; omega), e1, e2]
      simp only [Option.bind_some]
      rw [if_neg (by simp), w_i64 (by omega) (by omega)]
    rw [this]
    exact tells_loop hl k m (i + 1) (by omega) (by omega)

theorem law_tells (l : List api_Row) (hs : Sized l) : law26_SlimTells l = some true := by
  unfold law26_SlimTells
  rw [awake26]
  simp only [Option.bind_some, Bool.not_true, Bool.false_eq_true, if_false]
  by_cases c : (l.length : Int) > 14
  · rw [if_pos (by simpa using c)]; rfl
  · rw [if_neg (by simpa using c)]
    obtain ⟨b1, e1, _⟩ := few_total l
    rw [e1]
    simp only [Option.bind_some]
    cases b1 with
    | false => rfl
    | true =>
      simp only [Bool.not_true, Bool.false_eq_true, if_false]
      obtain ⟨b2, e2⟩ := right_total l hs
      rw [e2]
      simp only [Option.bind_some]
      cases b2 with
      | false => rfl
      | true =>
        simp only [Bool.not_true, Bool.false_eq_true, if_false]
        have hl : l.length ≤ 1000 := by omega
        obtain ⟨m, hm⟩ := FUEL_big (l.length + 2 + 1) (by omega)
        obtain ⟨z, hz⟩ := tells_loop hl (l.length + 2) m (-1) (by omega) (by omega)
        rw [hm, ← Nat.add_assoc, hz]
        simp only [Option.bind_some]
        rw [forR_run0 (law26_SlimTells_b2 l) (fun _ => (none : Option Bool)) l (fun j x hx => by
          unfold law26_SlimTells_b2
          rw [gat_nat, hx]
          simp only [Option.bind_some]
          rw [forR_run0 (law26_SlimTells_b3 l x) (fun _ => (none : Option (Br Unit Bool))) l (fun k y hy => by
            unfold law26_SlimTells_b3
            rw [gat_nat, hy]
            simp only [Option.bind_some]
            rw [apart_eq, rapart_eq]
            simp [brOf])]
          have : ∀ t : List api_Row, runL (fun _ => (none : Option (Br Unit Bool))) t = none := by
            intro t; induction t with
            | nil => rfl
            | cons a t ih => exact ih
          rw [this]; rfl)]
        have : ∀ t : List api_Row, runL (fun _ => (none : Option Bool)) t = none := by
          intro t; induction t with
          | nil => rfl
          | cons a t ih => exact ih
        rw [this]
        simp only [exOf, Option.bind_some]
        rw [slim_eq hl, refSlim_eq hl]
        simp only [Option.bind_some]
        rw [same_eq]
        simp

end Go.AM
