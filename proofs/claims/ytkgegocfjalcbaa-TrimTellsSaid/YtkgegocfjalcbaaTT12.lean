import Derived.Test.YtkgegocfjalcbaaTT6a
import Derived.Test.YtkgegocfjalcbaaTT11
/-
  Whole programs; the statement TrimTells.
-/
set_option linter.unusedVariables false
set_option linter.unusedSimpArgs false
namespace Go.AM
open Go

theorem forR_congr {σ ρ : Type} {f g : Int → σ → Option (Br σ ρ)} : ∀ (l : List Int) (s : σ), (∀ i ∈ l, ∀ s, f i s = g i s) → forR f l s = forR g l s
  | [], s, _ => rfl
  | i :: l, s, h => by
    simp only [forR]
    rw [h i (by simp) s]
    cases g i s with
    | none => rfl
    | some x => cases x with
      | next s => exact forR_congr l s fun j hj => h j (by simp [hj])
      | brk s => rfl
      | ret r => rfl

theorem rising_eq : ref05_rising = syntax_once := rfl

theorem once_total (l : List api_Pair) (n : Int) (hl : l.length ≤ 1000) : ∃ b, syntax_once l n = some b := by
  have := forR_list (syntax_once_b1 l n) l (fun _ _ => True) (fun _ => False) (fun _ => True) () trivial (fun i x s hx _ => by
    have hi : i < l.length := (List.getElem?_eq_some_iff.1 hx).1
    simp only [syntax_once_b1, gat_nat, hx, Option.bind_some]
    have fin : ∀ y : Bool, (∃ s', (if y then some (Br.ret false) else some (Br.next ()) : Option (Br Unit Bool)) = some (.next s') ∧ True) ∨ (∃ s', (if y then some (Br.ret false) else some (Br.next ()) : Option (Br Unit Bool)) = some (.brk s') ∧ False) ∨ ∃ r, (if y then some (Br.ret false) else some (Br.next ()) : Option (Br Unit Bool)) = some (.ret r) ∧ True := by
      intro y; cases y
      · exact .inl ⟨(), rfl, trivial⟩
      · exact .inr (.inr ⟨false, rfl, trivial⟩)
    by_cases c1 : x.F < 0
    · rw [decide_eq_true c1]; exact fin true
    rw [decide_eq_false c1]
    by_cases c2 : x.F ≥ n
    · rw [decide_eq_true c2]; exact fin true
    rw [decide_eq_false c2]
    by_cases c3 : (i : Int) > 0
    · rw [decide_eq_true c3]
      have hw : IntKind.i64.wrap ((i : Int) - 1) = ((i - 1 : Nat) : Int) := by rw [w_i64 (by omega) (by omega)]; omega
      have hlt : i - 1 < l.length := by omega
      rw [hw, gat_nat, List.getElem?_eq_getElem hlt]
      exact fin _
    · rw [decide_eq_false c3]; exact fin false)
  unfold syntax_once
  rcases this with ⟨s', e, _⟩ | ⟨r, e, _⟩
  · rw [e]; exact ⟨true, rfl⟩
  · rw [e]; exact ⟨r, rfl⟩

theorem rule_eq (x : api_Program) (i : Int) (u : Unit) : syntax_Check_b1 x i u = ref05_Check_b1 x i u := by
  unfold syntax_Check_b1 ref05_Check_b1
  simp only [rising_eq]
  cases gat x.Rules i with
  | none => rfl
  | some r =>
    simp only [Option.bind_some]
    match r.When with
    | [] => rfl
    | [a] => rfl
    | a :: b :: w =>
      have h2 : ((a :: b :: w).length : Int) ≥ 2 := by simp; omega
      have h3 : ¬ ((a :: b :: w).length : Int) < 2 := by omega
      rw [decide_eq_true h2, decide_eq_false h3]
      simp only [if_true, Bool.false_eq_true, if_false, show gat (a :: b :: w) 0 = some a from rfl, show gat (a :: b :: w) 1 = some b from rfl, Option.bind_some]
      by_cases ca : a.F = 0
      · by_cases cb : b.F = 1
        · simp [ca, cb]
        · have : (b.F == 1) = false := by simpa using cb
          simp [ca, cb, this]
      · have : (a.F == 0) = false := by simpa using ca
        simp [ca, this]

theorem rule_total (x : api_Program) {i : Nat} {r : api_Rule} (hr : x.Rules[i]? = some r) (h : r.When.length ≤ 8 ∧ r.Guard.length ≤ 6 ∧ r.Then.length ≤ 6) : ∃ b : Bool, syntax_Check_b1 x (i : Int) () = some (if b then Br.ret 11 else Br.next ()) := by
  unfold syntax_Check_b1
  simp only [gat_nat, hr, Option.bind_some]
  obtain ⟨b1, e1⟩ := once_total r.When 8 (by omega)
  obtain ⟨b2, e2⟩ := once_total r.Guard (x.Init.length : Int) (by omega)
  obtain ⟨b3, e3⟩ := once_total r.Then (x.Init.length : Int) (by omega)
  rw [e1, e2, e3]
  have hy : ∃ y, (if decide ((r.When.length : Int) ≥ 2) then (gat r.When 0).bind fun x20 => (if (x20.F == 0) then (gat r.When 1).bind fun x22 => some (x22.F == 1) else some false) else some false) = some y := by
    match r.When with
    | [] => exact ⟨_, rfl⟩
    | [a] => exact ⟨_, rfl⟩
    | a :: b :: w =>
      have h2 : ((a :: b :: w).length : Int) ≥ 2 := by simp; omega
      rw [decide_eq_true h2]
      by_cases ca : a.F = 0
      · exact ⟨b.F == 1, by simp [gat, ca]⟩
      · exact ⟨false, by simp [gat, ca]⟩
  obtain ⟨y, hy⟩ := hy
  rw [hy]
  simp only [Option.bind_some]
  generalize ((r.Then.length : Int) == 0) = b4
  cases y <;> cases b1 <;> cases b2 <;> cases b3 <;> cases b4 <;> first | exact ⟨true, rfl⟩ | exact ⟨false, rfl⟩

def SmallR (x : api_Program) : Prop := ∀ r ∈ x.Rules, r.When.length ≤ 8 ∧ r.Guard.length ≤ 6 ∧ r.Then.length ≤ 6

theorem check_both {x : api_Program} (hp : psize x.Pol ≤ BIG) (hs : SmallR x) : ∃ c, syntax_Check x = some c ∧ ref05_Check x = some c := by
  have e0 : ref05_Check x = syntax_Check x := by
    unfold ref05_Check syntax_Check
    rw [s_size hp, r_size hp, s_depth hp, r_depth hp, s_form _ hp, r_form _ hp]
    rw [forR_congr (f := ref05_Check_b1 x) (g := syntax_Check_b1 x) _ () fun i _ s => (rule_eq x i s).symm]
  rw [e0]
  unfold syntax_Check
  rw [s_size hp, s_depth hp, s_form _ hp]
  have hl := forR_list (syntax_Check_b1 x) x.Rules (fun _ _ => True) (fun _ => False) (fun _ => True) () trivial (fun i r s hx _ => by
    obtain ⟨b, e⟩ := rule_total x hx (hs r (List.mem_of_getElem? hx))
    rw [e]
    cases b
    · exact .inl ⟨(), rfl, trivial⟩
    · exact .inr (.inr ⟨11, rfl, trivial⟩))
  have hc : ∃ c, (forR (syntax_Check_b1 x) (irange 0 (x.Rules.length : Int)) ()).bind (fun q35 => match q35 with | .ret r => some r | .done () => some (0 : Int)) = some c := by
    rcases hl with ⟨s', e, _⟩ | ⟨r, e, _⟩
    · rw [e]; exact ⟨0, rfl⟩
    · rw [e]; exact ⟨r, rfl⟩
  obtain ⟨c, hc⟩ := hc
  simp only [Option.bind_some, hc]
  have hy : ∃ y, (if decide ((x.Init.length : Int) < 1) then some true else (if decide ((x.Init.length : Int) > 4) then some true else (if decide ((psize x.Pol : Int) > 300) then some true else (if decide ((pdepth x.Pol : Int) > 20) then some true else some (decide ((x.Rules.length : Int) > 24)))))) = some y := by
    split
    · exact ⟨_, rfl⟩
    · split
      · exact ⟨_, rfl⟩
      · split
        · exact ⟨_, rfl⟩
        · split <;> exact ⟨_, rfl⟩
  obtain ⟨y, hy⟩ := hy
  rw [hy]
  simp only [Option.bind_some]
  cases y
  · cases pform (x.Init.length : Int) x.Pol
    · exact ⟨11, rfl, rfl⟩
    · exact ⟨c, hc, hc⟩
  · exact ⟨2, rfl, rfl⟩

theorem runS_no {α β : Type} : ∀ (l pre : List α), runS (fun _ _ _ => (none : Option β)) pre l = none
  | [], pre => rfl
  | x :: l, pre => by simp only [runS]; exact runS_no l _

theorem pairs_refl (l : List api_Pair) : ref05_SamePairs l l = some true := by
  unfold ref05_SamePairs
  rw [if_neg (by simp)]
  rw [forR_split0 (ref05_SamePairs_b1 l l) (fun _ _ _ => (none : Option Bool)) l fun pre x r e => by
    simp only [ref05_SamePairs_b1, gat_pre e, Option.bind_some]
    simp [brOf]]
  rw [runS_no]; rfl

theorem prog_refl {x : api_Program} (hp : psize x.Pol ≤ BIG) : ref05_Same x x = some true := by
  unfold ref05_Same
  rw [r_same _ hp]
  have h1 := forR_split0 (ref05_Same_b1 x x) (fun _ _ _ => (none : Option Bool)) x.Init fun pre y r e => by
    simp only [ref05_Same_b1, gat_pre e, Option.bind_some]
    simp [brOf]
  have h2 := forR_split0 (ref05_Same_b2 x x) (fun _ _ _ => (none : Option Bool)) x.Rules fun pre y r e => by
    simp only [ref05_Same_b2, gat_pre e, Option.bind_some, pairs_refl]
    rfl
  rw [runS_no] at h1 h2
  rw [h1, h2]
  simp [exOf]

theorem small_ok {x : api_Program} : ∃ b, law11_Small x = some b ∧ (b = true → SmallR x) := by
  unfold law11_Small
  by_cases c : ((decide ((x.Init.length : Int) > 5)) || (decide ((x.Rules.length : Int) > 26))) = true
  · rw [if_pos c]; exact ⟨false, rfl, fun h => by cases h⟩
  rw [if_neg c]
  have := forR_list (law11_Small_b1 x) x.Rules (fun d _ => ∀ r ∈ d, r.When.length ≤ 8 ∧ r.Guard.length ≤ 6 ∧ r.Then.length ≤ 6) (fun _ => False) (fun r => r = false) () (by simp) (fun i r s hx hP => by
    simp only [law11_Small_b1, gat_nat, hx, Option.bind_some]
    by_cases d : ((decide ((r.When.length : Int) > 8)) || ((decide ((r.Guard.length : Int) > 6)) || (decide ((r.Then.length : Int) > 6)))) = true
    · rw [if_pos d]; exact .inr (.inr ⟨false, rfl, rfl⟩)
    · rw [if_neg d]
      refine .inl ⟨(), rfl, fun y hy => ?_⟩
      rcases List.mem_append.1 hy with hy | hy
      · exact hP y hy
      · simp at hy; subst hy
        simp at d; omega)
  rcases this with ⟨s', e, h | h⟩ | ⟨r, e, rfl⟩
  · rw [e]; exact ⟨true, rfl, fun _ => h⟩
  · exact h.elim
  · rw [e]; exact ⟨false, rfl, fun h => by cases h⟩

theorem law_TrimTells {a0 : List law05_Step} (h : StepOk a0) (x : api_Program) : law28_TrimTells a0 x = some true := by
  obtain ⟨p, b, hp, hs⟩ := pile_ok h
  have hb : psize p ≤ BIG := by unfold BIG; omega
  have hq := trimP_size p
  have hqb : psize (trimP p) ≤ BIG := by omega
  obtain ⟨sm, hsm, hsr⟩ := small_ok (x := x)
  simp only [law28_TrimTells, awake_ok, hp, hsm, Option.bind_some, Bool.not_true, Bool.false_eq_true, if_false]
  cases b with
  | false => rfl
  | true =>
    cases sm with
    | false => rfl
    | true =>
      have hR : SmallR ⟨x.Init, p, x.Rules⟩ := hsr rfl
      obtain ⟨c, hc1, hc2⟩ := check_both (x := ⟨x.Init, p, x.Rules⟩) hb hR
      simp only [Bool.not_true, Bool.false_eq_true, if_false, Option.bind_some, r_trim hb, trim_Program, hc1, hc2, s_trim hb, r_same _ hqb, r_same _ hb, decide_true, if_true, s_trimmed hb]
      by_cases c0 : c = 0
      · subst c0
        have := prog_refl (x := ⟨x.Init, trimP p, x.Rules⟩) hqb
        simp [this]
      · have hn : (c != 0) = true := by simpa using c0
        have := prog_refl (x := ⟨[], ⟨0, 0, 0, []⟩, []⟩) (by simp [psize, psizeL, BIG])
        simp [hn, this, c0]

end Go.AM
