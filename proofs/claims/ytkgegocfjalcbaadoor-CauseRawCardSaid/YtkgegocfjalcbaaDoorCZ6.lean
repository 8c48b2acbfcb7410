import Derived.Test.YtkgegocfjalcbaaDoorCZ5
/-
  Layer 21: the law of a history that is handed in.
-/
set_option linter.unusedVariables false
set_option linter.unusedSimpArgs false
namespace Go.AM
open Go

def runI {α ρ : Type} (step : Nat → α → Option ρ) : Nat → List α → Option ρ
  | _, [] => none
  | i, x :: l => match step i x with
    | some r => some r
    | none => runI step (i + 1) l

theorem forR_runI {α ρ : Type} (f : Int → Unit → Option (Br Unit ρ)) (step : Nat → α → Option ρ) : ∀ (l : List α) (a : Nat), (∀ (j : Nat) x, l[j]? = some x → f ((a + j : Nat) : Int) () = some (brOf (step (a + j) x))) →
    forR f (irange (a : Int) ((a + l.length : Nat) : Int)) () = some (exOf (runI step a l))
  | [], a, _ => by rw [show a + ([] : List α).length = a from rfl, irangeN_nil]; rfl
  | x :: l, a, h => by
    rw [show a + (x :: l).length = a + (l.length + 1) by simp, irangeN_cons]
    simp only [forR]
    have h0 := h 0 x rfl
    rw [Nat.add_zero] at h0
    rw [h0]
    simp only [Option.bind_some, runI]
    cases step a x with
    | some r => rfl
    | none =>
      show forR f _ () = _
      rw [show a + (l.length + 1) = a + 1 + l.length by omega]
      exact forR_runI f step l (a + 1) fun j y hj => by rw [show a + 1 + j = a + (j + 1) by omega]; exact h (j + 1) y (by simpa using hj)

theorem forR_runI0 {α ρ : Type} (f : Int → Unit → Option (Br Unit ρ)) (step : Nat → α → Option ρ) (l : List α) (h : ∀ (j : Nat) x, l[j]? = some x → f (j : Int) () = some (brOf (step j x))) :
    forR f (irange 0 (l.length : Int)) () = some (exOf (runI step 0 l)) := by
  have := forR_runI f step l 0 (fun j x hj => by rw [Nat.zero_add]; exact h j x hj)
  simpa using this

def ix : Option Nat → Int
  | some i => i
  | none => -1

theorem runI_find {α : Type} (p : α → Bool) : ∀ (l : List α) (a : Nat), runI (fun i x => if p x then some ((i : Nat) : Int) else none) a l = (l.findIdx? p).map fun i => ((i + a : Nat) : Int)
  | [], a => rfl
  | x :: l, a => by
    simp only [runI, List.findIdx?_cons]
    by_cases h : p x = true
    · simp [h]
    · simp only [h, Bool.false_eq_true, if_false, runI_find p l (a + 1), Option.map_map]
      congr 1
      funext i
      simp only [Function.comp_apply]
      omega

theorem find_run {α : Type} (p : α → Bool) (l : List α) (f : Int → Unit → Option (Br Unit Int)) (h : ∀ (j : Nat) x, l[j]? = some x → f (j : Int) () = some (if p x then .ret (j : Int) else .next ())) :
    forR f (irange 0 (l.length : Int)) () = some (exOf ((l.findIdx? p).map fun (i : Nat) => (i : Int))) := by
  rw [forR_runI0 f (fun i x => if p x then some ((i : Nat) : Int) else none) l (fun j x hj => by
    rw [h j x hj]; cases p x <;> rfl), runI_find]
  rfl


/-! the first one -/

def hasE (e : Nat) (s : api_Step) : Bool := s.Hop.New.toNat.testBit e
def NewOk (h : List api_Step) : Prop := ∀ s ∈ h, IntKind.u64.wrap s.Hop.New = s.Hop.New

theorem new_nat {h : List api_Step} (hh : NewOk h) {s : api_Step} (hs : s ∈ h) : ∃ x : Nat, x < 2 ^ 64 ∧ s.Hop.New = (x : Int) := by
  have := hh s hs
  rw [w_u64] at this
  exact ⟨s.Hop.New.toNat, by omega, by omega⟩

theorem hasR {h : List api_Step} (hh : NewOk h) {s : api_Step} (hs : s ∈ h) {e : Nat} (he : e < 64) : ref02_Has s.Hop.New (e : Int) = some (hasE e s) := by
  obtain ⟨x, hx, hn⟩ := new_nat hh hs
  unfold hasE
  rw [hn, hasN hx he]; rfl

theorem hasP {h : List api_Step} (hh : NewOk h) {s : api_Step} (hs : s ∈ h) {e : Nat} (he : e < 64) : cause_First_1 s (e : Int) = some (hasE e s) := by
  obtain ⟨x, hx, hn⟩ := new_nat hh hs
  have hp : 2 ^ e < 2 ^ 64 := Nat.pow_lt_pow_right (by decide) he
  unfold cause_First_1 events_Has hasE
  rw [events_bitN he, hn]
  simp only [Option.bind_some]
  have hand : x &&& 2 ^ e = if x.testBit e then 2 ^ e else 0 := by
    apply Nat.eq_of_testBit_eq
    intro i
    rw [Nat.testBit_and, Nat.testBit_two_pow]
    by_cases c : e = i
    · subst c
      cases hb : x.testBit e <;> simp [Nat.testBit_two_pow]
    · cases hb : x.testBit e <;> simp [c, Nat.testBit_two_pow]
  rw [andI_nat hx hp, hand, Int.toNat_natCast]
  have hpp := Nat.two_pow_pos e
  cases hb : x.testBit e
  · simp
  · have : ((2 ^ e : Nat) : Int) ≠ 0 := by omega
    simp only [if_true, bne_iff_ne, ne_eq, this, not_false_iff, Option.some.injEq]

theorem first_prog {h : List api_Step} (hh : NewOk h) {e : Nat} (he : e < 64) : cause_First h e = some (ix (h.findIdx? (hasE e))) := by
  unfold cause_First slices_IndexFunc_api_Step
  rw [find_run (hasE e) h _ fun j x hj => by
    simp only [slices_IndexFunc_api_Step_b1, gat_nat, hj, Option.bind_some, hasP hh (List.mem_of_getElem? hj) he]
    split <;> rfl]
  cases h.findIdx? _ <;> rfl

theorem first_ref {h : List api_Step} (hh : NewOk h) {e : Nat} (he : e < 64) : ∀ (m : Nat) (z : Int), m ≤ h.length → forO (law21_CauseRaw_b2 h e) (drange ((m : Int) - 1) (-1)) z = some (match (h.take m).findIdx? (hasE e) with | some k => (k : Int) | none => z)
  | 0, z, _ => rfl
  | m + 1, z, hm => by
    rw [dr_cons]
    have hx := List.getElem?_eq_getElem (show m < h.length by omega)
    simp only [forO]
    have hstep : law21_CauseRaw_b2 h e (m : Int) z = some (if hasE e h[m] then (m : Int) else z) := by
      simp only [law21_CauseRaw_b2, gat_nat, hx, Option.bind_some, hasR hh (List.getElem_mem _) he]
      split <;> rfl
    rw [hstep]
    simp only [Option.bind_some]
    rw [first_ref hh he m _ (by omega), List.take_add_one, hx]
    simp only [Option.toList_some, List.findIdx?_append]
    cases hf : (h.take m).findIdx? (hasE e) with
    | some k => simp
    | none =>
      have hl : (h.take m).length = m := by simp; omega
      cases hb : hasE e h[m] <;> simp [hb, List.findIdx?_cons, hl]

/-! both tell the same -/

theorem same_row {h : List api_Step} {n w i : Nat} (hn : n ≤ 20) (hw : w < 2 ^ n) {r1 : (List (List Int)) × Bool} (h1 : r1.1[i]? = some (castL (bits w))) :
    forR (law21_same_b2 r1 i (bm n w)) (irange 0 (n : Int)) 0 = some (.done ((bits w).length : Int)) := by
  have := forR_map (law21_same_b2 r1 i (bm n w)) (fun k t => t = ((cntB w k).length : Int)) (fun _ => False) (fun _ => False) n 0 0 rfl (by
    rintro k t _ hk rfl
    have hk' : k < n := by omega
    have hb := bits_len w
    refine .inl ⟨((cntB w (k + 1)).length : Int), ?_, rfl⟩
    rw [cnt_succ]
    simp only [law21_same_b2, gat_nat, bm_get hk', Option.bind_some, h1]
    cases hbt : w.testBit k
    · simp
    · have ha := bits_at hn hw hk' hbt
      have hlt := (List.getElem?_eq_some_iff.1 ha).1
      have hcl : (castL (bits w))[(cntB w k).length]? = some (k : Int) := by rw [castL_get, ha]; rfl
      simp only [Bool.not_true, Bool.false_eq_true, if_false, castL_len]
      rw [if_neg (by simp; omega), hcl]
      have hw1 : IntKind.i64.wrap (((cntB w k).length : Int) + 1) = ((cntB w k).length : Int) + 1 := by rw [w_i64 (by omega) (by omega)]
      simp [hw1])
  rw [show (0 + n) = n by omega, show ((0 : Nat) : Int) = 0 from rfl] at this
  rcases this with ⟨s', e, h' | h'⟩ | ⟨r, _, h'⟩
  · rw [e, h', bits_n hn hw]
  · exact h'.elim
  · exact h'.elim

theorem same_ok (paths : List api_Path) (h : List api_Step) (a2 : Int) (hn : h.length ≤ 20) : law21_same paths h a2 = some true := by
  unfold law21_same
  rcases look_both paths h a2 h.length rfl hn with ⟨al, os, e1, e2, hs, ho⟩ | ⟨e1, e2⟩
  · rw [ahead_list hn e1 hs ho, known_ok rfl hn e1 hs ho, e2]
    simp only [Option.bind_some]
    rw [if_neg (by simp)]
    have := forR_map (law21_same_b1 h (os.map fun w => castL (bits w), true) (os.map fun w => kn h (bits w), true) (os.map (bm h.length), true)) (fun _ _ => True) (fun _ => False) (fun _ => False) os.length 0 () trivial (by
      rintro i ⟨⟩ _ hi _
      have hio : i < os.length := by omega
      have hw := List.getElem?_eq_getElem hio
      obtain ⟨s, _, k2⟩ := hs.get hio
      refine .inl ⟨(), ?_, trivial⟩
      have g1 : (os.map fun w => castL (bits w))[i]? = some (castL (bits os[i])) := by rw [List.getElem?_map, hw]; rfl
      have g2 : (os.map fun w => kn h (bits w))[i]? = some (kn h (bits os[i])) := by rw [List.getElem?_map, hw]; rfl
      have g3 : (os.map (bm h.length))[i]? = some (bm h.length os[i]) := by rw [List.getElem?_map, hw]; rfl
      have hrow := same_row (h := h) hn k2.1 (r1 := (os.map fun w => castL (bits w), true)) g1
      simp only [law21_same_b1, gat_nat, g3, Option.bind_some, bm_len]
      rw [hrow]
      simp only [Option.bind_some]
      rw [g1]
      simp only [Option.bind_some, castL_len]
      rw [if_neg (by simp), g2, known_ref rfl hn k2.1]
      simp)
    rw [show (0 + os.length) = os.length by omega, show ((0 : Nat) : Int) = 0 from rfl] at this
    rw [List.length_map]
    rcases this with ⟨⟨⟩, e, _⟩ | ⟨r, _, h'⟩
    · rw [e]; rfl
    · exact h'.elim
  · have f1 : cause_Ahead paths h a2 = some ([], false) := by unfold cause_Ahead; rw [e1]; rfl
    have f2 : cause_Known paths h a2 = some ([], false) := by unfold cause_Known; rw [e1]; rfl
    rw [f1, f2, e2]
    rfl

theorem law_raw (a0 : List api_Path) (a1 : List api_Step) (a2 : Int) (hh : NewOk a1) : law21_CauseRaw a0 a1 a2 = some true := by
  unfold law21_CauseRaw
  rw [awake21]
  simp only [Option.bind_some, Bool.not_true, Bool.false_eq_true, if_false]
  by_cases c : (decide ((a0.length : Int) > 8) || decide ((a1.length : Int) > 20)) = true
  · rw [if_pos c]
  · rw [if_neg c]
    simp at c
    have hl : a1.length ≤ 20 := by omega
    have := forR_map (law21_CauseRaw_b1 a1) (fun _ _ => True) (fun _ => False) (fun _ => False) 8 0 () trivial (by
      rintro e ⟨⟩ _ he _
      refine .inl ⟨(), ?_, trivial⟩
      simp only [law21_CauseRaw_b1]
      rw [w_i64 (by omega) (by omega), first_ref hh (show e < 64 by omega) a1.length (-1) (Nat.le_refl _), first_prog hh (show e < 64 by omega)]
      simp only [Option.bind_some, List.take_length]
      cases a1.findIdx? (hasE e) <;> simp [ix])
    rcases this with ⟨⟨⟩, e, _⟩ | ⟨r, _, h'⟩
    · have e' : forR (law21_CauseRaw_b1 a1) (irange 0 8) () = some (.done ()) := e
      rw [e']
      simp only [Option.bind_some]
      rw [same_ok a0 a1 a2 hl]; rfl
    · exact h'.elim
end Go.AM
