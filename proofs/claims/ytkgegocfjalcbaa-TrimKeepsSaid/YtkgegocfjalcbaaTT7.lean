import Derived.Test.YtkgegocfjalcbaaTT6
/-
  Packets in order; lists of them.
-/
set_option linter.unusedVariables false
set_option linter.unusedSimpArgs false
namespace Go.AM
open Go

abbrev Pk := A8 Int

def cmpL : List Int → List Int → Int
  | x :: l, y :: m => if x < y then -1 else if x > y then 1 else cmpL l m
  | _, _ => 0

theorem cmpL_vals : ∀ l m, cmpL l m = -1 ∨ cmpL l m = 0 ∨ cmpL l m = 1
  | [], _ => by simp [cmpL]
  | _ :: _, [] => by simp [cmpL]
  | x :: l, y :: m => by
    rw [cmpL]
    split
    · simp
    · split
      · simp
      · exact cmpL_vals l m

theorem cmpL_zero : ∀ {l m : List Int}, l.length = m.length → (cmpL l m = 0 ↔ l = m)
  | [], [], _ => by simp [cmpL]
  | x :: l, y :: m, h => by
    rw [cmpL]
    have ih := cmpL_zero (l := l) (m := m) (by simpa using h)
    split
    · rename_i c; simp; intro e; omega
    · split
      · rename_i c; simp; intro e; omega
      · have : x = y := by omega
        simp [ih, this]
  | [], _ :: _, h => by simp at h
  | _ :: _, [], h => by simp at h

theorem cmpL_flip : ∀ {l m : List Int}, l.length = m.length → cmpL m l = - cmpL l m
  | [], [], _ => by simp [cmpL]
  | x :: l, y :: m, h => by
    have ih := cmpL_flip (l := l) (m := m) (by simpa using h)
    simp only [cmpL]
    by_cases c1 : x < y
    · rw [if_pos c1, if_neg (by omega), if_pos (by omega)]; omega
    · by_cases c2 : x > y
      · rw [if_pos (show y < x from c2), if_neg c1, if_pos c2]
      · rw [if_neg c1, if_neg c2, if_neg (by omega), if_neg (by omega), ih]
  | [], _ :: _, h => by simp at h
  | _ :: _, [], h => by simp at h

theorem cmpL_trans : ∀ {l m n : List Int}, l.length = m.length → m.length = n.length → cmpL l m = -1 → cmpL m n = -1 → cmpL l n = -1
  | [], _, _, _, _, h, _ => by simp [cmpL] at h
  | x :: l, y :: m, z :: n, h1, h2, a, b => by
    have ih := cmpL_trans (l := l) (m := m) (n := n) (by simpa using h1) (by simpa using h2)
    simp only [cmpL] at a b ⊢
    by_cases c1 : x < y
    · by_cases c2 : y < z
      · rw [if_pos (by omega)]
      · rw [if_neg c2] at b
        by_cases c3 : y > z
        · rw [if_pos c3] at b; omega
        · rw [if_pos (by omega)]
    · rw [if_neg c1] at a
      by_cases c4 : x > y
      · rw [if_pos c4] at a; omega
      · rw [if_neg c4] at a
        have hxy : x = y := by omega
        subst hxy
        by_cases c2 : x < z
        · rw [if_pos c2]
        · rw [if_neg c2] at b ⊢
          by_cases c3 : x > z
          · rw [if_pos c3] at b; omega
          · rw [if_neg c3] at b ⊢
            exact ih a b
  | _ :: _, [], _, h, _, _, _ => by simp at h
  | _ :: _, _ :: _, [], _, h, _, _ => by simp at h

def cmp (a b : Pk) : Int := cmpL a.l b.l
def ltP (a b : Pk) : Prop := cmp a b = -1

theorem A8.len (a : Pk) : a.l.length = 8 := rfl
theorem A8.l_inj {a b : Pk} (h : a.l = b.l) : a = b := by
  cases a; cases b; simp [A8.l] at h; simp [h]

theorem cmp_vals (a b : Pk) : cmp a b = -1 ∨ cmp a b = 0 ∨ cmp a b = 1 := cmpL_vals _ _
theorem cmp_zero {a b : Pk} : cmp a b = 0 ↔ a = b := by
  unfold cmp
  rw [cmpL_zero (show a.l.length = b.l.length from rfl)]
  exact ⟨A8.l_inj, fun h => by rw [h]⟩
theorem cmp_flip (a b : Pk) : cmp b a = - cmp a b := cmpL_flip (show a.l.length = b.l.length from rfl)
theorem ltP_trans {a b c : Pk} (h : ltP a b) (k : ltP b c) : ltP a c := cmpL_trans (show a.l.length = b.l.length from rfl) (show b.l.length = c.l.length from rfl) h k
theorem ltP_irr (a : Pk) : ¬ ltP a a := fun h => by
  have : cmp a a = 0 := cmp_zero.2 rfl
  rw [ltP, this] at h; omega
theorem gt_iff {a b : Pk} : cmp a b = 1 ↔ ltP b a := by
  have := cmp_flip a b
  unfold ltP; omega

theorem s_cmp (a b : Pk) : ref01_Compare a b = some (cmp a b) := by
  have hr : ∀ l m : List Int, (match exOf (runL (fun p : Int × Int => if p.1 < p.2 then some (-1) else if p.1 > p.2 then some 1 else none) (l.zip m)) with | Ex.ret r => some r | Ex.done _ => some 0) = some (cmpL l m) := by
    intro l
    induction l with
    | nil => intro m; rfl
    | cons x l ih =>
      intro m
      cases m with
      | nil => rfl
      | cons y m =>
        simp only [List.zip_cons_cons, runL, cmpL]
        by_cases c1 : x < y
        · simp [c1, exOf]
        · by_cases c2 : x > y
          · have c2' : y < x := c2
            simp [c1, c2', exOf]
          · have c2' : ¬ y < x := c2
            simp only [c1, c2', if_false]
            exact ih m
  have e := forR_zip (ref01_Compare_b1 a b) (fun p : Int × Int => if p.1 < p.2 then some (-1) else if p.1 > p.2 then some 1 else none) a.l b.l rfl (fun j x y hx hy => by
    simp only [ref01_Compare_b1, A8.get, gat_nat, hx, hy, Option.bind_some]
    by_cases c1 : x < y
    · simp [c1, brOf]
    · by_cases c2 : x > y
      · have c2' : y < x := c2
        simp [c1, c2', brOf]
      · have c2' : ¬ y < x := c2
        simp [c1, c2', brOf])
  unfold ref01_Compare
  rw [show (irange 0 8) = irange 0 (a.l.length : Int) from rfl, e]
  simp only [Option.bind_some]
  have := hr a.l b.l
  unfold cmp
  rw [← this]
  cases exOf (runL (fun p : Int × Int => if p.1 < p.2 then some (-1) else if p.1 > p.2 then some 1 else none) (a.l.zip b.l)) <;> rfl

def Srt (l : List Pk) : Prop := l.Pairwise ltP

theorem srt_ext : ∀ {l m : List Pk}, Srt l → Srt m → (∀ x, x ∈ l ↔ x ∈ m) → l = m
  | [], [], _, _, _ => rfl
  | [], y :: m, _, _, h => by have := (h y).2 (by simp); simp at this
  | x :: l, [], _, _, h => by have := (h x).1 (by simp); simp at this
  | x :: l, y :: m, h1, h2, h => by
    obtain ⟨a1, a2⟩ := List.pairwise_cons.1 h1
    obtain ⟨b1, b2⟩ := List.pairwise_cons.1 h2
    have e : x = y := by
      rcases List.mem_cons.1 ((h x).1 (by simp)) with hx | hx
      · exact hx
      · rcases List.mem_cons.1 ((h y).2 (by simp)) with hy | hy
        · exact hy.symm
        · exact (ltP_irr x (ltP_trans (a1 y hy) (b1 x hx))).elim
    subst e
    rw [srt_ext a2 b2 fun z => ?_]
    constructor
    · intro hz
      rcases List.mem_cons.1 ((h z).1 (by simp [hz])) with rfl | hz'
      · exact (ltP_irr _ (a1 _ hz)).elim
      · exact hz'
    · intro hz
      rcases List.mem_cons.1 ((h z).2 (by simp [hz])) with rfl | hz'
      · exact (ltP_irr _ (b1 _ hz)).elim
      · exact hz'

/-- Where 'Add' stands behind a part of the list. -/
structure AddAt (a : Pk) (t : List Pk) (z : List Pk × Bool) : Prop where
  no : z.2 = false → z.1 = t ∧ ∀ x ∈ t, ltP x a
  yes : z.2 = true → (∃ x ∈ t, ¬ ltP x a) ∧ Srt z.1 ∧ ∀ x, x ∈ z.1 ↔ x = a ∨ x ∈ t
  len : z.1.length ≤ t.length + 1

theorem add_step {a x : Pk} {t : List Pk} {z : List Pk × Bool} (hi : AddAt a t z) (hst : Srt t) (hlt : ∀ y ∈ t, ltP y x) (hl : t.length ≤ 200000) {l : List Pk} {i : Nat} (hx : l[i]? = some x) : ∃ z', ref01_Add_b1 l a (i : Int) z = some z' ∧ AddAt a (t ++ [x]) z' := by
  obtain ⟨l1, b⟩ := z
  obtain ⟨h1, h2, h3⟩ := hi
  simp only at h1 h2 h3
  simp only [ref01_Add_b1, gat_nat, hx, Option.bind_some, s_cmp]
  cases b with
  | false =>
    obtain ⟨rfl, hall⟩ := h1 rfl
    rcases cmp_vals a x with c | c | c
    · -- ahead of x
      have hax : ltP a x := c
      simp only [c, Bool.not_false, Bool.true_and]
      rw [show decide ((-1 : Int) ≤ 0) = true by decide, if_pos rfl, gapp_some (by simp; omega)]
      simp only [Option.bind_some]
      rw [show ((-1 : Int) != 0) = true by decide, if_pos rfl, gapp_some (by simp; omega)]
      refine ⟨_, rfl, ⟨fun h => (by cases h), fun _ => ⟨⟨x, by simp, fun h => ltP_irr _ (ltP_trans h hax)⟩, ?_, fun y => ?_⟩, by simp⟩⟩
      · unfold Srt
        rw [List.append_assoc, List.pairwise_append]
        refine ⟨hst, by simp [hax], fun y hy z hz => ?_⟩
        simp at hz
        rcases hz with rfl | rfl
        · exact hall y hy
        · exact hlt y hy
      · simp; constructor <;> (intro h; rcases h with h | h | h <;> simp [h])
    · -- the same
      have hax : a = x := cmp_zero.1 c
      subst hax
      simp only [c, Bool.not_false, Bool.true_and]
      rw [show decide ((0 : Int) ≤ 0) = true by decide, if_pos rfl, gapp_some (by simp; omega)]
      simp only [Option.bind_some]
      rw [show ((0 : Int) != 0) = false by decide, if_neg (by simp)]
      refine ⟨_, rfl, ⟨fun h => (by cases h), fun _ => ⟨⟨a, by simp, ltP_irr a⟩, ?_, fun y => ?_⟩, by simp⟩⟩
      · unfold Srt
        rw [List.pairwise_append]
        exact ⟨hst, by simp, fun y hy z hz => by simp at hz; subst hz; exact hall y hy⟩
      · simp; intro h; simp [h]
    · -- behind x
      have hxa : ltP x a := gt_iff.1 c
      simp only [c, Bool.not_false, Bool.true_and]
      rw [show decide ((1 : Int) ≤ 0) = false by decide, if_neg (by simp)]
      simp only [Option.bind_some]
      rw [show ((1 : Int) != 0) = true by decide, if_pos rfl, gapp_some (by simp; omega)]
      refine ⟨_, rfl, ⟨fun _ => ⟨rfl, fun y hy => ?_⟩, fun h => (by cases h), by simp⟩⟩
      rcases List.mem_append.1 hy with hy | hy
      · exact hall y hy
      · simp at hy; subst hy; exact hxa
  | true =>
    obtain ⟨⟨w, hw, hwa⟩, hsr, hmem⟩ := h2 rfl
    have hax : ltP a x := by
      have hwx := hlt w hw
      rcases cmp_vals a w with c | c | c
      · exact ltP_trans c hwx
      · rw [cmp_zero.1 c]; exact hwx
      · exact (hwa (gt_iff.1 c)).elim
    have c : cmp a x = -1 := hax
    simp only [c, Bool.not_true, Bool.false_and, Bool.false_eq_true, if_false, Option.bind_some]
    rw [show ((-1 : Int) != 0) = true by decide, if_pos rfl, gapp_some (by simp; omega)]
    refine ⟨_, rfl, ⟨fun h => (by cases h), fun _ => ⟨⟨w, by simp [hw], hwa⟩, ?_, fun y => ?_⟩, by simp; omega⟩⟩
    · unfold Srt
      rw [List.pairwise_append]
      refine ⟨hsr, by simp, fun y hy z hz => ?_⟩
      simp at hz; subst hz
      rcases (hmem y).1 hy with rfl | hy
      · exact hax
      · exact hlt y hy
    · rw [List.mem_append, hmem]; simp [or_assoc]

/-- 'Add' puts a packet into a list in order. -/
theorem s_add {l : List Pk} (hs : Srt l) (a : Pk) (hl : l.length ≤ BIG) : ∃ r, ref01_Add l a = some r ∧ Srt r ∧ r.length ≤ l.length + 1 ∧ ∀ x, x ∈ r ↔ x = a ∨ x ∈ l := by
  unfold BIG at hl
  obtain ⟨⟨z, b⟩, e, h1, h2, h3⟩ := forO_list (ref01_Add_b1 l a) l (AddAt a) ([], false) ⟨fun _ => ⟨rfl, fun x hx => by cases hx⟩, fun h => (by cases h), by simp⟩ (fun i x s hx hi => by
    have hsp := at_split hx
    unfold Srt at hs
    rw [hsp, List.pairwise_append] at hs
    exact add_step hi hs.1 (fun y hy => hs.2.2 y hy x (by simp)) (by simp; omega) hx)
  simp only at h1 h2 h3
  unfold ref01_Add
  rw [e]
  simp only [Option.bind_some]
  cases b with
  | false =>
    obtain ⟨rfl, hall⟩ := h1 rfl
    rw [show (!false) = true by rfl, if_pos rfl, gapp_some (by simp; omega)]
    refine ⟨_, rfl, ?_, by simp, fun y => ?_⟩
    · unfold Srt
      rw [List.pairwise_append]
      exact ⟨hs, by simp, fun y hy w hw => by simp at hw; subst hw; exact hall y hy⟩
    · simp; exact or_comm
  | true =>
    obtain ⟨_, h5, h6⟩ := h2 rfl
    exact ⟨z, rfl, h5, h3, h6⟩

theorem s_union {l m : List Pk} (hs : Srt l) (hl : l.length + m.length ≤ BIG) : ∃ r, ref07_union l m = some r ∧ Srt r ∧ r.length ≤ l.length + m.length ∧ ∀ x, x ∈ r ↔ x ∈ l ∨ x ∈ m := by
  obtain ⟨z, e, h1, h2, h3⟩ := forO_list (ref07_union_b1 m) m (fun t z => Srt z ∧ z.length ≤ l.length + t.length ∧ ∀ x, x ∈ z ↔ x ∈ l ∨ x ∈ t) l ⟨hs, by simp, by simp⟩ (fun i x s hx ⟨h1, h2, h3⟩ => by
    have hi : i < m.length := (List.getElem?_eq_some_iff.1 hx).1
    have hti : (m.take i).length ≤ i := by simp; omega
    obtain ⟨r, e, g1, g2, g3⟩ := s_add h1 x (by omega)
    refine ⟨r, ?_, g1, by simp only [List.length_append, List.length_singleton]; omega, fun y => ?_⟩
    · simp only [ref07_union_b1, gat_nat, hx, Option.bind_some, e]
    · rw [g3, h3, List.mem_append]; simp; constructor <;> (intro h; rcases h with h | h | h <;> simp [h]))
  exact ⟨z, by unfold ref07_union; rw [e]; rfl, h1, h2, h3⟩

end Go.AM
