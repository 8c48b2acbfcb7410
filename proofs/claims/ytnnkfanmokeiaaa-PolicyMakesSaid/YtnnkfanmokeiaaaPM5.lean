import Derived.Test.YtnnkfanmokeiaaaPM3
/-  Several texts in one. -/
section
set_option linter.unusedVariables false
set_option linter.unusedSimpArgs false
namespace Go.AM
open Go
abbrev Pk := A8 Int
def cL : List Int → List Int → Int
  | x :: l, y :: m => if x < y then -1 else if x > y then 1 else cL l m
  | _, _ => 0
theorem qz : ∀ l m, cL l m = -1 ∨ cL l m = 0 ∨ cL l m = 1
  | [], _ => by simp [cL]
  | _ :: _, [] => by simp [cL]
  | x :: l, y :: m => by
    rw [cL]
    split
    · simp
    · split
      · simp
      · exact qz l m
theorem qA : ∀ {l m : List Int}, l.length = m.length → (cL l m = 0 ↔ l = m)
  | [], [], _ => by simp [cL]
  | x :: l, y :: m, h => by
    rw [cL]
    have ih := qA (l := l) (m := m) (by simpa using h)
    split
    · rename_i c; simp; intro e; omega
    · split
      · rename_i c; simp; intro e; omega
      · have : x = y := by omega
        simp [ih, this]
  | [], _ :: _, h => by simp at h
  | _ :: _, [], h => by simp at h
theorem qB : ∀ {l m : List Int}, l.length = m.length → cL m l = - cL l m
  | [], [], _ => by simp [cL]
  | x :: l, y :: m, h => by
    have ih := qB (l := l) (m := m) (by simpa using h)
    simp only [cL]
    by_cases c1 : x < y
    · rw [if_pos c1, if_neg (by omega), if_pos (by omega)]; omega
    · by_cases c2 : x > y
      · rw [if_pos (show y < x from c2), if_neg c1, if_pos c2]
      · rw [if_neg c1, if_neg c2, if_neg (by omega), if_neg (by omega), ih]
  | [], _ :: _, h => by simp at h
  | _ :: _, [], h => by simp at h
theorem qC : ∀ {l m n : List Int}, l.length = m.length → m.length = n.length → cL l m = -1 → cL m n = -1 → cL l n = -1
  | [], _, _, _, _, h, _ => by simp [cL] at h
  | x :: l, y :: m, z :: n, h1, h2, a, b => by
    have ih := qC (l := l) (m := m) (n := n) (by simpa using h1) (by simpa using h2)
    simp only [cL] at a b ⊢
    by_cases c1 : x < y
    · by_cases c2 : y < z
      · rw [if_pos (by omega)]
      · rw [if_neg c2] at b
        by_cases c3 : y > z
        · rw [if_pos c3] at b; omega
        · rw [if_pos (by omega)]
    · rw [if_neg c1] at a
      by_cases c4 : x > y
      · rw [if_pos c4] at a; omega
      · rw [if_neg c4] at a
        have hxy : x = y := by omega
        subst hxy
        by_cases c2 : x < z
        · rw [if_pos c2]
        · rw [if_neg c2] at b ⊢
          by_cases c3 : x > z
          · rw [if_pos c3] at b; omega
          · rw [if_neg c3] at b ⊢
            exact ih a b
  | _ :: _, [], _, h, _, _, _ => by simp at h
  | _ :: _, _ :: _, [], _, h, _, _ => by simp at h
def eD (a b : Pk) : Int := cL a.l b.l
def dR (a b : Pk) : Prop := eD a b = -1
theorem A8.len (a : Pk) : a.l.length = 8 := rfl
theorem uV {a b : Pk} (h : a.l = b.l) : a = b := by
  cases a; cases b; simp [A8.l] at h; simp [h]
theorem ny (a b : Pk) : eD a b = -1 ∨ eD a b = 0 ∨ eD a b = 1 := qz _ _
theorem nz {a b : Pk} : eD a b = 0 ↔ a = b := by
  unfold eD
  rw [qA (show a.l.length = b.l.length from rfl)]
  exact ⟨uV, fun h => by rw [h]⟩
theorem uW (a b : Pk) : eD b a = - eD a b := qB (show a.l.length = b.l.length from rfl)
theorem nA {a b c : Pk} (h : dR a b) (k : dR b c) : dR a c := qC (show a.l.length = b.l.length from rfl) (show b.l.length = c.l.length from rfl) h k
theorem jR (a : Pk) : ¬ dR a a := fun h => by
  have : eD a a = 0 := nz.2 rfl
  rw [dR, this] at h; omega
theorem qD {a b : Pk} : eD a b = 1 ↔ dR b a := by
  have := uW a b
  unfold dR; omega
theorem uX (a b : Pk) : lf a b = some (eD a b) := by
  have hr : ∀ l m : List Int, (match e8 (gF (fun p : Int × Int => if p.1 < p.2 then some (-1) else if p.1 > p.2 then some 1 else none) (l.zip m)) with | Ex.ret r => some r | Ex.done _ => some 0) = some (cL l m) := by
    intro l
    induction l with
    | nil => intro m; rfl
    | cons x l ih =>
      intro m
      cases m with
      | nil => rfl
      | cons y m =>
        simp only [List.zip_cons_cons, gF, cL]
        by_cases c1 : x < y
        · simp [c1, e8]
        · by_cases c2 : x > y
          · have c2' : y < x := c2
            simp [c1, c2', e8]
          · have c2' : ¬ y < x := c2
            simp only [c1, c2', if_false]
            exact ih m
  have e := ul (m9 a b) (fun p : Int × Int => if p.1 < p.2 then some (-1) else if p.1 > p.2 then some 1 else none) a.l b.l rfl (fun j x y hx hy => by
    simp only [m9, A8.get, dP, hx, hy, Option.bind_some]
    by_cases c1 : x < y
    · simp [c1, fO]
    · by_cases c2 : x > y
      · have c2' : y < x := c2
        simp [c1, c2', fO]
      · have c2' : ¬ y < x := c2
        simp [c1, c2', fO])
  unfold lf
  rw [show (bA 0 8) = bA 0 (a.l.length : Int) from rfl, e]
  simp only [Option.bind_some]
  have := hr a.l b.l
  unfold eD
  rw [← this]
  cases e8 (gF (fun p : Int × Int => if p.1 < p.2 then some (-1) else if p.1 > p.2 then some 1 else none) (a.l.zip b.l)) <;> rfl
def cf (l : List Pk) : Prop := l.Pairwise dR
theorem qE : ∀ {l m : List Pk}, cf l → cf m → (∀ x, x ∈ l ↔ x ∈ m) → l = m
  | [], [], _, _, _ => rfl
  | [], y :: m, _, _, h => by have := (h y).2 (by simp); simp at this
  | x :: l, [], _, _, h => by have := (h x).1 (by simp); simp at this
  | x :: l, y :: m, h1, h2, h => by
    obtain ⟨a1, a2⟩ := List.pairwise_cons.1 h1
    obtain ⟨b1, b2⟩ := List.pairwise_cons.1 h2
    have e : x = y := by
      rcases List.mem_cons.1 ((h x).1 (by simp)) with hx | hx
      · exact hx
      · rcases List.mem_cons.1 ((h y).2 (by simp)) with hy | hy
        · exact hy.symm
        · exact (jR x (nA (a1 y hy) (b1 x hx))).elim
    subst e
    rw [qE a2 b2 fun z => ?_]
    constructor
    · intro hz
      rcases List.mem_cons.1 ((h z).1 (by simp [hz])) with rfl | hz'
      · exact (jR _ (a1 _ hz)).elim
      · exact hz'
    · intro hz
      rcases List.mem_cons.1 ((h z).2 (by simp [hz])) with rfl | hz'
      · exact (jR _ (b1 _ hz)).elim
      · exact hz'
structure nB (a : Pk) (t : List Pk) (z : List Pk × Bool) : Prop where
  no : z.2 = false → z.1 = t ∧ ∀ x ∈ t, dR x a
  yes : z.2 = true → (∃ x ∈ t, ¬ dR x a) ∧ cf z.1 ∧ ∀ x, x ∈ z.1 ↔ x = a ∨ x ∈ t
  len : z.1.length ≤ t.length + 1
theorem uY {a x : Pk} {t : List Pk} {z : List Pk × Bool} (hi : nB a t z) (hst : cf t) (hlt : ∀ y ∈ t, dR y x) (hl : t.length ≤ 200000) {l : List Pk} {i : Nat} (hx : l[i]? = some x) : ∃ z', lg l a (i : Int) z = some z' ∧ nB a (t ++ [x]) z' := by
  obtain ⟨l1, b⟩ := z
  obtain ⟨h1, h2, h3⟩ := hi
  simp only at h1 h2 h3
  simp only [lg, dP, hx, Option.bind_some, uX]
  cases b with
  | false =>
    obtain ⟨rfl, hall⟩ := h1 rfl
    rcases ny a x with c | c | c
    · -- ahead of x
      have hax : dR a x := c
      simp only [c, Bool.not_false, Bool.true_and]
      rw [show decide ((-1 : Int) ≤ 0) = true by decide, if_pos rfl, fN (by simp; omega)]
      simp only [Option.bind_some]
      rw [show ((-1 : Int) != 0) = true by decide, if_pos rfl, fN (by simp; omega)]
      refine ⟨_, rfl, ⟨fun h => (by cases h), fun _ => ⟨⟨x, by simp, fun h => jR _ (nA h hax)⟩, ?_, fun y => ?_⟩, by simp⟩⟩
      · unfold cf
        rw [List.append_assoc, List.pairwise_append]
        refine ⟨hst, by simp [hax], fun y hy z hz => ?_⟩
        simp at hz
        rcases hz with rfl | rfl
        · exact hall y hy
        · exact hlt y hy
      · simp; constructor <;> (intro h; rcases h with h | h | h <;> simp [h])
    · -- the same
      have hax : a = x := nz.1 c
      subst hax
      simp only [c, Bool.not_false, Bool.true_and]
      rw [show decide ((0 : Int) ≤ 0) = true by decide, if_pos rfl, fN (by simp; omega)]
      simp only [Option.bind_some]
      rw [show ((0 : Int) != 0) = false by decide, if_neg (by simp)]
      refine ⟨_, rfl, ⟨fun h => (by cases h), fun _ => ⟨⟨a, by simp, jR a⟩, ?_, fun y => ?_⟩, by simp⟩⟩
      · unfold cf
        rw [List.pairwise_append]
        exact ⟨hst, by simp, fun y hy z hz => by simp at hz; subst hz; exact hall y hy⟩
      · simp; intro h; simp [h]
    · -- behind x
      have hxa : dR x a := qD.1 c
      simp only [c, Bool.not_false, Bool.true_and]
      rw [show decide ((1 : Int) ≤ 0) = false by decide, if_neg (by simp)]
      simp only [Option.bind_some]
      rw [show ((1 : Int) != 0) = true by decide, if_pos rfl, fN (by simp; omega)]
      refine ⟨_, rfl, ⟨fun _ => ⟨rfl, fun y hy => ?_⟩, fun h => (by cases h), by simp⟩⟩
      rcases List.mem_append.1 hy with hy | hy
      · exact hall y hy
      · simp at hy; subst hy; exact hxa
  | true =>
    obtain ⟨⟨w, hw, hwa⟩, hsr, hmem⟩ := h2 rfl
    have hax : dR a x := by
      have hwx := hlt w hw
      rcases ny a w with c | c | c
      · exact nA c hwx
      · rw [nz.1 c]; exact hwx
      · exact (hwa (qD.1 c)).elim
    have c : eD a x = -1 := hax
    simp only [c, Bool.not_true, Bool.false_and, Bool.false_eq_true, if_false, Option.bind_some]
    rw [show ((-1 : Int) != 0) = true by decide, if_pos rfl, fN (by simp; omega)]
    refine ⟨_, rfl, ⟨fun h => (by cases h), fun _ => ⟨⟨w, by simp [hw], hwa⟩, ?_, fun y => ?_⟩, by simp; omega⟩⟩
    · unfold cf
      rw [List.pairwise_append]
      refine ⟨hsr, by simp, fun y hy z hz => ?_⟩
      simp at hz; subst hz
      rcases (hmem y).1 hy with rfl | hy
      · exact hax
      · exact hlt y hy
    · rw [List.mem_append, hmem]; simp [or_assoc]
theorem uZ {l : List Pk} (hs : cf l) (a : Pk) (hl : l.length ≤ b9) : ∃ r, lh l a = some r ∧ cf r ∧ r.length ≤ l.length + 1 ∧ ∀ x, x ∈ r ↔ x = a ∨ x ∈ l := by
  unfold b9 at hl
  obtain ⟨⟨z, b⟩, e, h1, h2, h3⟩ := jH (lg l a) l (nB a) ([], false) ⟨fun _ => ⟨rfl, fun x hx => by cases hx⟩, fun h => (by cases h), by simp⟩ (fun i x s hx hi => by
    have hsp := nn hx
    unfold cf at hs
    rw [hsp, List.pairwise_append] at hs
    exact uY hi hs.1 (fun y hy => hs.2.2 y hy x (by simp)) (by simp; omega) hx)
  simp only at h1 h2 h3
  unfold lh
  rw [e]
  simp only [Option.bind_some]
  cases b with
  | false =>
    obtain ⟨rfl, hall⟩ := h1 rfl
    rw [show (!false) = true by rfl, if_pos rfl, fN (by simp; omega)]
    refine ⟨_, rfl, ?_, by simp, fun y => ?_⟩
    · unfold cf
      rw [List.pairwise_append]
      exact ⟨hs, by simp, fun y hy w hw => by simp at hw; subst hw; exact hall y hy⟩
    · simp; exact or_comm
  | true =>
    obtain ⟨_, h5, h6⟩ := h2 rfl
    exact ⟨z, rfl, h5, h3, h6⟩
theorem u0 {l m : List Pk} (hs : cf l) (hl : l.length + m.length ≤ b9) : ∃ r, iM l m = some r ∧ cf r ∧ r.length ≤ l.length + m.length ∧ ∀ x, x ∈ r ↔ x ∈ l ∨ x ∈ m := by
  obtain ⟨z, e, h1, h2, h3⟩ := jH (nb m) m (fun t z => cf z ∧ z.length ≤ l.length + t.length ∧ ∀ x, x ∈ z ↔ x ∈ l ∨ x ∈ t) l ⟨hs, by simp, by simp⟩ (fun i x s hx ⟨h1, h2, h3⟩ => by
    have hi : i < m.length := (List.getElem?_eq_some_iff.1 hx).1
    have hti : (m.take i).length ≤ i := by simp; omega
    obtain ⟨r, e, g1, g2, g3⟩ := uZ h1 x (by omega)
    refine ⟨r, ?_, g1, by simp only [List.length_append, List.length_singleton]; omega, fun y => ?_⟩
    · simp only [nb, dP, hx, Option.bind_some, e]
    · rw [g3, h3, List.mem_append]; simp; constructor <;> (intro h; rcases h with h | h | h <;> simp [h]))
  exact ⟨z, by unfold iM; rw [e]; rfl, h1, h2, h3⟩
end Go.AM
end
section
set_option linter.unusedVariables false
set_option linter.unusedSimpArgs false
namespace Go.AM
open Go
def fw (q : Pk) (f n : Int) : Pk := (q.put f n).getD q
mutual
def qF (st : List Int) : aj → Pk → Pk → Prop
  | ⟨o, f, n, l⟩ => fun q x =>
    if o = 0 then False
    else if o = 1 then x = q
    else if o = 2 then x = q ∧ q.get f = some n
    else if o = 3 then x = q ∧ bn st f = some n
    else if o = 4 then x = q ∧ ∀ y, ¬ nC st l q y
    else if o = 5 then x = fw q f n
    else if o = 6 then qH st l q x
    else nC st l q x
def qH (st : List Int) : List aj → Pk → Pk → Prop
  | [] => fun q x => x = q
  | k :: l => fun q x => ∃ y, qF st k q y ∧ qH st l y x
def nC (st : List Int) : List aj → Pk → Pk → Prop
  | [] => fun _ _ => False
  | k :: l => fun q x => qF st k q x ∨ nC st l q x
end
theorem u1 {f : Int} (h0 : 0 ≤ f) (h1 : f < 8) : f = 0 ∨ f = 1 ∨ f = 2 ∨ f = 3 ∨ f = 4 ∨ f = 5 ∨ f = 6 ∨ f = 7 := by omega
theorem lz (q : Pk) {f : Int} (n : Int) (h0 : 0 ≤ f) (h1 : f < 8) : q.put f n = some (fw q f n) ∧ (fw q f n).get f = some n ∧ (∃ v, q.get f = some v) ∧ (q.get f = some n → fw q f n = q) ∧ ∀ m, fw (fw q f n) f m = fw q f m := by
  obtain ⟨a0, a1, a2, a3, a4, a5, a6, a7⟩ := q
  rcases u1 h0 h1 with rfl | rfl | rfl | rfl | rfl | rfl | rfl | rfl <;>
    exact ⟨rfl, rfl, ⟨_, rfl⟩, fun h => by cases h; rfl, fun m => rfl⟩
theorem qI {p : aj} (h : bS 4 p = true) (ho : p.Op = 2) : 0 ≤ p.F ∧ p.F < 8 := by
  rw [gN, ho] at h
  simp at h
  omega
theorem qJ {p : aj} (h : bS 4 p = true) (ho : p.Op = 5) : 0 ≤ p.F ∧ p.F < 8 := by
  rw [gN, ho] at h
  simp at h
  omega
theorem qK {p : aj} (h : bS 4 p = true) (ho : p.Op = 3) : 0 ≤ p.F := by
  rw [gN, ho] at h
  simp at h
  omega
theorem u3 (q : Pk) {f : Int} (n : Int) (h0 : 0 ≤ f) (h1 : f < 8) : lb q f n = some (fw q f n) := by
  obtain ⟨e1, _, ⟨v, e2⟩, _⟩ := lz q n h0 h1
  unfold lb
  rw [show decide (f ≥ 0) = true from decide_eq_true h0, show decide (f < 8) = true from decide_eq_true h1]
  simp [e1, e2]
theorem nD {n : Int} {p : aj} (h : bS n p = true) (ho : p.Op = 6 ∨ p.Op = 7) : (∀ k ∈ p.Kids, bS n k = true) ∧ 2 ≤ p.Kids.length ∧ p.F = 0 ∧ p.N = 0 := by
  rw [gN, if_neg (by omega), if_neg (by omega), if_pos ho] at h
  simp only [Bool.and_eq_true, decide_eq_true_eq, List.all_eq_true] at h
  exact ⟨h.2, h.1⟩
theorem nE {n : Int} {p : aj} (h : bS n p = true) (ho : p.Op = 4) : ∃ k, p = ⟨4, 0, 0, [k]⟩ ∧ dj k = true ∧ bS n k = true := by
  rw [gN, if_neg (by omega), if_pos ho] at h
  simp only [Bool.and_eq_true, decide_eq_true_eq, List.all_eq_true] at h
  obtain ⟨⟨⟨h1, h2, h3⟩, h4⟩, h5⟩ := h
  obtain ⟨k, hk⟩ := List.length_eq_one_iff.1 h1
  refine ⟨k, ?_, h4 k (by simp [hk]), h5 k (by simp [hk])⟩
  cases p; simp_all
theorem nF {n : Int} {p : aj} (h : bS n p = true) : 0 ≤ p.Op ∧ p.Op ≤ 7 := by
  rw [gN] at h
  split at h
  · omega
  · split at h
    · omega
    · split at h
      · omega
      · split at h
        · omega
        · split at h
          · omega
          · split at h
            · omega
            · cases h
theorem lA (q : Pk) : cf [q] := by simp [cf]
theorem iS : cf [] := by simp [cf]
end Go.AM
end
