import Derived.Test.YtnnkfanmokeiaaaRP2
import Derived.Test.YtnnkfanmokeiaaaAmN4
import Derived.Test.YtnnkfanmokeiaaaAmPv
/-  Several texts in one. -/
section
set_option linter.unusedVariables false
set_option linter.unusedSimpArgs false
namespace Go.AM
open Go
abbrev Pk := A8 Int
def dT : List Int → List Int → Int
  | x :: l, y :: m => if x < y then -1 else if x > y then 1 else dT l m
  | _, _ => 0
theorem uV : ∀ l m, dT l m = -1 ∨ dT l m = 0 ∨ dT l m = 1
  | [], _ => by simp [dT]
  | _ :: _, [] => by simp [dT]
  | x :: l, y :: m => by
    rw [dT]
    split
    · simp
    · split
      · simp
      · exact uV l m
theorem uW : ∀ {l m : List Int}, l.length = m.length → (dT l m = 0 ↔ l = m)
  | [], [], _ => by simp [dT]
  | x :: l, y :: m, h => by
    rw [dT]
    have ih := uW (l := l) (m := m) (by simpa using h)
    split
    · rename_i c; simp; intro e; omega
    · split
      · rename_i c; simp; intro e; omega
      · have : x = y := by omega
        simp [ih, this]
  | [], _ :: _, h => by simp at h
  | _ :: _, [], h => by simp at h
theorem uX : ∀ {l m : List Int}, l.length = m.length → dT m l = - dT l m
  | [], [], _ => by simp [dT]
  | x :: l, y :: m, h => by
    have ih := uX (l := l) (m := m) (by simpa using h)
    simp only [dT]
    by_cases c1 : x < y
    · rw [if_pos c1, if_neg (by omega), if_pos (by omega)]; omega
    · by_cases c2 : x > y
      · rw [if_pos (show y < x from c2), if_neg c1, if_pos c2]
      · rw [if_neg c1, if_neg c2, if_neg (by omega), if_neg (by omega), ih]
  | [], _ :: _, h => by simp at h
  | _ :: _, [], h => by simp at h
theorem uY : ∀ {l m n : List Int}, l.length = m.length → m.length = n.length → dT l m = -1 → dT m n = -1 → dT l n = -1
  | [], _, _, _, _, h, _ => by simp [dT] at h
  | x :: l, y :: m, z :: n, h1, h2, a, b => by
    have ih := uY (l := l) (m := m) (n := n) (by simpa using h1) (by simpa using h2)
    simp only [dT] at a b ⊢
    by_cases c1 : x < y
    · by_cases c2 : y < z
      · rw [if_pos (by omega)]
      · rw [if_neg c2] at b
        by_cases c3 : y > z
        · rw [if_pos c3] at b; omega
        · rw [if_pos (by omega)]
    · rw [if_neg c1] at a
      by_cases c4 : x > y
      · rw [if_pos c4] at a; omega
      · rw [if_neg c4] at a
        have hxy : x = y := by omega
        subst hxy
        by_cases c2 : x < z
        · rw [if_pos c2]
        · rw [if_neg c2] at b ⊢
          by_cases c3 : x > z
          · rw [if_pos c3] at b; omega
          · rw [if_neg c3] at b ⊢
            exact ih a b
  | _ :: _, [], _, h, _, _, _ => by simp at h
  | _ :: _, _ :: _, [], _, h, _, _ => by simp at h
def gj (a b : Pk) : Int := dT a.l b.l
def fM (a b : Pk) : Prop := gj a b = -1
theorem A8.len (a : Pk) : a.l.length = 8 := rfl
theorem Ak {a b : Pk} (h : a.l = b.l) : a = b := by
  cases a; cases b; simp [A8.l] at h; simp [h]
theorem rg (a b : Pk) : gj a b = -1 ∨ gj a b = 0 ∨ gj a b = 1 := uV _ _
theorem rh {a b : Pk} : gj a b = 0 ↔ a = b := by
  unfold gj
  rw [uW (show a.l.length = b.l.length from rfl)]
  exact ⟨Ak, fun h => by rw [h]⟩
theorem Al (a b : Pk) : gj b a = - gj a b := uX (show a.l.length = b.l.length from rfl)
theorem rk {a b c : Pk} (h : fM a b) (k : fM b c) : fM a c := uY (show a.l.length = b.l.length from rfl) (show b.l.length = c.l.length from rfl) h k
theorem mQ (a : Pk) : ¬ fM a a := fun h => by
  have : gj a a = 0 := rh.2 rfl
  rw [fM, this] at h; omega
theorem uZ {a b : Pk} : gj a b = 1 ↔ fM b a := by
  have := Al a b
  unfold fM; omega
theorem Am (a b : Pk) : oz a b = some (gj a b) := by
  have hr : ∀ l m : List Int, (match fL (e9 (fun p : Int × Int => if p.1 < p.2 then some (-1) else if p.1 > p.2 then some 1 else none) (l.zip m)) with | Ex.ret r => some r | Ex.done _ => some 0) = some (dT l m) := by
    intro l
    induction l with
    | nil => intro m; rfl
    | cons x l ih =>
      intro m
      cases m with
      | nil => rfl
      | cons y m =>
        simp only [List.zip_cons_cons, e9, dT]
        by_cases c1 : x < y
        · simp [c1, fL]
        · by_cases c2 : x > y
          · have c2' : y < x := c2
            simp [c1, c2', fL]
          · have c2' : ¬ y < x := c2
            simp only [c1, c2', if_false]
            exact ih m
  have e := zS (qN a b) (fun p : Int × Int => if p.1 < p.2 then some (-1) else if p.1 > p.2 then some 1 else none) a.l b.l rfl (fun j x y hx hy => by
    simp only [qN, A8.get, cd, hx, hy, Option.bind_some]
    by_cases c1 : x < y
    · simp [c1, iC]
    · by_cases c2 : x > y
      · have c2' : y < x := c2
        simp [c1, c2', iC]
      · have c2' : ¬ y < x := c2
        simp [c1, c2', iC])
  unfold oz
  rw [show (bA 0 8) = bA 0 (a.l.length : Int) from rfl, e]
  simp only [Option.bind_some]
  have := hr a.l b.l
  unfold gj
  rw [← this]
  cases fL (e9 (fun p : Int × Int => if p.1 < p.2 then some (-1) else if p.1 > p.2 then some 1 else none) (a.l.zip b.l)) <;> rfl
def dg (l : List Pk) : Prop := l.Pairwise fM
theorem u3 : ∀ {l m : List Pk}, dg l → dg m → (∀ x, x ∈ l ↔ x ∈ m) → l = m
  | [], [], _, _, _ => rfl
  | [], y :: m, _, _, h => by have := (h y).2 (by simp); simp at this
  | x :: l, [], _, _, h => by have := (h x).1 (by simp); simp at this
  | x :: l, y :: m, h1, h2, h => by
    obtain ⟨a1, a2⟩ := List.pairwise_cons.1 h1
    obtain ⟨b1, b2⟩ := List.pairwise_cons.1 h2
    have e : x = y := by
      rcases List.mem_cons.1 ((h x).1 (by simp)) with hx | hx
      · exact hx
      · rcases List.mem_cons.1 ((h y).2 (by simp)) with hy | hy
        · exact hy.symm
        · exact (mQ x (rk (a1 y hy) (b1 x hx))).elim
    subst e
    rw [u3 a2 b2 fun z => ?_]
    constructor
    · intro hz
      rcases List.mem_cons.1 ((h z).1 (by simp [hz])) with rfl | hz'
      · exact (mQ _ (a1 _ hz)).elim
      · exact hz'
    · intro hz
      rcases List.mem_cons.1 ((h z).2 (by simp [hz])) with rfl | hz'
      · exact (mQ _ (b1 _ hz)).elim
      · exact hz'
structure rm (a : Pk) (t : List Pk) (z : List Pk × Bool) : Prop where
  no : z.2 = false → z.1 = t ∧ ∀ x ∈ t, fM x a
  yes : z.2 = true → (∃ x ∈ t, ¬ fM x a) ∧ dg z.1 ∧ ∀ x, x ∈ z.1 ↔ x = a ∨ x ∈ t
  len : z.1.length ≤ t.length + 1
theorem An {a x : Pk} {t : List Pk} {z : List Pk × Bool} (hi : rm a t z) (hst : dg t) (hlt : ∀ y ∈ t, fM y x) (hl : t.length ≤ 200000) {l : List Pk} {i : Nat} (hx : l[i]? = some x) : ∃ z', oA l a (i : Int) z = some z' ∧ rm a (t ++ [x]) z' := by
  obtain ⟨l1, b⟩ := z
  obtain ⟨h1, h2, h3⟩ := hi
  simp only at h1 h2 h3
  simp only [oA, cd, hx, Option.bind_some, Am]
  cases b with
  | false =>
    obtain ⟨rfl, hall⟩ := h1 rfl
    rcases rg a x with c | c | c
    · -- ahead of x
      have hax : fM a x := c
      simp only [c, Bool.not_false, Bool.true_and]
      rw [show decide ((-1 : Int) ≤ 0) = true by decide, if_pos rfl, dW (by simp; omega)]
      simp only [Option.bind_some]
      rw [show ((-1 : Int) != 0) = true by decide, if_pos rfl, dW (by simp; omega)]
      refine ⟨_, rfl, ⟨fun h => (by cases h), fun _ => ⟨⟨x, by simp, fun h => mQ _ (rk h hax)⟩, ?_, fun y => ?_⟩, by simp⟩⟩
      · unfold dg
        rw [List.append_assoc, List.pairwise_append]
        refine ⟨hst, by simp [hax], fun y hy z hz => ?_⟩
        simp at hz
        rcases hz with rfl | rfl
        · exact hall y hy
        · exact hlt y hy
      · simp; constructor <;> (intro h; rcases h with h | h | h <;> simp [h])
    · -- the same
      have hax : a = x := rh.1 c
      subst hax
      simp only [c, Bool.not_false, Bool.true_and]
      rw [show decide ((0 : Int) ≤ 0) = true by decide, if_pos rfl, dW (by simp; omega)]
      simp only [Option.bind_some]
      rw [show ((0 : Int) != 0) = false by decide, if_neg (by simp)]
      refine ⟨_, rfl, ⟨fun h => (by cases h), fun _ => ⟨⟨a, by simp, mQ a⟩, ?_, fun y => ?_⟩, by simp⟩⟩
      · unfold dg
        rw [List.pairwise_append]
        exact ⟨hst, by simp, fun y hy z hz => by simp at hz; subst hz; exact hall y hy⟩
      · simp; intro h; simp [h]
    · -- behind x
      have hxa : fM x a := uZ.1 c
      simp only [c, Bool.not_false, Bool.true_and]
      rw [show decide ((1 : Int) ≤ 0) = false by decide, if_neg (by simp)]
      simp only [Option.bind_some]
      rw [show ((1 : Int) != 0) = true by decide, if_pos rfl, dW (by simp; omega)]
      refine ⟨_, rfl, ⟨fun _ => ⟨rfl, fun y hy => ?_⟩, fun h => (by cases h), by simp⟩⟩
      rcases List.mem_append.1 hy with hy | hy
      · exact hall y hy
      · simp at hy; subst hy; exact hxa
  | true =>
    obtain ⟨⟨w, hw, hwa⟩, hsr, hmem⟩ := h2 rfl
    have hax : fM a x := by
      have hwx := hlt w hw
      rcases rg a w with c | c | c
      · exact rk c hwx
      · rw [rh.1 c]; exact hwx
      · exact (hwa (uZ.1 c)).elim
    have c : gj a x = -1 := hax
    simp only [c, Bool.not_true, Bool.false_and, Bool.false_eq_true, if_false, Option.bind_some]
    rw [show ((-1 : Int) != 0) = true by decide, if_pos rfl, dW (by simp; omega)]
    refine ⟨_, rfl, ⟨fun h => (by cases h), fun _ => ⟨⟨w, by simp [hw], hwa⟩, ?_, fun y => ?_⟩, by simp; omega⟩⟩
    · unfold dg
      rw [List.pairwise_append]
      refine ⟨hsr, by simp, fun y hy z hz => ?_⟩
      simp at hz; subst hz
      rcases (hmem y).1 hy with rfl | hy
      · exact hax
      · exact hlt y hy
    · rw [List.mem_append, hmem]; simp [or_assoc]
theorem Ao {l : List Pk} (hs : dg l) (a : Pk) (hl : l.length ≤ df) : ∃ r, oB l a = some r ∧ dg r ∧ r.length ≤ l.length + 1 ∧ ∀ x, x ∈ r ↔ x = a ∨ x ∈ l := by
  unfold df at hl
  obtain ⟨⟨z, b⟩, e, h1, h2, h3⟩ := jq (oA l a) l (rm a) ([], false) ⟨fun _ => ⟨rfl, fun x hx => by cases hx⟩, fun h => (by cases h), by simp⟩ (fun i x s hx hi => by
    have hsp := q6 hx
    unfold dg at hs
    rw [hsp, List.pairwise_append] at hs
    exact An hi hs.1 (fun y hy => hs.2.2 y hy x (by simp)) (by simp; omega) hx)
  simp only at h1 h2 h3
  unfold oB
  rw [e]
  simp only [Option.bind_some]
  cases b with
  | false =>
    obtain ⟨rfl, hall⟩ := h1 rfl
    rw [show (!false) = true by rfl, if_pos rfl, dW (by simp; omega)]
    refine ⟨_, rfl, ?_, by simp, fun y => ?_⟩
    · unfold dg
      rw [List.pairwise_append]
      exact ⟨hs, by simp, fun y hy w hw => by simp at hw; subst hw; exact hall y hy⟩
    · simp; exact or_comm
  | true =>
    obtain ⟨_, h5, h6⟩ := h2 rfl
    exact ⟨z, rfl, h5, h3, h6⟩
theorem Ap {l m : List Pk} (hs : dg l) (hl : l.length + m.length ≤ df) : ∃ r, lk l m = some r ∧ dg r ∧ r.length ≤ l.length + m.length ∧ ∀ x, x ∈ r ↔ x ∈ l ∨ x ∈ m := by
  obtain ⟨z, e, h1, h2, h3⟩ := jq (qO m) m (fun t z => dg z ∧ z.length ≤ l.length + t.length ∧ ∀ x, x ∈ z ↔ x ∈ l ∨ x ∈ t) l ⟨hs, by simp, by simp⟩ (fun i x s hx ⟨h1, h2, h3⟩ => by
    have hi : i < m.length := (List.getElem?_eq_some_iff.1 hx).1
    have hti : (m.take i).length ≤ i := by simp; omega
    obtain ⟨r, e, g1, g2, g3⟩ := Ao h1 x (by omega)
    refine ⟨r, ?_, g1, by simp only [List.length_append, List.length_singleton]; omega, fun y => ?_⟩
    · simp only [qO, cd, hx, Option.bind_some, e]
    · rw [g3, h3, List.mem_append]; simp; constructor <;> (intro h; rcases h with h | h | h <;> simp [h]))
  exact ⟨z, by unfold lk; rw [e]; rfl, h1, h2, h3⟩
end Go.AM
end
section
set_option linter.unusedVariables false
set_option linter.unusedSimpArgs false
namespace Go.AM
open Go
def fN (q : Pk) (f n : Int) : Pk := (q.put f n).getD q
mutual
def u4 (st : List Int) : al → Pk → Pk → Prop
  | ⟨o, f, n, l⟩ => fun q x =>
    if o = 0 then False
    else if o = 1 then x = q
    else if o = 2 then x = q ∧ q.get f = some n
    else if o = 3 then x = q ∧ be st f = some n
    else if o = 4 then x = q ∧ ∀ y, ¬ ro st l q y
    else if o = 5 then x = fN q f n
    else if o = 6 then u5 st l q x
    else ro st l q x
def u5 (st : List Int) : List al → Pk → Pk → Prop
  | [] => fun q x => x = q
  | k :: l => fun q x => ∃ y, u4 st k q y ∧ u5 st l y x
def ro (st : List Int) : List al → Pk → Pk → Prop
  | [] => fun _ _ => False
  | k :: l => fun q x => u4 st k q x ∨ ro st l q x
end
theorem u6 {f : Int} (h0 : 0 ≤ f) (h1 : f < 8) : f = 0 ∨ f = 1 ∨ f = 2 ∨ f = 3 ∨ f = 4 ∨ f = 5 ∨ f = 6 ∨ f = 7 := by omega
theorem u7 (q : Pk) {f : Int} (n : Int) (h0 : 0 ≤ f) (h1 : f < 8) : q.put f n = some (fN q f n) ∧ (fN q f n).get f = some n ∧ (∃ v, q.get f = some v) ∧ (q.get f = some n → fN q f n = q) ∧ ∀ m, fN (fN q f n) f m = fN q f m := by
  obtain ⟨a0, a1, a2, a3, a4, a5, a6, a7⟩ := q
  rcases u6 h0 h1 with rfl | rfl | rfl | rfl | rfl | rfl | rfl | rfl <;>
    exact ⟨rfl, rfl, ⟨_, rfl⟩, fun h => by cases h; rfl, fun m => rfl⟩
theorem Aq {p : al} (h : cL 4 p = true) (ho : p.Op = 2) : 0 ≤ p.F ∧ p.F < 8 := by
  rw [f4, ho] at h
  simp at h
  omega
theorem Ar {p : al} (h : cL 4 p = true) (ho : p.Op = 5) : 0 ≤ p.F ∧ p.F < 8 := by
  rw [f4, ho] at h
  simp at h
  omega
theorem As {p : al} (h : cL 4 p = true) (ho : p.Op = 3) : 0 ≤ p.F := by
  rw [f4, ho] at h
  simp at h
  omega
theorem At (q : Pk) {f : Int} (n : Int) (h0 : 0 ≤ f) (h1 : f < 8) : oy q f n = some (fN q f n) := by
  obtain ⟨e1, _, ⟨v, e2⟩, _⟩ := u7 q n h0 h1
  unfold oy
  rw [show decide (f ≥ 0) = true from decide_eq_true h0, show decide (f < 8) = true from decide_eq_true h1]
  simp [e1, e2]
theorem u9 {n : Int} {p : al} (h : cL n p = true) (ho : p.Op = 6 ∨ p.Op = 7) : (∀ k ∈ p.Kids, cL n k = true) ∧ 2 ≤ p.Kids.length ∧ p.F = 0 ∧ p.N = 0 := by
  rw [f4, if_neg (by omega), if_neg (by omega), if_pos ho] at h
  simp only [Bool.and_eq_true, decide_eq_true_eq, List.all_eq_true] at h
  exact ⟨h.2, h.1⟩
theorem vc {n : Int} {p : al} (h : cL n p = true) (ho : p.Op = 4) : ∃ k, p = ⟨4, 0, 0, [k]⟩ ∧ eS k = true ∧ cL n k = true := by
  rw [f4, if_neg (by omega), if_pos ho] at h
  simp only [Bool.and_eq_true, decide_eq_true_eq, List.all_eq_true] at h
  obtain ⟨⟨⟨h1, h2, h3⟩, h4⟩, h5⟩ := h
  obtain ⟨k, hk⟩ := List.length_eq_one_iff.1 h1
  refine ⟨k, ?_, h4 k (by simp [hk]), h5 k (by simp [hk])⟩
  cases p; simp_all
theorem vd {n : Int} {p : al} (h : cL n p = true) : 0 ≤ p.Op ∧ p.Op ≤ 7 := by
  rw [f4] at h
  split at h
  · omega
  · split at h
    · omega
    · split at h
      · omega
      · split at h
        · omega
        · split at h
          · omega
          · split at h
            · omega
            · cases h
theorem rp (q : Pk) : dg [q] := by simp [dg]
theorem mR : dg [] := by simp [dg]
end Go.AM
end
section
set_option linter.unusedVariables false
namespace Go.AM
def eT (a b : Int) : Int := if a < b then -1 else if a > b then 1 else 0
def fO (x y : List Int) : Nat → Nat → Int
  | 0, _ => 0
  | n + 1, i => if eT (x.getD i 0) (y.getD i 0) ≠ 0 then eT (x.getD i 0) (y.getD i 0) else fO x y n (i + 1)
def f5 (x y : A8 Int) : Int := fO x.l y.l 8 0
def lA (x : A8 Int) : List (A8 Int) → List (A8 Int)
  | [] => [x]
  | y :: l => if f5 x y ≤ 0 then x :: y :: l else y :: lA x l
def mS : List (A8 Int) → List (A8 Int)
  | [] => []
  | x :: l => lA x (mS l)
theorem Au (a b : Int) : eT b a = - eT a b := by unfold eT; split <;> split <;> (try split) <;> omega
theorem oQ {a b : Int} : eT a b = 0 ↔ a = b := by
  unfold eT
  constructor
  · intro h; split at h
    · cases h
    · split at h
      · cases h
      · omega
  · rintro rfl; simp
theorem Av {a b c : Int} (h : eT a b ≤ 0) (k : eT b c ≤ 0) : eT a c ≤ 0 ∧ (eT a c = 0 → eT a b = 0 ∧ eT b c = 0) := by
  have h1 : a ≤ b := by unfold eT at h; split at h <;> (try split at h) <;> omega
  have h2 : b ≤ c := by unfold eT at k; split at k <;> (try split at k) <;> omega
  refine ⟨?_, fun h3 => ?_⟩
  · unfold eT; split
    · decide
    · split <;> omega
  · have := oQ.1 h3
    exact ⟨oQ.2 (by omega), oQ.2 (by omega)⟩
theorem ve (x y : List Int) : ∀ n i, fO y x n i = - fO x y n i
  | 0, i => rfl
  | n + 1, i => by
    unfold fO
    rw [Au (x.getD i 0) (y.getD i 0), ve x y n (i + 1)]
    split <;> split <;> omega
theorem vf (x y z : List Int) : ∀ n i, fO x y n i ≤ 0 → fO y z n i ≤ 0 → fO x z n i ≤ 0 ∧ (fO x z n i = 0 → fO x y n i = 0 ∧ fO y z n i = 0)
  | 0, i, _, _ => ⟨Int.le_refl _, fun _ => ⟨rfl, rfl⟩⟩
  | n + 1, i, h, k => by
    unfold fO at h k ⊢
    have ih := vf x y z n (i + 1)
    have t := @Av (x.getD i 0) (y.getD i 0) (z.getD i 0)
    generalize ea : eT (x.getD i 0) (y.getD i 0) = a at h t ⊢
    generalize eb : eT (y.getD i 0) (z.getD i 0) = b at k t ⊢
    generalize ec : eT (x.getD i 0) (z.getD i 0) = c at t ⊢
    have ha : a ≤ 0 := by
      by_cases h0 : a = 0
      · omega
      · rw [if_pos h0] at h; exact h
    have hb : b ≤ 0 := by
      by_cases h0 : b = 0
      · omega
      · rw [if_pos h0] at k; exact k
    obtain ⟨t1, t2⟩ := t ha hb
    by_cases hc : c = 0
    · obtain ⟨rfl, rfl⟩ := t2 hc
      subst hc
      simp only [ne_eq, not_true_eq_false, if_false] at h k ⊢
      exact ih h k
    · rw [if_pos hc]
      exact ⟨t1, fun h => (hc h).elim⟩
theorem vg (x y : List Int) : ∀ n i, fO x y n i = 0 → ∀ j, i ≤ j → j < i + n → x.getD j 0 = y.getD j 0
  | 0, i, _, j, h1, h2 => by omega
  | n + 1, i, h, j, h1, h2 => by
    unfold fO at h
    split at h
    · rename_i h0; exact (h0 h).elim
    · rename_i h0
      by_cases e : j = i
      · subst e; exact oQ.1 (Classical.not_not.1 h0)
      · exact vg x y n (i + 1) h j (by omega) (by omega)
theorem vk (x y : A8 Int) : f5 y x = - f5 x y := ve _ _ _ _
theorem Aw {x y z : A8 Int} (h : f5 x y ≤ 0) (k : f5 y z ≤ 0) : f5 x z ≤ 0 ∧ (f5 x z = 0 → f5 x y = 0 ∧ f5 y z = 0) := vf _ _ _ _ _ h k
theorem Ax {x y : A8 Int} (h : f5 x y = 0) : x = y := by
  have := vg x.l y.l 8 0 h
  obtain ⟨x0, x1, x2, x3, x4, x5, x6, x7⟩ := x
  obtain ⟨y0, y1, y2, y3, y4, y5, y6, y7⟩ := y
  have e0 := this 0 (by omega) (by omega)
  have e1 := this 1 (by omega) (by omega)
  have e2 := this 2 (by omega) (by omega)
  have e3 := this 3 (by omega) (by omega)
  have e4 := this 4 (by omega) (by omega)
  have e5 := this 5 (by omega) (by omega)
  have e6 := this 6 (by omega) (by omega)
  have e7 := this 7 (by omega) (by omega)
  simp [A8.l] at e0 e1 e2 e3 e4 e5 e6 e7
  simp [*]
def oR (l : List (A8 Int)) : Prop := l.Pairwise fun a b => f5 a b ≤ 0
theorem rq (x : A8 Int) : ∀ l, (lA x l).Perm (x :: l)
  | [] => .refl _
  | y :: l => by
    unfold lA
    split
    · exact .refl _
    · exact ((rq x l).cons y).trans (.swap x y l)
theorem rt : ∀ l, (mS l).Perm l
  | [] => .refl _
  | x :: l => (rq x _).trans ((rt l).cons x)
theorem vl (x : A8 Int) : ∀ l, oR l → oR (lA x l)
  | [], _ => List.pairwise_singleton _ _
  | y :: l, h => by
    obtain ⟨h1, h2⟩ := List.pairwise_cons.1 h
    unfold lA
    split
    · rename_i hxy
      refine List.pairwise_cons.2 ⟨fun z hz => ?_, h⟩
      rcases List.mem_cons.1 hz with rfl | hz
      · exact hxy
      · exact (Aw hxy (h1 z hz)).1
    · rename_i hxy
      refine List.pairwise_cons.2 ⟨fun z hz => ?_, vl x l h2⟩
      rcases List.mem_cons.1 ((rq x l).mem_iff.1 hz) with rfl | hz
      · have := vk z y; omega
      · exact h1 z hz
theorem ru : ∀ l, oR (mS l)
  | [] => List.Pairwise.nil
  | x :: l => vl x _ (ru l)
end Go.AM
end
section
set_option linter.unusedVariables false
set_option linter.unusedSimpArgs false
namespace Go.AM
open Go
theorem vm (x y : List Int) : ∀ n i, x.length = i + n → y.length = i + n → fO x y n i = dT (x.drop i) (y.drop i)
  | 0, i, hx, hy => by
    rw [List.drop_eq_nil_of_le (by omega), List.drop_eq_nil_of_le (by omega)]; rfl
  | n + 1, i, hx, hy => by
    have hx' : i < x.length := by omega
    have hy' : i < y.length := by omega
    rw [List.drop_eq_getElem_cons hx', List.drop_eq_getElem_cons hy']
    unfold fO dT
    rw [vm x y n (i + 1) (by omega) (by omega)]
    simp only [List.getD_eq_getElem?_getD, bU hx', bU hy', Option.getD_some]
    unfold eT
    by_cases h1 : x[i] < y[i]
    · simp [h1]
    · by_cases h2 : x[i] > y[i] <;> simp [h1, h2]
theorem Ay (a b : Pk) : f5 a b = gj a b := vm a.l b.l 8 0 rfl rfl
theorem vo {a b : Pk} : fM a b ↔ f5 a b < 0 := by
  rw [Ay]; unfold fM
  have := rg a b
  omega
def hJ (acc : List Pk) (x : Pk) : List Pk := if acc.getLast? = some x then acc else acc ++ [x]
def oS (l : List Pk) : List Pk := l.foldl hJ []
def eJ (l : List Pk) : List Pk := oS (mS l)
theorem Az (acc : List Pk) (x : Pk) : (hJ acc x).length ≤ acc.length + 1 := by
  unfold hJ; split <;> simp
theorem rv : ∀ (l acc : List Pk), dg acc → (∀ a ∈ acc, ∀ y ∈ l, f5 a y ≤ 0) → oR l → dg (l.foldl hJ acc) ∧ ∀ x, x ∈ l.foldl hJ acc ↔ x ∈ acc ∨ x ∈ l
  | [], acc, h, _, _ => ⟨h, fun x => by simp⟩
  | y :: l, acc, h, hy, ho => by
    obtain ⟨o1, o2⟩ := List.pairwise_cons.1 ho
    rw [List.foldl_cons]
    have key : dg (hJ acc y) ∧ ∀ x, x ∈ hJ acc y ↔ x ∈ acc ∨ x = y := by
      unfold hJ
      split
      · rename_i hl
        refine ⟨h, fun x => ⟨.inl, fun hx => hx.elim id fun e => ?_⟩⟩
        subst e; exact List.mem_of_getLast? hl
      · rename_i hl
        refine ⟨?_, fun x => by simp⟩
        unfold dg
        rw [List.pairwise_append]
        refine ⟨h, List.pairwise_singleton _ _, fun a ha b hb => ?_⟩
        rw [List.mem_singleton] at hb
        subst hb
        rw [vo]
        have h1 := hy a ha b (List.mem_cons_self ..)
        by_cases h0 : f5 a b = 0
        · exfalso
          have e := Ax h0
          subst e
          obtain ⟨z, hz⟩ : ∃ z, acc.getLast? = some z := by
            cases acc with
            | nil => cases ha
            | cons c t => exact ⟨_, List.getLast?_cons⟩
          obtain ⟨pre, rfl⟩ := List.getLast?_eq_some_iff.1 hz
          have hzb := hy z (by simp) a (List.mem_cons_self ..)
          rcases List.mem_append.1 ha with ha' | ha'
          · have := (List.pairwise_append.1 h).2.2 a ha' z (by simp)
            rw [vo] at this
            have := vk a z
            omega
          · rw [List.mem_singleton] at ha'
            subst ha'
            exact hl hz
        · omega
    obtain ⟨k1, k2⟩ := key
    obtain ⟨r1, r2⟩ := rv l (hJ acc y) k1 (fun a ha z hz => by
      rcases (k2 a).1 ha with ha | rfl
      · exact hy a ha z (List.mem_cons_of_mem _ hz)
      · exact o1 z hz) o2
    refine ⟨r1, fun x => ?_⟩
    rw [r2, k2]
    simp only [List.mem_cons]
    constructor
    · rintro ((h | h) | h)
      · exact .inl h
      · exact .inr (.inl h)
      · exact .inr (.inr h)
    · rintro (h | h | h)
      · exact .inl (.inl h)
      · exact .inl (.inr h)
      · exact .inr h
theorem lB (l : List Pk) : dg (eJ l) := (rv _ [] List.Pairwise.nil (fun a h => by cases h) (ru l)).1
theorem vp (l : List Pk) (x : Pk) : x ∈ eJ l ↔ x ∈ l := by
  unfold eJ oS
  rw [(rv _ [] List.Pairwise.nil (fun a h => by cases h) (ru l)).2]
  simp [(rt l).mem_iff]
theorem rx {l m : List Pk} (h : dg l) (hm : ∀ x, x ∈ l ↔ x ∈ m) : l = eJ m := u3 h (lB m) fun x => by rw [hm, vp]
theorem AA (a b : List Pk) : eJ (eJ a ++ b) = eJ (a ++ b) := rx (lB _) fun x => by simp [vp]
theorem AB : eJ [] = [] := rfl
theorem jB {n : Int} (h0 : 0 ≤ n) (h : n ≤ 10000000) : IntKind.i64.wrap n = n := by
  simp [IntKind.wrap, IntKind.bits, IntKind.signed]; omega
structure Fw (a0 : List Pk) (i2 j : Nat) (s : List Pk × Int) : Prop where
  len : s.1.length = a0.length
  c : ∃ c : Nat, s.2 = c ∧ c + 1 ≤ i2 + j ∧ s.1.take c = oS (a0.take (i2 + j)) ∧ ∀ t, c ≤ t → s.1[t]? = a0[t]?
def hO (l : List Pk) : Option (List Pk) := if (eJ l).length > 64 then none else some (eJ l)
theorem vq {l m : List Pk} (h : hO l = some m) : m = eJ l ∧ m.length ≤ 64 ∧ dg m := by
  unfold hO at h
  split at h
  · cases h
  · cases h; exact ⟨rfl, by omega, lB l⟩
end Go.AM
end
