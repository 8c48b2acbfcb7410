import Derived.Test.YtnnkfanmokeiaaaRP2
import Derived.Test.YtnnkfanmokeiaaaAmN4
import Derived.Test.YtnnkfanmokeiaaaAmPv
/-  Several texts in one. -/
section
set_option linter.unusedVariables false
set_option linter.unusedSimpArgs false
namespace Go.AM
open Go
abbrev Pk := A8 Int
def dN : List Int → List Int → Int
  | x :: l, y :: m => if x < y then -1 else if x > y then 1 else dN l m
  | _, _ => 0
theorem uz : ∀ l m, dN l m = -1 ∨ dN l m = 0 ∨ dN l m = 1
  | [], _ => by simp [dN]
  | _ :: _, [] => by simp [dN]
  | x :: l, y :: m => by
    rw [dN]
    split
    · simp
    · split
      · simp
      · exact uz l m
theorem uA : ∀ {l m : List Int}, l.length = m.length → (dN l m = 0 ↔ l = m)
  | [], [], _ => by simp [dN]
  | x :: l, y :: m, h => by
    rw [dN]
    have ih := uA (l := l) (m := m) (by simpa using h)
    split
    · rename_i c; simp; intro e; omega
    · split
      · rename_i c; simp; intro e; omega
      · have : x = y := by omega
        simp [ih, this]
  | [], _ :: _, h => by simp at h
  | _ :: _, [], h => by simp at h
theorem uB : ∀ {l m : List Int}, l.length = m.length → dN m l = - dN l m
  | [], [], _ => by simp [dN]
  | x :: l, y :: m, h => by
    have ih := uB (l := l) (m := m) (by simpa using h)
    simp only [dN]
    by_cases c1 : x < y
    · rw [if_pos c1, if_neg (by omega), if_pos (by omega)]; omega
    · by_cases c2 : x > y
      · rw [if_pos (show y < x from c2), if_neg c1, if_pos c2]
      · rw [if_neg c1, if_neg c2, if_neg (by omega), if_neg (by omega), ih]
  | [], _ :: _, h => by simp at h
  | _ :: _, [], h => by simp at h
theorem uC : ∀ {l m n : List Int}, l.length = m.length → m.length = n.length → dN l m = -1 → dN m n = -1 → dN l n = -1
  | [], _, _, _, _, h, _ => by simp [dN] at h
  | x :: l, y :: m, z :: n, h1, h2, a, b => by
    have ih := uC (l := l) (m := m) (n := n) (by simpa using h1) (by simpa using h2)
    simp only [dN] at a b ⊢
    by_cases c1 : x < y
    · by_cases c2 : y < z
      · rw [if_pos (by omega)]
      · rw [if_neg c2] at b
        by_cases c3 : y > z
        · rw [if_pos c3] at b; omega
        · rw [if_pos (by omega)]
    · rw [if_neg c1] at a
      by_cases c4 : x > y
      · rw [if_pos c4] at a; omega
      · rw [if_neg c4] at a
        have hxy : x = y := by omega
        subst hxy
        by_cases c2 : x < z
        · rw [if_pos c2]
        · rw [if_neg c2] at b ⊢
          by_cases c3 : x > z
          · rw [if_pos c3] at b; omega
          · rw [if_neg c3] at b ⊢
            exact ih a b
  | _ :: _, [], _, h, _, _, _ => by simp at h
  | _ :: _, _ :: _, [], _, h, _, _ => by simp at h
def f4 (a b : Pk) : Int := dN a.l b.l
def fC (a b : Pk) : Prop := f4 a b = -1
theorem A8.len (a : Pk) : a.l.length = 8 := rfl
theorem zC {a b : Pk} (h : a.l = b.l) : a = b := by
  cases a; cases b; simp [A8.l] at h; simp [h]
theorem qQ (a b : Pk) : f4 a b = -1 ∨ f4 a b = 0 ∨ f4 a b = 1 := uz _ _
theorem qR {a b : Pk} : f4 a b = 0 ↔ a = b := by
  unfold f4
  rw [uA (show a.l.length = b.l.length from rfl)]
  exact ⟨zC, fun h => by rw [h]⟩
theorem zD (a b : Pk) : f4 b a = - f4 a b := uB (show a.l.length = b.l.length from rfl)
theorem qS {a b c : Pk} (h : fC a b) (k : fC b c) : fC a c := uC (show a.l.length = b.l.length from rfl) (show b.l.length = c.l.length from rfl) h k
theorem mm (a : Pk) : ¬ fC a a := fun h => by
  have : f4 a a = 0 := qR.2 rfl
  rw [fC, this] at h; omega
theorem uD {a b : Pk} : f4 a b = 1 ↔ fC b a := by
  have := zD a b
  unfold fC; omega
theorem zE (a b : Pk) : nX a b = some (f4 a b) := by
  have hr : ∀ l m : List Int, (match fZ (dP (fun p : Int × Int => if p.1 < p.2 then some (-1) else if p.1 > p.2 then some 1 else none) (l.zip m)) with | Ex.ret r => some r | Ex.done _ => some 0) = some (dN l m) := by
    intro l
    induction l with
    | nil => intro m; rfl
    | cons x l ih =>
      intro m
      cases m with
      | nil => rfl
      | cons y m =>
        simp only [List.zip_cons_cons, dP, dN]
        by_cases c1 : x < y
        · simp [c1, fZ]
        · by_cases c2 : x > y
          · have c2' : y < x := c2
            simp [c1, c2', fZ]
          · have c2' : ¬ y < x := c2
            simp only [c1, c2', if_false]
            exact ih m
  have e := y8 (qt a b) (fun p : Int × Int => if p.1 < p.2 then some (-1) else if p.1 > p.2 then some 1 else none) a.l b.l rfl (fun j x y hx hy => by
    simp only [qt, A8.get, bZ, hx, hy, Option.bind_some]
    by_cases c1 : x < y
    · simp [c1, gD]
    · by_cases c2 : x > y
      · have c2' : y < x := c2
        simp [c1, c2', gD]
      · have c2' : ¬ y < x := c2
        simp [c1, c2', gD])
  unfold nX
  rw [show (bx 0 8) = bx 0 (a.l.length : Int) from rfl, e]
  simp only [Option.bind_some]
  have := hr a.l b.l
  unfold f4
  rw [← this]
  cases fZ (dP (fun p : Int × Int => if p.1 < p.2 then some (-1) else if p.1 > p.2 then some 1 else none) (a.l.zip b.l)) <;> rfl
def c8 (l : List Pk) : Prop := l.Pairwise fC
theorem uE : ∀ {l m : List Pk}, c8 l → c8 m → (∀ x, x ∈ l ↔ x ∈ m) → l = m
  | [], [], _, _, _ => rfl
  | [], y :: m, _, _, h => by have := (h y).2 (by simp); simp at this
  | x :: l, [], _, _, h => by have := (h x).1 (by simp); simp at this
  | x :: l, y :: m, h1, h2, h => by
    obtain ⟨a1, a2⟩ := List.pairwise_cons.1 h1
    obtain ⟨b1, b2⟩ := List.pairwise_cons.1 h2
    have e : x = y := by
      rcases List.mem_cons.1 ((h x).1 (by simp)) with hx | hx
      · exact hx
      · rcases List.mem_cons.1 ((h y).2 (by simp)) with hy | hy
        · exact hy.symm
        · exact (mm x (qS (a1 y hy) (b1 x hx))).elim
    subst e
    rw [uE a2 b2 fun z => ?_]
    constructor
    · intro hz
      rcases List.mem_cons.1 ((h z).1 (by simp [hz])) with rfl | hz'
      · exact (mm _ (a1 _ hz)).elim
      · exact hz'
    · intro hz
      rcases List.mem_cons.1 ((h z).2 (by simp [hz])) with rfl | hz'
      · exact (mm _ (b1 _ hz)).elim
      · exact hz'
structure qT (a : Pk) (t : List Pk) (z : List Pk × Bool) : Prop where
  no : z.2 = false → z.1 = t ∧ ∀ x ∈ t, fC x a
  yes : z.2 = true → (∃ x ∈ t, ¬ fC x a) ∧ c8 z.1 ∧ ∀ x, x ∈ z.1 ↔ x = a ∨ x ∈ t
  len : z.1.length ≤ t.length + 1
theorem zF {a x : Pk} {t : List Pk} {z : List Pk × Bool} (hi : qT a t z) (hst : c8 t) (hlt : ∀ y ∈ t, fC y x) (hl : t.length ≤ 200000) {l : List Pk} {i : Nat} (hx : l[i]? = some x) : ∃ z', nY l a (i : Int) z = some z' ∧ qT a (t ++ [x]) z' := by
  obtain ⟨l1, b⟩ := z
  obtain ⟨h1, h2, h3⟩ := hi
  simp only at h1 h2 h3
  simp only [nY, bZ, hx, Option.bind_some, zE]
  cases b with
  | false =>
    obtain ⟨rfl, hall⟩ := h1 rfl
    rcases qQ a x with c | c | c
    · -- ahead of x
      have hax : fC a x := c
      simp only [c, Bool.not_false, Bool.true_and]
      rw [show decide ((-1 : Int) ≤ 0) = true by decide, if_pos rfl, dM (by simp; omega)]
      simp only [Option.bind_some]
      rw [show ((-1 : Int) != 0) = true by decide, if_pos rfl, dM (by simp; omega)]
      refine ⟨_, rfl, ⟨fun h => (by cases h), fun _ => ⟨⟨x, by simp, fun h => mm _ (qS h hax)⟩, ?_, fun y => ?_⟩, by simp⟩⟩
      · unfold c8
        rw [List.append_assoc, List.pairwise_append]
        refine ⟨hst, by simp [hax], fun y hy z hz => ?_⟩
        simp at hz
        rcases hz with rfl | rfl
        · exact hall y hy
        · exact hlt y hy
      · simp; constructor <;> (intro h; rcases h with h | h | h <;> simp [h])
    · -- the same
      have hax : a = x := qR.1 c
      subst hax
      simp only [c, Bool.not_false, Bool.true_and]
      rw [show decide ((0 : Int) ≤ 0) = true by decide, if_pos rfl, dM (by simp; omega)]
      simp only [Option.bind_some]
      rw [show ((0 : Int) != 0) = false by decide, if_neg (by simp)]
      refine ⟨_, rfl, ⟨fun h => (by cases h), fun _ => ⟨⟨a, by simp, mm a⟩, ?_, fun y => ?_⟩, by simp⟩⟩
      · unfold c8
        rw [List.pairwise_append]
        exact ⟨hst, by simp, fun y hy z hz => by simp at hz; subst hz; exact hall y hy⟩
      · simp; intro h; simp [h]
    · -- behind x
      have hxa : fC x a := uD.1 c
      simp only [c, Bool.not_false, Bool.true_and]
      rw [show decide ((1 : Int) ≤ 0) = false by decide, if_neg (by simp)]
      simp only [Option.bind_some]
      rw [show ((1 : Int) != 0) = true by decide, if_pos rfl, dM (by simp; omega)]
      refine ⟨_, rfl, ⟨fun _ => ⟨rfl, fun y hy => ?_⟩, fun h => (by cases h), by simp⟩⟩
      rcases List.mem_append.1 hy with hy | hy
      · exact hall y hy
      · simp at hy; subst hy; exact hxa
  | true =>
    obtain ⟨⟨w, hw, hwa⟩, hsr, hmem⟩ := h2 rfl
    have hax : fC a x := by
      have hwx := hlt w hw
      rcases qQ a w with c | c | c
      · exact qS c hwx
      · rw [qR.1 c]; exact hwx
      · exact (hwa (uD.1 c)).elim
    have c : f4 a x = -1 := hax
    simp only [c, Bool.not_true, Bool.false_and, Bool.false_eq_true, if_false, Option.bind_some]
    rw [show ((-1 : Int) != 0) = true by decide, if_pos rfl, dM (by simp; omega)]
    refine ⟨_, rfl, ⟨fun h => (by cases h), fun _ => ⟨⟨w, by simp [hw], hwa⟩, ?_, fun y => ?_⟩, by simp; omega⟩⟩
    · unfold c8
      rw [List.pairwise_append]
      refine ⟨hsr, by simp, fun y hy z hz => ?_⟩
      simp at hz; subst hz
      rcases (hmem y).1 hy with rfl | hy
      · exact hax
      · exact hlt y hy
    · rw [List.mem_append, hmem]; simp [or_assoc]
theorem zG {l : List Pk} (hs : c8 l) (a : Pk) (hl : l.length ≤ c7) : ∃ r, nZ l a = some r ∧ c8 r ∧ r.length ≤ l.length + 1 ∧ ∀ x, x ∈ r ↔ x = a ∨ x ∈ l := by
  unfold c7 at hl
  obtain ⟨⟨z, b⟩, e, h1, h2, h3⟩ := jS (nY l a) l (qT a) ([], false) ⟨fun _ => ⟨rfl, fun x hx => by cases hx⟩, fun h => (by cases h), by simp⟩ (fun i x s hx hi => by
    have hsp := qF hx
    unfold c8 at hs
    rw [hsp, List.pairwise_append] at hs
    exact zF hi hs.1 (fun y hy => hs.2.2 y hy x (by simp)) (by simp; omega) hx)
  simp only at h1 h2 h3
  unfold nZ
  rw [e]
  simp only [Option.bind_some]
  cases b with
  | false =>
    obtain ⟨rfl, hall⟩ := h1 rfl
    rw [show (!false) = true by rfl, if_pos rfl, dM (by simp; omega)]
    refine ⟨_, rfl, ?_, by simp, fun y => ?_⟩
    · unfold c8
      rw [List.pairwise_append]
      exact ⟨hs, by simp, fun y hy w hw => by simp at hw; subst hw; exact hall y hy⟩
    · simp; exact or_comm
  | true =>
    obtain ⟨_, h5, h6⟩ := h2 rfl
    exact ⟨z, rfl, h5, h3, h6⟩
theorem zH {l m : List Pk} (hs : c8 l) (hl : l.length + m.length ≤ c7) : ∃ r, kS l m = some r ∧ c8 r ∧ r.length ≤ l.length + m.length ∧ ∀ x, x ∈ r ↔ x ∈ l ∨ x ∈ m := by
  obtain ⟨z, e, h1, h2, h3⟩ := jS (qu m) m (fun t z => c8 z ∧ z.length ≤ l.length + t.length ∧ ∀ x, x ∈ z ↔ x ∈ l ∨ x ∈ t) l ⟨hs, by simp, by simp⟩ (fun i x s hx ⟨h1, h2, h3⟩ => by
    have hi : i < m.length := (List.getElem?_eq_some_iff.1 hx).1
    have hti : (m.take i).length ≤ i := by simp; omega
    obtain ⟨r, e, g1, g2, g3⟩ := zG h1 x (by omega)
    refine ⟨r, ?_, g1, by simp only [List.length_append, List.length_singleton]; omega, fun y => ?_⟩
    · simp only [qu, bZ, hx, Option.bind_some, e]
    · rw [g3, h3, List.mem_append]; simp; constructor <;> (intro h; rcases h with h | h | h <;> simp [h]))
  exact ⟨z, by unfold kS; rw [e]; rfl, h1, h2, h3⟩
end Go.AM
end
section
set_option linter.unusedVariables false
set_option linter.unusedSimpArgs false
namespace Go.AM
open Go
def fj (q : Pk) (f n : Int) : Pk := (q.put f n).getD q
mutual
def uF (st : List Int) : aj → Pk → Pk → Prop
  | ⟨o, f, n, l⟩ => fun q x =>
    if o = 0 then False
    else if o = 1 then x = q
    else if o = 2 then x = q ∧ q.get f = some n
    else if o = 3 then x = q ∧ bd st f = some n
    else if o = 4 then x = q ∧ ∀ y, ¬ qU st l q y
    else if o = 5 then x = fj q f n
    else if o = 6 then uG st l q x
    else qU st l q x
def uG (st : List Int) : List aj → Pk → Pk → Prop
  | [] => fun q x => x = q
  | k :: l => fun q x => ∃ y, uF st k q y ∧ uG st l y x
def qU (st : List Int) : List aj → Pk → Pk → Prop
  | [] => fun _ _ => False
  | k :: l => fun q x => uF st k q x ∨ qU st l q x
end
theorem uH {f : Int} (h0 : 0 ≤ f) (h1 : f < 8) : f = 0 ∨ f = 1 ∨ f = 2 ∨ f = 3 ∨ f = 4 ∨ f = 5 ∨ f = 6 ∨ f = 7 := by omega
theorem uI (q : Pk) {f : Int} (n : Int) (h0 : 0 ≤ f) (h1 : f < 8) : q.put f n = some (fj q f n) ∧ (fj q f n).get f = some n ∧ (∃ v, q.get f = some v) ∧ (q.get f = some n → fj q f n = q) ∧ ∀ m, fj (fj q f n) f m = fj q f m := by
  obtain ⟨a0, a1, a2, a3, a4, a5, a6, a7⟩ := q
  rcases uH h0 h1 with rfl | rfl | rfl | rfl | rfl | rfl | rfl | rfl <;>
    exact ⟨rfl, rfl, ⟨_, rfl⟩, fun h => by cases h; rfl, fun m => rfl⟩
theorem zI {p : aj} (h : cJ 4 p = true) (ho : p.Op = 2) : 0 ≤ p.F ∧ p.F < 8 := by
  rw [fP, ho] at h
  simp at h
  omega
theorem zJ {p : aj} (h : cJ 4 p = true) (ho : p.Op = 5) : 0 ≤ p.F ∧ p.F < 8 := by
  rw [fP, ho] at h
  simp at h
  omega
theorem zK {p : aj} (h : cJ 4 p = true) (ho : p.Op = 3) : 0 ≤ p.F := by
  rw [fP, ho] at h
  simp at h
  omega
theorem zL (q : Pk) {f : Int} (n : Int) (h0 : 0 ≤ f) (h1 : f < 8) : nW q f n = some (fj q f n) := by
  obtain ⟨e1, _, ⟨v, e2⟩, _⟩ := uI q n h0 h1
  unfold nW
  rw [show decide (f ≥ 0) = true from decide_eq_true h0, show decide (f < 8) = true from decide_eq_true h1]
  simp [e1, e2]
theorem uJ {n : Int} {p : aj} (h : cJ n p = true) (ho : p.Op = 6 ∨ p.Op = 7) : (∀ k ∈ p.Kids, cJ n k = true) ∧ 2 ≤ p.Kids.length ∧ p.F = 0 ∧ p.N = 0 := by
  rw [fP, if_neg (by omega), if_neg (by omega), if_pos ho] at h
  simp only [Bool.and_eq_true, decide_eq_true_eq, List.all_eq_true] at h
  exact ⟨h.2, h.1⟩
theorem uK {n : Int} {p : aj} (h : cJ n p = true) (ho : p.Op = 4) : ∃ k, p = ⟨4, 0, 0, [k]⟩ ∧ eB k = true ∧ cJ n k = true := by
  rw [fP, if_neg (by omega), if_pos ho] at h
  simp only [Bool.and_eq_true, decide_eq_true_eq, List.all_eq_true] at h
  obtain ⟨⟨⟨h1, h2, h3⟩, h4⟩, h5⟩ := h
  obtain ⟨k, hk⟩ := List.length_eq_one_iff.1 h1
  refine ⟨k, ?_, h4 k (by simp [hk]), h5 k (by simp [hk])⟩
  cases p; simp_all
theorem uL {n : Int} {p : aj} (h : cJ n p = true) : 0 ≤ p.Op ∧ p.Op ≤ 7 := by
  rw [fP] at h
  split at h
  · omega
  · split at h
    · omega
    · split at h
      · omega
      · split at h
        · omega
        · split at h
          · omega
          · split at h
            · omega
            · cases h
theorem qV (q : Pk) : c8 [q] := by simp [c8]
theorem mn : c8 [] := by simp [c8]
end Go.AM
end
section
set_option linter.unusedVariables false
namespace Go.AM
def eC (a b : Int) : Int := if a < b then -1 else if a > b then 1 else 0
def fD (x y : List Int) : Nat → Nat → Int
  | 0, _ => 0
  | n + 1, i => if eC (x.getD i 0) (y.getD i 0) ≠ 0 then eC (x.getD i 0) (y.getD i 0) else fD x y n (i + 1)
def fQ (x y : A8 Int) : Int := fD x.l y.l 8 0
def kX (x : A8 Int) : List (A8 Int) → List (A8 Int)
  | [] => [x]
  | y :: l => if fQ x y ≤ 0 then x :: y :: l else y :: kX x l
def mo : List (A8 Int) → List (A8 Int)
  | [] => []
  | x :: l => kX x (mo l)
theorem zM (a b : Int) : eC b a = - eC a b := by unfold eC; split <;> split <;> (try split) <;> omega
theorem ot {a b : Int} : eC a b = 0 ↔ a = b := by
  unfold eC
  constructor
  · intro h; split at h
    · cases h
    · split at h
      · cases h
      · omega
  · rintro rfl; simp
theorem zN {a b c : Int} (h : eC a b ≤ 0) (k : eC b c ≤ 0) : eC a c ≤ 0 ∧ (eC a c = 0 → eC a b = 0 ∧ eC b c = 0) := by
  have h1 : a ≤ b := by unfold eC at h; split at h <;> (try split at h) <;> omega
  have h2 : b ≤ c := by unfold eC at k; split at k <;> (try split at k) <;> omega
  refine ⟨?_, fun h3 => ?_⟩
  · unfold eC; split
    · decide
    · split <;> omega
  · have := ot.1 h3
    exact ⟨ot.2 (by omega), ot.2 (by omega)⟩
theorem uM (x y : List Int) : ∀ n i, fD y x n i = - fD x y n i
  | 0, i => rfl
  | n + 1, i => by
    unfold fD
    rw [zM (x.getD i 0) (y.getD i 0), uM x y n (i + 1)]
    split <;> split <;> omega
theorem uN (x y z : List Int) : ∀ n i, fD x y n i ≤ 0 → fD y z n i ≤ 0 → fD x z n i ≤ 0 ∧ (fD x z n i = 0 → fD x y n i = 0 ∧ fD y z n i = 0)
  | 0, i, _, _ => ⟨Int.le_refl _, fun _ => ⟨rfl, rfl⟩⟩
  | n + 1, i, h, k => by
    unfold fD at h k ⊢
    have ih := uN x y z n (i + 1)
    have t := @zN (x.getD i 0) (y.getD i 0) (z.getD i 0)
    generalize ea : eC (x.getD i 0) (y.getD i 0) = a at h t ⊢
    generalize eb : eC (y.getD i 0) (z.getD i 0) = b at k t ⊢
    generalize ec : eC (x.getD i 0) (z.getD i 0) = c at t ⊢
    have ha : a ≤ 0 := by
      by_cases h0 : a = 0
      · omega
      · rw [if_pos h0] at h; exact h
    have hb : b ≤ 0 := by
      by_cases h0 : b = 0
      · omega
      · rw [if_pos h0] at k; exact k
    obtain ⟨t1, t2⟩ := t ha hb
    by_cases hc : c = 0
    · obtain ⟨rfl, rfl⟩ := t2 hc
      subst hc
      simp only [ne_eq, not_true_eq_false, if_false] at h k ⊢
      exact ih h k
    · rw [if_pos hc]
      exact ⟨t1, fun h => (hc h).elim⟩
theorem uO (x y : List Int) : ∀ n i, fD x y n i = 0 → ∀ j, i ≤ j → j < i + n → x.getD j 0 = y.getD j 0
  | 0, i, _, j, h1, h2 => by omega
  | n + 1, i, h, j, h1, h2 => by
    unfold fD at h
    split at h
    · rename_i h0; exact (h0 h).elim
    · rename_i h0
      by_cases e : j = i
      · subst e; exact ot.1 (Classical.not_not.1 h0)
      · exact uO x y n (i + 1) h j (by omega) (by omega)
theorem uP (x y : A8 Int) : fQ y x = - fQ x y := uM _ _ _ _
theorem zO {x y z : A8 Int} (h : fQ x y ≤ 0) (k : fQ y z ≤ 0) : fQ x z ≤ 0 ∧ (fQ x z = 0 → fQ x y = 0 ∧ fQ y z = 0) := uN _ _ _ _ _ h k
theorem zP {x y : A8 Int} (h : fQ x y = 0) : x = y := by
  have := uO x.l y.l 8 0 h
  obtain ⟨x0, x1, x2, x3, x4, x5, x6, x7⟩ := x
  obtain ⟨y0, y1, y2, y3, y4, y5, y6, y7⟩ := y
  have e0 := this 0 (by omega) (by omega)
  have e1 := this 1 (by omega) (by omega)
  have e2 := this 2 (by omega) (by omega)
  have e3 := this 3 (by omega) (by omega)
  have e4 := this 4 (by omega) (by omega)
  have e5 := this 5 (by omega) (by omega)
  have e6 := this 6 (by omega) (by omega)
  have e7 := this 7 (by omega) (by omega)
  simp [A8.l] at e0 e1 e2 e3 e4 e5 e6 e7
  simp [*]
def ou (l : List (A8 Int)) : Prop := l.Pairwise fun a b => fQ a b ≤ 0
theorem qW (x : A8 Int) : ∀ l, (kX x l).Perm (x :: l)
  | [] => .refl _
  | y :: l => by
    unfold kX
    split
    · exact .refl _
    · exact ((qW x l).cons y).trans (.swap x y l)
theorem qY : ∀ l, (mo l).Perm l
  | [] => .refl _
  | x :: l => (qW x _).trans ((qY l).cons x)
theorem uQ (x : A8 Int) : ∀ l, ou l → ou (kX x l)
  | [], _ => List.pairwise_singleton _ _
  | y :: l, h => by
    obtain ⟨h1, h2⟩ := List.pairwise_cons.1 h
    unfold kX
    split
    · rename_i hxy
      refine List.pairwise_cons.2 ⟨fun z hz => ?_, h⟩
      rcases List.mem_cons.1 hz with rfl | hz
      · exact hxy
      · exact (zO hxy (h1 z hz)).1
    · rename_i hxy
      refine List.pairwise_cons.2 ⟨fun z hz => ?_, uQ x l h2⟩
      rcases List.mem_cons.1 ((qW x l).mem_iff.1 hz) with rfl | hz
      · have := uP z y; omega
      · exact h1 z hz
theorem qZ : ∀ l, ou (mo l)
  | [] => List.Pairwise.nil
  | x :: l => uQ x _ (qZ l)
end Go.AM
end
section
set_option linter.unusedVariables false
set_option linter.unusedSimpArgs false
namespace Go.AM
open Go
theorem uR (x y : List Int) : ∀ n i, x.length = i + n → y.length = i + n → fD x y n i = dN (x.drop i) (y.drop i)
  | 0, i, hx, hy => by
    rw [List.drop_eq_nil_of_le (by omega), List.drop_eq_nil_of_le (by omega)]; rfl
  | n + 1, i, hx, hy => by
    have hx' : i < x.length := by omega
    have hy' : i < y.length := by omega
    rw [List.drop_eq_getElem_cons hx', List.drop_eq_getElem_cons hy']
    unfold fD dN
    rw [uR x y n (i + 1) (by omega) (by omega)]
    simp only [List.getD_eq_getElem?_getD, bO hx', bO hy', Option.getD_some]
    unfold eC
    by_cases h1 : x[i] < y[i]
    · simp [h1]
    · by_cases h2 : x[i] > y[i] <;> simp [h1, h2]
theorem zQ (a b : Pk) : fQ a b = f4 a b := uR a.l b.l 8 0 rfl rfl
theorem uS {a b : Pk} : fC a b ↔ fQ a b < 0 := by
  rw [zQ]; unfold fC
  have := qQ a b
  omega
def gS (acc : List Pk) (x : Pk) : List Pk := if acc.getLast? = some x then acc else acc ++ [x]
def ov (l : List Pk) : List Pk := l.foldl gS []
def en (l : List Pk) : List Pk := ov (mo l)
theorem zR (acc : List Pk) (x : Pk) : (gS acc x).length ≤ acc.length + 1 := by
  unfold gS; split <;> simp
theorem q6 : ∀ (l acc : List Pk), c8 acc → (∀ a ∈ acc, ∀ y ∈ l, fQ a y ≤ 0) → ou l → c8 (l.foldl gS acc) ∧ ∀ x, x ∈ l.foldl gS acc ↔ x ∈ acc ∨ x ∈ l
  | [], acc, h, _, _ => ⟨h, fun x => by simp⟩
  | y :: l, acc, h, hy, ho => by
    obtain ⟨o1, o2⟩ := List.pairwise_cons.1 ho
    rw [List.foldl_cons]
    have key : c8 (gS acc y) ∧ ∀ x, x ∈ gS acc y ↔ x ∈ acc ∨ x = y := by
      unfold gS
      split
      · rename_i hl
        refine ⟨h, fun x => ⟨.inl, fun hx => hx.elim id fun e => ?_⟩⟩
        subst e; exact List.mem_of_getLast? hl
      · rename_i hl
        refine ⟨?_, fun x => by simp⟩
        unfold c8
        rw [List.pairwise_append]
        refine ⟨h, List.pairwise_singleton _ _, fun a ha b hb => ?_⟩
        rw [List.mem_singleton] at hb
        subst hb
        rw [uS]
        have h1 := hy a ha b (List.mem_cons_self ..)
        by_cases h0 : fQ a b = 0
        · exfalso
          have e := zP h0
          subst e
          obtain ⟨z, hz⟩ : ∃ z, acc.getLast? = some z := by
            cases acc with
            | nil => cases ha
            | cons c t => exact ⟨_, List.getLast?_cons⟩
          obtain ⟨pre, rfl⟩ := List.getLast?_eq_some_iff.1 hz
          have hzb := hy z (by simp) a (List.mem_cons_self ..)
          rcases List.mem_append.1 ha with ha' | ha'
          · have := (List.pairwise_append.1 h).2.2 a ha' z (by simp)
            rw [uS] at this
            have := uP a z
            omega
          · rw [List.mem_singleton] at ha'
            subst ha'
            exact hl hz
        · omega
    obtain ⟨k1, k2⟩ := key
    obtain ⟨r1, r2⟩ := q6 l (gS acc y) k1 (fun a ha z hz => by
      rcases (k2 a).1 ha with ha | rfl
      · exact hy a ha z (List.mem_cons_of_mem _ hz)
      · exact o1 z hz) o2
    refine ⟨r1, fun x => ?_⟩
    rw [r2, k2]
    simp only [List.mem_cons]
    constructor
    · rintro ((h | h) | h)
      · exact .inl h
      · exact .inr (.inl h)
      · exact .inr (.inr h)
    · rintro (h | h | h)
      · exact .inl (.inl h)
      · exact .inl (.inr h)
      · exact .inr h
theorem kY (l : List Pk) : c8 (en l) := (q6 _ [] List.Pairwise.nil (fun a h => by cases h) (qZ l)).1
theorem uT (l : List Pk) (x : Pk) : x ∈ en l ↔ x ∈ l := by
  unfold en ov
  rw [(q6 _ [] List.Pairwise.nil (fun a h => by cases h) (qZ l)).2]
  simp [(qY l).mem_iff]
theorem q7 {l m : List Pk} (h : c8 l) (hm : ∀ x, x ∈ l ↔ x ∈ m) : l = en m := uE h (kY m) fun x => by rw [hm, uT]
theorem zS (a b : List Pk) : en (en a ++ b) = en (a ++ b) := q7 (kY _) fun x => by simp [uT]
theorem zT : en [] = [] := rfl
theorem ow {n : Int} (h0 : 0 ≤ n) (h : n ≤ 10000000) : IntKind.i64.wrap n = n := by
  simp [IntKind.wrap, IntKind.bits, IntKind.signed]; omega
structure EE (a0 : List Pk) (i2 j : Nat) (s : List Pk × Int) : Prop where
  len : s.1.length = a0.length
  c : ∃ c : Nat, s.2 = c ∧ c + 1 ≤ i2 + j ∧ s.1.take c = ov (a0.take (i2 + j)) ∧ ∀ t, c ≤ t → s.1[t]? = a0[t]?
def gT (l : List Pk) : Option (List Pk) := if (en l).length > 64 then none else some (en l)
theorem uU {l m : List Pk} (h : gT l = some m) : m = en l ∧ m.length ≤ 64 ∧ c8 m := by
  unfold gT at h
  split at h
  · cases h
  · cases h; exact ⟨rfl, by omega, kY l⟩
end Go.AM
end
