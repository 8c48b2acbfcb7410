import Derived.Test.YtnnkfanmokeiaaaPM2
/-  Several texts in one. -/
section
set_option linter.unusedVariables false
set_option linter.unusedSimpArgs false
namespace Go.AM
open Go
def StepOk (l : List law05_Step) : Prop := ∀ s ∈ l, 0 ≤ s.K ∧ s.K < 256
theorem nA {l : List law05_Step} (h : StepOk l) : ∃ p b, iX l = some (p, b) ∧ bC p ≤ 61 := by
  unfold iX
  by_cases h60 : (l.length : Int) > 60
  · rw [decide_eq_true h60]
    exact ⟨_, _, rfl, by simp [bC, bV]⟩
  · rw [decide_eq_false h60]
    simp only [Bool.false_eq_true, if_false]
    obtain ⟨z, e, hP⟩ := mK (m9 l) l (fun d s => bV s ≤ d.length) [] (by simp [bV]) (fun i x s hx hP => by
      obtain ⟨hk0, hk1⟩ := h x (dj hx)
      have hi : i < l.length := (List.getElem?_eq_some_iff.1 hx).1
      have hti : (l.take i).length ≤ 60 := by simp; omega
      have hsl := nt s
      have hlen : (l.take i ++ [x]).length = (l.take i).length + 1 := by simp
      rw [hlen]
      generalize (l.take i).length = t at *
      simp only [m9, fk, hx, Option.bind_some]
      by_cases c1 : x.What = 0 ∨ x.What = 1
      · rw [show ((x.What == 0) || (x.What == 1)) = true by simpa using c1, if_pos rfl, kQ (by simp; omega)]
        refine ⟨_, rfl, ?_⟩
        rw [gB]; simp [bV, bC]; omega
      · rw [show ((x.What == 0) || (x.What == 1)) = false by simpa using c1, if_neg (by simp)]
        by_cases c2 : x.What = 2 ∨ x.What = 3 ∨ x.What = 5
        · rw [show ((x.What == 2) || ((x.What == 3) || (x.What == 5))) = true by simpa using c2, if_pos rfl, kQ (by simp; omega)]
          refine ⟨_, rfl, ?_⟩
          rw [gB]; simp [bV, bC]; omega
        · rw [show ((x.What == 2) || ((x.What == 3) || (x.What == 5))) = false by simpa using c2, if_neg (by simp)]
          by_cases c3 : x.What = 4 ∧ (s.length : Int) > 0
          · rw [show ((x.What == 4) && (decide ((s.length : Int) > 0))) = true by simpa using c3, if_pos rfl]
            obtain ⟨r, y, rfl⟩ : ∃ r y, s = r ++ [y] := by
              have : s ≠ [] := by rintro rfl; simp at c3
              exact ⟨s.dropLast, s.getLast this, (List.dropLast_concat_getLast this).symm⟩
            have hw : IntKind.i64.wrap (((r ++ [y]).length : Int) - 1) = (r.length : Int) := by
              rw [iS (by simp) (by simp at hsl ⊢; omega)]; simp
            rw [hw, i9 (pre := r) (x := y) (r := []) rfl]
            simp only [Option.bind_some]
            have hg : cK (r ++ [y]) (r.length : Int) (ah.mk 4 0 0 [y]) = some (r ++ [ah.mk 4 0 0 [y]]) := by
              unfold cK; rw [if_pos (by omega), Int.toNat_natCast, if_pos (by simp)]; simp
            rw [hg]
            refine ⟨_, rfl, ?_⟩
            rw [gB] at hP ⊢; simp [bV, bC] at hP ⊢; omega
          · rw [show ((x.What == 4) && (decide ((s.length : Int) > 0))) = false by
              rw [Bool.eq_false_iff]; intro hc; apply c3; simpa using hc]
            simp only [Bool.false_eq_true, if_false]
            by_cases c4 : x.What = 6 ∨ x.What = 7
            · rw [show ((x.What == 6) || (x.What == 7)) = true by simpa using c4, if_pos rfl]
              obtain ⟨k, hk, hk2⟩ : ∃ k : Nat, fy (IntKind.i64.wrap x.K) (s.length : Int) = (k : Int) ∧ k ≤ s.length := by
                rw [iS (by omega) (by omega)]
                unfold fy
                split
                · exact ⟨s.length, rfl, Nat.le_refl _⟩
                · exact ⟨x.K.toNat, by omega, by omega⟩
              have hw : IntKind.i64.wrap ((s.length : Int) - (k : Int)) = ((s.length - k : Nat) : Int) := by rw [iS (by omega) (by omega)]; omega
              rw [hk, hw]
              have g1 : cV s ((s.length - k : Nat) : Int) (s.length : Int) = some (s.drop (s.length - k)) := by
                unfold cV; rw [if_pos (by omega)]
                simp only [Int.toNat_natCast]
                rw [List.take_of_length_le (by simp)]
              have g2 : cV s 0 ((s.length - k : Nat) : Int) = some (s.take (s.length - k)) := by
                unfold cV; rw [if_pos (by omega)]
                simp
              have hsz : bV (s.take (s.length - k)) + bV (s.drop (s.length - k)) = bV s := by
                rw [← gB, List.take_append_drop]
              simp only [g1, g2, Option.bind_some]
              rw [kQ (by simp; omega)]
              simp only [Option.bind_some]
              rw [kQ (by simp; omega)]
              refine ⟨_, rfl, ?_⟩
              rw [gB]; simp [bV, bC]; omega
            · rw [show ((x.What == 6) || (x.What == 7)) = false by simpa using c4, if_neg (by simp)]
              exact ⟨s, rfl, by omega⟩)
    rw [e]
    simp only [Option.bind_some]
    have hl60 : l.length ≤ 60 := by omega
    have hzl := nt z
    by_cases hz : z = []
    · subst hz
      exact ⟨_, _, rfl, by simp [bC, bV]⟩
    · obtain ⟨r, y, rfl⟩ : ∃ r y, z = r ++ [y] := ⟨z.dropLast, z.getLast hz, (List.dropLast_concat_getLast hz).symm⟩
      have hn : ¬ (((r ++ [y]).length : Int) == 0) = true := by simp; omega
      rw [if_neg hn]
      have hw : IntKind.i64.wrap (((r ++ [y]).length : Int) - 1) = (r.length : Int) := by
        rw [iS (by simp) (by simp at hzl ⊢; omega)]; simp
      rw [hw, i9 (pre := r) (x := y) (r := []) rfl]
      refine ⟨y, true, rfl, ?_⟩
      rw [gB] at hP; simp [bV] at hP; omega
end Go.AM
end
section
set_option linter.unusedVariables false
set_option linter.unusedSimpArgs false
namespace Go.AM
open Go
abbrev Pk := A8 Int
def dF : List Int → List Int → Int
  | x :: l, y :: m => if x < y then -1 else if x > y then 1 else dF l m
  | _, _ => 0
theorem qN : ∀ l m, dF l m = -1 ∨ dF l m = 0 ∨ dF l m = 1
  | [], _ => by simp [dF]
  | _ :: _, [] => by simp [dF]
  | x :: l, y :: m => by
    rw [dF]
    split
    · simp
    · split
      · simp
      · exact qN l m
theorem qO : ∀ {l m : List Int}, l.length = m.length → (dF l m = 0 ↔ l = m)
  | [], [], _ => by simp [dF]
  | x :: l, y :: m, h => by
    rw [dF]
    have ih := qO (l := l) (m := m) (by simpa using h)
    split
    · rename_i c; simp; intro e; omega
    · split
      · rename_i c; simp; intro e; omega
      · have : x = y := by omega
        simp [ih, this]
  | [], _ :: _, h => by simp at h
  | _ :: _, [], h => by simp at h
theorem qP : ∀ {l m n : List Int}, l.length = m.length → m.length = n.length → dF l m = -1 → dF m n = -1 → dF l n = -1
  | [], _, _, _, _, h, _ => by simp [dF] at h
  | x :: l, y :: m, z :: n, h1, h2, a, b => by
    have ih := qP (l := l) (m := m) (n := n) (by simpa using h1) (by simpa using h2)
    simp only [dF] at a b ⊢
    by_cases c1 : x < y
    · by_cases c2 : y < z
      · rw [if_pos (by omega)]
      · rw [if_neg c2] at b
        by_cases c3 : y > z
        · rw [if_pos c3] at b; omega
        · rw [if_pos (by omega)]
    · rw [if_neg c1] at a
      by_cases c4 : x > y
      · rw [if_pos c4] at a; omega
      · rw [if_neg c4] at a
        have hxy : x = y := by omega
        subst hxy
        by_cases c2 : x < z
        · rw [if_pos c2]
        · rw [if_neg c2] at b ⊢
          by_cases c3 : x > z
          · rw [if_pos c3] at b; omega
          · rw [if_neg c3] at b ⊢
            exact ih a b
  | _ :: _, [], _, h, _, _, _ => by simp at h
  | _ :: _, _ :: _, [], _, h, _, _ => by simp at h
def gX (a b : Pk) : Int := dF a.l b.l
def fP (a b : Pk) : Prop := gX a b = -1
theorem A8.len (a : Pk) : a.l.length = 8 := rfl
theorem u0 {a b : Pk} (h : a.l = b.l) : a = b := by
  cases a; cases b; simp [A8.l] at h; simp [h]
theorem u1 (a b : Pk) : gX a b = -1 ∨ gX a b = 0 ∨ gX a b = 1 := qN _ _
theorem u3 {a b : Pk} : gX a b = 0 ↔ a = b := by
  unfold gX
  rw [qO (show a.l.length = b.l.length from rfl)]
  exact ⟨u0, fun h => by rw [h]⟩
theorem u4 {a b c : Pk} (h : fP a b) (k : fP b c) : fP a c := qP (show a.l.length = b.l.length from rfl) (show b.l.length = c.l.length from rfl) h k
theorem nB (a : Pk) : ¬ fP a a := fun h => by
  have : gX a a = 0 := u3.2 rfl
  rw [fP, this] at h; omega
def dM (l : List Pk) : Prop := l.Pairwise fP
theorem nC : ∀ {l m : List Pk}, dM l → dM m → (∀ x, x ∈ l ↔ x ∈ m) → l = m
  | [], [], _, _, _ => rfl
  | [], y :: m, _, _, h => by have := (h y).2 (by simp); simp at this
  | x :: l, [], _, _, h => by have := (h x).1 (by simp); simp at this
  | x :: l, y :: m, h1, h2, h => by
    obtain ⟨a1, a2⟩ := List.pairwise_cons.1 h1
    obtain ⟨b1, b2⟩ := List.pairwise_cons.1 h2
    have e : x = y := by
      rcases List.mem_cons.1 ((h x).1 (by simp)) with hx | hx
      · exact hx
      · rcases List.mem_cons.1 ((h y).2 (by simp)) with hy | hy
        · exact hy.symm
        · exact (nB x (u4 (a1 y hy) (b1 x hx))).elim
    subst e
    rw [nC a2 b2 fun z => ?_]
    constructor
    · intro hz
      rcases List.mem_cons.1 ((h z).1 (by simp [hz])) with rfl | hz'
      · exact (nB _ (a1 _ hz)).elim
      · exact hz'
    · intro hz
      rcases List.mem_cons.1 ((h z).2 (by simp [hz])) with rfl | hz'
      · exact (nB _ (b1 _ hz)).elim
      · exact hz'
structure y8 (a : Pk) (t : List Pk) (z : List Pk × Bool) : Prop where
  no : z.2 = false → z.1 = t ∧ ∀ x ∈ t, fP x a
  yes : z.2 = true → (∃ x ∈ t, ¬ fP x a) ∧ dM z.1 ∧ ∀ x, x ∈ z.1 ↔ x = a ∨ x ∈ t
  len : z.1.length ≤ t.length + 1
end Go.AM
end
section
set_option linter.unusedVariables false
set_option linter.unusedSimpArgs false
namespace Go.AM
open Go
def fB (q : Pk) (f n : Int) : Pk := (q.put f n).getD q
mutual
def cq (st : List Int) : ah → Pk → Pk → Prop
  | ⟨o, f, n, l⟩ => fun q x =>
    if o = 0 then False
    else if o = 1 then x = q
    else if o = 2 then x = q ∧ q.get f = some n
    else if o = 3 then x = q ∧ bv st f = some n
    else if o = 4 then x = q ∧ ∀ y, ¬ cP st l q y
    else if o = 5 then x = fB q f n
    else if o = 6 then fQ st l q x
    else cP st l q x
def fQ (st : List Int) : List ah → Pk → Pk → Prop
  | [] => fun q x => x = q
  | k :: l => fun q x => ∃ y, cq st k q y ∧ fQ st l y x
def cP (st : List Int) : List ah → Pk → Pk → Prop
  | [] => fun _ _ => False
  | k :: l => fun q x => cq st k q x ∨ cP st l q x
end
theorem j4 (st : List Int) (p : ah) (q x : Pk) : cq st p q x =
    if p.Op = 0 then False
    else if p.Op = 1 then x = q
    else if p.Op = 2 then x = q ∧ q.get p.F = some p.N
    else if p.Op = 3 then x = q ∧ bv st p.F = some p.N
    else if p.Op = 4 then x = q ∧ ∀ y, ¬ cP st p.Kids q y
    else if p.Op = 5 then x = fB q p.F p.N
    else if p.Op = 6 then fQ st p.Kids q x
    else cP st p.Kids q x := by cases p; rw [cq]
theorem u5 {st : List Int} {k : ah} {q x : Pk} : fQ st [k] q x ↔ cq st k q x := by
  simp only [fQ]
  constructor
  · rintro ⟨y, h, rfl⟩; exact h
  · intro h; exact ⟨x, h, rfl⟩
theorem u6 {f : Int} (h0 : 0 ≤ f) (h1 : f < 8) : f = 0 ∨ f = 1 ∨ f = 2 ∨ f = 3 ∨ f = 4 ∨ f = 5 ∨ f = 6 ∨ f = 7 := by omega
theorem qQ (q : Pk) {f : Int} (n : Int) (h0 : 0 ≤ f) (h1 : f < 8) : q.put f n = some (fB q f n) ∧ (fB q f n).get f = some n ∧ (∃ v, q.get f = some v) ∧ (q.get f = some n → fB q f n = q) ∧ ∀ m, fB (fB q f n) f m = fB q f m := by
  obtain ⟨a0, a1, a2, a3, a4, a5, a6, a7⟩ := q
  rcases u6 h0 h1 with rfl | rfl | rfl | rfl | rfl | rfl | rfl | rfl <;>
    exact ⟨rfl, rfl, ⟨_, rfl⟩, fun h => by cases h; rfl, fun m => rfl⟩
theorem u7 {p : ah} (h : bX 4 p = true) (ho : p.Op = 2) : 0 ≤ p.F ∧ p.F < 8 := by
  rw [fA, ho] at h
  simp at h
  omega
theorem u9 {p : ah} (h : bX 4 p = true) (ho : p.Op = 5) : 0 ≤ p.F ∧ p.F < 8 := by
  rw [fA, ho] at h
  simp at h
  omega
theorem va {p : ah} (h : bX 4 p = true) (ho : p.Op = 3) : 0 ≤ p.F := by
  rw [fA, ho] at h
  simp at h
  omega
theorem nD {n : Int} {p : ah} (h : bX n p = true) (ho : p.Op = 6 ∨ p.Op = 7) : (∀ k ∈ p.Kids, bX n k = true) ∧ 2 ≤ p.Kids.length ∧ p.F = 0 ∧ p.N = 0 := by
  rw [fA, if_neg (by omega), if_neg (by omega), if_pos ho] at h
  simp only [Bool.and_eq_true, decide_eq_true_eq, List.all_eq_true] at h
  exact ⟨h.2, h.1⟩
theorem nE {n : Int} {p : ah} (h : bX n p = true) (ho : p.Op = 4) : ∃ k, p = ⟨4, 0, 0, [k]⟩ ∧ dw k = true ∧ bX n k = true := by
  rw [fA, if_neg (by omega), if_pos ho] at h
  simp only [Bool.and_eq_true, decide_eq_true_eq, List.all_eq_true] at h
  obtain ⟨⟨⟨h1, h2, h3⟩, h4⟩, h5⟩ := h
  obtain ⟨k, hk⟩ := List.length_eq_one_iff.1 h1
  refine ⟨k, ?_, h4 k (by simp [hk]), h5 k (by simp [hk])⟩
  cases p; simp_all
theorem nF {n : Int} {p : ah} (h : bX n p = true) : 0 ≤ p.Op ∧ p.Op ≤ 7 := by
  rw [fA] at h
  split at h
  · omega
  · split at h
    · omega
    · split at h
      · omega
      · split at h
        · omega
        · split at h
          · omega
          · split at h
            · omega
            · cases h
theorem nG (q : Pk) : dM [q] := by simp [dM]
theorem j5 : dM [] := by simp [dM]
end Go.AM
end
