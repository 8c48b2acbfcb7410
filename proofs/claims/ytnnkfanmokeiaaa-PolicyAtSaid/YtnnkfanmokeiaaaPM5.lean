import Derived.Test.YtnnkfanmokeiaaaPM2
/-  Several texts in one. -/
section
set_option linter.unusedVariables false
set_option linter.unusedSimpArgs false
namespace Go.AM
open Go
def StepOk (l : List law05_Step) : Prop := ∀ s ∈ l, 0 ≤ s.K ∧ s.K < 256
theorem uW {l : List law05_Step} (h : StepOk l) : ∃ p b, kX l = some (p, b) ∧ bA p ≤ 61 := by
  unfold kX
  by_cases h60 : (l.length : Int) > 60
  · rw [decide_eq_true h60]
    exact ⟨_, _, rfl, by simp [bA, bU]⟩
  · rw [decide_eq_false h60]
    simp only [Bool.false_eq_true, if_false]
    obtain ⟨z, e, hP⟩ := kH (mZ l) l (fun d s => bU s ≤ d.length) [] (by simp [bU]) (fun i x s hx hP => by
      obtain ⟨hk0, hk1⟩ := h x (dc hx)
      have hi : i < l.length := (List.getElem?_eq_some_iff.1 hx).1
      have hti : (l.take i).length ≤ 60 := by simp; omega
      have hsl := jQ s
      have hlen : (l.take i ++ [x]).length = (l.take i).length + 1 := by simp
      rw [hlen]
      generalize (l.take i).length = t at *
      simp only [mZ, ey, hx, Option.bind_some]
      by_cases c1 : x.What = 0 ∨ x.What = 1
      · rw [show ((x.What == 0) || (x.What == 1)) = true by simpa using c1, if_pos rfl, kF (by simp; omega)]
        refine ⟨_, rfl, ?_⟩
        rw [gq]; simp [bU, bA]; omega
      · rw [show ((x.What == 0) || (x.What == 1)) = false by simpa using c1, if_neg (by simp)]
        by_cases c2 : x.What = 2 ∨ x.What = 3 ∨ x.What = 5
        · rw [show ((x.What == 2) || ((x.What == 3) || (x.What == 5))) = true by simpa using c2, if_pos rfl, kF (by simp; omega)]
          refine ⟨_, rfl, ?_⟩
          rw [gq]; simp [bU, bA]; omega
        · rw [show ((x.What == 2) || ((x.What == 3) || (x.What == 5))) = false by simpa using c2, if_neg (by simp)]
          by_cases c3 : x.What = 4 ∧ (s.length : Int) > 0
          · rw [show ((x.What == 4) && (decide ((s.length : Int) > 0))) = true by simpa using c3, if_pos rfl]
            obtain ⟨r, y, rfl⟩ : ∃ r y, s = r ++ [y] := by
              have : s ≠ [] := by rintro rfl; simp at c3
              exact ⟨s.dropLast, s.getLast this, (List.dropLast_concat_getLast this).symm⟩
            have hw : IntKind.i64.wrap (((r ++ [y]).length : Int) - 1) = (r.length : Int) := by
              rw [iL (by simp) (by simp at hsl ⊢; omega)]; simp
            rw [hw, iW (pre := r) (x := y) (r := []) rfl]
            simp only [Option.bind_some]
            have hg : cx (r ++ [y]) (r.length : Int) (ah.mk 4 0 0 [y]) = some (r ++ [ah.mk 4 0 0 [y]]) := by
              unfold cx; rw [if_pos (by omega), Int.toNat_natCast, if_pos (by simp)]; simp
            rw [hg]
            refine ⟨_, rfl, ?_⟩
            rw [gq] at hP ⊢; simp [bU, bA] at hP ⊢; omega
          · rw [show ((x.What == 4) && (decide ((s.length : Int) > 0))) = false by
              rw [Bool.eq_false_iff]; intro hc; apply c3; simpa using hc]
            simp only [Bool.false_eq_true, if_false]
            by_cases c4 : x.What = 6 ∨ x.What = 7
            · rw [show ((x.What == 6) || (x.What == 7)) = true by simpa using c4, if_pos rfl]
              obtain ⟨k, hk, hk2⟩ : ∃ k : Nat, fi (IntKind.i64.wrap x.K) (s.length : Int) = (k : Int) ∧ k ≤ s.length := by
                rw [iL (by omega) (by omega)]
                unfold fi
                split
                · exact ⟨s.length, rfl, Nat.le_refl _⟩
                · exact ⟨x.K.toNat, by omega, by omega⟩
              have hw : IntKind.i64.wrap ((s.length : Int) - (k : Int)) = ((s.length - k : Nat) : Int) := by rw [iL (by omega) (by omega)]; omega
              rw [hk, hw]
              have g1 : cP s ((s.length - k : Nat) : Int) (s.length : Int) = some (s.drop (s.length - k)) := by
                unfold cP; rw [if_pos (by omega)]
                simp only [Int.toNat_natCast]
                rw [List.take_of_length_le (by simp)]
              have g2 : cP s 0 ((s.length - k : Nat) : Int) = some (s.take (s.length - k)) := by
                unfold cP; rw [if_pos (by omega)]
                simp
              have hsz : bU (s.take (s.length - k)) + bU (s.drop (s.length - k)) = bU s := by
                rw [← gq, List.take_append_drop]
              simp only [g1, g2, Option.bind_some]
              rw [kF (by simp; omega)]
              simp only [Option.bind_some]
              rw [kF (by simp; omega)]
              refine ⟨_, rfl, ?_⟩
              rw [gq]; simp [bU, bA]; omega
            · rw [show ((x.What == 6) || (x.What == 7)) = false by simpa using c4, if_neg (by simp)]
              exact ⟨s, rfl, by omega⟩)
    rw [e]
    simp only [Option.bind_some]
    have hl60 : l.length ≤ 60 := by omega
    have hzl := jQ z
    by_cases hz : z = []
    · subst hz
      exact ⟨_, _, rfl, by simp [bA, bU]⟩
    · obtain ⟨r, y, rfl⟩ : ∃ r y, z = r ++ [y] := ⟨z.dropLast, z.getLast hz, (List.dropLast_concat_getLast hz).symm⟩
      have hn : ¬ (((r ++ [y]).length : Int) == 0) = true := by simp; omega
      rw [if_neg hn]
      have hw : IntKind.i64.wrap (((r ++ [y]).length : Int) - 1) = (r.length : Int) := by
        rw [iL (by simp) (by simp at hzl ⊢; omega)]; simp
      rw [hw, iW (pre := r) (x := y) (r := []) rfl]
      refine ⟨y, true, rfl, ?_⟩
      rw [gq] at hP; simp [bU] at hP; omega
end Go.AM
end
section
set_option linter.unusedVariables false
set_option linter.unusedSimpArgs false
namespace Go.AM
open Go
abbrev Pk := A8 Int
def dC : List Int → List Int → Int
  | x :: l, y :: m => if x < y then -1 else if x > y then 1 else dC l m
  | _, _ => 0
theorem qv : ∀ l m, dC l m = -1 ∨ dC l m = 0 ∨ dC l m = 1
  | [], _ => by simp [dC]
  | _ :: _, [] => by simp [dC]
  | x :: l, y :: m => by
    rw [dC]
    split
    · simp
    · split
      · simp
      · exact qv l m
theorem qw : ∀ {l m : List Int}, l.length = m.length → (dC l m = 0 ↔ l = m)
  | [], [], _ => by simp [dC]
  | x :: l, y :: m, h => by
    rw [dC]
    have ih := qw (l := l) (m := m) (by simpa using h)
    split
    · rename_i c; simp; intro e; omega
    · split
      · rename_i c; simp; intro e; omega
      · have : x = y := by omega
        simp [ih, this]
  | [], _ :: _, h => by simp at h
  | _ :: _, [], h => by simp at h
theorem qx : ∀ {l m n : List Int}, l.length = m.length → m.length = n.length → dC l m = -1 → dC m n = -1 → dC l n = -1
  | [], _, _, _, _, h, _ => by simp [dC] at h
  | x :: l, y :: m, z :: n, h1, h2, a, b => by
    have ih := qx (l := l) (m := m) (n := n) (by simpa using h1) (by simpa using h2)
    simp only [dC] at a b ⊢
    by_cases c1 : x < y
    · by_cases c2 : y < z
      · rw [if_pos (by omega)]
      · rw [if_neg c2] at b
        by_cases c3 : y > z
        · rw [if_pos c3] at b; omega
        · rw [if_pos (by omega)]
    · rw [if_neg c1] at a
      by_cases c4 : x > y
      · rw [if_pos c4] at a; omega
      · rw [if_neg c4] at a
        have hxy : x = y := by omega
        subst hxy
        by_cases c2 : x < z
        · rw [if_pos c2]
        · rw [if_neg c2] at b ⊢
          by_cases c3 : x > z
          · rw [if_pos c3] at b; omega
          · rw [if_neg c3] at b ⊢
            exact ih a b
  | _ :: _, [], _, h, _, _, _ => by simp at h
  | _ :: _, _ :: _, [], _, h, _, _ => by simp at h
def gM (a b : Pk) : Int := dC a.l b.l
def fM (a b : Pk) : Prop := gM a b = -1
theorem A8.len (a : Pk) : a.l.length = 8 := rfl
theorem uX {a b : Pk} (h : a.l = b.l) : a = b := by
  cases a; cases b; simp [A8.l] at h; simp [h]
theorem uY (a b : Pk) : gM a b = -1 ∨ gM a b = 0 ∨ gM a b = 1 := qv _ _
theorem uZ {a b : Pk} : gM a b = 0 ↔ a = b := by
  unfold gM
  rw [qw (show a.l.length = b.l.length from rfl)]
  exact ⟨uX, fun h => by rw [h]⟩
theorem u0 {a b c : Pk} (h : fM a b) (k : fM b c) : fM a c := qx (show a.l.length = b.l.length from rfl) (show b.l.length = c.l.length from rfl) h k
theorem ny (a : Pk) : ¬ fM a a := fun h => by
  have : gM a a = 0 := uZ.2 rfl
  rw [fM, this] at h; omega
def dS (l : List Pk) : Prop := l.Pairwise fM
theorem qy : ∀ {l m : List Pk}, dS l → dS m → (∀ x, x ∈ l ↔ x ∈ m) → l = m
  | [], [], _, _, _ => rfl
  | [], y :: m, _, _, h => by have := (h y).2 (by simp); simp at this
  | x :: l, [], _, _, h => by have := (h x).1 (by simp); simp at this
  | x :: l, y :: m, h1, h2, h => by
    obtain ⟨a1, a2⟩ := List.pairwise_cons.1 h1
    obtain ⟨b1, b2⟩ := List.pairwise_cons.1 h2
    have e : x = y := by
      rcases List.mem_cons.1 ((h x).1 (by simp)) with hx | hx
      · exact hx
      · rcases List.mem_cons.1 ((h y).2 (by simp)) with hy | hy
        · exact hy.symm
        · exact (ny x (u0 (a1 y hy) (b1 x hx))).elim
    subst e
    rw [qy a2 b2 fun z => ?_]
    constructor
    · intro hz
      rcases List.mem_cons.1 ((h z).1 (by simp [hz])) with rfl | hz'
      · exact (ny _ (a1 _ hz)).elim
      · exact hz'
    · intro hz
      rcases List.mem_cons.1 ((h z).2 (by simp [hz])) with rfl | hz'
      · exact (ny _ (b1 _ hz)).elim
      · exact hz'
structure zk (a : Pk) (t : List Pk) (z : List Pk × Bool) : Prop where
  no : z.2 = false → z.1 = t ∧ ∀ x ∈ t, fM x a
  yes : z.2 = true → (∃ x ∈ t, ¬ fM x a) ∧ dS z.1 ∧ ∀ x, x ∈ z.1 ↔ x = a ∨ x ∈ t
  len : z.1.length ≤ t.length + 1
end Go.AM
end
section
set_option linter.unusedVariables false
set_option linter.unusedSimpArgs false
namespace Go.AM
open Go
def fN (q : Pk) (f n : Int) : Pk := (q.put f n).getD q
mutual
def qz (st : List Int) : ah → Pk → Pk → Prop
  | ⟨o, f, n, l⟩ => fun q x =>
    if o = 0 then False
    else if o = 1 then x = q
    else if o = 2 then x = q ∧ q.get f = some n
    else if o = 3 then x = q ∧ bh st f = some n
    else if o = 4 then x = q ∧ ∀ y, ¬ nz st l q y
    else if o = 5 then x = fN q f n
    else if o = 6 then qA st l q x
    else nz st l q x
def qA (st : List Int) : List ah → Pk → Pk → Prop
  | [] => fun q x => x = q
  | k :: l => fun q x => ∃ y, qz st k q y ∧ qA st l y x
def nz (st : List Int) : List ah → Pk → Pk → Prop
  | [] => fun _ _ => False
  | k :: l => fun q x => qz st k q x ∨ nz st l q x
end
theorem u1 {f : Int} (h0 : 0 ≤ f) (h1 : f < 8) : f = 0 ∨ f = 1 ∨ f = 2 ∨ f = 3 ∨ f = 4 ∨ f = 5 ∨ f = 6 ∨ f = 7 := by omega
theorem qB (q : Pk) {f : Int} (n : Int) (h0 : 0 ≤ f) (h1 : f < 8) : q.put f n = some (fN q f n) ∧ (fN q f n).get f = some n ∧ (∃ v, q.get f = some v) ∧ (q.get f = some n → fN q f n = q) ∧ ∀ m, fN (fN q f n) f m = fN q f m := by
  obtain ⟨a0, a1, a2, a3, a4, a5, a6, a7⟩ := q
  rcases u1 h0 h1 with rfl | rfl | rfl | rfl | rfl | rfl | rfl | rfl <;>
    exact ⟨rfl, rfl, ⟨_, rfl⟩, fun h => by cases h; rfl, fun m => rfl⟩
theorem u3 {p : ah} (h : bR 4 p = true) (ho : p.Op = 2) : 0 ≤ p.F ∧ p.F < 8 := by
  rw [fK, ho] at h
  simp at h
  omega
theorem u4 {p : ah} (h : bR 4 p = true) (ho : p.Op = 5) : 0 ≤ p.F ∧ p.F < 8 := by
  rw [fK, ho] at h
  simp at h
  omega
theorem u5 {p : ah} (h : bR 4 p = true) (ho : p.Op = 3) : 0 ≤ p.F := by
  rw [fK, ho] at h
  simp at h
  omega
theorem qC {n : Int} {p : ah} (h : bR n p = true) (ho : p.Op = 6 ∨ p.Op = 7) : (∀ k ∈ p.Kids, bR n k = true) ∧ 2 ≤ p.Kids.length ∧ p.F = 0 ∧ p.N = 0 := by
  rw [fK, if_neg (by omega), if_neg (by omega), if_pos ho] at h
  simp only [Bool.and_eq_true, decide_eq_true_eq, List.all_eq_true] at h
  exact ⟨h.2, h.1⟩
theorem qD {n : Int} {p : ah} (h : bR n p = true) (ho : p.Op = 4) : ∃ k, p = ⟨4, 0, 0, [k]⟩ ∧ cC k = true ∧ bR n k = true := by
  rw [fK, if_neg (by omega), if_pos ho] at h
  simp only [Bool.and_eq_true, decide_eq_true_eq, List.all_eq_true] at h
  obtain ⟨⟨⟨h1, h2, h3⟩, h4⟩, h5⟩ := h
  obtain ⟨k, hk⟩ := List.length_eq_one_iff.1 h1
  refine ⟨k, ?_, h4 k (by simp [hk]), h5 k (by simp [hk])⟩
  cases p; simp_all
theorem qE {n : Int} {p : ah} (h : bR n p = true) : 0 ≤ p.Op ∧ p.Op ≤ 7 := by
  rw [fK] at h
  split at h
  · omega
  · split at h
    · omega
    · split at h
      · omega
      · split at h
        · omega
        · split at h
          · omega
          · split at h
            · omega
            · cases h
theorem nA (q : Pk) : dS [q] := by simp [dS]
theorem lu : dS [] := by simp [dS]
end Go.AM
end
