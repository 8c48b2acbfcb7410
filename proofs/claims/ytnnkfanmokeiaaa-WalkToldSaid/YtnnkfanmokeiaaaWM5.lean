import Derived.Test.YtnnkfanmokeiaaaWM1
/-  Several texts in one. -/
section
set_option linter.unusedVariables false
set_option linter.unusedSimpArgs false
namespace Go.AM
open Go
theorem nU {α : Type} (p : α → Bool) : ∀ l : List α, (!(l.any fun x => !p x)) = l.all p
  | [] => rfl
  | x :: l => by simp only [List.any_cons, List.all_cons, Bool.not_or, Bool.not_not, nU p l]
theorem rt : ∀ k p, c9 p ≤ k → ja k p = some (fD p)
  | 0, p, h => by have := ji p; omega
  | k + 1, p, h => by
    show lf (ja k) p = _
    have hp := g8 p
    have hc : iw p.Kids (fun y0 => lb (ja k) y0) = some (p.Kids.any fun x => !fD x) :=
      rq fun x hx => by
        have := g9 hx
        simp only [lb]
        rw [rt k x (by omega)]; rfl
    rw [rd]
    simp only [lf, hc, Option.bind_some, nU]
    by_cases h0 : p.Op = 0
    · simp [h0]
    by_cases h1 : p.Op = 1
    · simp [h1]
    by_cases h2 : p.Op = 2
    · simp [h2]
    by_cases h3 : p.Op = 3
    · simp [h3]
    by_cases h4 : p.Op = 4
    · simp [h4]
    by_cases h6 : p.Op = 6
    · simp [h6]
    by_cases h7 : p.Op = 7
    · simp [h7]
    have : ¬ (0 ≤ p.Op ∧ p.Op ≤ 4) := by omega
    simp [h0, h1, h2, h3, h4, h6, h7, this]
theorem vG {p : ai} (h : b8 p ≤ da) : nv p = some (fD p) := rt _ _ (j8 h)
theorem nV {p k : ai} (hk : k ∈ p.Kids) (h : b8 p ≤ da) : b8 k ≤ da := by
  have := lM hk; rw [j7] at h; omega
theorem ka {l : List ai} : ((l.length : Int) == 0) = decide (l.length = 0) := by
  rw [Bool.eq_iff_iff]; simp
theorem nW (n : Int) : ∀ k p, c9 p ≤ k → b8 p ≤ da → jb k p n = some (cT n p)
  | 0, p, h, _ => by have := ji p; omega
  | k + 1, p, h, hb => by
    show lh (jb k) p n = _
    have hp := g8 p
    have hc : iw p.Kids (fun y0 => lg (jb k) y0 n) = some (p.Kids.any fun x => !cT n x) :=
      rq fun x hx => by
        have := g9 hx
        simp only [lg]
        rw [nW n k x (by omega) (nV hx hb)]; rfl
    rw [iB]
    simp only [lh, hc, Option.bind_some, nU]
    by_cases h0 : p.Op = 0
    · simp [h0, Bool.decide_and, ka]
      all_goals (rw [Bool.eq_iff_iff]; simp)
    by_cases h1 : p.Op = 1
    · simp [h1, Bool.decide_and, ka]
      all_goals (rw [Bool.eq_iff_iff]; simp)
    by_cases h4 : p.Op = 4
    · by_cases hl : p.Kids.length = 1
      · obtain ⟨x, hx⟩ := List.length_eq_one_iff.1 hl
        have hm : x ∈ p.Kids := by rw [hx]; simp
        have := g9 hm
        have e1 := vG (nV hm hb)
        have e2 := nW n k x (by omega) (nV hm hb)
        simp only [h4, hx]
        simp [bq, e1, e2]
        by_cases hf : p.F = 0
        · by_cases hn : p.N = 0
          · cases fD x <;> cases cT n x <;> simp [hf, hn]
          · simp [hf, hn]
        · simp [hf]
      · have : ¬ ((p.Kids.length : Int) = 1) := by omega
        simp [h4, hl, this]
    by_cases h67 : p.Op = 6 ∨ p.Op = 7
    · by_cases hl : 2 ≤ p.Kids.length
      · have : (p.Kids.length : Int) ≥ 2 := by omega
        rcases h67 with h6 | h7
        · by_cases hf : p.F = 0 <;> by_cases hn : p.N = 0 <;> simp [h6, hl, this, hf, hn]
        · by_cases hf : p.F = 0 <;> by_cases hn : p.N = 0 <;> simp [h7, hl, this, hf, hn]
      · have : ¬ (p.Kids.length : Int) ≥ 2 := by omega
        rcases h67 with h6 | h7
        · simp [h6, hl, this]
        · simp [h7, hl, this]
    have h6 : p.Op ≠ 6 := fun h => h67 (.inl h)
    have h7 : p.Op ≠ 7 := fun h => h67 (.inr h)
    by_cases h2 : p.Op = 2
    · simp [h2, Bool.decide_and, ka]
      all_goals (rw [Bool.eq_iff_iff]; simp)
    by_cases h5 : p.Op = 5
    · simp [h5, Bool.decide_and, ka]
      all_goals (rw [Bool.eq_iff_iff]; simp)
    by_cases h3 : p.Op = 3
    · simp [h3, Bool.decide_and, ka]
      all_goals (rw [Bool.eq_iff_iff]; simp)
    simp [h0, h1, h4, h6, h7, h2, h5, h3]
theorem vH {p : ai} (n : Int) (h : b8 p ≤ da) : nw p n = some (cT n p) := nW n _ _ (j8 h) h
def ru (p : ai) : Bool := decide (b8 p ≤ 300 ∧ c9 p ≤ 20) && cT 4 p
theorem vI {p : ai} (h : b8 p ≤ da) : gY (fC.mk [0, 0, 0, 0] p []) = some (if b8 p ≤ 300 ∧ c9 p ≤ 20 then if cT 4 p then 0 else 11 else 2) := by
  have e3 := vH 4 h
  simp only [gY, vC h, vD h]
  by_cases h1 : b8 p ≤ 300
  · have : ¬ (b8 p : Int) > 300 := by omega
    by_cases h2 : c9 p ≤ 20
    · have h2' : ¬ (c9 p : Int) > 20 := by omega
      cases hf : cT 4 p <;> simp [h1, h2, this, h2', e3, hf, bJ, bT]
    · have h2' : (c9 p : Int) > 20 := by omega
      simp [h1, h2, this, h2']
  · have : (b8 p : Int) > 300 := by omega
    simp [h1, this]
end Go.AM
end
section
set_option linter.unusedVariables false
set_option linter.unusedSimpArgs false
namespace Go.AM
open Go
def StepOk (l : List law05_Step) : Prop := ∀ s ∈ l, 0 ≤ s.K ∧ s.K < 256
theorem vJ {l : List law05_Step} (h : StepOk l) : ∃ p b, lA l = some (p, b) ∧ b8 p ≤ 61 := by
  unfold lA
  by_cases h60 : (l.length : Int) > 60
  · rw [decide_eq_true h60]
    exact ⟨_, _, rfl, by simp [b8, cr]⟩
  · rw [decide_eq_false h60]
    simp only [Bool.false_eq_true, if_false]
    obtain ⟨z, e, hP⟩ := kW (nD l) l (fun d s => cr s ≤ d.length) [] (by simp [cr]) (fun i x s hx hP => by
      obtain ⟨hk0, hk1⟩ := h x (dx hx)
      have hi : i < l.length := (List.getElem?_eq_some_iff.1 hx).1
      have hti : (l.take i).length ≤ 60 := by simp; omega
      have hsl := nT s
      have hlen : (l.take i ++ [x]).length = (l.take i).length + 1 := by simp
      rw [hlen]
      generalize (l.take i).length = t at *
      simp only [nD, cS, hx, Option.bind_some]
      by_cases c1 : x.What = 0 ∨ x.What = 1
      · rw [show ((x.What == 0) || (x.What == 1)) = true by simpa using c1, if_pos rfl, kV (by simp; omega)]
        refine ⟨_, rfl, ?_⟩
        rw [gJ]; simp [cr, b8]; omega
      · rw [show ((x.What == 0) || (x.What == 1)) = false by simpa using c1, if_neg (by simp)]
        by_cases c2 : x.What = 2 ∨ x.What = 3 ∨ x.What = 5
        · rw [show ((x.What == 2) || ((x.What == 3) || (x.What == 5))) = true by simpa using c2, if_pos rfl, kV (by simp; omega)]
          refine ⟨_, rfl, ?_⟩
          rw [gJ]; simp [cr, b8]; omega
        · rw [show ((x.What == 2) || ((x.What == 3) || (x.What == 5))) = false by simpa using c2, if_neg (by simp)]
          by_cases c3 : x.What = 4 ∧ (s.length : Int) > 0
          · rw [show ((x.What == 4) && (decide ((s.length : Int) > 0))) = true by simpa using c3, if_pos rfl]
            obtain ⟨r, y, rfl⟩ : ∃ r y, s = r ++ [y] := by
              have : s ≠ [] := by rintro rfl; simp at c3
              exact ⟨s.dropLast, s.getLast this, (List.dropLast_concat_getLast this).symm⟩
            have hw : IntKind.i64.wrap (((r ++ [y]).length : Int) - 1) = (r.length : Int) := by
              rw [i5 (by simp) (by simp at hsl ⊢; omega)]; simp
            rw [hw, iC (pre := r) (x := y) (r := []) rfl]
            simp only [Option.bind_some]
            have hg : dz (r ++ [y]) (r.length : Int) (ai.mk 4 0 0 [y]) = some (r ++ [ai.mk 4 0 0 [y]]) := by
              unfold dz; rw [if_pos (by omega), Int.toNat_natCast, if_pos (by simp)]; simp
            rw [hg]
            refine ⟨_, rfl, ?_⟩
            rw [gJ] at hP ⊢; simp [cr, b8] at hP ⊢; omega
          · rw [show ((x.What == 4) && (decide ((s.length : Int) > 0))) = false by
              rw [Bool.eq_false_iff]; intro hc; apply c3; simpa using hc]
            simp only [Bool.false_eq_true, if_false]
            by_cases c4 : x.What = 6 ∨ x.What = 7
            · rw [show ((x.What == 6) || (x.What == 7)) = true by simpa using c4, if_pos rfl]
              obtain ⟨k, hk, hk2⟩ : ∃ k : Nat, fK (IntKind.i64.wrap x.K) (s.length : Int) = (k : Int) ∧ k ≤ s.length := by
                rw [i5 (by omega) (by omega)]
                unfold fK
                split
                · exact ⟨s.length, rfl, Nat.le_refl _⟩
                · exact ⟨x.K.toNat, by omega, by omega⟩
              have hw : IntKind.i64.wrap ((s.length : Int) - (k : Int)) = ((s.length - k : Nat) : Int) := by rw [i5 (by omega) (by omega)]; omega
              rw [hk, hw]
              have g1 : cJ s ((s.length - k : Nat) : Int) (s.length : Int) = some (s.drop (s.length - k)) := by
                unfold cJ; rw [if_pos (by omega)]
                simp only [Int.toNat_natCast]
                rw [List.take_of_length_le (by simp)]
              have g2 : cJ s 0 ((s.length - k : Nat) : Int) = some (s.take (s.length - k)) := by
                unfold cJ; rw [if_pos (by omega)]
                simp
              have hsz : cr (s.take (s.length - k)) + cr (s.drop (s.length - k)) = cr s := by
                rw [← gJ, List.take_append_drop]
              simp only [g1, g2, Option.bind_some]
              rw [kV (by simp; omega)]
              simp only [Option.bind_some]
              rw [kV (by simp; omega)]
              refine ⟨_, rfl, ?_⟩
              rw [gJ]; simp [cr, b8]; omega
            · rw [show ((x.What == 6) || (x.What == 7)) = false by simpa using c4, if_neg (by simp)]
              exact ⟨s, rfl, by omega⟩)
    rw [e]
    simp only [Option.bind_some]
    have hl60 : l.length ≤ 60 := by omega
    have hzl := nT z
    by_cases hz : z = []
    · subst hz
      exact ⟨_, _, rfl, by simp [b8, cr]⟩
    · obtain ⟨r, y, rfl⟩ : ∃ r y, z = r ++ [y] := ⟨z.dropLast, z.getLast hz, (List.dropLast_concat_getLast hz).symm⟩
      have hn : ¬ (((r ++ [y]).length : Int) == 0) = true := by simp; omega
      rw [if_neg hn]
      have hw : IntKind.i64.wrap (((r ++ [y]).length : Int) - 1) = (r.length : Int) := by
        rw [i5 (by simp) (by simp at hzl ⊢; omega)]; simp
      rw [hw, iC (pre := r) (x := y) (r := []) rfl]
      refine ⟨y, true, rfl, ?_⟩
      rw [gJ] at hP; simp [cr] at hP; omega
end Go.AM
end
section
set_option linter.unusedVariables false
set_option linter.unusedSimpArgs false
namespace Go.AM
open Go
abbrev Pk := A8 Int
def dB : List Int → List Int → Int
  | x :: l, y :: m => if x < y then -1 else if x > y then 1 else dB l m
  | _, _ => 0
theorem rv : ∀ l m, dB l m = -1 ∨ dB l m = 0 ∨ dB l m = 1
  | [], _ => by simp [dB]
  | _ :: _, [] => by simp [dB]
  | x :: l, y :: m => by
    rw [dB]
    split
    · simp
    · split
      · simp
      · exact rv l m
theorem rx : ∀ {l m : List Int}, l.length = m.length → (dB l m = 0 ↔ l = m)
  | [], [], _ => by simp [dB]
  | x :: l, y :: m, h => by
    rw [dB]
    have ih := rx (l := l) (m := m) (by simpa using h)
    split
    · rename_i c; simp; intro e; omega
    · split
      · rename_i c; simp; intro e; omega
      · have : x = y := by omega
        simp [ih, this]
  | [], _ :: _, h => by simp at h
  | _ :: _, [], h => by simp at h
theorem ry : ∀ {l m n : List Int}, l.length = m.length → m.length = n.length → dB l m = -1 → dB m n = -1 → dB l n = -1
  | [], _, _, _, _, h, _ => by simp [dB] at h
  | x :: l, y :: m, z :: n, h1, h2, a, b => by
    have ih := ry (l := l) (m := m) (n := n) (by simpa using h1) (by simpa using h2)
    simp only [dB] at a b ⊢
    by_cases c1 : x < y
    · by_cases c2 : y < z
      · rw [if_pos (by omega)]
      · rw [if_neg c2] at b
        by_cases c3 : y > z
        · rw [if_pos c3] at b; omega
        · rw [if_pos (by omega)]
    · rw [if_neg c1] at a
      by_cases c4 : x > y
      · rw [if_pos c4] at a; omega
      · rw [if_neg c4] at a
        have hxy : x = y := by omega
        subst hxy
        by_cases c2 : x < z
        · rw [if_pos c2]
        · rw [if_neg c2] at b ⊢
          by_cases c3 : x > z
          · rw [if_pos c3] at b; omega
          · rw [if_neg c3] at b ⊢
            exact ih a b
  | _ :: _, [], _, h, _, _, _ => by simp at h
  | _ :: _, _ :: _, [], _, h, _, _ => by simp at h
def fE (a b : Pk) : Int := dB a.l b.l
def fh (a b : Pk) : Prop := fE a b = -1
theorem A8.len (a : Pk) : a.l.length = 8 := rfl
theorem vK {a b : Pk} (h : a.l = b.l) : a = b := by
  cases a; cases b; simp [A8.l] at h; simp [h]
theorem vL (a b : Pk) : fE a b = -1 ∨ fE a b = 0 ∨ fE a b = 1 := rv _ _
theorem rz {a b : Pk} : fE a b = 0 ↔ a = b := by
  unfold fE
  rw [rx (show a.l.length = b.l.length from rfl)]
  exact ⟨vK, fun h => by rw [h]⟩
theorem vM {a b c : Pk} (h : fh a b) (k : fh b c) : fh a c := ry (show a.l.length = b.l.length from rfl) (show b.l.length = c.l.length from rfl) h k
theorem lN (a : Pk) : ¬ fh a a := fun h => by
  have : fE a a = 0 := rz.2 rfl
  rw [fh, this] at h; omega
theorem rA (a b : Pk) : lB a b = some (fE a b) := by
  have hr : ∀ l m : List Int, (match fM (fA (fun p : Int × Int => if p.1 < p.2 then some (-1) else if p.1 > p.2 then some 1 else none) (l.zip m)) with | Ex.ret r => some r | Ex.done _ => some 0) = some (dB l m) := by
    intro l
    induction l with
    | nil => intro m; rfl
    | cons x l ih =>
      intro m
      cases m with
      | nil => rfl
      | cons y m =>
        simp only [List.zip_cons_cons, fA, dB]
        by_cases c1 : x < y
        · simp [c1, fM]
        · by_cases c2 : x > y
          · have c2' : y < x := c2
            simp [c1, c2', fM]
          · have c2' : ¬ y < x := c2
            simp only [c1, c2', if_false]
            exact ih m
  have e := vn (nE a b) (fun p : Int × Int => if p.1 < p.2 then some (-1) else if p.1 > p.2 then some 1 else none) a.l b.l rfl (fun j x y hx hy => by
    simp only [nE, A8.get, cS, hx, hy, Option.bind_some]
    by_cases c1 : x < y
    · simp [c1, fB]
    · by_cases c2 : x > y
      · have c2' : y < x := c2
        simp [c1, c2', fB]
      · have c2' : ¬ y < x := c2
        simp [c1, c2', fB])
  unfold lB
  rw [show (bJ 0 8) = bJ 0 (a.l.length : Int) from rfl, e]
  simp only [Option.bind_some]
  have := hr a.l b.l
  unfold fE
  rw [← this]
  cases fM (fA (fun p : Int × Int => if p.1 < p.2 then some (-1) else if p.1 > p.2 then some 1 else none) (a.l.zip b.l)) <;> rfl
def ef (l : List Pk) : Prop := l.Pairwise fh
theorem rB : ∀ {l m : List Pk}, ef l → ef m → (∀ x, x ∈ l ↔ x ∈ m) → l = m
  | [], [], _, _, _ => rfl
  | [], y :: m, _, _, h => by have := (h y).2 (by simp); simp at this
  | x :: l, [], _, _, h => by have := (h x).1 (by simp); simp at this
  | x :: l, y :: m, h1, h2, h => by
    obtain ⟨a1, a2⟩ := List.pairwise_cons.1 h1
    obtain ⟨b1, b2⟩ := List.pairwise_cons.1 h2
    have e : x = y := by
      rcases List.mem_cons.1 ((h x).1 (by simp)) with hx | hx
      · exact hx
      · rcases List.mem_cons.1 ((h y).2 (by simp)) with hy | hy
        · exact hy.symm
        · exact (lN x (vM (a1 y hy) (b1 x hx))).elim
    subst e
    rw [rB a2 b2 fun z => ?_]
    constructor
    · intro hz
      rcases List.mem_cons.1 ((h z).1 (by simp [hz])) with rfl | hz'
      · exact (lN _ (a1 _ hz)).elim
      · exact hz'
    · intro hz
      rcases List.mem_cons.1 ((h z).2 (by simp [hz])) with rfl | hz'
      · exact (lN _ (b1 _ hz)).elim
      · exact hz'
structure AB (a : Pk) (t : List Pk) (z : List Pk × Bool) : Prop where
  no : z.2 = false → z.1 = t ∧ ∀ x ∈ t, fh x a
  yes : z.2 = true → (∃ x ∈ t, ¬ fh x a) ∧ ef z.1 ∧ ∀ x, x ∈ z.1 ↔ x = a ∨ x ∈ t
  len : z.1.length ≤ t.length + 1
end Go.AM
end
section
set_option linter.unusedVariables false
set_option linter.unusedSimpArgs false
namespace Go.AM
open Go
def gh (q : Pk) (f n : Int) : Pk := (q.put f n).getD q
mutual
def rC (st : List Int) : ai → Pk → Pk → Prop
  | ⟨o, f, n, l⟩ => fun q x =>
    if o = 0 then False
    else if o = 1 then x = q
    else if o = 2 then x = q ∧ q.get f = some n
    else if o = 3 then x = q ∧ bq st f = some n
    else if o = 4 then x = q ∧ ∀ y, ¬ nX st l q y
    else if o = 5 then x = gh q f n
    else if o = 6 then rD st l q x
    else nX st l q x
def rD (st : List Int) : List ai → Pk → Pk → Prop
  | [] => fun q x => x = q
  | k :: l => fun q x => ∃ y, rC st k q y ∧ rD st l y x
def nX (st : List Int) : List ai → Pk → Pk → Prop
  | [] => fun _ _ => False
  | k :: l => fun q x => rC st k q x ∨ nX st l q x
end
theorem vN {f : Int} (h0 : 0 ≤ f) (h1 : f < 8) : f = 0 ∨ f = 1 ∨ f = 2 ∨ f = 3 ∨ f = 4 ∨ f = 5 ∨ f = 6 ∨ f = 7 := by omega
theorem rE (q : Pk) {f : Int} (n : Int) (h0 : 0 ≤ f) (h1 : f < 8) : q.put f n = some (gh q f n) ∧ (gh q f n).get f = some n ∧ (∃ v, q.get f = some v) ∧ (q.get f = some n → gh q f n = q) ∧ ∀ m, gh (gh q f n) f m = gh q f m := by
  obtain ⟨a0, a1, a2, a3, a4, a5, a6, a7⟩ := q
  rcases vN h0 h1 with rfl | rfl | rfl | rfl | rfl | rfl | rfl | rfl <;>
    exact ⟨rfl, rfl, ⟨_, rfl⟩, fun h => by cases h; rfl, fun m => rfl⟩
theorem vO {p : ai} (h : cT 4 p = true) (ho : p.Op = 2) : 0 ≤ p.F ∧ p.F < 8 := by
  rw [iB, ho] at h
  simp at h
  omega
theorem vP {p : ai} (h : cT 4 p = true) (ho : p.Op = 5) : 0 ≤ p.F ∧ p.F < 8 := by
  rw [iB, ho] at h
  simp at h
  omega
theorem vQ {p : ai} (h : cT 4 p = true) (ho : p.Op = 3) : 0 ≤ p.F := by
  rw [iB, ho] at h
  simp at h
  omega
theorem rF {n : Int} {p : ai} (h : cT n p = true) (ho : p.Op = 6 ∨ p.Op = 7) : (∀ k ∈ p.Kids, cT n k = true) ∧ 2 ≤ p.Kids.length ∧ p.F = 0 ∧ p.N = 0 := by
  rw [iB, if_neg (by omega), if_neg (by omega), if_pos ho] at h
  simp only [Bool.and_eq_true, decide_eq_true_eq, List.all_eq_true] at h
  exact ⟨h.2, h.1⟩
theorem rG {n : Int} {p : ai} (h : cT n p = true) (ho : p.Op = 4) : ∃ k, p = ⟨4, 0, 0, [k]⟩ ∧ fD k = true ∧ cT n k = true := by
  rw [iB, if_neg (by omega), if_pos ho] at h
  simp only [Bool.and_eq_true, decide_eq_true_eq, List.all_eq_true] at h
  obtain ⟨⟨⟨h1, h2, h3⟩, h4⟩, h5⟩ := h
  obtain ⟨k, hk⟩ := List.length_eq_one_iff.1 h1
  refine ⟨k, ?_, h4 k (by simp [hk]), h5 k (by simp [hk])⟩
  cases p; simp_all
theorem rH {n : Int} {p : ai} (h : cT n p = true) : 0 ≤ p.Op ∧ p.Op ≤ 7 := by
  rw [iB] at h
  split at h
  · omega
  · split at h
    · omega
    · split at h
      · omega
      · split at h
        · omega
        · split at h
          · omega
          · split at h
            · omega
            · cases h
theorem nY (q : Pk) : ef [q] := by simp [ef]
theorem jk : ef [] := by simp [ef]
end Go.AM
end
