import Derived.Test.YtnnkfanmokeiaaaAmN6
import Derived.Test.YtnnkfanmokeiaaaAmN4
/-  Several texts in one. -/
section
set_option linter.unusedVariables false
set_option linter.unusedSectionVars false
set_option linter.unusedSimpArgs false
namespace Go.AM
open Go
theorem w_u8 (n : Int) : IntKind.u8.wrap n = n % 256 := tL n
theorem iF {n : Int} (h0 : -9223372036854775808 ≤ n) (h1 : n < 9223372036854775808) : IntKind.i64.wrap n = n := tM h0 h1
theorem p9 (i k : Nat) : bA (i : Int) ((i + k : Nat) : Int) = (List.range k).map fun (j : Nat) => ((i + j : Nat) : Int) := by
  simp only [bA]
  rw [show (((i + k : Nat) : Int) - (i : Int)).toNat = k by omega]
  refine List.map_congr_left fun j _ => ?_
  push_cast; rfl
theorem kE (i k : Nat) : bA (i : Int) ((i + (k + 1) : Nat) : Int) = (i : Int) :: bA ((i + 1 : Nat) : Int) ((i + (k + 1) : Nat) : Int) := by
  rw [p9, show i + (k + 1) = (i + 1) + k by omega, p9, List.range_succ_eq_map]
  simp only [List.map_cons, List.map_map, Nat.add_zero]
  congr 1
  refine List.map_congr_left fun j _ => ?_
  simp only [Function.comp_apply, Nat.succ_eq_add_one]
  push_cast; omega
theorem kF (i : Nat) : bA (i : Int) (i : Int) = [] := by simp [bA]
theorem fN {α : Type} {xs ys : List α} (h : xs.length + ys.length ≤ 4294967296) : cV xs ys = some (xs ++ ys) := by unfold cV; rw [if_pos h]
theorem dP {α : Type} (l : List α) (i : Nat) : bn l (i : Int) = l[i]? := by
  unfold bn; rw [if_pos (by omega), Int.toNat_natCast]
theorem ui (k : Nat) (h : k ≤ 1000000) : ∃ m, cA = m + k := ⟨cA - k, by unfold cA; omega⟩
theorem mE {σ : Type} (f : Int → σ → Option σ) (P : Nat → σ → Prop) : ∀ (k i : Nat) (s : σ), P i s → (∀ j s, i ≤ j → j < i + k → P j s → ∃ s', f (j : Int) s = some s' ∧ P (j + 1) s') →
    ∃ s', d7 f (bA (i : Int) ((i + k : Nat) : Int)) s = some s' ∧ P (i + k) s'
  | 0, i, s, h, _ => ⟨s, by rw [show i + 0 = i from rfl, kF]; rfl, h⟩
  | k + 1, i, s, h, hs => by
    obtain ⟨s1, e1, h1⟩ := hs i s (Nat.le_refl _) (by omega) h
    obtain ⟨s2, e2, h2⟩ := mE f P k (i + 1) s1 h1 fun j s hj hk => hs j s (by omega) (by omega)
    refine ⟨s2, ?_, by rwa [show i + (k + 1) = i + 1 + k by omega]⟩
    rw [kE]
    simp only [d7]
    rw [e1]
    simp only [Option.bind_some]
    rw [show i + (k + 1) = i + 1 + k by omega]
    exact e2
theorem jH {α σ : Type} (f : Int → σ → Option σ) (l : List α) (P : List α → σ → Prop) (s : σ) (h0 : P [] s) (hs : ∀ i x s, l[i]? = some x → P (l.take i) s → ∃ s', f (i : Int) s = some s' ∧ P (l.take i ++ [x]) s') :
    ∃ s', d7 f (bA 0 (l.length : Int)) s = some s' ∧ P l s' := by
  have := mE f (fun i s => P (l.take i) s) l.length 0 s (by simpa using h0) (fun j s _ hj h => by
    have hj' : j < l.length := by omega
    obtain ⟨s', e, h'⟩ := hs j l[j] s (bT hj') h
    exact ⟨s', e, by rwa [List.take_add_one, bT hj']⟩)
  obtain ⟨s', e, h'⟩ := this
  refine ⟨s', by simpa using e, by simpa using h'⟩
theorem mF {σ ρ : Type} (f : Int → σ → Option (Br σ ρ)) (P : Nat → σ → Prop) (B : σ → Prop) (R : ρ → Prop) : ∀ (k i : Nat) (s : σ), P i s → (∀ j s, i ≤ j → j < i + k → P j s → (∃ s', f (j : Int) s = some (.next s') ∧ P (j + 1) s') ∨ (∃ s', f (j : Int) s = some (.brk s') ∧ B s') ∨ ∃ r, f (j : Int) s = some (.ret r) ∧ R r) →
    (∃ s', bO f (bA (i : Int) ((i + k : Nat) : Int)) s = some (.done s') ∧ (P (i + k) s' ∨ B s')) ∨ ∃ r, bO f (bA (i : Int) ((i + k : Nat) : Int)) s = some (.ret r) ∧ R r
  | 0, i, s, h, _ => .inl ⟨s, by rw [show i + 0 = i from rfl, kF]; rfl, .inl h⟩
  | k + 1, i, s, h, hs => by
    rw [kE]
    simp only [bO]
    rcases hs i s (Nat.le_refl _) (by omega) h with ⟨s1, e1, h1⟩ | ⟨s1, e1, h1⟩ | ⟨r, e1, h1⟩
    · rw [e1]
      simp only [Option.bind_some]
      rw [show i + (k + 1) = i + 1 + k by omega]
      exact mF f P B R k (i + 1) s1 h1 fun j s hj hk => hs j s (by omega) (by omega)
    · rw [e1]; exact .inl ⟨s1, rfl, .inr h1⟩
    · rw [e1]; exact .inr ⟨r, rfl, h1⟩
theorem uj {α σ ρ : Type} (f : Int → σ → Option (Br σ ρ)) (l : List α) (P : List α → σ → Prop) (B : σ → Prop) (R : ρ → Prop) (s : σ) (h0 : P [] s)
    (hs : ∀ i x s, l[i]? = some x → P (l.take i) s → (∃ s', f (i : Int) s = some (.next s') ∧ P (l.take i ++ [x]) s') ∨ (∃ s', f (i : Int) s = some (.brk s') ∧ B s') ∨ ∃ r, f (i : Int) s = some (.ret r) ∧ R r) :
    (∃ s', bO f (bA 0 (l.length : Int)) s = some (.done s') ∧ (P l s' ∨ B s')) ∨ ∃ r, bO f (bA 0 (l.length : Int)) s = some (.ret r) ∧ R r := by
  have := mF f (fun i s => P (l.take i) s) B R l.length 0 s (by simpa using h0) (fun j s _ hj h => by
    have hj' : j < l.length := by omega
    rcases hs j l[j] s (bT hj') h with ⟨s', e, h'⟩ | h | h
    · exact .inl ⟨s', e, by rwa [List.take_add_one, bT hj']⟩
    · exact .inr (.inl h)
    · exact .inr (.inr h))
  simpa using this
end Go.AM
end
section
set_option linter.unusedVariables false
set_option linter.unusedSectionVars false
set_option linter.unusedSimpArgs false
namespace Go.AM
open Go
def gF {α ρ : Type} (step : α → Option ρ) : List α → Option ρ
  | [] => none
  | x :: l => match step x with
    | some r => some r
    | none => gF step l
def e8 {ρ : Type} : Option ρ → Ex Unit ρ
  | some r => .ret r
  | none => .done ()
def fO {ρ : Type} : Option ρ → Br Unit ρ
  | some r => .ret r
  | none => .next ()
theorem qa {α ρ : Type} (f : Int → Unit → Option (Br Unit ρ)) (step : α → Option ρ) : ∀ (l : List α) (a : Nat), (∀ (j : Nat) x, l[j]? = some x → f ((a + j : Nat) : Int) () = some (fO (step x))) →
    bO f (bA (a : Int) ((a + l.length : Nat) : Int)) () = some (e8 (gF step l))
  | [], a, _ => by rw [show a + ([] : List α).length = a from rfl, kF]; rfl
  | x :: l, a, h => by
    rw [show a + (x :: l).length = a + (l.length + 1) by simp, kE]
    simp only [bO]
    have h0 := h 0 x rfl
    rw [Nat.add_zero] at h0
    rw [h0]
    simp only [Option.bind_some, gF]
    cases step x with
    | some r => rfl
    | none =>
      show bO f _ () = _
      rw [show a + (l.length + 1) = a + 1 + l.length by omega]
      exact qa f step l (a + 1) fun j y hj => by rw [show a + 1 + j = a + (j + 1) by omega]; exact h (j + 1) y (by simpa using hj)
theorem uk {α ρ : Type} (f : Int → Unit → Option (Br Unit ρ)) (step : α → Option ρ) (l : List α) (h : ∀ (j : Nat) x, l[j]? = some x → f (j : Int) () = some (fO (step x))) :
    bO f (bA 0 (l.length : Int)) () = some (e8 (gF step l)) := by
  have := qa f step l 0 (fun j x hj => by rw [Nat.zero_add]; exact h j x hj)
  simpa using this
theorem ul {α β ρ : Type} (f : Int → Unit → Option (Br Unit ρ)) (step : α × β → Option ρ) (l : List α) (m : List β) (hl : l.length = m.length) (h : ∀ (j : Nat) x y, l[j]? = some x → m[j]? = some y → f (j : Int) () = some (fO (step (x, y)))) :
    bO f (bA 0 (l.length : Int)) () = some (e8 (gF step (l.zip m))) := by
  have hz : (l.zip m).length = l.length := by simp; omega
  have := uk f step (l.zip m) fun j x hj => by
    rw [List.getElem?_zip_eq_some] at hj
    exact h j x.1 x.2 hj.1 hj.2
  rwa [hz] at this
end Go.AM
end
section
namespace Go.AM
structure A3 (α : Type) where
  a0 : α
  a1 : α
  a2 : α
  deriving DecidableEq, Inhabited
def A3.l {α : Type} (a : A3 α) : List α := [a.a0, a.a1, a.a2]
def A3.get {α : Type} (a : A3 α) (i : Int) : Option α := bn a.l i
def A3.of {α : Type} : List α → Option (A3 α)
  | [a, b, c] => some ⟨a, b, c⟩
  | _ => none
def A3.put {α : Type} (a : A3 α) (i : Int) (v : α) : Option (A3 α) := (cO a.l i v).bind A3.of
end Go.AM
end
section
namespace Go.AM
def gl {α : Type} (l : List α) (lo hi i : Int) : Option α := if 0 ≤ lo ∧ 0 ≤ i ∧ i < hi - lo then bn l (lo + i) else none
theorem um {α : Type} {l : List α} {lo hi i : Int} {v : α} (h : gl l lo hi i = some v) : (0 ≤ lo ∧ 0 ≤ i ∧ i < hi - lo) ∧ bn l (lo + i) = some v := by
  unfold gl at h
  split at h
  · rename_i hc; exact ⟨hc, h⟩
  · cases h
end Go.AM
end
section
set_option linter.unusedVariables false
namespace Go.AM
def dc (a b : Int) : Int := if a < b then -1 else if a > b then 1 else 0
def dQ (x y : List Int) : Nat → Nat → Int
  | 0, _ => 0
  | n + 1, i => if dc (x.getD i 0) (y.getD i 0) ≠ 0 then dc (x.getD i 0) (y.getD i 0) else dQ x y n (i + 1)
def cY (x y : A8 Int) : Int := dQ x.l y.l 8 0
def iG (x : A8 Int) : List (A8 Int) → List (A8 Int)
  | [] => [x]
  | y :: l => if cY x y ≤ 0 then x :: y :: l else y :: iG x l
def cZ : List (A8 Int) → List (A8 Int)
  | [] => []
  | x :: l => iG x (cZ l)
theorem uo (a b : Int) : dc b a = - dc a b := by unfold dc; split <;> split <;> (try split) <;> omega
theorem kG {a b : Int} : dc a b = 0 ↔ a = b := by
  unfold dc
  constructor
  · intro h; split at h
    · cases h
    · split at h
      · cases h
      · omega
  · rintro rfl; simp
theorem ur {a b c : Int} (h : dc a b ≤ 0) (k : dc b c ≤ 0) : dc a c ≤ 0 ∧ (dc a c = 0 → dc a b = 0 ∧ dc b c = 0) := by
  have h1 : a ≤ b := by unfold dc at h; split at h <;> (try split at h) <;> omega
  have h2 : b ≤ c := by unfold dc at k; split at k <;> (try split at k) <;> omega
  refine ⟨?_, fun h3 => ?_⟩
  · unfold dc; split
    · decide
    · split <;> omega
  · have := kG.1 h3
    exact ⟨kG.2 (by omega), kG.2 (by omega)⟩
theorem qb (x y : List Int) : ∀ n i, dQ y x n i = - dQ x y n i
  | 0, i => rfl
  | n + 1, i => by
    unfold dQ
    rw [uo (x.getD i 0) (y.getD i 0), qb x y n (i + 1)]
    split <;> split <;> omega
theorem qc (x y z : List Int) : ∀ n i, dQ x y n i ≤ 0 → dQ y z n i ≤ 0 → dQ x z n i ≤ 0 ∧ (dQ x z n i = 0 → dQ x y n i = 0 ∧ dQ y z n i = 0)
  | 0, i, _, _ => ⟨Int.le_refl _, fun _ => ⟨rfl, rfl⟩⟩
  | n + 1, i, h, k => by
    unfold dQ at h k ⊢
    have ih := qc x y z n (i + 1)
    have t := @ur (x.getD i 0) (y.getD i 0) (z.getD i 0)
    generalize ea : dc (x.getD i 0) (y.getD i 0) = a at h t ⊢
    generalize eb : dc (y.getD i 0) (z.getD i 0) = b at k t ⊢
    generalize ec : dc (x.getD i 0) (z.getD i 0) = c at t ⊢
    have ha : a ≤ 0 := by
      by_cases h0 : a = 0
      · omega
      · rw [if_pos h0] at h; exact h
    have hb : b ≤ 0 := by
      by_cases h0 : b = 0
      · omega
      · rw [if_pos h0] at k; exact k
    obtain ⟨t1, t2⟩ := t ha hb
    by_cases hc : c = 0
    · obtain ⟨rfl, rfl⟩ := t2 hc
      subst hc
      simp only [ne_eq, not_true_eq_false, if_false] at h k ⊢
      exact ih h k
    · rw [if_pos hc]
      exact ⟨t1, fun h => (hc h).elim⟩
theorem qd (x y : List Int) : ∀ n i, dQ x y n i = 0 → ∀ j, i ≤ j → j < i + n → x.getD j 0 = y.getD j 0
  | 0, i, _, j, h1, h2 => by omega
  | n + 1, i, h, j, h1, h2 => by
    unfold dQ at h
    split at h
    · rename_i h0; exact (h0 h).elim
    · rename_i h0
      by_cases e : j = i
      · subst e; exact kG.1 (Classical.not_not.1 h0)
      · exact qd x y n (i + 1) h j (by omega) (by omega)
theorem gG (x y : A8 Int) : cY y x = - cY x y := qb _ _ _ _
theorem mG (x : A8 Int) : cY x x = 0 := by have := gG x x; omega
theorem mH {x y z : A8 Int} (h : cY x y ≤ 0) (k : cY y z ≤ 0) : cY x z ≤ 0 ∧ (cY x z = 0 → cY x y = 0 ∧ cY y z = 0) := qc _ _ _ _ _ h k
theorem qe {x y : A8 Int} (h : cY x y = 0) : x = y := by
  have := qd x.l y.l 8 0 h
  obtain ⟨x0, x1, x2, x3, x4, x5, x6, x7⟩ := x
  obtain ⟨y0, y1, y2, y3, y4, y5, y6, y7⟩ := y
  have e0 := this 0 (by omega) (by omega)
  have e1 := this 1 (by omega) (by omega)
  have e2 := this 2 (by omega) (by omega)
  have e3 := this 3 (by omega) (by omega)
  have e4 := this 4 (by omega) (by omega)
  have e5 := this 5 (by omega) (by omega)
  have e6 := this 6 (by omega) (by omega)
  have e7 := this 7 (by omega) (by omega)
  simp [A8.l] at e0 e1 e2 e3 e4 e5 e6 e7
  simp [*]
def gm (l : List (A8 Int)) : Prop := l.Pairwise fun a b => cY a b ≤ 0
theorem mI (x : A8 Int) : ∀ l, (iG x l).Perm (x :: l)
  | [] => .refl _
  | y :: l => by
    unfold iG
    split
    · exact .refl _
    · exact ((mI x l).cons y).trans (.swap x y l)
theorem gH : ∀ l, (cZ l).Perm l
  | [] => .refl _
  | x :: l => (mI x _).trans ((gH l).cons x)
theorem qf (x : A8 Int) : ∀ l, gm l → gm (iG x l)
  | [], _ => List.pairwise_singleton _ _
  | y :: l, h => by
    obtain ⟨h1, h2⟩ := List.pairwise_cons.1 h
    unfold iG
    split
    · rename_i hxy
      refine List.pairwise_cons.2 ⟨fun z hz => ?_, h⟩
      rcases List.mem_cons.1 hz with rfl | hz
      · exact hxy
      · exact (mH hxy (h1 z hz)).1
    · rename_i hxy
      refine List.pairwise_cons.2 ⟨fun z hz => ?_, qf x l h2⟩
      rcases List.mem_cons.1 ((mI x l).mem_iff.1 hz) with rfl | hz
      · have := gG z y; omega
      · exact h1 z hz
theorem kH : ∀ l, gm (cZ l)
  | [] => List.Pairwise.nil
  | x :: l => qf x _ (kH l)
theorem qg : ∀ {l m : List (A8 Int)}, l.Perm m → gm l → gm m → l = m
  | [], m, h, _, _ => by rw [List.nil_perm.1 h]
  | x :: l, [], h, _, _ => by have := h.length_eq; simp at this
  | x :: l, y :: m, h, h1, h2 => by
    obtain ⟨a1, a2⟩ := List.pairwise_cons.1 h1
    obtain ⟨b1, b2⟩ := List.pairwise_cons.1 h2
    have hx : cY x y ≤ 0 := by
      rcases List.mem_cons.1 (h.mem_iff.2 (List.mem_cons_self (a := y) (l := m))) with e | e
      · subst e; rw [mG]; decide
      · exact a1 _ e
    have hy : cY y x ≤ 0 := by
      rcases List.mem_cons.1 (h.mem_iff.1 (List.mem_cons_self (a := x) (l := l))) with e | e
      · subst e; rw [mG]; decide
      · exact b1 _ e
    have e : x = y := qe (by have := gG x y; omega)
    subst e
    rw [qg h.cons_inv a2 b2]
theorem ut {l m : List (A8 Int)} (h : m.Perm l) (ho : gm m) : m = cZ l := qg (h.trans (gH l).symm) ho (kH l)
end Go.AM
end
section
namespace Go.AM
def fP {α β : Type} (o : Option (Option α)) (p : Option β) (k : α → Option β) : Option β :=
  match o with
  | none => none
  | some none => p
  | some (some v) => k v
theorem iH {α β : Type} {o : Option (Option α)} {p : Option β} {k : α → Option β} {r : β} (h : fP o p k = some r) : (o = some none ∧ p = some r) ∨ ∃ v, o = some (some v) ∧ k v = some r := by
  cases o with
  | none => cases h
  | some o => cases o with
    | none => exact .inl ⟨rfl, h⟩
    | some v => exact .inr ⟨v, rfl, h⟩
end Go.AM
end
