import Derived.Test.YtnnkfanmokeiaaaAmN6
import Derived.Test.YtnnkfanmokeiaaaAmN4
/-  Several texts in one. -/
section
set_option linter.unusedVariables false
set_option linter.unusedSectionVars false
set_option linter.unusedSimpArgs false
namespace Go.AM
open Go
theorem w_u8 (n : Int) : IntKind.u8.wrap n = n % 256 := uP n
theorem i5 {n : Int} (h0 : -9223372036854775808 ≤ n) (h1 : n < 9223372036854775808) : IntKind.i64.wrap n = n := uQ h0 h1
theorem qK (i k : Nat) : bJ (i : Int) ((i + k : Nat) : Int) = (List.range k).map fun (j : Nat) => ((i + j : Nat) : Int) := by
  simp only [bJ]
  rw [show (((i + k : Nat) : Int) - (i : Int)).toNat = k by omega]
  refine List.map_congr_left fun j _ => ?_
  push_cast; rfl
theorem kT (i k : Nat) : bJ (i : Int) ((i + (k + 1) : Nat) : Int) = (i : Int) :: bJ ((i + 1 : Nat) : Int) ((i + (k + 1) : Nat) : Int) := by
  rw [qK, show i + (k + 1) = (i + 1) + k by omega, qK, List.range_succ_eq_map]
  simp only [List.map_cons, List.map_map, Nat.add_zero]
  congr 1
  refine List.map_congr_left fun j _ => ?_
  simp only [Function.comp_apply, Nat.succ_eq_add_one]
  push_cast; omega
theorem kU (i : Nat) : bJ (i : Int) (i : Int) = [] := by simp [bJ]
theorem kV {α : Type} {xs ys : List α} (h : xs.length + ys.length ≤ 4294967296) : cx xs ys = some (xs ++ ys) := by unfold cx; rw [if_pos h]
theorem cS {α : Type} (l : List α) (i : Nat) : bq l (i : Int) = l[i]? := by
  unfold bq; rw [if_pos (by omega), Int.toNat_natCast]
theorem nd (k : Nat) (h : k ≤ 1000000) : ∃ m, dH = m + k := ⟨dH - k, by unfold dH; omega⟩
theorem nf {σ : Type} (f : Int → σ → Option σ) (P : Nat → σ → Prop) : ∀ (k i : Nat) (s : σ), P i s → (∀ j s, i ≤ j → j < i + k → P j s → ∃ s', f (j : Int) s = some s' ∧ P (j + 1) s') →
    ∃ s', fy f (bJ (i : Int) ((i + k : Nat) : Int)) s = some s' ∧ P (i + k) s'
  | 0, i, s, h, _ => ⟨s, by rw [show i + 0 = i from rfl, kU]; rfl, h⟩
  | k + 1, i, s, h, hs => by
    obtain ⟨s1, e1, h1⟩ := hs i s (Nat.le_refl _) (by omega) h
    obtain ⟨s2, e2, h2⟩ := nf f P k (i + 1) s1 h1 fun j s hj hk => hs j s (by omega) (by omega)
    refine ⟨s2, ?_, by rwa [show i + (k + 1) = i + 1 + k by omega]⟩
    rw [kT]
    simp only [fy]
    rw [e1]
    simp only [Option.bind_some]
    rw [show i + (k + 1) = i + 1 + k by omega]
    exact e2
theorem kW {α σ : Type} (f : Int → σ → Option σ) (l : List α) (P : List α → σ → Prop) (s : σ) (h0 : P [] s) (hs : ∀ i x s, l[i]? = some x → P (l.take i) s → ∃ s', f (i : Int) s = some s' ∧ P (l.take i ++ [x]) s') :
    ∃ s', fy f (bJ 0 (l.length : Int)) s = some s' ∧ P l s' := by
  have := nf f (fun i s => P (l.take i) s) l.length 0 s (by simpa using h0) (fun j s _ hj h => by
    have hj' : j < l.length := by omega
    obtain ⟨s', e, h'⟩ := hs j l[j] s (bV hj') h
    exact ⟨s', e, by rwa [List.take_add_one, bV hj']⟩)
  obtain ⟨s', e, h'⟩ := this
  refine ⟨s', by simpa using e, by simpa using h'⟩
theorem kX {σ ρ : Type} (f : Int → σ → Option (Br σ ρ)) (P : Nat → σ → Prop) (B : σ → Prop) (R : ρ → Prop) : ∀ (k i : Nat) (s : σ), P i s → (∀ j s, i ≤ j → j < i + k → P j s → (∃ s', f (j : Int) s = some (.next s') ∧ P (j + 1) s') ∨ (∃ s', f (j : Int) s = some (.brk s') ∧ B s') ∨ ∃ r, f (j : Int) s = some (.ret r) ∧ R r) →
    (∃ s', bT f (bJ (i : Int) ((i + k : Nat) : Int)) s = some (.done s') ∧ (P (i + k) s' ∨ B s')) ∨ ∃ r, bT f (bJ (i : Int) ((i + k : Nat) : Int)) s = some (.ret r) ∧ R r
  | 0, i, s, h, _ => .inl ⟨s, by rw [show i + 0 = i from rfl, kU]; rfl, .inl h⟩
  | k + 1, i, s, h, hs => by
    rw [kT]
    simp only [bT]
    rcases hs i s (Nat.le_refl _) (by omega) h with ⟨s1, e1, h1⟩ | ⟨s1, e1, h1⟩ | ⟨r, e1, h1⟩
    · rw [e1]
      simp only [Option.bind_some]
      rw [show i + (k + 1) = i + 1 + k by omega]
      exact kX f P B R k (i + 1) s1 h1 fun j s hj hk => hs j s (by omega) (by omega)
    · rw [e1]; exact .inl ⟨s1, rfl, .inr h1⟩
    · rw [e1]; exact .inr ⟨r, rfl, h1⟩
theorem j0 {α σ ρ : Type} (f : Int → σ → Option (Br σ ρ)) (l : List α) (P : List α → σ → Prop) (B : σ → Prop) (R : ρ → Prop) (s : σ) (h0 : P [] s)
    (hs : ∀ i x s, l[i]? = some x → P (l.take i) s → (∃ s', f (i : Int) s = some (.next s') ∧ P (l.take i ++ [x]) s') ∨ (∃ s', f (i : Int) s = some (.brk s') ∧ B s') ∨ ∃ r, f (i : Int) s = some (.ret r) ∧ R r) :
    (∃ s', bT f (bJ 0 (l.length : Int)) s = some (.done s') ∧ (P l s' ∨ B s')) ∨ ∃ r, bT f (bJ 0 (l.length : Int)) s = some (.ret r) ∧ R r := by
  have := kX f (fun i s => P (l.take i) s) B R l.length 0 s (by simpa using h0) (fun j s _ hj h => by
    have hj' : j < l.length := by omega
    rcases hs j l[j] s (bV hj') h with ⟨s', e, h'⟩ | h | h
    · exact .inl ⟨s', e, by rwa [List.take_add_one, bV hj']⟩
    · exact .inr (.inl h)
    · exact .inr (.inr h))
  simpa using this
end Go.AM
end
section
set_option linter.unusedVariables false
set_option linter.unusedSectionVars false
set_option linter.unusedSimpArgs false
namespace Go.AM
open Go
theorem qL {σ ρ : Type} (f : σ → Option (Br σ ρ)) (k : Nat) (s : σ) : iW f (k + 1) s = (f s).bind fun x => match x with
    | .next s => iW f k s
    | .brk s => some (.done s)
    | .ret r => some (.ret r) := rfl
def fA {α ρ : Type} (step : α → Option ρ) : List α → Option ρ
  | [] => none
  | x :: l => match step x with
    | some r => some r
    | none => fA step l
def fM {ρ : Type} : Option ρ → Ex Unit ρ
  | some r => .ret r
  | none => .done ()
def fB {ρ : Type} : Option ρ → Br Unit ρ
  | some r => .ret r
  | none => .next ()
theorem qM {α ρ : Type} (f : Int → Unit → Option (Br Unit ρ)) (step : α → Option ρ) : ∀ (l : List α) (a : Nat), (∀ (j : Nat) x, l[j]? = some x → f ((a + j : Nat) : Int) () = some (fB (step x))) →
    bT f (bJ (a : Int) ((a + l.length : Nat) : Int)) () = some (fM (fA step l))
  | [], a, _ => by rw [show a + ([] : List α).length = a from rfl, kU]; rfl
  | x :: l, a, h => by
    rw [show a + (x :: l).length = a + (l.length + 1) by simp, kT]
    simp only [bT]
    have h0 := h 0 x rfl
    rw [Nat.add_zero] at h0
    rw [h0]
    simp only [Option.bind_some, fA]
    cases step x with
    | some r => rfl
    | none =>
      show bT f _ () = _
      rw [show a + (l.length + 1) = a + 1 + l.length by omega]
      exact qM f step l (a + 1) fun j y hj => by rw [show a + 1 + j = a + (j + 1) by omega]; exact h (j + 1) y (by simpa using hj)
theorem kY {α ρ : Type} (f : Int → Unit → Option (Br Unit ρ)) (step : α → Option ρ) (l : List α) (h : ∀ (j : Nat) x, l[j]? = some x → f (j : Int) () = some (fB (step x))) :
    bT f (bJ 0 (l.length : Int)) () = some (fM (fA step l)) := by
  have := qM f step l 0 (fun j x hj => by rw [Nat.zero_add]; exact h j x hj)
  simpa using this
theorem vn {α β ρ : Type} (f : Int → Unit → Option (Br Unit ρ)) (step : α × β → Option ρ) (l : List α) (m : List β) (hl : l.length = m.length) (h : ∀ (j : Nat) x y, l[j]? = some x → m[j]? = some y → f (j : Int) () = some (fB (step (x, y)))) :
    bT f (bJ 0 (l.length : Int)) () = some (fM (fA step (l.zip m))) := by
  have hz : (l.zip m).length = l.length := by simp; omega
  have := kY f step (l.zip m) fun j x hj => by
    rw [List.getElem?_zip_eq_some] at hj
    exact h j x.1 x.2 hj.1 hj.2
  rwa [hz] at this
end Go.AM
end
section
namespace Go.AM
def gH {α : Type} (l : List α) (lo hi i : Int) : Option α := if 0 ≤ lo ∧ 0 ≤ i ∧ i < hi - lo then bq l (lo + i) else none
theorem vo {α : Type} {l : List α} {lo hi i : Int} {v : α} (h : gH l lo hi i = some v) : (0 ≤ lo ∧ 0 ≤ i ∧ i < hi - lo) ∧ bq l (lo + i) = some v := by
  unfold gH at h
  split at h
  · rename_i hc; exact ⟨hc, h⟩
  · cases h
end Go.AM
end
section
set_option linter.unusedVariables false
namespace Go.AM
def dA (a b : Int) : Int := if a < b then -1 else if a > b then 1 else 0
def d9 (x y : List Int) : Nat → Nat → Int
  | 0, _ => 0
  | n + 1, i => if dA (x.getD i 0) (y.getD i 0) ≠ 0 then dA (x.getD i 0) (y.getD i 0) else d9 x y n (i + 1)
def di (x y : A8 Int) : Int := d9 x.l y.l 8 0
def i6 (x : A8 Int) : List (A8 Int) → List (A8 Int)
  | [] => [x]
  | y :: l => if di x y ≤ 0 then x :: y :: l else y :: i6 x l
def du : List (A8 Int) → List (A8 Int)
  | [] => []
  | x :: l => i6 x (du l)
theorem vp (a b : Int) : dA b a = - dA a b := by unfold dA; split <;> split <;> (try split) <;> omega
theorem kZ {a b : Int} : dA a b = 0 ↔ a = b := by
  unfold dA
  constructor
  · intro h; split at h
    · cases h
    · split at h
      · cases h
      · omega
  · rintro rfl; simp
theorem vq {a b c : Int} (h : dA a b ≤ 0) (k : dA b c ≤ 0) : dA a c ≤ 0 ∧ (dA a c = 0 → dA a b = 0 ∧ dA b c = 0) := by
  have h1 : a ≤ b := by unfold dA at h; split at h <;> (try split at h) <;> omega
  have h2 : b ≤ c := by unfold dA at k; split at k <;> (try split at k) <;> omega
  refine ⟨?_, fun h3 => ?_⟩
  · unfold dA; split
    · decide
    · split <;> omega
  · have := kZ.1 h3
    exact ⟨kZ.2 (by omega), kZ.2 (by omega)⟩
theorem qN (x y : List Int) : ∀ n i, d9 y x n i = - d9 x y n i
  | 0, i => rfl
  | n + 1, i => by
    unfold d9
    rw [vp (x.getD i 0) (y.getD i 0), qN x y n (i + 1)]
    split <;> split <;> omega
theorem qO (x y z : List Int) : ∀ n i, d9 x y n i ≤ 0 → d9 y z n i ≤ 0 → d9 x z n i ≤ 0 ∧ (d9 x z n i = 0 → d9 x y n i = 0 ∧ d9 y z n i = 0)
  | 0, i, _, _ => ⟨Int.le_refl _, fun _ => ⟨rfl, rfl⟩⟩
  | n + 1, i, h, k => by
    unfold d9 at h k ⊢
    have ih := qO x y z n (i + 1)
    have t := @vq (x.getD i 0) (y.getD i 0) (z.getD i 0)
    generalize ea : dA (x.getD i 0) (y.getD i 0) = a at h t ⊢
    generalize eb : dA (y.getD i 0) (z.getD i 0) = b at k t ⊢
    generalize ec : dA (x.getD i 0) (z.getD i 0) = c at t ⊢
    have ha : a ≤ 0 := by
      by_cases h0 : a = 0
      · omega
      · rw [if_pos h0] at h; exact h
    have hb : b ≤ 0 := by
      by_cases h0 : b = 0
      · omega
      · rw [if_pos h0] at k; exact k
    obtain ⟨t1, t2⟩ := t ha hb
    by_cases hc : c = 0
    · obtain ⟨rfl, rfl⟩ := t2 hc
      subst hc
      simp only [ne_eq, not_true_eq_false, if_false] at h k ⊢
      exact ih h k
    · rw [if_pos hc]
      exact ⟨t1, fun h => (hc h).elim⟩
theorem qP (x y : List Int) : ∀ n i, d9 x y n i = 0 → ∀ j, i ≤ j → j < i + n → x.getD j 0 = y.getD j 0
  | 0, i, _, j, h1, h2 => by omega
  | n + 1, i, h, j, h1, h2 => by
    unfold d9 at h
    split at h
    · rename_i h0; exact (h0 h).elim
    · rename_i h0
      by_cases e : j = i
      · subst e; exact kZ.1 (Classical.not_not.1 h0)
      · exact qP x y n (i + 1) h j (by omega) (by omega)
theorem gX (x y : A8 Int) : di y x = - di x y := qN _ _ _ _
theorem nh (x : A8 Int) : di x x = 0 := by have := gX x x; omega
theorem ni {x y z : A8 Int} (h : di x y ≤ 0) (k : di y z ≤ 0) : di x z ≤ 0 ∧ (di x z = 0 → di x y = 0 ∧ di y z = 0) := qO _ _ _ _ _ h k
theorem qQ {x y : A8 Int} (h : di x y = 0) : x = y := by
  have := qP x.l y.l 8 0 h
  obtain ⟨x0, x1, x2, x3, x4, x5, x6, x7⟩ := x
  obtain ⟨y0, y1, y2, y3, y4, y5, y6, y7⟩ := y
  have e0 := this 0 (by omega) (by omega)
  have e1 := this 1 (by omega) (by omega)
  have e2 := this 2 (by omega) (by omega)
  have e3 := this 3 (by omega) (by omega)
  have e4 := this 4 (by omega) (by omega)
  have e5 := this 5 (by omega) (by omega)
  have e6 := this 6 (by omega) (by omega)
  have e7 := this 7 (by omega) (by omega)
  simp [A8.l] at e0 e1 e2 e3 e4 e5 e6 e7
  simp [*]
def gI (l : List (A8 Int)) : Prop := l.Pairwise fun a b => di a b ≤ 0
theorem nj (x : A8 Int) : ∀ l, (i6 x l).Perm (x :: l)
  | [] => .refl _
  | y :: l => by
    unfold i6
    split
    · exact .refl _
    · exact ((nj x l).cons y).trans (.swap x y l)
theorem iv : ∀ l, (du l).Perm l
  | [] => .refl _
  | x :: l => (nj x _).trans ((iv l).cons x)
theorem qR (x : A8 Int) : ∀ l, gI l → gI (i6 x l)
  | [], _ => List.pairwise_singleton _ _
  | y :: l, h => by
    obtain ⟨h1, h2⟩ := List.pairwise_cons.1 h
    unfold i6
    split
    · rename_i hxy
      refine List.pairwise_cons.2 ⟨fun z hz => ?_, h⟩
      rcases List.mem_cons.1 hz with rfl | hz
      · exact hxy
      · exact (ni hxy (h1 z hz)).1
    · rename_i hxy
      refine List.pairwise_cons.2 ⟨fun z hz => ?_, qR x l h2⟩
      rcases List.mem_cons.1 ((nj x l).mem_iff.1 hz) with rfl | hz
      · have := gX z y; omega
      · exact h1 z hz
theorem k5 : ∀ l, gI (du l)
  | [] => List.Pairwise.nil
  | x :: l => qR x _ (k5 l)
theorem qS : ∀ {l m : List (A8 Int)}, l.Perm m → gI l → gI m → l = m
  | [], m, h, _, _ => by rw [List.nil_perm.1 h]
  | x :: l, [], h, _, _ => by have := h.length_eq; simp at this
  | x :: l, y :: m, h, h1, h2 => by
    obtain ⟨a1, a2⟩ := List.pairwise_cons.1 h1
    obtain ⟨b1, b2⟩ := List.pairwise_cons.1 h2
    have hx : di x y ≤ 0 := by
      rcases List.mem_cons.1 (h.mem_iff.2 (List.mem_cons_self (a := y) (l := m))) with e | e
      · subst e; rw [nh]; decide
      · exact a1 _ e
    have hy : di y x ≤ 0 := by
      rcases List.mem_cons.1 (h.mem_iff.1 (List.mem_cons_self (a := x) (l := l))) with e | e
      · subst e; rw [nh]; decide
      · exact b1 _ e
    have e : x = y := qQ (by have := gX x y; omega)
    subst e
    rw [qS h.cons_inv a2 b2]
theorem vr {l m : List (A8 Int)} (h : m.Perm l) (ho : gI m) : m = du l := qS (h.trans (iv l).symm) ho (k5 l)
end Go.AM
end
section
namespace Go.AM
def f5 {α β : Type} (o : Option (Option α)) (p : Option β) (k : α → Option β) : Option β :=
  match o with
  | none => none
  | some none => p
  | some (some v) => k v
theorem i7 {α β : Type} {o : Option (Option α)} {p : Option β} {k : α → Option β} {r : β} (h : f5 o p k = some r) : (o = some none ∧ p = some r) ∨ ∃ v, o = some (some v) ∧ k v = some r := by
  cases o with
  | none => cases h
  | some o => cases o with
    | none => exact .inl ⟨rfl, h⟩
    | some v => exact .inr ⟨v, rfl, h⟩
end Go.AM
end
