import Derived.Test.YtnnkfanmokeiaaaAmN6
import Derived.Test.YtnnkfanmokeiaaaAmN4
/-  Several texts in one. -/
section
set_option linter.unusedVariables false
set_option linter.unusedSectionVars false
set_option linter.unusedSimpArgs false
namespace Go.AM
open Go
theorem w_u8 (n : Int) : IntKind.u8.wrap n = n % 256 := tP n
theorem iL {n : Int} (h0 : -9223372036854775808 ≤ n) (h1 : n < 9223372036854775808) : IntKind.i64.wrap n = n := tQ h0 h1
theorem pZ (i k : Nat) : bG (i : Int) ((i + k : Nat) : Int) = (List.range k).map fun (j : Nat) => ((i + j : Nat) : Int) := by
  simp only [bG]
  rw [show (((i + k : Nat) : Int) - (i : Int)).toNat = k by omega]
  refine List.map_congr_left fun j _ => ?_
  push_cast; rfl
theorem mG (i k : Nat) : bG (i : Int) ((i + (k + 1) : Nat) : Int) = (i : Int) :: bG ((i + 1 : Nat) : Int) ((i + (k + 1) : Nat) : Int) := by
  rw [pZ, show i + (k + 1) = (i + 1) + k by omega, pZ, List.range_succ_eq_map]
  simp only [List.map_cons, List.map_map, Nat.add_zero]
  congr 1
  refine List.map_congr_left fun j _ => ?_
  simp only [Function.comp_apply, Nat.succ_eq_add_one]
  push_cast; omega
theorem mH (i : Nat) : bG (i : Int) (i : Int) = [] := by simp [bG]
theorem kF {α : Type} {xs ys : List α} (h : xs.length + ys.length ≤ 4294967296) : cB xs ys = some (xs ++ ys) := by unfold cB; rw [if_pos h]
theorem ey {α : Type} (l : List α) (i : Nat) : bh l (i : Int) = l[i]? := by
  unfold bh; rw [if_pos (by omega), Int.toNat_natCast]
theorem uo (k : Nat) (h : k ≤ 1000000) : ∃ m, cn = m + k := ⟨cn - k, by unfold cn; omega⟩
theorem kG {σ : Type} (f : Int → σ → Option σ) (P : Nat → σ → Prop) : ∀ (k i : Nat) (s : σ), P i s → (∀ j s, i ≤ j → j < i + k → P j s → ∃ s', f (j : Int) s = some s' ∧ P (j + 1) s') →
    ∃ s', dQ f (bG (i : Int) ((i + k : Nat) : Int)) s = some s' ∧ P (i + k) s'
  | 0, i, s, h, _ => ⟨s, by rw [show i + 0 = i from rfl, mH]; rfl, h⟩
  | k + 1, i, s, h, hs => by
    obtain ⟨s1, e1, h1⟩ := hs i s (Nat.le_refl _) (by omega) h
    obtain ⟨s2, e2, h2⟩ := kG f P k (i + 1) s1 h1 fun j s hj hk => hs j s (by omega) (by omega)
    refine ⟨s2, ?_, by rwa [show i + (k + 1) = i + 1 + k by omega]⟩
    rw [mG]
    simp only [dQ]
    rw [e1]
    simp only [Option.bind_some]
    rw [show i + (k + 1) = i + 1 + k by omega]
    exact e2
theorem kH {α σ : Type} (f : Int → σ → Option σ) (l : List α) (P : List α → σ → Prop) (s : σ) (h0 : P [] s) (hs : ∀ i x s, l[i]? = some x → P (l.take i) s → ∃ s', f (i : Int) s = some s' ∧ P (l.take i ++ [x]) s') :
    ∃ s', dQ f (bG 0 (l.length : Int)) s = some s' ∧ P l s' := by
  have := kG f (fun i s => P (l.take i) s) l.length 0 s (by simpa using h0) (fun j s _ hj h => by
    have hj' : j < l.length := by omega
    obtain ⟨s', e, h'⟩ := hs j l[j] s (bW hj') h
    exact ⟨s', e, by rwa [List.take_add_one, bW hj']⟩)
  obtain ⟨s', e, h'⟩ := this
  refine ⟨s', by simpa using e, by simpa using h'⟩
theorem mI {σ ρ : Type} (f : Int → σ → Option (Br σ ρ)) (P : Nat → σ → Prop) (B : σ → Prop) (R : ρ → Prop) : ∀ (k i : Nat) (s : σ), P i s → (∀ j s, i ≤ j → j < i + k → P j s → (∃ s', f (j : Int) s = some (.next s') ∧ P (j + 1) s') ∨ (∃ s', f (j : Int) s = some (.brk s') ∧ B s') ∨ ∃ r, f (j : Int) s = some (.ret r) ∧ R r) →
    (∃ s', b9 f (bG (i : Int) ((i + k : Nat) : Int)) s = some (.done s') ∧ (P (i + k) s' ∨ B s')) ∨ ∃ r, b9 f (bG (i : Int) ((i + k : Nat) : Int)) s = some (.ret r) ∧ R r
  | 0, i, s, h, _ => .inl ⟨s, by rw [show i + 0 = i from rfl, mH]; rfl, .inl h⟩
  | k + 1, i, s, h, hs => by
    rw [mG]
    simp only [b9]
    rcases hs i s (Nat.le_refl _) (by omega) h with ⟨s1, e1, h1⟩ | ⟨s1, e1, h1⟩ | ⟨r, e1, h1⟩
    · rw [e1]
      simp only [Option.bind_some]
      rw [show i + (k + 1) = i + 1 + k by omega]
      exact mI f P B R k (i + 1) s1 h1 fun j s hj hk => hs j s (by omega) (by omega)
    · rw [e1]; exact .inl ⟨s1, rfl, .inr h1⟩
    · rw [e1]; exact .inr ⟨r, rfl, h1⟩
theorem ur {α σ ρ : Type} (f : Int → σ → Option (Br σ ρ)) (l : List α) (P : List α → σ → Prop) (B : σ → Prop) (R : ρ → Prop) (s : σ) (h0 : P [] s)
    (hs : ∀ i x s, l[i]? = some x → P (l.take i) s → (∃ s', f (i : Int) s = some (.next s') ∧ P (l.take i ++ [x]) s') ∨ (∃ s', f (i : Int) s = some (.brk s') ∧ B s') ∨ ∃ r, f (i : Int) s = some (.ret r) ∧ R r) :
    (∃ s', b9 f (bG 0 (l.length : Int)) s = some (.done s') ∧ (P l s' ∨ B s')) ∨ ∃ r, b9 f (bG 0 (l.length : Int)) s = some (.ret r) ∧ R r := by
  have := mI f (fun i s => P (l.take i) s) B R l.length 0 s (by simpa using h0) (fun j s _ hj h => by
    have hj' : j < l.length := by omega
    rcases hs j l[j] s (bW hj') h with ⟨s', e, h'⟩ | h | h
    · exact .inl ⟨s', e, by rwa [List.take_add_one, bW hj']⟩
    · exact .inr (.inl h)
    · exact .inr (.inr h))
  simpa using this
end Go.AM
end
section
set_option linter.unusedVariables false
set_option linter.unusedSectionVars false
set_option linter.unusedSimpArgs false
namespace Go.AM
open Go
def jG {ρ : Type} : Option ρ → Ex Unit ρ
  | some r => .ret r
  | none => .done ()
def kI {ρ : Type} : Option ρ → Br Unit ρ
  | some r => .ret r
  | none => .next ()
end Go.AM
end
section
namespace Go.AM
structure A3 (α : Type) where
  a0 : α
  a1 : α
  a2 : α
  deriving DecidableEq, Inhabited
def A3.l {α : Type} (a : A3 α) : List α := [a.a0, a.a1, a.a2]
def A3.get {α : Type} (a : A3 α) (i : Int) : Option α := bh a.l i
def A3.of {α : Type} : List α → Option (A3 α)
  | [a, b, c] => some ⟨a, b, c⟩
  | _ => none
def A3.put {α : Type} (a : A3 α) (i : Int) (v : α) : Option (A3 α) := (cx a.l i v).bind A3.of
end Go.AM
end
section
namespace Go.AM
def gj {α : Type} (l : List α) (lo hi i : Int) : Option α := if 0 ≤ lo ∧ 0 ≤ i ∧ i < hi - lo then bh l (lo + i) else none
theorem ut {α : Type} {l : List α} {lo hi i : Int} {v : α} (h : gj l lo hi i = some v) : (0 ≤ lo ∧ 0 ≤ i ∧ i < hi - lo) ∧ bh l (lo + i) = some v := by
  unfold gj at h
  split at h
  · rename_i hc; exact ⟨hc, h⟩
  · cases h
end Go.AM
end
section
set_option linter.unusedVariables false
namespace Go.AM
def df (a b : Int) : Int := if a < b then -1 else if a > b then 1 else 0
def dR (x y : List Int) : Nat → Nat → Int
  | 0, _ => 0
  | n + 1, i => if df (x.getD i 0) (y.getD i 0) ≠ 0 then df (x.getD i 0) (y.getD i 0) else dR x y n (i + 1)
def cV (x y : A8 Int) : Int := dR x.l y.l 8 0
def iM (x : A8 Int) : List (A8 Int) → List (A8 Int)
  | [] => [x]
  | y :: l => if cV x y ≤ 0 then x :: y :: l else y :: iM x l
def da : List (A8 Int) → List (A8 Int)
  | [] => []
  | x :: l => iM x (da l)
theorem uv (a b : Int) : df b a = - df a b := by unfold df; split <;> split <;> (try split) <;> omega
theorem kJ {a b : Int} : df a b = 0 ↔ a = b := by
  unfold df
  constructor
  · intro h; split at h
    · cases h
    · split at h
      · cases h
      · omega
  · rintro rfl; simp
theorem uw {a b c : Int} (h : df a b ≤ 0) (k : df b c ≤ 0) : df a c ≤ 0 ∧ (df a c = 0 → df a b = 0 ∧ df b c = 0) := by
  have h1 : a ≤ b := by unfold df at h; split at h <;> (try split at h) <;> omega
  have h2 : b ≤ c := by unfold df at k; split at k <;> (try split at k) <;> omega
  refine ⟨?_, fun h3 => ?_⟩
  · unfold df; split
    · decide
    · split <;> omega
  · have := kJ.1 h3
    exact ⟨kJ.2 (by omega), kJ.2 (by omega)⟩
theorem p4 (x y : List Int) : ∀ n i, dR y x n i = - dR x y n i
  | 0, i => rfl
  | n + 1, i => by
    unfold dR
    rw [uv (x.getD i 0) (y.getD i 0), p4 x y n (i + 1)]
    split <;> split <;> omega
theorem p5 (x y z : List Int) : ∀ n i, dR x y n i ≤ 0 → dR y z n i ≤ 0 → dR x z n i ≤ 0 ∧ (dR x z n i = 0 → dR x y n i = 0 ∧ dR y z n i = 0)
  | 0, i, _, _ => ⟨Int.le_refl _, fun _ => ⟨rfl, rfl⟩⟩
  | n + 1, i, h, k => by
    unfold dR at h k ⊢
    have ih := p5 x y z n (i + 1)
    have t := @uw (x.getD i 0) (y.getD i 0) (z.getD i 0)
    generalize ea : df (x.getD i 0) (y.getD i 0) = a at h t ⊢
    generalize eb : df (y.getD i 0) (z.getD i 0) = b at k t ⊢
    generalize ec : df (x.getD i 0) (z.getD i 0) = c at t ⊢
    have ha : a ≤ 0 := by
      by_cases h0 : a = 0
      · omega
      · rw [if_pos h0] at h; exact h
    have hb : b ≤ 0 := by
      by_cases h0 : b = 0
      · omega
      · rw [if_pos h0] at k; exact k
    obtain ⟨t1, t2⟩ := t ha hb
    by_cases hc : c = 0
    · obtain ⟨rfl, rfl⟩ := t2 hc
      subst hc
      simp only [ne_eq, not_true_eq_false, if_false] at h k ⊢
      exact ih h k
    · rw [if_pos hc]
      exact ⟨t1, fun h => (hc h).elim⟩
theorem p6 (x y : List Int) : ∀ n i, dR x y n i = 0 → ∀ j, i ≤ j → j < i + n → x.getD j 0 = y.getD j 0
  | 0, i, _, j, h1, h2 => by omega
  | n + 1, i, h, j, h1, h2 => by
    unfold dR at h
    split at h
    · rename_i h0; exact (h0 h).elim
    · rename_i h0
      by_cases e : j = i
      · subst e; exact kJ.1 (Classical.not_not.1 h0)
      · exact p6 x y n (i + 1) h j (by omega) (by omega)
theorem gF (x y : A8 Int) : cV y x = - cV x y := p4 _ _ _ _
theorem mJ (x : A8 Int) : cV x x = 0 := by have := gF x x; omega
theorem mK {x y z : A8 Int} (h : cV x y ≤ 0) (k : cV y z ≤ 0) : cV x z ≤ 0 ∧ (cV x z = 0 → cV x y = 0 ∧ cV y z = 0) := p5 _ _ _ _ _ h k
theorem p7 {x y : A8 Int} (h : cV x y = 0) : x = y := by
  have := p6 x.l y.l 8 0 h
  obtain ⟨x0, x1, x2, x3, x4, x5, x6, x7⟩ := x
  obtain ⟨y0, y1, y2, y3, y4, y5, y6, y7⟩ := y
  have e0 := this 0 (by omega) (by omega)
  have e1 := this 1 (by omega) (by omega)
  have e2 := this 2 (by omega) (by omega)
  have e3 := this 3 (by omega) (by omega)
  have e4 := this 4 (by omega) (by omega)
  have e5 := this 5 (by omega) (by omega)
  have e6 := this 6 (by omega) (by omega)
  have e7 := this 7 (by omega) (by omega)
  simp [A8.l] at e0 e1 e2 e3 e4 e5 e6 e7
  simp [*]
def gl (l : List (A8 Int)) : Prop := l.Pairwise fun a b => cV a b ≤ 0
theorem mL (x : A8 Int) : ∀ l, (iM x l).Perm (x :: l)
  | [] => .refl _
  | y :: l => by
    unfold iM
    split
    · exact .refl _
    · exact ((mL x l).cons y).trans (.swap x y l)
theorem hS : ∀ l, (da l).Perm l
  | [] => .refl _
  | x :: l => (mL x _).trans ((hS l).cons x)
theorem p8 (x : A8 Int) : ∀ l, gl l → gl (iM x l)
  | [], _ => List.pairwise_singleton _ _
  | y :: l, h => by
    obtain ⟨h1, h2⟩ := List.pairwise_cons.1 h
    unfold iM
    split
    · rename_i hxy
      refine List.pairwise_cons.2 ⟨fun z hz => ?_, h⟩
      rcases List.mem_cons.1 hz with rfl | hz
      · exact hxy
      · exact (mK hxy (h1 z hz)).1
    · rename_i hxy
      refine List.pairwise_cons.2 ⟨fun z hz => ?_, p8 x l h2⟩
      rcases List.mem_cons.1 ((mL x l).mem_iff.1 hz) with rfl | hz
      · have := gF z y; omega
      · exact h1 z hz
theorem kK : ∀ l, gl (da l)
  | [] => List.Pairwise.nil
  | x :: l => p8 x _ (kK l)
theorem p9 : ∀ {l m : List (A8 Int)}, l.Perm m → gl l → gl m → l = m
  | [], m, h, _, _ => by rw [List.nil_perm.1 h]
  | x :: l, [], h, _, _ => by have := h.length_eq; simp at this
  | x :: l, y :: m, h, h1, h2 => by
    obtain ⟨a1, a2⟩ := List.pairwise_cons.1 h1
    obtain ⟨b1, b2⟩ := List.pairwise_cons.1 h2
    have hx : cV x y ≤ 0 := by
      rcases List.mem_cons.1 (h.mem_iff.2 (List.mem_cons_self (a := y) (l := m))) with e | e
      · subst e; rw [mJ]; decide
      · exact a1 _ e
    have hy : cV y x ≤ 0 := by
      rcases List.mem_cons.1 (h.mem_iff.1 (List.mem_cons_self (a := x) (l := l))) with e | e
      · subst e; rw [mJ]; decide
      · exact b1 _ e
    have e : x = y := p7 (by have := gF x y; omega)
    subst e
    rw [p9 h.cons_inv a2 b2]
theorem uz {l m : List (A8 Int)} (h : m.Perm l) (ho : gl m) : m = da l := p9 (h.trans (hS l).symm) ho (kK l)
end Go.AM
end
section
namespace Go.AM
def fJ {α β : Type} (o : Option (Option α)) (p : Option β) (k : α → Option β) : Option β :=
  match o with
  | none => none
  | some none => p
  | some (some v) => k v
theorem iN {α β : Type} {o : Option (Option α)} {p : Option β} {k : α → Option β} {r : β} (h : fJ o p k = some r) : (o = some none ∧ p = some r) ∨ ∃ v, o = some (some v) ∧ k v = some r := by
  cases o with
  | none => cases h
  | some o => cases o with
    | none => exact .inl ⟨rfl, h⟩
    | some v => exact .inr ⟨v, rfl, h⟩
end Go.AM
end
