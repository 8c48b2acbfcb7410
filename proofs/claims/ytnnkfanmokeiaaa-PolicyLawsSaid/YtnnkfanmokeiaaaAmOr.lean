import Derived.Test.YtnnkfanmokeiaaaAmN6
import Derived.Test.YtnnkfanmokeiaaaAmN4
/-  Several texts in one. -/
section
set_option linter.unusedVariables false
set_option linter.unusedSectionVars false
set_option linter.unusedSimpArgs false
namespace Go.AM
open Go
theorem w_u8 (n : Int) : IntKind.u8.wrap n = n % 256 := tU n
theorem iS {n : Int} (h0 : -9223372036854775808 ≤ n) (h1 : n < 9223372036854775808) : IntKind.i64.wrap n = n := tV h0 h1
theorem qj (i k : Nat) : bJ (i : Int) ((i + k : Nat) : Int) = (List.range k).map fun (j : Nat) => ((i + j : Nat) : Int) := by
  simp only [bJ]
  rw [show (((i + k : Nat) : Int) - (i : Int)).toNat = k by omega]
  refine List.map_congr_left fun j _ => ?_
  push_cast; rfl
theorem mH (i k : Nat) : bJ (i : Int) ((i + (k + 1) : Nat) : Int) = (i : Int) :: bJ ((i + 1 : Nat) : Int) ((i + (k + 1) : Nat) : Int) := by
  rw [qj, show i + (k + 1) = (i + 1) + k by omega, qj, List.range_succ_eq_map]
  simp only [List.map_cons, List.map_map, Nat.add_zero]
  congr 1
  refine List.map_congr_left fun j _ => ?_
  simp only [Function.comp_apply, Nat.succ_eq_add_one]
  push_cast; omega
theorem mI (i : Nat) : bJ (i : Int) (i : Int) = [] := by simp [bJ]
theorem kQ {α : Type} {xs ys : List α} (h : xs.length + ys.length ≤ 4294967296) : dq xs ys = some (xs ++ ys) := by unfold dq; rw [if_pos h]
theorem fk {α : Type} (l : List α) (i : Nat) : bv l (i : Int) = l[i]? := by
  unfold bv; rw [if_pos (by omega), Int.toNat_natCast]
theorem uA (k : Nat) (h : k ≤ 1000000) : ∃ m, cL = m + k := ⟨cL - k, by unfold cL; omega⟩
theorem mJ {σ : Type} (f : Int → σ → Option σ) (P : Nat → σ → Prop) : ∀ (k i : Nat) (s : σ), P i s → (∀ j s, i ≤ j → j < i + k → P j s → ∃ s', f (j : Int) s = some s' ∧ P (j + 1) s') →
    ∃ s', eP f (bJ (i : Int) ((i + k : Nat) : Int)) s = some s' ∧ P (i + k) s'
  | 0, i, s, h, _ => ⟨s, by rw [show i + 0 = i from rfl, mI]; rfl, h⟩
  | k + 1, i, s, h, hs => by
    obtain ⟨s1, e1, h1⟩ := hs i s (Nat.le_refl _) (by omega) h
    obtain ⟨s2, e2, h2⟩ := mJ f P k (i + 1) s1 h1 fun j s hj hk => hs j s (by omega) (by omega)
    refine ⟨s2, ?_, by rwa [show i + (k + 1) = i + 1 + k by omega]⟩
    rw [mH]
    simp only [eP]
    rw [e1]
    simp only [Option.bind_some]
    rw [show i + (k + 1) = i + 1 + k by omega]
    exact e2
theorem mK {α σ : Type} (f : Int → σ → Option σ) (l : List α) (P : List α → σ → Prop) (s : σ) (h0 : P [] s) (hs : ∀ i x s, l[i]? = some x → P (l.take i) s → ∃ s', f (i : Int) s = some s' ∧ P (l.take i ++ [x]) s') :
    ∃ s', eP f (bJ 0 (l.length : Int)) s = some s' ∧ P l s' := by
  have := mJ f (fun i s => P (l.take i) s) l.length 0 s (by simpa using h0) (fun j s _ hj h => by
    have hj' : j < l.length := by omega
    obtain ⟨s', e, h'⟩ := hs j l[j] s (bZ hj') h
    exact ⟨s', e, by rwa [List.take_add_one, bZ hj']⟩)
  obtain ⟨s', e, h'⟩ := this
  refine ⟨s', by simpa using e, by simpa using h'⟩
theorem mL {σ ρ : Type} (f : Int → σ → Option (Br σ ρ)) (P : Nat → σ → Prop) (B : σ → Prop) (R : ρ → Prop) : ∀ (k i : Nat) (s : σ), P i s → (∀ j s, i ≤ j → j < i + k → P j s → (∃ s', f (j : Int) s = some (.next s') ∧ P (j + 1) s') ∨ (∃ s', f (j : Int) s = some (.brk s') ∧ B s') ∨ ∃ r, f (j : Int) s = some (.ret r) ∧ R r) →
    (∃ s', ca f (bJ (i : Int) ((i + k : Nat) : Int)) s = some (.done s') ∧ (P (i + k) s' ∨ B s')) ∨ ∃ r, ca f (bJ (i : Int) ((i + k : Nat) : Int)) s = some (.ret r) ∧ R r
  | 0, i, s, h, _ => .inl ⟨s, by rw [show i + 0 = i from rfl, mI]; rfl, .inl h⟩
  | k + 1, i, s, h, hs => by
    rw [mH]
    simp only [ca]
    rcases hs i s (Nat.le_refl _) (by omega) h with ⟨s1, e1, h1⟩ | ⟨s1, e1, h1⟩ | ⟨r, e1, h1⟩
    · rw [e1]
      simp only [Option.bind_some]
      rw [show i + (k + 1) = i + 1 + k by omega]
      exact mL f P B R k (i + 1) s1 h1 fun j s hj hk => hs j s (by omega) (by omega)
    · rw [e1]; exact .inl ⟨s1, rfl, .inr h1⟩
    · rw [e1]; exact .inr ⟨r, rfl, h1⟩
theorem qk {α σ ρ : Type} (f : Int → σ → Option (Br σ ρ)) (l : List α) (P : List α → σ → Prop) (B : σ → Prop) (R : ρ → Prop) (s : σ) (h0 : P [] s)
    (hs : ∀ i x s, l[i]? = some x → P (l.take i) s → (∃ s', f (i : Int) s = some (.next s') ∧ P (l.take i ++ [x]) s') ∨ (∃ s', f (i : Int) s = some (.brk s') ∧ B s') ∨ ∃ r, f (i : Int) s = some (.ret r) ∧ R r) :
    (∃ s', ca f (bJ 0 (l.length : Int)) s = some (.done s') ∧ (P l s' ∨ B s')) ∨ ∃ r, ca f (bJ 0 (l.length : Int)) s = some (.ret r) ∧ R r := by
  have := mL f (fun i s => P (l.take i) s) B R l.length 0 s (by simpa using h0) (fun j s _ hj h => by
    have hj' : j < l.length := by omega
    rcases hs j l[j] s (bZ hj') h with ⟨s', e, h'⟩ | h | h
    · exact .inl ⟨s', e, by rwa [List.take_add_one, bZ hj']⟩
    · exact .inr (.inl h)
    · exact .inr (.inr h))
  simpa using this
end Go.AM
end
section
set_option linter.unusedVariables false
set_option linter.unusedSectionVars false
set_option linter.unusedSimpArgs false
namespace Go.AM
open Go
def jS {ρ : Type} : Option ρ → Ex Unit ρ
  | some r => .ret r
  | none => .done ()
def kR {ρ : Type} : Option ρ → Br Unit ρ
  | some r => .ret r
  | none => .next ()
end Go.AM
end
section
namespace Go.AM
structure A3 (α : Type) where
  a0 : α
  a1 : α
  a2 : α
  deriving DecidableEq, Inhabited
def A3.l {α : Type} (a : A3 α) : List α := [a.a0, a.a1, a.a2]
def A3.get {α : Type} (a : A3 α) (i : Int) : Option α := bv a.l i
def A3.of {α : Type} : List α → Option (A3 α)
  | [a, b, c] => some ⟨a, b, c⟩
  | _ => none
def A3.put {α : Type} (a : A3 α) (i : Int) (v : α) : Option (A3 α) := (cK a.l i v).bind A3.of
end Go.AM
end
section
namespace Go.AM
def gy {α : Type} (l : List α) (lo hi i : Int) : Option α := if 0 ≤ lo ∧ 0 ≤ i ∧ i < hi - lo then bv l (lo + i) else none
theorem uB {α : Type} {l : List α} {lo hi i : Int} {v : α} (h : gy l lo hi i = some v) : (0 ≤ lo ∧ 0 ≤ i ∧ i < hi - lo) ∧ bv l (lo + i) = some v := by
  unfold gy at h
  split at h
  · rename_i hc; exact ⟨hc, h⟩
  · cases h
end Go.AM
end
section
set_option linter.unusedVariables false
namespace Go.AM
def dg (a b : Int) : Int := if a < b then -1 else if a > b then 1 else 0
def dU (x y : List Int) : Nat → Nat → Int
  | 0, _ => 0
  | n + 1, i => if dg (x.getD i 0) (y.getD i 0) ≠ 0 then dg (x.getD i 0) (y.getD i 0) else dU x y n (i + 1)
def cW (x y : A8 Int) : Int := dU x.l y.l 8 0
def iT (x : A8 Int) : List (A8 Int) → List (A8 Int)
  | [] => [x]
  | y :: l => if cW x y ≤ 0 then x :: y :: l else y :: iT x l
def db : List (A8 Int) → List (A8 Int)
  | [] => []
  | x :: l => iT x (db l)
theorem uC (a b : Int) : dg b a = - dg a b := by unfold dg; split <;> split <;> (try split) <;> omega
theorem kS {a b : Int} : dg a b = 0 ↔ a = b := by
  unfold dg
  constructor
  · intro h; split at h
    · cases h
    · split at h
      · cases h
      · omega
  · rintro rfl; simp
theorem uD {a b c : Int} (h : dg a b ≤ 0) (k : dg b c ≤ 0) : dg a c ≤ 0 ∧ (dg a c = 0 → dg a b = 0 ∧ dg b c = 0) := by
  have h1 : a ≤ b := by unfold dg at h; split at h <;> (try split at h) <;> omega
  have h2 : b ≤ c := by unfold dg at k; split at k <;> (try split at k) <;> omega
  refine ⟨?_, fun h3 => ?_⟩
  · unfold dg; split
    · decide
    · split <;> omega
  · have := kS.1 h3
    exact ⟨kS.2 (by omega), kS.2 (by omega)⟩
theorem ql (x y : List Int) : ∀ n i, dU y x n i = - dU x y n i
  | 0, i => rfl
  | n + 1, i => by
    unfold dU
    rw [uC (x.getD i 0) (y.getD i 0), ql x y n (i + 1)]
    split <;> split <;> omega
theorem qm (x y z : List Int) : ∀ n i, dU x y n i ≤ 0 → dU y z n i ≤ 0 → dU x z n i ≤ 0 ∧ (dU x z n i = 0 → dU x y n i = 0 ∧ dU y z n i = 0)
  | 0, i, _, _ => ⟨Int.le_refl _, fun _ => ⟨rfl, rfl⟩⟩
  | n + 1, i, h, k => by
    unfold dU at h k ⊢
    have ih := qm x y z n (i + 1)
    have t := @uD (x.getD i 0) (y.getD i 0) (z.getD i 0)
    generalize ea : dg (x.getD i 0) (y.getD i 0) = a at h t ⊢
    generalize eb : dg (y.getD i 0) (z.getD i 0) = b at k t ⊢
    generalize ec : dg (x.getD i 0) (z.getD i 0) = c at t ⊢
    have ha : a ≤ 0 := by
      by_cases h0 : a = 0
      · omega
      · rw [if_pos h0] at h; exact h
    have hb : b ≤ 0 := by
      by_cases h0 : b = 0
      · omega
      · rw [if_pos h0] at k; exact k
    obtain ⟨t1, t2⟩ := t ha hb
    by_cases hc : c = 0
    · obtain ⟨rfl, rfl⟩ := t2 hc
      subst hc
      simp only [ne_eq, not_true_eq_false, if_false] at h k ⊢
      exact ih h k
    · rw [if_pos hc]
      exact ⟨t1, fun h => (hc h).elim⟩
theorem qn (x y : List Int) : ∀ n i, dU x y n i = 0 → ∀ j, i ≤ j → j < i + n → x.getD j 0 = y.getD j 0
  | 0, i, _, j, h1, h2 => by omega
  | n + 1, i, h, j, h1, h2 => by
    unfold dU at h
    split at h
    · rename_i h0; exact (h0 h).elim
    · rename_i h0
      by_cases e : j = i
      · subst e; exact kS.1 (Classical.not_not.1 h0)
      · exact qn x y n (i + 1) h j (by omega) (by omega)
theorem gR (x y : A8 Int) : cW y x = - cW x y := ql _ _ _ _
theorem mM (x : A8 Int) : cW x x = 0 := by have := gR x x; omega
theorem mN {x y z : A8 Int} (h : cW x y ≤ 0) (k : cW y z ≤ 0) : cW x z ≤ 0 ∧ (cW x z = 0 → cW x y = 0 ∧ cW y z = 0) := qm _ _ _ _ _ h k
theorem qo {x y : A8 Int} (h : cW x y = 0) : x = y := by
  have := qn x.l y.l 8 0 h
  obtain ⟨x0, x1, x2, x3, x4, x5, x6, x7⟩ := x
  obtain ⟨y0, y1, y2, y3, y4, y5, y6, y7⟩ := y
  have e0 := this 0 (by omega) (by omega)
  have e1 := this 1 (by omega) (by omega)
  have e2 := this 2 (by omega) (by omega)
  have e3 := this 3 (by omega) (by omega)
  have e4 := this 4 (by omega) (by omega)
  have e5 := this 5 (by omega) (by omega)
  have e6 := this 6 (by omega) (by omega)
  have e7 := this 7 (by omega) (by omega)
  simp [A8.l] at e0 e1 e2 e3 e4 e5 e6 e7
  simp [*]
def gz (l : List (A8 Int)) : Prop := l.Pairwise fun a b => cW a b ≤ 0
theorem mO (x : A8 Int) : ∀ l, (iT x l).Perm (x :: l)
  | [] => .refl _
  | y :: l => by
    unfold iT
    split
    · exact .refl _
    · exact ((mO x l).cons y).trans (.swap x y l)
theorem ik : ∀ l, (db l).Perm l
  | [] => .refl _
  | x :: l => (mO x _).trans ((ik l).cons x)
theorem qp (x : A8 Int) : ∀ l, gz l → gz (iT x l)
  | [], _ => List.pairwise_singleton _ _
  | y :: l, h => by
    obtain ⟨h1, h2⟩ := List.pairwise_cons.1 h
    unfold iT
    split
    · rename_i hxy
      refine List.pairwise_cons.2 ⟨fun z hz => ?_, h⟩
      rcases List.mem_cons.1 hz with rfl | hz
      · exact hxy
      · exact (mN hxy (h1 z hz)).1
    · rename_i hxy
      refine List.pairwise_cons.2 ⟨fun z hz => ?_, qp x l h2⟩
      rcases List.mem_cons.1 ((mO x l).mem_iff.1 hz) with rfl | hz
      · have := gR z y; omega
      · exact h1 z hz
theorem kT : ∀ l, gz (db l)
  | [] => List.Pairwise.nil
  | x :: l => qp x _ (kT l)
theorem qr : ∀ {l m : List (A8 Int)}, l.Perm m → gz l → gz m → l = m
  | [], m, h, _, _ => by rw [List.nil_perm.1 h]
  | x :: l, [], h, _, _ => by have := h.length_eq; simp at this
  | x :: l, y :: m, h, h1, h2 => by
    obtain ⟨a1, a2⟩ := List.pairwise_cons.1 h1
    obtain ⟨b1, b2⟩ := List.pairwise_cons.1 h2
    have hx : cW x y ≤ 0 := by
      rcases List.mem_cons.1 (h.mem_iff.2 (List.mem_cons_self (a := y) (l := m))) with e | e
      · subst e; rw [mM]; decide
      · exact a1 _ e
    have hy : cW y x ≤ 0 := by
      rcases List.mem_cons.1 (h.mem_iff.1 (List.mem_cons_self (a := x) (l := l))) with e | e
      · subst e; rw [mM]; decide
      · exact b1 _ e
    have e : x = y := qo (by have := gR x y; omega)
    subst e
    rw [qr h.cons_inv a2 b2]
theorem uE {l m : List (A8 Int)} (h : m.Perm l) (ho : gz m) : m = db l := qr (h.trans (ik l).symm) ho (kT l)
end Go.AM
end
section
namespace Go.AM
def fN {α β : Type} (o : Option (Option α)) (p : Option β) (k : α → Option β) : Option β :=
  match o with
  | none => none
  | some none => p
  | some (some v) => k v
theorem iU {α β : Type} {o : Option (Option α)} {p : Option β} {k : α → Option β} {r : β} (h : fN o p k = some r) : (o = some none ∧ p = some r) ∨ ∃ v, o = some (some v) ∧ k v = some r := by
  cases o with
  | none => cases h
  | some o => cases o with
    | none => exact .inl ⟨rfl, h⟩
    | some v => exact .inr ⟨v, rfl, h⟩
end Go.AM
end
