import Derived.Test.YtfjelgjfbjjopaaAmN6
import Derived.Test.YtfjelgjfbjjopaaAmCore
/-  Several texts in one. -/
section
set_option linter.unusedVariables false
set_option linter.unusedSectionVars false
set_option linter.unusedSimpArgs false
namespace Go.AM
open Go
theorem o7 (i k : Nat) : bm (i : Int) ((i + k : Nat) : Int) = (List.range k).map fun (j : Nat) => ((i + j : Nat) : Int) := by
  simp only [bm]
  rw [show (((i + k : Nat) : Int) - (i : Int)).toNat = k by omega]
  refine List.map_congr_left fun j _ => ?_
  push_cast; rfl
theorem jf (i k : Nat) : bm (i : Int) ((i + (k + 1) : Nat) : Int) = (i : Int) :: bm ((i + 1 : Nat) : Int) ((i + (k + 1) : Nat) : Int) := by
  rw [o7, show i + (k + 1) = (i + 1) + k by omega, o7, List.range_succ_eq_map]
  simp only [List.map_cons, List.map_map, Nat.add_zero]
  congr 1
  refine List.map_congr_left fun j _ => ?_
  simp only [Function.comp_apply, Nat.succ_eq_add_one]
  push_cast; omega
theorem jg (i : Nat) : bm (i : Int) (i : Int) = [] := by simp [bm]
theorem gP {α : Type} {xs ys : List α} (h : xs.length + ys.length ≤ 4294967296) : cJ xs ys = some (xs ++ ys) := by unfold cJ; rw [if_pos h]
theorem cm {α : Type} (l : List α) (i : Nat) : aQ l (i : Int) = l[i]? := by
  unfold aQ; rw [if_pos (by omega), Int.toNat_natCast]
theorem sf (n : Nat) : bm 0 (n : Int) = (List.range n).map fun (i : Nat) => (i : Int) := by
  unfold bm; simp
theorem kn (k : Nat) (h : k ≤ 1000000) : ∃ m, dD = m + k := ⟨dD - k, by unfold dD; omega⟩
theorem jh {σ : Type} (f : Int → σ → Option σ) (P : Nat → σ → Prop) : ∀ (k i : Nat) (s : σ), P i s → (∀ j s, i ≤ j → j < i + k → P j s → ∃ s', f (j : Int) s = some s' ∧ P (j + 1) s') →
    ∃ s', bS f (bm (i : Int) ((i + k : Nat) : Int)) s = some s' ∧ P (i + k) s'
  | 0, i, s, h, _ => ⟨s, by rw [show i + 0 = i from rfl, jg]; rfl, h⟩
  | k + 1, i, s, h, hs => by
    obtain ⟨s1, e1, h1⟩ := hs i s (Nat.le_refl _) (by omega) h
    obtain ⟨s2, e2, h2⟩ := jh f P k (i + 1) s1 h1 fun j s hj hk => hs j s (by omega) (by omega)
    refine ⟨s2, ?_, by rwa [show i + (k + 1) = i + 1 + k by omega]⟩
    rw [jf]
    simp only [bS]
    rw [e1]
    simp only [Option.bind_some]
    rw [show i + (k + 1) = i + 1 + k by omega]
    exact e2
theorem o8 {α σ : Type} (f : Int → σ → Option σ) (l : List α) (P : List α → σ → Prop) (s : σ) (h0 : P [] s) (hs : ∀ i x s, l[i]? = some x → P (l.take i) s → ∃ s', f (i : Int) s = some s' ∧ P (l.take i ++ [x]) s') :
    ∃ s', bS f (bm 0 (l.length : Int)) s = some s' ∧ P l s' := by
  have := jh f (fun i s => P (l.take i) s) l.length 0 s (by simpa using h0) (fun j s _ hj h => by
    have hj' : j < l.length := by omega
    obtain ⟨s', e, h'⟩ := hs j l[j] s (bo hj') h
    exact ⟨s', e, by rwa [List.take_add_one, bo hj']⟩)
  obtain ⟨s', e, h'⟩ := this
  refine ⟨s', by simpa using e, by simpa using h'⟩
theorem mc {σ ρ : Type} (f : Int → σ → Option (Br σ ρ)) (P : Nat → σ → Prop) (B : σ → Prop) (R : ρ → Prop) : ∀ (k i : Nat) (s : σ), P i s → (∀ j s, i ≤ j → j < i + k → P j s → (∃ s', f (j : Int) s = some (.next s') ∧ P (j + 1) s') ∨ (∃ s', f (j : Int) s = some (.brk s') ∧ B s') ∨ ∃ r, f (j : Int) s = some (.ret r) ∧ R r) →
    (∃ s', cw f (bm (i : Int) ((i + k : Nat) : Int)) s = some (.done s') ∧ (P (i + k) s' ∨ B s')) ∨ ∃ r, cw f (bm (i : Int) ((i + k : Nat) : Int)) s = some (.ret r) ∧ R r
  | 0, i, s, h, _ => .inl ⟨s, by rw [show i + 0 = i from rfl, jg]; rfl, .inl h⟩
  | k + 1, i, s, h, hs => by
    rw [jf]
    simp only [cw]
    rcases hs i s (Nat.le_refl _) (by omega) h with ⟨s1, e1, h1⟩ | ⟨s1, e1, h1⟩ | ⟨r, e1, h1⟩
    · rw [e1]
      simp only [Option.bind_some]
      rw [show i + (k + 1) = i + 1 + k by omega]
      exact mc f P B R k (i + 1) s1 h1 fun j s hj hk => hs j s (by omega) (by omega)
    · rw [e1]; exact .inl ⟨s1, rfl, .inr h1⟩
    · rw [e1]; exact .inr ⟨r, rfl, h1⟩
end Go.AM
end
section
set_option linter.unusedVariables false
set_option linter.unusedSectionVars false
set_option linter.unusedSimpArgs false
namespace Go.AM
open Go
def fP {α ρ : Type} (step : α → Option ρ) : List α → Option ρ
  | [] => none
  | x :: l => match step x with
    | some r => some r
    | none => fP step l
def ik {ρ : Type} : Option ρ → Ex Unit ρ
  | some r => .ret r
  | none => .done ()
def ji {ρ : Type} : Option ρ → Br Unit ρ
  | some r => .ret r
  | none => .next ()
theorem o9 {α ρ : Type} (f : Int → Unit → Option (Br Unit ρ)) (step : α → Option ρ) : ∀ (l : List α) (a : Nat), (∀ (j : Nat) x, l[j]? = some x → f ((a + j : Nat) : Int) () = some (ji (step x))) →
    cw f (bm (a : Int) ((a + l.length : Nat) : Int)) () = some (ik (fP step l))
  | [], a, _ => by rw [show a + ([] : List α).length = a from rfl, jg]; rfl
  | x :: l, a, h => by
    rw [show a + (x :: l).length = a + (l.length + 1) by simp, jf]
    simp only [cw]
    have h0 := h 0 x rfl
    rw [Nat.add_zero] at h0
    rw [h0]
    simp only [Option.bind_some, fP]
    cases step x with
    | some r => rfl
    | none =>
      show cw f _ () = _
      rw [show a + (l.length + 1) = a + 1 + l.length by omega]
      exact o9 f step l (a + 1) fun j y hj => by rw [show a + 1 + j = a + (j + 1) by omega]; exact h (j + 1) y (by simpa using hj)
theorem md {α ρ : Type} (f : Int → Unit → Option (Br Unit ρ)) (step : α → Option ρ) (l : List α) (h : ∀ (j : Nat) x, l[j]? = some x → f (j : Int) () = some (ji (step x))) :
    cw f (bm 0 (l.length : Int)) () = some (ik (fP step l)) := by
  have := o9 f step l 0 (fun j x hj => by rw [Nat.zero_add]; exact h j x hj)
  simpa using this
end Go.AM
end
section
set_option linter.unusedVariables false
set_option linter.unusedSimpArgs false
namespace Go.AM
open Go
def dW (acc : List Int) (x : Int) : List Int := if acc.getLast? = some x then acc else acc ++ [x]
def fp (l : List Int) : List Int := l.foldl dW []
def il (l : List Int) : List Int := fp (cn l)
theorem sg (acc : List Int) (x : Int) : (dW acc x).getLast? = some x := by
  unfold dW; split
  · assumption
  · simp
theorem mf : ∀ (l acc : List Int), acc.Pairwise (· < ·) → (∀ a ∈ acc, ∀ y ∈ l, a ≤ y) → l.Pairwise (· ≤ ·) → (l.foldl dW acc).Pairwise (· < ·) ∧ ∀ x, x ∈ l.foldl dW acc ↔ x ∈ acc ∨ x ∈ l
  | [], acc, h, _, _ => ⟨h, fun x => by simp⟩
  | y :: l, acc, h, hy, ho => by
    obtain ⟨o1, o2⟩ := List.pairwise_cons.1 ho
    rw [List.foldl_cons]
    have key : (dW acc y).Pairwise (· < ·) ∧ ∀ x, x ∈ dW acc y ↔ x ∈ acc ∨ x = y := by
      unfold dW
      split
      · rename_i hl
        refine ⟨h, fun x => ⟨.inl, fun hx => hx.elim id fun e => ?_⟩⟩
        subst e; exact List.mem_of_getLast? hl
      · rename_i hl
        refine ⟨?_, fun x => by simp⟩
        rw [List.pairwise_append]
        refine ⟨h, List.pairwise_singleton _ _, fun a ha b hb => ?_⟩
        rw [List.mem_singleton] at hb
        subst hb
        have h1 := hy a ha b (List.mem_cons_self ..)
        by_cases h0 : a = b
        · exfalso
          subst h0
          obtain ⟨z, hz⟩ : ∃ z, acc.getLast? = some z := by
            cases acc with
            | nil => cases ha
            | cons c t => exact ⟨_, List.getLast?_cons⟩
          obtain ⟨pre, rfl⟩ := List.getLast?_eq_some_iff.1 hz
          have hzb := hy z (by simp) a (List.mem_cons_self ..)
          rcases List.mem_append.1 ha with ha' | ha'
          · have := (List.pairwise_append.1 h).2.2 a ha' z (by simp)
            omega
          · rw [List.mem_singleton] at ha'
            subst ha'
            exact hl hz
        · omega
    obtain ⟨k1, k2⟩ := key
    obtain ⟨r1, r2⟩ := mf l (dW acc y) k1 (fun a ha z hz => by
      rcases (k2 a).1 ha with ha | rfl
      · exact hy a ha z (List.mem_cons_of_mem _ hz)
      · exact o1 z hz) o2
    refine ⟨r1, fun x => ?_⟩
    rw [r2, k2]
    simp only [List.mem_cons]
    constructor
    · rintro ((h | h) | h)
      · exact .inl h
      · exact .inr (.inl h)
      · exact .inr (.inr h)
    · rintro (h | h | h)
      · exact .inl (.inl h)
      · exact .inl (.inr h)
      · exact .inr h
theorem sh (l : List Int) : (il l).Pairwise (· < ·) := (mf _ [] List.Pairwise.nil (fun a h => by cases h) (jN l)).1
theorem pa (l : List Int) (x : Int) : x ∈ il l ↔ x ∈ l := by
  unfold il fp
  rw [(mf _ [] List.Pairwise.nil (fun a h => by cases h) (jN l)).2]
  simp [(gg l).mem_iff]
theorem mg {l : List Int} {j : Nat} {x : Int} (h : l[j]? = some x) : fp (l.take (j + 1)) = dW (fp (l.take j)) x := by
  unfold fp
  rw [List.take_add_one, h]
  simp [List.foldl_append]
theorem pb {l : List Int} {j : Nat} {x : Int} (h : l[j]? = some x) : (fp (l.take (j + 1))).getLast? = some x := by
  rw [mg h]; exact sg _ _
theorem fQ {n : Int} (h0 : 0 ≤ n) (h : n ≤ 10000000) : IntKind.i64.wrap n = n := by
  simp [IntKind.wrap, IntKind.bits, IntKind.signed]; omega
structure mh (a0 : List Int) (i2 j : Nat) (s : List Int × Int) : Prop where
  len : s.1.length = a0.length
  c : ∃ c : Nat, s.2 = c ∧ c + 1 ≤ i2 + j ∧ s.1.take c = fp (a0.take (i2 + j)) ∧ ∀ t, c ≤ t → s.1[t]? = a0[t]?
theorem si {a0 : List Int} {i2 : Nat} (hb : a0.length ≤ 1000000) (h2 : i2 + 1 ≤ a0.length) (hi : mh a0 i2 1 (a0, (i2 : Int))) :
    ∃ s, bS (ju a0 i2) (bm 1 ((a0.length - i2 : Nat) : Int)) (a0, (i2 : Int)) = some s ∧ mh a0 i2 (a0.length - i2) s := by
  have := jh (ju a0 i2) (mh a0 i2) (a0.length - i2 - 1) 1 (a0, (i2 : Int)) hi (fun j s hj1 hj2 ⟨hl, c, hc, hcj, htk, hun⟩ => by
    obtain ⟨l12, i13⟩ := s
    simp only at hl hc htk hun
    subst hc
    have hjl : i2 + j < a0.length := by omega
    have hx : a0[i2 + j]? = some a0[i2 + j] := bo hjl
    have hy : a0[i2 + (j - 1)]? = some (a0[i2 + (j - 1)]'(by omega)) := bo (by omega)
    have lx : l12[i2 + j]? = some a0[i2 + j] := by rw [hun _ (by omega), hx]
    have ly : l12[i2 + (j - 1)]? = some (a0[i2 + (j - 1)]'(by omega)) := by rw [hun _ (by omega), hy]
    generalize a0[i2 + j] = x at hx lx
    generalize a0[i2 + (j - 1)]'(by omega) = y at hy ly
    have w1 : IntKind.i64.wrap ((j : Int) - 1) = ((j - 1 : Nat) : Int) := by rw [fQ (by omega) (by omega)]; omega
    have g1 : aQ l12 ((i2 : Int) + (j : Int)) = some x := by rw [show ((i2 : Int) + (j : Int)) = ((i2 + j : Nat) : Int) by omega, cm, lx]
    have g2 : aQ l12 ((i2 : Int) + ((j - 1 : Nat) : Int)) = some y := by rw [show ((i2 : Int) + ((j - 1 : Nat) : Int)) = ((i2 + (j - 1) : Nat) : Int) by omega, cm, ly]
    have v1 : fu l12 i2 (a0.length : Int) j = some x := by unfold fu; rw [if_pos (by omega), g1]
    have v2 : fu l12 i2 (a0.length : Int) ((j - 1 : Nat) : Int) = some y := by unfold fu; rw [if_pos (by omega), g2]
    have hlast := pb hy
    rw [show i2 + (j - 1) + 1 = i2 + j by omega] at hlast
    have hnew := mg hx
    simp only [ju, w1, v1, v2, g1, g2, Option.bind_some]
    by_cases e : x = y
    · subst e
      simp only [bne_self_eq_false, Bool.false_eq_true, if_false, Option.bind_some]
      refine ⟨_, rfl, hl, c, rfl, by omega, ?_, hun⟩
      simp only
      rw [← Nat.add_assoc, hnew]
      unfold dW
      rw [if_pos hlast]; exact htk
    · have e' : (x != y) = true := by simpa using e
      rw [e']
      have hcl : c < l12.length := by omega
      have gc : aQ l12 (c : Int) = some l12[c] := by rw [cm]; exact bo hcl
      have gp : b4 l12 (c : Int) x = some (l12.set c x) := by
        unfold b4; rw [if_pos (by omega), if_pos (by omega)]; simp
      simp only [if_true, gc, gp, Option.bind_some]
      refine ⟨_, rfl, by simp [hl], c + 1, ?_, by omega, ?_, fun t ht => ?_⟩
      · simp only; rw [fQ (by omega) (by omega)]; omega
      · simp only
        rw [← Nat.add_assoc, hnew]
        unfold dW
        rw [if_neg (by rw [hlast]; intro h; exact e (aB h).symm)]
        rw [List.take_add_one, List.getElem?_set_self hcl, List.take_set_of_le (Nat.le_refl c), htk]; rfl
      · simp only
        rw [List.getElem?_set_ne (by omega)]
        exact hun t (by omega))
  obtain ⟨s, e, h⟩ := this
  rw [show 1 + (a0.length - i2 - 1) = a0.length - i2 by omega] at e h
  exact ⟨s, e, h⟩
theorem sj {a0 : List Int} (hb : a0.length ≤ 1000000) : iC a0 = some (fp a0) := by
  unfold iC
  by_cases hs : a0.length < 2
  · rw [decide_eq_true (by omega), if_pos rfl]
    match a0, hs with
    | [], _ => rfl
    | [x], _ => rfl
  · rw [decide_eq_false (by omega), if_neg (by simp)]
    have := mc (iB a0) (fun i _ => fp (a0.take i) = a0.take i) (fun _ => False) (fun r => r = fp a0) (a0.length - 1) 1 () (by
      match a0, hs with
      | x :: l, _ => rfl) (fun i s hi1 hi2 hP => by
      have hx : a0[i]? = some (a0[i]'(by omega)) := bo (by omega)
      have hy : a0[i - 1]? = some (a0[i - 1]'(by omega)) := bo (by omega)
      generalize (a0[i]'(by omega)) = x at hx
      generalize (a0[i - 1]'(by omega)) = y at hy
      have w1 : IntKind.i64.wrap ((i : Int) - 1) = ((i - 1 : Nat) : Int) := by rw [fQ (by omega) (by omega)]; omega
      have hlast := pb hy
      rw [show i - 1 + 1 = i by omega] at hlast
      have hnew := mg hx
      simp only [iB, w1, cm, hx, hy, Option.bind_some]
      by_cases e : x = y
      · subst e
        have hc : cN a0 (i : Int) (a0.length : Int) = some (a0.drop i) := by
          unfold cN; rw [if_pos (by omega)]
          congr 1
          rw [List.take_of_length_le (by simp)]; simp
        have hlen : (((a0.drop i).length : Nat) : Int) = ((a0.length - i : Nat) : Int) := by simp
        simp only [beq_self_eq_true, if_true, hc, Option.bind_some, hlen]
        obtain ⟨⟨z, k⟩, e1, hl, c, hc2, hcj, htk, _⟩ := si (i2 := i) hb (by omega) ⟨rfl, i, rfl, Nat.le_refl _, by
          simp only
          rw [hnew]; unfold dW; rw [if_pos hlast, hP], fun t _ => rfl⟩
        simp only at hl hc2 htk
        subst hc2
        rw [e1]
        have hcut : cN z (c : Int) (z.length : Int) = some (z.drop c) := by
          unfold cN; rw [if_pos (by omega)]
          congr 1
          rw [List.take_of_length_le (by simp)]; simp
        simp only [Option.bind_some, hcut]
        refine .inr (.inr ⟨_, rfl, ?_⟩)
        rw [show i + (a0.length - i) = a0.length by omega, List.take_length] at htk
        simpa using htk
      · have e' : (x == y) = false := by simpa using e
        rw [e']
        simp only [Bool.false_eq_true, if_false]
        refine .inl ⟨(), trivial, ?_⟩
        rw [hnew, hP]
        unfold dW
        rw [hP] at hlast
        rw [if_neg (by rw [hlast]; intro h; exact e (aB h).symm), List.take_add_one, hx]; rfl)
    rw [show 1 + (a0.length - 1) = a0.length by omega] at this
    rcases this with ⟨s', e, h | h⟩ | ⟨r, e, h⟩
    · have e : cw (iB a0) (bm 1 (a0.length : Int)) () = some (.done s') := e
      rw [e]
      simp only [Option.bind_some]
      rw [List.take_length] at h
      rw [h]
    · exact h.elim
    · have e : cw (iB a0) (bm 1 (a0.length : Int)) () = some (.ret r) := e
      rw [e]
      simp only [Option.bind_some]
      rw [h]
theorem sk {l : List Int} (hb : l.length ≤ 1000000) : iC (cn l) = some (il l) := sj (by rw [(gg l).length_eq]; exact hb)
theorem jk {σ : Type} {f : σ → Option (σ ⊕ σ)} (P Q : σ → Prop) (m : σ → Nat) (hs : ∀ s, P s → (∃ s', f s = some (.inl s') ∧ P s' ∧ m s' < m s) ∨ ∃ s', f s = some (.inr s') ∧ Q s') : ∀ (k : Nat) (s : σ), P s → m s < k → ∃ r, ew f k s = some r ∧ Q r
  | 0, s, _, h => by omega
  | k + 1, s, hp, h => by
    simp only [ew]
    rcases hs s hp with ⟨s', e, p', hm⟩ | ⟨s', e, q⟩
    · rw [e]
      exact jk P Q m hs k s' p' (by omega)
    · rw [e]
      exact ⟨s', rfl, q⟩
theorem dX {σ : Type} (f : Int → σ → Option σ) (P : Nat → σ → Prop) (n : Nat) (s : σ) (h0 : P 0 s) (hs : ∀ j s, j < n → P j s → ∃ s', f (j : Int) s = some s' ∧ P (j + 1) s') : ∃ s', bS f (bm 0 (n : Int)) s = some s' ∧ P n s' := by
  have := jh f P n 0 s h0 (fun j s _ hj => hs j s (by omega))
  simpa using this
theorem pc {σ : Type} (f : Int → σ → Option (σ ⊕ σ)) (P : Nat → σ → Prop) (B : σ → Prop) : ∀ (k i : Nat) (s : σ), P i s → (∀ j s, i ≤ j → j < i + k → P j s → (∃ s', f (j : Int) s = some (.inl s') ∧ P (j + 1) s') ∨ ∃ s', f (j : Int) s = some (.inr s') ∧ B s') →
    ∃ s', f6 f (bm (i : Int) ((i + k : Nat) : Int)) s = some s' ∧ (P (i + k) s' ∨ B s')
  | 0, i, s, h, _ => ⟨s, by rw [show i + 0 = i from rfl, jg]; rfl, .inl h⟩
  | k + 1, i, s, h, hs => by
    rw [jf]
    simp only [f6]
    rcases hs i s (Nat.le_refl _) (by omega) h with ⟨s1, e1, h1⟩ | ⟨s1, e1, h1⟩
    · rw [e1]
      simp only [Option.bind_some]
      rw [show i + (k + 1) = i + 1 + k by omega]
      exact pc f P B k (i + 1) s1 h1 fun j s hj hk => hs j s (by omega) (by omega)
    · rw [e1]; exact ⟨s1, rfl, .inr h1⟩
theorem en {α : Type} {l : List α} {i : Nat} (v : α) (h : i < l.length) : b4 l (i : Int) v = some (l.set i v) := by
  unfold b4; rw [if_pos (by omega), if_pos (by simpa using h)]; simp
end Go.AM
end
