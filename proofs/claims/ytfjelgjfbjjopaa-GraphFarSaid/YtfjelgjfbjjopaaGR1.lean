import Derived.Test.YtfjelgjfbjjopaaAmN6
import Derived.Test.YtfjelgjfbjjopaaAmCore
/-  Several texts in one. -/
section
set_option linter.unusedVariables false
set_option linter.unusedSectionVars false
set_option linter.unusedSimpArgs false
namespace Go.AM
open Go
theorem w_u8 (n : Int) : IntKind.u8.wrap n = n % 256 := rq n
theorem oL (i k : Nat) : be (i : Int) ((i + k : Nat) : Int) = (List.range k).map fun (j : Nat) => ((i + j : Nat) : Int) := by
  simp only [be]
  rw [show (((i + k : Nat) : Int) - (i : Int)).toNat = k by omega]
  refine List.map_congr_left fun j _ => ?_
  push_cast; rfl
theorem iX (i k : Nat) : be (i : Int) ((i + (k + 1) : Nat) : Int) = (i : Int) :: be ((i + 1 : Nat) : Int) ((i + (k + 1) : Nat) : Int) := by
  rw [oL, show i + (k + 1) = (i + 1) + k by omega, oL, List.range_succ_eq_map]
  simp only [List.map_cons, List.map_map, Nat.add_zero]
  congr 1
  refine List.map_congr_left fun j _ => ?_
  simp only [Function.comp_apply, Nat.succ_eq_add_one]
  push_cast; omega
theorem iY (i : Nat) : be (i : Int) (i : Int) = [] := by simp [be]
theorem iZ {α : Type} {xs ys : List α} (h : xs.length + ys.length ≤ 4294967296) : c8 xs ys = some (xs ++ ys) := by unfold c8; rw [if_pos h]
theorem b8 {α : Type} (l : List α) (i : Nat) : aQ l (i : Int) = l[i]? := by
  unfold aQ; rw [if_pos (by omega), Int.toNat_natCast]
theorem lQ (k : Nat) (h : k ≤ 1000000) : ∃ m, eb = m + k := ⟨eb - k, by unfold eb; omega⟩
theorem j3 {σ : Type} (f : Int → σ → Option σ) (P : Nat → σ → Prop) : ∀ (k i : Nat) (s : σ), P i s → (∀ j s, i ≤ j → j < i + k → P j s → ∃ s', f (j : Int) s = some s' ∧ P (j + 1) s') →
    ∃ s', cm f (be (i : Int) ((i + k : Nat) : Int)) s = some s' ∧ P (i + k) s'
  | 0, i, s, h, _ => ⟨s, by rw [show i + 0 = i from rfl, iY]; rfl, h⟩
  | k + 1, i, s, h, hs => by
    obtain ⟨s1, e1, h1⟩ := hs i s (Nat.le_refl _) (by omega) h
    obtain ⟨s2, e2, h2⟩ := j3 f P k (i + 1) s1 h1 fun j s hj hk => hs j s (by omega) (by omega)
    refine ⟨s2, ?_, by rwa [show i + (k + 1) = i + 1 + k by omega]⟩
    rw [iX]
    simp only [cm]
    rw [e1]
    simp only [Option.bind_some]
    rw [show i + (k + 1) = i + 1 + k by omega]
    exact e2
theorem oM {α σ : Type} (f : Int → σ → Option σ) (l : List α) (P : List α → σ → Prop) (s : σ) (h0 : P [] s) (hs : ∀ i x s, l[i]? = some x → P (l.take i) s → ∃ s', f (i : Int) s = some s' ∧ P (l.take i ++ [x]) s') :
    ∃ s', cm f (be 0 (l.length : Int)) s = some s' ∧ P l s' := by
  have := j3 f (fun i s => P (l.take i) s) l.length 0 s (by simpa using h0) (fun j s _ hj h => by
    have hj' : j < l.length := by omega
    obtain ⟨s', e, h'⟩ := hs j l[j] s (bf hj') h
    exact ⟨s', e, by rwa [List.take_add_one, bf hj']⟩)
  obtain ⟨s', e, h'⟩ := this
  refine ⟨s', by simpa using e, by simpa using h'⟩
theorem lR {σ ρ : Type} (f : Int → σ → Option (Br σ ρ)) (P : Nat → σ → Prop) (B : σ → Prop) (R : ρ → Prop) : ∀ (k i : Nat) (s : σ), P i s → (∀ j s, i ≤ j → j < i + k → P j s → (∃ s', f (j : Int) s = some (.next s') ∧ P (j + 1) s') ∨ (∃ s', f (j : Int) s = some (.brk s') ∧ B s') ∨ ∃ r, f (j : Int) s = some (.ret r) ∧ R r) →
    (∃ s', cd f (be (i : Int) ((i + k : Nat) : Int)) s = some (.done s') ∧ (P (i + k) s' ∨ B s')) ∨ ∃ r, cd f (be (i : Int) ((i + k : Nat) : Int)) s = some (.ret r) ∧ R r
  | 0, i, s, h, _ => .inl ⟨s, by rw [show i + 0 = i from rfl, iY]; rfl, .inl h⟩
  | k + 1, i, s, h, hs => by
    rw [iX]
    simp only [cd]
    rcases hs i s (Nat.le_refl _) (by omega) h with ⟨s1, e1, h1⟩ | ⟨s1, e1, h1⟩ | ⟨r, e1, h1⟩
    · rw [e1]
      simp only [Option.bind_some]
      rw [show i + (k + 1) = i + 1 + k by omega]
      exact lR f P B R k (i + 1) s1 h1 fun j s hj hk => hs j s (by omega) (by omega)
    · rw [e1]; exact .inl ⟨s1, rfl, .inr h1⟩
    · rw [e1]; exact .inr ⟨r, rfl, h1⟩
end Go.AM
end
section
set_option linter.unusedVariables false
set_option linter.unusedSectionVars false
set_option linter.unusedSimpArgs false
namespace Go.AM
open Go
def hO {α ρ : Type} (step : α → Option ρ) : List α → Option ρ
  | [] => none
  | x :: l => match step x with
    | some r => some r
    | none => hO step l
def hU {ρ : Type} : Option ρ → Ex Unit ρ
  | some r => .ret r
  | none => .done ()
def j4 {ρ : Type} : Option ρ → Br Unit ρ
  | some r => .ret r
  | none => .next ()
theorem oN {α ρ : Type} (f : Int → Unit → Option (Br Unit ρ)) (step : α → Option ρ) : ∀ (l : List α) (a : Nat), (∀ (j : Nat) x, l[j]? = some x → f ((a + j : Nat) : Int) () = some (j4 (step x))) →
    cd f (be (a : Int) ((a + l.length : Nat) : Int)) () = some (hU (hO step l))
  | [], a, _ => by rw [show a + ([] : List α).length = a from rfl, iY]; rfl
  | x :: l, a, h => by
    rw [show a + (x :: l).length = a + (l.length + 1) by simp, iX]
    simp only [cd]
    have h0 := h 0 x rfl
    rw [Nat.add_zero] at h0
    rw [h0]
    simp only [Option.bind_some, hO]
    cases step x with
    | some r => rfl
    | none =>
      show cd f _ () = _
      rw [show a + (l.length + 1) = a + 1 + l.length by omega]
      exact oN f step l (a + 1) fun j y hj => by rw [show a + 1 + j = a + (j + 1) by omega]; exact h (j + 1) y (by simpa using hj)
theorem oO {α ρ : Type} (f : Int → Unit → Option (Br Unit ρ)) (step : α → Option ρ) (l : List α) (h : ∀ (j : Nat) x, l[j]? = some x → f (j : Int) () = some (j4 (step x))) :
    cd f (be 0 (l.length : Int)) () = some (hU (hO step l)) := by
  have := oN f step l 0 (fun j x hj => by rw [Nat.zero_add]; exact h j x hj)
  simpa using this
end Go.AM
end
section
set_option linter.unusedVariables false
set_option linter.unusedSimpArgs false
namespace Go.AM
open Go
def dP (acc : List Int) (x : Int) : List Int := if acc.getLast? = some x then acc else acc ++ [x]
def fg (l : List Int) : List Int := l.foldl dP []
def hX (l : List Int) : List Int := fg (b6 l)
theorem rT (acc : List Int) (x : Int) : (dP acc x).getLast? = some x := by
  unfold dP; split
  · assumption
  · simp
theorem lS : ∀ (l acc : List Int), acc.Pairwise (· < ·) → (∀ a ∈ acc, ∀ y ∈ l, a ≤ y) → l.Pairwise (· ≤ ·) → (l.foldl dP acc).Pairwise (· < ·) ∧ ∀ x, x ∈ l.foldl dP acc ↔ x ∈ acc ∨ x ∈ l
  | [], acc, h, _, _ => ⟨h, fun x => by simp⟩
  | y :: l, acc, h, hy, ho => by
    obtain ⟨o1, o2⟩ := List.pairwise_cons.1 ho
    rw [List.foldl_cons]
    have key : (dP acc y).Pairwise (· < ·) ∧ ∀ x, x ∈ dP acc y ↔ x ∈ acc ∨ x = y := by
      unfold dP
      split
      · rename_i hl
        refine ⟨h, fun x => ⟨.inl, fun hx => hx.elim id fun e => ?_⟩⟩
        subst e; exact List.mem_of_getLast? hl
      · rename_i hl
        refine ⟨?_, fun x => by simp⟩
        rw [List.pairwise_append]
        refine ⟨h, List.pairwise_singleton _ _, fun a ha b hb => ?_⟩
        rw [List.mem_singleton] at hb
        subst hb
        have h1 := hy a ha b (List.mem_cons_self ..)
        by_cases h0 : a = b
        · exfalso
          subst h0
          obtain ⟨z, hz⟩ : ∃ z, acc.getLast? = some z := by
            cases acc with
            | nil => cases ha
            | cons c t => exact ⟨_, List.getLast?_cons⟩
          obtain ⟨pre, rfl⟩ := List.getLast?_eq_some_iff.1 hz
          have hzb := hy z (by simp) a (List.mem_cons_self ..)
          rcases List.mem_append.1 ha with ha' | ha'
          · have := (List.pairwise_append.1 h).2.2 a ha' z (by simp)
            omega
          · rw [List.mem_singleton] at ha'
            subst ha'
            exact hl hz
        · omega
    obtain ⟨k1, k2⟩ := key
    obtain ⟨r1, r2⟩ := lS l (dP acc y) k1 (fun a ha z hz => by
      rcases (k2 a).1 ha with ha | rfl
      · exact hy a ha z (List.mem_cons_of_mem _ hz)
      · exact o1 z hz) o2
    refine ⟨r1, fun x => ?_⟩
    rw [r2, k2]
    simp only [List.mem_cons]
    constructor
    · rintro ((h | h) | h)
      · exact .inl h
      · exact .inr (.inl h)
      · exact .inr (.inr h)
    · rintro (h | h | h)
      · exact .inl (.inl h)
      · exact .inl (.inr h)
      · exact .inr h
theorem rU (l : List Int) : (hX l).Pairwise (· < ·) := (lS _ [] List.Pairwise.nil (fun a h => by cases h) (jz l)).1
theorem oP (l : List Int) (x : Int) : x ∈ hX l ↔ x ∈ l := by
  unfold hX fg
  rw [(lS _ [] List.Pairwise.nil (fun a h => by cases h) (jz l)).2]
  simp [(f5 l).mem_iff]
theorem lT {l : List Int} {j : Nat} {x : Int} (h : l[j]? = some x) : fg (l.take (j + 1)) = dP (fg (l.take j)) x := by
  unfold fg
  rw [List.take_add_one, h]
  simp [List.foldl_append]
theorem oQ {l : List Int} {j : Nat} {x : Int} (h : l[j]? = some x) : (fg (l.take (j + 1))).getLast? = some x := by
  rw [lT h]; exact rT _ _
theorem eH {n : Int} (h0 : 0 ≤ n) (h : n ≤ 10000000) : IntKind.i64.wrap n = n := by
  simp [IntKind.wrap, IntKind.bits, IntKind.signed]; omega
structure lU (a0 : List Int) (i2 j : Nat) (s : List Int × Int) : Prop where
  len : s.1.length = a0.length
  c : ∃ c : Nat, s.2 = c ∧ c + 1 ≤ i2 + j ∧ s.1.take c = fg (a0.take (i2 + j)) ∧ ∀ t, c ≤ t → s.1[t]? = a0[t]?
theorem rV {a0 : List Int} {i2 : Nat} (hb : a0.length ≤ 1000000) (h2 : i2 + 1 ≤ a0.length) (hi : lU a0 i2 1 (a0, (i2 : Int))) :
    ∃ s, cm (jk a0 i2) (be 1 ((a0.length - i2 : Nat) : Int)) (a0, (i2 : Int)) = some s ∧ lU a0 i2 (a0.length - i2) s := by
  have := j3 (jk a0 i2) (lU a0 i2) (a0.length - i2 - 1) 1 (a0, (i2 : Int)) hi (fun j s hj1 hj2 ⟨hl, c, hc, hcj, htk, hun⟩ => by
    obtain ⟨l12, i13⟩ := s
    simp only at hl hc htk hun
    subst hc
    have hjl : i2 + j < a0.length := by omega
    have hx : a0[i2 + j]? = some a0[i2 + j] := bf hjl
    have hy : a0[i2 + (j - 1)]? = some (a0[i2 + (j - 1)]'(by omega)) := bf (by omega)
    have lx : l12[i2 + j]? = some a0[i2 + j] := by rw [hun _ (by omega), hx]
    have ly : l12[i2 + (j - 1)]? = some (a0[i2 + (j - 1)]'(by omega)) := by rw [hun _ (by omega), hy]
    generalize a0[i2 + j] = x at hx lx
    generalize a0[i2 + (j - 1)]'(by omega) = y at hy ly
    have w1 : IntKind.i64.wrap ((j : Int) - 1) = ((j - 1 : Nat) : Int) := by rw [eH (by omega) (by omega)]; omega
    have g1 : aQ l12 ((i2 : Int) + (j : Int)) = some x := by rw [show ((i2 : Int) + (j : Int)) = ((i2 + j : Nat) : Int) by omega, b8, lx]
    have g2 : aQ l12 ((i2 : Int) + ((j - 1 : Nat) : Int)) = some y := by rw [show ((i2 : Int) + ((j - 1 : Nat) : Int)) = ((i2 + (j - 1) : Nat) : Int) by omega, b8, ly]
    have v1 : fj l12 i2 (a0.length : Int) j = some x := by unfold fj; rw [if_pos (by omega), g1]
    have v2 : fj l12 i2 (a0.length : Int) ((j - 1 : Nat) : Int) = some y := by unfold fj; rw [if_pos (by omega), g2]
    have hlast := oQ hy
    rw [show i2 + (j - 1) + 1 = i2 + j by omega] at hlast
    have hnew := lT hx
    simp only [jk, w1, v1, v2, g1, g2, Option.bind_some]
    by_cases e : x = y
    · subst e
      simp only [bne_self_eq_false, Bool.false_eq_true, if_false, Option.bind_some]
      refine ⟨_, rfl, hl, c, rfl, by omega, ?_, hun⟩
      simp only
      rw [← Nat.add_assoc, hnew]
      unfold dP
      rw [if_pos hlast]; exact htk
    · have e' : (x != y) = true := by simpa using e
      rw [e']
      have hcl : c < l12.length := by omega
      have gc : aQ l12 (c : Int) = some l12[c] := by rw [b8]; exact bf hcl
      have gp : bY l12 (c : Int) x = some (l12.set c x) := by
        unfold bY; rw [if_pos (by omega), if_pos (by omega)]; simp
      simp only [if_true, gc, gp, Option.bind_some]
      refine ⟨_, rfl, by simp [hl], c + 1, ?_, by omega, ?_, fun t ht => ?_⟩
      · simp only; rw [eH (by omega) (by omega)]; omega
      · simp only
        rw [← Nat.add_assoc, hnew]
        unfold dP
        rw [if_neg (by rw [hlast]; intro h; exact e (aE h).symm)]
        rw [List.take_add_one, List.getElem?_set_self hcl, List.take_set_of_le (Nat.le_refl c), htk]; rfl
      · simp only
        rw [List.getElem?_set_ne (by omega)]
        exact hun t (by omega))
  obtain ⟨s, e, h⟩ := this
  rw [show 1 + (a0.length - i2 - 1) = a0.length - i2 by omega] at e h
  exact ⟨s, e, h⟩
theorem rW {a0 : List Int} (hb : a0.length ≤ 1000000) : iv a0 = some (fg a0) := by
  unfold iv
  by_cases hs : a0.length < 2
  · rw [decide_eq_true (by omega), if_pos rfl]
    match a0, hs with
    | [], _ => rfl
    | [x], _ => rfl
  · rw [decide_eq_false (by omega), if_neg (by simp)]
    have := lR (iu a0) (fun i _ => fg (a0.take i) = a0.take i) (fun _ => False) (fun r => r = fg a0) (a0.length - 1) 1 () (by
      match a0, hs with
      | x :: l, _ => rfl) (fun i s hi1 hi2 hP => by
      have hx : a0[i]? = some (a0[i]'(by omega)) := bf (by omega)
      have hy : a0[i - 1]? = some (a0[i - 1]'(by omega)) := bf (by omega)
      generalize (a0[i]'(by omega)) = x at hx
      generalize (a0[i - 1]'(by omega)) = y at hy
      have w1 : IntKind.i64.wrap ((i : Int) - 1) = ((i - 1 : Nat) : Int) := by rw [eH (by omega) (by omega)]; omega
      have hlast := oQ hy
      rw [show i - 1 + 1 = i by omega] at hlast
      have hnew := lT hx
      simp only [iu, w1, b8, hx, hy, Option.bind_some]
      by_cases e : x = y
      · subst e
        have hc : cL a0 (i : Int) (a0.length : Int) = some (a0.drop i) := by
          unfold cL; rw [if_pos (by omega)]
          congr 1
          rw [List.take_of_length_le (by simp)]; simp
        have hlen : (((a0.drop i).length : Nat) : Int) = ((a0.length - i : Nat) : Int) := by simp
        simp only [beq_self_eq_true, if_true, hc, Option.bind_some, hlen]
        obtain ⟨⟨z, k⟩, e1, hl, c, hc2, hcj, htk, _⟩ := rV (i2 := i) hb (by omega) ⟨rfl, i, rfl, Nat.le_refl _, by
          simp only
          rw [hnew]; unfold dP; rw [if_pos hlast, hP], fun t _ => rfl⟩
        simp only at hl hc2 htk
        subst hc2
        rw [e1]
        have hcut : cL z (c : Int) (z.length : Int) = some (z.drop c) := by
          unfold cL; rw [if_pos (by omega)]
          congr 1
          rw [List.take_of_length_le (by simp)]; simp
        simp only [Option.bind_some, hcut]
        refine .inr (.inr ⟨_, rfl, ?_⟩)
        rw [show i + (a0.length - i) = a0.length by omega, List.take_length] at htk
        simpa using htk
      · have e' : (x == y) = false := by simpa using e
        rw [e']
        simp only [Bool.false_eq_true, if_false]
        refine .inl ⟨(), trivial, ?_⟩
        rw [hnew, hP]
        unfold dP
        rw [hP] at hlast
        rw [if_neg (by rw [hlast]; intro h; exact e (aE h).symm), List.take_add_one, hx]; rfl)
    rw [show 1 + (a0.length - 1) = a0.length by omega] at this
    rcases this with ⟨s', e, h | h⟩ | ⟨r, e, h⟩
    · have e : cd (iu a0) (be 1 (a0.length : Int)) () = some (.done s') := e
      rw [e]
      simp only [Option.bind_some]
      rw [List.take_length] at h
      rw [h]
    · exact h.elim
    · have e : cd (iu a0) (be 1 (a0.length : Int)) () = some (.ret r) := e
      rw [e]
      simp only [Option.bind_some]
      rw [h]
theorem rX {l : List Int} (hb : l.length ≤ 1000000) : iv (b6 l) = some (hX l) := rW (by rw [(f5 l).length_eq]; exact hb)
theorem j5 {σ : Type} {f : σ → Option (σ ⊕ σ)} (P Q : σ → Prop) (m : σ → Nat) (hs : ∀ s, P s → (∃ s', f s = some (.inl s') ∧ P s' ∧ m s' < m s) ∨ ∃ s', f s = some (.inr s') ∧ Q s') : ∀ (k : Nat) (s : σ), P s → m s < k → ∃ r, eX f k s = some r ∧ Q r
  | 0, s, _, h => by omega
  | k + 1, s, hp, h => by
    simp only [eX]
    rcases hs s hp with ⟨s', e, p', hm⟩ | ⟨s', e, q⟩
    · rw [e]
      exact j5 P Q m hs k s' p' (by omega)
    · rw [e]
      exact ⟨s', rfl, q⟩
theorem fy {σ : Type} (f : Int → σ → Option σ) (P : Nat → σ → Prop) (n : Nat) (s : σ) (h0 : P 0 s) (hs : ∀ j s, j < n → P j s → ∃ s', f (j : Int) s = some s' ∧ P (j + 1) s') : ∃ s', cm f (be 0 (n : Int)) s = some s' ∧ P n s' := by
  have := j3 f P n 0 s h0 (fun j s _ hj => hs j s (by omega))
  simpa using this
theorem oR {σ : Type} (f : Int → σ → Option (σ ⊕ σ)) (P : Nat → σ → Prop) (B : σ → Prop) : ∀ (k i : Nat) (s : σ), P i s → (∀ j s, i ≤ j → j < i + k → P j s → (∃ s', f (j : Int) s = some (.inl s') ∧ P (j + 1) s') ∨ ∃ s', f (j : Int) s = some (.inr s') ∧ B s') →
    ∃ s', ir f (be (i : Int) ((i + k : Nat) : Int)) s = some s' ∧ (P (i + k) s' ∨ B s')
  | 0, i, s, h, _ => ⟨s, by rw [show i + 0 = i from rfl, iY]; rfl, .inl h⟩
  | k + 1, i, s, h, hs => by
    rw [iX]
    simp only [ir]
    rcases hs i s (Nat.le_refl _) (by omega) h with ⟨s1, e1, h1⟩ | ⟨s1, e1, h1⟩
    · rw [e1]
      simp only [Option.bind_some]
      rw [show i + (k + 1) = i + 1 + k by omega]
      exact oR f P B k (i + 1) s1 h1 fun j s hj hk => hs j s (by omega) (by omega)
    · rw [e1]; exact ⟨s1, rfl, .inr h1⟩
theorem eS {α : Type} {l : List α} {i : Nat} (v : α) (h : i < l.length) : bY l (i : Int) v = some (l.set i v) := by
  unfold bY; rw [if_pos (by omega), if_pos (by simpa using h)]; simp
end Go.AM
end
