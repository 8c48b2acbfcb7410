import Derived.Test.YtfjelgjfbjjopaaAmN6
import Derived.Test.YtfjelgjfbjjopaaGR0
/-  Several texts in one. -/
section
set_option linter.unusedVariables false
set_option linter.unusedSectionVars false
set_option linter.unusedSimpArgs false
namespace Go.AM
open Go
theorem oA (i k : Nat) : bx (i : Int) ((i + k : Nat) : Int) = (List.range k).map fun (j : Nat) => ((i + j : Nat) : Int) := by
  simp only [bx]
  rw [show (((i + k : Nat) : Int) - (i : Int)).toNat = k by omega]
  refine List.map_congr_left fun j _ => ?_
  push_cast; rfl
theorem iV (i k : Nat) : bx (i : Int) ((i + (k + 1) : Nat) : Int) = (i : Int) :: bx ((i + 1 : Nat) : Int) ((i + (k + 1) : Nat) : Int) := by
  rw [oA, show i + (k + 1) = (i + 1) + k by omega, oA, List.range_succ_eq_map]
  simp only [List.map_cons, List.map_map, Nat.add_zero]
  congr 1
  refine List.map_congr_left fun j _ => ?_
  simp only [Function.comp_apply, Nat.succ_eq_add_one]
  push_cast; omega
theorem iW (i : Nat) : bx (i : Int) (i : Int) = [] := by simp [bx]
theorem iX {α : Type} {xs ys : List α} (h : xs.length + ys.length ≤ 4294967296) : c8 xs ys = some (xs ++ ys) := by unfold c8; rw [if_pos h]
theorem cm {α : Type} (l : List α) (i : Nat) : aW l (i : Int) = l[i]? := by
  unfold aW; rw [if_pos (by omega), Int.toNat_natCast]
theorem lC (k : Nat) (h : k ≤ 1000000) : ∃ m, ef = m + k := ⟨ef - k, by unfold ef; omega⟩
theorem jT {σ : Type} (f : Int → σ → Option σ) (P : Nat → σ → Prop) : ∀ (k i : Nat) (s : σ), P i s → (∀ j s, i ≤ j → j < i + k → P j s → ∃ s', f (j : Int) s = some s' ∧ P (j + 1) s') →
    ∃ s', cF f (bx (i : Int) ((i + k : Nat) : Int)) s = some s' ∧ P (i + k) s'
  | 0, i, s, h, _ => ⟨s, by rw [show i + 0 = i from rfl, iW]; rfl, h⟩
  | k + 1, i, s, h, hs => by
    obtain ⟨s1, e1, h1⟩ := hs i s (Nat.le_refl _) (by omega) h
    obtain ⟨s2, e2, h2⟩ := jT f P k (i + 1) s1 h1 fun j s hj hk => hs j s (by omega) (by omega)
    refine ⟨s2, ?_, by rwa [show i + (k + 1) = i + 1 + k by omega]⟩
    rw [iV]
    simp only [cF]
    rw [e1]
    simp only [Option.bind_some]
    rw [show i + (k + 1) = i + 1 + k by omega]
    exact e2
theorem rG {α σ : Type} (f : Int → σ → Option σ) (l : List α) (P : List α → σ → Prop) (s : σ) (h0 : P [] s) (hs : ∀ i x s, l[i]? = some x → P (l.take i) s → ∃ s', f (i : Int) s = some s' ∧ P (l.take i ++ [x]) s') :
    ∃ s', cF f (bx 0 (l.length : Int)) s = some s' ∧ P l s' := by
  have := jT f (fun i s => P (l.take i) s) l.length 0 s (by simpa using h0) (fun j s _ hj h => by
    have hj' : j < l.length := by omega
    obtain ⟨s', e, h'⟩ := hs j l[j] s (bw hj') h
    exact ⟨s', e, by rwa [List.take_add_one, bw hj']⟩)
  obtain ⟨s', e, h'⟩ := this
  refine ⟨s', by simpa using e, by simpa using h'⟩
theorem oB {σ ρ : Type} (f : Int → σ → Option (Br σ ρ)) (P : Nat → σ → Prop) (B : σ → Prop) (R : ρ → Prop) : ∀ (k i : Nat) (s : σ), P i s → (∀ j s, i ≤ j → j < i + k → P j s → (∃ s', f (j : Int) s = some (.next s') ∧ P (j + 1) s') ∨ (∃ s', f (j : Int) s = some (.brk s') ∧ B s') ∨ ∃ r, f (j : Int) s = some (.ret r) ∧ R r) →
    (∃ s', cf f (bx (i : Int) ((i + k : Nat) : Int)) s = some (.done s') ∧ (P (i + k) s' ∨ B s')) ∨ ∃ r, cf f (bx (i : Int) ((i + k : Nat) : Int)) s = some (.ret r) ∧ R r
  | 0, i, s, h, _ => .inl ⟨s, by rw [show i + 0 = i from rfl, iW]; rfl, .inl h⟩
  | k + 1, i, s, h, hs => by
    rw [iV]
    simp only [cf]
    rcases hs i s (Nat.le_refl _) (by omega) h with ⟨s1, e1, h1⟩ | ⟨s1, e1, h1⟩ | ⟨r, e1, h1⟩
    · rw [e1]
      simp only [Option.bind_some]
      rw [show i + (k + 1) = i + 1 + k by omega]
      exact oB f P B R k (i + 1) s1 h1 fun j s hj hk => hs j s (by omega) (by omega)
    · rw [e1]; exact .inl ⟨s1, rfl, .inr h1⟩
    · rw [e1]; exact .inr ⟨r, rfl, h1⟩
end Go.AM
end
section
set_option linter.unusedVariables false
set_option linter.unusedSectionVars false
set_option linter.unusedSimpArgs false
namespace Go.AM
open Go
def dE {α ρ : Type} (step : α → Option ρ) : List α → Option ρ
  | [] => none
  | x :: l => match step x with
    | some r => some r
    | none => dE step l
def g8 {ρ : Type} : Option ρ → Ex Unit ρ
  | some r => .ret r
  | none => .done ()
def iY {ρ : Type} : Option ρ → Br Unit ρ
  | some r => .ret r
  | none => .next ()
theorem oC {α ρ : Type} (f : Int → Unit → Option (Br Unit ρ)) (step : α → Option ρ) : ∀ (l : List α) (a : Nat), (∀ (j : Nat) x, l[j]? = some x → f ((a + j : Nat) : Int) () = some (iY (step x))) →
    cf f (bx (a : Int) ((a + l.length : Nat) : Int)) () = some (g8 (dE step l))
  | [], a, _ => by rw [show a + ([] : List α).length = a from rfl, iW]; rfl
  | x :: l, a, h => by
    rw [show a + (x :: l).length = a + (l.length + 1) by simp, iV]
    simp only [cf]
    have h0 := h 0 x rfl
    rw [Nat.add_zero] at h0
    rw [h0]
    simp only [Option.bind_some, dE]
    cases step x with
    | some r => rfl
    | none =>
      show cf f _ () = _
      rw [show a + (l.length + 1) = a + 1 + l.length by omega]
      exact oC f step l (a + 1) fun j y hj => by rw [show a + 1 + j = a + (j + 1) by omega]; exact h (j + 1) y (by simpa using hj)
theorem jU {α ρ : Type} (f : Int → Unit → Option (Br Unit ρ)) (step : α → Option ρ) (l : List α) (h : ∀ (j : Nat) x, l[j]? = some x → f (j : Int) () = some (iY (step x))) :
    cf f (bx 0 (l.length : Int)) () = some (g8 (dE step l)) := by
  have := oC f step l 0 (fun j x hj => by rw [Nat.zero_add]; exact h j x hj)
  simpa using this
end Go.AM
end
section
set_option linter.unusedVariables false
set_option linter.unusedSimpArgs false
namespace Go.AM
open Go
def dR (acc : List Int) (x : Int) : List Int := if acc.getLast? = some x then acc else acc ++ [x]
def e9 (l : List Int) : List Int := l.foldl dR []
def hE (l : List Int) : List Int := e9 (b4 l)
theorem rH (acc : List Int) (x : Int) : (dR acc x).getLast? = some x := by
  unfold dR; split
  · assumption
  · simp
theorem lD : ∀ (l acc : List Int), acc.Pairwise (· < ·) → (∀ a ∈ acc, ∀ y ∈ l, a ≤ y) → l.Pairwise (· ≤ ·) → (l.foldl dR acc).Pairwise (· < ·) ∧ ∀ x, x ∈ l.foldl dR acc ↔ x ∈ acc ∨ x ∈ l
  | [], acc, h, _, _ => ⟨h, fun x => by simp⟩
  | y :: l, acc, h, hy, ho => by
    obtain ⟨o1, o2⟩ := List.pairwise_cons.1 ho
    rw [List.foldl_cons]
    have key : (dR acc y).Pairwise (· < ·) ∧ ∀ x, x ∈ dR acc y ↔ x ∈ acc ∨ x = y := by
      unfold dR
      split
      · rename_i hl
        refine ⟨h, fun x => ⟨.inl, fun hx => hx.elim id fun e => ?_⟩⟩
        subst e; exact List.mem_of_getLast? hl
      · rename_i hl
        refine ⟨?_, fun x => by simp⟩
        rw [List.pairwise_append]
        refine ⟨h, List.pairwise_singleton _ _, fun a ha b hb => ?_⟩
        rw [List.mem_singleton] at hb
        subst hb
        have h1 := hy a ha b (List.mem_cons_self ..)
        by_cases h0 : a = b
        · exfalso
          subst h0
          obtain ⟨z, hz⟩ : ∃ z, acc.getLast? = some z := by
            cases acc with
            | nil => cases ha
            | cons c t => exact ⟨_, List.getLast?_cons⟩
          obtain ⟨pre, rfl⟩ := List.getLast?_eq_some_iff.1 hz
          have hzb := hy z (by simp) a (List.mem_cons_self ..)
          rcases List.mem_append.1 ha with ha' | ha'
          · have := (List.pairwise_append.1 h).2.2 a ha' z (by simp)
            omega
          · rw [List.mem_singleton] at ha'
            subst ha'
            exact hl hz
        · omega
    obtain ⟨k1, k2⟩ := key
    obtain ⟨r1, r2⟩ := lD l (dR acc y) k1 (fun a ha z hz => by
      rcases (k2 a).1 ha with ha | rfl
      · exact hy a ha z (List.mem_cons_of_mem _ hz)
      · exact o1 z hz) o2
    refine ⟨r1, fun x => ?_⟩
    rw [r2, k2]
    simp only [List.mem_cons]
    constructor
    · rintro ((h | h) | h)
      · exact .inl h
      · exact .inr (.inl h)
      · exact .inr (.inr h)
    · rintro (h | h | h)
      · exact .inl (.inl h)
      · exact .inl (.inr h)
      · exact .inr h
theorem rI (l : List Int) : (hE l).Pairwise (· < ·) := (lD _ [] List.Pairwise.nil (fun a h => by cases h) (js l)).1
theorem oD (l : List Int) (x : Int) : x ∈ hE l ↔ x ∈ l := by
  unfold hE e9
  rw [(lD _ [] List.Pairwise.nil (fun a h => by cases h) (js l)).2]
  simp [(fX l).mem_iff]
theorem lE {l : List Int} {j : Nat} {x : Int} (h : l[j]? = some x) : e9 (l.take (j + 1)) = dR (e9 (l.take j)) x := by
  unfold e9
  rw [List.take_add_one, h]
  simp [List.foldl_append]
theorem oE {l : List Int} {j : Nat} {x : Int} (h : l[j]? = some x) : (e9 (l.take (j + 1))).getLast? = some x := by
  rw [lE h]; exact rH _ _
theorem hI {n : Int} (h0 : 0 ≤ n) (h : n ≤ 10000000) : IntKind.i64.wrap n = n := by
  simp [IntKind.wrap, IntKind.bits, IntKind.signed]; omega
structure lF (a0 : List Int) (i2 j : Nat) (s : List Int × Int) : Prop where
  len : s.1.length = a0.length
  c : ∃ c : Nat, s.2 = c ∧ c + 1 ≤ i2 + j ∧ s.1.take c = e9 (a0.take (i2 + j)) ∧ ∀ t, c ≤ t → s.1[t]? = a0[t]?
theorem rJ {a0 : List Int} {i2 : Nat} (hb : a0.length ≤ 1000000) (h2 : i2 + 1 ≤ a0.length) (hi : lF a0 i2 1 (a0, (i2 : Int))) :
    ∃ s, cF (jg a0 i2) (bx 1 ((a0.length - i2 : Nat) : Int)) (a0, (i2 : Int)) = some s ∧ lF a0 i2 (a0.length - i2) s := by
  have := jT (jg a0 i2) (lF a0 i2) (a0.length - i2 - 1) 1 (a0, (i2 : Int)) hi (fun j s hj1 hj2 ⟨hl, c, hc, hcj, htk, hun⟩ => by
    obtain ⟨l12, i13⟩ := s
    simp only at hl hc htk hun
    subst hc
    have hjl : i2 + j < a0.length := by omega
    have hx : a0[i2 + j]? = some a0[i2 + j] := bw hjl
    have hy : a0[i2 + (j - 1)]? = some (a0[i2 + (j - 1)]'(by omega)) := bw (by omega)
    have lx : l12[i2 + j]? = some a0[i2 + j] := by rw [hun _ (by omega), hx]
    have ly : l12[i2 + (j - 1)]? = some (a0[i2 + (j - 1)]'(by omega)) := by rw [hun _ (by omega), hy]
    generalize a0[i2 + j] = x at hx lx
    generalize a0[i2 + (j - 1)]'(by omega) = y at hy ly
    have w1 : IntKind.i64.wrap ((j : Int) - 1) = ((j - 1 : Nat) : Int) := by rw [hI (by omega) (by omega)]; omega
    have g1 : aW l12 ((i2 : Int) + (j : Int)) = some x := by rw [show ((i2 : Int) + (j : Int)) = ((i2 + j : Nat) : Int) by omega, cm, lx]
    have g2 : aW l12 ((i2 : Int) + ((j - 1 : Nat) : Int)) = some y := by rw [show ((i2 : Int) + ((j - 1 : Nat) : Int)) = ((i2 + (j - 1) : Nat) : Int) by omega, cm, ly]
    have v1 : fe l12 i2 (a0.length : Int) j = some x := by unfold fe; rw [if_pos (by omega), g1]
    have v2 : fe l12 i2 (a0.length : Int) ((j - 1 : Nat) : Int) = some y := by unfold fe; rw [if_pos (by omega), g2]
    have hlast := oE hy
    rw [show i2 + (j - 1) + 1 = i2 + j by omega] at hlast
    have hnew := lE hx
    simp only [jg, w1, v1, v2, g1, g2, Option.bind_some]
    by_cases e : x = y
    · subst e
      simp only [bne_self_eq_false, Bool.false_eq_true, if_false, Option.bind_some]
      refine ⟨_, rfl, hl, c, rfl, by omega, ?_, hun⟩
      simp only
      rw [← Nat.add_assoc, hnew]
      unfold dR
      rw [if_pos hlast]; exact htk
    · have e' : (x != y) = true := by simpa using e
      rw [e']
      have hcl : c < l12.length := by omega
      have gc : aW l12 (c : Int) = some l12[c] := by rw [cm]; exact bw hcl
      have gp : b7 l12 (c : Int) x = some (l12.set c x) := by
        unfold b7; rw [if_pos (by omega), if_pos (by omega)]; simp
      simp only [if_true, gc, gp, Option.bind_some]
      refine ⟨_, rfl, by simp [hl], c + 1, ?_, by omega, ?_, fun t ht => ?_⟩
      · simp only; rw [hI (by omega) (by omega)]; omega
      · simp only
        rw [← Nat.add_assoc, hnew]
        unfold dR
        rw [if_neg (by rw [hlast]; intro h; exact e (aC h).symm)]
        rw [List.take_add_one, List.getElem?_set_self hcl, List.take_set_of_le (Nat.le_refl c), htk]; rfl
      · simp only
        rw [List.getElem?_set_ne (by omega)]
        exact hun t (by omega))
  obtain ⟨s, e, h⟩ := this
  rw [show 1 + (a0.length - i2 - 1) = a0.length - i2 by omega] at e h
  exact ⟨s, e, h⟩
theorem rK {a0 : List Int} (hb : a0.length ≤ 1000000) : ig a0 = some (e9 a0) := by
  unfold ig
  by_cases hs : a0.length < 2
  · rw [decide_eq_true (by omega), if_pos rfl]
    match a0, hs with
    | [], _ => rfl
    | [x], _ => rfl
  · rw [decide_eq_false (by omega), if_neg (by simp)]
    have := oB (ie a0) (fun i _ => e9 (a0.take i) = a0.take i) (fun _ => False) (fun r => r = e9 a0) (a0.length - 1) 1 () (by
      match a0, hs with
      | x :: l, _ => rfl) (fun i s hi1 hi2 hP => by
      have hx : a0[i]? = some (a0[i]'(by omega)) := bw (by omega)
      have hy : a0[i - 1]? = some (a0[i - 1]'(by omega)) := bw (by omega)
      generalize (a0[i]'(by omega)) = x at hx
      generalize (a0[i - 1]'(by omega)) = y at hy
      have w1 : IntKind.i64.wrap ((i : Int) - 1) = ((i - 1 : Nat) : Int) := by rw [hI (by omega) (by omega)]; omega
      have hlast := oE hy
      rw [show i - 1 + 1 = i by omega] at hlast
      have hnew := lE hx
      simp only [ie, w1, cm, hx, hy, Option.bind_some]
      by_cases e : x = y
      · subst e
        have hc : cJ a0 (i : Int) (a0.length : Int) = some (a0.drop i) := by
          unfold cJ; rw [if_pos (by omega)]
          congr 1
          rw [List.take_of_length_le (by simp)]; simp
        have hlen : (((a0.drop i).length : Nat) : Int) = ((a0.length - i : Nat) : Int) := by simp
        simp only [beq_self_eq_true, if_true, hc, Option.bind_some, hlen]
        obtain ⟨⟨z, k⟩, e1, hl, c, hc2, hcj, htk, _⟩ := rJ (i2 := i) hb (by omega) ⟨rfl, i, rfl, Nat.le_refl _, by
          simp only
          rw [hnew]; unfold dR; rw [if_pos hlast, hP], fun t _ => rfl⟩
        simp only at hl hc2 htk
        subst hc2
        rw [e1]
        have hcut : cJ z (c : Int) (z.length : Int) = some (z.drop c) := by
          unfold cJ; rw [if_pos (by omega)]
          congr 1
          rw [List.take_of_length_le (by simp)]; simp
        simp only [Option.bind_some, hcut]
        refine .inr (.inr ⟨_, rfl, ?_⟩)
        rw [show i + (a0.length - i) = a0.length by omega, List.take_length] at htk
        simpa using htk
      · have e' : (x == y) = false := by simpa using e
        rw [e']
        simp only [Bool.false_eq_true, if_false]
        refine .inl ⟨(), trivial, ?_⟩
        rw [hnew, hP]
        unfold dR
        rw [hP] at hlast
        rw [if_neg (by rw [hlast]; intro h; exact e (aC h).symm), List.take_add_one, hx]; rfl)
    rw [show 1 + (a0.length - 1) = a0.length by omega] at this
    rcases this with ⟨s', e, h | h⟩ | ⟨r, e, h⟩
    · have e : cf (ie a0) (bx 1 (a0.length : Int)) () = some (.done s') := e
      rw [e]
      simp only [Option.bind_some]
      rw [List.take_length] at h
      rw [h]
    · exact h.elim
    · have e : cf (ie a0) (bx 1 (a0.length : Int)) () = some (.ret r) := e
      rw [e]
      simp only [Option.bind_some]
      rw [h]
theorem rL {l : List Int} (hb : l.length ≤ 1000000) : ig (b4 l) = some (hE l) := rK (by rw [(fX l).length_eq]; exact hb)
theorem jV {σ : Type} {f : σ → Option (σ ⊕ σ)} (P Q : σ → Prop) (m : σ → Nat) (hs : ∀ s, P s → (∃ s', f s = some (.inl s') ∧ P s' ∧ m s' < m s) ∨ ∃ s', f s = some (.inr s') ∧ Q s') : ∀ (k : Nat) (s : σ), P s → m s < k → ∃ r, eQ f k s = some r ∧ Q r
  | 0, s, _, h => by omega
  | k + 1, s, hp, h => by
    simp only [eQ]
    rcases hs s hp with ⟨s', e, p', hm⟩ | ⟨s', e, q⟩
    · rw [e]
      exact jV P Q m hs k s' p' (by omega)
    · rw [e]
      exact ⟨s', rfl, q⟩
theorem gB {σ : Type} (f : Int → σ → Option σ) (P : Nat → σ → Prop) (n : Nat) (s : σ) (h0 : P 0 s) (hs : ∀ j s, j < n → P j s → ∃ s', f (j : Int) s = some s' ∧ P (j + 1) s') : ∃ s', cF f (bx 0 (n : Int)) s = some s' ∧ P n s' := by
  have := jT f P n 0 s h0 (fun j s _ hj => hs j s (by omega))
  simpa using this
theorem oF {σ : Type} (f : Int → σ → Option (σ ⊕ σ)) (P : Nat → σ → Prop) (B : σ → Prop) : ∀ (k i : Nat) (s : σ), P i s → (∀ j s, i ≤ j → j < i + k → P j s → (∃ s', f (j : Int) s = some (.inl s') ∧ P (j + 1) s') ∨ ∃ s', f (j : Int) s = some (.inr s') ∧ B s') →
    ∃ s', fQ f (bx (i : Int) ((i + k : Nat) : Int)) s = some s' ∧ (P (i + k) s' ∨ B s')
  | 0, i, s, h, _ => ⟨s, by rw [show i + 0 = i from rfl, iW]; rfl, .inl h⟩
  | k + 1, i, s, h, hs => by
    rw [iV]
    simp only [fQ]
    rcases hs i s (Nat.le_refl _) (by omega) h with ⟨s1, e1, h1⟩ | ⟨s1, e1, h1⟩
    · rw [e1]
      simp only [Option.bind_some]
      rw [show i + (k + 1) = i + 1 + k by omega]
      exact oF f P B k (i + 1) s1 h1 fun j s hj hk => hs j s (by omega) (by omega)
    · rw [e1]; exact ⟨s1, rfl, .inr h1⟩
theorem fv {α : Type} {l : List α} {i : Nat} (v : α) (h : i < l.length) : b7 l (i : Int) v = some (l.set i v) := by
  unfold b7; rw [if_pos (by omega), if_pos (by simpa using h)]; simp
end Go.AM
end
