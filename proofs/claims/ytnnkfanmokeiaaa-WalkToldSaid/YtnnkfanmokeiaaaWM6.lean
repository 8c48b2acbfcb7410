import Derived.Test.YtnnkfanmokeiaaaWM5
import Derived.Test.YtnnkfanmokeiaaaAmOr
set_option linter.unusedVariables false
set_option linter.unusedSimpArgs false
namespace Go.AM
open Go
theorem rI (x y : List Int) : ∀ n i, x.length = i + n → y.length = i + n → d9 x y n i = dB (x.drop i) (y.drop i)
  | 0, i, hx, hy => by
    rw [List.drop_eq_nil_of_le (by omega), List.drop_eq_nil_of_le (by omega)]; rfl
  | n + 1, i, hx, hy => by
    have hx' : i < x.length := by omega
    have hy' : i < y.length := by omega
    rw [List.drop_eq_getElem_cons hx', List.drop_eq_getElem_cons hy']
    unfold d9 dB
    rw [rI x y n (i + 1) (by omega) (by omega)]
    simp only [List.getD_eq_getElem?_getD, bV hx', bV hy', Option.getD_some]
    unfold dA
    by_cases h1 : x[i] < y[i]
    · simp [h1]
    · by_cases h2 : x[i] > y[i] <;> simp [h1, h2]
theorem vR (a b : Pk) : di a b = fE a b := rI a.l b.l 8 0 rfl rfl
theorem rJ {a b : Pk} : fh a b ↔ di a b < 0 := by
  rw [vR]; unfold fh
  have := vL a b
  omega
def eR (acc : List Pk) (x : Pk) : List Pk := if acc.getLast? = some x then acc else acc ++ [x]
def fO (l : List Pk) : List Pk := l.foldl eR []
def gi (l : List Pk) : List Pk := fO (du l)
theorem vS (acc : List Pk) (x : Pk) : (eR acc x).getLast? = some x := by
  unfold eR; split
  · assumption
  · simp
theorem nZ : ∀ (l acc : List Pk), ef acc → (∀ a ∈ acc, ∀ y ∈ l, di a y ≤ 0) → gI l → ef (l.foldl eR acc) ∧ ∀ x, x ∈ l.foldl eR acc ↔ x ∈ acc ∨ x ∈ l
  | [], acc, h, _, _ => ⟨h, fun x => by simp⟩
  | y :: l, acc, h, hy, ho => by
    obtain ⟨o1, o2⟩ := List.pairwise_cons.1 ho
    rw [List.foldl_cons]
    have key : ef (eR acc y) ∧ ∀ x, x ∈ eR acc y ↔ x ∈ acc ∨ x = y := by
      unfold eR
      split
      · rename_i hl
        refine ⟨h, fun x => ⟨.inl, fun hx => hx.elim id fun e => ?_⟩⟩
        subst e; exact List.mem_of_getLast? hl
      · rename_i hl
        refine ⟨?_, fun x => by simp⟩
        unfold ef
        rw [List.pairwise_append]
        refine ⟨h, List.pairwise_singleton _ _, fun a ha b hb => ?_⟩
        rw [List.mem_singleton] at hb
        subst hb
        rw [rJ]
        have h1 := hy a ha b (List.mem_cons_self ..)
        by_cases h0 : di a b = 0
        · exfalso
          have e := qQ h0
          subst e
          obtain ⟨z, hz⟩ : ∃ z, acc.getLast? = some z := by
            cases acc with
            | nil => cases ha
            | cons c t => exact ⟨_, List.getLast?_cons⟩
          obtain ⟨pre, rfl⟩ := List.getLast?_eq_some_iff.1 hz
          have hzb := hy z (by simp) a (List.mem_cons_self ..)
          rcases List.mem_append.1 ha with ha' | ha'
          · have := (List.pairwise_append.1 h).2.2 a ha' z (by simp)
            rw [rJ] at this
            have := gX a z
            omega
          · rw [List.mem_singleton] at ha'
            subst ha'
            exact hl hz
        · omega
    obtain ⟨k1, k2⟩ := key
    obtain ⟨r1, r2⟩ := nZ l (eR acc y) k1 (fun a ha z hz => by
      rcases (k2 a).1 ha with ha | rfl
      · exact hy a ha z (List.mem_cons_of_mem _ hz)
      · exact o1 z hz) o2
    refine ⟨r1, fun x => ?_⟩
    rw [r2, k2]
    simp only [List.mem_cons]
    constructor
    · rintro ((h | h) | h)
      · exact .inl h
      · exact .inr (.inl h)
      · exact .inr (.inr h)
    · rintro (h | h | h)
      · exact .inl (.inl h)
      · exact .inl (.inr h)
      · exact .inr h
theorem rK (l : List Pk) : ef (gi l) := (nZ _ [] List.Pairwise.nil (fun a h => by cases h) (k5 l)).1
theorem vT (l : List Pk) (x : Pk) : x ∈ gi l ↔ x ∈ l := by
  unfold gi fO
  rw [(nZ _ [] List.Pairwise.nil (fun a h => by cases h) (k5 l)).2]
  simp [(iv l).mem_iff]
theorem vU {l m : List Pk} (h : ef l) (hm : ∀ x, x ∈ l ↔ x ∈ m) : l = gi m := rB h (rK m) fun x => by rw [hm, vT]
theorem n5 {l : List Pk} {j : Nat} {x : Pk} (h : l[j]? = some x) : fO (l.take (j + 1)) = eR (fO (l.take j)) x := by
  unfold fO
  rw [List.take_add_one, h]
  simp [List.foldl_append]
theorem rL {l : List Pk} {j : Nat} {x : Pk} (h : l[j]? = some x) : (fO (l.take (j + 1))).getLast? = some x := by
  rw [n5 h]; exact vS _ _
theorem iD {n : Int} (h0 : 0 ≤ n) (h : n ≤ 10000000) : IntKind.i64.wrap n = n := by
  simp [IntKind.wrap, IntKind.bits, IntKind.signed]; omega
structure n8 (a0 : List Pk) (i2 j : Nat) (s : List Pk × Int) : Prop where
  len : s.1.length = a0.length
  c : ∃ c : Nat, s.2 = c ∧ c + 1 ≤ i2 + j ∧ s.1.take c = fO (a0.take (i2 + j)) ∧ ∀ t, c ≤ t → s.1[t]? = a0[t]?
theorem vV {a0 : List Pk} {i2 : Nat} (hb : a0.length ≤ 1000000) (h2 : i2 + 1 ≤ a0.length) (hi : n8 a0 i2 1 (a0, (i2 : Int))) :
    ∃ s, fy (lr a0 i2) (bJ 1 ((a0.length - i2 : Nat) : Int)) (a0, (i2 : Int)) = some s ∧ n8 a0 i2 (a0.length - i2) s := by
  have := nf (lr a0 i2) (n8 a0 i2) (a0.length - i2 - 1) 1 (a0, (i2 : Int)) hi (fun j s hj1 hj2 ⟨hl, c, hc, hcj, htk, hun⟩ => by
    obtain ⟨l12, i13⟩ := s
    simp only at hl hc htk hun
    subst hc
    have hjl : i2 + j < a0.length := by omega
    have hx : a0[i2 + j]? = some a0[i2 + j] := bV hjl
    have hy : a0[i2 + (j - 1)]? = some (a0[i2 + (j - 1)]'(by omega)) := bV (by omega)
    have lx : l12[i2 + j]? = some a0[i2 + j] := by rw [hun _ (by omega), hx]
    have ly : l12[i2 + (j - 1)]? = some (a0[i2 + (j - 1)]'(by omega)) := by rw [hun _ (by omega), hy]
    generalize a0[i2 + j] = x at hx lx
    generalize a0[i2 + (j - 1)]'(by omega) = y at hy ly
    have w1 : IntKind.i64.wrap ((j : Int) - 1) = ((j - 1 : Nat) : Int) := by rw [iD (by omega) (by omega)]; omega
    have g1 : bq l12 ((i2 : Int) + (j : Int)) = some x := by rw [show ((i2 : Int) + (j : Int)) = ((i2 + j : Nat) : Int) by omega, cS, lx]
    have g2 : bq l12 ((i2 : Int) + ((j - 1 : Nat) : Int)) = some y := by rw [show ((i2 : Int) + ((j - 1 : Nat) : Int)) = ((i2 + (j - 1) : Nat) : Int) by omega, cS, ly]
    have v1 : gH l12 i2 (a0.length : Int) j = some x := by unfold gH; rw [if_pos (by omega), g1]
    have v2 : gH l12 i2 (a0.length : Int) ((j - 1 : Nat) : Int) = some y := by unfold gH; rw [if_pos (by omega), g2]
    have hlast := rL hy
    rw [show i2 + (j - 1) + 1 = i2 + j by omega] at hlast
    have hnew := n5 hx
    simp only [lr, w1, v1, v2, g1, g2, Option.bind_some]
    by_cases e : x = y
    · subst e
      simp only [beq_self_eq_true, Bool.not_true, Bool.false_eq_true, if_false, Option.bind_some]
      refine ⟨_, rfl, hl, c, rfl, by omega, ?_, hun⟩
      simp only
      rw [← Nat.add_assoc, hnew]
      unfold eR
      rw [if_pos hlast]; exact htk
    · have e' : (x == y) = false := by simpa using e
      rw [e']
      have hcl : c < l12.length := by omega
      have gc : bq l12 (c : Int) = some l12[c] := by rw [cS]; exact bV hcl
      have gp : dz l12 (c : Int) x = some (l12.set c x) := by
        unfold dz; rw [if_pos (by omega), if_pos (by omega)]; simp
      simp only [Bool.not_false, if_true, gc, gp, Option.bind_some]
      refine ⟨_, rfl, by simp [hl], c + 1, ?_, by omega, ?_, fun t ht => ?_⟩
      · simp only; rw [iD (by omega) (by omega)]; omega
      · simp only
        rw [← Nat.add_assoc, hnew]
        unfold eR
        rw [if_neg (by rw [hlast]; intro h; exact e (aq h).symm)]
        rw [List.take_add_one, List.getElem?_set_self hcl, List.take_set_of_le (Nat.le_refl c), htk]; rfl
      · simp only
        rw [List.getElem?_set_ne (by omega)]
        exact hun t (by omega))
  obtain ⟨s, e, h⟩ := this
  rw [show 1 + (a0.length - i2 - 1) = a0.length - i2 by omega] at e h
  exact ⟨s, e, h⟩
theorem vW {a0 : List Pk} (hb : a0.length ≤ 1000000) : j3 a0 = some (fO a0) := by
  unfold j3
  by_cases hs : a0.length < 2
  · rw [decide_eq_true (by omega), if_pos rfl]
    match a0, hs with
    | [], _ => rfl
    | [x], _ => rfl
  · rw [decide_eq_false (by omega), if_neg (by simp)]
    have := kX (j1 a0) (fun i _ => fO (a0.take i) = a0.take i) (fun _ => False) (fun r => r = fO a0) (a0.length - 1) 1 () (by
      match a0, hs with
      | x :: l, _ => rfl) (fun i s hi1 hi2 hP => by
      have hx : a0[i]? = some (a0[i]'(by omega)) := bV (by omega)
      have hy : a0[i - 1]? = some (a0[i - 1]'(by omega)) := bV (by omega)
      generalize (a0[i]'(by omega)) = x at hx
      generalize (a0[i - 1]'(by omega)) = y at hy
      have w1 : IntKind.i64.wrap ((i : Int) - 1) = ((i - 1 : Nat) : Int) := by rw [iD (by omega) (by omega)]; omega
      have hlast := rL hy
      rw [show i - 1 + 1 = i by omega] at hlast
      have hnew := n5 hx
      simp only [j1, w1, cS, hx, hy, Option.bind_some]
      by_cases e : x = y
      · subst e
        have hc : cJ a0 (i : Int) (a0.length : Int) = some (a0.drop i) := by
          unfold cJ; rw [if_pos (by omega)]
          congr 1
          rw [List.take_of_length_le (by simp)]; simp
        have hlen : (((a0.drop i).length : Nat) : Int) = ((a0.length - i : Nat) : Int) := by simp
        simp only [beq_self_eq_true, if_true, hc, Option.bind_some, hlen]
        obtain ⟨⟨z, k⟩, e1, hl, c, hc2, hcj, htk, _⟩ := vV (i2 := i) hb (by omega) ⟨rfl, i, rfl, Nat.le_refl _, by
          simp only
          rw [hnew]; unfold eR; rw [if_pos hlast, hP], fun t _ => rfl⟩
        simp only at hl hc2 htk
        subst hc2
        rw [e1]
        have hcut : cJ z (c : Int) (z.length : Int) = some (z.drop c) := by
          unfold cJ; rw [if_pos (by omega)]
          congr 1
          rw [List.take_of_length_le (by simp)]; simp
        simp only [Option.bind_some, hcut]
        refine .inr (.inr ⟨_, rfl, ?_⟩)
        rw [show i + (a0.length - i) = a0.length by omega, List.take_length] at htk
        simpa using htk
      · have e' : (x == y) = false := by simpa using e
        rw [e']
        simp only [Bool.false_eq_true, if_false]
        refine .inl ⟨(), trivial, ?_⟩
        rw [hnew, hP]
        unfold eR
        rw [hP] at hlast
        rw [if_neg (by rw [hlast]; intro h; exact e (aq h).symm), List.take_add_one, hx]; rfl)
    rw [show 1 + (a0.length - 1) = a0.length by omega] at this
    rcases this with ⟨s', e, h | h⟩ | ⟨r, e, h⟩
    · have e : bT (j1 a0) (bJ 1 (a0.length : Int)) () = some (.done s') := e
      rw [e]
      simp only [Option.bind_some]
      rw [List.take_length] at h
      rw [h]
    · exact h.elim
    · have e : bT (j1 a0) (bJ 1 (a0.length : Int)) () = some (.ret r) := e
      rw [e]
      simp only [Option.bind_some]
      rw [h]
theorem vX {l : List Pk} (hb : l.length ≤ 1000000) : ls l = some (gi l) := by
  have e1 : f9 l = some l := by
    unfold f9 cx
    rw [if_pos (by simp; omega)]; rfl
  have e2 : iy l (fun y0 y1 => nA y0 y1) = some (du l) := by
    unfold iy
    rw [if_pos (by omega)]
  have e3 : j3 (du l) = some (fO (du l)) := vW (by rw [(iv l).length_eq]; exact hb)
  unfold ls
  simp only [e1, e2, e3, Option.bind_some]
  rfl
def fi (l : List Pk) : Option (List Pk) := if (gi l).length > 64 then none else some (gi l)
theorem rM {l : List Pk} (hb : l.length ≤ 1000000) : iz l = some (fi l) := by
  unfold iz fi
  rw [vX hb]
  simp only [Option.bind_some]
  by_cases h : (gi l).length > 64
  · rw [decide_eq_true (by omega), if_pos rfl, if_pos h]
  · rw [decide_eq_false (by omega), if_neg (by simp), if_neg h]
theorem jl {l m : List Pk} (h : fi l = some m) : m = gi l ∧ m.length ≤ 64 ∧ ef m := by
  unfold fi at h
  split at h
  · cases h
  · cases h; exact ⟨rfl, by omega, rK l⟩
end Go.AM
