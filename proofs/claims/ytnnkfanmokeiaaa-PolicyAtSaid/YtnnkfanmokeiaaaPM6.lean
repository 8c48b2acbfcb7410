import Derived.Test.YtnnkfanmokeiaaaPM5
import Derived.Test.YtnnkfanmokeiaaaAmOr
set_option linter.unusedVariables false
set_option linter.unusedSimpArgs false
namespace Go.AM
open Go
theorem qF (x y : List Int) : ∀ n i, x.length = i + n → y.length = i + n → dR x y n i = dC (x.drop i) (y.drop i)
  | 0, i, hx, hy => by
    rw [List.drop_eq_nil_of_le (by omega), List.drop_eq_nil_of_le (by omega)]; rfl
  | n + 1, i, hx, hy => by
    have hx' : i < x.length := by omega
    have hy' : i < y.length := by omega
    rw [List.drop_eq_getElem_cons hx', List.drop_eq_getElem_cons hy']
    unfold dR dC
    rw [qF x y n (i + 1) (by omega) (by omega)]
    simp only [List.getD_eq_getElem?_getD, bW hx', bW hy', Option.getD_some]
    unfold df
    by_cases h1 : x[i] < y[i]
    · simp [h1]
    · by_cases h2 : x[i] > y[i] <;> simp [h1, h2]
theorem u6 (a b : Pk) : cV a b = gM a b := qF a.l b.l 8 0 rfl rfl
theorem qH {a b : Pk} : fM a b ↔ cV a b < 0 := by
  rw [u6]; unfold fM
  have := uY a b
  omega
def eA (acc : List Pk) (x : Pk) : List Pk := if acc.getLast? = some x then acc else acc ++ [x]
def fm (l : List Pk) : List Pk := l.foldl eA []
def fO (l : List Pk) : List Pk := fm (da l)
theorem u7 (acc : List Pk) (x : Pk) : (eA acc x).getLast? = some x := by
  unfold eA; split
  · assumption
  · simp
theorem nB : ∀ (l acc : List Pk), dS acc → (∀ a ∈ acc, ∀ y ∈ l, cV a y ≤ 0) → gl l → dS (l.foldl eA acc) ∧ ∀ x, x ∈ l.foldl eA acc ↔ x ∈ acc ∨ x ∈ l
  | [], acc, h, _, _ => ⟨h, fun x => by simp⟩
  | y :: l, acc, h, hy, ho => by
    obtain ⟨o1, o2⟩ := List.pairwise_cons.1 ho
    rw [List.foldl_cons]
    have key : dS (eA acc y) ∧ ∀ x, x ∈ eA acc y ↔ x ∈ acc ∨ x = y := by
      unfold eA
      split
      · rename_i hl
        refine ⟨h, fun x => ⟨.inl, fun hx => hx.elim id fun e => ?_⟩⟩
        subst e; exact List.mem_of_getLast? hl
      · rename_i hl
        refine ⟨?_, fun x => by simp⟩
        unfold dS
        rw [List.pairwise_append]
        refine ⟨h, List.pairwise_singleton _ _, fun a ha b hb => ?_⟩
        rw [List.mem_singleton] at hb
        subst hb
        rw [qH]
        have h1 := hy a ha b (List.mem_cons_self ..)
        by_cases h0 : cV a b = 0
        · exfalso
          have e := p7 h0
          subst e
          obtain ⟨z, hz⟩ : ∃ z, acc.getLast? = some z := by
            cases acc with
            | nil => cases ha
            | cons c t => exact ⟨_, List.getLast?_cons⟩
          obtain ⟨pre, rfl⟩ := List.getLast?_eq_some_iff.1 hz
          have hzb := hy z (by simp) a (List.mem_cons_self ..)
          rcases List.mem_append.1 ha with ha' | ha'
          · have := (List.pairwise_append.1 h).2.2 a ha' z (by simp)
            rw [qH] at this
            have := gF a z
            omega
          · rw [List.mem_singleton] at ha'
            subst ha'
            exact hl hz
        · omega
    obtain ⟨k1, k2⟩ := key
    obtain ⟨r1, r2⟩ := nB l (eA acc y) k1 (fun a ha z hz => by
      rcases (k2 a).1 ha with ha | rfl
      · exact hy a ha z (List.mem_cons_of_mem _ hz)
      · exact o1 z hz) o2
    refine ⟨r1, fun x => ?_⟩
    rw [r2, k2]
    simp only [List.mem_cons]
    constructor
    · rintro ((h | h) | h)
      · exact .inl h
      · exact .inr (.inl h)
      · exact .inr (.inr h)
    · rintro (h | h | h)
      · exact .inl (.inl h)
      · exact .inl (.inr h)
      · exact .inr h
theorem qI (l : List Pk) : dS (fO l) := (nB _ [] List.Pairwise.nil (fun a h => by cases h) (kK l)).1
theorem u9 (l : List Pk) (x : Pk) : x ∈ fO l ↔ x ∈ l := by
  unfold fO fm
  rw [(nB _ [] List.Pairwise.nil (fun a h => by cases h) (kK l)).2]
  simp [(hS l).mem_iff]
theorem va {l m : List Pk} (h : dS l) (hm : ∀ x, x ∈ l ↔ x ∈ m) : l = fO m := qy h (qI m) fun x => by rw [hm, u9]
theorem nC {l : List Pk} {j : Nat} {x : Pk} (h : l[j]? = some x) : fm (l.take (j + 1)) = eA (fm (l.take j)) x := by
  unfold fm
  rw [List.take_add_one, h]
  simp [List.foldl_append]
theorem qJ {l : List Pk} {j : Nat} {x : Pk} (h : l[j]? = some x) : (fm (l.take (j + 1))).getLast? = some x := by
  rw [nC h]; exact u7 _ _
theorem nD {n : Int} (h0 : 0 ≤ n) (h : n ≤ 10000000) : IntKind.i64.wrap n = n := by
  simp [IntKind.wrap, IntKind.bits, IntKind.signed]; omega
structure nE (a0 : List Pk) (i2 j : Nat) (s : List Pk × Int) : Prop where
  len : s.1.length = a0.length
  c : ∃ c : Nat, s.2 = c ∧ c + 1 ≤ i2 + j ∧ s.1.take c = fm (a0.take (i2 + j)) ∧ ∀ t, c ≤ t → s.1[t]? = a0[t]?
theorem vc {a0 : List Pk} {i2 : Nat} (hb : a0.length ≤ 1000000) (h2 : i2 + 1 ≤ a0.length) (hi : nE a0 i2 1 (a0, (i2 : Int))) :
    ∃ s, dQ (kS a0 i2) (bG 1 ((a0.length - i2 : Nat) : Int)) (a0, (i2 : Int)) = some s ∧ nE a0 i2 (a0.length - i2) s := by
  have := kG (kS a0 i2) (nE a0 i2) (a0.length - i2 - 1) 1 (a0, (i2 : Int)) hi (fun j s hj1 hj2 ⟨hl, c, hc, hcj, htk, hun⟩ => by
    obtain ⟨l12, i13⟩ := s
    simp only at hl hc htk hun
    subst hc
    have hjl : i2 + j < a0.length := by omega
    have hx : a0[i2 + j]? = some a0[i2 + j] := bW hjl
    have hy : a0[i2 + (j - 1)]? = some (a0[i2 + (j - 1)]'(by omega)) := bW (by omega)
    have lx : l12[i2 + j]? = some a0[i2 + j] := by rw [hun _ (by omega), hx]
    have ly : l12[i2 + (j - 1)]? = some (a0[i2 + (j - 1)]'(by omega)) := by rw [hun _ (by omega), hy]
    generalize a0[i2 + j] = x at hx lx
    generalize a0[i2 + (j - 1)]'(by omega) = y at hy ly
    have w1 : IntKind.i64.wrap ((j : Int) - 1) = ((j - 1 : Nat) : Int) := by rw [nD (by omega) (by omega)]; omega
    have g1 : bh l12 ((i2 : Int) + (j : Int)) = some x := by rw [show ((i2 : Int) + (j : Int)) = ((i2 + j : Nat) : Int) by omega, ey, lx]
    have g2 : bh l12 ((i2 : Int) + ((j - 1 : Nat) : Int)) = some y := by rw [show ((i2 : Int) + ((j - 1 : Nat) : Int)) = ((i2 + (j - 1) : Nat) : Int) by omega, ey, ly]
    have v1 : gj l12 i2 (a0.length : Int) j = some x := by unfold gj; rw [if_pos (by omega), g1]
    have v2 : gj l12 i2 (a0.length : Int) ((j - 1 : Nat) : Int) = some y := by unfold gj; rw [if_pos (by omega), g2]
    have hlast := qJ hy
    rw [show i2 + (j - 1) + 1 = i2 + j by omega] at hlast
    have hnew := nC hx
    simp only [kS, w1, v1, v2, g1, g2, Option.bind_some]
    by_cases e : x = y
    · subst e
      simp only [beq_self_eq_true, Bool.not_true, Bool.false_eq_true, if_false, Option.bind_some]
      refine ⟨_, rfl, hl, c, rfl, by omega, ?_, hun⟩
      simp only
      rw [← Nat.add_assoc, hnew]
      unfold eA
      rw [if_pos hlast]; exact htk
    · have e' : (x == y) = false := by simpa using e
      rw [e']
      have hcl : c < l12.length := by omega
      have gc : bh l12 (c : Int) = some l12[c] := by rw [ey]; exact bW hcl
      have gp : cx l12 (c : Int) x = some (l12.set c x) := by
        unfold cx; rw [if_pos (by omega), if_pos (by omega)]; simp
      simp only [Bool.not_false, if_true, gc, gp, Option.bind_some]
      refine ⟨_, rfl, by simp [hl], c + 1, ?_, by omega, ?_, fun t ht => ?_⟩
      · simp only; rw [nD (by omega) (by omega)]; omega
      · simp only
        rw [← Nat.add_assoc, hnew]
        unfold eA
        rw [if_neg (by rw [hlast]; intro h; exact e (ap h).symm)]
        rw [List.take_add_one, List.getElem?_set_self hcl, List.take_set_of_le (Nat.le_refl c), htk]; rfl
      · simp only
        rw [List.getElem?_set_ne (by omega)]
        exact hun t (by omega))
  obtain ⟨s, e, h⟩ := this
  rw [show 1 + (a0.length - i2 - 1) = a0.length - i2 by omega] at e h
  exact ⟨s, e, h⟩
theorem vd {a0 : List Pk} (hb : a0.length ≤ 1000000) : jL a0 = some (fm a0) := by
  unfold jL
  by_cases hs : a0.length < 2
  · rw [decide_eq_true (by omega), if_pos rfl]
    match a0, hs with
    | [], _ => rfl
    | [x], _ => rfl
  · rw [decide_eq_false (by omega), if_neg (by simp)]
    have := mI (jK a0) (fun i _ => fm (a0.take i) = a0.take i) (fun _ => False) (fun r => r = fm a0) (a0.length - 1) 1 () (by
      match a0, hs with
      | x :: l, _ => rfl) (fun i s hi1 hi2 hP => by
      have hx : a0[i]? = some (a0[i]'(by omega)) := bW (by omega)
      have hy : a0[i - 1]? = some (a0[i - 1]'(by omega)) := bW (by omega)
      generalize (a0[i]'(by omega)) = x at hx
      generalize (a0[i - 1]'(by omega)) = y at hy
      have w1 : IntKind.i64.wrap ((i : Int) - 1) = ((i - 1 : Nat) : Int) := by rw [nD (by omega) (by omega)]; omega
      have hlast := qJ hy
      rw [show i - 1 + 1 = i by omega] at hlast
      have hnew := nC hx
      simp only [jK, w1, ey, hx, hy, Option.bind_some]
      by_cases e : x = y
      · subst e
        have hc : cP a0 (i : Int) (a0.length : Int) = some (a0.drop i) := by
          unfold cP; rw [if_pos (by omega)]
          congr 1
          rw [List.take_of_length_le (by simp)]; simp
        have hlen : (((a0.drop i).length : Nat) : Int) = ((a0.length - i : Nat) : Int) := by simp
        simp only [beq_self_eq_true, if_true, hc, Option.bind_some, hlen]
        obtain ⟨⟨z, k⟩, e1, hl, c, hc2, hcj, htk, _⟩ := vc (i2 := i) hb (by omega) ⟨rfl, i, rfl, Nat.le_refl _, by
          simp only
          rw [hnew]; unfold eA; rw [if_pos hlast, hP], fun t _ => rfl⟩
        simp only at hl hc2 htk
        subst hc2
        rw [e1]
        have hcut : cP z (c : Int) (z.length : Int) = some (z.drop c) := by
          unfold cP; rw [if_pos (by omega)]
          congr 1
          rw [List.take_of_length_le (by simp)]; simp
        simp only [Option.bind_some, hcut]
        refine .inr (.inr ⟨_, rfl, ?_⟩)
        rw [show i + (a0.length - i) = a0.length by omega, List.take_length] at htk
        simpa using htk
      · have e' : (x == y) = false := by simpa using e
        rw [e']
        simp only [Bool.false_eq_true, if_false]
        refine .inl ⟨(), trivial, ?_⟩
        rw [hnew, hP]
        unfold eA
        rw [hP] at hlast
        rw [if_neg (by rw [hlast]; intro h; exact e (ap h).symm), List.take_add_one, hx]; rfl)
    rw [show 1 + (a0.length - 1) = a0.length by omega] at this
    rcases this with ⟨s', e, h | h⟩ | ⟨r, e, h⟩
    · have e : b9 (jK a0) (bG 1 (a0.length : Int)) () = some (.done s') := e
      rw [e]
      simp only [Option.bind_some]
      rw [List.take_length] at h
      rw [h]
    · exact h.elim
    · have e : b9 (jK a0) (bG 1 (a0.length : Int)) () = some (.ret r) := e
      rw [e]
      simp only [Option.bind_some]
      rw [h]
theorem ve {l : List Pk} (hb : l.length ≤ 1000000) : kT l = some (fO l) := by
  have e1 : jJ l = some l := by
    unfold jJ cB
    rw [if_pos (by simp; omega)]; rfl
  have e2 : hX l (fun y0 y1 => mV y0 y1) = some (da l) := by
    unfold hX
    rw [if_pos (by omega)]
  have e3 : jL (da l) = some (fm (da l)) := vd (by rw [(hS l).length_eq]; exact hb)
  unfold kT
  simp only [e1, e2, e3, Option.bind_some]
  rfl
def eR (l : List Pk) : Option (List Pk) := if (fO l).length > 64 then none else some (fO l)
theorem qK {l : List Pk} (hb : l.length ≤ 1000000) : hY l = some (eR l) := by
  unfold hY eR
  rw [ve hb]
  simp only [Option.bind_some]
  by_cases h : (fO l).length > 64
  · rw [decide_eq_true (by omega), if_pos rfl, if_pos h]
  · rw [decide_eq_false (by omega), if_neg (by simp), if_neg h]
theorem iX {l m : List Pk} (h : eR l = some m) : m = fO l ∧ m.length ≤ 64 ∧ dS m := by
  unfold eR at h
  split at h
  · cases h
  · cases h; exact ⟨rfl, by omega, qI l⟩
end Go.AM
