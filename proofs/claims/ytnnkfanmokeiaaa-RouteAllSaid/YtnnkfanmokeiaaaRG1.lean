import Derived.Test.YtnnkfanmokeiaaaRP9
import Derived.Test.YtnnkfanmokeiaaaRtT
import Derived.Test.YtnnkfanmokeiaaaAmPv
/-  Several texts in one. -/
section
set_option linter.unusedVariables false
set_option linter.unusedSimpArgs false
namespace Go.AM
open Go
structure f7 where
  sw : Int
  src : Int
  dst : Int
  m : List c5
  pt : Int
def fc (p : Int × Int) : al := ⟨2, p.1, p.2, []⟩
def cG (s d : Int) (m : List c5) : List (Int × Int) := (2, s) :: (3, d) :: m.map fun p => (p.F, p.N)
def dE (h : f7) : al := ⟨6, 0, 0, ((0, h.sw) :: cG h.src h.dst h.m).map fc ++ [⟨5, 1, h.pt, []⟩]⟩
structure Bn where
  src : Int
  dst : Int
  m : List c5
def dF (b : Bn) : al := ⟨6, 0, 0, (cG b.src b.dst b.m).map fc⟩
def eK : List al → al
  | [] => ⟨0, 0, 0, []⟩
  | [x] => x
  | x :: y :: l => ⟨7, 0, 0, x :: y :: l⟩
def gD (ws bs : List al) : al := if bs.length = 0 then eK ws else ⟨6, 0, 0, [⟨4, 0, 0, [eK bs]⟩, eK ws]⟩
def dX (q : Pk) (l : List (Int × Int)) : Bool := l.all fun p => q.get p.1 == some p.2
section
variable (st : List Int)
theorem rD (q : Pk) : ∀ (l : List (Int × Int)) (b : Bool), fo (f6 st) (ol b q) (l.map fc) = some (ol (b && dX q l) q)
  | [], b => by simp [fo, dX]
  | p :: l, b => by
    simp only [List.map_cons, fo]
    have e : f6 st (ol b q) (fc p) = some (ol (b && (q.get p.1 == some p.2)) q) := by
      unfold f6
      cases b with
      | false => exact hY _ _ _ fun x => Iff.rfl
      | true =>
        have e2 : ex st (fc p) q = some (ol (q.get p.1 == some p.2) q) := by rw [hU]; rfl
        simp only [ol, if_true, fo, iF, e2, Option.map_some, Option.bind_some, List.nil_append]
        exact hY _ _ _ fun x => by simp [ol]
    rw [e, Option.bind_some, rD q l]
    simp only [dX, List.all_cons, Bool.and_assoc]
theorem rE (b : Bn) (q : Pk) : ex st (dF b) q = some (ol (dX q (cG b.src b.dst b.m)) q) := by
  rw [hU]
  show iV st ((cG b.src b.dst b.m).map fc) [q] = _
  rw [ku]
  have := rD st q (cG b.src b.dst b.m) true
  simpa [ol] using this
def eu (q : Pk) (h : f7) : Bool := dX q ((0, h.sw) :: cG h.src h.dst h.m)
theorem oU (h : f7) (q : Pk) : ex st (dE h) q = some (ol (eu q h) (fN q 1 h.pt)) := by
  rw [hU]
  show iV st (((0, h.sw) :: cG h.src h.dst h.m).map fc ++ [⟨5, 1, h.pt, []⟩]) [q] = _
  rw [ku, oT]
  have := rD st q ((0, h.sw) :: cG h.src h.dst h.m) true
  rw [show [q] = ol true q from rfl, this, Option.bind_some, Bool.true_and]
  show fo (f6 st) (ol (eu q h) q) [⟨5, 1, h.pt, []⟩] = _
  simp only [fo]
  have e : f6 st (ol (eu q h) q) ⟨5, 1, h.pt, []⟩ = some (ol (eu q h) (fN q 1 h.pt)) := by
    unfold f6
    cases eu q h with
    | false => exact hY _ _ _ fun x => Iff.rfl
    | true =>
      have e2 : ex st ⟨5, 1, h.pt, []⟩ q = some [fN q 1 h.pt] := by rw [hU]; rfl
      simp only [ol, if_true, fo, iF, e2, Option.map_some, Option.bind_some, List.nil_append]
      exact hY _ true _ fun x => by simp [ol]
  rw [e]; rfl
theorem rF {q x : Pk} (b : al → Bool) {ks : List al} (h : ∀ k ∈ ks, ex st k q = some (ol (b k) x)) : ex st (eK ks) q = some (ol (ks.any b) x) := by
  have loop : ∀ (l : List al) (c : Bool), (∀ k ∈ l, ex st k q = some (ol (b k) x)) → fo (hX st q) (ol c x) l = some (ol (c || l.any b) x) := by
    intro l
    induction l with
    | nil => intro c _; simp [fo]
    | cons k l ih =>
      intro c hl
      simp only [fo]
      have e : hX st q (ol c x) k = some (ol (c || b k) x) := by
        unfold hX
        rw [hl k (by simp), Option.bind_some]
        exact hY _ _ _ fun y => by
          simp only [List.mem_append, vv, Bool.or_eq_true]
          constructor
          · rintro (h | h)
            · exact ⟨h.1, .inl h.2⟩
            · exact ⟨h.1, .inr h.2⟩
          · rintro ⟨h, h' | h'⟩
            · exact .inl ⟨h, h'⟩
            · exact .inr ⟨h, h'⟩
      rw [e, Option.bind_some, ih (c || b k) fun y hy => hl y (by simp [hy])]
      simp only [List.any_cons, Bool.or_assoc]
  match ks, h with
  | [], _ => rw [hU]; rfl
  | [k], h =>
    show ex st k q = _
    rw [h k (by simp)]
    simp
  | k :: k' :: l, h =>
    rw [hU]
    show kr st (k :: k' :: l) q [] = _
    rw [mT]
    have := loop (k :: k' :: l) false h
    simpa [ol] using this
theorem vC {q x : Pk} (w b : al → Bool) {ws bs : List al} (hw : ∀ k ∈ ws, ex st k q = some (ol (w k) x)) (hb : ∀ k ∈ bs, ex st k q = some (ol (b k) q)) : ex st (gD ws bs) q = some (ol (!(bs.any b) && ws.any w) x) := by
  unfold gD
  split
  · rename_i h0
    have : bs = [] := List.eq_nil_of_length_eq_zero h0
    subst this
    rw [rF st w hw]; simp
  · rw [hU]
    show iV st [⟨4, 0, 0, [eK bs]⟩, eK ws] [q] = _
    rw [ku]
    have e1 : ex st ⟨4, 0, 0, [eK bs]⟩ q = some (ol (!(bs.any b)) q) := by
      rw [hU]
      show jC st [eK bs] q = _
      rw [jC, rF st b hb, Option.bind_some]
      cases bs.any b <;> simp [ol]
    have e2 := rF st w hw
    simp only [fo, f6, iF, e1, Option.map_some, Option.bind_some, List.nil_append]
    rw [hY (ol (!(bs.any b)) q) (!(bs.any b)) q fun _ => Iff.rfl, Option.bind_some]
    cases hc : bs.any b with
    | true =>
      simp only [Bool.not_true, ol, Bool.false_and, Bool.false_eq_true, if_false, fo, Option.bind_some]
      rw [hY [] false x fun y => by simp [ol]]
      rfl
    | false =>
      simp only [Bool.not_false, ol, if_true, Bool.true_and, fo, iF, e2, Option.map_some, Option.bind_some, List.nil_append]
      have := hY (ol (ws.any w) x) (ws.any w) x fun _ => Iff.rfl
      simp only [ol] at this
      rw [this]; rfl
end
def mU (l : List (Int × Int)) : Prop := ∀ p ∈ l, 0 ≤ p.1 ∧ p.1 < 8
theorem vD {l : List (Int × Int)} (h : mU l) : ∀ k ∈ l.map fc, cL 4 k = true ∧ eS k = true := by
  intro k hk
  obtain ⟨p, hp, rfl⟩ := List.mem_map.1 hk
  have := h p hp
  refine ⟨?_, ?_⟩
  · rw [f4]
    simp [fc, this.1, this.2]
  · rw [lu]
    simp [fc]
theorem AF {b : Bn} (h : mU (cG b.src b.dst b.m)) : cL 4 (dF b) = true ∧ eS (dF b) = true := by
  have ht := vD h
  refine ⟨?_, ?_⟩
  · rw [f4]
    rw [if_neg (by simp [dF]), if_neg (by simp [dF]), if_pos (by simp [dF])]
    simp only [dF, Bool.and_eq_true, decide_eq_true_eq, List.all_eq_true]
    exact ⟨⟨by simp [cG], trivial, trivial⟩, fun k hk => (ht k hk).1⟩
  · rw [lu]
    rw [if_neg (by simp [dF]), if_pos (by simp [dF])]
    simp only [dF, List.all_eq_true]
    exact fun k hk => (ht k hk).2
theorem AG {h : f7} (ht : mU (cG h.src h.dst h.m)) : cL 4 (dE h) = true := by
  have ht2 : mU ((0, h.sw) :: cG h.src h.dst h.m) := by
    intro p hp
    rcases List.mem_cons.1 hp with rfl | hp
    · exact ⟨Int.le_refl _, by simp⟩
    · exact ht p hp
  have hf := vD ht2
  rw [f4]
  rw [if_neg (by simp [dE]), if_neg (by simp [dE]), if_pos (by simp [dE])]
  simp only [dE, Bool.and_eq_true, decide_eq_true_eq, List.all_eq_true]
  refine ⟨⟨by simp [cG], trivial, trivial⟩, fun k hk => ?_⟩
  rcases List.mem_append.1 hk with hk | hk
  · exact (hf k hk).1
  · rw [List.mem_singleton] at hk
    subst hk
    rw [f4]; rfl
theorem rG {ks : List al} (h : ∀ k ∈ ks, cL 4 k = true) : cL 4 (eK ks) = true := by
  match ks, h with
  | [], _ => rw [f4]; rfl
  | [k], h => exact h k (by simp)
  | k :: k' :: l, h =>
    rw [f4]
    simp only [eK]
    rw [if_neg (by simp), if_neg (by simp), if_pos (by simp)]
    simp only [Bool.and_eq_true, decide_eq_true_eq, List.all_eq_true]
    exact ⟨⟨by simp, trivial, trivial⟩, h⟩
theorem AH {ks : List al} (h : ∀ k ∈ ks, eS k = true) : eS (eK ks) = true := by
  match ks, h with
  | [], _ => rw [lu]; rfl
  | [k], h => exact h k (by simp)
  | k :: k' :: l, h =>
    rw [lu]
    simp only [eK]
    rw [if_neg (by simp), if_pos (by simp)]
    simp only [List.all_eq_true]
    exact h
theorem AI {ws bs : List al} (hw : ∀ k ∈ ws, cL 4 k = true) (hb : ∀ k ∈ bs, cL 4 k = true ∧ eS k = true) : cL 4 (gD ws bs) = true := by
  unfold gD
  split
  · exact rG hw
  · have h1 : cL 4 ⟨4, 0, 0, [eK bs]⟩ = true := by
      rw [f4]
      rw [if_neg (by simp), if_pos rfl]
      simp [rG fun k hk => (hb k hk).1, AH fun k hk => (hb k hk).2]
    rw [f4]
    rw [if_neg (by simp), if_neg (by simp), if_pos (by simp)]
    simp [h1, rG hw]
end Go.AM
end
section
set_option linter.unusedVariables false
namespace Go.AM
open Go
theorem rH (x : Int) : ∀ l : List Int, (ki x l).Perm (x :: l)
  | [] => List.Perm.refl _
  | y :: l => by
    unfold ki
    split
    · exact List.Perm.refl _
    · exact (List.Perm.cons y (rH x l)).trans (List.Perm.swap x y l)
theorem ky : ∀ l : List Int, (db l).Perm l
  | [] => List.Perm.refl _
  | x :: l => (rH x _).trans (List.Perm.cons x (ky l))
theorem vE (x : Int) : ∀ l : List Int, l.Pairwise (· ≤ ·) → (ki x l).Pairwise (· ≤ ·)
  | [], _ => by simp [ki]
  | y :: l, h => by
    unfold ki
    rw [List.pairwise_cons] at h
    split
    · rename_i hxy
      refine List.pairwise_cons.2 ⟨fun z hz => ?_, List.pairwise_cons.2 h⟩
      rcases List.mem_cons.1 hz with rfl | hz
      · exact hxy
      · have := h.1 z hz; omega
    · rename_i hxy
      refine List.pairwise_cons.2 ⟨fun z hz => ?_, vE x l h.2⟩
      rcases List.mem_cons.1 ((rH x l).mem_iff.1 hz) with rfl | hz
      · omega
      · exact h.1 z hz
theorem oV : ∀ l : List Int, (db l).Pairwise (· ≤ ·)
  | [] => List.Pairwise.nil
  | x :: l => vE x _ (oV l)
theorem AJ (l : List Int) : (l.mergeSort fun x y => decide (x ≤ y)) = db l := by
  have h1 := List.pairwise_mergeSort (le := fun x y : Int => decide (x ≤ y)) (fun a b c h k => by simp at h k ⊢; omega) (fun a b => by simp; omega) l
  exact List.Perm.eq_of_pairwise (le := fun a b : Int => a ≤ b) (fun a b _ _ h k => by omega) (h1.imp fun h => by simpa using h) (oV l) ((List.mergeSort_perm _ _).trans (ky l).symm)
end Go.AM
end
section
set_option linter.unusedVariables false
set_option linter.unusedSimpArgs false
namespace Go.AM
open Go
def gm (acc : List Int) (x : Int) : List Int := if acc.getLast? = some x then acc else acc ++ [x]
def iG (l : List Int) : List Int := l.foldl gm []
def lC (l : List Int) : List Int := iG (db l)
theorem AK (acc : List Int) (x : Int) : (gm acc x).getLast? = some x := by
  unfold gm; split
  · assumption
  · simp
theorem rI : ∀ (l acc : List Int), acc.Pairwise (· < ·) → (∀ a ∈ acc, ∀ y ∈ l, a ≤ y) → l.Pairwise (· ≤ ·) → (l.foldl gm acc).Pairwise (· < ·) ∧ ∀ x, x ∈ l.foldl gm acc ↔ x ∈ acc ∨ x ∈ l
  | [], acc, h, _, _ => ⟨h, fun x => by simp⟩
  | y :: l, acc, h, hy, ho => by
    obtain ⟨o1, o2⟩ := List.pairwise_cons.1 ho
    rw [List.foldl_cons]
    have key : (gm acc y).Pairwise (· < ·) ∧ ∀ x, x ∈ gm acc y ↔ x ∈ acc ∨ x = y := by
      unfold gm
      split
      · rename_i hl
        refine ⟨h, fun x => ⟨.inl, fun hx => hx.elim id fun e => ?_⟩⟩
        subst e; exact List.mem_of_getLast? hl
      · rename_i hl
        refine ⟨?_, fun x => by simp⟩
        rw [List.pairwise_append]
        refine ⟨h, List.pairwise_singleton _ _, fun a ha b hb => ?_⟩
        rw [List.mem_singleton] at hb
        subst hb
        have h1 := hy a ha b (List.mem_cons_self ..)
        by_cases h0 : a = b
        · exfalso
          subst h0
          obtain ⟨z, hz⟩ : ∃ z, acc.getLast? = some z := by
            cases acc with
            | nil => cases ha
            | cons c t => exact ⟨_, List.getLast?_cons⟩
          obtain ⟨pre, rfl⟩ := List.getLast?_eq_some_iff.1 hz
          have hzb := hy z (by simp) a (List.mem_cons_self ..)
          rcases List.mem_append.1 ha with ha' | ha'
          · have := (List.pairwise_append.1 h).2.2 a ha' z (by simp)
            omega
          · rw [List.mem_singleton] at ha'
            subst ha'
            exact hl hz
        · omega
    obtain ⟨k1, k2⟩ := key
    obtain ⟨r1, r2⟩ := rI l (gm acc y) k1 (fun a ha z hz => by
      rcases (k2 a).1 ha with ha | rfl
      · exact hy a ha z (List.mem_cons_of_mem _ hz)
      · exact o1 z hz) o2
    refine ⟨r1, fun x => ?_⟩
    rw [r2, k2]
    simp only [List.mem_cons]
    constructor
    · rintro ((h | h) | h)
      · exact .inl h
      · exact .inr (.inl h)
      · exact .inr (.inr h)
    · rintro (h | h | h)
      · exact .inl (.inl h)
      · exact .inl (.inr h)
      · exact .inr h
theorem AL (l : List Int) : (lC l).Pairwise (· < ·) := (rI _ [] List.Pairwise.nil (fun a h => by cases h) (oV l)).1
theorem vF (l : List Int) (x : Int) : x ∈ lC l ↔ x ∈ l := by
  unfold lC iG
  rw [(rI _ [] List.Pairwise.nil (fun a h => by cases h) (oV l)).2]
  simp [(ky l).mem_iff]
theorem rJ {l : List Int} {j : Nat} {x : Int} (h : l[j]? = some x) : iG (l.take (j + 1)) = gm (iG (l.take j)) x := by
  unfold iG
  rw [List.take_add_one, h]
  simp [List.foldl_append]
theorem vG {l : List Int} {j : Nat} {x : Int} (h : l[j]? = some x) : (iG (l.take (j + 1))).getLast? = some x := by
  rw [rJ h]; exact AK _ _
theorem lD {n : Int} (h0 : 0 ≤ n) (h : n ≤ 10000000) : IntKind.i64.wrap n = n := by
  simp [IntKind.wrap, IntKind.bits, IntKind.signed]; omega
structure rK (a0 : List Int) (i2 j : Nat) (s : List Int × Int) : Prop where
  len : s.1.length = a0.length
  c : ∃ c : Nat, s.2 = c ∧ c + 1 ≤ i2 + j ∧ s.1.take c = iG (a0.take (i2 + j)) ∧ ∀ t, c ≤ t → s.1[t]? = a0[t]?
theorem AN {a0 : List Int} {i2 : Nat} (hb : a0.length ≤ 1000000) (h2 : i2 + 1 ≤ a0.length) (hi : rK a0 i2 1 (a0, (i2 : Int))) :
    ∃ s, cQ (n9 a0 i2) (bA 1 ((a0.length - i2 : Nat) : Int)) (a0, (i2 : Int)) = some s ∧ rK a0 i2 (a0.length - i2) s := by
  have := n6 (n9 a0 i2) (rK a0 i2) (a0.length - i2 - 1) 1 (a0, (i2 : Int)) hi (fun j s hj1 hj2 ⟨hl, c, hc, hcj, htk, hun⟩ => by
    obtain ⟨l12, i13⟩ := s
    simp only at hl hc htk hun
    subst hc
    have hjl : i2 + j < a0.length := by omega
    have hx : a0[i2 + j]? = some a0[i2 + j] := bU hjl
    have hy : a0[i2 + (j - 1)]? = some (a0[i2 + (j - 1)]'(by omega)) := bU (by omega)
    have lx : l12[i2 + j]? = some a0[i2 + j] := by rw [hun _ (by omega), hx]
    have ly : l12[i2 + (j - 1)]? = some (a0[i2 + (j - 1)]'(by omega)) := by rw [hun _ (by omega), hy]
    generalize a0[i2 + j] = x at hx lx
    generalize a0[i2 + (j - 1)]'(by omega) = y at hy ly
    have w1 : IntKind.i64.wrap ((j : Int) - 1) = ((j - 1 : Nat) : Int) := by rw [lD (by omega) (by omega)]; omega
    have g1 : be l12 ((i2 : Int) + (j : Int)) = some x := by rw [show ((i2 : Int) + (j : Int)) = ((i2 + j : Nat) : Int) by omega, cd, lx]
    have g2 : be l12 ((i2 : Int) + ((j - 1 : Nat) : Int)) = some y := by rw [show ((i2 : Int) + ((j - 1 : Nat) : Int)) = ((i2 + (j - 1) : Nat) : Int) by omega, cd, ly]
    have v1 : iT l12 i2 (a0.length : Int) j = some x := by unfold iT; rw [if_pos (by omega), g1]
    have v2 : iT l12 i2 (a0.length : Int) ((j - 1 : Nat) : Int) = some y := by unfold iT; rw [if_pos (by omega), g2]
    have hlast := vG hy
    rw [show i2 + (j - 1) + 1 = i2 + j by omega] at hlast
    have hnew := rJ hx
    simp only [n9, w1, v1, v2, g1, g2, Option.bind_some]
    by_cases e : x = y
    · subst e
      simp only [bne_self_eq_false, Bool.false_eq_true, if_false, Option.bind_some]
      refine ⟨_, rfl, hl, c, rfl, by omega, ?_, hun⟩
      simp only
      rw [← Nat.add_assoc, hnew]
      unfold gm
      rw [if_pos hlast]; exact htk
    · have e' : (x != y) = true := by simpa using e
      rw [e']
      have hcl : c < l12.length := by omega
      have gc : be l12 (c : Int) = some l12[c] := by rw [cd]; exact bU hcl
      have gp : di l12 (c : Int) x = some (l12.set c x) := by
        unfold di; rw [if_pos (by omega), if_pos (by omega)]; simp
      simp only [if_true, gc, gp, Option.bind_some]
      refine ⟨_, rfl, by simp [hl], c + 1, ?_, by omega, ?_, fun t ht => ?_⟩
      · simp only; rw [lD (by omega) (by omega)]; omega
      · simp only
        rw [← Nat.add_assoc, hnew]
        unfold gm
        rw [if_neg (by rw [hlast]; intro h; exact e (bM h).symm)]
        rw [List.take_add_one, List.getElem?_set_self hcl, List.take_set_of_le (Nat.le_refl c), htk]; rfl
      · simp only
        rw [List.getElem?_set_ne (by omega)]
        exact hun t (by omega))
  obtain ⟨s, e, h⟩ := this
  rw [show 1 + (a0.length - i2 - 1) = a0.length - i2 by omega] at e h
  exact ⟨s, e, h⟩
theorem AO {a0 : List Int} (hb : a0.length ≤ 1000000) : my a0 = some (iG a0) := by
  unfold my
  by_cases hs : a0.length < 2
  · rw [decide_eq_true (by omega), if_pos rfl]
    match a0, hs with
    | [], _ => rfl
    | [x], _ => rfl
  · rw [decide_eq_false (by omega), if_neg (by simp)]
    have := ms (mx a0) (fun i _ => iG (a0.take i) = a0.take i) (fun _ => False) (fun r => r = iG a0) (a0.length - 1) 1 () (by
      match a0, hs with
      | x :: l, _ => rfl) (fun i s hi1 hi2 hP => by
      have hx : a0[i]? = some (a0[i]'(by omega)) := bU (by omega)
      have hy : a0[i - 1]? = some (a0[i - 1]'(by omega)) := bU (by omega)
      generalize (a0[i]'(by omega)) = x at hx
      generalize (a0[i - 1]'(by omega)) = y at hy
      have w1 : IntKind.i64.wrap ((i : Int) - 1) = ((i - 1 : Nat) : Int) := by rw [lD (by omega) (by omega)]; omega
      have hlast := vG hy
      rw [show i - 1 + 1 = i by omega] at hlast
      have hnew := rJ hx
      simp only [mx, w1, cd, hx, hy, Option.bind_some]
      by_cases e : x = y
      · subst e
        have hc : eF a0 (i : Int) (a0.length : Int) = some (a0.drop i) := by
          unfold eF; rw [if_pos (by omega)]
          congr 1
          rw [List.take_of_length_le (by simp)]; simp
        have hlen : (((a0.drop i).length : Nat) : Int) = ((a0.length - i : Nat) : Int) := by simp
        simp only [beq_self_eq_true, if_true, hc, Option.bind_some, hlen]
        obtain ⟨⟨z, k⟩, e1, hl, c, hc2, hcj, htk, _⟩ := AN (i2 := i) hb (by omega) ⟨rfl, i, rfl, Nat.le_refl _, by
          simp only
          rw [hnew]; unfold gm; rw [if_pos hlast, hP], fun t _ => rfl⟩
        simp only at hl hc2 htk
        subst hc2
        rw [e1]
        have hcut : eF z (c : Int) (z.length : Int) = some (z.drop c) := by
          unfold eF; rw [if_pos (by omega)]
          congr 1
          rw [List.take_of_length_le (by simp)]; simp
        simp only [Option.bind_some, hcut]
        refine .inr (.inr ⟨_, rfl, ?_⟩)
        rw [show i + (a0.length - i) = a0.length by omega, List.take_length] at htk
        simpa using htk
      · have e' : (x == y) = false := by simpa using e
        rw [e']
        simp only [Bool.false_eq_true, if_false]
        refine .inl ⟨(), trivial, ?_⟩
        rw [hnew, hP]
        unfold gm
        rw [hP] at hlast
        rw [if_neg (by rw [hlast]; intro h; exact e (bM h).symm), List.take_add_one, hx]; rfl)
    rw [show 1 + (a0.length - 1) = a0.length by omega] at this
    rcases this with ⟨s', e, h | h⟩ | ⟨r, e, h⟩
    · have e : b6 (mx a0) (bA 1 (a0.length : Int)) () = some (.done s') := e
      rw [e]
      simp only [Option.bind_some]
      rw [List.take_length] at h
      rw [h]
    · exact h.elim
    · have e : b6 (mx a0) (bA 1 (a0.length : Int)) () = some (.ret r) := e
      rw [e]
      simp only [Option.bind_some]
      rw [h]
theorem AP {l : List Int} (hb : l.length ≤ 1000000) : my (db l) = some (lC l) := AO (by rw [(ky l).length_eq]; exact hb)
theorem oW {σ : Type} {f : σ → Option (σ ⊕ σ)} (P Q : σ → Prop) (m : σ → Nat) (hs : ∀ s, P s → (∃ s', f s = some (.inl s') ∧ P s' ∧ m s' < m s) ∨ ∃ s', f s = some (.inr s') ∧ Q s') : ∀ (k : Nat) (s : σ), P s → m s < k → ∃ r, iz f k s = some r ∧ Q r
  | 0, s, _, h => by omega
  | k + 1, s, hp, h => by
    simp only [iz]
    rcases hs s hp with ⟨s', e, p', hm⟩ | ⟨s', e, q⟩
    · rw [e]
      exact oW P Q m hs k s' p' (by omega)
    · rw [e]
      exact ⟨s', rfl, q⟩
theorem iH {σ : Type} (f : Int → σ → Option σ) (P : Nat → σ → Prop) (n : Nat) (s : σ) (h0 : P 0 s) (hs : ∀ j s, j < n → P j s → ∃ s', f (j : Int) s = some s' ∧ P (j + 1) s') : ∃ s', cQ f (bA 0 (n : Int)) s = some s' ∧ P n s' := by
  have := n6 f P n 0 s h0 (fun j s _ hj => hs j s (by omega))
  simpa using this
theorem vH {σ : Type} (f : Int → σ → Option (σ ⊕ σ)) (P : Nat → σ → Prop) (B : σ → Prop) : ∀ (k i : Nat) (s : σ), P i s → (∀ j s, i ≤ j → j < i + k → P j s → (∃ s', f (j : Int) s = some (.inl s') ∧ P (j + 1) s') ∨ ∃ s', f (j : Int) s = some (.inr s') ∧ B s') →
    ∃ s', ka f (bA (i : Int) ((i + k : Nat) : Int)) s = some s' ∧ (P (i + k) s' ∨ B s')
  | 0, i, s, h, _ => ⟨s, by rw [show i + 0 = i from rfl, k7]; rfl, .inl h⟩
  | k + 1, i, s, h, hs => by
    rw [k6]
    simp only [ka]
    rcases hs i s (Nat.le_refl _) (by omega) h with ⟨s1, e1, h1⟩ | ⟨s1, e1, h1⟩
    · rw [e1]
      simp only [Option.bind_some]
      rw [show i + (k + 1) = i + 1 + k by omega]
      exact vH f P B k (i + 1) s1 h1 fun j s hj hk => hs j s (by omega) (by omega)
    · rw [e1]; exact ⟨s1, rfl, .inr h1⟩
theorem iX {α : Type} {l : List α} {i : Nat} (v : α) (h : i < l.length) : di l (i : Int) v = some (l.set i v) := by
  unfold di; rw [if_pos (by omega), if_pos (by simpa using h)]; simp
end Go.AM
end
