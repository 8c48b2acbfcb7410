import Derived.Test.YtnnkfanmokeiaaaRP9
import Derived.Test.YtnnkfanmokeiaaaRtT
import Derived.Test.YtnnkfanmokeiaaaAmPv
/-  Several texts in one. -/
section
set_option linter.unusedVariables false
set_option linter.unusedSimpArgs false
namespace Go.AM
open Go
structure fT where
  sw : Int
  src : Int
  dst : Int
  m : List api_Pair
  pt : Int
def eO (p : Int × Int) : aj := ⟨2, p.1, p.2, []⟩
def cD (s d : Int) (m : List api_Pair) : List (Int × Int) := (2, s) :: (3, d) :: m.map fun p => (p.F, p.N)
def dp (h : fT) : aj := ⟨6, 0, 0, ((0, h.sw) :: cD h.src h.dst h.m).map eO ++ [⟨5, 1, h.pt, []⟩]⟩
structure Bn where
  src : Int
  dst : Int
  m : List api_Pair
def dq (b : Bn) : aj := ⟨6, 0, 0, (cD b.src b.dst b.m).map eO⟩
def eo : List aj → aj
  | [] => ⟨0, 0, 0, []⟩
  | [x] => x
  | x :: y :: l => ⟨7, 0, 0, x :: y :: l⟩
def gh (ws bs : List aj) : aj := if bs.length = 0 then eo ws else ⟨6, 0, 0, [⟨4, 0, 0, [eo bs]⟩, eo ws]⟩
def dQ (q : Pk) (l : List (Int × Int)) : Bool := l.all fun p => q.get p.1 == some p.2
section
variable (st : List Int)
theorem rf (q : Pk) : ∀ (l : List (Int × Int)) (b : Bool), fo (fR st) (ol b q) (l.map eO) = some (ol (b && dQ q l) q)
  | [], b => by simp [fo, dQ]
  | p :: l, b => by
    simp only [List.map_cons, fo]
    have e : fR st (ol b q) (eO p) = some (ol (b && (q.get p.1 == some p.2)) q) := by
      unfold fR
      cases b with
      | false => exact gW _ _ _ fun x => Iff.rfl
      | true =>
        have e2 : ex st (eO p) q = some (ol (q.get p.1 == some p.2) q) := by rw [gU]; rfl
        simp only [ol, if_true, fo, ir, e2, Option.map_some, Option.bind_some, List.nil_append]
        exact gW _ _ _ fun x => by simp [ol]
    rw [e, Option.bind_some, rf q l]
    simp only [dQ, List.all_cons, Bool.and_assoc]
theorem rg (b : Bn) (q : Pk) : ex st (dq b) q = some (ol (dQ q (cD b.src b.dst b.m)) q) := by
  rw [gU]
  show iJ st ((cD b.src b.dst b.m).map eO) [q] = _
  rw [j5]
  have := rf st q (cD b.src b.dst b.m) true
  simpa [ol] using this
def dV (q : Pk) (h : fT) : Bool := dQ q ((0, h.sw) :: cD h.src h.dst h.m)
theorem oy (h : fT) (q : Pk) : ex st (dp h) q = some (ol (dV q h) (fj q 1 h.pt)) := by
  rw [gU]
  show iJ st (((0, h.sw) :: cD h.src h.dst h.m).map eO ++ [⟨5, 1, h.pt, []⟩]) [q] = _
  rw [j5, ox]
  have := rf st q ((0, h.sw) :: cD h.src h.dst h.m) true
  rw [show [q] = ol true q from rfl, this, Option.bind_some, Bool.true_and]
  show fo (fR st) (ol (dV q h) q) [⟨5, 1, h.pt, []⟩] = _
  simp only [fo]
  have e : fR st (ol (dV q h) q) ⟨5, 1, h.pt, []⟩ = some (ol (dV q h) (fj q 1 h.pt)) := by
    unfold fR
    cases dV q h with
    | false => exact gW _ _ _ fun x => Iff.rfl
    | true =>
      have e2 : ex st ⟨5, 1, h.pt, []⟩ q = some [fj q 1 h.pt] := by rw [gU]; rfl
      simp only [ol, if_true, fo, ir, e2, Option.map_some, Option.bind_some, List.nil_append]
      exact gW _ true _ fun x => by simp [ol]
  rw [e]; rfl
theorem rh {q x : Pk} (b : aj → Bool) {ks : List aj} (h : ∀ k ∈ ks, ex st k q = some (ol (b k) x)) : ex st (eo ks) q = some (ol (ks.any b) x) := by
  have loop : ∀ (l : List aj) (c : Bool), (∀ k ∈ l, ex st k q = some (ol (b k) x)) → fo (gV st q) (ol c x) l = some (ol (c || l.any b) x) := by
    intro l
    induction l with
    | nil => intro c _; simp [fo]
    | cons k l ih =>
      intro c hl
      simp only [fo]
      have e : gV st q (ol c x) k = some (ol (c || b k) x) := by
        unfold gV
        rw [hl k (by simp), Option.bind_some]
        exact gW _ _ _ fun y => by
          simp only [List.mem_append, uX, Bool.or_eq_true]
          constructor
          · rintro (h | h)
            · exact ⟨h.1, .inl h.2⟩
            · exact ⟨h.1, .inr h.2⟩
          · rintro ⟨h, h' | h'⟩
            · exact .inl ⟨h, h'⟩
            · exact .inr ⟨h, h'⟩
      rw [e, Option.bind_some, ih (c || b k) fun y hy => hl y (by simp [hy])]
      simp only [List.any_cons, Bool.or_assoc]
  match ks, h with
  | [], _ => rw [gU]; rfl
  | [k], h =>
    show ex st k q = _
    rw [h k (by simp)]
    simp
  | k :: k' :: l, h =>
    rw [gU]
    show j4 st (k :: k' :: l) q [] = _
    rw [mq]
    have := loop (k :: k' :: l) false h
    simpa [ol] using this
theorem u5 {q x : Pk} (w b : aj → Bool) {ws bs : List aj} (hw : ∀ k ∈ ws, ex st k q = some (ol (w k) x)) (hb : ∀ k ∈ bs, ex st k q = some (ol (b k) q)) : ex st (gh ws bs) q = some (ol (!(bs.any b) && ws.any w) x) := by
  unfold gh
  split
  · rename_i h0
    have : bs = [] := List.eq_nil_of_length_eq_zero h0
    subst this
    rw [rh st w hw]; simp
  · rw [gU]
    show iJ st [⟨4, 0, 0, [eo bs]⟩, eo ws] [q] = _
    rw [j5]
    have e1 : ex st ⟨4, 0, 0, [eo bs]⟩ q = some (ol (!(bs.any b)) q) := by
      rw [gU]
      show jl st [eo bs] q = _
      rw [jl, rh st b hb, Option.bind_some]
      cases bs.any b <;> simp [ol]
    have e2 := rh st w hw
    simp only [fo, fR, ir, e1, Option.map_some, Option.bind_some, List.nil_append]
    rw [gW (ol (!(bs.any b)) q) (!(bs.any b)) q fun _ => Iff.rfl, Option.bind_some]
    cases hc : bs.any b with
    | true =>
      simp only [Bool.not_true, ol, Bool.false_and, Bool.false_eq_true, if_false, fo, Option.bind_some]
      rw [gW [] false x fun y => by simp [ol]]
      rfl
    | false =>
      simp only [Bool.not_false, ol, if_true, Bool.true_and, fo, ir, e2, Option.map_some, Option.bind_some, List.nil_append]
      have := gW (ol (ws.any w) x) (ws.any w) x fun _ => Iff.rfl
      simp only [ol] at this
      rw [this]; rfl
end
def mr (l : List (Int × Int)) : Prop := ∀ p ∈ l, 0 ≤ p.1 ∧ p.1 < 8
theorem u6 {l : List (Int × Int)} (h : mr l) : ∀ k ∈ l.map eO, cJ 4 k = true ∧ eB k = true := by
  intro k hk
  obtain ⟨p, hp, rfl⟩ := List.mem_map.1 hk
  have := h p hp
  refine ⟨?_, ?_⟩
  · rw [fP]
    simp [eO, this.1, this.2]
  · rw [kV]
    simp [eO]
theorem zY {b : Bn} (h : mr (cD b.src b.dst b.m)) : cJ 4 (dq b) = true ∧ eB (dq b) = true := by
  have ht := u6 h
  refine ⟨?_, ?_⟩
  · rw [fP]
    rw [if_neg (by simp [dq]), if_neg (by simp [dq]), if_pos (by simp [dq])]
    simp only [dq, Bool.and_eq_true, decide_eq_true_eq, List.all_eq_true]
    exact ⟨⟨by simp [cD], trivial, trivial⟩, fun k hk => (ht k hk).1⟩
  · rw [kV]
    rw [if_neg (by simp [dq]), if_pos (by simp [dq])]
    simp only [dq, List.all_eq_true]
    exact fun k hk => (ht k hk).2
theorem zZ {h : fT} (ht : mr (cD h.src h.dst h.m)) : cJ 4 (dp h) = true := by
  have ht2 : mr ((0, h.sw) :: cD h.src h.dst h.m) := by
    intro p hp
    rcases List.mem_cons.1 hp with rfl | hp
    · exact ⟨Int.le_refl _, by simp⟩
    · exact ht p hp
  have hf := u6 ht2
  rw [fP]
  rw [if_neg (by simp [dp]), if_neg (by simp [dp]), if_pos (by simp [dp])]
  simp only [dp, Bool.and_eq_true, decide_eq_true_eq, List.all_eq_true]
  refine ⟨⟨by simp [cD], trivial, trivial⟩, fun k hk => ?_⟩
  rcases List.mem_append.1 hk with hk | hk
  · exact (hf k hk).1
  · rw [List.mem_singleton] at hk
    subst hk
    rw [fP]; rfl
theorem rk {ks : List aj} (h : ∀ k ∈ ks, cJ 4 k = true) : cJ 4 (eo ks) = true := by
  match ks, h with
  | [], _ => rw [fP]; rfl
  | [k], h => exact h k (by simp)
  | k :: k' :: l, h =>
    rw [fP]
    simp only [eo]
    rw [if_neg (by simp), if_neg (by simp), if_pos (by simp)]
    simp only [Bool.and_eq_true, decide_eq_true_eq, List.all_eq_true]
    exact ⟨⟨by simp, trivial, trivial⟩, h⟩
theorem z6 {ks : List aj} (h : ∀ k ∈ ks, eB k = true) : eB (eo ks) = true := by
  match ks, h with
  | [], _ => rw [kV]; rfl
  | [k], h => exact h k (by simp)
  | k :: k' :: l, h =>
    rw [kV]
    simp only [eo]
    rw [if_neg (by simp), if_pos (by simp)]
    simp only [List.all_eq_true]
    exact h
theorem z7 {ws bs : List aj} (hw : ∀ k ∈ ws, cJ 4 k = true) (hb : ∀ k ∈ bs, cJ 4 k = true ∧ eB k = true) : cJ 4 (gh ws bs) = true := by
  unfold gh
  split
  · exact rk hw
  · have h1 : cJ 4 ⟨4, 0, 0, [eo bs]⟩ = true := by
      rw [fP]
      rw [if_neg (by simp), if_pos rfl]
      simp [rk fun k hk => (hb k hk).1, z6 fun k hk => (hb k hk).2]
    rw [fP]
    rw [if_neg (by simp), if_neg (by simp), if_pos (by simp)]
    simp [h1, rk hw]
end Go.AM
end
section
set_option linter.unusedVariables false
namespace Go.AM
open Go
theorem rm (x : Int) : ∀ l : List Int, (jW x l).Perm (x :: l)
  | [] => List.Perm.refl _
  | y :: l => by
    unfold jW
    split
    · exact List.Perm.refl _
    · exact (List.Perm.cons y (rm x l)).trans (List.Perm.swap x y l)
theorem j8 : ∀ l : List Int, (cZ l).Perm l
  | [] => List.Perm.refl _
  | x :: l => (rm x _).trans (List.Perm.cons x (j8 l))
theorem u7 (x : Int) : ∀ l : List Int, l.Pairwise (· ≤ ·) → (jW x l).Pairwise (· ≤ ·)
  | [], _ => by simp [jW]
  | y :: l, h => by
    unfold jW
    rw [List.pairwise_cons] at h
    split
    · rename_i hxy
      refine List.pairwise_cons.2 ⟨fun z hz => ?_, List.pairwise_cons.2 h⟩
      rcases List.mem_cons.1 hz with rfl | hz
      · exact hxy
      · have := h.1 z hz; omega
    · rename_i hxy
      refine List.pairwise_cons.2 ⟨fun z hz => ?_, u7 x l h.2⟩
      rcases List.mem_cons.1 ((rm x l).mem_iff.1 hz) with rfl | hz
      · omega
      · exact h.1 z hz
theorem oz : ∀ l : List Int, (cZ l).Pairwise (· ≤ ·)
  | [] => List.Pairwise.nil
  | x :: l => u7 x _ (oz l)
theorem z8 (l : List Int) : (l.mergeSort fun x y => decide (x ≤ y)) = cZ l := by
  have h1 := List.pairwise_mergeSort (le := fun x y : Int => decide (x ≤ y)) (fun a b c h k => by simp at h k ⊢; omega) (fun a b => by simp; omega) l
  exact List.Perm.eq_of_pairwise (le := fun a b : Int => a ≤ b) (fun a b _ _ h k => by omega) (h1.imp fun h => by simpa using h) (oz l) ((List.mergeSort_perm _ _).trans (j8 l).symm)
end Go.AM
end
section
set_option linter.unusedVariables false
set_option linter.unusedSimpArgs false
namespace Go.AM
open Go
def f5 (acc : List Int) (x : Int) : List Int := if acc.getLast? = some x then acc else acc ++ [x]
def iu (l : List Int) : List Int := l.foldl f5 []
def kZ (l : List Int) : List Int := iu (cZ l)
theorem Aa (acc : List Int) (x : Int) : (f5 acc x).getLast? = some x := by
  unfold f5; split
  · assumption
  · simp
theorem ro : ∀ (l acc : List Int), acc.Pairwise (· < ·) → (∀ a ∈ acc, ∀ y ∈ l, a ≤ y) → l.Pairwise (· ≤ ·) → (l.foldl f5 acc).Pairwise (· < ·) ∧ ∀ x, x ∈ l.foldl f5 acc ↔ x ∈ acc ∨ x ∈ l
  | [], acc, h, _, _ => ⟨h, fun x => by simp⟩
  | y :: l, acc, h, hy, ho => by
    obtain ⟨o1, o2⟩ := List.pairwise_cons.1 ho
    rw [List.foldl_cons]
    have key : (f5 acc y).Pairwise (· < ·) ∧ ∀ x, x ∈ f5 acc y ↔ x ∈ acc ∨ x = y := by
      unfold f5
      split
      · rename_i hl
        refine ⟨h, fun x => ⟨.inl, fun hx => hx.elim id fun e => ?_⟩⟩
        subst e; exact List.mem_of_getLast? hl
      · rename_i hl
        refine ⟨?_, fun x => by simp⟩
        rw [List.pairwise_append]
        refine ⟨h, List.pairwise_singleton _ _, fun a ha b hb => ?_⟩
        rw [List.mem_singleton] at hb
        subst hb
        have h1 := hy a ha b (List.mem_cons_self ..)
        by_cases h0 : a = b
        · exfalso
          subst h0
          obtain ⟨z, hz⟩ : ∃ z, acc.getLast? = some z := by
            cases acc with
            | nil => cases ha
            | cons c t => exact ⟨_, List.getLast?_cons⟩
          obtain ⟨pre, rfl⟩ := List.getLast?_eq_some_iff.1 hz
          have hzb := hy z (by simp) a (List.mem_cons_self ..)
          rcases List.mem_append.1 ha with ha' | ha'
          · have := (List.pairwise_append.1 h).2.2 a ha' z (by simp)
            omega
          · rw [List.mem_singleton] at ha'
            subst ha'
            exact hl hz
        · omega
    obtain ⟨k1, k2⟩ := key
    obtain ⟨r1, r2⟩ := ro l (f5 acc y) k1 (fun a ha z hz => by
      rcases (k2 a).1 ha with ha | rfl
      · exact hy a ha z (List.mem_cons_of_mem _ hz)
      · exact o1 z hz) o2
    refine ⟨r1, fun x => ?_⟩
    rw [r2, k2]
    simp only [List.mem_cons]
    constructor
    · rintro ((h | h) | h)
      · exact .inl h
      · exact .inr (.inl h)
      · exact .inr (.inr h)
    · rintro (h | h | h)
      · exact .inl (.inl h)
      · exact .inl (.inr h)
      · exact .inr h
theorem Ab (l : List Int) : (kZ l).Pairwise (· < ·) := (ro _ [] List.Pairwise.nil (fun a h => by cases h) (oz l)).1
theorem u9 (l : List Int) (x : Int) : x ∈ kZ l ↔ x ∈ l := by
  unfold kZ iu
  rw [(ro _ [] List.Pairwise.nil (fun a h => by cases h) (oz l)).2]
  simp [(j8 l).mem_iff]
theorem rp {l : List Int} {j : Nat} {x : Int} (h : l[j]? = some x) : iu (l.take (j + 1)) = f5 (iu (l.take j)) x := by
  unfold iu
  rw [List.take_add_one, h]
  simp [List.foldl_append]
theorem vc {l : List Int} {j : Nat} {x : Int} (h : l[j]? = some x) : (iu (l.take (j + 1))).getLast? = some x := by
  rw [rp h]; exact Aa _ _
theorem k4 {n : Int} (h0 : 0 ≤ n) (h : n ≤ 10000000) : IntKind.i64.wrap n = n := by
  simp [IntKind.wrap, IntKind.bits, IntKind.signed]; omega
structure rq (a0 : List Int) (i2 j : Nat) (s : List Int × Int) : Prop where
  len : s.1.length = a0.length
  c : ∃ c : Nat, s.2 = c ∧ c + 1 ≤ i2 + j ∧ s.1.take c = iu (a0.take (i2 + j)) ∧ ∀ t, c ≤ t → s.1[t]? = a0[t]?
theorem Ac {a0 : List Int} {i2 : Nat} (hb : a0.length ≤ 1000000) (h2 : i2 + 1 ≤ a0.length) (hi : rq a0 i2 1 (a0, (i2 : Int))) :
    ∃ s, cW (nC a0 i2) (bx 1 ((a0.length - i2 : Nat) : Int)) (a0, (i2 : Int)) = some s ∧ rq a0 i2 (a0.length - i2) s := by
  have := ny (nC a0 i2) (rq a0 i2) (a0.length - i2 - 1) 1 (a0, (i2 : Int)) hi (fun j s hj1 hj2 ⟨hl, c, hc, hcj, htk, hun⟩ => by
    obtain ⟨l12, i13⟩ := s
    simp only at hl hc htk hun
    subst hc
    have hjl : i2 + j < a0.length := by omega
    have hx : a0[i2 + j]? = some a0[i2 + j] := bO hjl
    have hy : a0[i2 + (j - 1)]? = some (a0[i2 + (j - 1)]'(by omega)) := bO (by omega)
    have lx : l12[i2 + j]? = some a0[i2 + j] := by rw [hun _ (by omega), hx]
    have ly : l12[i2 + (j - 1)]? = some (a0[i2 + (j - 1)]'(by omega)) := by rw [hun _ (by omega), hy]
    generalize a0[i2 + j] = x at hx lx
    generalize a0[i2 + (j - 1)]'(by omega) = y at hy ly
    have w1 : IntKind.i64.wrap ((j : Int) - 1) = ((j - 1 : Nat) : Int) := by rw [k4 (by omega) (by omega)]; omega
    have g1 : bd l12 ((i2 : Int) + (j : Int)) = some x := by rw [show ((i2 : Int) + (j : Int)) = ((i2 + j : Nat) : Int) by omega, bZ, lx]
    have g2 : bd l12 ((i2 : Int) + ((j - 1 : Nat) : Int)) = some y := by rw [show ((i2 : Int) + ((j - 1 : Nat) : Int)) = ((i2 + (j - 1) : Nat) : Int) by omega, bZ, ly]
    have v1 : iI l12 i2 (a0.length : Int) j = some x := by unfold iI; rw [if_pos (by omega), g1]
    have v2 : iI l12 i2 (a0.length : Int) ((j - 1 : Nat) : Int) = some y := by unfold iI; rw [if_pos (by omega), g2]
    have hlast := vc hy
    rw [show i2 + (j - 1) + 1 = i2 + j by omega] at hlast
    have hnew := rp hx
    simp only [nC, w1, v1, v2, g1, g2, Option.bind_some]
    by_cases e : x = y
    · subst e
      simp only [bne_self_eq_false, Bool.false_eq_true, if_false, Option.bind_some]
      refine ⟨_, rfl, hl, c, rfl, by omega, ?_, hun⟩
      simp only
      rw [← Nat.add_assoc, hnew]
      unfold f5
      rw [if_pos hlast]; exact htk
    · have e' : (x != y) = true := by simpa using e
      rw [e']
      have hcl : c < l12.length := by omega
      have gc : bd l12 (c : Int) = some l12[c] := by rw [bZ]; exact bO hcl
      have gp : dc l12 (c : Int) x = some (l12.set c x) := by
        unfold dc; rw [if_pos (by omega), if_pos (by omega)]; simp
      simp only [if_true, gc, gp, Option.bind_some]
      refine ⟨_, rfl, by simp [hl], c + 1, ?_, by omega, ?_, fun t ht => ?_⟩
      · simp only; rw [k4 (by omega) (by omega)]; omega
      · simp only
        rw [← Nat.add_assoc, hnew]
        unfold f5
        rw [if_neg (by rw [hlast]; intro h; exact e (bK h).symm)]
        rw [List.take_add_one, List.getElem?_set_self hcl, List.take_set_of_le (Nat.le_refl c), htk]; rfl
      · simp only
        rw [List.getElem?_set_ne (by omega)]
        exact hun t (by omega))
  obtain ⟨s, e, h⟩ := this
  rw [show 1 + (a0.length - i2 - 1) = a0.length - i2 by omega] at e h
  exact ⟨s, e, h⟩
theorem Ad {a0 : List Int} (hb : a0.length ≤ 1000000) : lY a0 = some (iu a0) := by
  unfold lY
  by_cases hs : a0.length < 2
  · rw [decide_eq_true (by omega), if_pos rfl]
    match a0, hs with
    | [], _ => rfl
    | [x], _ => rfl
  · rw [decide_eq_false (by omega), if_neg (by simp)]
    have := lU (lX a0) (fun i _ => iu (a0.take i) = a0.take i) (fun _ => False) (fun r => r = iu a0) (a0.length - 1) 1 () (by
      match a0, hs with
      | x :: l, _ => rfl) (fun i s hi1 hi2 hP => by
      have hx : a0[i]? = some (a0[i]'(by omega)) := bO (by omega)
      have hy : a0[i - 1]? = some (a0[i - 1]'(by omega)) := bO (by omega)
      generalize (a0[i]'(by omega)) = x at hx
      generalize (a0[i - 1]'(by omega)) = y at hy
      have w1 : IntKind.i64.wrap ((i : Int) - 1) = ((i - 1 : Nat) : Int) := by rw [k4 (by omega) (by omega)]; omega
      have hlast := vc hy
      rw [show i - 1 + 1 = i by omega] at hlast
      have hnew := rp hx
      simp only [lX, w1, bZ, hx, hy, Option.bind_some]
      by_cases e : x = y
      · subst e
        have hc : d8 a0 (i : Int) (a0.length : Int) = some (a0.drop i) := by
          unfold d8; rw [if_pos (by omega)]
          congr 1
          rw [List.take_of_length_le (by simp)]; simp
        have hlen : (((a0.drop i).length : Nat) : Int) = ((a0.length - i : Nat) : Int) := by simp
        simp only [beq_self_eq_true, if_true, hc, Option.bind_some, hlen]
        obtain ⟨⟨z, k⟩, e1, hl, c, hc2, hcj, htk, _⟩ := Ac (i2 := i) hb (by omega) ⟨rfl, i, rfl, Nat.le_refl _, by
          simp only
          rw [hnew]; unfold f5; rw [if_pos hlast, hP], fun t _ => rfl⟩
        simp only at hl hc2 htk
        subst hc2
        rw [e1]
        have hcut : d8 z (c : Int) (z.length : Int) = some (z.drop c) := by
          unfold d8; rw [if_pos (by omega)]
          congr 1
          rw [List.take_of_length_le (by simp)]; simp
        simp only [Option.bind_some, hcut]
        refine .inr (.inr ⟨_, rfl, ?_⟩)
        rw [show i + (a0.length - i) = a0.length by omega, List.take_length] at htk
        simpa using htk
      · have e' : (x == y) = false := by simpa using e
        rw [e']
        simp only [Bool.false_eq_true, if_false]
        refine .inl ⟨(), trivial, ?_⟩
        rw [hnew, hP]
        unfold f5
        rw [hP] at hlast
        rw [if_neg (by rw [hlast]; intro h; exact e (bK h).symm), List.take_add_one, hx]; rfl)
    rw [show 1 + (a0.length - 1) = a0.length by omega] at this
    rcases this with ⟨s', e, h | h⟩ | ⟨r, e, h⟩
    · have e : bS (lX a0) (bx 1 (a0.length : Int)) () = some (.done s') := e
      rw [e]
      simp only [Option.bind_some]
      rw [List.take_length] at h
      rw [h]
    · exact h.elim
    · have e : bS (lX a0) (bx 1 (a0.length : Int)) () = some (.ret r) := e
      rw [e]
      simp only [Option.bind_some]
      rw [h]
theorem Ae {l : List Int} (hb : l.length ≤ 1000000) : lY (cZ l) = some (kZ l) := Ad (by rw [(j8 l).length_eq]; exact hb)
theorem oA {σ : Type} {f : σ → Option (σ ⊕ σ)} (P Q : σ → Prop) (m : σ → Nat) (hs : ∀ s, P s → (∃ s', f s = some (.inl s') ∧ P s' ∧ m s' < m s) ∨ ∃ s', f s = some (.inr s') ∧ Q s') : ∀ (k : Nat) (s : σ), P s → m s < k → ∃ r, ig f k s = some r ∧ Q r
  | 0, s, _, h => by omega
  | k + 1, s, hp, h => by
    simp only [ig]
    rcases hs s hp with ⟨s', e, p', hm⟩ | ⟨s', e, q⟩
    · rw [e]
      exact oA P Q m hs k s' p' (by omega)
    · rw [e]
      exact ⟨s', rfl, q⟩
theorem jm {σ : Type} (f : Int → σ → Option σ) (P : Nat → σ → Prop) (n : Nat) (s : σ) (h0 : P 0 s) (hs : ∀ j s, j < n → P j s → ∃ s', f (j : Int) s = some s' ∧ P (j + 1) s') : ∃ s', cW f (bx 0 (n : Int)) s = some s' ∧ P n s' := by
  have := ny f P n 0 s h0 (fun j s _ hj => hs j s (by omega))
  simpa using this
theorem vd {σ : Type} (f : Int → σ → Option (σ ⊕ σ)) (P : Nat → σ → Prop) (B : σ → Prop) : ∀ (k i : Nat) (s : σ), P i s → (∀ j s, i ≤ j → j < i + k → P j s → (∃ s', f (j : Int) s = some (.inl s') ∧ P (j + 1) s') ∨ ∃ s', f (j : Int) s = some (.inr s') ∧ B s') →
    ∃ s', lM f (bx (i : Int) ((i + k : Nat) : Int)) s = some s' ∧ (P (i + k) s' ∨ B s')
  | 0, i, s, h, _ => ⟨s, by rw [show i + 0 = i from rfl, kM]; rfl, .inl h⟩
  | k + 1, i, s, h, hs => by
    rw [kL]
    simp only [lM]
    rcases hs i s (Nat.le_refl _) (by omega) h with ⟨s1, e1, h1⟩ | ⟨s1, e1, h1⟩
    · rw [e1]
      simp only [Option.bind_some]
      rw [show i + (k + 1) = i + 1 + k by omega]
      exact vd f P B k (i + 1) s1 h1 fun j s hj hk => hs j s (by omega) (by omega)
    · rw [e1]; exact ⟨s1, rfl, .inr h1⟩
theorem iL {α : Type} {l : List α} {i : Nat} (v : α) (h : i < l.length) : dc l (i : Int) v = some (l.set i v) := by
  unfold dc; rw [if_pos (by omega), if_pos (by simpa using h)]; simp
end Go.AM
end
