import Derived.Test.YtfjelgjfbjjopaaUP2
set_option linter.unusedVariables false
set_option linter.unusedSimpArgs false
namespace Go.AM
open Go
structure jI (g : cC) : Prop where
  len : g.best.length = g.a.length + 1
  at_ : ∀ i, i ≤ g.a.length → ∃ r, g.best[i]? = some r ∧ r.length = g.b.length + 1 ∧ ∀ k, k ≤ g.b.length → r[k]? = some (lc (g.a.drop i) (g.b.drop k) : Int)
  sm : g.a.length ≤ 1000 ∧ g.b.length ≤ 1000
theorem jJ {l : List Int} {i : Nat} {x : Int} (h : l[i]? = some x) : l.drop i = x :: l.drop (i + 1) := by
  obtain ⟨hl, rfl⟩ := List.getElem?_eq_some_iff.1 h
  exact List.drop_eq_getElem_cons hl
theorem rA {A B : List Int} {i : Nat} {x : Int} {below : List Int} (hx : A[i]? = some x) (hA : A.length ≤ 1000) (hB : B.length ≤ 1000) (hl : below.length = B.length + 1) (hb : ∀ k, k ≤ B.length → below[k]? = some (lc (A.drop (i + 1)) (B.drop k) : Int)) :
    ∃ r, bS (iZ A B (i : Int) below) (cN ((B.length : Int) - 1) (-1)) (List.replicate (B.length + 1) 0) = some r ∧ r.length = B.length + 1 ∧ ∀ k, k ≤ B.length → r[k]? = some (lc (A.drop i) (B.drop k) : Int) := by
  obtain ⟨r, e, h1, h2⟩ := lj (iZ A B (i : Int) below) (fun j r => r.length = B.length + 1 ∧ ∀ k, j ≤ k → k ≤ B.length → r[k]? = some (lc (A.drop i) (B.drop k) : Int)) B.length (List.replicate (B.length + 1) 0)
    ⟨by simp, fun k h1 h2 => by
      obtain rfl : k = B.length := by omega
      rw [List.getElem?_replicate, if_pos (by omega), List.drop_length, fz]
      rfl⟩
    (fun j r hj ⟨hl', hr⟩ => by
      have hy : B[j]? = some B[j] := bt hj
      generalize B[j] = y at hy
      have hil : i < A.length := (List.getElem?_eq_some_iff.1 hx).1
      have g1 : aW below (j : Int) = some (lc (A.drop (i + 1)) (B.drop j) : Int) := by rw [bV]; exact hb j (by omega)
      have g1' : aW below ((j + 1 : Nat) : Int) = some (lc (A.drop (i + 1)) (B.drop (j + 1)) : Int) := by rw [bV]; exact hb (j + 1) (by omega)
      have g2 : aW r ((j + 1 : Nat) : Int) = some (lc (A.drop i) (B.drop (j + 1)) : Int) := by rw [bV]; exact hr (j + 1) (by omega) (by omega)
      have w1 : IntKind.i64.wrap ((j : Int) + 1) = ((j + 1 : Nat) : Int) := by rw [eD (by omega) (by omega)]; omega
      have g3 : aW r (j : Int) = some (r[j]'(by omega)) := by rw [bV]; exact bt _
      have dA := jJ hx
      have dB := jJ hy
      have hlc : lc (A.drop i) (B.drop j) = if x = y then lc (A.drop (i + 1)) (B.drop (j + 1)) + 1 else max (lc (A.drop (i + 1)) (B.drop j)) (lc (A.drop i) (B.drop (j + 1))) := by rw [dA, dB, f7]
      have hle : lc (A.drop (i + 1)) (B.drop (j + 1)) ≤ 1000 := Nat.le_trans (jG _ _) (by rw [List.length_drop]; omega)
      have him : eG (lc (A.drop (i + 1)) (B.drop j) : Int) (lc (A.drop i) (B.drop (j + 1)) : Int) = ((max (lc (A.drop (i + 1)) (B.drop j)) (lc (A.drop i) (B.drop (j + 1))) : Nat) : Int) := by
        unfold eG; split <;> omega
      have rest : ∀ (v : Int) (r' : List Int), r'.length = B.length + 1 → (∀ k, j + 1 ≤ k → r'[k]? = r[k]?) → r'[j]? = some v → v = (lc (A.drop i) (B.drop j) : Int) → r'.length = B.length + 1 ∧ ∀ k, j ≤ k → k ≤ B.length → r'[k]? = some (lc (A.drop i) (B.drop k) : Int) := by
        intro v r' h1 h2 h3 h4
        refine ⟨h1, fun k hk1 hk2 => ?_⟩
        rcases Nat.lt_or_ge j k with h | h
        · rw [h2 k h]; exact hr k h hk2
        · obtain rfl : k = j := by omega
          rw [h3, h4]
      unfold iZ
      simp only [g1, w1, g2, g3, Option.bind_some, him, f5 _ (show j < r.length by omega)]
      rw [show aW A (i : Int) = some x by rw [bV]; exact hx, show aW B (j : Int) = some y by rw [bV]; exact hy]
      simp only [Option.bind_some]
      by_cases e : x = y
      · rw [if_pos (by simp [e])]
        rw [if_pos e] at hlc
        simp only [g1', Option.bind_some]
        rw [show aW (r.set j _) (j : Int) = some _ by rw [bV, List.getElem?_set_self (by omega)]]
        simp only [Option.bind_some]
        rw [f5 _ (by simp; omega), n6 (by omega) (by omega)]
        refine ⟨_, rfl, rest ((lc (A.drop (i + 1)) (B.drop (j + 1)) : Int) + 1) _ (by simp; omega) (fun k hk => ?_) ?_ (by rw [hlc]; rfl)⟩
        · rw [List.getElem?_set_ne (by omega), List.getElem?_set_ne (by omega)]
        · rw [List.getElem?_set_self (by simp; omega)]
      · rw [if_neg (by simp [e])]
        rw [if_neg e] at hlc
        refine ⟨_, rfl, rest _ _ (by simp; omega) (fun k hk => ?_) (List.getElem?_set_self (by omega)) (by rw [hlc])⟩
        rw [List.getElem?_set_ne (by omega)])
  exact ⟨r, e, h1, fun k hk => h2 k (Nat.zero_le _) hk⟩
theorem rB (a b : List al) (ha : a.length ≤ 1000) (hb : b.length ≤ 1000) : ∃ K : List al, (∀ r ∈ a, r ∈ K) ∧ (∀ r ∈ b, r ∈ K) ∧ ∃ t, gn a b = some ⟨a.map (bC K), b.map (bC K), t⟩ ∧ jI ⟨a.map (bC K), b.map (bC K), t⟩ := by
  obtain ⟨K, h1, h2, h3⟩ := rz a b (by omega)
  refine ⟨K, h1, h2, ?_⟩
  have lA : (a.map (bC K)).length = a.length := List.length_map _
  have lB : (b.map (bC K)).length = b.length := List.length_map _
  generalize a.map (bC K) = A at h3 lA ⊢
  generalize b.map (bC K) = B at h3 lB ⊢
  unfold gn
  rw [h3]
  simp only [Option.bind_some]
  rw [show aW [A, B] 0 = some A from rfl, show aW [A, B] 1 = some B from rfl]
  simp only [Option.bind_some]
  have w1 : IntKind.i64.wrap ((a.length : Int) + 1) = ((a.length + 1 : Nat) : Int) := by rw [eD (by omega) (by omega)]; omega
  have w2 : IntKind.i64.wrap ((b.length : Int) + 1) = ((b.length + 1 : Nat) : Int) := by rw [eD (by omega) (by omega)]; omega
  have w3 : IntKind.i64.wrap ((a.length : Int) - 1) = (a.length : Int) - 1 := gK (by omega) (by omega)
  have w4 : IntKind.i64.wrap ((b.length : Int) - 1) = (b.length : Int) - 1 := gK (by omega) (by omega)
  rw [w1, w2, w3, iN _ _ (by omega), iN _ _ (by omega)]
  simp only [Option.bind_some]
  rw [show aW (List.replicate (a.length + 1) ([] : List Int)) (a.length : Int) = some [] by rw [bV, List.getElem?_replicate, if_pos (by omega)], f5 _ (by simp)]
  simp only [Option.bind_some]
  obtain ⟨t, e, g1, g2⟩ := lj (j5 b A B (List.replicate (b.length + 1) 0)) (fun j t => t.length = a.length + 1 ∧ ∀ i, j ≤ i → i ≤ a.length → ∃ r, t[i]? = some r ∧ r.length = b.length + 1 ∧ ∀ k, k ≤ b.length → r[k]? = some (lc (A.drop i) (B.drop k) : Int))
    a.length ((List.replicate (a.length + 1) ([] : List Int)).set a.length (List.replicate (b.length + 1) 0)) ⟨by simp, fun i hi1 hi2 => by
      obtain rfl : i = a.length := by omega
      refine ⟨_, List.getElem?_set_self (by simp), by simp, fun k hk => ?_⟩
      rw [List.getElem?_replicate, if_pos (by omega), ← lA, List.drop_length, iO]
      rfl⟩
    (fun j t hj ⟨hl, ht⟩ => by
      obtain ⟨below, q1, q2, q3⟩ := ht (j + 1) (by omega) (by omega)
      have wj : IntKind.i64.wrap ((j : Int) + 1) = ((j + 1 : Nat) : Int) := by rw [eD (by omega) (by omega)]; omega
      have hx : A[j]? = some (A[j]'(by omega)) := bt _
      obtain ⟨r, e1, e2, e3⟩ := rA (B := B) hx (by omega) (by omega) (by rw [q2, lB]) (by rw [lB]; exact q3)
      rw [lB] at e1 e2 e3
      unfold j5
      simp only [wj, bV, q1, Option.bind_some]
      rw [w4, e1]
      simp only [Option.bind_some]
      rw [show t[j]? = some (t[j]'(by omega)) from bt _]
      simp only [Option.bind_some]
      rw [f5 _ (by omega)]
      refine ⟨_, rfl, by simp; omega, fun i hi1 hi2 => ?_⟩
      rcases Nat.lt_or_ge j i with h | h
      · rw [List.getElem?_set_ne (by omega)]
        exact ht i h hi2
      · obtain rfl : i = j := by omega
        exact ⟨r, List.getElem?_set_self (by omega), e2, e3⟩)
  rw [e]
  refine ⟨t, rfl, by simp only [lA]; exact g1, fun i hi => ?_, by simp only; omega⟩
  simp only [lA] at hi
  obtain ⟨r, r1, r2, r3⟩ := g2 i (Nat.zero_le _) hi
  exact ⟨r, r1, by simp only [lB]; exact r2, by simp only [lB]; exact r3⟩
theorem rC {g : cC} (hg : jI g) {i k : Nat} {x : Int} (hx : g.a[i]? = some x) (hk : k ≤ g.b.length) :
    i7 g i k (lc (g.a.drop i) (g.b.drop k) : Int) = some (match co x (g.b.drop k) with
      | some t => if lc (g.a.drop (i + 1)) ((g.b.drop k).drop (t + 1)) + 1 = lc (g.a.drop i) (g.b.drop k) then ((k + t : Nat) : Int) else -1
      | none => -1) := by
  unfold i7
  have hil : i < g.a.length := (List.getElem?_eq_some_iff.1 hx).1
  obtain ⟨sa, sb⟩ := hg.sm
  generalize hm : (lc (g.a.drop i) (g.b.drop k) : Int) = many
  have hm' : ∀ n : Nat, ((n : Int) = many) ↔ n = lc (g.a.drop i) (g.b.drop k) := fun n => by omega
  have key : ∀ (n k : Nat), g.b.length - k = n → k ≤ g.b.length → (cG (i4 g i many) (bq (k : Int) (g.b.length : Int)) ()) = some (match co x (g.b.drop k) with
      | some t => if ((lc (g.a.drop (i + 1)) ((g.b.drop k).drop (t + 1)) + 1 : Nat) : Int) = many then .ret ((k + t : Nat) : Int) else .ret (-1)
      | none => .done ()) := by
    intro n
    induction n with
    | zero =>
      intro k hn hk
      obtain rfl : k = g.b.length := by omega
      rw [gT, List.drop_length]
      rfl
    | succ n ih =>
      intro k hn hk
      obtain ⟨d, hd⟩ : ∃ d, g.b.length = k + (d + 1) := ⟨g.b.length - k - 1, by omega⟩
      rw [hd, gS]
      simp only [cG]
      have hy : g.b[k]? = some (g.b[k]'(by omega)) := bt _
      generalize g.b[k]'(by omega) = y at hy
      rw [jJ hy]
      have w1 : IntKind.i64.wrap ((i : Int) + 1) = ((i + 1 : Nat) : Int) := by rw [eD (by omega) (by omega)]; omega
      have hle : lc (g.a.drop (i + 1)) (g.b.drop (k + 1)) ≤ 1000 := Nat.le_trans (jG _ _) (by rw [List.length_drop]; omega)
      obtain ⟨r, r1, r2, r3⟩ := hg.at_ (i + 1) (by omega)
      have hst : i4 g (i : Int) many (k : Int) () = if x = y then some (.ret (if ((lc (g.a.drop (i + 1)) (g.b.drop (k + 1)) + 1 : Nat) : Int) = many then (k : Int) else -1)) else some (.next ()) := by
        unfold i4
        rw [show aW g.a (i : Int) = some x by rw [bV]; exact hx, show aW g.b (k : Int) = some y by rw [bV]; exact hy]
        simp only [Option.bind_some]
        by_cases e : x = y
        · rw [if_pos (by simp [e]), if_pos e, w1, bV, r1]
          simp only [Option.bind_some]
          rw [show (k : Int) + 1 = ((k + 1 : Nat) : Int) by omega, bV, r3 (k + 1) (by omega)]
          simp only [Option.bind_some]
          rw [n6 (by omega) (by omega)]
          by_cases e2 : ((lc (g.a.drop (i + 1)) (g.b.drop (k + 1)) + 1 : Nat) : Int) = many
          · rw [if_pos (by rw [← e2]; simp), if_pos e2]
          · rw [if_neg (by simp only [beq_iff_eq]; intro h; exact e2 (by rw [← h]; rfl)), if_neg e2]
        · rw [if_neg (by simp [e]), if_neg e]
      rw [hst]
      by_cases e : x = y
      · have hmt : co x (y :: g.b.drop (k + 1)) = some 0 := by unfold co; rw [if_pos e]
        rw [hmt, if_pos e]
        simp only [List.drop_succ_cons, List.drop_zero, Nat.add_zero, Option.bind_some]
        by_cases e2 : ((lc (g.a.drop (i + 1)) (g.b.drop (k + 1)) + 1 : Nat) : Int) = many
        · rw [if_pos e2, if_pos e2]
        · rw [if_neg e2, if_neg e2]
      · rw [if_neg e]
        simp only [Option.bind_some]
        have := ih (k + 1) (by omega) (by omega)
        rw [hd, show k + (d + 1) = k + 1 + d by omega] at this
        rw [show k + (d + 1) = k + 1 + d by omega, this]
        have hmt : co x (y :: g.b.drop (k + 1)) = (co x (g.b.drop (k + 1))).map (· + 1) := by
          conv => lhs; unfold co
          rw [if_neg e]
        rw [hmt]
        cases co x (g.b.drop (k + 1)) with
        | none => rfl
        | some t =>
          simp only [Option.map_some, List.drop_succ_cons]
          congr 1
          split <;> first | rfl | (congr 1; omega)
  rw [key _ k rfl hk]
  cases co x (g.b.drop k) with
  | none => rfl
  | some t =>
    simp only [Option.bind_some, hm']
    by_cases e : lc (g.a.drop (i + 1)) ((g.b.drop k).drop (t + 1)) + 1 = lc (g.a.drop i) (g.b.drop k)
    · rw [if_pos e, if_pos e]
    · rw [if_neg e, if_neg e]
def bW (n : Nat) (xs : List Nat) : List Bool := (List.range n).map fun i => decide (i ∈ xs)
theorem ol {n : Nat} {xs : List Nat} {i : Nat} (hi : i < n) : (bW n xs).set i true = bW n (xs ++ [i]) := by
  apply List.ext_getElem?
  intro j
  rw [List.getElem?_set]
  unfold bW
  by_cases e : i = j
  · subst e; simp [hi]
  · rw [if_neg e]
    simp only [List.getElem?_map]
    cases h : (List.range n)[j]? with
    | none => rfl
    | some q =>
      have hq : q = j := by
        obtain ⟨h1, h2⟩ := List.getElem?_eq_some_iff.1 h
        simpa using h2.symm
      subst hq
      have : ¬ q = i := fun h => e h.symm
      simp [this]
theorem jK (n : Nat) (xs : List Nat) : (bW n xs).length = n := by simp [bW]
theorem om {n : Nat} {xs : List Nat} {i : Nat} (h : i < n) : aW (bW n xs) (i : Int) = some (decide (i ∈ xs)) := by
  rw [bV]; simp [bW, h]
def gV (g : cC) (i k : Nat) (x : Int) : Option (Option Nat) :=
  if lc (g.a.drop i) (g.b.drop k) = 0 then none else some (match co x (g.b.drop k) with
    | some t => if lc (g.a.drop (i + 1)) (g.b.drop (k + (t + 1))) + 1 = lc (g.a.drop i) (g.b.drop k) then some t else none
    | none => none)
theorem rD {g : cC} {i k : Nat} {x : Int} (hx : g.a[i]? = some x) : kp (g.a.drop i) i (g.b.drop k) k = match gV g i k x with
    | none => []
    | some none => kp (g.a.drop (i + 1)) (i + 1) (g.b.drop k) k
    | some (some t) => (i, k + t) :: kp (g.a.drop (i + 1)) (i + 1) (g.b.drop (k + t + 1)) (k + t + 1) := by
  unfold gV
  have e := jJ hx
  have h1 : kp (g.a.drop i) i (g.b.drop k) k = kp (x :: g.a.drop (i + 1)) i (g.b.drop k) k := by rw [← e]
  rw [h1, kp, ← e]
  by_cases e0 : lc (g.a.drop i) (g.b.drop k) = 0
  · rw [if_pos e0, if_pos e0]
  · rw [if_neg e0, if_neg e0]
    cases hm : co x (g.b.drop k) with
    | none => rfl
    | some t =>
      simp only [List.drop_drop]
      by_cases e1 : lc (g.a.drop (i + 1)) (g.b.drop (k + (t + 1))) + 1 = lc (g.a.drop i) (g.b.drop k)
      · simp only [if_pos e1]; rfl
      · simp only [if_neg e1]
theorem rE {g : cC} (hg : jI g) {i k : Nat} {x : Int} (hx : g.a[i]? = some x) (hk : k ≤ g.b.length) (xs ys : List Nat) :
    i8 g (i : Int) (bW g.a.length xs, bW g.b.length ys, (k : Int)) = some (match gV g i k x with
    | none => .inr (bW g.a.length xs, bW g.b.length ys, (k : Int))
    | some none => .inl (bW g.a.length xs, bW g.b.length ys, (k : Int))
    | some (some t) => .inl (bW g.a.length (xs ++ [i]), bW g.b.length (ys ++ [k + t]), ((k + t + 1 : Nat) : Int))) := by
  have hil : i < g.a.length := (List.getElem?_eq_some_iff.1 hx).1
  obtain ⟨sa, sb⟩ := hg.sm
  obtain ⟨r, r1, r2, r3⟩ := hg.at_ i (by omega)
  unfold i8 gV
  simp only [bV, r1, Option.bind_some]
  rw [r3 k hk]
  simp only [Option.bind_some]
  by_cases e0 : lc (g.a.drop i) (g.b.drop k) = 0
  · rw [if_pos e0, if_pos (by rw [e0]; rfl)]
    rfl
  · rw [if_neg e0, if_neg (by simp only [beq_iff_eq]; omega), rC hg hx hk]
    cases hm : co x (g.b.drop k) with
    | none =>
      simp only [Option.bind_some]
      rw [if_neg (by decide)]
      rfl
    | some t =>
      obtain ⟨ht, _⟩ := lr hm
      have htl := (List.getElem?_eq_some_iff.1 ht).1
      rw [List.length_drop] at htl
      simp only [Option.bind_some, List.drop_drop]
      by_cases e1 : lc (g.a.drop (i + 1)) (g.b.drop (k + (t + 1))) + 1 = lc (g.a.drop i) (g.b.drop k)
      · have wt : IntKind.i64.wrap (((k + t : Nat) : Int) + 1) = ((k + t + 1 : Nat) : Int) := by rw [eD (by omega) (by omega)]; omega
        rw [if_pos e1, if_pos e1, if_pos (by simp; omega)]
        simp only [bt (show i < (bW g.a.length xs).length by rw [jK]; omega), bV, bt (show k + t < (bW g.b.length ys).length by rw [jK]; omega), Option.bind_some,
          f5 _ (show i < (bW g.a.length xs).length by rw [jK]; omega), f5 _ (show k + t < (bW g.b.length ys).length by rw [jK]; omega), ol (show i < g.a.length by omega), ol (show k + t < g.b.length by omega), wt]
      · rw [if_neg e1, if_neg e1, if_neg (by decide)]
        rfl
theorem rF {g : cC} (hg : jI g) : hJ g = some (bW g.a.length ((kp g.a 0 g.b 0).map (·.1)), bW g.b.length ((kp g.a 0 g.b 0).map (·.2))) := by
  unfold hJ
  obtain ⟨sa, sb⟩ := hg.sm
  rw [iN _ _ (by omega), iN _ _ (by omega)]
  simp only [Option.bind_some]
  have key : ∀ (n i : Nat) (k : Nat) (xs ys : List Nat), g.a.length - i = n → i ≤ g.a.length → k ≤ g.b.length → ∃ k', fF (i8 g) (bq (i : Int) (g.a.length : Int)) (bW g.a.length xs, bW g.b.length ys, (k : Int)) =
      some (bW g.a.length (xs ++ (kp (g.a.drop i) i (g.b.drop k) k).map (·.1)), bW g.b.length (ys ++ (kp (g.a.drop i) i (g.b.drop k) k).map (·.2)), k') := by
    intro n
    induction n with
    | zero =>
      intro i k xs ys hn hi hk
      obtain rfl : i = g.a.length := by omega
      rw [gT, List.drop_length]
      exact ⟨k, by simp [fF, kp]⟩
    | succ n ih =>
      intro i k xs ys hn hi hk
      obtain ⟨d, hd⟩ : ∃ d, g.a.length = i + (d + 1) := ⟨g.a.length - i - 1, by omega⟩
      have hx : g.a[i]? = some (g.a[i]'(by omega)) := bt _
      generalize g.a[i]'(by omega) = x at hx
      have hir : bq (i : Int) (g.a.length : Int) = (i : Int) :: bq ((i + 1 : Nat) : Int) (g.a.length : Int) := by rw [hd, gS]
      rw [hir]
      simp only [fF]
      rw [rE hg hx hk, rD hx]
      cases hnk : gV g i k x with
      | none => exact ⟨k, by simp⟩
      | some o =>
        cases o with
        | none => exact ih (i + 1) k xs ys (by omega) (by omega) hk
        | some t =>
          have htl : t < g.b.length - k := by
            unfold gV at hnk
            split at hnk
            · cases hnk
            · cases hm : co x (g.b.drop k) with
              | none => rw [hm] at hnk; cases hnk
              | some t' =>
                rw [hm] at hnk
                simp only [Option.some.injEq] at hnk
                split at hnk
                · cases hnk
                  have := (List.getElem?_eq_some_iff.1 (lr hm).1).1
                  rwa [List.length_drop] at this
                · cases hnk
          obtain ⟨k', e2⟩ := ih (i + 1) (k + t + 1) (xs ++ [i]) (ys ++ [k + t]) (by omega) (by omega) (by omega)
          refine ⟨k', ?_⟩
          simp only [Option.bind_some]
          rw [e2]
          simp only [List.map_cons, List.append_assoc, List.cons_append, List.nil_append]
  obtain ⟨k', e⟩ := key g.a.length 0 0 [] [] rfl (Nat.zero_le _) (Nat.zero_le _)
  have hm0 : ∀ n, bW n [] = List.replicate n false := fun n => by
    apply List.ext_getElem?
    intro j
    simp [bW, List.getElem?_replicate]
    by_cases h : j < n <;> simp [h]
  rw [hm0, hm0] at e
  simp only [List.drop_zero, List.nil_append] at e
  rw [show (bq 0 (g.a.length : Int)) = bq ((0 : Nat) : Int) (g.a.length : Int) from rfl]
  rw [show ((List.replicate g.a.length false, List.replicate g.b.length false, 0) : List Bool × List Bool × Int) = (List.replicate g.a.length false, List.replicate g.b.length false, ((0 : Nat) : Int)) from rfl, e]
  rfl
def cM (a : List al) (xs : List Nat) : Nat → List bg
  | 0 => []
  | n + 1 => (match a[n]? with | some r => if n ∈ xs then [] else [bg.mk (n : Int) true r] | none => []) ++ cM a xs n
def d9 (b : List al) (ys : List Nat) : Nat → List bg
  | 0 => []
  | n + 1 => d9 b ys n ++ (match b[n]? with | some r => if n ∈ ys then [] else [bg.mk (n : Int) false r] | none => [])
theorem ot (a : List al) (xs : List Nat) : ∀ n, (cM a xs n).length ≤ n
  | 0 => Nat.le_refl _
  | n + 1 => by
    have := ot a xs n
    unfold cM
    rw [List.length_append]
    cases a[n]? with
    | none => simp; omega
    | some r => simp only; split <;> simp <;> omega
theorem ou (a : List al) (xs : List Nat) : ∀ n, (d9 a xs n).length ≤ n
  | 0 => Nat.le_refl _
  | n + 1 => by
    have := ou a xs n
    unfold d9
    rw [List.length_append]
    cases a[n]? with
    | none => simp; omega
    | some r => simp only; split <;> simp <;> omega
theorem ls (a : List al) (xs : List Nat) (N : Nat) (hN : N = a.length) : ∀ (n : Nat) (l : List bg), n ≤ N → l.length + n ≤ 1000000 → bS (eY a (bW N xs)) (cN ((n : Int) - 1) (-1)) l = some (l ++ cM a xs n)
  | 0, l, _, _ => by rw [show cN (((0 : Nat) : Int) - 1) (-1) = [] from rfl]; simp [bS, cM]
  | n + 1, l, hn, hl => by
    rw [n8]
    simp only [bS, eY]
    rw [om (by omega)]
    have hr : a[n]? = some (a[n]'(by omega)) := bt _
    generalize a[n]'(by omega) = r at hr
    unfold cM
    rw [hr]
    simp only [Option.bind_some]
    by_cases e : n ∈ xs
    · simp only [e, decide_true, Bool.not_true, Bool.false_eq_true, if_false, if_true, List.nil_append, Option.bind_some]
      exact ls a xs N hN n l (by omega) (by omega)
    · simp only [e, decide_false, Bool.not_false, if_true, if_false, bV, hr, Option.bind_some]
      rw [gU (by simp; omega)]
      simp only [Option.bind_some]
      rw [ls a xs N hN n _ (by omega) (by simp; omega)]
      simp
theorem rG (b : List al) (ys : List Nat) (l : List bg) (hb : b.length ≤ 1000) (hl : l.length ≤ 1000000) : bS (hM b (bW b.length ys)) (bq 0 (b.length : Int)) l = some (l ++ d9 b ys b.length) := by
  obtain ⟨s, e, h⟩ := n7 (hM b (bW b.length ys)) (fun j s => s = l ++ d9 b ys j) b.length l (by simp [d9]) (fun j s hj hs => by
    subst hs
    have hr : b[j]? = some b[j] := bt hj
    generalize b[j] = r at hr
    unfold hM
    simp only [bV, hr, Option.bind_some]
    rw [← bV (bW b.length ys) j, om hj]
    simp only [Option.bind_some]
    conv => rhs; intro s'; rhs; rhs; rhs; unfold d9
    rw [hr]
    have hil := ou b ys j
    by_cases e : j ∈ ys
    · simp only [e, decide_true, Bool.not_true, Bool.false_eq_true, if_false, if_true, Option.bind_some]
      exact ⟨_, rfl, by simp⟩
    · simp only [e, decide_false, Bool.not_false, if_true, if_false]
      rw [gU (by simp; omega)]
      exact ⟨_, rfl, by simp⟩)
  rw [e, h]
theorem iP (a b : List al) : gm a b = some (decide (a.length ≤ 1000 ∧ b.length ≤ 1000)) := by
  unfold gm eG
  congr 1
  apply decide_eq_decide.2
  split <;> omega
structure rH (a b : List al) (A B : List Int) (K : List al) : Prop where
  ea : A = a.map (bC K)
  eb : B = b.map (bC K)
  ma : ∀ r ∈ a, r ∈ K
  mb : ∀ r ∈ b, r ∈ K
theorem ov (a b : List al) (ha : a.length ≤ 1000) (hb : b.length ≤ 1000) : ∃ K A B, rH a b A B K ∧ en a b = some (cM a ((kp A 0 B 0).map (·.1)) a.length ++ d9 b ((kp A 0 B 0).map (·.2)) b.length, 0) ∧ fG a b = some (lc A B : Int) := by
  obtain ⟨K, h1, h2, t, e, hg⟩ := rB a b ha hb
  refine ⟨K, a.map (bC K), b.map (bC K), ⟨rfl, rfl, h1, h2⟩, ?_, ?_⟩
  · unfold en
    rw [iP]
    simp only [ha, hb, and_self, decide_true, Option.bind_some, Bool.not_true, Bool.false_eq_true, if_false]
    rw [e]
    simp only [Option.bind_some]
    rw [rF hg]
    simp only [Option.bind_some, List.length_map]
    rw [gK (by omega) (by omega), ls a _ a.length rfl a.length [] (Nat.le_refl _) (by simp; omega)]
    simp only [Option.bind_some, List.nil_append]
    rw [rG b _ _ hb (by have := ot a ((kp (a.map (bC K)) 0 (b.map (bC K)) 0).map (·.1)) a.length; omega)]
    rfl
  · unfold fG
    rw [iP]
    simp only [ha, hb, and_self, decide_true, Option.bind_some, Bool.not_true, Bool.false_eq_true, if_false]
    rw [e]
    simp only [Option.bind_some]
    obtain ⟨r, r1, r2, r3⟩ := hg.at_ 0 (Nat.zero_le _)
    rw [show (0 : Int) = ((0 : Nat) : Int) from rfl, bV, r1]
    simp only [Option.bind_some]
    rw [bV, r3 0 (Nat.zero_le _)]
    simp only [Option.bind_some, List.drop_zero]
    have := jG (a.map (bC K)) (b.map (bC K))
    rw [List.length_map] at this
    rw [eD (by omega) (by omega)]
end Go.AM
