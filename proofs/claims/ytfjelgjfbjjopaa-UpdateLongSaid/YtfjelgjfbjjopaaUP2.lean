import Derived.Test.YtfjelgjfbjjopaaUlT
import Derived.Test.YtfjelgjfbjjopaaAmLp
/-  Several texts in one. -/
section
set_option linter.unusedVariables false
set_option linter.unusedSimpArgs false
namespace Go.AM
open Go
theorem eD {n : Int} (h0 : 0 ≤ n) (h : n ≤ 10000000) : IntKind.i64.wrap n = n := by
  simp [IntKind.wrap, IntKind.bits, IntKind.signed]; omega
theorem n6 {n : Int} (h0 : 0 ≤ n) (h : n ≤ 30000) : IntKind.i16.wrap n = n := by
  simp [IntKind.wrap, IntKind.bits, IntKind.signed]; omega
theorem f5 {α : Type} {l : List α} {i : Nat} (v : α) (h : i < l.length) : cB l (i : Int) v = some (l.set i v) := by
  unfold cB; rw [if_pos (by omega), if_pos (by simpa using h)]; simp
theorem iN {α : Type} (n : Nat) (z : α) (h : n ≤ 1000000) : dL (n : Int) z = some (List.replicate n z) := by
  unfold dL; rw [if_pos (by omega)]; simp
theorem n7 {σ : Type} (f : Int → σ → Option σ) (P : Nat → σ → Prop) (n : Nat) (s : σ) (h0 : P 0 s) (hs : ∀ j s, j < n → P j s → ∃ s', f (j : Int) s = some s' ∧ P (j + 1) s') : ∃ s', bS f (bq 0 (n : Int)) s = some s' ∧ P n s' := by
  have := lf f P n 0 s h0 (fun j s _ hj => hs j s (by omega))
  simpa using this
theorem n8 (n : Nat) : cN (((n + 1 : Nat) : Int) - 1) (-1) = (n : Int) :: cN ((n : Int) - 1) (-1) := by
  unfold cN
  rw [show (((n + 1 : Nat) : Int) - 1 - -1).toNat = n + 1 by omega, show ((n : Int) - 1 - -1).toNat = n by omega, List.range_succ_eq_map, List.map_cons, List.map_map]
  congr 1
  · omega
  · refine List.map_congr_left fun j _ => ?_
    simp only [Function.comp_apply]; omega
theorem lj {σ : Type} (f : Int → σ → Option σ) (P : Nat → σ → Prop) : ∀ (n : Nat) (s : σ), P n s → (∀ j s, j < n → P (j + 1) s → ∃ s', f (j : Int) s = some s' ∧ P j s') → ∃ s', bS f (cN ((n : Int) - 1) (-1)) s = some s' ∧ P 0 s'
  | 0, s, h, _ => ⟨s, by rw [show cN (((0 : Nat) : Int) - 1) (-1) = [] from rfl]; rfl, h⟩
  | n + 1, s, h, hs => by
    rw [n8]
    simp only [bS]
    obtain ⟨s1, e1, h1⟩ := hs n s (by omega) h
    rw [e1]
    exact lj f P n s1 h1 fun j s hj => hs j s (by omega)
theorem n9 (a b : List br) : iW a b = some (decide (a = b)) := by
  unfold iW
  by_cases hl : a.length = b.length
  · rw [if_neg (by simp [hl]), n5 (j0 a b) (fun x => if decide (x.1 ≠ x.2) then some false else none) a b hl (fun j x y hx hy => by
      unfold j0
      rw [bV, bV, hx, hy]
      by_cases c : x = y <;> simp [c, iM]), lg, lh hl]
    by_cases c : a = b <;> simp [c, iL]
  · have hne : a ≠ b := fun e => hl (by rw [e])
    rw [if_pos (by simp; omega)]; simp [hne]
theorem rv (a b : List br) : j3 a b = some (decide (a = b)) := n9 a b
theorem oa (a b : al) : a = b ↔ a.Match = b.Match ∧ a.Acts = b.Acts := by
  cases a; cases b; simp
theorem ob (a b : al) : g9 a b = some (decide (a = b)) := by
  unfold g9 j1
  rw [n9]
  simp only [Option.bind_some]
  by_cases c : a.Match = b.Match
  · simp only [c, decide_true, if_true]
    by_cases hl : a.Acts.length = b.Acts.length
    · rw [if_neg (by simp [hl]), n5 _ (fun x => if decide (x.1 ≠ x.2) then some false else none) a.Acts b.Acts hl (fun j x y hx hy => by
        unfold lQ
        rw [bV, bV, hx, hy]
        simp only [Option.bind_some]
        rw [rv]
        by_cases c : x = y <;> simp [c, iM]), lg, lh hl]
      by_cases c2 : a.Acts = b.Acts <;> simp [c2, iL, oa a b, c]
    · have hne : ¬ a.Acts = b.Acts := fun e => hl (by rw [e])
      rw [if_pos (by simp; omega)]; simp [oa a b, c, hne]
  · have hne : ¬ a = b := fun e => c (by rw [e])
    simp [c, hne]
theorem oc (p : al → Bool) (f : Int → Unit → Option (Br Unit Int)) : ∀ (l : List al) (a : Nat), (∀ (j : Nat) x, l[j]? = some x → f ((a + j : Nat) : Int) () = some (if p x then .ret ((a + j : Nat) : Int) else .next ())) →
    cG f (bq (a : Int) ((a + l.length : Nat) : Int)) () = some (match l.findIdx? p with | some i => .ret ((a + i : Nat) : Int) | none => .done ())
  | [], a, _ => by rw [List.length_nil, Nat.add_zero, gT]; rfl
  | x :: l, a, h => by
    rw [List.length_cons, gS]
    simp only [cG]
    have h0 := h 0 x rfl
    rw [Nat.add_zero] at h0
    rw [h0, List.findIdx?_cons]
    cases hp : p x with
    | true => simp
    | false =>
      simp only [Option.bind_some, Bool.false_eq_true, if_false]
      rw [show a + (l.length + 1) = a + 1 + l.length by omega, oc p f l (a + 1) fun j y hj => by
        have := h (j + 1) y (by simpa using hj)
        rw [show a + (j + 1) = a + 1 + j by omega] at this
        exact this]
      cases l.findIdx? p with
      | none => rfl
      | some i => simp; omega
theorem rx (l : List al) (x : al) : iX l (fun y => hE y x) = some (if x ∈ l then (l.idxOf x : Int) else -1) := by
  unfold iX
  have hb : ∀ (j : Nat) y, l[j]? = some y → j4 l (fun y => hE y x) ((0 + j : Nat) : Int) () = some (if (y == x) then .ret ((0 + j : Nat) : Int) else .next ()) := fun j y hj => by
    unfold j4 hE
    rw [bV, show 0 + j = j by omega, hj]
    simp only [Option.bind_some, ob]
    by_cases c : y = x <;> simp [c]
  have := oc (fun y => y == x) _ l 0 hb
  rw [Nat.zero_add] at this
  rw [show (bq 0 (l.length : Int)) = bq ((0 : Nat) : Int) (l.length : Int) from rfl, this]
  by_cases hx : x ∈ l
  · rw [if_pos hx]
    have : l.findIdx? (fun y => y == x) = some (l.idxOf x) := by
      rw [List.findIdx?_eq_some_iff_findIdx_eq]
      exact ⟨List.idxOf_lt_length_of_mem hx, rfl⟩
    rw [this]; simp
  · rw [if_neg hx]
    have : l.findIdx? (fun y => y == x) = none := by
      rw [List.findIdx?_eq_none_iff]
      intro y hy
      simp only [beq_eq_false_iff_ne, ne_eq]
      intro e; subst e; exact hx hy
    rw [this]; rfl
def bC (K : List al) (r : al) : Int := (K.idxOf r : Int)
theorem ry {K : List al} {x r : al} (h : r ∈ K) (L : List al) : bC (K ++ L) r = bC K r := by
  unfold bC; rw [List.idxOf_append, if_pos h]
theorem od {K : List al} {l : List al} (h : ∀ r ∈ l, r ∈ K) (L : List al) : l.map (bC (K ++ L)) = l.map (bC K) :=
  List.map_congr_left fun r hr => ry (x := r) (h r hr) L
theorem oe (K : List al) (o0 o1 : List Int) (x8 : List al) (i : Int) (hi : i = 0 ∨ i = 1) (hb : K.length + x8.length ≤ 1000000) (h0 : o0.length ≤ 1000000) (h1 : o1.length ≤ 1000000) :
    ∃ L : List al, (∀ r ∈ x8, r ∈ K ++ L) ∧ L.length ≤ x8.length ∧ bS (iY x8 i) (bq 0 (x8.length : Int)) (K, o0, o1) = some (K ++ L, if i = 0 then o0 ++ x8.map (bC (K ++ L)) else o0, if i = 0 then o1 else o1 ++ x8.map (bC (K ++ L))) := by
  obtain ⟨s, e, L, hm, hl, rfl⟩ := rt (iY x8 i) x8 (fun pre s => ∃ L : List al, (∀ r ∈ pre, r ∈ K ++ L) ∧ L.length ≤ pre.length ∧ s = (K ++ L, if i = 0 then o0 ++ pre.map (bC (K ++ L)) else o0, if i = 0 then o1 else o1 ++ pre.map (bC (K ++ L)))) (K, o0, o1) ⟨[], by simp, by simp, by simp⟩ (fun j x s hj ⟨L, hm, hl, hs⟩ => by
    subst hs
    have hjl : j < x8.length := (List.getElem?_eq_some_iff.1 hj).1
    have htl : (x8.take j).length = j := by simp; omega
    rw [htl] at hl
    unfold iY
    simp only [bV, hj, Option.bind_some, rx]
    have ga : ∀ (o : List Int) (M : List al) (n : Int), o.length ≤ 1000000 → cU (o ++ (x8.take j).map (bC M)) [n] = some (o ++ (x8.take j).map (bC M) ++ [n]) := fun o M n ho => gU (by simp; omega)
    by_cases hx : x ∈ K ++ L
    · refine ⟨(K ++ L, if i = 0 then o0 ++ (x8.take j ++ [x]).map (bC (K ++ L)) else o0, if i = 0 then o1 else o1 ++ (x8.take j ++ [x]).map (bC (K ++ L))), ?_, L, fun r hr => ?_, by simp; omega, rfl⟩
      · rw [if_pos hx, if_neg (by simp)]
        simp only [Option.bind_some]
        rcases hi with rfl | rfl
        · simp only [decide_true, if_true, ga o0 _ _ h0, Option.bind_some]
          simp [bC]
        · simp only [show ¬ ((1 : Int) = 0) by decide, decide_false, Bool.false_eq_true, if_false, ga o1 _ _ h1, Option.bind_some]
          simp [bC]
      · rcases List.mem_append.1 hr with hr | hr
        · exact hm r hr
        · rw [List.mem_singleton.1 hr]; exact hx
    · have hmap : (x8.take j).map (bC (K ++ (L ++ [x]))) = (x8.take j).map (bC (K ++ L)) := by rw [← List.append_assoc]; exact od hm [x]
      have hno : bC (K ++ (L ++ [x])) x = ((K ++ L).length : Int) := by
        unfold bC
        rw [← List.append_assoc, List.idxOf_append, if_neg hx]
        simp
      refine ⟨(K ++ (L ++ [x]), if i = 0 then o0 ++ (x8.take j ++ [x]).map (bC (K ++ (L ++ [x]))) else o0, if i = 0 then o1 else o1 ++ (x8.take j ++ [x]).map (bC (K ++ (L ++ [x])))), ?_, L ++ [x], fun r hr => ?_, by simp; omega, rfl⟩
      · rw [if_neg hx, if_pos (by decide), gU (by simp; omega)]
        simp only [Option.bind_some]
        rcases hi with rfl | rfl
        · simp only [decide_true, if_true, ga o0 _ _ h0, Option.bind_some, List.map_append, hmap, List.map_cons, List.map_nil, hno, List.append_assoc]
        · simp only [show ¬ ((1 : Int) = 0) by decide, decide_false, Bool.false_eq_true, if_false, ga o1 _ _ h1, Option.bind_some, List.map_append, hmap, List.map_cons, List.map_nil, hno, List.append_assoc]
      · rcases List.mem_append.1 hr with hr | hr
        · rw [← List.append_assoc]; exact List.mem_append_left _ (hm r hr)
        · rw [List.mem_singleton.1 hr]; simp)
  exact ⟨L, hm, hl, e⟩
theorem rz (a b : List al) (hb : a.length + b.length ≤ 500000) : ∃ K : List al, (∀ r ∈ a, r ∈ K) ∧ (∀ r ∈ b, r ∈ K) ∧ hH [a, b] = some [a.map (bC K), b.map (bC K)] := by
  obtain ⟨L, m1, l1, e1⟩ := oe [] [] [] a 0 (.inl rfl) (by simp; omega) (by simp) (by simp)
  obtain ⟨M, m2, l2, e2⟩ := oe L (a.map (bC L)) [] b 1 (.inr rfl) (by omega) (by simp; omega) (by simp)
  refine ⟨L ++ M, fun r hr => List.mem_append_left _ (by simpa using m1 r hr), m2, ?_⟩
  unfold hH
  rw [if_pos (show ([a, b] : List (List al)).length = 2 from rfl), show bq 0 (([a, b] : List (List al)).length : Int) = [0, 1] from rfl]
  simp only [bS, lR]
  rw [show aW [a, b] 0 = some a from rfl, show aW [a, b] 1 = some b from rfl]
  simp only [Option.bind_some]
  rw [e1]
  simp only [Option.bind_some, List.nil_append, if_true]
  rw [e2]
  simp only [Option.bind_some, show ¬ ((1 : Int) = 0) by decide, if_false, List.nil_append]
  rw [od (l := a) (fun r hr => by simpa using m1 r hr) M]
end Go.AM
end
section
set_option linter.unusedVariables false
set_option linter.unusedSimpArgs false
namespace Go.AM
def lc : List Int → List Int → Nat
  | [], _ => 0
  | _ :: _, [] => 0
  | x :: a, y :: b => if x = y then lc a b + 1 else max (lc a (y :: b)) (lc (x :: a) b)
termination_by a b => a.length + b.length
theorem iO (b : List Int) : lc [] b = 0 := by unfold lc; rfl
theorem fz (a : List Int) : lc a [] = 0 := by cases a <;> (unfold lc; rfl)
theorem f7 (x y : Int) (a b : List Int) : lc (x :: a) (y :: b) = if x = y then lc a b + 1 else max (lc a (y :: b)) (lc (x :: a) b) := by rw [lc]
theorem jE : ∀ (n : Nat) (a b : List Int), a.length + b.length ≤ n → lc a b = lc b a
  | _, [], b, _ => by rw [iO, fz]
  | _, a :: as, [], _ => by rw [iO, fz]
  | 0, x :: a, y :: b, h => by simp at h
  | n + 1, x :: a, y :: b, h => by
    simp only [List.length_cons] at h
    rw [f7, f7]
    by_cases e : x = y
    · rw [if_pos e, if_pos e.symm, jE n a b (by omega)]
    · rw [if_neg e, if_neg fun h => e h.symm, jE n a (y :: b) (by simp; omega), jE n (x :: a) b (by simp; omega), Nat.max_comm]
theorem jF (a b : List Int) : lc a b = lc b a := jE _ a b (Nat.le_refl _)
theorem lk : ∀ (n : Nat) (x : Int) (a b : List Int), a.length + b.length ≤ n → lc a b ≤ lc (x :: a) b ∧ lc (x :: a) b ≤ lc a b + 1
  | _, x, a, [], _ => by rw [fz, fz]; omega
  | 0, x, a, y :: b, h => by simp at h
  | n + 1, x, a, y :: b, h => by
    simp only [List.length_cons] at h
    have r1 : lc a b ≤ lc a (y :: b) ∧ lc a (y :: b) ≤ lc a b + 1 := by
      have := lk n y b a (by omega)
      rw [jF b a, jF (y :: b) a] at this
      exact this
    have r2 := lk n x a b (by omega)
    rw [f7]
    split
    · omega
    · omega
theorem og (x : Int) (a b : List Int) : lc a b ≤ lc (x :: a) b ∧ lc (x :: a) b ≤ lc a b + 1 := lk _ x a b (Nat.le_refl _)
theorem lm (y : Int) (a b : List Int) : lc a b ≤ lc a (y :: b) ∧ lc a (y :: b) ≤ lc a b + 1 := by
  have := og y b a
  rw [jF b a, jF (y :: b) a] at this
  exact this
theorem jG : ∀ a b : List Int, lc a b ≤ a.length
  | [], b => by rw [iO]; exact Nat.zero_le _
  | x :: a, b => by
    have := (og x a b).2
    have := jG a b
    simp only [List.length_cons]; omega
def co (x : Int) : List Int → Option Nat
  | [] => none
  | y :: b => if x = y then some 0 else (co x b).map (· + 1)
theorem oh {x : Int} : ∀ {b : List Int}, co x b = none → ∀ a, lc (x :: a) b = lc a b
  | [], _, a => by rw [fz, fz]
  | y :: b, h, a => by
    unfold co at h
    split at h
    · cases h
    · rename_i e
      have h : co x b = none := by cases hm : co x b <;> rw [hm] at h <;> first | rfl | cases h
      rw [f7, if_neg e, oh h a]
      have := (lm y a b).1
      omega
theorem oi {x : Int} : ∀ {b : List Int} {t : Nat}, co x b = some t → ∀ a, lc (x :: a) b = max (lc a b) (lc a (b.drop (t + 1)) + 1)
  | [], _, h, a => by cases h
  | y :: b, t, h, a => by
    unfold co at h
    split at h
    · rename_i e
      cases h
      rw [f7, if_pos e]
      simp only [List.drop_succ_cons, List.drop_zero]
      have := (lm y a b).2
      omega
    · rename_i e
      cases hm : co x b with
      | none => rw [hm] at h; cases h
      | some s =>
        rw [hm] at h
        cases h
        rw [f7, if_neg e, oi hm a]
        simp only [List.drop_succ_cons]
        have := (lm y a b).1
        omega
theorem lr {x : Int} : ∀ {b : List Int} {t : Nat}, co x b = some t → b[t]? = some x ∧ ∀ j, j < t → b[j]? ≠ some x
  | [], _, h => by cases h
  | y :: b, t, h => by
    unfold co at h
    split at h
    · rename_i e; cases h; exact ⟨by rw [e]; rfl, fun j hj => by omega⟩
    · rename_i e
      cases hm : co x b with
      | none => rw [hm] at h; cases h
      | some s =>
        rw [hm] at h
        cases h
        obtain ⟨h1, h2⟩ := lr hm
        refine ⟨by simpa using h1, fun j hj => ?_⟩
        cases j with
        | zero => intro h; exact e (aH h).symm
        | succ j => have hj' : j + 1 < s + 1 := hj; simpa using h2 j (by omega)
def kp : List Int → Nat → List Int → Nat → List (Nat × Nat)
  | [], _, _, _ => []
  | x :: a, i, b, k => if lc (x :: a) b = 0 then [] else
    match co x b with
    | some t => if lc a (b.drop (t + 1)) + 1 = lc (x :: a) b then (i, k + t) :: kp a (i + 1) (b.drop (t + 1)) (k + t + 1) else kp a (i + 1) b k
    | none => kp a (i + 1) b k
theorem jH : ∀ (a : List Int) (i : Nat) (b : List Int) (k : Nat), (kp a i b k).length = lc a b
  | [], i, b, k => by rw [iO]; rfl
  | x :: a, i, b, k => by
    unfold kp
    split
    · rename_i h; rw [h]; rfl
    · cases hm : co x b with
      | none =>
        simp only
        rw [jH a, oh hm]
      | some t =>
        simp only
        have := oi hm a
        split
        · rename_i e
          rw [List.length_cons, jH a]; exact e
        · rename_i e
          rw [jH a]; omega
end Go.AM
end
