import Derived.Test.YtnnkfanmokeiaaaPN1
set_option linter.unusedVariables false
set_option linter.unusedSimpArgs false
namespace Go.AM
open Go
theorem iX {α : Type} (p : α → Bool) : ∀ l : List α, (!(l.any fun x => !p x)) = l.all p
  | [] => rfl
  | x :: l => by simp only [List.any_cons, List.all_cons, Bool.not_or, Bool.not_not, iX p l]
theorem oM : ∀ k p, bW p ≤ k → gV k p = some (cF p)
  | 0, p, h => by have := gw p; omega
  | k + 1, p, h => by
    show jN (gV k) p = _
    have hp := eK p
    have hc : gp p.Kids (fun y0 => jM (gV k) y0) = some (p.Kids.any fun x => !cF x) :=
      oL fun x hx => by
        have := eY hx
        simp only [jM]
        rw [oM k x (by omega)]; rfl
    rw [gu]
    simp only [jN, hc, Option.bind_some, iX]
    by_cases h0 : p.Op = 0
    · simp [h0]
    by_cases h1 : p.Op = 1
    · simp [h1]
    by_cases h2 : p.Op = 2
    · simp [h2]
    by_cases h3 : p.Op = 3
    · simp [h3]
    by_cases h4 : p.Op = 4
    · simp [h4]
    by_cases h6 : p.Op = 6
    · simp [h6]
    by_cases h7 : p.Op = 7
    · simp [h7]
    have : ¬ (0 ≤ p.Op ∧ p.Op ≤ 4) := by omega
    simp [h0, h1, h2, h3, h4, h6, h7, this]
theorem oN : ∀ k p, bW p ≤ k → hE k p = some (cF p)
  | 0, p, h => by have := gw p; omega
  | k + 1, p, h => by
    show jV (hE k) p = _
    have hp := eK p
    have hc : cd (lM p (hE k)) (bF 0 (p.Kids.length : Int)) () = some (iO (if p.Kids.any (fun x => !cF x) then some (Sum.inr false) else none)) := by
      rw [← lV (fun x => !cF x) (Sum.inr false) p.Kids []]
      refine j3 _ _ _ fun pre x r e => ?_
      have := eY (j4 e)
      simp only [lM, hM e, Option.bind_some]
      rw [oN k x (by omega)]
      simp only [Option.bind_some]
      cases cF x <;> rfl
    rw [gu]
    simp only [jV, hc, Option.bind_some, ← iX]
    by_cases h5 : p.Op = 5
    · simp [h5]
    by_cases hn : p.Op < 0
    · have h6 : p.Op ≠ 6 := by omega
      have h7 : p.Op ≠ 7 := by omega
      have : ¬ (0 ≤ p.Op ∧ p.Op ≤ 4) := by omega
      simp [h5, hn, h6, h7, this]
    by_cases hb : p.Op > 7
    · have h6 : p.Op ≠ 6 := by omega
      have h7 : p.Op ≠ 7 := by omega
      have : ¬ (0 ≤ p.Op ∧ p.Op ≤ 4) := by omega
      simp [h5, hn, hb, h6, h7, this]
    have e5 : ((p.Op == 5) || ((decide (p.Op < 0)) || (decide (p.Op > 7)))) = false := by simp [h5, hn, hb]
    rw [e5]
    by_cases h67 : p.Op = 6 ∨ p.Op = 7
    · have e6 : ((p.Op == 6) || (p.Op == 7)) = true := by simpa using h67
      have : ¬ (0 ≤ p.Op ∧ p.Op ≤ 4) := by omega
      rw [e6, if_neg this, if_pos h67]
      cases p.Kids.any (fun x => !cF x) <;> rfl
    · have e6 : ((p.Op == 6) || (p.Op == 7)) = false := by simpa using h67
      have : (0 ≤ p.Op ∧ p.Op ≤ 4) := by omega
      rw [e6, if_pos this]
      rfl
theorem su {p : aj} (h : bx p ≤ b7) : lz p = some (cF p) := oM _ _ (fw h)
theorem lW {p : aj} (h : bx p ≤ b7) : iV p = some (cF p) := oN _ _ (fw h)
theorem hN {p k : aj} (hk : k ∈ p.Kids) (h : bx p ≤ b7) : bx k ≤ b7 := by
  have := j1 hk; rw [gr] at h; omega
theorem eZ {l : List aj} : ((l.length : Int) == 0) = decide (l.length = 0) := by
  rw [Bool.eq_iff_iff]; simp
theorem lX (n : Int) : ∀ k p, bW p ≤ k → bx p ≤ b7 → gW k p n = some (cr n p)
  | 0, p, h, _ => by have := gw p; omega
  | k + 1, p, h, hb => by
    show jP (gW k) p n = _
    have hp := eK p
    have hc : gp p.Kids (fun y0 => jO (gW k) y0 n) = some (p.Kids.any fun x => !cr n x) :=
      oL fun x hx => by
        have := eY hx
        simp only [jO]
        rw [lX n k x (by omega) (hN hx hb)]; rfl
    rw [gv]
    simp only [jP, hc, Option.bind_some, iX]
    by_cases h0 : p.Op = 0
    · simp [h0, Bool.decide_and, eZ]
      all_goals (rw [Bool.eq_iff_iff]; simp)
    by_cases h1 : p.Op = 1
    · simp [h1, Bool.decide_and, eZ]
      all_goals (rw [Bool.eq_iff_iff]; simp)
    by_cases h4 : p.Op = 4
    · by_cases hl : p.Kids.length = 1
      · obtain ⟨x, hx⟩ := List.length_eq_one_iff.1 hl
        have hm : x ∈ p.Kids := by rw [hx]; simp
        have := eY hm
        have e1 := su (hN hm hb)
        have e2 := lX n k x (by omega) (hN hm hb)
        simp only [h4, hx]
        simp [bt, e1, e2]
        by_cases hf : p.F = 0
        · by_cases hn : p.N = 0
          · cases cF x <;> cases cr n x <;> simp [hf, hn]
          · simp [hf, hn]
        · simp [hf]
      · have : ¬ ((p.Kids.length : Int) = 1) := by omega
        simp [h4, hl, this]
    by_cases h67 : p.Op = 6 ∨ p.Op = 7
    · by_cases hl : 2 ≤ p.Kids.length
      · have : (p.Kids.length : Int) ≥ 2 := by omega
        rcases h67 with h6 | h7
        · by_cases hf : p.F = 0 <;> by_cases hn : p.N = 0 <;> simp [h6, hl, this, hf, hn]
        · by_cases hf : p.F = 0 <;> by_cases hn : p.N = 0 <;> simp [h7, hl, this, hf, hn]
      · have : ¬ (p.Kids.length : Int) ≥ 2 := by omega
        rcases h67 with h6 | h7
        · simp [h6, hl, this]
        · simp [h7, hl, this]
    have h6 : p.Op ≠ 6 := fun h => h67 (.inl h)
    have h7 : p.Op ≠ 7 := fun h => h67 (.inr h)
    by_cases h2 : p.Op = 2
    · simp [h2, Bool.decide_and, eZ]
      all_goals (rw [Bool.eq_iff_iff]; simp)
    by_cases h5 : p.Op = 5
    · simp [h5, Bool.decide_and, eZ]
      all_goals (rw [Bool.eq_iff_iff]; simp)
    by_cases h3 : p.Op = 3
    · simp [h3, Bool.decide_and, eZ]
      all_goals (rw [Bool.eq_iff_iff]; simp)
    simp [h0, h1, h4, h6, h7, h2, h5, h3]
theorem lY (n : Int) : ∀ k p, bW p ≤ k → bx p ≤ b7 → hH k p n = some (cr n p)
  | 0, p, h, _ => by have := gw p; omega
  | k + 1, p, h, hb => by
    show jW (hH k) p n = _
    have hp := eK p
    have hc : cd (lN p n (hH k)) (bF 0 (p.Kids.length : Int)) () = some (iO (if p.Kids.any (fun x => !cr n x) then some false else none)) := by
      rw [← lV (fun x => !cr n x) false p.Kids []]
      refine j3 _ _ _ fun pre x r e => ?_
      have := eY (j4 e)
      simp only [lN, hM e, Option.bind_some]
      rw [lY n k x (by omega) (hN (j4 e) hb)]
      simp only [Option.bind_some]
      cases cr n x <;> rfl
    rw [gv]
    simp only [jW, hc, Option.bind_some]
    by_cases h0 : p.Op = 0
    · simp [h0, Bool.decide_and, eZ]
      all_goals (rw [Bool.eq_iff_iff]; simp)
    by_cases h1 : p.Op = 1
    · simp [h1, Bool.decide_and, eZ]
      all_goals (rw [Bool.eq_iff_iff]; simp)
    by_cases h2 : p.Op = 2
    · simp [h2, Bool.decide_and, eZ]
      all_goals (rw [Bool.eq_iff_iff]; simp)
    by_cases h3 : p.Op = 3
    · simp [h3, Bool.decide_and, eZ]
      all_goals (rw [Bool.eq_iff_iff]; simp)
    by_cases h5 : p.Op = 5
    · simp [h5, Bool.decide_and, eZ]
      all_goals (rw [Bool.eq_iff_iff]; simp)
    by_cases h4 : p.Op = 4
    · by_cases hl : p.Kids.length = 1
      · obtain ⟨x, hx⟩ := List.length_eq_one_iff.1 hl
        have hm : x ∈ p.Kids := by rw [hx]; simp
        have := eY hm
        have e1 := lW (hN hm hb)
        have e2 := lY n k x (by omega) (hN hm hb)
        simp only [h4, hx]
        simp [bt, e1, e2]
        by_cases hf : p.F = 0
        · by_cases hn : p.N = 0
          · cases cF x <;> cases cr n x <;> simp [hf, hn]
          · simp [hf, hn]
        · simp [hf]
      · have : ¬ ((p.Kids.length : Int) = 1) := by omega
        simp [h4, hl, this]
    by_cases h67 : p.Op = 6 ∨ p.Op = 7
    · have e67 : ((if (p.Op == 6) then some (p.Op == 6) else some (p.Op == 7)) : Option Bool) = some true := by rcases h67 with h | h <;> simp [h]
      rw [e67]
      simp only [Option.bind_some]
      by_cases hl : 2 ≤ p.Kids.length
      · have : ¬ (p.Kids.length : Int) < 2 := by omega
        by_cases hf : p.F = 0
        · by_cases hn : p.N = 0
          · rw [show (p.Op == 0) = false by simpa using h0, show (p.Op == 1) = false by simpa using h1, show (p.Op == 2) = false by simpa using h2, show (p.Op == 3) = false by simpa using h3, show (p.Op == 5) = false by simpa using h5, show (p.Op == 4) = false by simpa using h4]
            rw [show (decide ((p.Kids.length : Int) < 2)) = false by simpa using this, hf, hn, if_neg (show ¬ (p.Op = 0 ∨ p.Op = 1) by omega), if_neg h4, if_pos h67, show (decide (2 ≤ p.Kids.length ∧ (0 : Int) = 0 ∧ (0 : Int) = 0)) = true by simpa using hl]
            rw [← iX]
            generalize p.Kids.any (fun x => !cr n x) = b
            cases b <;> simp [iO]
          · simp [h0, h1, h2, h3, h5, h4, h67, hl, this, hf, hn]
        · simp [h0, h1, h2, h3, h5, h4, h67, hl, this, hf]
      · have : (p.Kids.length : Int) < 2 := by omega
        simp [h0, h1, h2, h3, h5, h4, h67, hl, this]
    have h6 : p.Op ≠ 6 := fun h => h67 (.inl h)
    have h7 : p.Op ≠ 7 := fun h => h67 (.inr h)
    simp [h0, h1, h4, h6, h7, h2, h5, h3]
theorem sv {p : aj} (n : Int) (h : bx p ≤ b7) : lA p n = some (cr n p) := lX n _ _ (fw h) h
theorem sw {p : aj} (n : Int) (h : bx p ≤ b7) : lO p n = some (cr n p) := lY n _ _ (fw h) h
def iY (p : aj) : Bool := decide (bx p ≤ 300 ∧ bW p ≤ 20) && cr 4 p
theorem sx {p : aj} (h : bx p ≤ b7) : jR (ez.mk [0, 0, 0, 0] p []) = some (if bx p ≤ 300 ∧ bW p ≤ 20 then if cr 4 p then 0 else 11 else 2) := by
  have e3 := sv 4 h
  simp only [jR, sq h, sr h]
  by_cases h1 : bx p ≤ 300
  · have : ¬ (bx p : Int) > 300 := by omega
    by_cases h2 : bW p ≤ 20
    · have h2' : ¬ (bW p : Int) > 20 := by omega
      cases hf : cr 4 p <;> simp [h1, h2, this, h2', e3, hf, bF, cd]
    · have h2' : (bW p : Int) > 20 := by omega
      simp [h1, h2, this, h2']
  · have : (bx p : Int) > 300 := by omega
    simp [h1, this]
theorem sy {p : aj} (h : bx p ≤ b7) : jY (ez.mk [0, 0, 0, 0] p []) = some (if bx p ≤ 300 ∧ bW p ≤ 20 then if cr 4 p then 0 else 11 else 2) := by
  have e3 := sw 4 h
  simp only [jY, oH h, oI h]
  by_cases h1 : bx p ≤ 300
  · have : ¬ (bx p : Int) > 300 := by omega
    by_cases h2 : bW p ≤ 20
    · have h2' : ¬ (bW p : Int) > 20 := by omega
      cases hf : cr 4 p <;> simp [h1, h2, this, h2', e3, hf, bF, cd]
    · have h2' : (bW p : Int) > 20 := by omega
      simp [h1, h2, this, h2']
  · have : (bx p : Int) > 300 := by omega
    simp [h1, this]
theorem oO : gc 4 (0 : Int) = some [0, 0, 0, 0] := rfl
theorem sA {p : aj} (h : bx p ≤ b7) : iW p = some (iY p) := by
  simp only [iW, oO, Option.bind_some, sy h, iY]
  by_cases c : bx p ≤ 300 ∧ bW p ≤ 20
  · cases hf : cr 4 p <;> simp [c]
  · simp [c]
end Go.AM
