import Derived.Test.YtnnkfanmokeiaaaPN3
set_option linter.unusedVariables false
set_option linter.unusedSimpArgs false
namespace Go.AM
open Go
theorem sB (q : A8 Int) : fK q q = some 0 := by
  have h1 : ∀ x : Int, jT x x = some 0 := fun x => by
    simp [jT, jS]
  have h2 : bF 0 8 = [0, 1, 2, 3, 4, 5, 6, 7] := by decide
  obtain ⟨x0, x1, x2, x3, x4, x5, x6, x7⟩ := q
  simp [fK, h2, cd, ov, A8.get, A8.l, bt, h1]
theorem lZ (n : Int) (h0 : 0 ≤ n) (h : n ≤ 2) : ∃ r, lB (IntKind.u64.wrap n) = some r := by
  have : n = 0 ∨ n = 1 ∨ n = 2 := by omega
  rcases this with rfl | rfl | rfl
  · exact ⟨0, by decide +kernel⟩
  · exact ⟨1, by decide +kernel⟩
  · exact ⟨2, by decide +kernel⟩
theorem oQ : eX [] = some [] := by
  obtain ⟨r, hr⟩ := lZ 0 (by omega) (by omega)
  obtain ⟨m, hm⟩ := jI 3 (by omega)
  have e : bF 1 0 = [] := by decide
  have ht : eW [] (fun y0 y1 => fK y0 y1) = some [] := by
    simp only [eW, List.length_nil, Int.ofNat_zero, Int.natCast_zero]
    rw [hr]
    simp only [Option.bind_some, gZ, hm, jJ]
    rfl
  simp only [eX, iR, gX, cS, List.length_nil, List.append_nil]
  simp [ht, g7]
theorem sC (q : A8 Int) : eX [q] = some [q] := by
  obtain ⟨r, hr⟩ := lZ 1 (by omega) (by omega)
  obtain ⟨m, hm⟩ := jI 3 (by omega)
  have ht : eW [q] (fun y0 y1 => fK y0 y1) = some [q] := by
    simp only [eW, List.length_cons, List.length_nil]
    rw [show (((0 + 1 : Nat)) : Int) = 1 from rfl, hr]
    simp only [Option.bind_some, gZ, hm, jJ]
    rfl
  simp only [eX, iR, gX, cS, List.length_nil, List.append_nil]
  simp [ht, g7]
theorem sD (q : A8 Int) : eX [q, q] = some [q] := by
  obtain ⟨r, hr⟩ := lZ 2 (by omega) (by omega)
  obtain ⟨m, hm⟩ := jI 3 (by omega)
  have e : bF 1 2 = [1] := by decide
  have ht : eW [q, q] (fun y0 y1 => fK y0 y1) = some [q, q] := by
    simp only [eW, List.length_cons, List.length_nil]
    rw [show (((0 + 1 + 1 : Nat)) : Int) = 2 from rfl, hr]
    simp only [Option.bind_some, gZ, hm, jJ, lE]
    rw [if_pos (by decide)]
    have : gY [q, q] 0 2 (fun y0 y1 => fK y0 y1) = some [q, q] := by
      simp only [gY]
      rw [show bF (IntKind.i64.wrap (0 + 1)) 2 = [1] from by decide]
      simp only [cT, lD, hm, lk, lC]
      rw [if_pos (by decide), show IntKind.i64.wrap (1 - 1) = 0 from by decide]
      simp [bt, sB]
    rw [this]; rfl
  have hc : g7 [q, q] = some [q] := by
    simp only [g7, List.length_cons, List.length_nil]
    rw [if_neg (by simp), show bF 1 ((0 + 1 + 1 : Nat) : Int) = [1] from by decide]
    simp only [cd, ox]
    rw [show IntKind.i64.wrap (1 - 1) = 0 from by decide]
    simp [bt, dc, hm, lk, ow]
  simp only [eX, iR, gX, cS, List.length_nil, List.append_nil]
  simp [ht, hc]
def ol (b : Bool) (q : A8 Int) : List (A8 Int) := if b then [q] else []
theorem iZ (b : Bool) (q : A8 Int) : fI b q = some (ol b q) := by cases b <;> rfl
theorem sE (b : Bool) (q : A8 Int) : (((ol b q).length : Int) == 0) = !b := by cases b <;> rfl
theorem oR (a b : Bool) (q : A8 Int) : (cS (ol a q) (ol b q)).bind eX = some (ol (a || b) q) := by
  cases a <;> cases b <;> simp [ol, cS, oQ, sC, sD]
section
variable (st : List Int) (q : A8 Int)
mutual
def ev : aj → Bool
  | ⟨o, f, n, l⟩ => if o = 1 then true else if o = 2 then q.get f == some n else if o = 3 then (fJ st ⟨3, f, n, []⟩).getD false else if o = 4 then !(du l) else if o = 7 then du l else if o = 6 then eA l else false
def eA : List aj → Bool
  | [] => true
  | x :: l => ev x && eA l
def du : List aj → Bool
  | [] => false
  | x :: l => ev x || du l
end
theorem oS : ∀ l m, eA st q (l ++ m) = (eA st q l && eA st q m)
  | [], m => by simp [eA]
  | x :: l, m => by simp [eA, oS l m, Bool.and_assoc]
theorem oT : ∀ l m, du st q (l ++ m) = (du st q l || du st q m)
  | [], m => by simp [du]
  | x :: l, m => by simp [du, oT l m, Bool.or_assoc]
theorem hO (p : aj) : ev st q p = if p.Op = 1 then true else if p.Op = 2 then q.get p.F == some p.N else if p.Op = 3 then (fJ st ⟨3, p.F, p.N, []⟩).getD false else if p.Op = 4 then !(du st q p.Kids) else if p.Op = 7 then du st q p.Kids else if p.Op = 6 then eA st q p.Kids else false := by
  cases p; rw [ev]
theorem sF (f n : Int) (o : Int) (l : List aj) : ∃ b, fJ st ⟨o, f, n, l⟩ = some b ∧ fJ st ⟨3, f, n, []⟩ = some b := by
  unfold fJ
  simp only
  by_cases h0 : 0 ≤ f
  · by_cases h1 : f < (st.length : Int)
    · have : f.toNat < st.length := by omega
      refine ⟨st[f.toNat] == n, ?_, ?_⟩ <;> simp [h0, h1, bt, this]
    · refine ⟨false, ?_, ?_⟩ <;> simp [h0, h1]
  · refine ⟨false, ?_, ?_⟩ <;> simp [h0]
theorem sG {f : Int} (h0 : 0 ≤ f) (h1 : f < 8) : ∃ v, q.get f = some v := by
  have : f = 0 ∨ f = 1 ∨ f = 2 ∨ f = 3 ∨ f = 4 ∨ f = 5 ∨ f = 6 ∨ f = 7 := by omega
  rcases this with rfl | rfl | rfl | rfl | rfl | rfl | rfl | rfl <;> exact ⟨_, rfl⟩
theorem oU : ∀ k p, bW p ≤ k → cF p = true → cr 4 p = true → fL k p st q = some (ol (ev st q p) q)
  | 0, p, h, _, _ => by have := gw p; omega
  | k + 1, p, h, hp, hf => by
    show jU (fL k) p st q = _
    have hd := eK p
    rw [hO]
    rw [gu] at hp
    rw [gv] at hf
    unfold jU
    by_cases h1 : p.Op = 1
    · simp [h1, iZ]
    by_cases h2 : p.Op = 2
    · simp [h2] at hf ⊢
      obtain ⟨v, hv⟩ := sG q (f := p.F) (by omega) (by omega)
      simp [hv, iZ]
    by_cases h3 : p.Op = 3
    · obtain ⟨b, e1, e2⟩ := sF st p.F p.N p.Op p.Kids
      have e1 : fJ st p = some b := e1
      simp [h3, e1, e2, iZ]
    have hk : p.Op = 4 ∨ p.Op = 6 ∨ p.Op = 7 → ∀ x ∈ p.Kids, fL k x st q = some (ol (ev st q x) q) := fun ho x hx => by
      have hdx := eY hx
      refine oU k x (by omega) ?_ ?_
      · rcases ho with ho | ho | ho
        · simp [ho] at hf; exact hf.1.2 x hx
        · simp [ho] at hp; exact hp x hx
        · simp [ho] at hp; exact hp x hx
      · rcases ho with ho | ho | ho
        · simp [ho] at hf; exact hf.2 x hx
        · simp [ho] at hf; exact hf.2 x hx
        · simp [ho] at hf; exact hf.2 x hx
    by_cases h4 : p.Op = 4
    · have hk := hk (.inl h4)
      simp [h4] at hf ⊢
      obtain ⟨y, hy⟩ := List.length_eq_one_iff.1 hf.1.1.1
      have := hk y (by rw [hy]; simp)
      rw [hy]
      simp [bt, this, sE, iZ, du]
    by_cases h7 : p.Op = 7
    · have hk := hk (.inr (.inr h7))
      obtain ⟨z, e, hP⟩ := iN (lF p st q (fL k)) p.Kids (fun l s => s = ol (du st q l) q) [] rfl (fun i x s hx hP => by
        have hm := df hx
        refine ⟨_, ?_, rfl⟩
        simp only [lF, gT, hx, Option.bind_some, hk x hm]
        have := oR (du st q (p.Kids.take i)) (ev st q x) q
        obtain ⟨l1, g1, g2⟩ := Option.bind_eq_some_iff.1 this
        rw [hP, g1]
        simp only [Option.bind_some]
        rw [g2, oT]
        simp [du])
      simp [h1, h2, h3, h4, h7, e, hP]
    by_cases h6 : p.Op = 6
    · have hk := hk (.inr (.inl h6))
      obtain ⟨z, e, hP⟩ := iN (lG p st (fL k)) p.Kids (fun l s => s = ol (eA st q l) q) [q] rfl (fun i x s hx hP => by
        have hm := df hx
        refine ⟨_, ?_, rfl⟩
        simp only [lG, gT, hx, Option.bind_some]
        rw [hP, oS]
        cases eA st q (p.Kids.take i) with
        | false =>
          rw [show bF 0 (((ol false q).length : Nat) : Int) = [] from rfl]
          simp [cT, ol, oQ]
        | true =>
          rw [show bF 0 (((ol true q).length : Nat) : Int) = [0] from rfl]
          simp only [cT, oy]
          have h0 : bt (ol true q) 0 = some q := rfl
          rw [h0]
          simp only [Option.bind_some, hk x hm]
          have := oR false (ev st q x) q
          obtain ⟨l1, g1, g2⟩ := Option.bind_eq_some_iff.1 this
          have g1 : cS ([] : List (A8 Int)) (ol (ev st q x) q) = some l1 := g1
          rw [g1]
          simp only [Option.bind_some]
          rw [g2]
          simp [eA])
      simp [h1, h2, h3, h4, h7, h6, iZ, ol] at e ⊢
      simp [e, hP, ol]
    have h0 : p.Op = 0 := by
      by_cases h0 : p.Op = 0
      · exact h0
      exfalso
      by_cases h5 : 0 ≤ p.Op ∧ p.Op ≤ 4
      · omega
      · rw [if_neg h5, if_neg (by omega)] at hp; cases hp
    simp [h0, ol]
end
end Go.AM
