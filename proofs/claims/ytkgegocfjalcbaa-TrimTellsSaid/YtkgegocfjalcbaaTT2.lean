import Derived.Test.YtkgegocfjalcbaaTT1
/-
  Predicates, policies that are well formed, programs that are; policies that are the same.
-/
set_option linter.unusedVariables false
set_option linter.unusedSimpArgs false
namespace Go.AM
open Go

theorem all_notany {α : Type} (p : α → Bool) : ∀ l : List α, (!(l.any fun x => !p x)) = l.all p
  | [] => rfl
  | x :: l => by simp only [List.any_cons, List.all_cons, Bool.not_or, Bool.not_not, all_notany p l]

theorem pred_f : ∀ k p, pdepth p ≤ k → syntax_Predicate_f k p = some (ppred p)
  | 0, p, h => by have := pdepth_pos p; omega
  | k + 1, p, h => by
    show syntax_Predicate_s (syntax_Predicate_f k) p = _
    have hp := pdepth_eq p
    have hc : slices_ContainsFunc_api_Pol p.Kids (fun y0 => syntax_Predicate_1 (syntax_Predicate_f k) y0) = some (p.Kids.any fun x => !ppred x) :=
      s_contains fun x hx => by
        have := pdepthL_mem hx
        simp only [syntax_Predicate_1]
        rw [pred_f k x (by omega)]; rfl
    rw [ppred_eq]
    simp only [syntax_Predicate_s, hc, Option.bind_some, all_notany]
    by_cases h0 : p.Op = 0
    · simp [h0]
    by_cases h1 : p.Op = 1
    · simp [h1]
    by_cases h2 : p.Op = 2
    · simp [h2]
    by_cases h3 : p.Op = 3
    · simp [h3]
    by_cases h4 : p.Op = 4
    · simp [h4]
    by_cases h6 : p.Op = 6
    · simp [h6]
    by_cases h7 : p.Op = 7
    · simp [h7]
    have : ¬ (0 ≤ p.Op ∧ p.Op ≤ 4) := by omega
    simp [h0, h1, h2, h3, h4, h6, h7, this]

theorem rpred_f : ∀ k p, pdepth p ≤ k → ref05_Predicate_f k p = some (ppred p)
  | 0, p, h => by have := pdepth_pos p; omega
  | k + 1, p, h => by
    show ref05_Predicate_s (ref05_Predicate_f k) p = _
    have hp := pdepth_eq p
    have hc : forR (ref05_Predicate_b1 p (ref05_Predicate_f k)) (irange 0 (p.Kids.length : Int)) () = some (exOf (if p.Kids.any (fun x => !ppred x) then some (Sum.inr false) else none)) := by
      rw [← runS_any (fun x => !ppred x) (Sum.inr false) p.Kids []]
      refine forR_split0 _ _ _ fun pre x r e => ?_
      have := pdepthL_mem (mem_pre e)
      simp only [ref05_Predicate_b1, gat_pre e, Option.bind_some]
      rw [rpred_f k x (by omega)]
      simp only [Option.bind_some]
      cases ppred x <;> rfl
    rw [ppred_eq]
    simp only [ref05_Predicate_s, hc, Option.bind_some, ← all_notany]
    by_cases h5 : p.Op = 5
    · simp [h5]
    by_cases hn : p.Op < 0
    · have h6 : p.Op ≠ 6 := by omega
      have h7 : p.Op ≠ 7 := by omega
      have : ¬ (0 ≤ p.Op ∧ p.Op ≤ 4) := by omega
      simp [h5, hn, h6, h7, this]
    by_cases hb : p.Op > 7
    · have h6 : p.Op ≠ 6 := by omega
      have h7 : p.Op ≠ 7 := by omega
      have : ¬ (0 ≤ p.Op ∧ p.Op ≤ 4) := by omega
      simp [h5, hn, hb, h6, h7, this]
    have e5 : ((p.Op == 5) || ((decide (p.Op < 0)) || (decide (p.Op > 7)))) = false := by simp [h5, hn, hb]
    rw [e5]
    by_cases h67 : p.Op = 6 ∨ p.Op = 7
    · have e6 : ((p.Op == 6) || (p.Op == 7)) = true := by simpa using h67
      have : ¬ (0 ≤ p.Op ∧ p.Op ≤ 4) := by omega
      rw [e6, if_neg this, if_pos h67]
      cases p.Kids.any (fun x => !ppred x) <;> rfl
    · have e6 : ((p.Op == 6) || (p.Op == 7)) = false := by simpa using h67
      have : (0 ≤ p.Op ∧ p.Op ≤ 4) := by omega
      rw [e6, if_pos this]
      rfl

theorem s_pred {p : api_Pol} (h : psize p ≤ BIG) : syntax_Predicate p = some (ppred p) := pred_f _ _ (fuel_ge h)
theorem r_pred {p : api_Pol} (h : psize p ≤ BIG) : ref05_Predicate p = some (ppred p) := rpred_f _ _ (fuel_ge h)

theorem kid_big {p k : api_Pol} (hk : k ∈ p.Kids) (h : psize p ≤ BIG) : psize k ≤ BIG := by
  have := psizeL_mem hk; rw [psize_eq] at h; omega

theorem len0 {l : List api_Pol} : ((l.length : Int) == 0) = decide (l.length = 0) := by
  rw [Bool.eq_iff_iff]; simp

theorem form_f (n : Int) : ∀ k p, pdepth p ≤ k → psize p ≤ BIG → syntax_formed_f k p n = some (pform n p)
  | 0, p, h, _ => by have := pdepth_pos p; omega
  | k + 1, p, h, hb => by
    show syntax_formed_s (syntax_formed_f k) p n = _
    have hp := pdepth_eq p
    have hc : slices_ContainsFunc_api_Pol p.Kids (fun y0 => syntax_formed_1 (syntax_formed_f k) y0 n) = some (p.Kids.any fun x => !pform n x) :=
      s_contains fun x hx => by
        have := pdepthL_mem hx
        simp only [syntax_formed_1]
        rw [form_f n k x (by omega) (kid_big hx hb)]; rfl
    rw [pform_eq]
    simp only [syntax_formed_s, hc, Option.bind_some, all_notany]
    by_cases h0 : p.Op = 0
    · simp [h0, Bool.decide_and, len0]
      all_goals (rw [Bool.eq_iff_iff]; simp)
    by_cases h1 : p.Op = 1
    · simp [h1, Bool.decide_and, len0]
      all_goals (rw [Bool.eq_iff_iff]; simp)
    by_cases h4 : p.Op = 4
    · by_cases hl : p.Kids.length = 1
      · obtain ⟨x, hx⟩ := List.length_eq_one_iff.1 hl
        have hm : x ∈ p.Kids := by rw [hx]; simp
        have := pdepthL_mem hm
        have e1 := s_pred (kid_big hm hb)
        have e2 := form_f n k x (by omega) (kid_big hm hb)
        simp only [h4, hx]
        simp [gat, e1, e2]
        by_cases hf : p.F = 0
        · by_cases hn : p.N = 0
          · cases ppred x <;> cases pform n x <;> simp [hf, hn]
          · simp [hf, hn]
        · simp [hf]
      · have : ¬ ((p.Kids.length : Int) = 1) := by omega
        simp [h4, hl, this]
    by_cases h67 : p.Op = 6 ∨ p.Op = 7
    · by_cases hl : 2 ≤ p.Kids.length
      · have : (p.Kids.length : Int) ≥ 2 := by omega
        rcases h67 with h6 | h7
        · by_cases hf : p.F = 0 <;> by_cases hn : p.N = 0 <;> simp [h6, hl, this, hf, hn]
        · by_cases hf : p.F = 0 <;> by_cases hn : p.N = 0 <;> simp [h7, hl, this, hf, hn]
      · have : ¬ (p.Kids.length : Int) ≥ 2 := by omega
        rcases h67 with h6 | h7
        · simp [h6, hl, this]
        · simp [h7, hl, this]
    have h6 : p.Op ≠ 6 := fun h => h67 (.inl h)
    have h7 : p.Op ≠ 7 := fun h => h67 (.inr h)
    by_cases h2 : p.Op = 2
    · simp [h2, Bool.decide_and, len0]
      all_goals (rw [Bool.eq_iff_iff]; simp)
    by_cases h5 : p.Op = 5
    · simp [h5, Bool.decide_and, len0]
      all_goals (rw [Bool.eq_iff_iff]; simp)
    by_cases h3 : p.Op = 3
    · simp [h3, Bool.decide_and, len0]
      all_goals (rw [Bool.eq_iff_iff]; simp)
    simp [h0, h1, h4, h6, h7, h2, h5, h3]

theorem rform_f (n : Int) : ∀ k p, pdepth p ≤ k → psize p ≤ BIG → ref05_formed_f k p n = some (pform n p)
  | 0, p, h, _ => by have := pdepth_pos p; omega
  | k + 1, p, h, hb => by
    show ref05_formed_s (ref05_formed_f k) p n = _
    have hp := pdepth_eq p
    have hc : forR (ref05_formed_b1 p n (ref05_formed_f k)) (irange 0 (p.Kids.length : Int)) () = some (exOf (if p.Kids.any (fun x => !pform n x) then some false else none)) := by
      rw [← runS_any (fun x => !pform n x) false p.Kids []]
      refine forR_split0 _ _ _ fun pre x r e => ?_
      have := pdepthL_mem (mem_pre e)
      simp only [ref05_formed_b1, gat_pre e, Option.bind_some]
      rw [rform_f n k x (by omega) (kid_big (mem_pre e) hb)]
      simp only [Option.bind_some]
      cases pform n x <;> rfl
    rw [pform_eq]
    simp only [ref05_formed_s, hc, Option.bind_some]
    by_cases h0 : p.Op = 0
    · simp [h0, Bool.decide_and, len0]
      all_goals (rw [Bool.eq_iff_iff]; simp)
    by_cases h1 : p.Op = 1
    · simp [h1, Bool.decide_and, len0]
      all_goals (rw [Bool.eq_iff_iff]; simp)
    by_cases h2 : p.Op = 2
    · simp [h2, Bool.decide_and, len0]
      all_goals (rw [Bool.eq_iff_iff]; simp)
    by_cases h3 : p.Op = 3
    · simp [h3, Bool.decide_and, len0]
      all_goals (rw [Bool.eq_iff_iff]; simp)
    by_cases h5 : p.Op = 5
    · simp [h5, Bool.decide_and, len0]
      all_goals (rw [Bool.eq_iff_iff]; simp)
    by_cases h4 : p.Op = 4
    · by_cases hl : p.Kids.length = 1
      · obtain ⟨x, hx⟩ := List.length_eq_one_iff.1 hl
        have hm : x ∈ p.Kids := by rw [hx]; simp
        have := pdepthL_mem hm
        have e1 := r_pred (kid_big hm hb)
        have e2 := rform_f n k x (by omega) (kid_big hm hb)
        simp only [h4, hx]
        simp [gat, e1, e2]
        by_cases hf : p.F = 0
        · by_cases hn : p.N = 0
          · cases ppred x <;> cases pform n x <;> simp [hf, hn]
          · simp [hf, hn]
        · simp [hf]
      · have : ¬ ((p.Kids.length : Int) = 1) := by omega
        simp [h4, hl, this]
    by_cases h67 : p.Op = 6 ∨ p.Op = 7
    · have e67 : ((if (p.Op == 6) then some (p.Op == 6) else some (p.Op == 7)) : Option Bool) = some true := by rcases h67 with h | h <;> simp [h]
      rw [e67]
      simp only [Option.bind_some]
      by_cases hl : 2 ≤ p.Kids.length
      · have : ¬ (p.Kids.length : Int) < 2 := by omega
        by_cases hf : p.F = 0
        · by_cases hn : p.N = 0
          · rw [show (p.Op == 0) = false by simpa using h0, show (p.Op == 1) = false by simpa using h1, show (p.Op == 2) = false by simpa using h2, show (p.Op == 3) = false by simpa using h3, show (p.Op == 5) = false by simpa using h5, show (p.Op == 4) = false by simpa using h4]
            rw [show (decide ((p.Kids.length : Int) < 2)) = false by simpa using this, hf, hn, if_neg (show ¬ (p.Op = 0 ∨ p.Op = 1) by omega), if_neg h4, if_pos h67, show (decide (2 ≤ p.Kids.length ∧ (0 : Int) = 0 ∧ (0 : Int) = 0)) = true by simpa using hl]
            rw [← all_notany]
            generalize p.Kids.any (fun x => !pform n x) = b
            cases b <;> simp [exOf]
          · simp [h0, h1, h2, h3, h5, h4, h67, hl, this, hf, hn]
        · simp [h0, h1, h2, h3, h5, h4, h67, hl, this, hf]
      · have : (p.Kids.length : Int) < 2 := by omega
        simp [h0, h1, h2, h3, h5, h4, h67, hl, this]
    have h6 : p.Op ≠ 6 := fun h => h67 (.inl h)
    have h7 : p.Op ≠ 7 := fun h => h67 (.inr h)
    simp [h0, h1, h4, h6, h7, h2, h5, h3]

theorem s_form {p : api_Pol} (n : Int) (h : psize p ≤ BIG) : syntax_formed p n = some (pform n p) := form_f n _ _ (fuel_ge h) h
theorem r_form {p : api_Pol} (n : Int) (h : psize p ≤ BIG) : ref05_formed p n = some (pform n p) := rform_f n _ _ (fuel_ge h) h

/-! the same -/

theorem pol_ext {p q : api_Pol} : p = q ↔ p.Op = q.Op ∧ p.F = q.F ∧ p.N = q.N ∧ p.Kids = q.Kids := by
  cases p; cases q; simp

theorem zip_all {α : Type} [DecidableEq α] : ∀ {l m : List α}, l.length = m.length → ((l.zip m).any fun x => !decide (x.1 = x.2)) = !decide (l = m) := by
  intro l m h
  have := zip_ne h
  simpa using this

theorem same_f : ∀ k p q, pdepth p ≤ k → trim_same_f k p q = some (decide (p = q))
  | 0, p, q, h => by have := pdepth_pos p; omega
  | k + 1, p, q, h => by
    show trim_same_s (trim_same_f k) p q = _
    have hp := pdepth_eq p
    have hc : p.Kids.length = q.Kids.length → forR (slices_EqualFunc_api_Pol_b1 p.Kids q.Kids (fun y0 y1 => trim_same_f k y0 y1)) (irange 0 (p.Kids.length : Int)) () = some (exOf (if (p.Kids.zip q.Kids).any (fun x => !decide (x.1 = x.2)) then some false else none)) := by
      intro hl
      rw [← runL_any (fun x : api_Pol × api_Pol => !decide (x.1 = x.2)) false]
      refine forR_zip _ _ _ _ hl fun j x y hx hy => ?_
      have := pdepthL_mem (List.mem_of_getElem? hx)
      simp only [slices_EqualFunc_api_Pol_b1, gat_nat, hx, hy, Option.bind_some]
      rw [same_f k x y (by omega)]
      simp only [Option.bind_some]
      by_cases c : x = y <;> simp [c, brOf]
    simp only [trim_same_s, slices_EqualFunc_api_Pol]
    by_cases h1 : p.Op = q.Op
    · by_cases h2 : p.F = q.F
      · by_cases h3 : p.N = q.N
        · by_cases hl : p.Kids.length = q.Kids.length
          · rw [hc hl, zip_all hl]
            by_cases c : p.Kids = q.Kids
            · have : p = q := pol_ext.2 ⟨h1, h2, h3, c⟩
              simp [h1, h2, h3, hl, c, this, exOf]
            · have : ¬ p = q := fun h => c (by rw [h])
              simp [h1, h2, h3, hl, c, this, exOf]
          · have : ¬ p = q := fun h => hl (by rw [h])
            have h' : ¬ ((p.Kids.length : Int) = q.Kids.length) := by omega
            simp [h1, h2, h3, hl, this, h']
        · have : ¬ p = q := fun h => h3 (by rw [h])
          simp [h1, h2, h3, this]
      · have : ¬ p = q := fun h => h2 (by rw [h])
        simp [h1, h2, this]
    · have : ¬ p = q := fun h => h1 (by rw [h])
      simp [h1, this]

theorem rsame_f : ∀ k p q, pdepth p ≤ k → ref05_SamePol_f k p q = some (decide (p = q))
  | 0, p, q, h => by have := pdepth_pos p; omega
  | k + 1, p, q, h => by
    show ref05_SamePol_s (ref05_SamePol_f k) p q = _
    have hp := pdepth_eq p
    have hc : p.Kids.length = q.Kids.length → forR (ref05_SamePol_b1 p q (ref05_SamePol_f k)) (irange 0 (p.Kids.length : Int)) () = some (exOf (if (p.Kids.zip q.Kids).any (fun x => !decide (x.1 = x.2)) then some false else none)) := by
      intro hl
      rw [← runL_any (fun x : api_Pol × api_Pol => !decide (x.1 = x.2)) false]
      refine forR_zip _ _ _ _ hl fun j x y hx hy => ?_
      have := pdepthL_mem (List.mem_of_getElem? hx)
      simp only [ref05_SamePol_b1, gat_nat, hx, hy, Option.bind_some]
      rw [rsame_f k x y (by omega)]
      simp only [Option.bind_some]
      by_cases c : x = y <;> simp [c, brOf]
    simp only [ref05_SamePol_s]
    by_cases h1 : p.Op = q.Op
    · by_cases h2 : p.F = q.F
      · by_cases h3 : p.N = q.N
        · by_cases hl : p.Kids.length = q.Kids.length
          · rw [hc hl, zip_all hl]
            by_cases c : p.Kids = q.Kids
            · have : p = q := pol_ext.2 ⟨h1, h2, h3, c⟩
              simp [h1, h2, h3, hl, c, this, exOf]
            · have : ¬ p = q := fun h => c (by rw [h])
              simp [h1, h2, h3, hl, c, this, exOf]
          · have : ¬ p = q := fun h => hl (by rw [h])
            have h' : ¬ ((p.Kids.length : Int) = q.Kids.length) := by omega
            simp [h1, h2, h3, hl, this, h']
        · have : ¬ p = q := fun h => h3 (by rw [h])
          simp [h1, h2, h3, this]
      · have : ¬ p = q := fun h => h2 (by rw [h])
        simp [h1, h2, this]
    · have : ¬ p = q := fun h => h1 (by rw [h])
      simp [h1, this]

theorem s_same {p : api_Pol} (q : api_Pol) (h : psize p ≤ BIG) : trim_same p q = some (decide (p = q)) := same_f _ _ _ (fuel_ge h)
theorem r_same {p : api_Pol} (q : api_Pol) (h : psize p ≤ BIG) : ref05_SamePol p q = some (decide (p = q)) := rsame_f _ _ _ (fuel_ge h)

/-! a policy that stands alone -/

def pright (p : api_Pol) : Bool := decide (psize p ≤ 300 ∧ pdepth p ≤ 20) && pform 4 p

theorem s_check {p : api_Pol} (h : psize p ≤ BIG) : syntax_Check (api_Program.mk [0, 0, 0, 0] p []) = some (if psize p ≤ 300 ∧ pdepth p ≤ 20 then if pform 4 p then 0 else 11 else 2) := by
  have e3 := s_form 4 h
  simp only [syntax_Check, s_size h, s_depth h]
  by_cases h1 : psize p ≤ 300
  · have : ¬ (psize p : Int) > 300 := by omega
    by_cases h2 : pdepth p ≤ 20
    · have h2' : ¬ (pdepth p : Int) > 20 := by omega
      cases hf : pform 4 p <;> simp [h1, h2, this, h2', e3, hf, irange, forR]
    · have h2' : (pdepth p : Int) > 20 := by omega
      simp [h1, h2, this, h2']
  · have : (psize p : Int) > 300 := by omega
    simp [h1, this]

theorem r_check {p : api_Pol} (h : psize p ≤ BIG) : ref05_Check (api_Program.mk [0, 0, 0, 0] p []) = some (if psize p ≤ 300 ∧ pdepth p ≤ 20 then if pform 4 p then 0 else 11 else 2) := by
  have e3 := r_form 4 h
  simp only [ref05_Check, r_size h, r_depth h]
  by_cases h1 : psize p ≤ 300
  · have : ¬ (psize p : Int) > 300 := by omega
    by_cases h2 : pdepth p ≤ 20
    · have h2' : ¬ (pdepth p : Int) > 20 := by omega
      cases hf : pform 4 p <;> simp [h1, h2, this, h2', e3, hf, irange, forR]
    · have h2' : (pdepth p : Int) > 20 := by omega
      simp [h1, h2, this, h2']
  · have : (psize p : Int) > 300 := by omega
    simp [h1, this]

theorem gmk4 : gmk 4 (0 : Int) = some [0, 0, 0, 0] := rfl

theorem r_right {p : api_Pol} (h : psize p ≤ BIG) : ref07_Right p = some (pright p) := by
  simp only [ref07_Right, gmk4, Option.bind_some, r_check h, pright]
  by_cases c : psize p ≤ 300 ∧ pdepth p ≤ 20
  · cases hf : pform 4 p <;> simp [c]
  · simp [c]

end Go.AM
