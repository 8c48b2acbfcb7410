import Derived.Test.YtnnkfanmokeiaaaPM1
/-  Several texts in one. -/
section
set_option linter.unusedVariables false
set_option linter.unusedSimpArgs false
namespace Go.AM
open Go
theorem jQ {α : Type} (p : α → Bool) : ∀ l : List α, (!(l.any fun x => !p x)) = l.all p
  | [] => rfl
  | x :: l => by simp only [List.any_cons, List.all_cons, Bool.not_or, Bool.not_not, jQ p l]
theorem qx : ∀ k p, b4 p ≤ k → iI k p = some (dj p)
  | 0, p, h => by have := gq p; omega
  | k + 1, p, h => by
    show kK (iI k) p = _
    have hp := fu p
    have hc : hN p.Kids (fun y0 => kJ (iI k) y0) = some (p.Kids.any fun x => !dj x) :=
      qw fun x hx => by
        have := e9 hx
        simp only [kJ]
        rw [qx k x (by omega)]; rfl
    rw [nj]
    simp only [kK, hc, Option.bind_some, jQ]
    by_cases h0 : p.Op = 0
    · simp [h0]
    by_cases h1 : p.Op = 1
    · simp [h1]
    by_cases h2 : p.Op = 2
    · simp [h2]
    by_cases h3 : p.Op = 3
    · simp [h3]
    by_cases h4 : p.Op = 4
    · simp [h4]
    by_cases h6 : p.Op = 6
    · simp [h6]
    by_cases h7 : p.Op = 7
    · simp [h7]
    have : ¬ (0 ≤ p.Op ∧ p.Op ≤ 4) := by omega
    simp [h0, h1, h2, h3, h4, h6, h7, this]
theorem qy : ∀ k p, b4 p ≤ k → iK k p = some (dj p)
  | 0, p, h => by have := gq p; omega
  | k + 1, p, h => by
    show kZ (iK k) p = _
    have hp := fu p
    have hc : bO (mZ p (iK k)) (bA 0 (p.Kids.length : Int)) () = some (e8 (if p.Kids.any (fun x => !dj x) then some (Sum.inr false) else none)) := by
      rw [← nu (fun x => !dj x) (Sum.inr false) p.Kids []]
      refine lu _ _ _ fun pre x r e => ?_
      have := e9 (lw e)
      simp only [mZ, iP e, Option.bind_some]
      rw [qy k x (by omega)]
      simp only [Option.bind_some]
      cases dj x <;> rfl
    rw [nj]
    simp only [kZ, hc, Option.bind_some, ← jQ]
    by_cases h5 : p.Op = 5
    · simp [h5]
    by_cases hn : p.Op < 0
    · have h6 : p.Op ≠ 6 := by omega
      have h7 : p.Op ≠ 7 := by omega
      have : ¬ (0 ≤ p.Op ∧ p.Op ≤ 4) := by omega
      simp [h5, hn, h6, h7, this]
    by_cases hb : p.Op > 7
    · have h6 : p.Op ≠ 6 := by omega
      have h7 : p.Op ≠ 7 := by omega
      have : ¬ (0 ≤ p.Op ∧ p.Op ≤ 4) := by omega
      simp [h5, hn, hb, h6, h7, this]
    have e5 : ((p.Op == 5) || ((decide (p.Op < 0)) || (decide (p.Op > 7)))) = false := by simp [h5, hn, hb]
    rw [e5]
    by_cases h67 : p.Op = 6 ∨ p.Op = 7
    · have e6 : ((p.Op == 6) || (p.Op == 7)) = true := by simpa using h67
      have : ¬ (0 ≤ p.Op ∧ p.Op ≤ 4) := by omega
      rw [e6, if_neg this, if_pos h67]
      cases p.Kids.any (fun x => !dj x) <;> rfl
    · have e6 : ((p.Op == 6) || (p.Op == 7)) = false := by simpa using h67
      have : (0 ≤ p.Op ∧ p.Op ≤ 4) := by omega
      rw [e6, if_pos this]
      rfl
theorem uM {p : aj} (h : bK p ≤ b9) : mO p = some (dj p) := qx _ _ (fQ h)
theorem uN {p : aj} (h : bK p ≤ b9) : m0 p = some (dj p) := qy _ _ (fQ h)
theorem iQ {p k : aj} (hk : k ∈ p.Kids) (h : bK p ≤ b9) : bK k ≤ b9 := by
  have := ls hk; rw [jP] at h; omega
theorem fR {l : List aj} : ((l.length : Int) == 0) = decide (l.length = 0) := by
  rw [Bool.eq_iff_iff]; simp
theorem nv (n : Int) : ∀ k p, b4 p ≤ k → bK p ≤ b9 → iJ k p n = some (bS n p)
  | 0, p, h, _ => by have := gq p; omega
  | k + 1, p, h, hb => by
    show kM (iJ k) p n = _
    have hp := fu p
    have hc : hN p.Kids (fun y0 => kL (iJ k) y0 n) = some (p.Kids.any fun x => !bS n x) :=
      qw fun x hx => by
        have := e9 hx
        simp only [kL]
        rw [nv n k x (by omega) (iQ hx hb)]; rfl
    rw [gN]
    simp only [kM, hc, Option.bind_some, jQ]
    by_cases h0 : p.Op = 0
    · simp [h0, Bool.decide_and, fR]
      all_goals (rw [Bool.eq_iff_iff]; simp)
    by_cases h1 : p.Op = 1
    · simp [h1, Bool.decide_and, fR]
      all_goals (rw [Bool.eq_iff_iff]; simp)
    by_cases h4 : p.Op = 4
    · by_cases hl : p.Kids.length = 1
      · obtain ⟨x, hx⟩ := List.length_eq_one_iff.1 hl
        have hm : x ∈ p.Kids := by rw [hx]; simp
        have := e9 hm
        have e1 := uM (iQ hm hb)
        have e2 := nv n k x (by omega) (iQ hm hb)
        simp only [h4, hx]
        simp [bn, e1, e2]
        by_cases hf : p.F = 0
        · by_cases hn : p.N = 0
          · cases dj x <;> cases bS n x <;> simp [hf, hn]
          · simp [hf, hn]
        · simp [hf]
      · have : ¬ ((p.Kids.length : Int) = 1) := by omega
        simp [h4, hl, this]
    by_cases h67 : p.Op = 6 ∨ p.Op = 7
    · by_cases hl : 2 ≤ p.Kids.length
      · have : (p.Kids.length : Int) ≥ 2 := by omega
        rcases h67 with h6 | h7
        · by_cases hf : p.F = 0 <;> by_cases hn : p.N = 0 <;> simp [h6, hl, this, hf, hn]
        · by_cases hf : p.F = 0 <;> by_cases hn : p.N = 0 <;> simp [h7, hl, this, hf, hn]
      · have : ¬ (p.Kids.length : Int) ≥ 2 := by omega
        rcases h67 with h6 | h7
        · simp [h6, hl, this]
        · simp [h7, hl, this]
    have h6 : p.Op ≠ 6 := fun h => h67 (.inl h)
    have h7 : p.Op ≠ 7 := fun h => h67 (.inr h)
    by_cases h2 : p.Op = 2
    · simp [h2, Bool.decide_and, fR]
      all_goals (rw [Bool.eq_iff_iff]; simp)
    by_cases h5 : p.Op = 5
    · simp [h5, Bool.decide_and, fR]
      all_goals (rw [Bool.eq_iff_iff]; simp)
    by_cases h3 : p.Op = 3
    · simp [h3, Bool.decide_and, fR]
      all_goals (rw [Bool.eq_iff_iff]; simp)
    simp [h0, h1, h4, h6, h7, h2, h5, h3]
theorem nw (n : Int) : ∀ k p, b4 p ≤ k → bK p ≤ b9 → iL k p n = some (bS n p)
  | 0, p, h, _ => by have := gq p; omega
  | k + 1, p, h, hb => by
    show k5 (iL k) p n = _
    have hp := fu p
    have hc : bO (m5 p n (iL k)) (bA 0 (p.Kids.length : Int)) () = some (e8 (if p.Kids.any (fun x => !bS n x) then some false else none)) := by
      rw [← nu (fun x => !bS n x) false p.Kids []]
      refine lu _ _ _ fun pre x r e => ?_
      have := e9 (lw e)
      simp only [m5, iP e, Option.bind_some]
      rw [nw n k x (by omega) (iQ (lw e) hb)]
      simp only [Option.bind_some]
      cases bS n x <;> rfl
    rw [gN]
    simp only [k5, hc, Option.bind_some]
    by_cases h0 : p.Op = 0
    · simp [h0, Bool.decide_and, fR]
      all_goals (rw [Bool.eq_iff_iff]; simp)
    by_cases h1 : p.Op = 1
    · simp [h1, Bool.decide_and, fR]
      all_goals (rw [Bool.eq_iff_iff]; simp)
    by_cases h2 : p.Op = 2
    · simp [h2, Bool.decide_and, fR]
      all_goals (rw [Bool.eq_iff_iff]; simp)
    by_cases h3 : p.Op = 3
    · simp [h3, Bool.decide_and, fR]
      all_goals (rw [Bool.eq_iff_iff]; simp)
    by_cases h5 : p.Op = 5
    · simp [h5, Bool.decide_and, fR]
      all_goals (rw [Bool.eq_iff_iff]; simp)
    by_cases h4 : p.Op = 4
    · by_cases hl : p.Kids.length = 1
      · obtain ⟨x, hx⟩ := List.length_eq_one_iff.1 hl
        have hm : x ∈ p.Kids := by rw [hx]; simp
        have := e9 hm
        have e1 := uN (iQ hm hb)
        have e2 := nw n k x (by omega) (iQ hm hb)
        simp only [h4, hx]
        simp [bn, e1, e2]
        by_cases hf : p.F = 0
        · by_cases hn : p.N = 0
          · cases dj x <;> cases bS n x <;> simp [hf, hn]
          · simp [hf, hn]
        · simp [hf]
      · have : ¬ ((p.Kids.length : Int) = 1) := by omega
        simp [h4, hl, this]
    by_cases h67 : p.Op = 6 ∨ p.Op = 7
    · have e67 : ((if (p.Op == 6) then some (p.Op == 6) else some (p.Op == 7)) : Option Bool) = some true := by rcases h67 with h | h <;> simp [h]
      rw [e67]
      simp only [Option.bind_some]
      by_cases hl : 2 ≤ p.Kids.length
      · have : ¬ (p.Kids.length : Int) < 2 := by omega
        by_cases hf : p.F = 0
        · by_cases hn : p.N = 0
          · rw [show (p.Op == 0) = false by simpa using h0, show (p.Op == 1) = false by simpa using h1, show (p.Op == 2) = false by simpa using h2, show (p.Op == 3) = false by simpa using h3, show (p.Op == 5) = false by simpa using h5, show (p.Op == 4) = false by simpa using h4]
            rw [show (decide ((p.Kids.length : Int) < 2)) = false by simpa using this, hf, hn, if_neg (show ¬ (p.Op = 0 ∨ p.Op = 1) by omega), if_neg h4, if_pos h67, show (decide (2 ≤ p.Kids.length ∧ (0 : Int) = 0 ∧ (0 : Int) = 0)) = true by simpa using hl]
            rw [← jQ]
            generalize p.Kids.any (fun x => !bS n x) = b
            cases b <;> simp [e8]
          · simp [h0, h1, h2, h3, h5, h4, h67, hl, this, hf, hn]
        · simp [h0, h1, h2, h3, h5, h4, h67, hl, this, hf]
      · have : (p.Kids.length : Int) < 2 := by omega
        simp [h0, h1, h2, h3, h5, h4, h67, hl, this]
    have h6 : p.Op ≠ 6 := fun h => h67 (.inl h)
    have h7 : p.Op ≠ 7 := fun h => h67 (.inr h)
    simp [h0, h1, h4, h6, h7, h2, h5, h3]
theorem uO {p : aj} (n : Int) (h : bK p ≤ b9) : mP p n = some (bS n p) := nv n _ _ (fQ h) h
theorem uP {p : aj} (n : Int) (h : bK p ≤ b9) : m8 p n = some (bS n p) := nw n _ _ (fQ h) h
def iR (p : aj) : Bool := decide (bK p ≤ 300 ∧ b4 p ≤ 20) && bS 4 p
theorem uQ {p : aj} (h : bK p ≤ b9) : gK (dJ.mk [0, 0, 0, 0] p []) = some (if bK p ≤ 300 ∧ b4 p ≤ 20 then if bS 4 p then 0 else 11 else 2) := by
  have e3 := uO 4 h
  simp only [gK, uH h, uI h]
  by_cases h1 : bK p ≤ 300
  · have : ¬ (bK p : Int) > 300 := by omega
    by_cases h2 : b4 p ≤ 20
    · have h2' : ¬ (b4 p : Int) > 20 := by omega
      cases hf : bS 4 p <;> simp [h1, h2, this, h2', e3, hf, bA, bO]
    · have h2' : (b4 p : Int) > 20 := by omega
      simp [h1, h2, this, h2']
  · have : (bK p : Int) > 300 := by omega
    simp [h1, this]
theorem uR {p : aj} (h : bK p ≤ b9) : k9 (dJ.mk [0, 0, 0, 0] p []) = some (if bK p ≤ 300 ∧ b4 p ≤ 20 then if bS 4 p then 0 else 11 else 2) := by
  have e3 := uP 4 h
  simp only [k9, uJ h, uK h]
  by_cases h1 : bK p ≤ 300
  · have : ¬ (bK p : Int) > 300 := by omega
    by_cases h2 : b4 p ≤ 20
    · have h2' : ¬ (b4 p : Int) > 20 := by omega
      cases hf : bS 4 p <;> simp [h1, h2, this, h2', e3, hf, bA, bO]
    · have h2' : (b4 p : Int) > 20 := by omega
      simp [h1, h2, this, h2']
  · have : (bK p : Int) > 300 := by omega
    simp [h1, this]
theorem uS : fJ 4 (0 : Int) = some [0, 0, 0, 0] := rfl
theorem uT {p : aj} (h : bK p ≤ b9) : la p = some (iR p) := by
  simp only [la, uS, Option.bind_some, uR h, iR]
  by_cases c : bK p ≤ 300 ∧ b4 p ≤ 20
  · cases hf : bS 4 p <;> simp [c]
  · simp [c]
end Go.AM
end
section
set_option linter.unusedVariables false
set_option linter.unusedSimpArgs false
namespace Go.AM
open Go
def StepOk (l : List law05_Step) : Prop := ∀ s ∈ l, 0 ≤ s.K ∧ s.K < 256
theorem uU {l : List law05_Step} (h : StepOk l) : ∃ p b, kW l = some (p, b) ∧ bK p ≤ 61 := by
  unfold kW
  by_cases h60 : (l.length : Int) > 60
  · rw [decide_eq_true h60]
    exact ⟨_, _, rfl, by simp [bK, bX]⟩
  · rw [decide_eq_false h60]
    simp only [Bool.false_eq_true, if_false]
    obtain ⟨z, e, hP⟩ := jH (mW l) l (fun d s => bX s ≤ d.length) [] (by simp [bX]) (fun i x s hx hP => by
      obtain ⟨hk0, hk1⟩ := h x (c8 hx)
      have hi : i < l.length := (List.getElem?_eq_some_iff.1 hx).1
      have hti : (l.take i).length ≤ 60 := by simp; omega
      have hsl := nk s
      have hlen : (l.take i ++ [x]).length = (l.take i).length + 1 := by simp
      rw [hlen]
      generalize (l.take i).length = t at *
      simp only [mW, dP, hx, Option.bind_some]
      by_cases c1 : x.What = 0 ∨ x.What = 1
      · rw [show ((x.What == 0) || (x.What == 1)) = true by simpa using c1, if_pos rfl, fN (by simp; omega)]
        refine ⟨_, rfl, ?_⟩
        rw [gn]; simp [bX, bK]; omega
      · rw [show ((x.What == 0) || (x.What == 1)) = false by simpa using c1, if_neg (by simp)]
        by_cases c2 : x.What = 2 ∨ x.What = 3 ∨ x.What = 5
        · rw [show ((x.What == 2) || ((x.What == 3) || (x.What == 5))) = true by simpa using c2, if_pos rfl, fN (by simp; omega)]
          refine ⟨_, rfl, ?_⟩
          rw [gn]; simp [bX, bK]; omega
        · rw [show ((x.What == 2) || ((x.What == 3) || (x.What == 5))) = false by simpa using c2, if_neg (by simp)]
          by_cases c3 : x.What = 4 ∧ (s.length : Int) > 0
          · rw [show ((x.What == 4) && (decide ((s.length : Int) > 0))) = true by simpa using c3, if_pos rfl]
            obtain ⟨r, y, rfl⟩ : ∃ r y, s = r ++ [y] := by
              have : s ≠ [] := by rintro rfl; simp at c3
              exact ⟨s.dropLast, s.getLast this, (List.dropLast_concat_getLast this).symm⟩
            have hw : IntKind.i64.wrap (((r ++ [y]).length : Int) - 1) = (r.length : Int) := by
              rw [iF (by simp) (by simp at hsl ⊢; omega)]; simp
            rw [hw, iP (pre := r) (x := y) (r := []) rfl]
            simp only [Option.bind_some]
            have hg : cO (r ++ [y]) (r.length : Int) (aj.mk 4 0 0 [y]) = some (r ++ [aj.mk 4 0 0 [y]]) := by
              unfold cO; rw [if_pos (by omega), Int.toNat_natCast, if_pos (by simp)]; simp
            rw [hg]
            refine ⟨_, rfl, ?_⟩
            rw [gn] at hP ⊢; simp [bX, bK] at hP ⊢; omega
          · rw [show ((x.What == 4) && (decide ((s.length : Int) > 0))) = false by
              rw [Bool.eq_false_iff]; intro hc; apply c3; simpa using hc]
            simp only [Bool.false_eq_true, if_false]
            by_cases c4 : x.What = 6 ∨ x.What = 7
            · rw [show ((x.What == 6) || (x.What == 7)) = true by simpa using c4, if_pos rfl]
              obtain ⟨k, hk, hk2⟩ : ∃ k : Nat, fm (IntKind.i64.wrap x.K) (s.length : Int) = (k : Int) ∧ k ≤ s.length := by
                rw [iF (by omega) (by omega)]
                unfold fm
                split
                · exact ⟨s.length, rfl, Nat.le_refl _⟩
                · exact ⟨x.K.toNat, by omega, by omega⟩
              have hw : IntKind.i64.wrap ((s.length : Int) - (k : Int)) = ((s.length - k : Nat) : Int) := by rw [iF (by omega) (by omega)]; omega
              rw [hk, hw]
              have g1 : cW s ((s.length - k : Nat) : Int) (s.length : Int) = some (s.drop (s.length - k)) := by
                unfold cW; rw [if_pos (by omega)]
                simp only [Int.toNat_natCast]
                rw [List.take_of_length_le (by simp)]
              have g2 : cW s 0 ((s.length - k : Nat) : Int) = some (s.take (s.length - k)) := by
                unfold cW; rw [if_pos (by omega)]
                simp
              have hsz : bX (s.take (s.length - k)) + bX (s.drop (s.length - k)) = bX s := by
                rw [← gn, List.take_append_drop]
              simp only [g1, g2, Option.bind_some]
              rw [fN (by simp; omega)]
              simp only [Option.bind_some]
              rw [fN (by simp; omega)]
              refine ⟨_, rfl, ?_⟩
              rw [gn]; simp [bX, bK]; omega
            · rw [show ((x.What == 6) || (x.What == 7)) = false by simpa using c4, if_neg (by simp)]
              exact ⟨s, rfl, by omega⟩)
    rw [e]
    simp only [Option.bind_some]
    have hl60 : l.length ≤ 60 := by omega
    have hzl := nk z
    by_cases hz : z = []
    · subst hz
      exact ⟨_, _, rfl, by simp [bK, bX]⟩
    · obtain ⟨r, y, rfl⟩ : ∃ r y, z = r ++ [y] := ⟨z.dropLast, z.getLast hz, (List.dropLast_concat_getLast hz).symm⟩
      have hn : ¬ (((r ++ [y]).length : Int) == 0) = true := by simp; omega
      rw [if_neg hn]
      have hw : IntKind.i64.wrap (((r ++ [y]).length : Int) - 1) = (r.length : Int) := by
        rw [iF (by simp) (by simp at hzl ⊢; omega)]; simp
      rw [hw, iP (pre := r) (x := y) (r := []) rfl]
      refine ⟨y, true, rfl, ?_⟩
      rw [gn] at hP; simp [bX] at hP; omega
end Go.AM
end
