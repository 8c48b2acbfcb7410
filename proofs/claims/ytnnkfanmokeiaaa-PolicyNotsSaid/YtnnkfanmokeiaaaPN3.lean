import Derived.Test.YtnnkfanmokeiaaaPN2
set_option linter.unusedVariables false
set_option linter.unusedSimpArgs false
namespace Go.AM
open Go
def StepOk (l : List law05_Step) : Prop := ∀ s ∈ l, 0 ≤ s.K ∧ s.K < 256
theorem oP {l : List law05_Step} (h : StepOk l) : ∃ p b, iS l = some (p, b) ∧ bx p ≤ 61 := by
  unfold iS
  by_cases h60 : (l.length : Int) > 60
  · rw [decide_eq_true h60]
    exact ⟨_, _, rfl, by simp [bx, bT]⟩
  · rw [decide_eq_false h60]
    simp only [Bool.false_eq_true, if_false]
    obtain ⟨z, e, hP⟩ := iN (lJ l) l (fun d s => bT s ≤ d.length) [] (by simp [bT]) (fun i x s hx hP => by
      obtain ⟨hk0, hk1⟩ := h x (df hx)
      have hi : i < l.length := (List.getElem?_eq_some_iff.1 hx).1
      have hti : (l.take i).length ≤ 60 := by simp; omega
      have hsl := lS s
      have hlen : (l.take i ++ [x]).length = (l.take i).length + 1 := by simp
      rw [hlen]
      generalize (l.take i).length = t at *
      simp only [lJ, gT, hx, Option.bind_some]
      by_cases c1 : x.What = 0 ∨ x.What = 1
      · rw [show ((x.What == 0) || (x.What == 1)) = true by simpa using c1, if_pos rfl, jH (by simp; omega)]
        refine ⟨_, rfl, ?_⟩
        rw [fv]; simp [bT, bx]; omega
      · rw [show ((x.What == 0) || (x.What == 1)) = false by simpa using c1, if_neg (by simp)]
        by_cases c2 : x.What = 2 ∨ x.What = 3 ∨ x.What = 5
        · rw [show ((x.What == 2) || ((x.What == 3) || (x.What == 5))) = true by simpa using c2, if_pos rfl, jH (by simp; omega)]
          refine ⟨_, rfl, ?_⟩
          rw [fv]; simp [bT, bx]; omega
        · rw [show ((x.What == 2) || ((x.What == 3) || (x.What == 5))) = false by simpa using c2, if_neg (by simp)]
          by_cases c3 : x.What = 4 ∧ (s.length : Int) > 0
          · rw [show ((x.What == 4) && (decide ((s.length : Int) > 0))) = true by simpa using c3, if_pos rfl]
            obtain ⟨r, y, rfl⟩ : ∃ r y, s = r ++ [y] := by
              have : s ≠ [] := by rintro rfl; simp at c3
              exact ⟨s.dropLast, s.getLast this, (List.dropLast_concat_getLast this).symm⟩
            have hw : IntKind.i64.wrap (((r ++ [y]).length : Int) - 1) = (r.length : Int) := by
              rw [gS (by simp) (by simp at hsl ⊢; omega)]; simp
            rw [hw, hM (pre := r) (x := y) (r := []) rfl]
            simp only [Option.bind_some]
            have hg : cI (r ++ [y]) (r.length : Int) (aj.mk 4 0 0 [y]) = some (r ++ [aj.mk 4 0 0 [y]]) := by
              unfold cI; rw [if_pos (by omega), Int.toNat_natCast, if_pos (by simp)]; simp
            rw [hg]
            refine ⟨_, rfl, ?_⟩
            rw [fv] at hP ⊢; simp [bT, bx] at hP ⊢; omega
          · rw [show ((x.What == 4) && (decide ((s.length : Int) > 0))) = false by
              rw [Bool.eq_false_iff]; intro hc; apply c3; simpa using hc]
            simp only [Bool.false_eq_true, if_false]
            by_cases c4 : x.What = 6 ∨ x.What = 7
            · rw [show ((x.What == 6) || (x.What == 7)) = true by simpa using c4, if_pos rfl]
              obtain ⟨k, hk, hk2⟩ : ∃ k : Nat, eH (IntKind.i64.wrap x.K) (s.length : Int) = (k : Int) ∧ k ≤ s.length := by
                rw [gS (by omega) (by omega)]
                unfold eH
                split
                · exact ⟨s.length, rfl, Nat.le_refl _⟩
                · exact ⟨x.K.toNat, by omega, by omega⟩
              have hw : IntKind.i64.wrap ((s.length : Int) - (k : Int)) = ((s.length - k : Nat) : Int) := by rw [gS (by omega) (by omega)]; omega
              rw [hk, hw]
              have g1 : dc s ((s.length - k : Nat) : Int) (s.length : Int) = some (s.drop (s.length - k)) := by
                unfold dc; rw [if_pos (by omega)]
                simp only [Int.toNat_natCast]
                rw [List.take_of_length_le (by simp)]
              have g2 : dc s 0 ((s.length - k : Nat) : Int) = some (s.take (s.length - k)) := by
                unfold dc; rw [if_pos (by omega)]
                simp
              have hsz : bT (s.take (s.length - k)) + bT (s.drop (s.length - k)) = bT s := by
                rw [← fv, List.take_append_drop]
              simp only [g1, g2, Option.bind_some]
              rw [jH (by simp; omega)]
              simp only [Option.bind_some]
              rw [jH (by simp; omega)]
              refine ⟨_, rfl, ?_⟩
              rw [fv]; simp [bT, bx]; omega
            · rw [show ((x.What == 6) || (x.What == 7)) = false by simpa using c4, if_neg (by simp)]
              exact ⟨s, rfl, by omega⟩)
    rw [e]
    simp only [Option.bind_some]
    have hl60 : l.length ≤ 60 := by omega
    have hzl := lS z
    by_cases hz : z = []
    · subst hz
      exact ⟨_, _, rfl, by simp [bx, bT]⟩
    · obtain ⟨r, y, rfl⟩ : ∃ r y, z = r ++ [y] := ⟨z.dropLast, z.getLast hz, (List.dropLast_concat_getLast hz).symm⟩
      have hn : ¬ (((r ++ [y]).length : Int) == 0) = true := by simp; omega
      rw [if_neg hn]
      have hw : IntKind.i64.wrap (((r ++ [y]).length : Int) - 1) = (r.length : Int) := by
        rw [gS (by simp) (by simp at hzl ⊢; omega)]; simp
      rw [hw, hM (pre := r) (x := y) (r := []) rfl]
      refine ⟨y, true, rfl, ?_⟩
      rw [fv] at hP; simp [bT] at hP; omega
end Go.AM
