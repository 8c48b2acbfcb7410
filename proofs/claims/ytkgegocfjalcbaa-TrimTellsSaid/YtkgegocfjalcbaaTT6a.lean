import Derived.Test.YtkgegocfjalcbaaTT5
/-
  Policies told by steps.
-/
set_option linter.unusedVariables false
set_option linter.unusedSimpArgs false
namespace Go.AM
open Go

def StepOk (l : List law05_Step) : Prop := ∀ s ∈ l, 0 ≤ s.K ∧ s.K < 256

theorem pile_ok {l : List law05_Step} (h : StepOk l) : ∃ p b, law05_Pile l = some (p, b) ∧ psize p ≤ 61 := by
  unfold law05_Pile
  by_cases h60 : (l.length : Int) > 60
  · rw [decide_eq_true h60]
    exact ⟨_, _, rfl, by simp [psize, psizeL]⟩
  · rw [decide_eq_false h60]
    simp only [Bool.false_eq_true, if_false]
    obtain ⟨z, e, hP⟩ := forO_list (law05_Pile_b1 l) l (fun d s => psizeL s ≤ d.length) [] (by simp [psizeL]) (fun i x s hx hP => by
      obtain ⟨hk0, hk1⟩ := h x (List.mem_of_getElem? hx)
      have hi : i < l.length := (List.getElem?_eq_some_iff.1 hx).1
      have hti : (l.take i).length ≤ 60 := by simp; omega
      have hsl := len_psizeL s
      have hlen : (l.take i ++ [x]).length = (l.take i).length + 1 := by simp
      rw [hlen]
      generalize (l.take i).length = t at *
      simp only [law05_Pile_b1, gat_nat, hx, Option.bind_some]
      by_cases c1 : x.What = 0 ∨ x.What = 1
      · rw [show ((x.What == 0) || (x.What == 1)) = true by simpa using c1, if_pos rfl, gapp_some (by simp; omega)]
        refine ⟨_, rfl, ?_⟩
        rw [psizeL_app]; simp [psizeL, psize]; omega
      · rw [show ((x.What == 0) || (x.What == 1)) = false by simpa using c1, if_neg (by simp)]
        by_cases c2 : x.What = 2 ∨ x.What = 3 ∨ x.What = 5
        · rw [show ((x.What == 2) || ((x.What == 3) || (x.What == 5))) = true by simpa using c2, if_pos rfl, gapp_some (by simp; omega)]
          refine ⟨_, rfl, ?_⟩
          rw [psizeL_app]; simp [psizeL, psize]; omega
        · rw [show ((x.What == 2) || ((x.What == 3) || (x.What == 5))) = false by simpa using c2, if_neg (by simp)]
          by_cases c3 : x.What = 4 ∧ (s.length : Int) > 0
          · rw [show ((x.What == 4) && (decide ((s.length : Int) > 0))) = true by simpa using c3, if_pos rfl]
            obtain ⟨r, y, rfl⟩ : ∃ r y, s = r ++ [y] := by
              have : s ≠ [] := by rintro rfl; simp at c3
              exact ⟨s.dropLast, s.getLast this, (List.dropLast_concat_getLast this).symm⟩
            have hw : IntKind.i64.wrap (((r ++ [y]).length : Int) - 1) = (r.length : Int) := by
              rw [w_i64 (by simp) (by simp at hsl ⊢; omega)]; simp
            rw [hw, gat_pre (pre := r) (x := y) (r := []) rfl]
            simp only [Option.bind_some]
            have hg : gput (r ++ [y]) (r.length : Int) (api_Pol.mk 4 0 0 [y]) = some (r ++ [api_Pol.mk 4 0 0 [y]]) := by
              unfold gput; rw [if_pos (by omega), Int.toNat_natCast, if_pos (by simp)]; simp
            rw [hg]
            refine ⟨_, rfl, ?_⟩
            rw [psizeL_app] at hP ⊢; simp [psizeL, psize] at hP ⊢; omega
          · rw [show ((x.What == 4) && (decide ((s.length : Int) > 0))) = false by
              rw [Bool.eq_false_iff]; intro hc; apply c3; simpa using hc]
            simp only [Bool.false_eq_true, if_false]
            by_cases c4 : x.What = 6 ∨ x.What = 7
            · rw [show ((x.What == 6) || (x.What == 7)) = true by simpa using c4, if_pos rfl]
              obtain ⟨k, hk, hk2⟩ : ∃ k : Nat, imin (IntKind.i64.wrap x.K) (s.length : Int) = (k : Int) ∧ k ≤ s.length := by
                rw [w_i64 (by omega) (by omega)]
                unfold imin
                split
                · exact ⟨s.length, rfl, Nat.le_refl _⟩
                · exact ⟨x.K.toNat, by omega, by omega⟩
              have hw : IntKind.i64.wrap ((s.length : Int) - (k : Int)) = ((s.length - k : Nat) : Int) := by rw [w_i64 (by omega) (by omega)]; omega
              rw [hk, hw]
              have g1 : gcut s ((s.length - k : Nat) : Int) (s.length : Int) = some (s.drop (s.length - k)) := by
                unfold gcut; rw [if_pos (by omega)]
                simp only [Int.toNat_natCast]
                rw [List.take_of_length_le (by simp)]
              have g2 : gcut s 0 ((s.length - k : Nat) : Int) = some (s.take (s.length - k)) := by
                unfold gcut; rw [if_pos (by omega)]
                simp
              have hsz : psizeL (s.take (s.length - k)) + psizeL (s.drop (s.length - k)) = psizeL s := by
                rw [← psizeL_app, List.take_append_drop]
              simp only [g1, g2, Option.bind_some]
              rw [gapp_some (by simp; omega)]
              simp only [Option.bind_some]
              rw [gapp_some (by simp; omega)]
              refine ⟨_, rfl, ?_⟩
              rw [psizeL_app]; simp [psizeL, psize]; omega
            · rw [show ((x.What == 6) || (x.What == 7)) = false by simpa using c4, if_neg (by simp)]
              exact ⟨s, rfl, by omega⟩)
    rw [e]
    simp only [Option.bind_some]
    have hl60 : l.length ≤ 60 := by omega
    have hzl := len_psizeL z
    by_cases hz : z = []
    · subst hz
      exact ⟨_, _, rfl, by simp [psize, psizeL]⟩
    · obtain ⟨r, y, rfl⟩ : ∃ r y, z = r ++ [y] := ⟨z.dropLast, z.getLast hz, (List.dropLast_concat_getLast hz).symm⟩
      have hn : ¬ (((r ++ [y]).length : Int) == 0) = true := by simp; omega
      rw [if_neg hn]
      have hw : IntKind.i64.wrap (((r ++ [y]).length : Int) - 1) = (r.length : Int) := by
        rw [w_i64 (by simp) (by simp at hzl ⊢; omega)]; simp
      rw [hw, gat_pre (pre := r) (x := y) (r := []) rfl]
      refine ⟨y, true, rfl, ?_⟩
      rw [psizeL_app] at hP; simp [psizeL] at hP; omega

/-! they are awake -/

def put1 : api_Pol := ⟨5, 1, 1, []⟩
def put2 : api_Pol := ⟨5, 1, 2, []⟩

theorem trim_put1 : trimS put1 = put1 := by rw [trimS_eq]; simp [put1]
theorem trim_put2 : trimS put2 = put2 := by rw [trimS_eq]; simp [put2]
theorem trimS_id : trimS idP = idP := by rw [trimS_eq]; simp [idP]
theorem trimS_drop : trimS dropP = dropP := by rw [trimS_eq]; simp [dropP]

theorem right_eq {p : api_Pol} (h1 : psize p ≤ 300) (h2 : pdepth p ≤ 20) (h3 : pform 4 p = true) : pright p = true := by
  unfold pright; simp [h1, h2, h3]

theorem trimP_eq {p : api_Pol} (h1 : psize p ≤ 300) (h2 : pdepth p ≤ 20) (h3 : pform 4 p = true) : trimP p = trimS p := by
  unfold trimP; rw [right_eq h1 h2 h3]; rfl

theorem form_put (n m : Int) : pform n ⟨5, 1, m, []⟩ = true := by rw [pform_eq]; simp

theorem awake_ok : law28_awake = some true := by
  have b1 : psize put2 ≤ BIG := by simp [put2, psize, psizeL, BIG]
  have f1 : pform 4 put1 = true := form_put 4 1
  have f2 : pform 4 put2 = true := form_put 4 2
  have e1 : trimP ⟨7, 0, 0, [⟨6, 0, 0, [idP, put1, put2]⟩, dropP]⟩ = put2 := by
    rw [trimP_eq (by simp [put1, put2, idP, dropP, psize, psizeL]) (by simp [put1, put2, idP, dropP, pdepth, pdepthL]) (form_node (.inr rfl) (by simp) fun k hk => by
      simp at hk
      rcases hk with rfl | rfl
      · exact form_node (.inl rfl) (by simp) fun k hk => by
          simp at hk
          rcases hk with rfl | rfl | rfl
          · exact form_id 4
          · exact f1
          · exact f2
      · exact form_drop 4)]
    rw [trimS_eq]
    simp only [if_true, List.map_cons, List.map_nil]
    have : trimS ⟨6, 0, 0, [idP, put1, put2]⟩ = put2 := by
      rw [trimS_eq]
      simp only [if_true, List.map_cons, List.map_nil, trimS_id, trim_put1, trim_put2]
      rfl
    rw [this, trimS_drop]
    simp [sumS, flatS, dedup, put2, dropP, oneOf]
  have e2 : trimP put2 = put2 := by
    rw [trimP_eq (by simp [put2, psize, psizeL]) (by simp [put2, pdepth, pdepthL]) f2, trim_put2]
  have e3 : trimP ⟨7, 0, 0, [put2, put2]⟩ = put2 := by
    rw [trimP_eq (by simp [put2, psize, psizeL]) (by simp [put2, pdepth, pdepthL]) (form_node (.inr rfl) (by simp) fun k hk => by simp at hk; subst hk; exact f2), trimS_eq]
    simp only [if_true, List.map_cons, List.map_nil, trim_put2]
    simp [sumS, flatS, dedup, put2, oneOf]
  have p1 : law28_put 1 = some put1 := rfl
  have p2 : law28_put 2 = some put2 := rfl
  have t1 : trim_Trim ⟨7, 0, 0, [⟨6, 0, 0, [idP, put1, put2]⟩, dropP]⟩ = some put2 := by
    rw [s_trim (by simp [put1, put2, idP, dropP, psize, psizeL, BIG]), e1]
  have t2 : trim_Trimmed put2 = some true := by rw [s_trimmed b1, e2]; simp
  have t3 : trim_Trimmed ⟨7, 0, 0, [put2, put2]⟩ = some false := by
    rw [s_trimmed (by simp [put2, psize, psizeL, BIG]), e3]
    simp [put2]
  have t4 : ref05_SamePol put2 put2 = some true := by rw [r_same _ b1]; simp
  simp only [law28_awake, p1, p2, law07_Seq, law07_Sum, Option.bind_some]
  have t1' : trim_Trim { Op := 7, F := 0, N := 0, Kids := [{ Op := 6, F := 0, N := 0, Kids := [{ Op := 1, F := 0, N := 0, Kids := [] }, put1, put2] }, { Op := 0, F := 0, N := 0, Kids := [] }] } = some put2 := t1
  rw [t1']
  simp only [Option.bind_some, t4, t2, t3, if_true, Bool.not_false]

end Go.AM
