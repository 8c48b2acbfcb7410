import Derived.Test.YtkgegocfjalcbaaTT5
/-
  Policies told by steps; the statements TrimLess and TrimLaws.
-/
set_option linter.unusedVariables false
set_option linter.unusedSimpArgs false
namespace Go.AM
open Go

def StepOk (l : List law05_Step) : Prop := ∀ s ∈ l, 0 ≤ s.K ∧ s.K < 256

theorem pile_ok {l : List law05_Step} (h : StepOk l) : ∃ p b, law05_Pile l = some (p, b) ∧ psize p ≤ 61 := by
  unfold law05_Pile
  by_cases h60 : (l.length : Int) > 60
  · rw [decide_eq_true h60]
    exact ⟨_, _, rfl, by simp [psize, psizeL]⟩
  · rw [decide_eq_false h60]
    simp only [Bool.false_eq_true, if_false]
    obtain ⟨z, e, hP⟩ := forO_list (law05_Pile_b1 l) l (fun d s => psizeL s ≤ d.length) [] (by simp [psizeL]) (fun i x s hx hP => by
      obtain ⟨hk0, hk1⟩ := h x (List.mem_of_getElem? hx)
      have hi : i < l.length := (List.getElem?_eq_some_iff.1 hx).1
      have hti : (l.take i).length ≤ 60 := by simp; omega
      have hsl := len_psizeL s
      have hlen : (l.take i ++ [x]).length = (l.take i).length + 1 := by simp
      rw [hlen]
      generalize (l.take i).length = t at *
      simp only [law05_Pile_b1, gat_nat, hx, Option.bind_some]
      by_cases c1 : x.What = 0 ∨ x.What = 1
      · rw [show ((x.What == 0) || (x.What == 1)) = true by simpa using c1, if_pos rfl, gapp_some (by simp; omega)]
        refine ⟨_, rfl, ?_⟩
        rw [psizeL_app]; simp [psizeL, psize]; omega
      · rw [show ((x.What == 0) || (x.What == 1)) = false by simpa using c1, if_neg (by simp)]
        by_cases c2 : x.What = 2 ∨ x.What = 3 ∨ x.What = 5
        · rw [show ((x.What == 2) || ((x.What == 3) || (x.What == 5))) = true by simpa using c2, if_pos rfl, gapp_some (by simp; omega)]
          refine ⟨_, rfl, ?_⟩
          rw [psizeL_app]; simp [psizeL, psize]; omega
        · rw [show ((x.What == 2) || ((x.What == 3) || (x.What == 5))) = false by simpa using c2, if_neg (by simp)]
          by_cases c3 : x.What = 4 ∧ (s.length : Int) > 0
          · rw [show ((x.What == 4) && (decide ((s.length : Int) > 0))) = true by simpa using c3, if_pos rfl]
            obtain ⟨r, y, rfl⟩ : ∃ r y, s = r ++ [y] := by
              have : s ≠ [] := by rintro rfl; simp at c3
              exact ⟨s.dropLast, s.getLast this, (List.dropLast_concat_getLast this).symm⟩
            have hw : IntKind.i64.wrap (((r ++ [y]).length : Int) - 1) = (r.length : Int) := by
              rw [w_i64 (by simp) (by simp at hsl ⊢; omega)]; simp
            rw [hw, gat_pre (pre := r) (x := y) (r := []) rfl]
            simp only [Option.bind_some]
            have hg : gput (r ++ [y]) (r.length : Int) (api_Pol.mk 4 0 0 [y]) = some (r ++ [api_Pol.mk 4 0 0 [y]]) := by
              unfold gput; rw [if_pos (by omega), Int.toNat_natCast, if_pos (by simp)]; simp
            rw [hg]
            refine ⟨_, rfl, ?_⟩
            rw [psizeL_app] at hP ⊢; simp [psizeL, psize] at hP ⊢; omega
          · rw [show ((x.What == 4) && (decide ((s.length : Int) > 0))) = false by
              rw [Bool.eq_false_iff]; intro hc; apply c3; simpa using hc]
            simp only [Bool.false_eq_true, if_false]
            by_cases c4 : x.What = 6 ∨ x.What = 7
            · rw [show ((x.What == 6) || (x.What == 7)) = true by simpa using c4, if_pos rfl]
              obtain ⟨k, hk, hk2⟩ : ∃ k : Nat, imin (IntKind.i64.wrap x.K) (s.length : Int) = (k : Int) ∧ k ≤ s.length := by
                rw [w_i64 (by omega) (by omega)]
                unfold imin
                split
                · exact ⟨s.length, rfl, Nat.le_refl _⟩
                · exact ⟨x.K.toNat, by omega, by omega⟩
              have hw : IntKind.i64.wrap ((s.length : Int) - (k : Int)) = ((s.length - k : Nat) : Int) := by rw [w_i64 (by omega) (by omega)]; omega
              rw [hk, hw]
              have g1 : gcut s ((s.length - k : Nat) : Int) (s.length : Int) = some (s.drop (s.length - k)) := by
                unfold gcut; rw [if_pos (by omega)]
                simp only [Int.toNat_natCast]
                rw [List.take_of_length_le (by simp)]
              have g2 : gcut s 0 ((s.length - k : Nat) : Int) = some (s.take (s.length - k)) := by
                unfold gcut; rw [if_pos (by omega)]
                simp
              have hsz : psizeL (s.take (s.length - k)) + psizeL (s.drop (s.length - k)) = psizeL s := by
                rw [← psizeL_app, List.take_append_drop]
              simp only [g1, g2, Option.bind_some]
              rw [gapp_some (by simp; omega)]
              simp only [Option.bind_some]
              rw [gapp_some (by simp; omega)]
              refine ⟨_, rfl, ?_⟩
              rw [psizeL_app]; simp [psizeL, psize]; omega
            · rw [show ((x.What == 6) || (x.What == 7)) = false by simpa using c4, if_neg (by simp)]
              exact ⟨s, rfl, by omega⟩)
    rw [e]
    simp only [Option.bind_some]
    have hl60 : l.length ≤ 60 := by omega
    have hzl := len_psizeL z
    by_cases hz : z = []
    · subst hz
      exact ⟨_, _, rfl, by simp [psize, psizeL]⟩
    · obtain ⟨r, y, rfl⟩ : ∃ r y, z = r ++ [y] := ⟨z.dropLast, z.getLast hz, (List.dropLast_concat_getLast hz).symm⟩
      have hn : ¬ (((r ++ [y]).length : Int) == 0) = true := by simp; omega
      rw [if_neg hn]
      have hw : IntKind.i64.wrap (((r ++ [y]).length : Int) - 1) = (r.length : Int) := by
        rw [w_i64 (by simp) (by simp at hzl ⊢; omega)]; simp
      rw [hw, gat_pre (pre := r) (x := y) (r := []) rfl]
      refine ⟨y, true, rfl, ?_⟩
      rw [psizeL_app] at hP; simp [psizeL] at hP; omega

/-! they are awake -/

def put1 : api_Pol := ⟨5, 1, 1, []⟩
def put2 : api_Pol := ⟨5, 1, 2, []⟩

theorem trim_put1 : trimS put1 = put1 := by rw [trimS_eq]; simp [put1]
theorem trim_put2 : trimS put2 = put2 := by rw [trimS_eq]; simp [put2]
theorem trimS_id : trimS idP = idP := by rw [trimS_eq]; simp [idP]
theorem trimS_drop : trimS dropP = dropP := by rw [trimS_eq]; simp [dropP]

theorem right_eq {p : api_Pol} (h1 : psize p ≤ 300) (h2 : pdepth p ≤ 20) (h3 : pform 4 p = true) : pright p = true := by
  unfold pright; simp [h1, h2, h3]

theorem trimP_eq {p : api_Pol} (h1 : psize p ≤ 300) (h2 : pdepth p ≤ 20) (h3 : pform 4 p = true) : trimP p = trimS p := by
  unfold trimP; rw [right_eq h1 h2 h3]; rfl

theorem form_put (n m : Int) : pform n ⟨5, 1, m, []⟩ = true := by rw [pform_eq]; simp

theorem awake_ok : law28_awake = some true := by
  have b1 : psize put2 ≤ BIG := by simp [put2, psize, psizeL, BIG]
  have f1 : pform 4 put1 = true := form_put 4 1
  have f2 : pform 4 put2 = true := form_put 4 2
  have e1 : trimP ⟨7, 0, 0, [⟨6, 0, 0, [idP, put1, put2]⟩, dropP]⟩ = put2 := by
    rw [trimP_eq (by simp [put1, put2, idP, dropP, psize, psizeL]) (by simp [put1, put2, idP, dropP, pdepth, pdepthL]) (form_node (.inr rfl) (by simp) fun k hk => by
      simp at hk
      rcases hk with rfl | rfl
      · exact form_node (.inl rfl) (by simp) fun k hk => by
          simp at hk
          rcases hk with rfl | rfl | rfl
          · exact form_id 4
          · exact f1
          · exact f2
      · exact form_drop 4)]
    rw [trimS_eq]
    simp only [if_true, List.map_cons, List.map_nil]
    have : trimS ⟨6, 0, 0, [idP, put1, put2]⟩ = put2 := by
      rw [trimS_eq]
      simp only [if_true, List.map_cons, List.map_nil, trimS_id, trim_put1, trim_put2]
      rfl
    rw [this, trimS_drop]
    simp [sumS, flatS, dedup, put2, dropP, oneOf]
  have e2 : trimP put2 = put2 := by
    rw [trimP_eq (by simp [put2, psize, psizeL]) (by simp [put2, pdepth, pdepthL]) f2, trim_put2]
  have e3 : trimP ⟨7, 0, 0, [put2, put2]⟩ = put2 := by
    rw [trimP_eq (by simp [put2, psize, psizeL]) (by simp [put2, pdepth, pdepthL]) (form_node (.inr rfl) (by simp) fun k hk => by simp at hk; subst hk; exact f2), trimS_eq]
    simp only [if_true, List.map_cons, List.map_nil, trim_put2]
    simp [sumS, flatS, dedup, put2, oneOf]
  have p1 : law28_put 1 = some put1 := rfl
  have p2 : law28_put 2 = some put2 := rfl
  have t1 : trim_Trim ⟨7, 0, 0, [⟨6, 0, 0, [idP, put1, put2]⟩, dropP]⟩ = some put2 := by
    rw [s_trim (by simp [put1, put2, idP, dropP, psize, psizeL, BIG]), e1]
  have t2 : trim_Trimmed put2 = some true := by rw [s_trimmed b1, e2]; simp
  have t3 : trim_Trimmed ⟨7, 0, 0, [put2, put2]⟩ = some false := by
    rw [s_trimmed (by simp [put2, psize, psizeL, BIG]), e3]
    simp [put2]
  have t4 : ref05_SamePol put2 put2 = some true := by rw [r_same _ b1]; simp
  simp only [law28_awake, p1, p2, law07_Seq, law07_Sum, Option.bind_some]
  have t1' : trim_Trim { Op := 7, F := 0, N := 0, Kids := [{ Op := 6, F := 0, N := 0, Kids := [{ Op := 1, F := 0, N := 0, Kids := [] }, put1, put2] }, { Op := 0, F := 0, N := 0, Kids := [] }] } = some put2 := t1
  rw [t1']
  simp only [Option.bind_some, t4, t2, t3, if_true, Bool.not_false]

/-! TrimLess -/

theorem law_TrimLess {a0 : List law05_Step} (h : StepOk a0) : law28_TrimLess a0 = some true := by
  obtain ⟨p, b, hp, hs⟩ := pile_ok h
  have hb : psize p ≤ BIG := by unfold BIG; omega
  have hq := trimP_size p
  have hqb : psize (trimP p) ≤ BIG := by omega
  simp only [law28_TrimLess, awake_ok, hp, Option.bind_some, Bool.not_true, Bool.false_eq_true, if_false]
  cases b with
  | false => rfl
  | true =>
    simp only [Bool.not_true, Bool.false_eq_true, if_false, s_trim hb, r_right hb, Option.bind_some]
    cases hr : pright p with
    | false =>
      simp only [Bool.not_false, if_true, r_same _ hb, Option.bind_some]
      have : trimP p = p := by unfold trimP; rw [hr]; rfl
      simp [this]
    | true =>
      obtain ⟨h1, h2, h3⟩ := trimP_right hr
      have d1 : decide ((psize (trimP p) : Int) ≤ (psize p : Int)) = true := by simp; omega
      have d2 : decide ((pdepth (trimP p) : Int) ≤ (pdepth p : Int)) = true := by simp; omega
      simp only [Bool.not_true, Bool.false_eq_true, if_false, r_right hqb, h1, Option.bind_some, if_true, r_size hb, r_size hqb, r_depth hb, r_depth hqb, d1, d2, s_trimmed hqb, h3, decide_true, r_pred hb, r_pred hqb]
      have e : trimP p = trimS p := by unfold trimP; rw [hr]; rfl
      have hg := (trim_good p (right_big hr).2.2).2
      rw [← e] at hg
      cases hpp : ppred p with
      | false => rfl
      | true => simp [hg hpp]

/-! TrimLaws -/

theorem dedup_appL : ∀ (m1 m2 acc : List api_Pol), dedup acc (m1 ++ m2) = dedup (dedup acc m1) m2 := by
  intro m1 m2 acc; unfold dedup; rw [List.foldl_append]

theorem dedup_sub : ∀ (m acc : List api_Pol), (∀ x ∈ m, x ∈ acc) → dedup acc m = acc
  | [], acc, _ => rfl
  | x :: m, acc, h => by
    show dedup (if x ∈ acc then acc else acc ++ [x]) m = acc
    rw [if_pos (h x (by simp)), dedup_sub m acc fun y hy => h y (by simp [hy])]

theorem pol_mk {p : api_Pol} {o : Int} (h : p = ⟨p.Op, 0, 0, []⟩) (ho : p.Op = o) : p = ⟨o, 0, 0, []⟩ := ho ▸ h

/-- What a kid brings into a sum. -/
def K7 (q : api_Pol) : List api_Pol := if q.Op = 7 then q.Kids else if q.Op = 0 then [] else [q]

theorem K7_flat {n : Int} {q : api_Pol} (h : Good n q) : (flatS 7 [q]).filter (fun x => !(x.Op == 0)) = K7 q := by
  rw [flatS_one]
  unfold K7
  split
  · rename_i c
    obtain ⟨h1, _⟩ := h.1.kids7 c
    exact filter_none _ fun x hx => by simpa using (h1 x hx).2.2
  · split
    · rename_i c; simp [c]
    · rename_i c; simp [c]

theorem K7_nodup {n : Int} {q : api_Pol} (h : Good n q) : (K7 q).Nodup := by
  unfold K7
  split
  · rename_i c; exact (h.1.kids7 c).2.2.2.1
  · split <;> simp

theorem sum_same {n : Int} {q : api_Pol} (h : Good n q) {l : List api_Pol} (hl : ∀ k ∈ l, k = q ∨ k = dropP) (hq : q ∈ l) : sumS l = q := by
  have key : ∀ (l acc : List api_Pol), (∀ k ∈ l, k = q ∨ k = dropP) → (acc = [] ∨ acc = K7 q) → dedup acc ((flatS 7 l).filter fun x => !(x.Op == 0)) = if q ∈ l then K7 q else acc := by
    intro l
    induction l with
    | nil => intro acc _ _; simp [flatS, dedup]
    | cons x l ih =>
      intro acc hl ha
      rw [show x :: l = [x] ++ l by rfl, flatS_app, List.filter_append, dedup_appL]
      have step : dedup acc ((flatS 7 [x]).filter fun x => !(x.Op == 0)) = if x = q then K7 q else acc := by
        rcases hl x (by simp) with rfl | rfl
        · rw [K7_flat h, if_pos rfl]
          rcases ha with rfl | rfl
          · rw [dedup_self _ [] (by simpa using K7_nodup h)]; simp
          · exact dedup_sub _ _ fun y hy => hy
        · have e : (flatS 7 [dropP]).filter (fun x => !(x.Op == 0)) = [] := by simp [flatS, dropP]
          rw [e]
          by_cases c : dropP = q
          · rw [if_pos c, ← c]
            have : K7 dropP = [] := by simp [K7, dropP]
            rw [this]
            rcases ha with rfl | rfl
            · rfl
            · rw [← c, this]; rfl
          · rw [if_neg c]; rfl
      rw [step, ih _ (fun k hk => hl k (by simp [hk])) (by split <;> simp [ha])]
      by_cases c : x = q
      · subst c
        have : x ∈ [x] ++ l := by simp
        rw [if_pos this, if_pos rfl]; simp
      · rw [if_neg c]
        by_cases c2 : q ∈ l
        · rw [if_pos c2, if_pos (by simp [c2])]
        · rw [if_neg c2, if_neg (by simp [c2, Ne.symm c])]
  unfold sumS
  rw [key l [] hl (.inl rfl), if_pos hq]
  simp only
  unfold K7
  by_cases c7 : q.Op = 7
  · rw [if_pos c7]
    obtain ⟨_, h2, h3, _, h4⟩ := h.1.kids7 c7
    rw [h4, if_neg (by simp), oneOf_two 7 h3, ← h2]
  · rw [if_neg c7]
    by_cases c0 : q.Op = 0
    · rw [if_pos c0]
      have := pol_mk (form_unit h.2 (.inl c0)) c0
      rw [this]; rfl
    · rw [if_neg c0]
      by_cases c1 : q.Op = 1
      · have e := pol_mk (form_unit h.2 (.inr c1)) c1
        have hp : ppred q = true := by rw [e]; exact pred_id
        simp only [List.any_cons, List.any_nil, List.all_cons, List.all_nil, c1, hp]
        rw [e]; rfl
      · have : ((q.Op == 1) : Bool) = false := by simpa using c1
        simp [this, oneOf]

def K6 (q : api_Pol) : List api_Pol := if q.Op = 6 then q.Kids else if q.Op = 1 then [] else [q]

theorem K6_flat {n : Int} {q : api_Pol} (h : Good n q) : (flatS 6 [q]).filter (fun x => !(x.Op == 1)) = K6 q := by
  rw [flatS_one]
  unfold K6
  split
  · rename_i c
    obtain ⟨h1, _⟩ := h.1.kids6 c
    exact filter_none _ fun x hx => by simpa using (h1 x hx).2.2.1
  · split
    · rename_i c; simp [c]
    · rename_i c; simp [c]

theorem seq_same {n : Int} {q : api_Pol} (h : Good n q) {l : List api_Pol} (hl : (flatS 6 l).filter (fun x => !(x.Op == 1)) = K6 q) : seqS l = q := by
  unfold seqS
  rw [hl]
  simp only
  by_cases c6 : q.Op = 6
  · have e : K6 q = q.Kids := by unfold K6; rw [if_pos c6]
    obtain ⟨h1, h2, h3, h4⟩ := h.1.kids6 c6
    rw [e, if_neg, seqR_self _ h4]
    · exact (oneOf_two 6 h3).trans h2.symm
    · intro hc
      obtain ⟨x, hx, hx0⟩ := List.any_eq_true.1 hc
      exact (h1 x hx).2.2.2 (by simpa using hx0)
  · by_cases c1 : q.Op = 1
    · have e : K6 q = [] := by unfold K6; rw [if_neg c6, if_pos c1]
      rw [e, pol_mk (form_unit h.2 (.inr c1)) c1]; rfl
    · have e : K6 q = [q] := by unfold K6; rw [if_neg c6, if_neg c1]
      rw [e]
      by_cases c0 : q.Op = 0
      · rw [pol_mk (form_unit h.2 (.inl c0)) c0]; rfl
      · have : ((q.Op == 0) : Bool) = false := by simpa using c0
        simp [this, seqR, step2, clo, oneOf]

theorem seq_drop {l : List api_Pol} (h : dropP ∈ l) : seqS l = dropP := by
  unfold seqS
  simp only
  rw [if_pos]
  refine List.any_eq_true.2 ⟨dropP, ?_, rfl⟩
  rw [List.mem_filter]
  exact ⟨List.mem_flatMap.2 ⟨dropP, h, by simp [dropP]⟩, rfl⟩

theorem not_not {n : Int} {q : api_Pol} (h : Good n q) : notS (notS q) = q := by
  by_cases c0 : q.Op = 0
  · rw [pol_mk (form_unit h.2 (.inl c0)) c0]; rfl
  · by_cases c1 : q.Op = 1
    · rw [pol_mk (form_unit h.2 (.inr c1)) c1]; rfl
    · by_cases c4 : q.Op = 4
      · obtain ⟨k, rfl, _, k0, k1, k4⟩ := h.1.kids4 c4
        have : notS ⟨4, 0, 0, [k]⟩ = k := rfl
        rw [this]
        unfold notS
        rw [if_neg k0, if_neg k1, if_neg k4]
      · have : notS q = ⟨4, 0, 0, [q]⟩ := by unfold notS; rw [if_neg c0, if_neg c1, if_neg c4]
        rw [this]; rfl

theorem form_notP {n : Int} {p : api_Pol} (h : pform n p = true) (hp : ppred p = true) : pform n ⟨4, 0, 0, [p]⟩ = true := by
  rw [pform_eq]; simp [h, hp]

theorem law_TrimLaws {a0 : List law05_Step} (h : StepOk a0) : law28_TrimLaws a0 = some true := by
  obtain ⟨p, b, hp, hs⟩ := pile_ok h
  have hb : psize p ≤ BIG := by unfold BIG; omega
  simp only [law28_TrimLaws, awake_ok, hp, Option.bind_some, Bool.not_true, Bool.false_eq_true, if_false]
  cases b with
  | false => rfl
  | true =>
    simp only [Bool.not_true, Bool.false_eq_true, if_false, r_right hb, Option.bind_some]
    cases hr : pright p with
    | false => rfl
    | true =>
      simp only [Bool.not_true, Bool.false_eq_true, if_false, r_size hb, r_depth hb, Option.bind_some]
      by_cases hd : (psize p : Int) > 80
      · rw [decide_eq_true hd]; rfl
      rw [decide_eq_false hd]
      simp only [Bool.false_eq_true, if_false, Option.bind_some]
      by_cases hd2 : (pdepth p : Int) > 15
      · rw [decide_eq_true hd2]; rfl
      rw [decide_eq_false hd2]
      simp only [Bool.false_eq_true, if_false, Option.bind_some, s_trim hb, law07_Sum, law07_Seq]
      obtain ⟨_, _, hf⟩ := right_big hr
      have hg := (trim_good p hf).1
      have eq : trimP p = trimS p := by unfold trimP; rw [hr]; rfl
      have hsd := trim_sd p
      rw [eq]
      generalize hq : trimS p = q at *
      have hqb : psize q ≤ BIG := by omega
      have hfd := form_drop 4
      have hfi := form_id 4
      have t1 : trim_Trim ⟨7, 0, 0, [p, p]⟩ = some q := by
        rw [s_trim (by simp [psize, psizeL]; unfold BIG; omega), trimP_eq (by simp [psize, psizeL]; omega) (by simp [pdepth, pdepthL]; omega) (form_node (.inr rfl) (by simp) fun k hk => by simp at hk; subst hk; exact hf), trimS_eq]
        simp only [if_true, List.map_cons, List.map_nil, hq]
        rw [sum_same hg (fun k hk => by simp at hk; exact .inl hk) (by simp)]
      have t2 : trim_Trim ⟨7, 0, 0, [dropP, p, dropP]⟩ = some q := by
        rw [s_trim (by simp [psize, psizeL, dropP]; unfold BIG; omega), trimP_eq (by simp [psize, psizeL, dropP]; omega) (by simp [pdepth, pdepthL, dropP]; omega) (form_node (.inr rfl) (by simp) fun k hk => by simp at hk; rcases hk with rfl | rfl | rfl <;> assumption), trimS_eq]
        simp only [if_true, List.map_cons, List.map_nil, hq, trimS_drop]
        rw [sum_same hg (fun k hk => by simp at hk; rcases hk with h | h | h <;> simp [h]) (by simp)]
      have t3 : trim_Trim ⟨6, 0, 0, [idP, p]⟩ = some q := by
        rw [s_trim (by simp [psize, psizeL, idP]; unfold BIG; omega), trimP_eq (by simp [psize, psizeL, idP]; omega) (by simp [pdepth, pdepthL, idP]; omega) (form_node (.inl rfl) (by simp) fun k hk => by simp at hk; rcases hk with rfl | rfl <;> assumption), trimS_eq]
        simp only [if_neg (show ¬ (6 : Int) = 7 by decide), if_true, List.map_cons, List.map_nil, hq, trimS_id]
        rw [seq_same (l := [idP, q]) hg (by rw [show [idP, q] = [idP] ++ [q] by rfl, flatS_app, List.filter_append, K6_flat hg]; simp [flatS, idP])]
      have t4 : trim_Trim ⟨6, 0, 0, [p, idP, idP]⟩ = some q := by
        rw [s_trim (by simp [psize, psizeL, idP]; unfold BIG; omega), trimP_eq (by simp [psize, psizeL, idP]; omega) (by simp [pdepth, pdepthL, idP]; omega) (form_node (.inl rfl) (by simp) fun k hk => by simp at hk; rcases hk with rfl | rfl <;> assumption), trimS_eq]
        simp only [if_neg (show ¬ (6 : Int) = 7 by decide), if_true, List.map_cons, List.map_nil, hq, trimS_id]
        rw [seq_same (l := [q, idP, idP]) hg (by rw [show [q, idP, idP] = [q] ++ [idP, idP] by rfl, flatS_app, List.filter_append, K6_flat hg]; simp [flatS, idP])]
      have s1 : trimS ⟨6, 0, 0, [p, dropP]⟩ = dropP := by
        rw [trimS_eq]
        simp only [if_neg (show ¬ (6 : Int) = 7 by decide), if_true, List.map_cons, List.map_nil, hq, trimS_drop]
        exact seq_drop (by simp)
      have f5 : pform 4 ⟨6, 0, 0, [p, dropP]⟩ = true := form_node (.inl rfl) (by simp) fun k hk => by simp at hk; rcases hk with rfl | rfl <;> assumption
      have t5 : trim_Trim ⟨7, 0, 0, [p, p, ⟨6, 0, 0, [p, dropP]⟩]⟩ = some q := by
        rw [s_trim (by simp [psize, psizeL, dropP]; unfold BIG; omega), trimP_eq (by simp [psize, psizeL, dropP]; omega) (by simp [pdepth, pdepthL, dropP]; omega) (form_node (.inr rfl) (by simp) fun k hk => by simp at hk; rcases hk with rfl | rfl <;> assumption), trimS_eq]
        simp only [if_true, List.map_cons, List.map_nil, hq, s1]
        rw [sum_same hg (fun k hk => by simp at hk; exact hk) (by simp)]
      have t6 : trim_Trim ⟨6, 0, 0, [p, dropP]⟩ = some dropP := by
        rw [s_trim (by simp [psize, psizeL, dropP]; unfold BIG; omega), trimP_eq (by simp [psize, psizeL, dropP]; omega) (by simp [pdepth, pdepthL, dropP]; omega) f5, s1]
      have t7 : trim_Trim ⟨6, 0, 0, [dropP, p]⟩ = some dropP := by
        rw [s_trim (by simp [psize, psizeL, dropP]; unfold BIG; omega), trimP_eq (by simp [psize, psizeL, dropP]; omega) (by simp [pdepth, pdepthL, dropP]; omega) (form_node (.inl rfl) (by simp) fun k hk => by simp at hk; rcases hk with rfl | rfl <;> assumption), trimS_eq]
        simp only [if_neg (show ¬ (6 : Int) = 7 by decide), if_true, List.map_cons, List.map_nil, trimS_drop]
        rw [seq_drop (by simp)]
      have sq : ref05_SamePol q q = some true := by rw [r_same _ hqb]; simp
      have sd : ref05_SamePol dropP dropP = some true := by rw [r_same _ (by simp [dropP, psize, psizeL, BIG])]; simp
      have dP : (⟨0, 0, 0, []⟩ : api_Pol) = dropP := rfl
      have iP : (⟨1, 0, 0, []⟩ : api_Pol) = idP := rfl
      rw [dP, iP]
      have hloop := forR_split0 (law28_TrimLaws_b1 q ⟨7, 0, 0, [p, p]⟩ ⟨7, 0, 0, [dropP, p, dropP]⟩ ⟨6, 0, 0, [idP, p]⟩ ⟨6, 0, 0, [p, idP, idP]⟩ ⟨7, 0, 0, [p, p, ⟨6, 0, 0, [p, dropP]⟩]⟩) (fun _ _ _ => (none : Option Bool)) ([⟨7, 0, 0, [p, p]⟩, ⟨7, 0, 0, [dropP, p, dropP]⟩, ⟨6, 0, 0, [idP, p]⟩, ⟨6, 0, 0, [p, idP, idP]⟩, ⟨7, 0, 0, [p, p, ⟨6, 0, 0, [p, dropP]⟩]⟩] : List api_Pol) (fun pre x r e => by
        simp only [law28_TrimLaws_b1, gat_pre e, Option.bind_some]
        have hx := mem_pre e
        have : trim_Trim x = some q := by
          simp at hx
          rcases hx with rfl | rfl | rfl | rfl | rfl <;> assumption
        rw [this]
        simp only [Option.bind_some, sq, Bool.not_true, Bool.false_eq_true, if_false]
        rfl)
      have hl5 : forR (law28_TrimLaws_b1 q ⟨7, 0, 0, [p, p]⟩ ⟨7, 0, 0, [dropP, p, dropP]⟩ ⟨6, 0, 0, [idP, p]⟩ ⟨6, 0, 0, [p, idP, idP]⟩ ⟨7, 0, 0, [p, p, ⟨6, 0, 0, [p, dropP]⟩]⟩) (irange 0 5) () = some (.done ()) := hloop
      rw [hl5]
      simp only [Option.bind_some, r_pred hb]
      cases hpp : ppred p with
      | false => simp only [Bool.false_eq_true, if_false, Option.bind_some, t6, t7, sd, if_true]
      | true =>
        have t8 : trim_Trim ⟨4, 0, 0, [⟨4, 0, 0, [p]⟩]⟩ = some q := by
          have f1 := form_notP hf hpp
          have f2 := form_notP f1 (by rw [ppred_eq]; simp)
          rw [s_trim (by simp [psize, psizeL]; unfold BIG; omega), trimP_eq (by simp [psize, psizeL]; omega) (by simp [pdepth, pdepthL]; omega) f2, trimS_eq]
          simp only [if_neg (show ¬ (4 : Int) = 7 by decide), if_neg (show ¬ (4 : Int) = 6 by decide), if_true, List.map_cons, List.map_nil, List.headD]
          rw [trimS_eq]
          simp only [if_neg (show ¬ (4 : Int) = 7 by decide), if_neg (show ¬ (4 : Int) = 6 by decide), if_true, List.map_cons, List.map_nil, List.headD, hq]
          rw [not_not hg]
        simp only [if_true, Option.bind_some, law28_TrimLaws_1, t8, sq, Bool.not_true, Bool.false_eq_true, if_false, t6, t7, sd]

end Go.AM
