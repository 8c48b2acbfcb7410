import Derived.Test.YtjdaaclkihjjnaaTS2
/-
  Plain laws of Slim, part 3: what a list makes of a packet; SlimKeeps.
-/
set_option linter.unusedVariables false
set_option linter.unusedSimpArgs false
namespace Go.AM
open Go

/-! no idle row is left -/

theorem lastI_none {l : List api_Row} : ∀ k, (∀ j, j < k → idle l j = false) → lastI k l = none
  | 0, _ => rfl
  | k + 1, h => by simp only [lastI, h k (by omega), Bool.false_eq_true, if_false]; exact lastI_none k fun j hj => h j (by omega)

theorem noidle : ∀ (n : Nat) (l : List api_Row), l.length ≤ n → ∀ i, idle (slimP l.length l) i = false
  | n, l, hl, i => by
    cases h : lastI l.length l with
    | none =>
      rw [slimP_none _ _ h]
      cases hi : idle l i with
      | false => rfl
      | true =>
        have hlt := idle_lt hi
        have : ∀ k, i < k → lastI k l ≠ none := by
          intro k
          induction k with
          | zero => intro h; omega
          | succ k ih =>
            intro hk
            simp only [lastI]
            by_cases c : i = k
            · subst c; rw [hi]; simp
            · cases idle l k with
              | true => simp
              | false => simp only [Bool.false_eq_true, if_false]; exact ih (by omega)
        exact (this _ hlt h).elim
    | some j =>
      obtain ⟨h1, h2, h3, h4⟩ := slimP_some _ _ _ h
      rw [slimP_del h]
      obtain ⟨n', rfl⟩ : ∃ n', n = n' + 1 := ⟨n - 1, by omega⟩
      exact noidle n' (del l j) (by rw [del_len h2]; omega) i

theorem del_sub (l : List api_Row) (i : Nat) : (del l i).Sublist l := by
  have : del l i = l.eraseIdx i := by rw [List.eraseIdx_eq_take_drop_succ]; rfl
  rw [this]
  exact List.eraseIdx_sublist ..

theorem slimP_sub : ∀ (k : Nat) (l : List api_Row), (slimP k l).Sublist l
  | 0, l => List.Sublist.refl l
  | k + 1, l => by
    simp only [slimP]
    split
    · exact (slimP_sub k _).trans (del_sub l k)
    · exact slimP_sub k l

/-! packets -/

def qv (q : A8 Int) (f : Int) : Int := q.l.getD f.toNat 0

theorem q_get {q : A8 Int} {f : Int} (h0 : 0 ≤ f) (h1 : f ≤ 7) : q.get f = some (qv q f) := by
  unfold A8.get gat qv
  have hl : f.toNat < q.l.length := by show f.toNat < 8; omega
  rw [if_pos h0, List.getD_eq_getElem?_getD, List.getElem?_eq_getElem hl]; rfl

def hasP (q : A8 Int) (x : api_Pair) : Bool := decide (0 ≤ x.F) && (decide (x.F ≤ 7) && (qv q x.F == x.N))
def hasB (q : A8 Int) (m : List api_Pair) : Bool := m.all (hasP q)

theorem Has_eq (q : A8 Int) (m : List api_Pair) : ref01_Has q m = some (hasB q m) := by
  unfold ref01_Has
  rw [forR_run0 (ref01_Has_b1 q m) (fun x => if !hasP q x then some false else none) m (fun j x hx => by
    unfold ref01_Has_b1
    rw [gat_nat, hx]
    simp only [Option.bind_some]
    unfold hasP
    by_cases c1 : x.F < 0
    · rw [if_pos (by simpa using c1), decide_eq_false (by omega)]; rfl
    · rw [if_neg (by simpa using c1)]
      by_cases c2 : x.F > 7
      · rw [if_pos (by simpa using c2), decide_eq_false (show ¬ x.F ≤ 7 by omega)]
        simp [brOf]
      · rw [if_neg (by simpa using c2), q_get (by omega) (by omega), decide_eq_true (show 0 ≤ x.F by omega), decide_eq_true (show x.F ≤ 7 by omega)]
        simp only [Option.bind_some, Bool.true_and]
        by_cases c3 : qv q x.F = x.N <;> simp [c3, brOf]), runL_any]
  unfold hasB
  rw [show (m.any fun x => !hasP q x) = !(m.all (hasP q)) by rw [List.not_all_eq_any_not]]
  cases m.all (hasP q) <;> rfl

theorem With_total (p : A8 Int) (f n : Int) : ∃ r, ref01_With p f n = some r := by
  unfold ref01_With
  by_cases c : ((decide (f ≥ 0)) && (decide (f < 8))) = true
  · rw [if_pos c]
    have h : 0 ≤ f ∧ f < 8 := by simpa using c
    rw [q_get h.1 (by omega)]
    simp only [Option.bind_some]
    have : ∃ P', p.put f n = some P' := by
      have : f = 0 ∨ f = 1 ∨ f = 2 ∨ f = 3 ∨ f = 4 ∨ f = 5 ∨ f = 6 ∨ f = 7 := by omega
      rcases this with rfl | rfl | rfl | rfl | rfl | rfl | rfl | rfl <;> exact ⟨_, rfl⟩
    obtain ⟨P', hp⟩ := this
    rw [hp]; exact ⟨_, rfl⟩
  · rw [if_neg c]; exact ⟨_, rfl⟩

theorem Do_total (p : A8 Int) (act : List api_Pair) : ∃ r, ref01_Do p act = some r := by
  unfold ref01_Do
  obtain ⟨z, e, _⟩ := forO_list (ref01_Do_b1 act) act (fun _ _ => True) p trivial (fun i x s hx _ => by
    obtain ⟨r, hr⟩ := With_total s x.F x.N
    refine ⟨r, ?_, trivial⟩
    unfold ref01_Do_b1
    rw [gat_nat, hx]
    simp only [Option.bind_some]
    rw [hr]; rfl)
  rw [e]; exact ⟨_, rfl⟩

theorem Compare_total (a b : A8 Int) : ∃ r, ref01_Compare a b = some r := by
  unfold ref01_Compare
  rcases forR_map (ref01_Compare_b1 a b) (fun _ _ => True) (fun _ => False) (fun _ => True) 8 0 () trivial (fun j s _ hj _ => by
    unfold ref01_Compare_b1
    rw [q_get (by omega) (by omega), q_get (by omega) (by omega)]
    simp only [Option.bind_some]
    by_cases c1 : qv a (j : Int) < qv b (j : Int)
    · rw [if_pos (by simpa using c1)]; exact .inr (.inr ⟨_, rfl, trivial⟩)
    · rw [if_neg (by simpa using c1)]
      by_cases c2 : qv a (j : Int) > qv b (j : Int)
      · rw [if_pos (by simpa using c2)]; exact .inr (.inr ⟨_, rfl, trivial⟩)
      · rw [if_neg (by simpa using c2)]; exact .inl ⟨(), rfl, trivial⟩) with ⟨s, e, _⟩ | ⟨r, e, _⟩
  · have e' : forR (ref01_Compare_b1 a b) (irange 0 8) () = some (.done s) := e
    rw [e']; exact ⟨0, rfl⟩
  · have e' : forR (ref01_Compare_b1 a b) (irange 0 8) () = some (.ret r) := e
    rw [e']; exact ⟨r, rfl⟩

theorem Add_total (l : List (A8 Int)) (p : A8 Int) (hl : l.length ≤ 100000) : ∃ r, ref01_Add l p = some r ∧ r.length ≤ l.length + 1 := by
  unfold ref01_Add
  obtain ⟨⟨z1, z2⟩, e, h⟩ := forO_list (ref01_Add_b1 l p) l (fun t z => z.1.length ≤ t.length + (if z.2 then 1 else 0)) ([], false) (by simp) (fun i x s hx hs => by
    have hi := (List.getElem?_eq_some_iff.1 hx).1
    obtain ⟨s1, s2⟩ := s
    simp only at hs
    have ht : (l.take i).length ≤ 100000 := by rw [List.length_take]; omega
    have hs' : s1.length ≤ 100001 := by split at hs <;> omega
    obtain ⟨c, hc⟩ := Compare_total p x
    unfold ref01_Add_b1
    show ∃ s', ((gat l (i : Int)).bind _).bind _ = some s' ∧ _
    rw [gat_nat, hx]
    simp only [Option.bind_some]
    rw [hc]
    simp only [Option.bind_some]
    by_cases c1 : ((!s2) && (decide (c ≤ 0))) = true
    · rw [if_pos c1, gapp_some (by simp; omega)]
      simp only [Option.bind_some]
      have hs2 : s2 = false := by simp at c1; exact c1.1
      subst hs2
      simp only [Bool.false_eq_true, if_false] at hs
      by_cases c2 : (c != 0) = true
      · rw [if_pos c2, gapp_some (by simp; omega)]
        exact ⟨_, rfl, by simp at hs ⊢; omega⟩
      · rw [if_neg c2]
        exact ⟨_, rfl, by simp at hs ⊢; omega⟩
    · rw [if_neg c1]
      simp only [Option.bind_some]
      by_cases c2 : (c != 0) = true
      · rw [if_pos c2, gapp_some (by simp; omega)]
        exact ⟨_, rfl, by simp only [List.length_append, List.length_cons, List.length_nil]; omega⟩
      · rw [if_neg c2]
        exact ⟨_, rfl, by simp only [List.length_append, List.length_cons, List.length_nil]; omega⟩)
  rw [e]
  simp only [Option.bind_some] at h ⊢
  cases z2 with
  | true => exact ⟨z1, rfl, by simpa using h⟩
  | false =>
    simp only [Bool.not_false, if_true]
    simp only [Bool.false_eq_true, if_false] at h
    rw [gapp_some (by simp; omega)]
    exact ⟨_, rfl, by simp; omega⟩

/-- what acts make of a packet -/
def rv (acts : List (List api_Pair)) (q : A8 Int) : List (A8 Int) := (forO (ref08_Rows_b2 q ⟨[], acts⟩) (irange 0 (acts.length : Int)) []).getD []

theorem rv_eq (x : api_Row) (q : A8 Int) (h : x.Acts.length ≤ 1000) : forO (ref08_Rows_b2 q x) (irange 0 (x.Acts.length : Int)) [] = some (rv x.Acts q) := by
  obtain ⟨z, e, _⟩ := forO_list (ref08_Rows_b2 q x) x.Acts (fun t (z : List (A8 Int)) => z.length ≤ t.length) [] (by simp) (fun i y s hy hs => by
    have hi := (List.getElem?_eq_some_iff.1 hy).1
    have ht : (x.Acts.take i).length ≤ 1000 := by rw [List.length_take]; omega
    obtain ⟨r, hr⟩ := Do_total q y
    obtain ⟨r2, hr2, hr3⟩ := Add_total s r (by omega)
    refine ⟨r2, ?_, by simp only [List.length_append, List.length_cons, List.length_nil]; omega⟩
    unfold ref08_Rows_b2
    show (gat x.Acts (i : Int)).bind _ = _
    rw [gat_nat, hy]
    simp only [Option.bind_some]
    rw [hr]
    simp only [Option.bind_some]
    rw [hr2]; rfl)
  have : rv x.Acts q = z := by
    unfold rv
    rw [show ref08_Rows_b2 q ⟨[], x.Acts⟩ = ref08_Rows_b2 q x from rfl, e]; rfl
  rw [this]; exact e

theorem rows_eq (x : api_Row) (q : A8 Int) (h : x.Acts.length ≤ 1000) (hq : hasB q x.Match = true) : ref08_Rows [x] q = some (rv x.Acts q, true) := by
  unfold ref08_Rows
  rw [show irange 0 (([x] : List api_Row).length : Int) = [0] from rfl]
  simp only [forR]
  have : ref08_Rows_b1 [x] q 0 () = some (.ret (rv x.Acts q, true)) := by
    unfold ref08_Rows_b1
    rw [show gat [x] 0 = some x from rfl]
    simp only [Option.bind_some]
    rw [Has_eq, hq]
    simp only [Option.bind_some, if_true]
    rw [rv_eq x q h]; rfl
  rw [this]; rfl

/-- the first row that a packet has -/
def first (q : A8 Int) : List api_Row → Option api_Row
  | [] => none
  | x :: l => if hasB q x.Match then some x else first q l

theorem first_app (q : A8 Int) : ∀ l m : List api_Row, first q (l ++ m) = match first q l with
    | some x => some x
    | none => first q m
  | [], m => rfl
  | x :: l, m => by
    simp only [List.cons_append, first]
    cases hasB q x.Match with
    | true => rfl
    | false => simp only [Bool.false_eq_true, if_false]; exact first_app q l m

theorem lookup_eq {l : List api_Row} (q : A8 Int) (hl : l.length ≤ 1000) (ha : ∀ x ∈ l, x.Acts.length ≤ 1000) : ∃ n, ref09_Lookup l q = some (match first q l with | some x => rv x.Acts q | none => [], n) := by
  unfold ref09_Lookup
  rcases forR_list (ref09_Lookup_b1 l q) l (fun t _ => first q t = none) (fun _ => False) (fun r => r.1 = match first q l with | some x => rv x.Acts q | none => []) () rfl (fun i x s hx hs => by
    have hi := (List.getElem?_eq_some_iff.1 hx).1
    unfold ref09_Lookup_b1
    rw [gat_nat, hx]
    simp only [Option.bind_some]
    rw [Has_eq]
    simp only [Option.bind_some]
    cases hq : hasB q x.Match with
    | true =>
      simp only [if_true]
      have hc : gcut l (i : Int) ((i : Int) + 1) = some [x] := by
        unfold gcut
        rw [if_pos (by omega), Int.toNat_natCast, show ((i : Int) + 1).toNat - i = 1 by omega]
        rw [List.getElem?_eq_getElem hi] at hx
        rw [List.drop_eq_getElem_cons hi, Option.some.inj hx]; rfl
      rw [hc]
      simp only [Option.bind_some]
      rw [rows_eq x q (ha x (List.mem_of_getElem? hx)) hq]
      refine .inr (.inr ⟨_, rfl, ?_⟩)
      have e : l = l.take i ++ x :: l.drop (i + 1) := by
        rw [List.getElem?_eq_getElem hi] at hx
        rw [← Option.some.inj hx, ← List.drop_eq_getElem_cons hi, List.take_append_drop]
      have : first q l = some x := by
        rw [e, first_app, hs]
        simp [first, hq]
      rw [this]
    | false =>
      refine .inl ⟨(), rfl, ?_⟩
      rw [first_app, hs]
      simp [first, hq]) with ⟨s, e, h | h⟩ | ⟨r, e, h⟩
  · rw [e, h]; exact ⟨-1, rfl⟩
  · exact h.elim
  · rw [e, ← h]; exact ⟨r.2, rfl⟩

/-! an idle row isn't missed -/

theorem hasB_mem {q : A8 Int} {m : List api_Pair} (h : hasB q m = true) {x : api_Pair} (hx : x ∈ m) : qv q x.F = x.N := by
  have := List.all_eq_true.1 h x hx
  unfold hasP at this
  simp at this
  exact this.2.2

theorem hasB_covers {q : A8 Int} {r x : api_Row} (hc : covers r x = true) (h : hasB q x.Match = true) : hasB q r.Match = true := by
  refine List.all_eq_true.2 fun u hu => ?_
  have := List.all_eq_true.1 hc u hu
  exact List.all_eq_true.1 h u (by simpa using this)

theorem hasB_apart {q : A8 Int} {r x : api_Row} (hc : apart r x = true) (h : hasB q x.Match = true) : hasB q r.Match = false := by
  cases hr : hasB q r.Match with
  | false => rfl
  | true =>
    obtain ⟨u, hu, hc⟩ := List.any_eq_true.1 hc
    obtain ⟨v, hv, hc⟩ := List.any_eq_true.1 hc
    simp at hc
    have h1 := hasB_mem hr hu
    have h2 := hasB_mem h hv
    rw [hc.1] at h1
    exact (hc.2 (h1.symm.trans h2)).elim

theorem spd_first {q : A8 Int} {x : api_Row} (hx : hasB q x.Match = true) : ∀ l, spd x l = true → (first q l).map (·.Acts) = some x.Acts
  | [], h => by cases h
  | r :: l, h => by
    simp only [spd] at h
    simp only [first]
    by_cases c : r.Acts = x.Acts
    · rw [if_pos c] at h
      cases hc : covers r x with
      | true => rw [hasB_covers hc hx]; simp [c]
      | false =>
        rw [hc] at h
        simp only [Bool.false_eq_true, if_false] at h
        cases hr : hasB q r.Match with
        | true => simp [c]
        | false => simp only [Bool.false_eq_true, if_false]; exact spd_first hx l h
    · rw [if_neg c] at h
      cases ha : apart r x with
      | false => rw [ha] at h; cases h
      | true =>
        rw [ha] at h
        simp only [if_true] at h
        rw [hasB_apart ha hx]
        simp only [Bool.false_eq_true, if_false]
        exact spd_first hx l h

theorem first_none {q : A8 Int} : ∀ {l : List api_Row}, first q l = none → ∀ r ∈ l, hasB q r.Match = false
  | [], _, r, h => by simp at h
  | x :: l, h, r, hr => by
    simp only [first] at h
    cases hx : hasB q x.Match with
    | true => rw [hx] at h; cases h
    | false =>
      rw [hx] at h
      rcases List.mem_cons.1 hr with rfl | hr
      · exact hx
      · exact first_none h r hr

theorem first_del {q : A8 Int} {l : List api_Row} {i : Nat} (h : idle l i = true) : (first q (del l i)).map (·.Acts) = (first q l).map (·.Acts) := by
  have hi := idle_lt h
  have e : l = l.take i ++ l[i] :: l.drop (i + 1) := by rw [← List.drop_eq_getElem_cons hi, List.take_append_drop]
  unfold idle at h
  rw [List.getElem?_eq_getElem hi] at h
  simp only at h
  unfold del
  conv => rhs; rw [e]
  rw [first_app, first_app]
  cases hA : first q (l.take i) with
  | some r => rfl
  | none =>
    simp only [first]
    cases hx : hasB q (l[i]).Match with
    | false => simp only [Bool.false_eq_true, if_false]
    | true =>
      simp only [if_true, Option.map_some]
      rcases Bool.or_eq_true_iff.1 h with h | h
      · obtain ⟨r, hr, hc⟩ := List.any_eq_true.1 h
        have := first_none hA r hr
        rw [hasB_covers hc hx] at this
        cases this
      · exact spd_first hx _ h

theorem first_slim (q : A8 Int) : ∀ (k : Nat) (l : List api_Row), (first q (slimP k l)).map (·.Acts) = (first q l).map (·.Acts)
  | 0, _ => rfl
  | k + 1, l => by
    simp only [slimP]
    cases h : idle l k with
    | true => simp only [if_true]; rw [first_slim q k, first_del h]
    | false => simp only [Bool.false_eq_true, if_false]; exact first_slim q k l

theorem psame_refl (l : List (A8 Int)) : ref01_Same l l = some true := by
  unfold ref01_Same
  rw [if_neg (by simp)]
  rcases forR_list (ref01_Same_b1 l l) l (fun _ _ => True) (fun _ => False) (fun _ => False) () trivial (fun i x s hx _ => by
    refine .inl ⟨(), ?_, trivial⟩
    unfold ref01_Same_b1
    rw [gat_nat, hx]
    simp) with ⟨s, e, _⟩ | ⟨r, _, h⟩
  · rw [e]; rfl
  · exact h.elim

/-- rows of a list that stand in it in their order are found one after another -/
theorem greedy {l s : List api_Row} (hs : s.Sublist l) (hl : l.length ≤ 1000) : forO (law26_SlimKeeps_b1 l s) (irange 0 (l.length : Int)) 0 = some (s.length : Int) := by
  have hsl := hs.length_le
  obtain ⟨z, e, n, hz, hn, h⟩ := forO_list (law26_SlimKeeps_b1 l s) l (fun t z => ∃ n : Nat, z = (n : Int) ∧ n ≤ s.length ∧ (s.drop n).Sublist (l.drop t.length)) 0 ⟨0, rfl, by omega, by simpa using hs⟩ (fun i x z hx hz => by
    obtain ⟨n, rfl, hn, hsub⟩ := hz
    have hi := (List.getElem?_eq_some_iff.1 hx).1
    rw [show (l.take i).length = i by simp; omega] at hsub
    have hlen : (l.take i ++ [x]).length = i + 1 := by simp; omega
    rw [hlen]
    have ed : l.drop i = x :: l.drop (i + 1) := by
      rw [List.drop_eq_getElem_cons hi]
      rw [List.getElem?_eq_getElem hi] at hx
      rw [Option.some.inj hx]
    rw [ed] at hsub
    unfold law26_SlimKeeps_b1
    show ∃ s', ((gat l (i : Int)).bind _).bind _ = some s' ∧ _
    rw [gat_nat, hx]
    simp only [Option.bind_some]
    by_cases c : n < s.length
    · rw [if_pos (by simpa using c), w_i64 (by omega) (by omega)]
      have hc : gcut s (n : Int) ((n : Int) + 1) = some [s[n]] := by
        unfold gcut
        rw [if_pos (by omega), Int.toNat_natCast, show ((n : Int) + 1).toNat - n = 1 by omega, List.drop_eq_getElem_cons c]; rfl
      rw [hc]
      simp only [Option.bind_some]
      rw [same_eq]
      simp only [Option.bind_some]
      rw [List.drop_eq_getElem_cons c] at hsub
      by_cases ce : x = s[n]
      · rw [if_pos (by simp [← ce])]
        refine ⟨_, rfl, n + 1, by omega, by omega, ?_⟩
        rw [← ce] at hsub
        exact List.cons_sublist_cons.1 hsub
      · rw [if_neg (by simp; exact ce)]
        refine ⟨_, rfl, n, rfl, hn, ?_⟩
        rw [List.drop_eq_getElem_cons c]
        cases hsub with
        | cons _ h => exact h
        | cons_cons _ h => exact (ce rfl).elim
    · rw [if_neg (by simp; omega)]
      refine ⟨_, rfl, n, rfl, hn, ?_⟩
      rw [List.drop_eq_nil_of_le (by omega)]
      exact List.nil_sublist _)
  rw [List.drop_length] at h
  have : (s.drop n).length = 0 := by rw [List.sublist_nil.1 h]; rfl
  rw [e, hz]
  simp at this
  congr 1; omega

theorem law_keeps (l : List api_Row) (ps : List (A8 Int)) (hs : Sized l) : law26_SlimKeeps l ps = some true := by
  unfold law26_SlimKeeps
  rw [awake26]
  simp only [Option.bind_some, Bool.not_true, Bool.false_eq_true, if_false]
  by_cases c : (l.length : Int) > 14
  · rw [if_pos (by simpa using c)]; rfl
  · rw [if_neg (by simpa using c)]
    by_cases c2 : (ps.length : Int) > 20
    · rw [if_pos (by simpa using c2)]; rfl
    · rw [if_neg (by simpa using c2)]
      obtain ⟨b1, e1, hfew⟩ := few_total l
      rw [e1]
      simp only [Option.bind_some]
      cases b1 with
      | false => rfl
      | true =>
        simp only [Bool.not_true, Bool.false_eq_true, if_false]
        obtain ⟨b2, e2⟩ := right_total l hs
        rw [e2]
        simp only [Option.bind_some]
        cases b2 with
        | false => rfl
        | true =>
          simp only [Bool.not_true, Bool.false_eq_true, if_false]
          have hl : l.length ≤ 1000 := by omega
          have hsub := slimP_sub l.length l
          have hsl := hsub.length_le
          have hno := noidle l.length l (Nat.le_refl _)
          rw [gapp_some (by simp; omega)]
          simp only [Option.bind_some, List.nil_append]
          rw [slim_eq hl]
          simp only [Option.bind_some]
          have hfirst := fun q => first_slim q l.length l
          generalize slimP l.length l = s at *
          rw [same_eq, slim_eq (by omega), slimP_none _ _ (lastI_none _ fun j _ => hno j)]
          simp only [Option.bind_some]
          rw [same_eq]
          simp only [decide_true, Bool.not_true, Bool.false_eq_true, if_false, Option.bind_some]
          rw [if_neg (by simp; omega)]
          simp only [Option.bind_some, Bool.false_eq_true, if_false]
          rw [greedy hsub hl]
          simp only [Option.bind_some]
          rw [if_neg (by simp)]
          rw [forR_run0 (law26_SlimKeeps_b2 s) (fun _ => (none : Option Bool)) s (fun j x hx => by
            unfold law26_SlimKeeps_b2
            rw [idle_eq (by omega), hno j]; rfl)]
          have hn : ∀ {α : Type} (t : List α), runL (fun _ => (none : Option Bool)) t = none := by
            intro α t; induction t with
            | nil => rfl
            | cons a t ih => exact ih
          rw [hn]
          simp only [exOf, Option.bind_some]
          rw [forR_run0 (law26_SlimKeeps_b3 l ps s) (fun _ => (none : Option Bool)) ps (fun j q hq => by
            unfold law26_SlimKeeps_b3
            rw [gat_nat, hq]
            simp only [Option.bind_some]
            have ha : ∀ x ∈ l, x.Acts.length ≤ 1000 := fun x hx => by have := hfew rfl x hx; omega
            obtain ⟨n1, h1⟩ := lookup_eq q hl ha
            obtain ⟨n2, h2⟩ := lookup_eq q (show s.length ≤ 1000 by omega) fun x hx => ha x (hsub.subset hx)
            rw [h1, h2]
            simp only [Option.bind_some]
            have hf := hfirst q
            have : (match first q l with | some x => rv x.Acts q | none => []) = (match first q s with | some x => rv x.Acts q | none => []) := by
              cases hA : first q l with
              | none =>
                rw [hA] at hf
                cases hB : first q s with
                | none => rfl
                | some y => rw [hB] at hf; cases hf
              | some x =>
                rw [hA] at hf
                cases hB : first q s with
                | none => rw [hB] at hf; cases hf
                | some y =>
                  rw [hB] at hf
                  simp only [Option.map_some, Option.some.injEq] at hf
                  simp only [hf]
            rw [this, psame_refl]
            rfl), hn]
          rfl

end Go.AM
