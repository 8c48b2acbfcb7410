import Derived.Test.YtkgegocfjalcbaaTT3
/-
  Sequences, nots, whole policies: told outright; what is made is in its normal form.
-/
set_option linter.unusedVariables false
set_option linter.unusedSimpArgs false
namespace Go.AM
open Go

def nb (a b : api_Pol) (ask : Bool) : Int :=
  let both := (a.Op == 2 || a.Op == 3) && a.Op == b.Op
  if both ≠ ask ∨ a.F ≠ b.F then 0
  else if both then (if a.N = b.N then 2 else 3)
  else if a.Op = 5 ∧ b.Op = 5 then 1
  else if a.Op = 5 ∧ b.Op = 2 then (if a.N = b.N then 2 else 3)
  else if a.Op = 2 ∧ b.Op = 5 ∧ a.N = b.N then 2
  else 0

theorem s_nb (a b : api_Pol) (ask : Bool) : trim_neighbours a b ask = some (nb a b ask) := by
  simp only [trim_neighbours, trim_asks, trim_equal, Option.bind_some, nb]
  generalize hB : ((a.Op == 2 || a.Op == 3) && a.Op == b.Op) = both
  by_cases c1 : both = ask
  · subst c1
    by_cases c2 : a.F = b.F
    · simp only [c2, beq_self_eq_true, Bool.not_true, bne_self_eq_false, Bool.false_eq_true, if_false, Option.bind_some, ne_eq, not_true_eq_false, or_self]
      cases both with
      | true => simp only [if_true]; by_cases c3 : a.N = b.N <;> simp [c3]
      | false =>
        simp only [Bool.false_eq_true, if_false]
        by_cases c4 : a.Op = 5
        · by_cases c5 : b.Op = 5
          · simp [c4, c5]
          · by_cases c6 : b.Op = 2
            · by_cases c3 : a.N = b.N <;> simp [c4, c6, c3]
            · simp [c4, c5, c6]
        · by_cases c7 : a.Op = 2
          · by_cases c5 : b.Op = 5
            · by_cases c3 : a.N = b.N <;> simp [c7, c5, c3]
            · simp [c7, c5]
          · simp [c4, c7]
    · have : (a.F != b.F) = true := by simpa using c2
      simp [c2, this]
  · have : (both == ask) = false := by simpa using c1
    simp [c1, this]

def clo (ask : Bool) : List api_Pol → Option (Option (List api_Pol))
  | x :: y :: r => if nb x y ask = 1 then some (some (y :: r)) else if nb x y ask = 2 then some (some (x :: r)) else if nb x y ask = 3 then some none else (clo ask (y :: r)).map fun o => o.map (x :: ·)
  | _ => none

theorem clo_len (ask : Bool) : ∀ {l l' : List api_Pol}, clo ask l = some (some l') → l'.Sublist l ∧ l'.length + 1 = l.length
  | [], l', h => by cases h
  | [x], l', h => by cases h
  | x :: y :: r, l', h => by
    rw [clo] at h
    split at h
    · cases h; exact ⟨List.sublist_cons_self _ _, rfl⟩
    · split at h
      · cases h; exact ⟨(List.sublist_cons_self y r).cons_cons x, rfl⟩
      · split at h
        · cases h
        · cases hc : clo ask (y :: r) with
          | none => rw [hc] at h; cases h
          | some o =>
            rw [hc] at h
            cases o with
            | none => cases h
            | some m =>
              cases h
              obtain ⟨h1, h2⟩ := clo_len ask hc
              exact ⟨h1.cons_cons x, by simp at h2 ⊢; omega⟩

theorem irange_le {a b : Int} (h : b ≤ a) : irange a b = [] := by
  unfold irange; rw [show (b - a).toNat = 0 by omega]; rfl

def cloR (pre : List api_Pol) : Option (Option (List api_Pol)) → Option (List api_Pol × Bool × Bool)
  | none => none
  | some none => some ([], true, true)
  | some (some s) => some (pre ++ s, false, true)

theorem s_delAt {l pre r : List api_Pol} {x : api_Pol} (e : l = pre ++ x :: r) : slices_Delete_api_Pol l (pre.length : Int) ((pre.length : Int) + 1) = some (pre ++ r) := by
  unfold slices_Delete_api_Pol
  rw [if_pos (by rw [e]; simp; omega), e]
  rw [show ((pre.length : Int) + 1).toNat = pre.length + 1 by omega]
  simp

theorem clo_loop {l : List api_Pol} (ask : Bool) (hl : l.length ≤ BIG) : ∀ (suf pre : List api_Pol), l = pre ++ suf → forR (trim_closer_b1 l ask) (irange (pre.length : Int) ((l.length : Int) - 1)) () = some (exOf (cloR pre (clo ask suf)))
  | [], pre, e => by rw [irange_le (by rw [e]; simp; omega)]; rfl
  | [x], pre, e => by rw [irange_le (by rw [e]; simp)]; rfl
  | x :: y :: r, pre, e => by
    unfold BIG at hl
    have hlen : (l.length : Int) - 1 = ((pre.length + (r.length + 1) : Nat) : Int) := by rw [e]; simp; omega
    have hlen2 : l.length = pre.length + (r.length + 2) := by rw [e]; simp
    have hy : gat l ((pre.length : Int) + 1) = some y := by
      have := gat_pre (l := l) (pre := pre ++ [x]) (r := r) (x := y) (by rw [e]; simp)
      simpa using this
    have d1 := s_delAt e
    have d2 : slices_Delete_api_Pol l ((pre.length : Int) + 1) (IntKind.i64.wrap ((pre.length : Int) + 2)) = some (pre ++ x :: r) := by
      have := s_delAt (l := l) (pre := pre ++ [x]) (r := r) (x := y) (by rw [e]; simp)
      rw [w_i64 (by omega) (by omega)]
      simp only [List.length_append, List.length_singleton, List.append_assoc, List.singleton_append] at this
      rw [show (pre.length : Int) + 1 = ((pre.length + 1 : Nat) : Int) by push_cast; rfl, show (pre.length : Int) + 2 = ((pre.length + 1 : Nat) : Int) + 1 by push_cast; omega]
      exact this
    have ih := clo_loop ask hl (y :: r) (pre ++ [x]) (by rw [e]; simp)
    rw [hlen] at ih ⊢
    rw [irangeN_cons]
    simp only [forR]
    have hb : trim_closer_b1 l ask (pre.length : Int) () = some (if nb x y ask = 1 then Br.ret (pre ++ y :: r, false, true) else if nb x y ask = 2 then Br.ret (pre ++ x :: r, false, true) else if nb x y ask = 3 then Br.ret ([], true, true) else .next ()) := by
      simp only [trim_closer_b1, gat_pre e, hy, s_nb, d1, d2, Option.bind_some]
      by_cases c1 : nb x y ask = 1
      · simp [c1]
      · by_cases c2 : nb x y ask = 2
        · simp [c2]
        · by_cases c3 : nb x y ask = 3
          · simp [c3]
          · simp [c1, c2, c3]
    rw [hb]
    simp only [Option.bind_some, clo]
    by_cases c1 : nb x y ask = 1
    · simp [c1, cloR, exOf]
    · by_cases c2 : nb x y ask = 2
      · simp [c2, cloR, exOf]
      · by_cases c3 : nb x y ask = 3
        · simp [c3, cloR, exOf]
        · rw [if_neg c1, if_neg c2, if_neg c3, if_neg c1, if_neg c2, if_neg c3]
          simp only [List.length_append, List.length_singleton] at ih
          show forR _ _ () = _
          rw [ih]
          cases clo ask (y :: r) with
          | none => rfl
          | some o => cases o with
            | none => rfl
            | some m => simp [cloR]

theorem s_closer {l : List api_Pol} (ask : Bool) (hl : l.length ≤ BIG) : trim_closer l ask = some (match clo ask l with | none => (l, false, false) | some none => ([], true, true) | some (some l') => (l', false, true)) := by
  have hb := hl
  unfold BIG at hb
  have := clo_loop ask hl l [] rfl
  unfold trim_closer
  rw [w_i64 (by omega) (by omega)]
  simp only [List.length_nil, Int.natCast_zero] at this
  rw [this]
  cases clo ask l with
  | none => rfl
  | some o => cases o with
    | none => rfl
    | some m => rfl

def step2 (l : List api_Pol) : Option (Option (List api_Pol)) :=
  match clo true l with
  | none => clo false l
  | some o => some o

theorem step2_len {l l' : List api_Pol} (h : step2 l = some (some l')) : l'.Sublist l ∧ l'.length + 1 = l.length := by
  unfold step2 at h
  split at h
  · exact clo_len _ h
  · rename_i o ho; cases h; exact clo_len _ ho

def seqR : Nat → List api_Pol → Option (List api_Pol)
  | 0, l => some l
  | n + 1, l => match step2 l with
    | none => some l
    | some none => none
    | some (some l') => seqR n l'

theorem seqR_sub : ∀ (n : Nat) {l l' : List api_Pol}, seqR n l = some l' → l'.Sublist l
  | 0, l, l', h => by cases h; exact List.Sublist.refl _
  | n + 1, l, l', h => by
    rw [seqR] at h
    split at h
    · cases h; exact List.Sublist.refl _
    · cases h
    · rename_i m hm; exact (seqR_sub n h).trans (step2_len hm).1

theorem step2_short {l : List api_Pol} (h : l.length ≤ 1) : step2 l = none := by
  match l, h with
  | [], _ => rfl
  | [x], _ => rfl

theorem seqR_end : ∀ (n : Nat) {l l' : List api_Pol}, l.length ≤ n → seqR n l = some l' → step2 l' = none
  | 0, l, l', hl, h => by cases h; exact step2_short (by omega)
  | n + 1, l, l', hl, h => by
    rw [seqR] at h
    split at h
    · cases h; assumption
    · cases h
    · rename_i m hm
      have := (step2_len hm).2
      exact seqR_end n (by omega) h

theorem seq_loop : ∀ (n : Nat) (l : List api_Pol) (m : Nat), l.length ≤ n → n ≤ BIG → whR trim_seq_b1 (m + n + 2) (l, true) = some (match seqR n l with | none => .ret dropP | some l' => .done (l', false)) := by
  intro n
  induction n with
  | zero =>
    intro l m hl hn
    have : l = [] := List.length_eq_zero_iff.1 (by omega)
    subst this
    rw [show m + 0 + 2 = (m + 1) + 1 by omega, whR_step]
    simp only [trim_seq_b1, if_true, s_closer (l := []) _ (by unfold BIG; simp), clo, Option.bind_some, Bool.not_false, Bool.false_eq_true, if_false]
    rw [whR_step]; rfl
  | succ n ih =>
    intro l m hl hn
    have hlb : l.length ≤ BIG := by omega
    rw [show m + (n + 1) + 2 = (m + n + 2) + 1 by omega, whR_step]
    simp only [trim_seq_b1, if_true, s_closer _ hlb, Option.bind_some, seqR, step2]
    cases h1 : clo true l with
    | none =>
      simp only [Bool.not_false, if_true, Option.bind_some, s_closer _ hlb]
      cases h2 : clo false l with
      | none =>
        simp only [Bool.false_eq_true, if_false, Option.bind_some]
        rw [whR_step]; rfl
      | some o => cases o with
        | none => rfl
        | some l' =>
          simp only [Bool.false_eq_true, if_false, Option.bind_some]
          have := (clo_len _ h2).2
          exact ih l' m (by omega) (by omega)
    | some o => cases o with
      | none => rfl
      | some l' =>
        simp only [Bool.not_true, Bool.false_eq_true, if_false, Option.bind_some]
        have := (clo_len _ h1).2
        exact ih l' m (by omega) (by omega)

def seqS (kids : List api_Pol) : api_Pol :=
  let l := (flatS 6 kids).filter fun x => !(x.Op == 1)
  if l.any fun x => x.Op == 0 then dropP else match seqR l.length l with
    | none => dropP
    | some l' => oneOf 6 l'

theorem s_seq {l : List api_Pol} (h : psizeL l ≤ BIG) : trim_seq l = some (seqS l) := by
  have h1 := flatS_size 6 l
  have h2 := filter_size (fun x => !(x.Op == 1)) (flatS 6 l)
  have h3 := len_psizeL (flatS 6 l)
  have hBIG : BIG = 100000 := rfl
  unfold trim_seq
  rw [s_flat 6 h, Option.bind_some, s_without 1 (by omega), Option.bind_some, s_has, Option.bind_some]
  unfold seqS
  generalize hm : (flatS 6 l).filter (fun x => !(x.Op == 1)) = m
  rw [hm] at h2
  have h4 := len_psizeL m
  by_cases c : (m.any fun x => x.Op == 0) = true
  · simp only [c, if_true]; rfl
  · have c' : (m.any fun x => x.Op == 0) = false := by simpa using c
    simp only [c', Bool.false_eq_true, if_false]
    obtain ⟨f, hf⟩ := FUEL_big (m.length + 2) (by omega)
    rw [hf, show f + (m.length + 2) = f + m.length + 2 by omega, seq_loop m.length m f (Nat.le_refl _) (by omega)]
    cases seqR m.length m with
    | none => rfl
    | some l' => exact s_ends 6 l' trim_id rfl

def notS (k : api_Pol) : api_Pol := if k.Op = 0 then idP else if k.Op = 1 then dropP else if k.Op = 4 then k.Kids.headD k else ⟨4, 0, 0, [k]⟩

theorem s_not {k : api_Pol} (h : k.Op = 4 → k.Kids ≠ []) : trim_not k = some (notS k) := by
  unfold trim_not notS
  by_cases c0 : k.Op = 0
  · simp [c0, trim_id, idP]
  · by_cases c1 : k.Op = 1
    · simp [c1, trim_drop, dropP]
    · by_cases c4 : k.Op = 4
      · have := h c4
        cases hk : k.Kids with
        | nil => exact (this hk).elim
        | cons x r => simp [c4, gat]
      · simp [c0, c1, c4]

mutual
noncomputable def trimS : api_Pol → api_Pol
  | ⟨o, f, n, l⟩ => if o = 7 then sumS (trimL l) else if o = 6 then seqS (trimL l) else if o = 4 then notS ((trimL l).headD dropP) else ⟨o, f, n, []⟩
noncomputable def trimL : List api_Pol → List api_Pol
  | [] => []
  | x :: l => trimS x :: trimL l
end

theorem trimL_map : ∀ l, trimL l = l.map trimS
  | [] => by rw [trimL]; rfl
  | x :: l => by rw [trimL, trimL_map l]; rfl

theorem trimS_eq (p : api_Pol) : trimS p = if p.Op = 7 then sumS (p.Kids.map trimS) else if p.Op = 6 then seqS (p.Kids.map trimS) else if p.Op = 4 then notS ((p.Kids.map trimS).headD dropP) else ⟨p.Op, p.F, p.N, []⟩ := by
  cases p; rw [trimS, trimL_map]

/-! sizes -/

theorem sub_size {l m : List api_Pol} (h : l.Sublist m) : psizeL l ≤ psizeL m := by
  induction h with
  | slnil => exact Nat.le_refl _
  | cons a _ ih => rw [psizeL]; omega
  | cons_cons a _ ih => rw [psizeL, psizeL]; omega

theorem sub_depth {l m : List api_Pol} (h : l.Sublist m) : pdepthL l ≤ pdepthL m := by
  induction h with
  | slnil => exact Nat.le_refl _
  | cons a _ ih => rw [pdepthL]; omega
  | cons_cons a _ ih => rw [pdepthL, pdepthL]; omega

theorem dedup_mem : ∀ (l acc : List api_Pol) (x : api_Pol), x ∈ dedup acc l ↔ x ∈ acc ∨ x ∈ l
  | [], acc, x => by simp [dedup]
  | y :: l, acc, x => by
    show x ∈ dedup (if y ∈ acc then acc else acc ++ [y]) l ↔ _
    rw [dedup_mem l]
    split
    · rename_i h
      constructor
      · rintro (h1 | h1)
        · exact .inl h1
        · exact .inr (by simp [h1])
      · rintro (h1 | h1)
        · exact .inl h1
        · rcases List.mem_cons.1 h1 with rfl | h1
          · exact .inl h
          · exact .inr h1
    · simp [or_assoc]

theorem dedup_nodup : ∀ (l acc : List api_Pol), acc.Nodup → (dedup acc l).Nodup
  | [], acc, h => h
  | y :: l, acc, h => by
    show (dedup (if y ∈ acc then acc else acc ++ [y]) l).Nodup
    refine dedup_nodup l _ ?_
    split
    · exact h
    · rename_i hy
      rw [List.nodup_append]
      refine ⟨h, by simp, fun a ha b hb => ?_⟩
      simp at hb; subst hb
      rintro rfl; exact hy ha

theorem dedup_depth : ∀ (l acc : List api_Pol), pdepthL (dedup acc l) ≤ max (pdepthL acc) (pdepthL l)
  | [], acc => by simp [dedup, pdepthL]
  | y :: l, acc => by
    show pdepthL (dedup (if y ∈ acc then acc else acc ++ [y]) l) ≤ _
    have := dedup_depth l (if y ∈ acc then acc else acc ++ [y])
    rw [pdepthL]
    split at this
    · rw [if_pos (by assumption)]; omega
    · rw [if_neg (by assumption)]; rw [pdepthL_app] at this; simp only [pdepthL] at this; omega

theorem oneOf_size (op : Int) (l : List api_Pol) : psize (oneOf op l) ≤ 1 + psizeL l := by
  match l with
  | [] => simp [oneOf, psize, psizeL]
  | [x] => simp [oneOf, psizeL]
  | x :: y :: l => simp [oneOf, psize]
theorem oneOf_depth (op : Int) (l : List api_Pol) : pdepth (oneOf op l) ≤ 1 + pdepthL l := by
  match l with
  | [] => simp [oneOf, pdepth, pdepthL]
  | [x] => simp [oneOf, pdepthL]
  | x :: y :: l => simp [oneOf, pdepth]

theorem sum_sd (l : List api_Pol) : psize (sumS l) ≤ 1 + psizeL l ∧ pdepth (sumS l) ≤ 1 + pdepthL l := by
  have h1 := flatS_size 7 l; have d1 := flatS_depth 7 l
  have h2 := filter_size (fun x => !(x.Op == 0)) (flatS 7 l); have d2 := filter_depth (fun x => !(x.Op == 0)) (flatS 7 l)
  have h3 := dedup_size ((flatS 7 l).filter fun x => !(x.Op == 0)) []; have d3 := dedup_depth ((flatS 7 l).filter fun x => !(x.Op == 0)) []
  simp only [psizeL, pdepthL] at h3 d3
  unfold sumS
  simp only
  split
  · simp [idP, psize, pdepth, psizeL, pdepthL]
  · have := oneOf_size 7 (dedup [] ((flatS 7 l).filter fun x => !(x.Op == 0)))
    have := oneOf_depth 7 (dedup [] ((flatS 7 l).filter fun x => !(x.Op == 0)))
    omega

theorem seq_sd (l : List api_Pol) : psize (seqS l) ≤ 1 + psizeL l ∧ pdepth (seqS l) ≤ 1 + pdepthL l := by
  have h1 := flatS_size 6 l; have d1 := flatS_depth 6 l
  have h2 := filter_size (fun x => !(x.Op == 1)) (flatS 6 l); have d2 := filter_depth (fun x => !(x.Op == 1)) (flatS 6 l)
  unfold seqS
  simp only
  split
  · simp [dropP, psize, pdepth, psizeL, pdepthL]
  · split
    · simp [dropP, psize, pdepth, psizeL, pdepthL]
    · rename_i l' hl'
      have hs := seqR_sub _ hl'
      have := sub_size hs; have := sub_depth hs
      have := oneOf_size 6 l'; have := oneOf_depth 6 l'
      omega

theorem not_sd (k : api_Pol) : psize (notS k) ≤ 1 + psize k ∧ pdepth (notS k) ≤ 1 + pdepth k := by
  unfold notS
  split
  · simp [idP, psize, pdepth, psizeL, pdepthL]
  · split
    · simp [dropP, psize, pdepth, psizeL, pdepthL]
    · split
      · have e1 := psize_eq k; have e2 := pdepth_eq k
        cases h : k.Kids with
        | nil => simp
        | cons x r =>
          rw [h] at e1 e2
          simp only [psizeL, pdepthL] at e1 e2
          simp only [List.headD]
          omega
      · simp [psize, pdepth, psizeL, pdepthL]

theorem map_sd {l : List api_Pol} (h : ∀ k ∈ l, psize (trimS k) ≤ psize k ∧ pdepth (trimS k) ≤ pdepth k) : psizeL (l.map trimS) ≤ psizeL l ∧ pdepthL (l.map trimS) ≤ pdepthL l := by
  induction l with
  | nil => simp
  | cons x l ih =>
    have h1 := h x (by simp)
    have h2 := ih fun k hk => h k (by simp [hk])
    simp only [List.map_cons, psizeL, pdepthL]
    omega

theorem trim_sd (p : api_Pol) : psize (trimS p) ≤ psize p ∧ pdepth (trimS p) ≤ pdepth p := by
  refine pol_ind (P := fun p => psize (trimS p) ≤ psize p ∧ pdepth (trimS p) ≤ pdepth p) (fun p ih => ?_) p
  have hm := map_sd ih
  rw [trimS_eq, psize_eq p, pdepth_eq p]
  split
  · have := sum_sd (p.Kids.map trimS); omega
  · split
    · have := seq_sd (p.Kids.map trimS); omega
    · split
      · cases hk : p.Kids with
        | nil => simp [notS, dropP, idP, psize, pdepth, psizeL, pdepthL]
        | cons x r =>
          rw [hk] at hm
          simp only [List.map_cons, psizeL, pdepthL, List.headD] at hm ⊢
          have := not_sd (trimS x)
          have := ih x (by rw [hk]; simp)
          omega
      · simp only [psize, pdepth, psizeL, pdepthL]; omega

end Go.AM
