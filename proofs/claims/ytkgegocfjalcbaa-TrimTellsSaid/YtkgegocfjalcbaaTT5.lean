import Derived.Test.YtkgegocfjalcbaaTT4
/-
  What is made by trimming: well formed, in normal form; trimmed again it is the same.
-/
set_option linter.unusedVariables false
set_option linter.unusedSimpArgs false
namespace Go.AM
open Go

inductive NF : api_Pol → Prop
  | leaf (o f n : Int) : o ≠ 4 → o ≠ 6 → o ≠ 7 → NF ⟨o, f, n, []⟩
  | not (k : api_Pol) : NF k → k.Op ≠ 0 → k.Op ≠ 1 → k.Op ≠ 4 → NF ⟨4, 0, 0, [k]⟩
  | sum (l : List api_Pol) : 2 ≤ l.length → (∀ k ∈ l, NF k) → (∀ k ∈ l, k.Op ≠ 7 ∧ k.Op ≠ 0) → l.Nodup → ((l.any fun x => x.Op == 1) && l.all ppred) = false → NF ⟨7, 0, 0, l⟩
  | seq (l : List api_Pol) : 2 ≤ l.length → (∀ k ∈ l, NF k) → (∀ k ∈ l, k.Op ≠ 6 ∧ k.Op ≠ 1 ∧ k.Op ≠ 0) → step2 l = none → NF ⟨6, 0, 0, l⟩

theorem NF.kids7 {p : api_Pol} (h : NF p) (ho : p.Op = 7) : (∀ k ∈ p.Kids, NF k ∧ k.Op ≠ 7 ∧ k.Op ≠ 0) ∧ p = ⟨7, 0, 0, p.Kids⟩ ∧ 2 ≤ p.Kids.length ∧ p.Kids.Nodup ∧ ((p.Kids.any fun x => x.Op == 1) && p.Kids.all ppred) = false := by
  cases h with
  | leaf o f n h1 h2 h3 => exact (h3 ho).elim
  | not k => simp at ho
  | sum l h1 h2 h3 h4 h5 => exact ⟨fun k hk => ⟨h2 k hk, h3 k hk⟩, rfl, h1, h4, h5⟩
  | seq l => simp at ho

theorem NF.kids6 {p : api_Pol} (h : NF p) (ho : p.Op = 6) : (∀ k ∈ p.Kids, NF k ∧ k.Op ≠ 6 ∧ k.Op ≠ 1 ∧ k.Op ≠ 0) ∧ p = ⟨6, 0, 0, p.Kids⟩ ∧ 2 ≤ p.Kids.length ∧ step2 p.Kids = none := by
  cases h with
  | leaf o f n h1 h2 h3 => exact (h2 ho).elim
  | not k => simp at ho
  | sum l => simp at ho
  | seq l h1 h2 h3 h4 => exact ⟨fun k hk => ⟨h2 k hk, h3 k hk⟩, rfl, h1, h4⟩

theorem NF.kids4 {p : api_Pol} (h : NF p) (ho : p.Op = 4) : ∃ k, p = ⟨4, 0, 0, [k]⟩ ∧ NF k ∧ k.Op ≠ 0 ∧ k.Op ≠ 1 ∧ k.Op ≠ 4 := by
  cases h with
  | leaf o f n h1 h2 h3 => exact (h1 ho).elim
  | not k h1 h2 h3 h4 => exact ⟨k, rfl, h1, h2, h3, h4⟩
  | sum l => simp at ho
  | seq l => simp at ho

theorem form_all {n : Int} {p : api_Pol} (h : pform n p = true) (ho : p.Op = 6 ∨ p.Op = 7) : (∀ k ∈ p.Kids, pform n k = true) ∧ 2 ≤ p.Kids.length ∧ p.F = 0 ∧ p.N = 0 := by
  rw [pform_eq, if_neg (by omega), if_neg (by omega), if_pos ho] at h
  simp only [Bool.and_eq_true, decide_eq_true_eq, List.all_eq_true] at h
  exact ⟨h.2, h.1⟩

theorem form_not {n : Int} {p : api_Pol} (h : pform n p = true) (ho : p.Op = 4) : ∃ k, p = ⟨4, 0, 0, [k]⟩ ∧ ppred k = true ∧ pform n k = true := by
  rw [pform_eq, if_neg (by omega), if_pos ho] at h
  simp only [Bool.and_eq_true, decide_eq_true_eq, List.all_eq_true] at h
  obtain ⟨⟨⟨h1, h2, h3⟩, h4⟩, h5⟩ := h
  obtain ⟨k, hk⟩ := List.length_eq_one_iff.1 h1
  refine ⟨k, ?_, h4 k (by simp [hk]), h5 k (by simp [hk])⟩
  cases p; simp_all

theorem form_leaf {n : Int} {p : api_Pol} (h : pform n p = true) (h4 : p.Op ≠ 4) (h6 : p.Op ≠ 6) (h7 : p.Op ≠ 7) : p.Kids = [] := by
  rw [pform_eq, if_neg (show ¬ p.Op = 4 from h4), if_neg (show ¬ (p.Op = 6 ∨ p.Op = 7) by omega)] at h
  split at h
  · simp only [decide_eq_true_eq] at h; exact List.length_eq_zero_iff.1 h.1
  · split at h
    · simp only [decide_eq_true_eq] at h; exact List.length_eq_zero_iff.1 h.1
    · split at h
      · simp only [decide_eq_true_eq] at h; exact List.length_eq_zero_iff.1 h.1
      · split at h
        · simp only [decide_eq_true_eq] at h; exact List.length_eq_zero_iff.1 h.1
        · cases h

theorem form_op {n : Int} {p : api_Pol} (h : pform n p = true) : 0 ≤ p.Op ∧ p.Op ≤ 7 := by
  rw [pform_eq] at h
  split at h
  · omega
  · split at h
    · omega
    · split at h
      · omega
      · split at h
        · omega
        · split at h
          · omega
          · split at h
            · omega
            · cases h

theorem form_unit {n : Int} {p : api_Pol} (h : pform n p = true) (ho : p.Op = 0 ∨ p.Op = 1) : p = ⟨p.Op, 0, 0, []⟩ := by
  rw [pform_eq, if_pos ho] at h
  simp only [decide_eq_true_eq] at h
  obtain ⟨h1, h2, h3⟩ := h
  have := List.length_eq_zero_iff.1 h1
  cases p; simp_all

theorem nf_id : NF idP := .leaf 1 0 0 (by decide) (by decide) (by decide)
theorem nf_drop : NF dropP := .leaf 0 0 0 (by decide) (by decide) (by decide)
theorem form_id (n : Int) : pform n idP = true := by rw [pform_eq]; simp [idP]
theorem form_drop (n : Int) : pform n dropP = true := by rw [pform_eq]; simp [dropP]
theorem pred_id : ppred idP = true := by rw [ppred_eq]; simp [idP]
theorem pred_drop : ppred dropP = true := by rw [ppred_eq]; simp [dropP]

/-- What is good of a kid. -/
def Good (n : Int) (k : api_Pol) : Prop := NF k ∧ pform n k = true

theorem flat_good {n op : Int} (ho : op = 6 ∨ op = 7) {l : List api_Pol} (h : ∀ k ∈ l, Good n k) : ∀ x ∈ flatS op l, Good n x ∧ x.Op ≠ op := by
  intro x hx
  obtain ⟨k, hk, hxk⟩ := List.mem_flatMap.1 hx
  replace hx := hxk
  clear hxk
  obtain ⟨h1, h2⟩ := h k hk
  split at hx
  · rename_i c
    have hf := (form_all h2 (c ▸ ho)).1 x hx
    rcases ho with rfl | rfl
    · have := (h1.kids6 c).1 x hx; exact ⟨⟨this.1, hf⟩, this.2.1⟩
    · have := (h1.kids7 c).1 x hx; exact ⟨⟨this.1, hf⟩, this.2.1⟩
  · rename_i c
    simp at hx; subst hx; exact ⟨⟨h1, h2⟩, c⟩

theorem flat_pred {op : Int} (ho : op = 6 ∨ op = 7) {l : List api_Pol} (h : ∀ k ∈ l, ppred k = true) : ∀ x ∈ flatS op l, ppred x = true := by
  intro x hx
  obtain ⟨k, hk, hx⟩ := List.mem_flatMap.1 hx
  have h1 := h k hk
  split at hx
  · rename_i c
    rw [ppred_eq, if_neg (by omega), if_pos (by omega)] at h1
    exact List.all_eq_true.1 h1 x hx
  · simp at hx; subst hx; exact h1

theorem pred_node {op : Int} (ho : op = 6 ∨ op = 7) {l : List api_Pol} (h : ∀ k ∈ l, ppred k = true) : ppred ⟨op, 0, 0, l⟩ = true := by
  rw [ppred_eq]
  show (if 0 ≤ op ∧ op ≤ 4 then true else if op = 6 ∨ op = 7 then l.all ppred else false) = true
  rw [if_neg (by omega), if_pos ho]
  exact List.all_eq_true.2 h

theorem form_node {n op : Int} (ho : op = 6 ∨ op = 7) {l : List api_Pol} (hl : 2 ≤ l.length) (h : ∀ k ∈ l, pform n k = true) : pform n ⟨op, 0, 0, l⟩ = true := by
  rw [pform_eq]
  show (if op = 0 ∨ op = 1 then _ else if op = 4 then _ else if op = 6 ∨ op = 7 then decide (2 ≤ l.length ∧ (0 : Int) = 0 ∧ (0 : Int) = 0) && l.all (pform n) else _) = true
  rw [if_neg (by omega), if_neg (by omega), if_pos ho]
  simp only [Bool.and_eq_true, decide_eq_true_eq, List.all_eq_true]
  exact ⟨⟨hl, trivial, trivial⟩, h⟩

theorem sum_good {n : Int} {l : List api_Pol} (h : ∀ k ∈ l, Good n k) : Good n (sumS l) ∧ ((∀ k ∈ l, ppred k = true) → ppred (sumS l) = true) := by
  have hf := flat_good (.inr rfl) h
  have hm : ∀ x ∈ dedup [] ((flatS 7 l).filter fun x => !(x.Op == 0)), Good n x ∧ x.Op ≠ 7 ∧ x.Op ≠ 0 := by
    intro x hx
    rw [dedup_mem] at hx
    rcases hx with hx | hx
    · cases hx
    · rw [List.mem_filter] at hx
      exact ⟨(hf x hx.1).1, (hf x hx.1).2, by simpa using hx.2⟩
  have hp : (∀ k ∈ l, ppred k = true) → ∀ x ∈ dedup [] ((flatS 7 l).filter fun x => !(x.Op == 0)), ppred x = true := by
    intro hl x hx
    rw [dedup_mem] at hx
    rcases hx with hx | hx
    · cases hx
    · rw [List.mem_filter] at hx; exact flat_pred (.inr rfl) hl x hx.1
  have hn : (dedup [] ((flatS 7 l).filter fun x => !(x.Op == 0))).Nodup := dedup_nodup _ [] (by simp)
  unfold sumS
  simp only
  generalize dedup [] ((flatS 7 l).filter fun x => !(x.Op == 0)) = m at *
  split
  · exact ⟨⟨nf_id, form_id n⟩, fun _ => pred_id⟩
  · rename_i hc
    match m, hm, hp, hn, hc with
    | [], _, _, _, _ => exact ⟨⟨nf_drop, form_drop n⟩, fun _ => pred_drop⟩
    | [x], hm, hp, _, _ => exact ⟨(hm x (by simp)).1, fun hl => hp hl x (by simp)⟩
    | x :: y :: r, hm, hp, hn, hc =>
      exact ⟨⟨.sum _ (by simp) (fun k hk => (hm k hk).1.1) (fun k hk => (hm k hk).2) hn (by simpa using hc), form_node (.inr rfl) (by simp) fun k hk => (hm k hk).1.2⟩, fun hl => pred_node (.inr rfl) (hp hl)⟩

theorem seq_good {n : Int} {l : List api_Pol} (h : ∀ k ∈ l, Good n k) : Good n (seqS l) ∧ ((∀ k ∈ l, ppred k = true) → ppred (seqS l) = true) := by
  have hf := flat_good (.inl rfl) h
  have hm : ∀ x ∈ (flatS 6 l).filter (fun x => !(x.Op == 1)), Good n x ∧ x.Op ≠ 6 ∧ x.Op ≠ 1 := by
    intro x hx
    rw [List.mem_filter] at hx
    exact ⟨(hf x hx.1).1, (hf x hx.1).2, by simpa using hx.2⟩
  have hp : (∀ k ∈ l, ppred k = true) → ∀ x ∈ (flatS 6 l).filter (fun x => !(x.Op == 1)), ppred x = true := by
    intro hl x hx
    rw [List.mem_filter] at hx; exact flat_pred (.inl rfl) hl x hx.1
  unfold seqS
  simp only
  generalize (flatS 6 l).filter (fun x => !(x.Op == 1)) = m at *
  split
  · exact ⟨⟨nf_drop, form_drop n⟩, fun _ => pred_drop⟩
  · rename_i hc
    have hd : ∀ x ∈ m, x.Op ≠ 0 := fun x hx hx0 => hc (List.any_eq_true.2 ⟨x, hx, by simpa using hx0⟩)
    split
    · exact ⟨⟨nf_drop, form_drop n⟩, fun _ => pred_drop⟩
    · rename_i l' hl'
      have hs := seqR_sub _ hl'
      have he := seqR_end _ (Nat.le_refl _) hl'
      match l', hs, he with
      | [], _, _ => exact ⟨⟨nf_id, form_id n⟩, fun _ => pred_id⟩
      | [x], hs, _ => exact ⟨(hm x (hs.subset (by simp))).1, fun hl => hp hl x (hs.subset (by simp))⟩
      | x :: y :: r, hs, he =>
        exact ⟨⟨.seq _ (by simp) (fun k hk => (hm k (hs.subset hk)).1.1) (fun k hk => ⟨(hm k (hs.subset hk)).2.1, (hm k (hs.subset hk)).2.2, hd k (hs.subset hk)⟩) he, form_node (.inl rfl) (by simp) fun k hk => (hm k (hs.subset hk)).1.2⟩, fun hl => pred_node (.inl rfl) fun k hk => hp hl k (hs.subset hk)⟩

theorem not_good {n : Int} {k : api_Pol} (h : Good n k) (hp : ppred k = true) : Good n (notS k) ∧ ppred (notS k) = true := by
  unfold notS
  split
  · exact ⟨⟨nf_id, form_id n⟩, pred_id⟩
  · split
    · exact ⟨⟨nf_drop, form_drop n⟩, pred_drop⟩
    · split
      · rename_i c
        obtain ⟨x, rfl, h1, _⟩ := h.1.kids4 c
        obtain ⟨y, hy, h2, h3⟩ := form_not h.2 rfl
        have : y = x := by simpa using hy.symm
        subst this
        exact ⟨⟨h1, h3⟩, h2⟩
      · rename_i c0 c1 c4
        refine ⟨⟨.not k h.1 c0 c1 c4, ?_⟩, by rw [ppred_eq]; simp⟩
        rw [pform_eq]
        simp [hp, h.2]

theorem trim_good {n : Int} (p : api_Pol) : pform n p = true → Good n (trimS p) ∧ (ppred p = true → ppred (trimS p) = true) := by
  refine pol_ind (P := fun p => pform n p = true → Good n (trimS p) ∧ (ppred p = true → ppred (trimS p) = true)) (fun p ih h => ?_) p
  rw [trimS_eq]
  by_cases h7 : p.Op = 7
  · rw [if_pos h7]
    obtain ⟨hk, _⟩ := form_all h (.inr h7)
    have hs := sum_good (n := n) (l := p.Kids.map trimS) fun k hk' => by
      obtain ⟨x, hx, rfl⟩ := List.mem_map.1 hk'
      exact (ih x hx (hk x hx)).1
    refine ⟨hs.1, fun hp => hs.2 fun k hk' => ?_⟩
    obtain ⟨x, hx, rfl⟩ := List.mem_map.1 hk'
    rw [ppred_eq, if_neg (by omega), if_pos (.inr h7)] at hp
    exact (ih x hx (hk x hx)).2 (List.all_eq_true.1 hp x hx)
  · rw [if_neg h7]
    by_cases h6 : p.Op = 6
    · rw [if_pos h6]
      obtain ⟨hk, _⟩ := form_all h (.inl h6)
      have hs := seq_good (n := n) (l := p.Kids.map trimS) fun k hk' => by
        obtain ⟨x, hx, rfl⟩ := List.mem_map.1 hk'
        exact (ih x hx (hk x hx)).1
      refine ⟨hs.1, fun hp => hs.2 fun k hk' => ?_⟩
      obtain ⟨x, hx, rfl⟩ := List.mem_map.1 hk'
      rw [ppred_eq, if_neg (by omega), if_pos (.inl h6)] at hp
      exact (ih x hx (hk x hx)).2 (List.all_eq_true.1 hp x hx)
    · rw [if_neg h6]
      by_cases h4 : p.Op = 4
      · rw [if_pos h4]
        obtain ⟨k, rfl, hp, hf⟩ := form_not h h4
        have := ih k (by simp) hf
        have := not_good this.1 (this.2 hp)
        exact ⟨this.1, fun _ => this.2⟩
      · rw [if_neg h4]
        have hk := form_leaf h h4 h6 h7
        refine ⟨⟨.leaf _ _ _ h4 h6 h7, ?_⟩, fun hp => ?_⟩
        · have : p = ⟨p.Op, p.F, p.N, []⟩ := by cases p; simp_all
          rw [← this]; exact h
        · have : p = ⟨p.Op, p.F, p.N, []⟩ := by cases p; simp_all
          rw [← this]; exact hp

/-! trimmed again -/

theorem flat_self {op : Int} : ∀ {l : List api_Pol}, (∀ x ∈ l, x.Op ≠ op) → flatS op l = l
  | [], _ => rfl
  | x :: l, h => by rw [flatS_cons, if_neg (h x (by simp)), flat_self fun y hy => h y (by simp [hy])]; rfl

theorem dedup_self : ∀ (l acc : List api_Pol), (acc ++ l).Nodup → dedup acc l = acc ++ l
  | [], acc, _ => by simp [dedup]
  | x :: l, acc, h => by
    show dedup (if x ∈ acc then acc else acc ++ [x]) l = _
    have hx : x ∉ acc := by
      intro hx
      rw [List.nodup_append] at h
      exact h.2.2 x hx x (by simp) rfl
    rw [if_neg hx, dedup_self l (acc ++ [x]) (by simpa using h)]
    simp

theorem seqR_self : ∀ (n : Nat) {l : List api_Pol}, step2 l = none → seqR n l = some l
  | 0, l, _ => rfl
  | n + 1, l, h => by rw [seqR, h]

theorem oneOf_two (op : Int) {l : List api_Pol} (h : 2 ≤ l.length) : oneOf op l = ⟨op, 0, 0, l⟩ := by
  match l, h with
  | x :: y :: r, _ => rfl

theorem sum_nf {l : List api_Pol} (h : NF ⟨7, 0, 0, l⟩) : sumS l = ⟨7, 0, 0, l⟩ := by
  obtain ⟨h1, _, h2, h3, h4⟩ := h.kids7 rfl
  simp only at h1 h2 h3 h4
  unfold sumS
  rw [flat_self fun x hx => (h1 x hx).2.1, filter_none _ fun x hx => by simpa using (h1 x hx).2.2, dedup_self l [] (by simpa using h3)]
  simp only [List.nil_append]
  rw [h4, if_neg (by simp), oneOf_two 7 h2]

theorem seq_nf {l : List api_Pol} (h : NF ⟨6, 0, 0, l⟩) : seqS l = ⟨6, 0, 0, l⟩ := by
  obtain ⟨h1, _, h2, h3⟩ := h.kids6 rfl
  simp only at h1 h2 h3
  unfold seqS
  rw [flat_self fun x hx => (h1 x hx).2.1, filter_none _ fun x hx => by simpa using (h1 x hx).2.2.1]
  simp only
  rw [seqR_self _ h3, if_neg]
  · exact oneOf_two 6 h2
  intro hc
  obtain ⟨x, hx, hx0⟩ := List.any_eq_true.1 hc
  exact (h1 x hx).2.2.2 (by simpa using hx0)

theorem trim_nf {n : Int} (p : api_Pol) : Good n p → trimS p = p := by
  refine pol_ind (P := fun p => Good n p → trimS p = p) (fun p ih h => ?_) p
  rw [trimS_eq]
  by_cases h7 : p.Op = 7
  · rw [if_pos h7]
    obtain ⟨h1, h2, _⟩ := h.1.kids7 h7
    obtain ⟨hk, _⟩ := form_all h.2 (.inr h7)
    have : p.Kids.map trimS = p.Kids := by
      conv => rhs; rw [← List.map_id p.Kids]
      exact List.map_congr_left fun x hx => ih x hx ⟨(h1 x hx).1, hk x hx⟩
    rw [this]
    exact (sum_nf (h2 ▸ h.1)).trans h2.symm
  · rw [if_neg h7]
    by_cases h6 : p.Op = 6
    · rw [if_pos h6]
      obtain ⟨h1, h2, _⟩ := h.1.kids6 h6
      obtain ⟨hk, _⟩ := form_all h.2 (.inl h6)
      have : p.Kids.map trimS = p.Kids := by
        conv => rhs; rw [← List.map_id p.Kids]
        exact List.map_congr_left fun x hx => ih x hx ⟨(h1 x hx).1, hk x hx⟩
      rw [this]
      exact (seq_nf (h2 ▸ h.1)).trans h2.symm
    · rw [if_neg h6]
      by_cases h4 : p.Op = 4
      · rw [if_pos h4]
        obtain ⟨k, rfl, h1, h2, h3, h5⟩ := h.1.kids4 h4
        obtain ⟨y, hy, _, hf⟩ := form_not h.2 rfl
        have : y = k := by simpa using hy.symm
        subst this
        have := ih y (by simp) ⟨h1, hf⟩
        simp only [List.map_cons, List.map_nil, List.headD, this]
        unfold notS
        rw [if_neg h2, if_neg h3, if_neg h5]
      · rw [if_neg h4]
        have hk := form_leaf h.2 h4 h6 h7
        cases p; simp_all

/-! the program's -/

theorem trimmed_f {n : Int} : ∀ k p, pdepth p ≤ k → psize p ≤ BIG → pform n p = true → trim_trimmed_f k p = some (trimS p)
  | 0, p, h, _, _ => by have := pdepth_pos p; omega
  | k + 1, p, h, hb, hf => by
    show trim_trimmed_s (trim_trimmed_f k) p = _
    have hp := pdepth_eq p; have hs := psize_eq p
    have hB := hb
    unfold BIG at hB
    have hform : ∀ x ∈ p.Kids, pform n x = true := by
      by_cases h67 : p.Op = 6 ∨ p.Op = 7
      · exact (form_all hf h67).1
      · by_cases h4 : p.Op = 4
        · obtain ⟨y, rfl, _, hy⟩ := form_not hf h4
          intro x hx; simp at hx; subst hx; exact hy
        · rw [form_leaf hf h4 (by omega) (by omega)]; intro x hx; cases hx
    obtain ⟨s', e, hP⟩ := forO_list (trim_trimmed_b1 p (trim_trimmed_f k)) p.Kids (fun l s => s = l.map trimS) [] (by simp) (fun i x s hx hP => by
      have hm := List.mem_of_getElem? hx
      have h1 := pdepthL_mem hm
      refine ⟨(p.Kids.take i ++ [x]).map trimS, ?_, rfl⟩
      simp only [trim_trimmed_b1, gat_nat, hx, Option.bind_some]
      rw [trimmed_f k x (by omega) (kid_big hm hb) (hform x hm)]
      simp only [Option.bind_some]
      have := len_psizeL p.Kids
      rw [hP, gapp_some (by simp; omega)]
      simp)
    have hms := map_sd (l := p.Kids) fun x hx => trim_sd x
    simp only [trim_trimmed_s, e, Option.bind_some]
    rw [hP, trimS_eq]
    by_cases h7 : p.Op = 7
    · rw [show (p.Op == 7) = true by simpa using h7, if_pos rfl, if_pos h7, s_sum (by unfold BIG; omega)]; rfl
    · rw [show (p.Op == 7) = false by simpa using h7, if_neg (by simp), if_neg h7]
      by_cases h6 : p.Op = 6
      · rw [show (p.Op == 6) = true by simpa using h6, if_pos rfl, if_pos h6, s_seq (by unfold BIG; omega)]; rfl
      · rw [show (p.Op == 6) = false by simpa using h6, if_neg (by simp), if_neg h6]
        by_cases h4 : p.Op = 4
        · rw [show (p.Op == 4) = true by simpa using h4, if_pos rfl, if_pos h4]
          obtain ⟨y, rfl, _, hy⟩ := form_not hf h4
          simp only [List.map_cons, List.map_nil, List.headD]
          have hg := (trim_good y hy).1
          rw [show gat [trimS y] 0 = some (trimS y) from rfl, Option.bind_some, s_not fun h4' => by
            obtain ⟨z, hz, _⟩ := hg.1.kids4 h4'
            rw [hz]; simp]
          rfl
        · rw [show (p.Op == 4) = false by simpa using h4, if_neg (by simp), if_neg h4]

noncomputable def trimP (p : api_Pol) : api_Pol := if pright p then trimS p else p

theorem s_trim {p : api_Pol} (h : psize p ≤ BIG) : trim_Trim p = some (trimP p) := by
  unfold trim_Trim trimP pright
  rw [gmk4, Option.bind_some, s_check h]
  simp only [Option.bind_some]
  by_cases c : psize p ≤ 300 ∧ pdepth p ≤ 20
  · cases hf : pform 4 p with
    | true =>
      have : trim_trimmed p = some (trimS p) := trimmed_f _ _ (fuel_ge h) h hf
      simp [c, this]
    | false => simp [c]
  · simp [c]

theorem right_big {p : api_Pol} (h : pright p = true) : psize p ≤ 300 ∧ pdepth p ≤ 20 ∧ pform 4 p = true := by
  unfold pright at h
  simp only [Bool.and_eq_true, decide_eq_true_eq] at h
  exact ⟨h.1.1, h.1.2, h.2⟩

theorem trimP_size (p : api_Pol) : psize (trimP p) ≤ psize p ∧ pdepth (trimP p) ≤ pdepth p := by
  unfold trimP
  split
  · exact trim_sd p
  · exact ⟨Nat.le_refl _, Nat.le_refl _⟩

theorem trimP_right {p : api_Pol} (h : pright p = true) : pright (trimP p) = true ∧ Good 4 (trimP p) ∧ trimP (trimP p) = trimP p := by
  obtain ⟨h1, h2, h3⟩ := right_big h
  have hg := (trim_good p h3).1
  have hs := trim_sd p
  have e : trimP p = trimS p := by unfold trimP; rw [h]; rfl
  have hr : pright (trimS p) = true := by
    unfold pright
    simp only [Bool.and_eq_true, decide_eq_true_eq]
    exact ⟨⟨by omega, by omega⟩, hg.2⟩
  refine ⟨by rw [e]; exact hr, by rw [e]; exact hg, ?_⟩
  rw [e]
  unfold trimP
  rw [hr]
  exact trim_nf _ hg

theorem s_trimmed {p : api_Pol} (h : psize p ≤ BIG) : trim_Trimmed p = some (decide (p = trimP p)) := by
  unfold trim_Trimmed
  rw [s_trim h, Option.bind_some, s_same _ h]
  rfl

end Go.AM
