import Derived.Test.YtkgegocfjalcbaaTT10
/-
  Rule by rule, till none does anything: what that comes to.
-/
set_option linter.unusedVariables false
set_option linter.unusedSimpArgs false
namespace Go.AM
open Go

theorem runS_none {α β : Type} (step : List α → α → List α → Option β) : ∀ (suf pre : List α), (∀ a y b, suf = a ++ y :: b → step (pre ++ a) y b = none) → runS step pre suf = none
  | [], pre, _ => rfl
  | x :: r, pre, h => by
    simp only [runS]
    have h0 := h [] x r rfl
    rw [List.append_nil] at h0
    rw [h0]
    exact runS_none step r (pre ++ [x]) fun a y b e => by
      have := h (x :: a) y b (by rw [e]; rfl)
      simpa using this

theorem runS_hit {α β : Type} (step : List α → α → List α → Option β) (x : α) (r : List α) {v : β} : ∀ (l pre : List α), (∀ a y b, l = a ++ y :: b → step (pre ++ a) y (b ++ x :: r) = none) → step (pre ++ l) x r = some v → runS step pre (l ++ x :: r) = some v
  | [], pre, _, hv => by
    simp only [List.nil_append, runS]
    rw [List.append_nil] at hv
    rw [hv]
  | y :: l, pre, h, hv => by
    simp only [List.cons_append, runS]
    have h0 := h [] y l rfl
    rw [List.append_nil] at h0
    rw [h0]
    exact runS_hit step x r l (pre ++ [y]) (fun a z b e => by
      have := h (y :: a) z b (by rw [e]; rfl)
      simpa using this) (by simpa using hv)

def mes (p : api_Pol) : Nat := 2 * psize p + if p.Op ≥ 6 then 1 else 0
def Ok1 (p : api_Pol) : Prop := psize p ≤ BIG ∧ (p.Op = 4 → ∃ k, p.Kids = [k] ∧ 0 ≤ k.Op ∧ (k.Op = 4 → k.Kids ≠ []))

inductive Ways : api_Pol → api_Pol → Prop
  | refl (p : api_Pol) : Ways p p
  | step {p p' q : api_Pol} : Ok1 p → onceS p = some p' → mes p' < mes p → Ways p' q → Ways p q

theorem Ways.trans {p q r : api_Pol} (h : Ways p q) (k : Ways q r) : Ways p r := by
  induction h with
  | refl => exact k
  | step h1 h2 h3 _ ih => exact .step h1 h2 h3 (ih k)

theorem Ways.one {p q : api_Pol} (h1 : Ok1 p) (h2 : onceS p = some q) (h3 : mes q < mes p) : Ways p q := .step h1 h2 h3 (.refl q)

theorem goes_loop {p q : api_Pol} (h : Ways p q) (hq : onceS q = none) (ok : Ok1 q) : ∀ m, whR ref28_trim_b2 (m + mes p + 1) p = some (.ret q) := by
  induction h with
  | refl p =>
    intro m
    rw [whR_step]
    simp only [ref28_trim_b2, s_once ok.1 ok.2, hq, Option.bind_some]
    rfl
  | step h1 h2 h3 _ ih =>
    rename_i p p' q _
    intro m
    have := ih hq ok (m + (mes p - mes p' - 1))
    rw [show m + mes p + 1 = (m + (mes p - mes p' - 1) + mes p' + 1) + 1 by omega, whR_step]
    simp only [ref28_trim_b2, s_once h1.1 h1.2, h2, Option.bind_some]
    exact this

theorem ok67 {op : Int} (ho : op = 6 ∨ op = 7) {l : List api_Pol} (h : 1 + psizeL l ≤ BIG) : Ok1 ⟨op, 0, 0, l⟩ := ⟨by rw [psize]; exact h, fun h4 => by simp only at h4; omega⟩

theorem mes67 {op : Int} (ho : op = 6 ∨ op = 7) (l : List api_Pol) : mes ⟨op, 0, 0, l⟩ = 2 * (1 + psizeL l) + 1 := by
  unfold mes
  rw [psize]
  rw [if_pos (by show op ≥ 6; omega)]

theorem once67 {op : Int} (ho : op = 6 ∨ op = 7) (l : List api_Pol) : onceS ⟨op, 0, 0, l⟩ = match f1 ⟨op, 0, 0, l⟩ with
      | some q => some q
      | none => match f2 ⟨op, 0, 0, l⟩ with
        | some q => some q
        | none => match (if op = 6 then f3 ⟨op, 0, 0, l⟩ else f4 ⟨op, 0, 0, l⟩) with
          | some q => some q
          | none => match (if op = 6 then f5 ⟨op, 0, 0, l⟩ else f6 ⟨op, 0, 0, l⟩) with
            | some q => some q
            | none => f7 ⟨op, 0, 0, l⟩ := by
  unfold onceS
  rw [if_pos (show (⟨op, 0, 0, l⟩ : api_Pol).Op = 6 ∨ (⟨op, 0, 0, l⟩ : api_Pol).Op = 7 from ho)]
  rfl

theorem f1_none {op : Int} {l : List api_Pol} (h : ∀ k ∈ l, k.Op ≠ op) : f1 ⟨op, 0, 0, l⟩ = none := by
  unfold f1
  refine runS_none _ _ _ fun a y b e => ?_
  rw [if_neg]
  exact h y (by simp only at e; rw [e]; simp)

def unit (op : Int) : Int := if op = 7 then 0 else 1

theorem f2_none {op : Int} (ho : op = 6 ∨ op = 7) {l : List api_Pol} (h : ∀ k ∈ l, k.Op ≠ unit op) : f2 ⟨op, 0, 0, l⟩ = none := by
  unfold f2
  refine runS_none _ _ _ fun a y b e => ?_
  have := h y (by simp only at e; rw [e]; simp)
  rw [if_neg]
  unfold unit at this
  simp only
  rintro (⟨h7, h0⟩ | ⟨h6, h1⟩)
  · rw [if_pos h7] at this; exact this h0
  · rw [if_neg (by omega)] at this; exact this h1

theorem g_flat {n op : Int} (ho : op = 6 ∨ op = 7) : ∀ (suf pre : List api_Pol), (∀ k ∈ pre, k.Op ≠ op) → (∀ k ∈ suf, Good n k) → 1 + psizeL (pre ++ suf) ≤ BIG → Ways ⟨op, 0, 0, pre ++ suf⟩ ⟨op, 0, 0, pre ++ flatS op suf⟩
  | [], pre, _, _, _ => by simp only [flatS, List.flatMap_nil]; exact .refl _
  | x :: r, pre, h1, h2, h3 => by
    have e3 : psizeL (pre ++ x :: r) = psizeL pre + (psize x + psizeL r) := by rw [psizeL_app, psizeL]
    rw [flatS_cons]
    by_cases c : x.Op = op
    · rw [if_pos c]
      have hk : ∀ k ∈ x.Kids, k.Op ≠ op := fun k hk => by
        have := (h2 x (by simp)).1
        rcases ho with rfl | rfl
        · exact ((this.kids6 c).1 k hk).2.1
        · exact ((this.kids7 c).1 k hk).2.1
      have e4 : psizeL (pre ++ x.Kids ++ r) + 1 = psizeL (pre ++ x :: r) := by
        rw [psizeL_app, psizeL_app, e3, psize_eq x]; omega
      refine .step (ok67 ho h3) (p' := ⟨op, 0, 0, pre ++ x.Kids ++ r⟩) ?_ (by rw [mes67 ho, mes67 ho]; omega) ?_
      · rw [once67 ho]
        have : f1 ⟨op, 0, 0, pre ++ x :: r⟩ = some ⟨op, 0, 0, pre ++ x.Kids ++ r⟩ := by
          unfold f1
          refine runS_hit _ x r pre [] (fun a y b e => ?_) ?_
          · rw [if_neg]
            exact h1 y (by rw [e]; simp)
          · rw [if_pos c]; rfl
        rw [this]
      · have := g_flat ho r (pre ++ x.Kids) (fun k hk' => by
          rcases List.mem_append.1 hk' with h | h
          · exact h1 k h
          · exact hk k h) (fun k hk' => h2 k (by simp [hk'])) (by omega)
        simpa using this
    · rw [if_neg c]
      have := g_flat ho r (pre ++ [x]) (fun k hk' => by
          rcases List.mem_append.1 hk' with h | h
          · exact h1 k h
          · simp at h; subst h; exact c) (fun k hk' => h2 k (by simp [hk'])) (by simpa using h3)
      simpa using this

theorem g_unit {op : Int} (ho : op = 6 ∨ op = 7) : ∀ (suf pre : List api_Pol), (∀ k ∈ pre, k.Op ≠ op ∧ k.Op ≠ unit op) → (∀ k ∈ suf, k.Op ≠ op) → 1 + psizeL (pre ++ suf) ≤ BIG → Ways ⟨op, 0, 0, pre ++ suf⟩ ⟨op, 0, 0, pre ++ suf.filter fun x => !(x.Op == unit op)⟩
  | [], pre, _, _, _ => by simp only [List.filter_nil]; exact .refl _
  | x :: r, pre, h1, h2, h3 => by
    have e3 : psizeL (pre ++ x :: r) = psizeL pre + (psize x + psizeL r) := by rw [psizeL_app, psizeL]
    rw [List.filter_cons]
    by_cases c : x.Op = unit op
    · rw [if_neg (by simp [c])]
      have e4 : psizeL (pre ++ r) + psize x = psizeL (pre ++ x :: r) := by rw [psizeL_app, e3]; omega
      have hx := psize_pos x
      refine .step (ok67 ho h3) (p' := ⟨op, 0, 0, pre ++ r⟩) ?_ (by rw [mes67 ho, mes67 ho]; omega) ?_
      · rw [once67 ho, f1_none fun k hk => by
          rcases List.mem_append.1 hk with h | h
          · exact (h1 k h).1
          · exact h2 k h]
        have : f2 ⟨op, 0, 0, pre ++ x :: r⟩ = some ⟨op, 0, 0, pre ++ r⟩ := by
          unfold f2
          refine runS_hit _ x r pre [] (fun a y b e => ?_) ?_
          · have hy := (h1 y (by rw [e]; simp)).2
            rw [if_neg]
            unfold unit at hy
            simp only
            rintro (⟨h7, h0⟩ | ⟨h6, h1⟩)
            · rw [if_pos h7] at hy; exact hy h0
            · rw [if_neg (by omega)] at hy; exact hy h1
          · rw [if_pos]
            · rfl
            · unfold unit at c
              rcases ho with rfl | rfl
              · exact .inr ⟨rfl, c⟩
              · exact .inl ⟨rfl, c⟩
        rw [this]
      · exact g_unit ho r pre h1 (fun k hk => h2 k (by simp [hk])) (by omega)
    · rw [if_pos (by simpa using c)]
      have := g_unit ho r (pre ++ [x]) (fun k hk' => by
          rcases List.mem_append.1 hk' with h | h
          · exact h1 k h
          · simp at h; subst h; exact ⟨h2 k (by simp), c⟩) (fun k hk' => h2 k (by simp [hk'])) (by simpa using h3)
      simpa using this

theorem f4_none {l : List api_Pol} (h : l.Nodup) : f4 ⟨7, 0, 0, l⟩ = none := by
  unfold f4
  refine runS_none _ _ _ fun a y b e => ?_
  rw [if_neg]
  simp only at e
  rw [e, List.nodup_append] at h
  intro hy
  exact h.2.2 y (by simpa using hy) y (by simp) rfl

theorem g_dedup : ∀ (suf pre : List api_Pol), pre.Nodup → (∀ k ∈ pre ++ suf, k.Op ≠ 7 ∧ k.Op ≠ 0) → 1 + psizeL (pre ++ suf) ≤ BIG → Ways ⟨7, 0, 0, pre ++ suf⟩ ⟨7, 0, 0, dedup pre suf⟩
  | [], pre, _, _, _ => by rw [List.append_nil]; exact .refl _
  | x :: r, pre, h1, h2, h3 => by
    have e3 : psizeL (pre ++ x :: r) = psizeL pre + (psize x + psizeL r) := by rw [psizeL_app, psizeL]
    show Ways _ ⟨7, 0, 0, dedup (if x ∈ pre then pre else pre ++ [x]) r⟩
    by_cases c : x ∈ pre
    · rw [if_pos c]
      have e4 : psizeL (pre ++ r) + psize x = psizeL (pre ++ x :: r) := by rw [psizeL_app, e3]; omega
      have hx := psize_pos x
      refine .step (ok67 (.inr rfl) h3) (p' := ⟨7, 0, 0, pre ++ r⟩) ?_ (by rw [mes67 (.inr rfl), mes67 (.inr rfl)]; omega) ?_
      · rw [once67 (.inr rfl), f1_none fun k hk => (h2 k hk).1, f2_none (.inr rfl) fun k hk => (h2 k hk).2]
        have : f4 ⟨7, 0, 0, pre ++ x :: r⟩ = some ⟨7, 0, 0, pre ++ r⟩ := by
          unfold f4
          refine runS_hit _ x r pre [] (fun a y b e => ?_) ?_
          · rw [if_neg]
            rw [e, List.nodup_append] at h1
            intro hy
            exact h1.2.2 y (by simpa using hy) y (by simp) rfl
          · rw [if_pos (by simpa using c)]; rfl
        rw [if_neg (by decide), this]
      · exact g_dedup r pre h1 (fun k hk => h2 k (by
          rcases List.mem_append.1 hk with h | h
          · simp [h]
          · simp [h])) (by omega)
    · rw [if_neg c]
      have := g_dedup r (pre ++ [x]) (by
        rw [List.nodup_append]
        refine ⟨h1, by simp, fun a ha b hb => ?_⟩
        simp at hb; subst hb
        rintro rfl; exact c ha) (fun k hk => h2 k (by simpa using hk)) (by simpa using h3)
      simpa using this

theorem drop_kid {l : List api_Pol} {x : api_Pol} (h : x ∈ l) : psize dropP ≤ psizeL l := by
  have := psizeL_mem h; have := psize_pos x
  have : psize dropP = 1 := by simp [dropP, psize, psizeL]
  omega

theorem mes_unit {p : api_Pol} (h : p = idP ∨ p = dropP) : mes p = 2 := by rcases h with rfl | rfl <;> simp [mes, idP, dropP, psize, psizeL]

theorem mes_le (p : api_Pol) : mes p ≤ 2 * psize p + 1 := by unfold mes; split <;> omega

theorem g_ends {n op : Int} (ho : op = 6 ∨ op = 7) {l : List api_Pol} (h1 : ∀ k ∈ l, Good n k ∧ k.Op ≠ op ∧ k.Op ≠ unit op) (h3 : op = 6 → ∀ k ∈ l, k.Op ≠ 0) (h4 : op = 7 → l.Nodup) (h5 : op = 6 → step2 l = none) (h6 : op = 7 → ((l.any fun x => x.Op == 1) && l.all ppred) = false) (hb : 1 + psizeL l ≤ BIG) : Ways ⟨op, 0, 0, l⟩ (oneOf op l) := by
  have hf1 := f1_none (op := op) (l := l) fun k hk => (h1 k hk).2.1
  have hf2 := f2_none ho (l := l) fun k hk => (h1 k hk).2.2
  have hf34 : (if op = 6 then f3 ⟨op, 0, 0, l⟩ else f4 ⟨op, 0, 0, l⟩) = none := by
    rcases ho with rfl | rfl
    · rw [if_pos rfl]; unfold f3
      rw [if_neg]
      intro hc
      obtain ⟨x, hx, hx0⟩ := List.any_eq_true.1 hc
      exact h3 rfl x hx (by simpa using hx0)
    · rw [if_neg (by decide)]; exact f4_none (h4 rfl)
  have hf56 : (if op = 6 then f5 ⟨op, 0, 0, l⟩ else f6 ⟨op, 0, 0, l⟩) = none := by
    rcases ho with rfl | rfl
    · rw [if_pos rfl]; unfold f5
      simp only [h5 rfl, Option.map_none]
    · rw [if_neg (by decide)]; unfold f6
      rw [if_neg]
      have := h6 rfl
      rw [Bool.and_comm] at this
      simp only [this]; simp
  have hon : onceS ⟨op, 0, 0, l⟩ = f7 ⟨op, 0, 0, l⟩ := by rw [once67 ho, hf1, hf2, hf34]; simp only [hf56]
  match l, hon, hb with
  | [], hon, hb =>
    refine .one (ok67 ho hb) (hon.trans rfl) ?_
    rw [mes67 ho]
    unfold mes
    rw [if_neg (by show ¬ 7 - op ≥ 6; omega)]
    simp [psize, psizeL, oneOf]
  | [x], hon, hb =>
    refine .one (ok67 ho hb) (hon.trans rfl) ?_
    rw [mes67 ho]
    have := mes_le x
    simp only [oneOf, psizeL]
    omega
  | x :: y :: r, hon, hb => exact .refl _

theorem g_sum {n : Int} {l : List api_Pol} (h : ∀ k ∈ l, Good n k) (hb : 1 + psizeL l ≤ BIG) : Ways ⟨7, 0, 0, l⟩ (sumS l) := by
  have s1 := g_flat (n := n) (.inr rfl) l [] (by simp) h (by simpa using hb)
  have hf := flat_good (.inr rfl) h
  have z1 := flatS_size 7 l
  have s2 := g_unit (.inr rfl) (flatS 7 l) [] (by simp) (fun k hk => (hf k hk).2) (by simp; omega)
  have z2 := filter_size (fun x => !(x.Op == unit 7)) (flatS 7 l)
  have hf2 : ∀ k ∈ (flatS 7 l).filter (fun x => !(x.Op == unit 7)), Good n k ∧ k.Op ≠ 7 ∧ k.Op ≠ 0 := fun k hk => by
    rw [List.mem_filter] at hk
    exact ⟨(hf k hk.1).1, (hf k hk.1).2, by simpa [unit] using hk.2⟩
  have s3 := g_dedup ((flatS 7 l).filter fun x => !(x.Op == unit 7)) [] (by simp) (fun k hk => (hf2 k (by simpa using hk)).2) (by simp; omega)
  simp only [List.nil_append] at s1 s2 s3
  refine (s1.trans s2).trans (s3.trans ?_)
  simp only [show unit 7 = 0 from rfl] at s2 s3 z2 hf2 ⊢
  have z3 := dedup_size ((flatS 7 l).filter fun x => !(x.Op == 0)) []
  simp only [psizeL] at z3
  have hn : (dedup [] ((flatS 7 l).filter fun x => !(x.Op == 0))).Nodup := dedup_nodup _ [] (by simp)
  have hf3 : ∀ k ∈ dedup [] ((flatS 7 l).filter fun x => !(x.Op == 0)), Good n k ∧ k.Op ≠ 7 ∧ k.Op ≠ 0 := fun k hk => by
    rw [dedup_mem] at hk
    rcases hk with hk | hk
    · cases hk
    · exact hf2 k hk
  unfold sumS
  simp only
  generalize dedup [] ((flatS 7 l).filter fun x => !(x.Op == 0)) = m at *
  by_cases c : ((m.any fun x => x.Op == 1) && m.all ppred) = true
  · rw [if_pos c]
    have hne : ∃ x, x ∈ m := by
      simp only [Bool.and_eq_true, List.any_eq_true] at c
      obtain ⟨⟨x, hx, _⟩, _⟩ := c
      exact ⟨x, hx⟩
    obtain ⟨x, hx⟩ := hne
    refine .one (ok67 (.inr rfl) (by omega)) ?_ (by rw [mes67 (.inr rfl), mes_unit (.inl rfl)]; omega)
    rw [once67 (.inr rfl), f1_none fun k hk => (hf3 k hk).2.1, f2_none (.inr rfl) fun k hk => (hf3 k hk).2.2, if_neg (by decide), f4_none hn, if_neg (by decide)]
    have : f6 ⟨7, 0, 0, m⟩ = some idP := by
      unfold f6
      rw [if_pos]
      rw [Bool.and_comm]; exact c
    simp only [this]
  · rw [if_neg c]
    exact g_ends (.inr rfl) hf3 (fun h => absurd h (by decide)) (fun _ => hn) (fun h => absurd h (by decide)) (fun _ => by simpa using c) (by omega)

theorem g_seqR {n : Int} : ∀ (k : Nat) (l : List api_Pol), l.length ≤ k → (∀ k ∈ l, Good n k ∧ k.Op ≠ 6 ∧ k.Op ≠ 1 ∧ k.Op ≠ 0) → 1 + psizeL l ≤ BIG → match seqR k l with
    | none => Ways ⟨6, 0, 0, l⟩ dropP
    | some l' => Ways ⟨6, 0, 0, l⟩ ⟨6, 0, 0, l'⟩
  | 0, l, _, _, _ => .refl _
  | k + 1, l, hl, hg, hb => by
    rw [seqR]
    have hon : f1 ⟨6, 0, 0, l⟩ = none ∧ f2 ⟨6, 0, 0, l⟩ = none ∧ f3 ⟨6, 0, 0, l⟩ = none := by
      refine ⟨f1_none fun k hk => (hg k hk).2.1, f2_none (.inl rfl) fun k hk => (hg k hk).2.2.1, ?_⟩
      unfold f3
      rw [if_neg]
      intro hc
      obtain ⟨x, hx, hx0⟩ := List.any_eq_true.1 hc
      exact (hg x hx).2.2.2 (by simpa using hx0)
    cases hs : step2 l with
    | none => exact .refl _
    | some o =>
      have h5 : onceS ⟨6, 0, 0, l⟩ = some (ans5 ⟨6, 0, 0, l⟩ o) := by
        rw [once67 (.inl rfl), hon.1, hon.2.1, if_pos rfl, hon.2.2, if_pos rfl]
        have : f5 ⟨6, 0, 0, l⟩ = some (ans5 ⟨6, 0, 0, l⟩ o) := by unfold f5; simp only [hs, Option.map_some]
        simp only [this]
      have hne : 2 ≤ l.length := by
        by_cases c : l.length ≤ 1
        · rw [step2_short c] at hs; cases hs
        · omega
      cases o with
      | none =>
        refine .one (ok67 (.inl rfl) hb) h5 ?_
        rw [mes67 (.inl rfl)]
        show mes dropP < _
        rw [mes_unit (.inr rfl)]
        omega
      | some l' =>
        obtain ⟨g1, g2⟩ := step2_len hs
        have z := sub_size g1
        have hlt : psizeL l' < psizeL l := by
          by_cases c : psizeL l' = psizeL l
          · exfalso
            -- a sublist of the same size is the list
            have key : ∀ {a b : List api_Pol}, a.Sublist b → psizeL a = psizeL b → a.length = b.length := by
              intro a b h
              induction h with
              | slnil => intro _; rfl
              | cons x h ih =>
                intro e
                have := sub_size h; have := psize_pos x
                rw [psizeL] at e; omega
              | cons_cons x h ih =>
                intro e
                rw [psizeL, psizeL] at e
                simp [ih (by omega)]
            have := key g1 c
            omega
          · omega
        have ih := g_seqR k l' (by omega) (fun k hk => hg k (g1.subset hk)) (by omega)
        have first : Ways ⟨6, 0, 0, l⟩ ⟨6, 0, 0, l'⟩ := .one (ok67 (.inl rfl) hb) h5 (by
          show mes ⟨6, 0, 0, l'⟩ < _
          rw [mes67 (.inl rfl), mes67 (.inl rfl)]; omega)
        simp only []
        cases hr : seqR k l' with
        | none => rw [hr] at ih; exact first.trans ih
        | some m => rw [hr] at ih; exact first.trans ih

theorem g_seq {n : Int} {l : List api_Pol} (h : ∀ k ∈ l, Good n k) (hb : 1 + psizeL l ≤ BIG) : Ways ⟨6, 0, 0, l⟩ (seqS l) := by
  have s1 := g_flat (n := n) (.inl rfl) l [] (by simp) h (by simpa using hb)
  have hf := flat_good (.inl rfl) h
  have z1 := flatS_size 6 l
  have s2 := g_unit (.inl rfl) (flatS 6 l) [] (by simp) (fun k hk => (hf k hk).2) (by simp; omega)
  have z2 := filter_size (fun x => !(x.Op == unit 6)) (flatS 6 l)
  have hf2 : ∀ k ∈ (flatS 6 l).filter (fun x => !(x.Op == unit 6)), Good n k ∧ k.Op ≠ 6 ∧ k.Op ≠ 1 := fun k hk => by
    rw [List.mem_filter] at hk
    exact ⟨(hf k hk.1).1, (hf k hk.1).2, by simpa [unit] using hk.2⟩
  simp only [List.nil_append] at s1 s2
  refine (s1.trans s2).trans ?_
  simp only [show unit 6 = 1 from rfl] at s2 z2 hf2 ⊢
  unfold seqS
  simp only
  generalize (flatS 6 l).filter (fun x => !(x.Op == 1)) = m at *
  by_cases c : (m.any fun x => x.Op == 0) = true
  · rw [if_pos c]
    obtain ⟨x, hx, _⟩ := List.any_eq_true.1 c
    refine .one (ok67 (.inl rfl) (by omega)) ?_ (by rw [mes67 (.inl rfl), mes_unit (.inr rfl)]; have := psizeL_mem hx; have := psize_pos x; omega)
    rw [once67 (.inl rfl), f1_none fun k hk => (hf2 k hk).2.1, f2_none (.inl rfl) fun k hk => (hf2 k hk).2.2, if_pos rfl]
    have : f3 ⟨6, 0, 0, m⟩ = some dropP := by unfold f3; rw [if_pos c]
    simp only [this]
  · rw [if_neg c]
    have hd : ∀ k ∈ m, k.Op ≠ 0 := fun x hx hx0 => c (List.any_eq_true.2 ⟨x, hx, by simpa using hx0⟩)
    have hg := g_seqR (n := n) m.length m (Nat.le_refl _) (fun k hk => ⟨(hf2 k hk).1, (hf2 k hk).2.1, (hf2 k hk).2.2, hd k hk⟩) (by omega)
    cases hr : seqR m.length m with
    | none => rw [hr] at hg; exact hg
    | some l' =>
      rw [hr] at hg
      have hsub := seqR_sub _ hr
      have z := sub_size hsub
      refine hg.trans (g_ends (n := n) (.inl rfl) (fun k hk => hf2 k (hsub.subset hk)) (fun _ k hk => hd k (hsub.subset hk)) (fun h => absurd h (by decide)) (fun _ => seqR_end _ (Nat.le_refl _) hr) (fun h => absurd h (by decide)) (by omega))

/-! an end -/

theorem good_op {n : Int} {k : api_Pol} (h : Good n k) : 0 ≤ k.Op := (form_op h.2).1

theorem good_ok {n : Int} {p : api_Pol} (h : Good n p) (hb : psize p ≤ BIG) : Ok1 p := ⟨hb, fun h4 => by
  obtain ⟨k, rfl, h1, h2, h3, h5⟩ := h.1.kids4 h4
  obtain ⟨y, hy, _, hf⟩ := form_not h.2 rfl
  have : y = k := by simpa using hy.symm
  subst this
  exact ⟨y, rfl, (form_op hf).1, fun h => absurd h h5⟩⟩

theorem good_end {n : Int} {p : api_Pol} (h : Good n p) : onceS p = none := by
  by_cases h7 : p.Op = 7
  · obtain ⟨g1, g2, g3, g4, g5⟩ := h.1.kids7 h7
    rw [g2]
    rw [once67 (.inr rfl), f1_none fun k hk => (g1 k hk).2.1, f2_none (.inr rfl) fun k hk => (g1 k hk).2.2, if_neg (by decide), f4_none g4, if_neg (by decide)]
    have : f6 ⟨7, 0, 0, p.Kids⟩ = none := by
      unfold f6
      rw [if_neg]
      rw [Bool.and_comm] at g5
      simp only [g5]; simp
    rw [this]
    simp only []
    unfold f7
    simp only
    match p.Kids, g3 with
    | x :: y :: r, _ => rfl
  · by_cases h6 : p.Op = 6
    · obtain ⟨g1, g2, g3, g4⟩ := h.1.kids6 h6
      rw [g2]
      rw [once67 (.inl rfl), f1_none fun k hk => (g1 k hk).2.1, f2_none (.inl rfl) fun k hk => (g1 k hk).2.2.1, if_pos rfl, if_pos rfl]
      have h3 : f3 ⟨6, 0, 0, p.Kids⟩ = none := by
        unfold f3
        rw [if_neg]
        intro hc
        obtain ⟨x, hx, hx0⟩ := List.any_eq_true.1 hc
        exact (g1 x hx).2.2.2 (by simpa using hx0)
      have h5 : f5 ⟨6, 0, 0, p.Kids⟩ = none := by unfold f5; simp only [g4, Option.map_none]
      rw [h3]
      simp only [h5]
      unfold f7
      simp only
      match p.Kids, g3 with
      | x :: y :: r, _ => rfl
    · unfold onceS
      rw [if_neg (by omega)]
      by_cases h4 : p.Op = 4
      · rw [if_pos h4]
        obtain ⟨k, rfl, h1, h2, h3, h5⟩ := h.1.kids4 h4
        obtain ⟨y, hy, _, hf⟩ := form_not h.2 rfl
        have : y = k := by simpa using hy.symm
        subst this
        have := (form_op hf).1
        unfold f8
        simp only
        rw [if_neg (by omega), if_neg h5]
      · rw [if_neg h4]

theorem g_trim {n : Int} {p : api_Pol} (hf : pform n p = true) (hb : psize p ≤ BIG) : Ways (with_ p (p.Kids.map trimS)) (trimS p) := by
  have hs := psize_eq p
  have hms := map_sd (l := p.Kids) fun x hx => trim_sd x
  rw [trimS_eq]
  by_cases h7 : p.Op = 7
  · rw [if_pos h7]
    obtain ⟨hk, _, hF, hN⟩ := form_all hf (.inr h7)
    have : with_ p (p.Kids.map trimS) = ⟨7, 0, 0, p.Kids.map trimS⟩ := by unfold with_; rw [h7, hF, hN]
    rw [this]
    exact g_sum (n := n) (fun k hk' => by
      obtain ⟨x, hx, rfl⟩ := List.mem_map.1 hk'
      exact (trim_good x (hk x hx)).1) (by omega)
  rw [if_neg h7]
  by_cases h6 : p.Op = 6
  · rw [if_pos h6]
    obtain ⟨hk, _, hF, hN⟩ := form_all hf (.inl h6)
    have : with_ p (p.Kids.map trimS) = ⟨6, 0, 0, p.Kids.map trimS⟩ := by unfold with_; rw [h6, hF, hN]
    rw [this]
    exact g_seq (n := n) (fun k hk' => by
      obtain ⟨x, hx, rfl⟩ := List.mem_map.1 hk'
      exact (trim_good x (hk x hx)).1) (by omega)
  rw [if_neg h6]
  by_cases h4 : p.Op = 4
  · rw [if_pos h4]
    obtain ⟨y, rfl, hp, hy⟩ := form_not hf h4
    have hg := (trim_good y hy).1
    show Ways ⟨4, 0, 0, [trimS y]⟩ (notS (trimS y))
    have hsd := trim_sd y
    simp only [psizeL] at hs
    generalize trimS y = q at *
    have hop := form_op hg.2
    have ok : Ok1 ⟨4, 0, 0, [q]⟩ := ⟨by simp only [psize, psizeL]; omega, fun _ => ⟨q, rfl, hop.1, fun c4 => by
      obtain ⟨z, hz, _⟩ := hg.1.kids4 c4
      rw [hz]; simp⟩⟩
    have hon : onceS ⟨4, 0, 0, [q]⟩ = if q.Op < 2 then some ⟨1 - q.Op, 0, 0, []⟩ else if q.Op = 4 then q.Kids.head? else none := rfl
    have hm : mes ⟨4, 0, 0, [q]⟩ = 2 * (1 + psize q) := by simp [mes, psize, psizeL]
    have hqp := psize_pos q
    unfold notS
    by_cases c0 : q.Op = 0
    · rw [if_pos c0]
      exact .one ok (by rw [hon, if_pos (by omega), c0]; rfl) (by rw [hm, mes_unit (.inl rfl)]; omega)
    rw [if_neg c0]
    by_cases c1 : q.Op = 1
    · rw [if_pos c1]
      exact .one ok (by rw [hon, if_pos (by omega), c1]; rfl) (by rw [hm, mes_unit (.inr rfl)]; omega)
    rw [if_neg c1]
    by_cases c4 : q.Op = 4
    · rw [if_pos c4]
      obtain ⟨k, rfl, _⟩ := hg.1.kids4 c4
      refine .one ok (by rw [hon, if_neg (show ¬ (4 : Int) < 2 by decide), if_pos rfl]; rfl) ?_
      rw [hm]
      have := mes_le k
      simp only [psize, psizeL, List.headD]
      omega
    · rw [if_neg c4]; exact .refl _
  · rw [if_neg h4]
    have hk := form_leaf hf h4 h6 h7
    have : with_ p (p.Kids.map trimS) = ⟨p.Op, p.F, p.N, []⟩ := by unfold with_; rw [hk]; rfl
    rw [this]
    exact .refl _

theorem rtrim_f {n : Int} : ∀ k p, pdepth p ≤ k → psize p ≤ BIG → pform n p = true → ref28_trim_f k p = some (trimS p)
  | 0, p, h, _, _ => by have := pdepth_pos p; omega
  | k + 1, p, h, hb, hf => by
    show ref28_trim_s (ref28_trim_f k) p = _
    have hp := pdepth_eq p; have hs := psize_eq p
    have hB : BIG = 100000 := rfl
    have hform : ∀ x ∈ p.Kids, pform n x = true := by
      by_cases h67 : p.Op = 6 ∨ p.Op = 7
      · exact (form_all hf h67).1
      · by_cases h4 : p.Op = 4
        · obtain ⟨y, rfl, _, hy⟩ := form_not hf h4
          intro x hx; simp at hx; subst hx; exact hy
        · rw [form_leaf hf h4 (by omega) (by omega)]; intro x hx; cases hx
    obtain ⟨s', e, hP⟩ := forO_list (ref28_trim_b1 p (ref28_trim_f k)) p.Kids (fun l s => s = l.map trimS) [] (by simp) (fun i x s hx hP => by
      have hm := List.mem_of_getElem? hx
      have h1 := pdepthL_mem hm
      refine ⟨(p.Kids.take i ++ [x]).map trimS, ?_, rfl⟩
      simp only [ref28_trim_b1, gat_nat, hx, Option.bind_some]
      rw [rtrim_f k x (by omega) (kid_big hm hb) (hform x hm)]
      simp only [Option.bind_some]
      have := len_psizeL p.Kids
      rw [hP, gapp_some (by simp; omega)]
      simp)
    have hms := map_sd (l := p.Kids) fun x hx => trim_sd x
    have hsd := trim_sd p
    simp only [ref28_trim_s, e, Option.bind_some]
    rw [hP]
    have hg := g_trim hf hb
    have hgood := (trim_good p hf).1
    have hme := mes_le (with_ p (p.Kids.map trimS))
    have hsz : psize (with_ p (p.Kids.map trimS)) = 1 + psizeL (p.Kids.map trimS) := by unfold with_; rw [psize]
    obtain ⟨m, hm⟩ := FUEL_big (mes (with_ p (p.Kids.map trimS)) + 1) (by omega)
    have := goes_loop hg (good_end hgood) (good_ok hgood (by omega)) m
    rw [show m + mes (with_ p (p.Kids.map trimS)) + 1 = FUEL by omega] at this
    unfold with_ at this
    rw [this]
    rfl

theorem r_trim {p : api_Pol} (h : psize p ≤ BIG) : ref28_Trim p = some (trimP p) := by
  unfold ref28_Trim trimP
  rw [r_right h, Option.bind_some]
  cases hr : pright p with
  | false => rfl
  | true =>
    have : ref28_trim p = some (trimS p) := rtrim_f _ _ (fuel_ge h) h (right_big hr).2.2
    simp only [Bool.not_true, Bool.false_eq_true, if_false, this, Option.bind_some, if_true]

end Go.AM
