import Derived.Test.YtkgegocfjalcbaaTT8
/-
  A trimmed policy means what the policy means; the statement TrimKeeps.
-/
set_option linter.unusedVariables false
set_option linter.unusedSimpArgs false
namespace Go.AM
open Go

variable {st : List Int}

theorem den_id {q x : Pk} : den st idP q x ↔ x = q := by rw [den_eq]; simp [idP]
theorem den_drop {q x : Pk} : ¬ den st dropP q x := by rw [den_eq]; simp [dropP]
theorem den6 {l : List api_Pol} {q x : Pk} {p : api_Pol} (h : p.Op = 6) : den st p q x ↔ denQ st p.Kids q x := by rw [den_eq, h]; simp
theorem den7 {l : List api_Pol} {q x : Pk} {p : api_Pol} (h : p.Op = 7) : den st p q x ↔ denS st p.Kids q x := by rw [den_eq, h]; simp

theorem pred_den (p : api_Pol) : ppred p = true → ∀ q x, den st p q x → x = q := by
  refine pol_ind (P := fun p => ppred p = true → ∀ q x, den st p q x → x = q) (fun p ih hp q x h => ?_) p
  rw [ppred_eq] at hp
  split at hp
  · rename_i c
    rw [den_eq] at h
    split at h
    · exact h.elim
    · split at h
      · exact h
      · split at h
        · exact h.1
        · split at h
          · exact h.1
          · split at h
            · exact h.1
            · omega
  · rename_i c
    split at hp
    · rename_i c2
      have hall := List.all_eq_true.1 hp
      rcases c2 with c2 | c2
      · rw [den6 (l := []) c2] at h
        have key : ∀ (l : List api_Pol), (∀ k ∈ l, k ∈ p.Kids) → ∀ q x, denQ st l q x → x = q := by
          intro l
          induction l with
          | nil => intro _ q x h; exact h
          | cons k l ihl =>
            intro hl q x h
            obtain ⟨y, h1, h2⟩ := h
            have e1 := ih k (hl k (by simp)) (hall k (hl k (by simp))) q y h1
            subst e1
            exact ihl (fun k hk => hl k (by simp [hk])) _ x h2
        exact key p.Kids (fun _ h => h) q x h
      · rw [den7 (l := []) c2, denS_ex] at h
        obtain ⟨k, hk, h⟩ := h
        exact ih k hk (hall k hk) q x h
    · cases hp

theorem flat7_den {l : List api_Pol} {q x : Pk} : (∃ k ∈ flatS 7 l, den st k q x) ↔ ∃ k ∈ l, den st k q x := by
  constructor
  · rintro ⟨k, hk, h⟩
    obtain ⟨y, hy, hk⟩ := List.mem_flatMap.1 hk
    refine ⟨y, hy, ?_⟩
    split at hk
    · rename_i c; rw [den7 (l := []) c, denS_ex]; exact ⟨k, hk, h⟩
    · simp at hk; subst hk; exact h
  · rintro ⟨y, hy, h⟩
    by_cases c : y.Op = 7
    · rw [den7 (l := []) c, denS_ex] at h
      obtain ⟨k, hk, h⟩ := h
      exact ⟨k, List.mem_flatMap.2 ⟨y, hy, by rw [if_pos c]; exact hk⟩, h⟩
    · exact ⟨y, List.mem_flatMap.2 ⟨y, hy, by rw [if_neg c]; simp⟩, h⟩

theorem oneOf_den7 {l : List api_Pol} {q x : Pk} : den st (oneOf 7 l) q x ↔ ∃ k ∈ l, den st k q x := by
  match l with
  | [] => rw [den_eq]; simp [oneOf]
  | [y] => simp [oneOf]
  | y :: z :: l => rw [den7 (l := []) rfl, denS_ex]; rfl

theorem oneOf_den6 {l : List api_Pol} {q x : Pk} : den st (oneOf 6 l) q x ↔ denQ st l q x := by
  match l with
  | [] => rw [den_eq]; simp [oneOf, denQ]
  | [y] => rw [denQ_one]; rfl
  | y :: z :: l => rw [den6 (l := []) rfl]; rfl

theorem sum_den {l : List api_Pol} (hf : ∀ k ∈ l, pform 4 k = true) {q x : Pk} : den st (sumS l) q x ↔ ∃ k ∈ l, den st k q x := by
  rw [← flat7_den]
  have e : (∃ k ∈ flatS 7 l, den st k q x) ↔ ∃ k ∈ dedup [] ((flatS 7 l).filter fun x => !(x.Op == 0)), den st k q x := by
    constructor
    · rintro ⟨k, hk, h⟩
      refine ⟨k, (dedup_mem _ _ _).2 (.inr (List.mem_filter.2 ⟨hk, ?_⟩)), h⟩
      by_cases c : k.Op = 0
      · rw [den_eq, if_pos c] at h; exact h.elim
      · simpa using c
    · rintro ⟨k, hk, h⟩
      rw [dedup_mem] at hk
      rcases hk with hk | hk
      · cases hk
      · exact ⟨k, (List.mem_filter.1 hk).1, h⟩
  rw [e]
  unfold sumS
  simp only
  generalize dedup [] ((flatS 7 l).filter fun x => !(x.Op == 0)) = m
  split
  · rename_i c
    simp only [Bool.and_eq_true, List.any_eq_true, List.all_eq_true] at c
    obtain ⟨⟨k, hk, hk1⟩, hall⟩ := c
    rw [den_id]
    constructor
    · rintro rfl
      exact ⟨k, hk, by rw [den_eq, if_neg (by simp at hk1; omega), if_pos (by simpa using hk1)]⟩
    · rintro ⟨y, hy, h⟩
      exact pred_den y (hall y hy) q x h
  · exact oneOf_den7

/-! sequences -/

theorem flat6_den : ∀ {l : List api_Pol} {q x : Pk}, denQ st (flatS 6 l) q x ↔ denQ st l q x
  | [], q, x => by simp [flatS]
  | k :: l, q, x => by
    rw [flatS_cons, denQ_app]
    simp only [denQ]
    have e : ∀ y, denQ st (if k.Op = 6 then k.Kids else [k]) q y ↔ den st k q y := by
      intro y
      split
      · rename_i c; rw [den6 (l := []) c]
      · exact denQ_one
    constructor
    · rintro ⟨y, h1, h2⟩; exact ⟨y, (e y).1 h1, flat6_den.1 h2⟩
    · rintro ⟨y, h1, h2⟩; exact ⟨y, (e y).2 h1, flat6_den.2 h2⟩

theorem units_den : ∀ {l : List api_Pol} {q x : Pk}, denQ st (l.filter fun x => !(x.Op == 1)) q x ↔ denQ st l q x
  | [], q, x => by simp
  | k :: l, q, x => by
    rw [List.filter_cons]
    by_cases c : k.Op = 1
    · rw [if_neg (by simp [c])]
      rw [units_den]
      simp only [denQ]
      have e : ∀ y, den st k q y ↔ y = q := fun y => by rw [den_eq, c]; simp
      constructor
      · intro h; exact ⟨q, (e q).2 rfl, h⟩
      · rintro ⟨y, h1, h2⟩; rw [e] at h1; subst h1; exact h2
    · rw [if_pos (by simpa using c)]
      simp only [denQ]
      constructor
      · rintro ⟨y, h1, h2⟩; exact ⟨y, h1, units_den.1 h2⟩
      · rintro ⟨y, h1, h2⟩; exact ⟨y, h1, units_den.2 h2⟩

theorem drop_den : ∀ {l : List api_Pol} {q x : Pk}, (l.any fun x => x.Op == 0) = true → ¬ denQ st l q x := by
  intro l
  induction l with
  | nil => intro q x h; simp at h
  | cons k l ih =>
    intro q x h
    rintro ⟨y, h1, h2⟩
    rw [List.any_cons, Bool.or_eq_true] at h
    rcases h with h | h
    · rw [den_eq, if_pos (by simpa using h)] at h1; exact h1
    · exact ih h h2

theorem test_den {p : api_Pol} (h : p.Op = 2) {q x : Pk} : den st p q x ↔ x = q ∧ q.get p.F = some p.N := by rw [den_eq, h]; simp
theorem state_den {p : api_Pol} (h : p.Op = 3) {q x : Pk} : den st p q x ↔ x = q ∧ gat st p.F = some p.N := by rw [den_eq, h]; simp
theorem put_den {p : api_Pol} (h : p.Op = 5) {q x : Pk} : den st p q x ↔ x = pkw q p.F p.N := by rw [den_eq, h]; simp

/-- Two neighbours. -/
theorem nb_den {a b : api_Pol} (ha : pform 4 a = true) (hb : pform 4 b = true) (ask : Bool) :
    (nb a b ask = 1 → ∀ q x, (∃ y, den st a q y ∧ den st b y x) ↔ den st b q x) ∧ (nb a b ask = 2 → ∀ q x, (∃ y, den st a q y ∧ den st b y x) ↔ den st a q x) ∧
    (nb a b ask = 3 → ∀ q x, ¬ ∃ y, den st a q y ∧ den st b y x) := by
  unfold nb
  simp only
  generalize hB : ((a.Op == 2 || a.Op == 3) && a.Op == b.Op) = both
  by_cases c0 : both ≠ ask ∨ a.F ≠ b.F
  · rw [if_pos c0]; simp
  rw [if_neg c0]
  have hF : a.F = b.F := by
    by_cases h : a.F = b.F
    · exact h
    · exact (c0 (.inr h)).elim
  cases both with
  | true =>
    simp only [if_true]
    have h23 : (a.Op = 2 ∨ a.Op = 3) ∧ a.Op = b.Op := by simpa using hB
    have hd : ∃ P : Int → Prop, (∀ q x, den st a q x ↔ x = q ∧ (if a.Op = 2 then q.get a.F else gat st a.F) = some a.N) ∧ (∀ q x, den st b q x ↔ x = q ∧ (if a.Op = 2 then q.get a.F else gat st a.F) = some b.N) := by
      refine ⟨fun _ => True, fun q x => ?_, fun q x => ?_⟩
      · rcases h23.1 with h | h
        · rw [test_den h, if_pos h]
        · rw [state_den h, if_neg (by omega)]
      · rcases h23.1 with h | h
        · rw [test_den (h23.2 ▸ h), if_pos h, hF]
        · rw [state_den (h23.2 ▸ h), if_neg (by omega), hF]
    obtain ⟨_, da, db⟩ := hd
    by_cases cN : a.N = b.N
    · rw [if_pos cN]
      refine ⟨by simp, fun _ q x => ?_, by simp⟩
      constructor
      · rintro ⟨y, h1, h2⟩
        rw [da] at h1
        rw [db] at h2
        obtain ⟨rfl, _⟩ := h1
        rw [da, h2.1]
        exact ⟨rfl, by assumption⟩
      · intro h
        have h' := (da q x).1 h
        exact ⟨x, h, (db x x).2 ⟨rfl, by rw [h'.1, ← cN]; exact h'.2⟩⟩
    · rw [if_neg cN]
      refine ⟨by simp, by simp, fun _ q x => ?_⟩
      rintro ⟨y, h1, h2⟩
      rw [da] at h1
      rw [db] at h2
      obtain ⟨rfl, h1⟩ := h1
      rw [h1] at h2
      exact cN (Option.some.inj h2.2)
  | false =>
    simp only [Bool.false_eq_true, if_false]
    by_cases c1 : a.Op = 5 ∧ b.Op = 5
    · rw [if_pos c1]
      obtain ⟨f0, f1⟩ := form_put5 ha c1.1
      refine ⟨fun _ q x => ?_, by simp, by simp⟩
      constructor
      · rintro ⟨y, h1, h2⟩
        rw [put_den c1.1] at h1
        rw [put_den c1.2] at h2 ⊢
        rw [h2, h1, ← hF]
        exact (put_ok q a.N f0 f1).2.2.2.2 b.N
      · intro h
        refine ⟨_, (put_den c1.1).2 rfl, ?_⟩
        rw [put_den c1.2] at h ⊢
        rw [h, ← hF]
        exact ((put_ok q a.N f0 f1).2.2.2.2 b.N).symm
    rw [if_neg c1]
    by_cases c2 : a.Op = 5 ∧ b.Op = 2
    · rw [if_pos c2]
      obtain ⟨f0, f1⟩ := form_put5 ha c2.1
      by_cases cN : a.N = b.N
      · rw [if_pos cN]
        refine ⟨by simp, fun _ q x => ?_, by simp⟩
        constructor
        · rintro ⟨y, h1, h2⟩
          rw [test_den c2.2] at h2
          rw [h2.1]; exact h1
        · intro h
          refine ⟨x, h, (test_den c2.2).2 ⟨rfl, ?_⟩⟩
          rw [put_den c2.1] at h
          rw [h, ← hF, ← cN]
          exact (put_ok q a.N f0 f1).2.1
      · rw [if_neg cN]
        refine ⟨by simp, by simp, fun _ q x => ?_⟩
        rintro ⟨y, h1, h2⟩
        rw [put_den c2.1] at h1
        rw [test_den c2.2, h1, ← hF, (put_ok q a.N f0 f1).2.1] at h2
        exact cN (Option.some.inj h2.2)
    rw [if_neg c2]
    by_cases c3 : a.Op = 2 ∧ b.Op = 5 ∧ a.N = b.N
    · rw [if_pos c3]
      obtain ⟨f0, f1⟩ := form_test ha c3.1
      refine ⟨by simp, fun _ q x => ?_, by simp⟩
      constructor
      · rintro ⟨y, h1, h2⟩
        have h1' := (test_den c3.1).1 h1
        obtain ⟨rfl, hg⟩ := h1'
        rw [put_den c3.2.1, ← hF, ← c3.2.2, (put_ok y a.N f0 f1).2.2.2.1 hg] at h2
        rw [h2]; exact h1
      · intro h
        have h1' := (test_den c3.1).1 h
        obtain ⟨rfl, hg⟩ := h1'
        refine ⟨x, h, ?_⟩
        rw [put_den c3.2.1, ← hF, ← c3.2.2, (put_ok x a.N f0 f1).2.2.2.1 hg]
    rw [if_neg c3]
    simp

theorem clo_den (ask : Bool) : ∀ {l : List api_Pol}, (∀ k ∈ l, pform 4 k = true) → (∀ l', clo ask l = some (some l') → ∀ q x, denQ st l' q x ↔ denQ st l q x) ∧ (clo ask l = some none → ∀ q x, ¬ denQ st l q x)
  | [], _ => ⟨fun l' h => by simp [clo] at h, fun h => by simp [clo] at h⟩
  | [x], _ => ⟨fun l' h => by simp [clo] at h, fun h => by simp [clo] at h⟩
  | a :: b :: r, hf => by
    obtain ⟨n1, n2, n3⟩ := nb_den (st := st) (hf a (by simp)) (hf b (by simp)) ask
    have assoc : ∀ q x, denQ st (a :: b :: r) q x ↔ ∃ z, (∃ y, den st a q y ∧ den st b y z) ∧ denQ st r z x := by
      intro q x
      simp only [denQ]
      constructor
      · rintro ⟨y, h1, z, h2, h3⟩; exact ⟨z, ⟨y, h1, h2⟩, h3⟩
      · rintro ⟨z, ⟨y, h1, h2⟩, h3⟩; exact ⟨y, h1, z, h2, h3⟩
    rw [clo]
    split
    · rename_i c
      refine ⟨fun l' h => ?_, fun h => by cases h⟩
      cases h
      intro q x
      rw [assoc]
      simp only [denQ, n1 c]
    · split
      · rename_i c
        refine ⟨fun l' h => ?_, fun h => by cases h⟩
        cases h
        intro q x
        rw [assoc]
        simp only [denQ, n2 c]
      · split
        · rename_i c
          refine ⟨fun l' h => (by cases h), fun _ q x h => ?_⟩
          rw [assoc] at h
          obtain ⟨z, h, _⟩ := h
          exact n3 c q z h
        · obtain ⟨i1, i2⟩ := clo_den ask (l := b :: r) fun k hk => hf k (by simp [hk])
          cases hc : clo ask (b :: r) with
          | none => exact ⟨fun l' h => by simp at h, fun h => by simp at h⟩
          | some o => cases o with
            | none =>
              refine ⟨fun l' h => by simp at h, fun _ q x h => ?_⟩
              obtain ⟨y, _, h⟩ := h
              exact i2 hc y x h
            | some m =>
              refine ⟨fun l' h => ?_, fun h => by simp at h⟩
              simp at h
              subst h
              intro q x
              show (∃ y, den st a q y ∧ denQ st m y x) ↔ ∃ y, den st a q y ∧ denQ st (b :: r) y x
              simp only [i1 m hc]

theorem step2_den {l : List api_Pol} (hf : ∀ k ∈ l, pform 4 k = true) : (∀ l', step2 l = some (some l') → ∀ q x, denQ st l' q x ↔ denQ st l q x) ∧ (step2 l = some none → ∀ q x, ¬ denQ st l q x) := by
  unfold step2
  cases h : clo true l with
  | none => exact clo_den false hf
  | some o =>
    obtain ⟨h1, h2⟩ := clo_den (st := st) true hf
    cases o with
    | none => exact ⟨fun l' h' => (by cases h'), fun _ => h2 h⟩
    | some m => exact ⟨fun l' h' => (by cases h'; exact h1 m h), fun h' => (by cases h')⟩

theorem seqR_den : ∀ (n : Nat) {l : List api_Pol}, (∀ k ∈ l, pform 4 k = true) → (∀ l', seqR n l = some l' → ∀ q x, denQ st l' q x ↔ denQ st l q x) ∧ (seqR n l = none → ∀ q x, ¬ denQ st l q x)
  | 0, l, _ => ⟨fun l' h => (by cases h; exact fun q x => Iff.rfl), fun h => (by cases h)⟩
  | n + 1, l, hf => by
    obtain ⟨h1, h2⟩ := step2_den (st := st) hf
    rw [seqR]
    cases h : step2 l with
    | none => exact ⟨fun l' h => (by cases h; exact fun q x => Iff.rfl), fun h => (by cases h)⟩
    | some o => cases o with
      | none => exact ⟨fun l' h' => (by cases h'), fun _ => h2 h⟩
      | some m =>
        have hs := (step2_len h).1
        obtain ⟨g1, g2⟩ := seqR_den n (l := m) fun k hk => hf k (hs.subset hk)
        refine ⟨fun l' h' q x => (g1 l' h' q x).trans (h1 m h q x), fun h' q x hd => g2 h' q x ((h1 m h q x).2 hd)⟩

theorem seq_den {l : List api_Pol} (hg : ∀ k ∈ l, Good 4 k) {q x : Pk} : den st (seqS l) q x ↔ denQ st l q x := by
  rw [← flat6_den, ← units_den]
  have hf : ∀ k ∈ (flatS 6 l).filter (fun x => !(x.Op == 1)), pform 4 k = true := fun k hk => (flat_good (.inl rfl) hg k (List.mem_filter.1 hk).1).1.2
  unfold seqS
  simp only
  generalize (flatS 6 l).filter (fun x => !(x.Op == 1)) = m at *
  split
  · rename_i c
    exact ⟨fun h => (den_drop h).elim, fun h => (drop_den c h).elim⟩
  · obtain ⟨h1, h2⟩ := seqR_den (st := st) m.length hf
    split
    · rename_i h
      exact ⟨fun h => (den_drop h).elim, fun h' => (h2 h q x h').elim⟩
    · rename_i l' h
      rw [oneOf_den6]; exact h1 l' h q x

theorem den4 {k : api_Pol} {q x : Pk} : den st ⟨4, 0, 0, [k]⟩ q x ↔ x = q ∧ ∀ z, ¬ den st k q z := by
  rw [den_eq]
  simp [denS]

theorem not_den {k : api_Pol} (hg : Good 4 k) {q x : Pk} : den st (notS k) q x ↔ x = q ∧ ∀ z, ¬ den st k q z := by
  unfold notS
  split
  · rename_i c
    rw [den_id]
    have : ∀ z, ¬ den st k q z := fun z h => by rw [den_eq, if_pos c] at h; exact h
    simp [this]
  · split
    · rename_i c0 c
      have : den st k q q := by rw [den_eq, if_neg c0, if_pos c]
      exact ⟨fun h => (den_drop h).elim, fun h => (h.2 q this).elim⟩
    · split
      · rename_i c
        obtain ⟨y, rfl, hp, _⟩ := form_not hg.2 c
        show den st y q x ↔ _
        constructor
        · intro h
          have e := pred_den y hp q x h
          subst e
          refine ⟨rfl, fun z hz => ?_⟩
          rw [den4] at hz
          exact hz.2 x h
        · rintro ⟨rfl, h⟩
          by_cases c : ∃ z, den st y x z
          · obtain ⟨z, hz⟩ := c
            have e := pred_den y hp x z hz
            subst e; exact hz
          · exact (h x (den4.2 ⟨rfl, fun z hz => c ⟨z, hz⟩⟩)).elim
      · exact den4

theorem map_den {l : List api_Pol} (h : ∀ k ∈ l, ∀ q x, den st (trimS k) q x ↔ den st k q x) : (∀ q x, denQ st (l.map trimS) q x ↔ denQ st l q x) ∧ ∀ q x, denS st (l.map trimS) q x ↔ denS st l q x := by
  induction l with
  | nil => exact ⟨fun q x => Iff.rfl, fun q x => Iff.rfl⟩
  | cons k l ih =>
    obtain ⟨h1, h2⟩ := ih fun k hk => h k (by simp [hk])
    have hk := h k (by simp)
    refine ⟨fun q x => ?_, fun q x => ?_⟩
    · simp only [List.map_cons, denQ, hk, h1]
    · simp only [List.map_cons, denS, hk, h2]

theorem trim_den (p : api_Pol) : pform 4 p = true → ∀ q x, den st (trimS p) q x ↔ den st p q x := by
  refine pol_ind (P := fun p => pform 4 p = true → ∀ q x, den st (trimS p) q x ↔ den st p q x) (fun p ih h q x => ?_) p
  rw [trimS_eq]
  by_cases h7 : p.Op = 7
  · rw [if_pos h7, den7 (l := []) h7]
    obtain ⟨hk, _⟩ := form_all h (.inr h7)
    rw [sum_den fun k hk' => by
      obtain ⟨y, hy, rfl⟩ := List.mem_map.1 hk'
      exact (trim_good y (hk y hy)).1.2]
    rw [← denS_ex]
    exact (map_den fun k hk' => ih k hk' (hk k hk')).2 q x
  rw [if_neg h7]
  by_cases h6 : p.Op = 6
  · rw [if_pos h6, den6 (l := []) h6]
    obtain ⟨hk, _⟩ := form_all h (.inl h6)
    rw [seq_den fun k hk' => by
      obtain ⟨y, hy, rfl⟩ := List.mem_map.1 hk'
      exact (trim_good y (hk y hy)).1]
    exact (map_den fun k hk' => ih k hk' (hk k hk')).1 q x
  rw [if_neg h6]
  by_cases h4 : p.Op = 4
  · rw [if_pos h4]
    obtain ⟨y, rfl, _, hy⟩ := form_not h h4
    show den st (notS (trimS y)) q x ↔ _
    rw [not_den (trim_good y hy).1, den4]
    have := ih y (by simp) hy
    simp only [this]
  · rw [if_neg h4]
    have hk := form_leaf h h4 h6 h7
    have : p = ⟨p.Op, p.F, p.N, []⟩ := by cases p; simp_all
    rw [← this]

/-! the statement -/

theorem s_run {p : api_Pol} (h : psize p ≤ BIG) (hf : pform 4 p = true) (q : Pk) : RunOk st p q (ref07_run p st q) := run_f st _ _ (fuel_ge h) hf q

theorem same_refl (l : List Pk) : ref01_Same l l = some true := by
  unfold ref01_Same
  rw [if_neg (by simp)]
  have := forR_split0 (ref01_Same_b1 l l) (fun _ _ _ => (none : Option Bool)) l fun pre x r e => by
    simp only [ref01_Same_b1, gat_pre e, Option.bind_some]
    simp [brOf]
  rw [this]
  have e : ∀ (l pre : List Pk), runS (fun _ _ _ => (none : Option Bool)) pre l = none := by
    intro l
    induction l with
    | nil => intro pre; rfl
    | cons x l ih => intro pre; simp only [runS]; exact ih _
  rw [e]; rfl

theorem law_TrimKeeps {a0 : List law05_Step} (h : StepOk a0) (st : List Int) (q : Pk) : law28_TrimKeeps a0 st q = some true := by
  obtain ⟨p, b, hp, hs⟩ := pile_ok h
  have hb : psize p ≤ BIG := by unfold BIG; omega
  have hq := trimP_size p
  have hqb : psize (trimP p) ≤ BIG := by omega
  simp only [law28_TrimKeeps, awake_ok, hp, Option.bind_some, Bool.not_true, Bool.false_eq_true, if_false]
  by_cases c : ((!b) || (decide ((st.length : Int) > 6))) = true
  · rw [if_pos c]
  rw [if_neg c]
  cases hr : pright p with
  | false =>
    have e : trimP p = p := by unfold trimP; rw [hr]; rfl
    have hm : ref07_Make p st q = some ([], 11) := by unfold ref07_Make; rw [r_right hb, hr]; rfl
    simp only [hm, s_trim hb, e, Option.bind_some, same_refl]
    rfl
  | true =>
    obtain ⟨hr2, hg, _⟩ := trimP_right hr
    obtain ⟨_, _, hf⟩ := right_big hr
    have e : trimP p = trimS p := by unfold trimP; rw [hr]; rfl
    obtain ⟨l1, b1, e1, _, d1⟩ := s_run (st := st) hb hf q
    obtain ⟨l2, b2, e2, _, d2⟩ := s_run (st := st) hqb hg.2 q
    have m1 : ref07_Make p st q = some (if b1 then (l1, 0) else ([], 24)) := by
      unfold ref07_Make; rw [r_right hb, hr]
      simp only [Option.bind_some, Bool.not_true, Bool.false_eq_true, if_false, e1]
      cases b1 <;> rfl
    have m2 : ref07_Make (trimP p) st q = some (if b2 then (l2, 0) else ([], 24)) := by
      unfold ref07_Make; rw [r_right hqb, hr2]
      simp only [Option.bind_some, Bool.not_true, Bool.false_eq_true, if_false, e2]
      cases b2 <;> rfl
    simp only [m1, m2, s_trim hb, Option.bind_some]
    cases b1 with
    | false => rfl
    | true =>
      cases b2 with
      | false => rfl
      | true =>
        obtain ⟨s1, k1⟩ := d1 rfl
        obtain ⟨s2, k2⟩ := d2 rfl
        have : l1 = l2 := srt_ext s1 s2 fun x => by
          rw [k1, k2, e, trim_den p hf]
        subst this
        simp only [if_true, same_refl]
        rfl

end Go.AM
