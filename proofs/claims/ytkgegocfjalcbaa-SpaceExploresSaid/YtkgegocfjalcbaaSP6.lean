import Derived.Test.YtkgegocfjalcbaaSP5
/-
  Layer 11: does a way lead back? The program's search and the document's rounds answer alike.
-/
set_option linter.unusedVariables false
set_option linter.unusedSimpArgs false
namespace Go.AM
open Go

def Eg (E : List api_Edge) (a b : Nat) : Prop := ∃ e ∈ E, e.From = (a : Int) ∧ e.To = (b : Int)

/-- From here every way ends. -/
inductive Term (E : List api_Edge) : Nat → Prop
  | mk (i : Nat) (h : ∀ j, Eg E i j → Term E j) : Term E i

theorem Term.next {E : List api_Edge} {i j : Nat} (h : Term E i) (e : Eg E i j) : Term E j := by
  cases h with | mk _ h => exact h j e

/-- A way of one step or more. -/
inductive Pl (E : List api_Edge) : Nat → Nat → Prop
  | one {a b : Nat} (h : Eg E a b) : Pl E a b
  | step {a b c : Nat} (h : Pl E a b) (g : Eg E b c) : Pl E a c

theorem Pl.first {E : List api_Edge} {a b : Nat} (h : Pl E a b) : ∃ c, Eg E a c ∧ (c = b ∨ Pl E c b) := by
  induction h with
  | one h => exact ⟨_, h, .inl rfl⟩
  | step h g ih =>
    obtain ⟨c, h1, h2⟩ := ih
    rcases h2 with rfl | h2
    · exact ⟨_, h1, .inr (.one g)⟩
    · exact ⟨_, h1, .inr (.step h2 g)⟩

theorem Term.nocycle {E : List api_Edge} {a : Nat} (h : Term E a) : ¬ Pl E a a := by
  induction h with
  | mk i h ih =>
    intro hp
    obtain ⟨c, h1, h2⟩ := hp.first
    rcases h2 with rfl | h2
    · exact ih c h1 hp
    · exact ih c h1 (.step h2 h1)

/-! the rounds -/

def adB (E : List api_Edge) (l : List Bool) (i : Nat) : Bool := E.all fun e => decide (e.From ≠ (i : Int)) || (l[e.To.toNat]?).getD false
def passS (E : List api_Edge) (l : List Bool) (i : Nat) : List Bool := l.set i ((l[i]?).getD false || adB E l i)
def passL (E : List api_Edge) (N : Nat) (l : List Bool) : List Bool := (List.range N).foldl (passS E) l
def passN (E : List api_Edge) (N : Nat) : Nat → List Bool → List Bool
  | 0, l => l
  | k + 1, l => passL E N (passN E N k l)

theorem passS_len (E : List api_Edge) (l : List Bool) (i : Nat) : (passS E l i).length = l.length := by simp [passS]
theorem foldP_len (E : List api_Edge) : ∀ (r : List Nat) (l : List Bool), (r.foldl (passS E) l).length = l.length
  | [], _ => rfl
  | i :: r, l => by rw [List.foldl_cons, foldP_len E r, passS_len]
theorem passN_len (E : List api_Edge) (N : Nat) (l : List Bool) : ∀ k, (passN E N k l).length = l.length
  | 0 => rfl
  | k + 1 => by rw [passN, passL, foldP_len, passN_len E N l k]

def EIn (E : List api_Edge) (N : Nat) : Prop := ∀ e ∈ E, (0 ≤ e.From ∧ e.From < N) ∧ (0 ≤ e.To ∧ e.To < N)

theorem b3_ok (S : List (List Int)) (E : List api_Edge) (hE : EIn E S.length) (l : List Bool) (hl : l.length = S.length) (i : Nat) : forO (ref11_round_b3 (api_Space.mk S E) l i) (irange 0 (E.length : Int)) true = some (adB E l i) := by
  obtain ⟨b, e, hb⟩ := forO_list (ref11_round_b3 (api_Space.mk S E) l i) E (fun m b => b = m.all fun e => decide (e.From ≠ (i : Int)) || (l[e.To.toNat]?).getD false) true rfl (fun k x b hx hb => by
    subst hb
    obtain ⟨h1, h2⟩ := (hE x (List.mem_of_getElem? hx)).2
    refine ⟨_, ?_, rfl⟩
    rw [List.all_append]
    simp only [ref11_round_b3, gat_nat, hx, Option.bind_some, List.all_cons, List.all_nil, Bool.and_true]
    generalize (E.take k).all _ = q
    by_cases c : x.From = (i : Int)
    · rw [if_pos (by simpa using c)]
      have hlt : x.To.toNat < l.length := by omega
      simp only [gat, h1, if_true, List.getElem?_eq_getElem hlt, Option.bind_some, c, ne_eq, not_true, decide_false, Bool.false_or, Option.getD_some]
      cases l[x.To.toNat] <;> cases q <;> rfl
    · rw [if_neg (by simpa using c)]
      simp [c])
  rw [e, hb]; rfl

theorem b2R_ok (S : List (List Int)) (E : List api_Edge) (hE : EIn E S.length) (l : List Bool) (hl : l.length = S.length) (i : Nat) (hi : i < S.length) : ref11_round_b2 (api_Space.mk S E) i l = some (passS E l i) := by
  unfold ref11_round_b2 passS
  have hlt : i < l.length := by omega
  simp only
  rw [b3_ok S E hE l hl i]
  simp only [Option.bind_some, gat_nat, List.getElem?_eq_getElem hlt, Option.getD_some]
  cases hx : l[i]
  · simp only [Bool.false_eq_true, if_false, Bool.false_or]
    rw [gput_lt l (by omega) (by omega)]; rfl
  · simp only [if_true, Bool.true_or]
    rw [gput_lt l (by omega) (by omega)]; rfl

theorem range_take (n i : Nat) (h : i < n) : (List.range n)[i]? = some i := by simp [h]

theorem b1R_ok (S : List (List Int)) (E : List api_Edge) (hE : EIn E S.length) (l : List Bool) (hl : l.length = S.length) (i : Int) : ref11_round_b1 (api_Space.mk S E) i l = some (passL E S.length l) := by
  unfold ref11_round_b1
  have hr : (List.range S.length).length = S.length := by simp
  obtain ⟨t, e, ht⟩ := forO_list (ref11_round_b2 (api_Space.mk S E)) (List.range S.length) (fun m t => t = m.foldl (passS E) l) l rfl (fun k x t hx ht => by
    subst ht
    have hk : k < S.length := by have := (List.getElem?_eq_some_iff.1 hx).1; omega
    have : x = k := by rw [range_take _ _ hk] at hx; cases hx; rfl
    subst this
    refine ⟨_, b2R_ok S E hE _ (by rw [foldP_len]; exact hl) x hk, ?_⟩
    rw [List.foldl_append]; rfl)
  rw [hr] at e
  simp only
  rw [e, ht]; rfl

theorem round_eq (S : List (List Int)) (E : List api_Edge) (hE : EIn E S.length) (hS : S.length ≤ 1000) : ref11_round (api_Space.mk S E) = some ((passN E S.length S.length (List.replicate S.length false)).any fun b => !b) := by
  unfold ref11_round
  have hg : gmk (S.length : Int) false = some (List.replicate S.length false) := by unfold gmk; rw [if_pos (by omega)]; simp
  simp only [hg, Option.bind_some]
  obtain ⟨t, e, ht⟩ := forO_map (ref11_round_b1 (api_Space.mk S E)) (fun k t => t = passN E S.length k (List.replicate S.length false)) S.length 0 (List.replicate S.length false) rfl (fun j t _ hj ht => by
    subst ht
    exact ⟨_, b1R_ok S E hE _ (by rw [passN_len]; simp) j, rfl⟩)
  rw [show (0 + S.length) = S.length by omega] at e ht
  rw [show ((0 : Nat) : Int) = 0 from rfl] at e
  rw [e]
  simp only [Option.bind_some]
  rw [any_run (fun b => !b) true t _ (fun j x hj => by
    simp only [ref11_round_b4, gat_nat, hj, Option.bind_some]
    cases x <;> rfl), ht]
  cases List.any _ _ <;> rfl

/-! what the rounds mark -/

def Mk (l : List Bool) (i : Nat) : Prop := l[i]? = some true

theorem passS_mono {E : List api_Edge} {l : List Bool} {i j : Nat} (h : Mk l j) : Mk (passS E l i) j := by
  unfold Mk passS at *
  rw [List.getElem?_set]
  by_cases c : i = j
  · subst c
    have := (List.getElem?_eq_some_iff.1 h).1
    rw [if_pos rfl, if_pos this, h]; rfl
  · rw [if_neg c]; exact h
theorem foldP_mono {E : List api_Edge} {j : Nat} : ∀ (r : List Nat) {l : List Bool}, Mk l j → Mk (r.foldl (passS E) l) j
  | [], _, h => h
  | i :: r, l, h => foldP_mono r (passS_mono h)

theorem adB_spec {E : List api_Edge} {l : List Bool} {i : Nat} {N : Nat} (hE : EIn E N) : adB E l i = true ↔ ∀ j, Eg E i j → Mk l j := by
  unfold adB Mk
  rw [List.all_eq_true]
  constructor
  · rintro h j ⟨e, he, h1, h2⟩
    have := h e he
    simp only [h1, ne_eq, not_true, decide_false, Bool.false_or, h2, Int.toNat_natCast] at this
    cases hx : l[j]? with
    | none => rw [hx] at this; cases this
    | some b => rw [hx] at this; simp at this; rw [this]
  · intro h e he
    by_cases c : e.From = (i : Int)
    · have h2 := (hE e he).2
      have := h e.To.toNat ⟨e, he, c, by omega⟩
      simp [this]
    · simp [c]

theorem passS_sound {E : List api_Edge} {l : List Bool} {i N : Nat} (hE : EIn E N) (h : ∀ j, Mk l j → Term E j) : ∀ j, Mk (passS E l i) j → Term E j := by
  intro j hj
  unfold Mk passS at hj
  rw [List.getElem?_set] at hj
  by_cases c : i = j
  · subst c
    rw [if_pos rfl] at hj
    split at hj
    · rename_i hlt
      simp only [Option.some.injEq, Bool.or_eq_true] at hj
      rcases hj with hj | hj
      · refine h i ?_
        unfold Mk
        cases hx : l[i]? with
        | none => rw [hx] at hj; cases hj
        | some b => rw [hx] at hj; simp at hj; rw [hj]
      · exact .mk i fun j hj' => h j ((adB_spec hE).1 hj j hj')
    · cases hj
  · rw [if_neg c] at hj; exact h j hj
theorem foldP_sound {E : List api_Edge} {N : Nat} (hE : EIn E N) : ∀ (r : List Nat) {l : List Bool}, (∀ j, Mk l j → Term E j) → ∀ j, Mk (r.foldl (passS E) l) j → Term E j
  | [], _, h => h
  | i :: r, l, h => foldP_sound hE r (passS_sound hE h)
theorem passN_sound {E : List api_Edge} {N : Nat} (hE : EIn E N) {l : List Bool} (h : ∀ j, Mk l j → Term E j) : ∀ k j, Mk (passN E N k l) j → Term E j
  | 0 => h
  | k + 1 => foldP_sound hE _ (passN_sound hE h k)

def unm (l : List Bool) : Nat := l.countP fun b => !b

theorem unm_le : ∀ {l m : List Bool}, l.length = m.length → (∀ j, Mk l j → Mk m j) → unm m ≤ unm l ∧ ((∃ j, j < l.length ∧ ¬ Mk l j ∧ Mk m j) → unm m < unm l)
  | [], [], _, _ => ⟨Nat.le_refl _, by rintro ⟨j, hj, _⟩; simp at hj⟩
  | [], _ :: _, h, _ => by simp at h
  | _ :: _, [], h, _ => by simp at h
  | a :: l, b :: m, h, hm => by
    obtain ⟨i1, i2⟩ := unm_le (l := l) (m := m) (by simpa using h) fun j hj => by have := hm (j + 1) (by simpa [Mk] using hj); simpa [Mk] using this
    have h0 := hm 0
    simp only [Mk, List.getElem?_cons_zero, Option.some.injEq] at h0
    unfold unm at *
    refine ⟨?_, ?_⟩
    · cases a <;> cases b <;> simp at h0 ⊢ <;> omega
    · rintro ⟨j, hj, h1, h2⟩
      cases j with
      | zero =>
        simp only [Mk, List.getElem?_cons_zero, Option.some.injEq] at h1 h2
        cases a <;> cases b <;> simp at h1 h2 ⊢; omega
      | succ j =>
        have := i2 ⟨j, by simpa using hj, by simpa [Mk] using h1, by simpa [Mk] using h2⟩
        cases a <;> cases b <;> simp at h0 ⊢ <;> omega

theorem unm_zero {l : List Bool} (h : unm l = 0) {j : Nat} (hj : j < l.length) : Mk l j := by
  unfold unm at h
  rw [List.countP_eq_zero] at h
  have := h l[j] (List.getElem_mem hj)
  unfold Mk
  rw [List.getElem?_eq_getElem hj]
  simpa using this

/-- Of what ends, and is not yet marked, one has all its next ones marked. -/
theorem Term.min {E : List api_Edge} {l : List Bool} {N : Nat} (hE : EIn E N) {i : Nat} (h : Term E i) : i < N → ¬ Mk l i → ∃ j, j < N ∧ ¬ Mk l j ∧ ∀ k, Eg E j k → Mk l k := by
  induction h with
  | mk i h ih =>
    intro hi hm
    by_cases c : ∀ k, Eg E i k → Mk l k
    · exact ⟨i, hi, hm, c⟩
    · simp only [Classical.not_forall] at c
      obtain ⟨k, hk, hk'⟩ := c
      refine ih k hk ?_ hk'
      obtain ⟨e, he, h1, h2⟩ := hk
      have := (hE e he).2
      omega

theorem passL_less {E : List api_Edge} {l : List Bool} {N : Nat} (hE : EIn E N) (hl : l.length = N) (hT : ∀ i, i < N → Term E i) (h : unm l ≠ 0) : unm (passL E N l) < unm l := by
  have h1 : ∃ i, i < N ∧ ¬ Mk l i := by
    refine Classical.byContradiction fun c => h ?_
    simp only [not_exists, not_and, Classical.not_not] at c
    unfold unm
    rw [List.countP_eq_zero]
    intro b hb
    obtain ⟨i, hi, rfl⟩ := List.getElem_of_mem hb
    have := c i (by omega)
    unfold Mk at this
    rw [List.getElem?_eq_getElem hi] at this
    simpa using this
  obtain ⟨i, hi, hm⟩ := h1
  obtain ⟨j, hj, hj1, hj2⟩ := (hT i hi).min hE hi hm
  refine (unm_le (m := passL E N l) (by unfold passL; rw [foldP_len]) fun k hk => foldP_mono _ hk).2 ⟨j, by omega, hj1, ?_⟩
  -- at j's turn its next ones are marked
  unfold passL
  obtain ⟨r1, r2, hr⟩ := List.append_of_mem (List.mem_range.2 hj)
  rw [hr, List.foldl_append, List.foldl_cons]
  refine foldP_mono _ ?_
  have hlt : j < (r1.foldl (passS E) l).length := by rw [foldP_len]; omega
  have : adB E (r1.foldl (passS E) l) j = true := (adB_spec hE).2 fun k hk => foldP_mono _ (hj2 k hk)
  generalize r1.foldl (passS E) l = q at hlt this
  unfold Mk passS
  rw [List.getElem?_set, if_pos rfl, if_pos hlt, this, Bool.or_true]

theorem passN_all {E : List api_Edge} {l : List Bool} {N : Nat} (hE : EIn E N) (hl : l.length = N) (hT : ∀ i, i < N → Term E i) : ∀ k, unm (passN E N k l) ≤ N - k
  | 0 => by unfold passN unm; have := List.countP_le_length (p := fun b => !b) (l := l); omega
  | k + 1 => by
    have ih := passN_all hE hl hT k
    have hlen := passN_len E N l k
    rw [passN]
    by_cases c : unm (passN E N k l) = 0
    · have := (unm_le (l := passN E N k l) (m := passL E N (passN E N k l)) (by unfold passL; rw [foldP_len]) fun j hj => foldP_mono _ hj).1
      omega
    · have := passL_less hE (by omega) hT c
      omega

theorem round_spec (S : List (List Int)) (E : List api_Edge) (hE : EIn E S.length) (hS : S.length ≤ 1000) : ∃ b, ref11_round (api_Space.mk S E) = some b ∧ (b = true ↔ ∃ j, j < S.length ∧ ¬ Term E j) := by
  refine ⟨_, round_eq S E hE hS, ?_⟩
  generalize hm : passN E S.length S.length (List.replicate S.length false) = m
  have hlen : m.length = S.length := by rw [← hm, passN_len]; simp
  constructor
  · intro h
    refine Classical.byContradiction fun c => ?_
    simp only [not_exists, not_and, Classical.not_not] at c
    have h0 := passN_all hE (l := List.replicate S.length false) (by simp) c S.length
    rw [hm] at h0
    obtain ⟨b, hb, hb'⟩ := List.any_eq_true.1 h
    obtain ⟨i, hi, rfl⟩ := List.getElem_of_mem hb
    have := unm_zero (show unm m = 0 by omega) hi
    unfold Mk at this
    rw [List.getElem?_eq_getElem hi] at this
    simp at this
    rw [this] at hb'
    cases hb'
  · rintro ⟨j, hj, hT⟩
    refine Classical.byContradiction fun c => hT ?_
    refine passN_sound hE (l := List.replicate S.length false) (N := S.length) (fun j hj => ?_) S.length j ?_
    · unfold Mk at hj; rw [List.getElem?_replicate] at hj; split at hj <;> cases hj
    · rw [hm]
      have hjl : j < m.length := by omega
      unfold Mk
      rw [List.getElem?_eq_getElem hjl]
      cases hx : m[j] with
      | true => rfl
      | false =>
        refine (c ?_).elim
        exact List.any_eq_true.2 ⟨m[j], List.getElem_mem hjl, by rw [hx]; rfl⟩
end Go.AM
