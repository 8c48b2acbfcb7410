import Derived.Test.YtkgegocfjalcbaaDoorCZ0
import Derived.Test.YtkgegocfjalcbaaDoorCZ1
/-
  Layer 21: sets of steps as words and as marks.
-/
set_option linter.unusedVariables false
set_option linter.unusedSimpArgs false
namespace Go.AM
open Go

/-- The marks of a word's first 'n' bits. -/
def bm (n w : Nat) : List Bool := (List.range n).map fun k => w.testBit k

theorem bm_len (n w : Nat) : (bm n w).length = n := by simp [bm]
theorem mapr_get {α : Type} (n : Nat) (f : Nat → α) {k : Nat} (h : k < n) : ((List.range n).map f)[k]? = some (f k) := by simp [h]
theorem bm_get {n w k : Nat} (h : k < n) : (bm n w)[k]? = some (w.testBit k) := mapr_get n _ h
theorem set_map {α : Type} (n : Nat) (f : Nat → α) (i : Nat) (b : α) : ((List.range n).map f).set i b = (List.range n).map fun k => if k = i then b else f k := by
  apply List.ext_getElem?
  intro j
  rw [List.getElem?_set]
  by_cases hj : j < n
  · rw [mapr_get n f hj, mapr_get n _ hj]
    by_cases c : i = j
    · subst c; simp [hj]
    · rw [if_neg c, if_neg (fun h => c h.symm)]
  · have h1 : ((List.range n).map f)[j]? = none := List.getElem?_eq_none (by simp; omega)
    have h2 : ((List.range n).map fun k => if k = i then b else f k)[j]? = none := List.getElem?_eq_none (by simp; omega)
    rw [h1, h2]
    by_cases c : i = j
    · subst c; simp [hj]
    · rw [if_neg c]
theorem bm_set (n w k : Nat) : (bm n w).set k true = bm n (w ||| 2 ^ k) := by
  unfold bm
  rw [set_map]
  congr 1
  funext j
  rw [Nat.testBit_or, Nat.testBit_two_pow]
  by_cases c : j = k
  · subst c; simp
  · simp [c, show ¬ k = j from fun h => c h.symm]
theorem bm_zero (n : Nat) : bm n 0 = List.replicate n false := by
  apply List.ext_getElem?
  intro j
  by_cases hj : j < n
  · rw [bm_get hj, List.getElem?_replicate, if_pos hj]; simp
  · rw [List.getElem?_eq_none (by rw [bm_len]; omega), List.getElem?_eq_none (by simp; omega)]

theorem union_ok {n : Nat} (hn : n ≤ 1000) (w v : Nat) : ref21_union (bm n w) (bm n v) = some (bm n (w ||| v)) := by
  unfold ref21_union
  rw [bm_len]
  have hg : gmk (n : Int) false = some (List.replicate n false) := by unfold gmk; rw [if_pos (by omega)]; simp
  rw [hg]
  simp only [Option.bind_some]
  obtain ⟨t, e, ht⟩ := forO_map (ref21_union_b1 (bm n w) (bm n v)) (fun i t => t = (List.range n).map fun k => decide (k < i) && (w ||| v).testBit k) n 0 (List.replicate n false) (by
    apply List.ext_getElem?
    intro j
    by_cases hj : j < n
    · rw [mapr_get n _ hj, List.getElem?_replicate, if_pos hj]; simp
    · rw [List.getElem?_eq_none (by simp; omega), List.getElem?_eq_none (by simp; omega)]) (fun i t _ hi ht => by
    subst ht
    have hi' : i < n := by omega
    have hput : ∀ b : Bool, b = (w ||| v).testBit i → gput ((List.range n).map fun k => decide (k < i) && (w ||| v).testBit k) (i : Int) b = some ((List.range n).map fun k => decide (k < i + 1) && (w ||| v).testBit k) := by
      intro b hb
      unfold gput
      rw [if_pos (by omega), if_pos (by simp; omega), Int.toNat_natCast, set_map]
      congr 2
      funext k
      by_cases c : k = i
      · subst c; simp [hb]
      · rw [if_neg c]
        by_cases d : k < i
        · simp [d, show k < i + 1 by omega]
        · simp [d, show ¬ k < i + 1 by omega]
    refine ⟨_, ?_, rfl⟩
    simp only [ref21_union_b1, gat_nat, bm_get hi', mapr_get n _ hi', Option.bind_some]
    rw [Nat.testBit_or] at hput
    cases hw : w.testBit i
    · simp only [Bool.false_eq_true, if_false]
      rw [hput _ (by rw [hw]; simp)]; rfl
    · simp only [if_true]
      rw [hput true (by rw [hw]; simp)]; rfl)
  rw [show (0 + n) = n by omega, show ((0 : Nat) : Int) = 0 from rfl] at e
  rw [e]
  simp only [Option.bind_some, Option.some.injEq]
  rw [ht]
  unfold bm
  apply List.map_congr_left
  intro k hk
  have := List.mem_range.1 hk
  simp [this]

/-- A set of steps as the program has it. -/
def St (n w : Nat) (s : List Int) : Prop := w < 2 ^ n ∧ (s = [] ∧ w = 0 ∨ s = [(w : Int)])

theorem two20 {n w : Nat} (hn : n ≤ 20) (hw : w < 2 ^ n) : w < 2 ^ 64 := by
  have : 2 ^ n ≤ 2 ^ 64 := Nat.pow_le_pow_right (by decide) (by omega)
  omega

theorem with_ok {n w v : Nat} {s t : List Int} (hn : n ≤ 20) (hs : St n w s) (ht : St n v t) : ∃ u, cause_steps_with s t = some u ∧ St n (w ||| v) u := by
  obtain ⟨hw, hs⟩ := hs
  obtain ⟨hv, ht⟩ := ht
  have hw64 := two20 hn hw
  have hv64 := two20 hn hv
  have hor : w ||| v < 2 ^ n := Nat.or_lt_two_pow hw hv
  obtain ⟨m, hm⟩ := FUEL_big 2 (by omega)
  unfold cause_steps_with slices_Clone_uint64
  rcases ht with ⟨rfl, rfl⟩ | rfl
  · refine ⟨s, ?_, hor, ?_⟩
    · rw [gapp_some (by rcases hs with ⟨rfl, rfl⟩ | rfl <;> simp)]
      simp only [Option.bind_some]
      rw [hm, whK_step]
      have hneg : ¬ ((s.length : Int) < 0) := by omega
      simp [cause_steps_with_b1, irange, forO, hneg]
    · simpa using hs
  · rcases hs with ⟨rfl, rfl⟩ | rfl
    · refine ⟨[(v : Int)], ?_, hor, .inr (by simp)⟩
      rw [gapp_some (by simp)]
      simp only [Option.bind_some]
      rw [hm, whK_step]
      simp only [Option.bind_some, List.nil_append, cause_steps_with_b1, List.length_nil, List.length_singleton]
      rw [if_pos (by simp), gapp_some (by simp)]
      simp only [Option.bind_some, List.nil_append]
      rw [whK_step]
      simp only [cause_steps_with_b1, List.length_singleton]
      rw [if_neg (by simp)]
      have h0 := orI_nat (x := 0) (y := v) (by decide) hv64
      simp at h0
      have : irange 0 1 = [0] := rfl
      simp [this, forO, cause_steps_with_b2, gat, gput, h0]
    · refine ⟨[((w ||| v : Nat) : Int)], ?_, hor, .inr rfl⟩
      rw [gapp_some (by simp)]
      simp only [Option.bind_some]
      rw [hm, whK_step]
      simp only [Option.bind_some, List.nil_append, cause_steps_with_b1, List.length_singleton]
      rw [if_neg (by simp)]
      have h0 := orI_nat hw64 hv64
      have : irange 0 1 = [0] := rfl
      simp [this, forO, cause_steps_with_b2, gat, gput, h0]

theorem and_ok {n w i : Nat} {s : List Int} (hn : n ≤ 20) (hs : St n w s) (hi : i < n) : ∃ u, cause_steps_and s i = some u ∧ St n (w ||| 2 ^ i) u := by
  have hd : (i : Int).tdiv 64 = 0 := by rw [Int.tdiv_eq_ediv_of_nonneg (by omega)]; omega
  have hmo : (i : Int).tmod 64 = (i : Int) := by rw [Int.tmod_eq_emod_of_nonneg (by omega)]; omega
  have hb := events_bitN (e := i) (by omega)
  unfold events_bit at hb
  rw [if_neg (by simp; omega)] at hb
  have hsh : shlI .u64 1 (i : Int) = some ((2 ^ i : Nat) : Int) := by
    cases hx : shlI .u64 1 (i : Int) with
    | none => rw [hx] at hb; cases hb
    | some q => rw [hx] at hb; exact hb
  have hp : 2 ^ i < 2 ^ n := Nat.pow_lt_pow_right (by decide) hi
  obtain ⟨u, e, hu⟩ := with_ok hn hs (t := [((2 ^ i : Nat) : Int)]) (v := 2 ^ i) ⟨hp, .inr rfl⟩
  refine ⟨u, ?_, hu⟩
  unfold cause_steps_and
  rw [hd, hmo, hsh]
  have w0 : IntKind.i64.wrap 0 = 0 := rfl
  have w1 : IntKind.i64.wrap (0 + 1) = 1 := rfl
  have hg : gmk (1 : Int) (0 : Int) = some [0] := rfl
  rw [w0, w1, hg]
  simp only [Option.bind_some]
  have g1 : gat [(0 : Int)] 0 = some 0 := rfl
  have g2 : gput [(0 : Int)] 0 ((2 ^ i : Nat) : Int) = some [((2 ^ i : Nat) : Int)] := rfl
  rw [g1]
  simp only [Option.bind_some]
  rw [g2]
  simp only [Option.bind_some]
  rw [e]; rfl

/-! lists -/

theorem and_pred {x e : Nat} (h0 : x ≠ 0) (h1 : x.testBit e = true) (h2 : ∀ j, j < e → x.testBit j = false) : x &&& (x - 1) = sub64 x (2 ^ e) := by
  have hmod : x % 2 ^ e = 0 := by
    apply Nat.eq_of_testBit_eq
    intro i
    rw [Nat.testBit_mod_two_pow, Nat.zero_testBit]
    by_cases c : i < e
    · simp [h2 i c]
    · simp [c]
  have hodd : x / 2 ^ e % 2 = 1 := by simpa [Nat.testBit_eq_decide_div_mod_eq] using h1
  have hp : 0 < 2 ^ e := Nat.two_pow_pos e
  have hd := Nat.div_add_mod x (2 ^ e)
  rw [hmod, Nat.add_zero] at hd
  have hx1 : x - 1 = 2 ^ e * (x / 2 ^ e - 1) + (2 ^ e - 1) := by
    generalize x / 2 ^ e = q at *
    obtain ⟨r, rfl⟩ : ∃ r, q = r + 1 := ⟨q - 1, by omega⟩
    rw [← hd, Nat.mul_add, Nat.mul_one, Nat.add_sub_cancel]
    omega
  apply Nat.eq_of_testBit_eq
  intro i
  rw [Nat.testBit_and, sub64_bit, Nat.testBit_two_pow, hx1, Nat.testBit_two_pow_mul_add _ (by omega)]
  by_cases c : i < e
  · simp [h2 i c]
  · rw [if_neg c]
    obtain ⟨d, rfl⟩ : ∃ d, i = e + d := ⟨i - e, by omega⟩
    rw [Nat.add_sub_cancel_left]
    have hxt : x.testBit (e + d) = (x / 2 ^ e).testBit d := by rw [Nat.testBit_div_two_pow, Nat.add_comm]
    rw [hxt]
    generalize x / 2 ^ e = q at *
    cases d with
    | zero =>
      have : (q - 1).testBit 0 = false := by simp [Nat.testBit_zero]; omega
      rw [this]; simp
    | succ d =>
      have e2 : (q - 1).testBit (d + 1) = q.testBit (d + 1) := by
        rw [Nat.testBit_succ, Nat.testBit_succ]; congr 1; omega
      rw [e2]
      cases q.testBit (d + 1) <;> simp

theorem list_b2 : ∀ (f : Nat) (x : Nat) (l : List Int), x < 2 ^ 64 → (bits x).length < f → l.length + (bits x).length ≤ 1000 → whK (cause_steps_list_b2 0) f (l, (x : Int)) = some (l ++ castL (bits x), 0)
  | 0, x, l, _, h, _ => by omega
  | f + 1, x, l, hx, hf, hl => by
    rw [whK_step]
    simp only [cause_steps_list_b2]
    by_cases c : x = 0
    · subst c
      rw [if_neg (by simp)]
      have : bits 0 = [] := by unfold bits; rw [List.filter_eq_nil_iff]; simp
      simp [this, castL]
    · rw [if_pos (by simpa using c)]
      cases hb : bits x with
      | nil => exact (bits_ne hx c hb).elim
      | cons e r =>
        obtain ⟨h1, h2, h3⟩ := low_bits hb
        rw [tz_ok hx hb]
        simp only [Option.bind_some]
        have hw : IntKind.i64.wrap (IntKind.i64.wrap (64 * 0) + (e : Int)) = (e : Int) := by
          have : IntKind.i64.wrap (64 * 0) = 0 := rfl
          rw [this, w_i64 (by omega) (by omega)]; omega
        rw [hw, gapp_some (by simp; omega)]
        simp only [Option.bind_some]
        have hw2 : IntKind.u64.wrap ((x : Int) - 1) = ((x - 1 : Nat) : Int) := by
          rw [w_u64]; omega
        rw [hw2, andI_nat hx (by omega), and_pred c h2 h3]
        have hr := sub_bits hb
        rw [hb] at hf hl
        simp only [List.length_cons] at hf hl
        rw [list_b2 f (sub64 x (2 ^ e)) _ (sub64_lt hx _) (by rw [hr]; omega) (by rw [hr]; simp; omega), hr]
        simp [castL]

theorem list_ok {n w : Nat} {s : List Int} (hn : n ≤ 20) (hs : St n w s) : cause_steps_list s = some (castL (bits w)) := by
  obtain ⟨hw, hs⟩ := hs
  have hw64 := two20 hn hw
  unfold cause_steps_list
  rcases hs with ⟨rfl, rfl⟩ | rfl
  · have : bits 0 = [] := by unfold bits; rw [List.filter_eq_nil_iff]; simp
    rw [this]; rfl
  · obtain ⟨m, hm⟩ := FUEL_big 100 (by omega)
    have hb := bits_len w
    have := list_b2 FUEL w [] hw64 (by omega) (by simp; omega)
    have hi : irange 0 (([(w : Int)] : List Int).length : Int) = [0] := rfl
    rw [hi]
    simp only [forO, cause_steps_list_b1]
    have g1 : gat [(w : Int)] 0 = some (w : Int) := rfl
    rw [g1]
    simp only [Option.bind_some]
    rw [this]
    simp
end Go.AM
