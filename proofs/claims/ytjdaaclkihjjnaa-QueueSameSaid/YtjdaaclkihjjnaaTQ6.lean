import Derived.Test.YtjdaaclkihjjnaaAmN6
import Derived.Test.YtjdaaclkihjjnaaQsT
/-
  Queues as lists.
-/
set_option linter.unusedVariables false
set_option linter.unusedSimpArgs false
namespace Go.AM
open Go

def zItem : api_Item := api_Item.mk 0 (⟨#[]⟩ : ByteArray) 0

/-- a queue in a ring is a list -/
structure QR (q : queue_Queue) (r : ref16_Queue) : Prop where
  len : r.Places = (q.ring.length : Int)
  small : q.ring.length ≤ 64
  f0 : 0 ≤ q.first
  f1 : q.first < (q.ring.length : Int) ∨ q.first = 0
  n : q.n_ = (r.L.length : Int)
  nle : r.L.length ≤ q.ring.length
  at_ : ∀ i, i < r.L.length → q.ring[(q.first.toNat + i) % q.ring.length]? = r.L[i]?
  lost : q.lost = r.Lost

theorem place_eq {q : queue_Queue} {r : ref16_Queue} (h : QR q r) {i : Nat} (hi : i ≤ 64) (hp : 0 < q.ring.length) : queue_Queue_place q (i : Int) = some (((q.first.toNat + i) % q.ring.length : Nat) : Int) := by
  obtain ⟨len, small, f0, f1, n, nle, at_, lost⟩ := h
  unfold queue_Queue_place
  have hf : q.first ≤ 64 := by omega
  rw [wrap_i64 (by omega) (by omega)]
  unfold remI
  rw [if_neg (by omega), Int.tmod_eq_emod_of_nonneg (by omega)]
  simp only [Option.bind_some]
  congr 1
  have e : q.first + (i : Int) = ((q.first.toNat + i : Nat) : Int) := by omega
  rw [e]
  rfl

theorem at_eq {q : queue_Queue} {r : ref16_Queue} (h : QR q r) {i : Int} (h0 : -1 ≤ i) (h1 : i ≤ 64) : queue_Queue_At q i = some (if 0 ≤ i then r.L.getD i.toNat zItem else zItem, decide (0 ≤ i ∧ i < (r.L.length : Int))) := by
  have hq := h
  obtain ⟨len, small, f0, f1, n, nle, at_, lost⟩ := h
  unfold queue_Queue_At
  by_cases hc : i < 0 ∨ (r.L.length : Int) ≤ i
  · rw [if_pos (by rw [n]; simpa using hc)]
    congr 2
    · by_cases h3 : 0 ≤ i
      · rw [if_pos h3, List.getD_eq_getElem?_getD, List.getElem?_eq_none (by omega)]; rfl
      · rw [if_neg h3]; rfl
    · symm; rw [decide_eq_false_iff_not]; omega
  · rw [if_neg (by rw [n]; simpa using hc)]
    have hi : i = (i.toNat : Int) := by omega
    have hlt : i.toNat < r.L.length := by omega
    have pe := place_eq hq (i := i.toNat) (by omega) (by omega)
    rw [← hi] at pe
    rw [pe]
    simp only [Option.bind_some]
    have hg : gat q.ring (((q.first.toNat + i.toNat) % q.ring.length : Nat) : Int) = some (r.L.getD i.toNat zItem) := by
      unfold gat
      rw [if_pos (by omega), Int.toNat_natCast, at_ _ hlt, List.getD_eq_getElem?_getD, List.getElem?_eq_getElem hlt]
      rfl
    rw [hg]
    simp only [Option.bind_some]
    rw [if_pos (by omega)]
    congr 2
    symm; rw [decide_eq_true_iff]; omega

theorem mod_ne {f i j P : Nat} (hi : i < P) (hj : j < P) (h : i ≠ j) : (f + i) % P ≠ (f + j) % P := by
  intro e
  apply h
  have e1 : (f + i) % P = (f % P + i) % P := by rw [Nat.mod_add_mod]
  have e2 : (f + j) % P = (f % P + j) % P := by rw [Nat.mod_add_mod]
  rw [e1, e2] at e
  have hf : f % P < P := Nat.mod_lt _ (by omega)
  generalize f % P = g at *
  rcases Nat.lt_or_ge (g + i) P with a | a <;> rcases Nat.lt_or_ge (g + j) P with b | b
  · rw [Nat.mod_eq_of_lt a, Nat.mod_eq_of_lt b] at e; omega
  · rw [Nat.mod_eq_of_lt a, Nat.mod_eq_sub_mod b, Nat.mod_eq_of_lt (by omega)] at e; omega
  · rw [Nat.mod_eq_sub_mod a, Nat.mod_eq_of_lt (show g + i - P < P by omega), Nat.mod_eq_of_lt b] at e; omega
  · rw [Nat.mod_eq_sub_mod a, Nat.mod_eq_of_lt (show g + i - P < P by omega), Nat.mod_eq_sub_mod b, Nat.mod_eq_of_lt (show g + j - P < P by omega)] at e; omega

theorem push_eq {q : queue_Queue} {r : ref16_Queue} (h : QR q r) (x : api_Item) : ∃ c q' r', queue_Queue_Push q x = some (c, q') ∧ ref16_Queue_Push r x = some (r', c) ∧ QR q' r' := by
  have hq := h
  obtain ⟨len, small, f0, f1, n, nle, at_, lost⟩ := h
  unfold queue_Queue_Push ref16_Queue_Push
  by_cases hc : r.L.length = q.ring.length
  · rw [if_pos (by rw [n, hc]; simp), if_pos (by rw [len, hc]; simp)]
    exact ⟨_, _, _, rfl, rfl, ⟨len, small, f0, f1, n, nle, at_, by show IntKind.i64.wrap (q.lost + 1) = _; rw [lost]⟩⟩
  · rw [if_neg (by rw [n]; simp; omega), if_neg (by rw [len]; simp; omega)]
    have hp : 0 < q.ring.length := by omega
    rw [n, place_eq hq (by omega) hp]
    simp only [Option.bind_some]
    have hm : (q.first.toNat + r.L.length) % q.ring.length < q.ring.length := Nat.mod_lt _ hp
    have hg : gat q.ring (((q.first.toNat + r.L.length) % q.ring.length : Nat) : Int) = some (q.ring[(q.first.toNat + r.L.length) % q.ring.length]'hm) := by
      unfold gat
      rw [if_pos (by omega), Int.toNat_natCast, List.getElem?_eq_getElem hm]
    have hs : gput q.ring (((q.first.toNat + r.L.length) % q.ring.length : Nat) : Int) x = some (q.ring.set ((q.first.toNat + r.L.length) % q.ring.length) x) := by
      unfold gput
      rw [if_pos (by omega), Int.toNat_natCast, if_pos hm]
    rw [hg, hs]
    simp only [Option.bind_some]
    have ga : gapp ([] : List api_Item) r.L = some r.L := by unfold gapp; rw [if_pos (by simp; omega)]; rfl
    have gb : gapp r.L [x] = some (r.L ++ [x]) := by unfold gapp; rw [if_pos (by simp; omega)]
    rw [ga]; simp only [Option.bind_some]
    rw [gb]; simp only [Option.bind_some]
    refine ⟨_, _, _, rfl, rfl, ⟨?_, ?_, f0, ?_, ?_, ?_, ?_, lost⟩⟩
    · simpa using len
    · simpa using small
    · simpa using f1
    · show IntKind.i64.wrap ((r.L.length : Int) + 1) = _
      rw [wrap_i64 (by omega) (by omega)]; simp
    · simp; omega
    · intro i hi
      simp only [List.length_append, List.length_cons, List.length_nil] at hi
      simp only [List.length_set]
      by_cases hin : i = r.L.length
      · subst hin
        rw [List.getElem?_set_self hm]; simp
      · rw [List.getElem?_set_ne (mod_ne (by omega) (by omega) (fun e => hin e.symm)), at_ i (by omega), List.getElem?_append_left (by omega)]

theorem pop_eq {q : queue_Queue} {r : ref16_Queue} (h : QR q r) : ∃ x ok q' r', queue_Queue_Pop q = some (x, ok, q') ∧ ref16_Queue_Pop r = some (r', x, ok) ∧ QR q' r' := by
  have hq := h
  obtain ⟨len, small, f0, f1, n, nle, at_, lost⟩ := h
  have h0 := at_eq hq (i := 0) (by omega) (by omega)
  unfold queue_Queue_Pop ref16_Queue_Pop
  cases hL : r.L with
  | nil =>
    have e0 : queue_Queue_At q 0 = some (zItem, false) := by rw [h0, hL]; rfl
    rw [e0]
    simp only [Option.bind_some, Bool.false_eq_true, if_false]
    rw [if_pos (by rfl)]
    refine ⟨_, _, _, _, rfl, ?_, hq⟩
    rfl
  | cons x L =>
    have hn1 : 0 < r.L.length := by rw [hL]; simp
    have hp : 0 < q.ring.length := by omega
    have hfl : q.first.toNat < q.ring.length := by omega
    have hf : q.first = (q.first.toNat : Int) := by omega
    have e0 : queue_Queue_At q 0 = some (x, true) := by
      rw [h0, hL]
      simp
    rw [e0]
    simp only [Option.bind_some, if_true]
    have hg : gat q.ring q.first = some (q.ring[q.first.toNat]'hfl) := by
      unfold gat
      rw [if_pos f0, List.getElem?_eq_getElem hfl]
    have hs : gput q.ring q.first (api_Item.mk 0 (⟨#[]⟩ : ByteArray) 0) = some (q.ring.set q.first.toNat zItem) := by
      unfold gput
      rw [if_pos f0, if_pos hfl]; rfl
    rw [hg, hs]
    simp only [Option.bind_some]
    have hpl : queue_Queue_place (queue_Queue.mk (q.ring.set q.first.toNat zItem) q.first q.n_ q.lost) 1 = some (((q.first.toNat + 1) % q.ring.length : Nat) : Int) := by
      have hq1 : QR (queue_Queue.mk (q.ring.set q.first.toNat zItem) q.first 0 q.lost) ⟨r.Places, [], r.Lost⟩ := ⟨by simpa using len, by simpa using small, f0, by simpa using f1, rfl, by simp, fun i hi => by simp at hi, lost⟩
      have := place_eq hq1 (i := 1) (by omega) (by simpa using hp)
      simpa [queue_Queue_place] using this
    rw [hpl]
    simp only [Option.bind_some]
    have hif : ((((x :: L).length : Nat) : Int) == 0) = false := by simp; omega
    rw [if_neg (by rw [hif]; simp)]
    have g0 : gat (x :: L) 0 = some x := rfl
    have g1 : gcut (x :: L) 1 (((x :: L).length : Nat) : Int) = some L := by
      unfold gcut
      rw [if_pos (by simp; omega)]
      simp
    rw [g0, g1]
    simp only [Option.bind_some]
    refine ⟨_, _, _, _, rfl, rfl, ⟨?_, ?_, ?_, ?_, ?_, ?_, ?_, lost⟩⟩
    · simpa using len
    · simpa using small
    · show (0 : Int) ≤ ((_ : Nat) : Int); omega
    · left
      show (((q.first.toNat + 1) % q.ring.length : Nat) : Int) < _
      have := Nat.mod_lt (q.first.toNat + 1) hp
      show _ < ((q.ring.set q.first.toNat zItem).length : Int)
      rw [List.length_set]; omega
    · show IntKind.i64.wrap (q.n_ - 1) = (L.length : Int)
      rw [hL] at n nle
      simp at n nle
      rw [n, wrap_i64 (by omega) (by omega)]
      omega
    · rw [hL] at nle; simp at nle ⊢; omega
    · intro i hi
      rw [hL] at nle at_
      simp only [List.length_cons] at nle at_
      have hi' : i < L.length := hi
      simp only [List.length_set, Int.toNat_natCast]
      have e : ((q.first.toNat + 1) % q.ring.length + i) % q.ring.length = (q.first.toNat + (i + 1)) % q.ring.length := by
        rw [Nat.mod_add_mod]; congr 1; omega
      rw [e]
      have hne : q.first.toNat ≠ (q.first.toNat + (i + 1)) % q.ring.length := by
        have := mod_ne (f := q.first.toNat) (i := 0) (j := i + 1) (P := q.ring.length) hp (by omega) (by omega)
        rw [Nat.add_zero, Nat.mod_eq_of_lt hfl] at this
        exact this
      rw [List.getElem?_set_ne hne, at_ (i + 1) (by omega), List.getElem?_cons_succ]

theorem new_eq (a0 : Int) : ∃ q r, queue_New a0 = some q ∧ ref16_New a0 = some r ∧ QR q r := by
  unfold queue_New ref16_New
  have hb : 0 ≤ imin (imax a0 0) 64 ∧ imin (imax a0 0) 64 ≤ 64 := by
    unfold imin imax; split <;> split <;> omega
  generalize imin (imax a0 0) 64 = m at hb
  have hm : gmk m (api_Item.mk 0 (⟨#[]⟩ : ByteArray) 0) = some (List.replicate m.toNat zItem) := by
    unfold gmk; rw [if_pos (by omega)]; rfl
  rw [hm]
  simp only [Option.bind_some]
  refine ⟨_, _, rfl, rfl, ⟨?_, ?_, by show (0 : Int) ≤ 0; omega, .inr rfl, rfl, by simp, fun i hi => by simp at hi, rfl⟩⟩
  · simp; omega
  · simp; omega

theorem FUEL_big (k : Nat) (h : k ≤ 1000000) : ∃ m, FUEL = m + k := ⟨FUEL - k, by unfold FUEL; omega⟩

theorem awake16 : law16_awake = some true := by decide +kernel

end Go.AM
