import Derived.Test.YtjdaaclkihjjnaaTQ4
/-
  Plain law: QueueOrder, its end.
-/
set_option linter.unusedVariables false
set_option linter.unusedSimpArgs false
namespace Go.AM
open Go

theorem at_neg {q : queue_Queue} {i : Int} (h : i < 0) : queue_Queue_At q i = some (zItem, false) := by
  unfold queue_Queue_At
  rw [if_pos (by simp [h])]
  rfl

theorem end_step {q : queue_Queue} {r : ref16_Queue} (h : QR q r) {ins outs : List api_Item} (hi : ins = outs ++ r.L) (ho : outs.length ≤ 100000) {i : Int} (h0 : 0 ≤ i) (h1 : i < (ins.length : Int)) : law16_QueueOrder_b2 q.ring q.first q.n_ q.lost ins outs i () = some (.next ()) := by
  have hn := h.nle; have hs := h.small
  have hlen : ins.length = outs.length + r.L.length := by rw [hi]; simp
  unfold law16_QueueOrder_b2
  have hlt : i.toNat < ins.length := by omega
  have hg : gat ins i = some ins[i.toNat] := by unfold gat; rw [if_pos h0, List.getElem?_eq_getElem hlt]
  rw [hg]
  simp only [Option.bind_some]
  rw [wrap_i64 (by omega) (by omega)]
  by_cases hc : i < (outs.length : Int)
  · have hd : decide (i < (outs.length : Int)) = true := by simpa using hc
    have hd2 : decide (i ≥ (outs.length : Int)) = false := by simp; omega
    have hg2 : gat outs i = some ins[i.toNat] := by
      unfold gat
      rw [if_pos h0, ← List.getElem?_eq_getElem hlt, hi, List.getElem?_append_left (by omega)]
    rw [if_pos hd, hg2]
    simp only [Option.bind_some]
    rw [if_neg (by simp), show queue_Queue.mk q.ring q.first q.n_ q.lost = q from rfl, at_neg (by omega)]
    simp only [Option.bind_some, hd2]
    rfl
  · have hd : decide (i < (outs.length : Int)) = false := by simpa using hc
    rw [if_neg (by rw [hd]; simp)]
    simp only [Option.bind_some]
    rw [if_neg (by simp), show queue_Queue.mk q.ring q.first q.n_ q.lost = q from rfl, at_eq h (by omega) (by omega)]
    simp only [Option.bind_some]
    have e1 : decide (0 ≤ i - (outs.length : Int) ∧ i - (outs.length : Int) < (r.L.length : Int)) = true := by simp; omega
    have e2 : (if 0 ≤ i - (outs.length : Int) then r.L.getD (i - (outs.length : Int)).toNat zItem else zItem) = ins[i.toNat] := by
      rw [if_pos (by omega)]
      have : ins[i.toNat]? = r.L[(i - (outs.length : Int)).toNat]? := by
        rw [hi, List.getElem?_append_right (by omega)]
        congr 1; omega
      rw [List.getD_eq_getElem?_getD, ← this, List.getElem?_eq_getElem hlt]; rfl
    rw [e1, e2]
    simp

theorem end_loop {q : queue_Queue} {r : ref16_Queue} (h : QR q r) {ins outs : List api_Item} (hi : ins = outs ++ r.L) (ho : outs.length ≤ 100000) : ∀ (l : List Int), (∀ i ∈ l, 0 ≤ i ∧ i < (ins.length : Int)) → forR (law16_QueueOrder_b2 q.ring q.first q.n_ q.lost ins outs) l () = some (.done ())
  | [], _ => rfl
  | i :: l, hl => by
    obtain ⟨h0, h1⟩ := hl i (by simp)
    simp only [forR]
    rw [end_step h hi ho h0 h1]
    exact end_loop h hi ho l (fun j hj => hl j (by simp [hj]))

theorem in_range {n : Nat} : ∀ i ∈ irange 0 (n : Int), 0 ≤ i ∧ i < (n : Int) := by
  intro i hi
  unfold irange at hi
  obtain ⟨j, hj, rfl⟩ := List.mem_map.1 hi
  have := List.mem_range.1 hj
  omega

theorem law_order (a0 : Int) (a1 : List law16_Act) : law16_QueueOrder a0 a1 = some true := by
  unfold law16_QueueOrder
  rw [awake16]; simp only [Option.bind_some]
  rw [if_neg (by decide)]
  by_cases hs : decide ((a1.length : Int) > 200) = true
  · rw [if_pos hs]
  rw [if_neg hs]
  have hs' : a1.length ≤ 200 := by simp at hs; omega
  obtain ⟨q, r, h1, h2, h3⟩ := new_eq a0
  have hL : r.L = [] ∧ r.Lost = 0 := by
    unfold ref16_New at h2
    cases h2; exact ⟨rfl, rfl⟩
  rw [h1]; simp only [Option.bind_some]
  have hr := in_range (n := a1.length)
  have hlen : (irange 0 (a1.length : Int)).length = a1.length := by simp [irange]
  rcases order_loop a1 _ 0 (by rw [hlen]; omega) hr (q := q) (ins := []) (outs := []) (asked := 0) ⟨r, h3, by rw [hL.1]; rfl, by rw [hL.1, hL.2]; rfl, by rw [hL.2]; omega, by omega⟩ with e | ⟨q', ins, outs, asked, hI, e⟩
  · rw [e]; rfl
  · rw [e]
    simp only [Option.bind_some]
    obtain ⟨r', hq, hi, ha, hl, hak⟩ := hI.ex
    have hn := hq.nle; have hsm := hq.small
    simp only [queue_Queue_Len, queue_Queue_Lost, Option.bind_some, hq.n, hq.lost]
    have hil : (ins.length : Int) = (outs.length : Int) + (r'.L.length : Int) := by rw [hi]; simp
    rw [wrap_i64 (n := (outs.length : Int) + (r'.L.length : Int)) (by omega) (by omega), wrap_i64 (by omega) (by omega)]
    rw [if_neg (by simp; omega)]
    have := end_loop hq hi (by omega) _ (in_range (n := ins.length))
    rw [← hq.n, ← hq.lost, this]
    rfl

end Go.AM
