import Derived.Test.YtjdaaclkihjjnaaTQ6
/-
  Plain law: QueueSame.
-/
set_option linter.unusedVariables false
set_option linter.unusedSimpArgs false
namespace Go.AM
open Go

theorem gat_nat {α : Type} (l : List α) (i : Nat) : gat l (i : Int) = l[i]? := by
  unfold gat; rw [if_pos (by omega), Int.toNat_natCast]

theorem irange_nat (n : Nat) : irange 0 (n : Int) = (List.range n).map fun (i : Nat) => (i : Int) := by
  unfold irange; simp

/-- a look at each place -/
theorem same_loop {q q' : queue_Queue} {r r' : ref16_Queue} (h : QR q r) (h' : QR q' r') (hl : r.L.length = r'.L.length) : ∀ (l : List Nat), (∀ i ∈ l, i < r.L.length) →
    forR (queue_Queue_Same_b1 q q') (l.map fun (i : Nat) => (i : Int)) () = some (if ∀ i ∈ l, r.L[i]? = r'.L[i]? then .done () else .ret false)
  | [], _ => by simp [forR]
  | i :: l, hb => by
    have hi := hb i (by simp)
    have h64 : r.L.length ≤ 64 := Nat.le_trans h.nle h.small
    have e1 : r.L[i]? = some (r.L.getD i zItem) := by rw [List.getD_eq_getElem?_getD, List.getElem?_eq_getElem hi]; rfl
    have e2 : r'.L[i]? = some (r'.L.getD i zItem) := by rw [List.getD_eq_getElem?_getD, List.getElem?_eq_getElem (by omega)]; rfl
    have e : queue_Queue_Same_b1 q q' (i : Int) () = some (if r.L.getD i zItem = r'.L.getD i zItem then .next () else .ret false) := by
      unfold queue_Queue_Same_b1
      rw [at_eq h (by omega) (by omega), at_eq h' (by omega) (by omega)]
      simp only [Option.bind_some]
      have z0 : (0 : Int) ≤ (i : Int) := by omega
      rw [if_pos z0, if_pos z0]
      simp only [Int.toNat_natCast]
      by_cases he : r.L.getD i zItem = r'.L.getD i zItem
      · rw [if_pos he, if_neg (by simp only [Bool.not_eq_true', beq_eq_false_iff_ne]; exact fun g => g he)]
      · rw [if_neg he, if_pos (by simp only [Bool.not_eq_true', beq_eq_false_iff_ne]; exact he)]
    simp only [List.map_cons, forR]
    rw [e]
    simp only [Option.bind_some]
    by_cases he : r.L.getD i zItem = r'.L.getD i zItem
    · rw [if_pos he]
      simp only
      rw [same_loop h h' hl l (fun i hi => hb i (by simp [hi]))]
      congr 1
      have : (∀ j ∈ i :: l, r.L[j]? = r'.L[j]?) ↔ ∀ j ∈ l, r.L[j]? = r'.L[j]? := by
        constructor
        · exact fun g j hj => g j (by simp [hj])
        · intro g j hj
          rcases List.mem_cons.1 hj with rfl | hj
          · rw [e1, e2, he]
          · exact g j hj
      simp only [this]
    · rw [if_neg he]
      simp only
      rw [if_neg]
      intro g
      have := g i (by simp)
      rw [e1, e2] at this
      exact he (Option.some.inj this)

def QS (r r' : ref16_Queue) : Bool := decide (r.L = r'.L ∧ r.Lost = r'.Lost)

theorem all_get {α : Type} {l m : List α} (hl : l.length = m.length) : (∀ i ∈ List.range l.length, l[i]? = m[i]?) ↔ l = m := by
  constructor
  · intro g
    apply List.ext_getElem? 
    intro i
    rcases Nat.lt_or_ge i l.length with h | h
    · exact g i (List.mem_range.2 h)
    · rw [List.getElem?_eq_none h, List.getElem?_eq_none (by omega)]
  · rintro rfl i _; rfl

theorem same_eq {q q' : queue_Queue} {r r' : ref16_Queue} (h : QR q r) (h' : QR q' r') : queue_Queue_Same q q' = some (QS r r') := by
  unfold queue_Queue_Same queue_Queue_Len queue_Queue_Lost
  simp only [Option.bind_some]
  rw [h.n, h'.n, h.lost, h'.lost]
  by_cases hl : r.L.length = r'.L.length
  · rw [if_neg (by simp [hl])]
    simp only [Option.bind_some]
    by_cases ho : r.Lost = r'.Lost
    · rw [if_neg (by simp [ho]), irange_nat, same_loop h h' hl _ (fun i hi => List.mem_range.1 hi)]
      simp only [all_get hl]
      unfold QS
      by_cases he : r.L = r'.L
      · rw [if_pos he]; simp [he, ho]
      · rw [if_neg he]; simp [he]
    · rw [if_pos (by simp [ho])]; simp [QS, ho]
  · rw [if_pos (by simp; omega)]
    simp only [Option.bind_some]
    rw [if_pos trivial]
    have : r.L ≠ r'.L := fun e => hl (by rw [e])
    simp [QS, this]

theorem same_nil {q : queue_Queue} {r : ref16_Queue} (h : QR q r) : queue_Queue_Same_nil1 q = some (decide (r.L = [] ∧ r.Lost = 0)) := by
  unfold queue_Queue_Same_nil1 queue_Queue_Len queue_Queue_Lost queue_Queue_Len_nil1 queue_Queue_Lost_nil1
  simp only [Option.bind_some]
  rw [h.n, h.lost]
  by_cases hl : r.L = []
  · rw [if_neg (by simp [hl])]
    simp only [Option.bind_some]
    by_cases ho : r.Lost = 0
    · rw [if_neg (by simp [ho])]
      simp [irange, forR, hl, ho]
    · rw [if_pos (by simp [Ne.symm ho])]; simp [ho]
  · have : 0 < r.L.length := List.length_pos_iff.2 hl
    rw [if_pos (by simp; omega)]
    simp [hl]

theorem b3_stop (a0 : A2 Int) (a1 : List law16_Act) (z : A2 ref16_Queue) (y : Bool) (i : Int) (h : (y && decide (i < (z.a0.L.length : Int))) = false) : law16_QueueSame_b3 a0 a1 z (y, i) = some (.inr (y, i)) := by
  unfold law16_QueueSame_b3
  show (if _ then _ else _) = _
  rw [if_neg (by rw [h]; simp)]

/-- the reference's look -/
theorem ref_loop (a0 : A2 Int) (a1 : List law16_Act) (z : A2 ref16_Queue) (hl : z.a0.L.length = z.a1.L.length) (h64 : z.a0.L.length ≤ 64) : ∀ (k i : Nat) (m : Nat), i + k = z.a0.L.length → (∀ j, j < i → z.a0.L[j]? = z.a1.L[j]?) →
    ∃ n, whK (law16_QueueSame_b3 a0 a1 z) (m + k + 2) (true, (i : Int)) = some (decide (z.a0.L = z.a1.L), n)
  | 0, i, m, hi, hb => by
    refine ⟨(i : Int), ?_⟩
    simp only [whK]
    rw [b3_stop a0 a1 z true i (by simp; omega)]
    simp only [Option.bind_some]
    have : z.a0.L = z.a1.L := (all_get hl).1 fun j hj => hb j (by have := List.mem_range.1 hj; omega)
    simp [this]
  | k + 1, i, m, hi, hb => by
    have hlt : i < z.a0.L.length := by omega
    rw [show m + (k + 1) + 2 = (m + k + 2) + 1 by omega]
    simp only [whK]
    have e : law16_QueueSame_b3 a0 a1 z (true, (i : Int)) = some (.inl (z.a0.L[i] == z.a1.L[i]'(by omega), ((i + 1 : Nat) : Int))) := by
      unfold law16_QueueSame_b3
      show (if _ then _ else _) = _
      rw [if_pos (by simp; omega), gat_nat, gat_nat, List.getElem?_eq_getElem hlt, List.getElem?_eq_getElem (by omega)]
      simp only [Option.bind_some]
      rw [wrap_i64 (by omega) (by omega)]
      rfl
    rw [e]
    simp only [Option.bind_some]
    by_cases he : z.a0.L[i] = z.a1.L[i]'(by omega)
    · rw [show (z.a0.L[i] == z.a1.L[i]'(by omega)) = true by simp [he]]
      refine ref_loop a0 a1 z hl h64 k (i + 1) m (by omega) fun j hj => ?_
      rcases Nat.lt_or_ge j i with h | h
      · exact hb j h
      · obtain rfl : j = i := by omega
        rw [List.getElem?_eq_getElem hlt, List.getElem?_eq_getElem (by omega), he]
    · rw [show (z.a0.L[i] == z.a1.L[i]'(by omega)) = false by simp [he]]
      have hne : z.a0.L ≠ z.a1.L := fun g => he (by simp [g])
      refine ⟨((i + 1 : Nat) : Int), ?_⟩
      rw [b3_stop a0 a1 z false _ (by simp)]
      simp [hne]

theorem ref_same (a0 : A2 Int) (a1 : List law16_Act) (z : A2 ref16_Queue) (h64 : z.a0.L.length ≤ 64) :
    ∃ n, whK (law16_QueueSame_b3 a0 a1 z) FUEL ((((z.a0.L.length : Int) == (z.a1.L.length : Int)) && (z.a0.Lost == z.a1.Lost)), 0) = some (QS z.a0 z.a1, n) := by
  by_cases hl : z.a0.L.length = z.a1.L.length
  · by_cases ho : z.a0.Lost = z.a1.Lost
    · obtain ⟨m, hm⟩ := FUEL_big (z.a0.L.length + 2) (by omega)
      obtain ⟨n, hn⟩ := ref_loop a0 a1 z hl h64 z.a0.L.length 0 m (by omega) (fun j hj => by omega)
      refine ⟨n, ?_⟩
      rw [show (((z.a0.L.length : Int) == (z.a1.L.length : Int)) && (z.a0.Lost == z.a1.Lost)) = true by simp [hl, ho], hm, ← Nat.add_assoc]
      simpa [QS, ho] using hn
    · obtain ⟨m, hm⟩ := FUEL_big 1 (by omega)
      refine ⟨0, ?_⟩
      rw [show (((z.a0.L.length : Int) == (z.a1.L.length : Int)) && (z.a0.Lost == z.a1.Lost)) = false by simp [ho], hm]
      simp only [whK]
      rw [b3_stop a0 a1 z false _ (by simp)]
      simp [QS, ho]
  · obtain ⟨m, hm⟩ := FUEL_big 1 (by omega)
    refine ⟨0, ?_⟩
    rw [show (((z.a0.L.length : Int) == (z.a1.L.length : Int)) && (z.a0.Lost == z.a1.Lost)) = false by simp; omega, hm]
    simp only [whK]
    rw [b3_stop a0 a1 z false _ (by simp)]
    have : z.a0.L ≠ z.a1.L := fun e => hl (by rw [e])
    simp [QS, this]

theorem acts1 (a0 : A2 Int) (a1 acts : List law16_Act) (o : ref16_Queue) : ∀ (l : List Nat), (∀ i ∈ l, i < acts.length) → ∀ {q : queue_Queue} {r : ref16_Queue}, QR q r →
    ∃ q' r', forO (law16_QueueSame_b1 a0 a1 acts) (l.map fun (i : Nat) => (i : Int)) (q.ring, q.first, q.n_, q.lost, A2.mk r o) = some (q'.ring, q'.first, q'.n_, q'.lost, A2.mk r' o) ∧ QR q' r'
  | [], _, q, r, h => ⟨q, r, by simp [forO], h⟩
  | i :: l, hb, q, r, h => by
    have hi := hb i (by simp)
    simp only [List.map_cons, forO]
    have hstep : ∃ q' r', QR q' r' ∧ law16_QueueSame_b1 a0 a1 acts i (q.ring, q.first, q.n_, q.lost, A2.mk r o) = some (q'.ring, q'.first, q'.n_, q'.lost, A2.mk r' o) := by
      unfold law16_QueueSame_b1
      rw [gat_nat, List.getElem?_eq_getElem hi]
      simp only [Option.bind_some]
      rw [show queue_Queue.mk q.ring q.first q.n_ q.lost = q from rfl]
      by_cases hw : (acts[i].What == 0) = true
      · obtain ⟨c, q', r', e1, e2, h'⟩ := push_eq h acts[i].X
        refine ⟨q', r', h', ?_⟩
        rw [if_pos hw, e1, e2]; rfl
      · obtain ⟨x, ok, q', r', e1, e2, h'⟩ := pop_eq h
        refine ⟨q', r', h', ?_⟩
        rw [if_neg hw, e1, e2]; rfl
    obtain ⟨q', r', h', e⟩ := hstep
    rw [e]
    exact acts1 a0 a1 acts o l (fun i hi => hb i (by simp [hi])) h'

theorem acts2 (a0 : A2 Int) (a1 acts : List law16_Act) (o : ref16_Queue) : ∀ (l : List Nat), (∀ i ∈ l, i < acts.length) → ∀ {q : queue_Queue} {r : ref16_Queue}, QR q r →
    ∃ q' r', forO (law16_QueueSame_b2 a0 a1 acts) (l.map fun (i : Nat) => (i : Int)) (q.ring, q.first, q.n_, q.lost, A2.mk o r) = some (q'.ring, q'.first, q'.n_, q'.lost, A2.mk o r') ∧ QR q' r'
  | [], _, q, r, h => ⟨q, r, by simp [forO], h⟩
  | i :: l, hb, q, r, h => by
    have hi := hb i (by simp)
    simp only [List.map_cons, forO]
    have hstep : ∃ q' r', QR q' r' ∧ law16_QueueSame_b2 a0 a1 acts i (q.ring, q.first, q.n_, q.lost, A2.mk o r) = some (q'.ring, q'.first, q'.n_, q'.lost, A2.mk o r') := by
      unfold law16_QueueSame_b2
      rw [gat_nat, List.getElem?_eq_getElem hi]
      simp only [Option.bind_some]
      rw [show queue_Queue.mk q.ring q.first q.n_ q.lost = q from rfl]
      by_cases hw : (acts[i].What == 0) = true
      · obtain ⟨c, q', r', e1, e2, h'⟩ := push_eq h acts[i].X
        refine ⟨q', r', h', ?_⟩
        rw [if_pos hw, e1, e2]; rfl
      · obtain ⟨x, ok, q', r', e1, e2, h'⟩ := pop_eq h
        refine ⟨q', r', h', ?_⟩
        rw [if_neg hw, e1, e2]; rfl
    obtain ⟨q', r', h', e⟩ := hstep
    rw [e]
    exact acts2 a0 a1 acts o l (fun i hi => hb i (by simp [hi])) h'

theorem QS_comm (r r' : ref16_Queue) : QS r' r = QS r r' := by
  unfold QS; simp only [decide_eq_decide]; constructor <;> rintro ⟨a, b⟩ <;> exact ⟨a.symm, b.symm⟩

theorem law_same (a0 : A2 Int) (a1 a2 : List law16_Act) : law16_QueueSame a0 a1 a2 = some true := by
  unfold law16_QueueSame
  rw [awake16]
  simp only [Option.bind_some, Bool.not_true, Bool.false_eq_true, if_false]
  split
  · rfl
  rename_i hsmall
  have g0 : gat ([a1, a2] : List (List law16_Act)) 0 = some a1 := rfl
  have g1 : gat ([a1, a2] : List (List law16_Act)) 1 = some a2 := rfl
  rw [g0, g1]
  simp only [Option.bind_some]
  obtain ⟨q, r, n1, n2, hq⟩ := new_eq a0.a0
  rw [n1, n2]
  simp only [Option.bind_some]
  obtain ⟨q1, r1, l1, hq1⟩ := acts1 a0 a1 a1 (ref16_Queue.mk 0 [] 0) (List.range a1.length) (fun i hi => List.mem_range.1 hi) hq
  rw [irange_nat, l1]
  simp only [Option.bind_some]
  obtain ⟨p, o, m1, m2, hp⟩ := new_eq a0.a1
  rw [m1, m2]
  simp only [Option.bind_some]
  obtain ⟨p1, o1, l2, hp1⟩ := acts2 a0 a1 a2 r1 (List.range a2.length) (fun i hi => List.mem_range.1 hi) hp
  rw [irange_nat, l2]
  simp only [Option.bind_some]
  obtain ⟨n, e⟩ := ref_same a0 a1 (A2.mk r1 o1) (Nat.le_trans hq1.nle hq1.small)
  rw [e]
  simp only [Option.bind_some]
  rw [show queue_Queue.mk q1.ring q1.first q1.n_ q1.lost = q1 from rfl, show queue_Queue.mk p1.ring p1.first p1.n_ p1.lost = p1 from rfl]
  rw [same_eq hq1 hp1, same_eq hp1 hq1, same_eq hq1 hq1, same_nil hq1]
  simp only [Option.bind_some]
  rw [if_pos (by simp), if_pos (by simp [QS_comm]), if_pos (by simp [QS])]
  by_cases hz : r1.L = []
  · rw [if_pos (by simp [hz])]
    simp [hz]
    exact Bool.eq_iff_iff.2 (by simp)
  · have : 0 < r1.L.length := List.length_pos_iff.2 hz
    rw [if_neg (by simp; omega)]
    simp [hz]

end Go.AM
