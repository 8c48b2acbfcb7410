import Derived.Test.YtjdaaclkihjjnaaTQ3
/-
  Plain law: QueueOrder.
-/
set_option linter.unusedVariables false
set_option linter.unusedSimpArgs false
namespace Go.AM
open Go

theorem push_o {q : queue_Queue} {r : ref16_Queue} (h : QR q r) (x : api_Item) : ∃ c q' r', queue_Queue_Push q x = some (c, q') ∧ QR q' r' ∧ (c = 0 ∧ r'.L = r.L ++ [x] ∧ r'.Lost = r.Lost ∨ c = 32 ∧ r'.L = r.L ∧ r'.Lost = IntKind.i64.wrap (r.Lost + 1)) := by
  obtain ⟨c, q', r', h1, h2, h3⟩ := push_eq h x
  refine ⟨c, q', r', h1, h3, ?_⟩
  have hs := h.nle; have hs2 := h.small
  unfold ref16_Queue_Push at h2
  by_cases hc : decide ((r.L.length : Int) ≥ r.Places) = true
  · rw [if_pos hc] at h2
    cases h2
    exact .inr ⟨rfl, rfl, rfl⟩
  · rw [if_neg hc] at h2
    have ga : gapp ([] : List api_Item) r.L = some r.L := by unfold gapp; rw [if_pos (by simp; omega)]; rfl
    have gb : gapp r.L [x] = some (r.L ++ [x]) := by unfold gapp; rw [if_pos (by simp; omega)]
    rw [ga] at h2; simp only [Option.bind_some] at h2
    rw [gb] at h2; simp only [Option.bind_some] at h2
    cases h2
    exact .inl ⟨rfl, rfl, rfl⟩

theorem pop_o {q : queue_Queue} {r : ref16_Queue} (h : QR q r) : ∃ x ok q' r', queue_Queue_Pop q = some (x, ok, q') ∧ QR q' r' ∧ r'.Lost = r.Lost ∧ (ok = false ∧ r'.L = r.L ∨ ok = true ∧ r.L = x :: r'.L) := by
  obtain ⟨x, ok, q', r', h1, h2, h3⟩ := pop_eq h
  refine ⟨x, ok, q', r', h1, h3, ?_⟩
  unfold ref16_Queue_Pop at h2
  cases hL : r.L with
  | nil =>
    rw [hL, if_pos (by rfl)] at h2
    cases h2
    exact ⟨rfl, .inl ⟨rfl, hL⟩⟩
  | cons y L =>
    have hif : ((((y :: L).length : Nat) : Int) == 0) = false := by simp; omega
    have g1 : gcut (y :: L) 1 (((y :: L).length : Nat) : Int) = some L := by
      unfold gcut
      rw [if_pos (by simp; omega)]
      simp
    have g0 : gat (y :: L) 0 = some y := rfl
    rw [hL, if_neg (by rw [hif]; simp), g0, g1] at h2
    simp only [Option.bind_some] at h2
    cases h2
    exact ⟨rfl, .inr ⟨rfl, rfl⟩⟩

/-- what is true between the rounds -/
structure OI (q : queue_Queue) (ins outs : List api_Item) (asked : Int) (k : Nat) : Prop where
  ex : ∃ r, QR q r ∧ ins = outs ++ r.L ∧ asked = (outs.length : Int) + (r.L.length : Int) + r.Lost ∧ 0 ≤ r.Lost ∧ asked ≤ (k : Int)

theorem round_o {q : queue_Queue} {ins outs : List api_Item} {asked : Int} {k : Nat} (h : OI q ins outs asked k) (hk : k ≤ 1000) {acts : List law16_Act} {i : Int} {x : law16_Act} (hx : gat acts i = some x) :
    law16_QueueOrder_b1 acts i (q.ring, q.first, q.n_, q.lost, ins, outs, asked) = some (.ret true) ∨ ∃ q' ins' outs' asked', OI q' ins' outs' asked' (k + 1) ∧ law16_QueueOrder_b1 acts i (q.ring, q.first, q.n_, q.lost, ins, outs, asked) = some (.next (q'.ring, q'.first, q'.n_, q'.lost, ins', outs', asked')) := by
  obtain ⟨r, hq, hi, ha, hl, hak⟩ := h.ex
  unfold law16_QueueOrder_b1
  rw [hx]
  simp only [Option.bind_some]
  by_cases hs : decide ((x.X.Raw.size : Int) > 100) = true
  · rw [if_pos hs]; exact .inl rfl
  rw [if_neg hs]
  right
  have hw1 : IntKind.i64.wrap (asked + 1) = asked + 1 := wrap_i64 (by omega) (by omega)
  have hw2 : IntKind.i64.wrap (r.Lost + 1) = r.Lost + 1 := wrap_i64 (by omega) (by omega)
  by_cases hw : (x.What == 0) = true
  · rw [if_pos hw]
    obtain ⟨c, q', r', h1, h2, h3⟩ := push_o hq x.X
    rw [show queue_Queue.mk q.ring q.first q.n_ q.lost = q from rfl, h1]
    simp only [Option.bind_some]
    rcases h3 with ⟨rfl, e1, e2⟩ | ⟨rfl, e1, e2⟩
    · rw [if_pos (by rfl)]
      have hg : gapp ins [x.X] = some (ins ++ [x.X]) := by
        unfold gapp
        rw [if_pos (by rw [hi]; simp; omega)]
      rw [hg, hw1]
      refine ⟨q', ins ++ [x.X], outs, asked + 1, ⟨r', h2, by rw [hi, e1]; simp, by rw [e1, e2, ha]; simp; omega, by rw [e2]; exact hl, by push_cast; omega⟩, rfl⟩
    · rw [if_neg (by decide), hw1]
      refine ⟨q', ins, outs, asked + 1, ⟨r', h2, by rw [hi, e1], by rw [e1, e2, ha, hw2]; omega, by rw [e2, hw2]; omega, by push_cast; omega⟩, rfl⟩
  · rw [if_neg hw]
    obtain ⟨y, ok, q', r', h1, h2, e2, h3⟩ := pop_o hq
    rw [show queue_Queue.mk q.ring q.first q.n_ q.lost = q from rfl, h1]
    simp only [Option.bind_some]
    rcases h3 with ⟨rfl, e1⟩ | ⟨rfl, e1⟩
    · rw [if_neg (by decide)]
      refine ⟨q', ins, outs, asked, ⟨r', h2, by rw [hi, e1], by rw [e1, e2, ha], by rw [e2]; exact hl, by push_cast; omega⟩, rfl⟩
    · rw [if_pos rfl]
      have hle := hq.nle
      have hg : gapp outs [y] = some (outs ++ [y]) := by
        unfold gapp
        rw [if_pos (by simp; omega)]
      rw [hg]
      refine ⟨q', ins, outs ++ [y], asked, ⟨r', h2, by rw [hi, e1]; simp, by rw [e2, ha, e1]; simp; omega, by rw [e2]; exact hl, by push_cast; omega⟩, rfl⟩

theorem order_loop (acts : List law16_Act) : ∀ (l : List Int) (k : Nat), k + l.length ≤ 1000 → (∀ i ∈ l, 0 ≤ i ∧ i < (acts.length : Int)) → ∀ {q : queue_Queue} {ins outs : List api_Item} {asked : Int}, OI q ins outs asked k → forR (law16_QueueOrder_b1 acts) l (q.ring, q.first, q.n_, q.lost, ins, outs, asked) = some (.ret true) ∨ ∃ q' ins' outs' asked', OI q' ins' outs' asked' 1000 ∧ forR (law16_QueueOrder_b1 acts) l (q.ring, q.first, q.n_, q.lost, ins, outs, asked) = some (.done (q'.ring, q'.first, q'.n_, q'.lost, ins', outs', asked'))
  | [], k, hk, _, q, ins, outs, asked, h => by
    obtain ⟨r, a, b, c, d, e⟩ := h.ex
    exact .inr ⟨q, ins, outs, asked, ⟨r, a, b, c, d, by simp at hk; omega⟩, rfl⟩
  | i :: l, k, hk, hl, q, ins, outs, asked, h => by
    obtain ⟨h0, h1⟩ := hl i (by simp)
    obtain ⟨x, hx⟩ : ∃ x, gat acts i = some x := by
      unfold gat
      rw [if_pos h0]
      exact ⟨acts[i.toNat]'(by omega), List.getElem?_eq_getElem (by omega)⟩
    simp only [List.length_cons] at hk
    rcases round_o h (by omega) hx with e | ⟨q', ins', outs', asked', h', e⟩
    · left; simp only [forR]; rw [e]; rfl
    · rcases order_loop acts l (k + 1) (by omega) (fun j hj => hl j (by simp [hj])) h' with e2 | ⟨q2, i2, o2, a2, h2, e2⟩
      · left; simp only [forR]; rw [e]; exact e2
      · right; refine ⟨q2, i2, o2, a2, h2, ?_⟩; simp only [forR]; rw [e]; exact e2

end Go.AM
