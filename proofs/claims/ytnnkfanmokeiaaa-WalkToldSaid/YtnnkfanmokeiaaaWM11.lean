import Derived.Test.YtnnkfanmokeiaaaWM10
set_option linter.unusedVariables false
set_option linter.unusedSimpArgs false
namespace Go.AM
open Go
section
variable (t : api_Topo) (p : ai) (st : List Int)
def rX (so : List Pk) (q : Pk) (fd : List (List Pk)) (o : Option (Int × cz)) : Prop :=
  ∃ e w', o = some (e, w') ∧ (e = 0 → ∃ ws, w' = ⟨t, p, st, fd ++ ws⟩ ∧ (fd ++ ws).length ≤ 200 ∧ Wk t p st so q ws)
theorem rY {l : List Pk} {x : Pk} : (l ++ [x]).getLast? = some x := by simp
variable {p} in
theorem rZ (hb : b8 p ≤ da) : ∀ (k : Nat) (so : List Pk) (q : Pk) (fd : List (List Pk)), so.length % 2 = 0 → so.length ≤ 22 → 24 ≤ so.length + 2 * k → Ch t p st (so ++ [q]) → fd.length ≤ 200 →
    rX t p st so q fd (jd k ⟨t, p, st, fd⟩ so q)
  | 0, so, q, fd, _, _, h, _, _ => by omega
  | k + 1, so, q, fd, he, hl, hk, hch, hf => by
    show rX t p st so q fd (lE (jd k) ⟨t, p, st, fd⟩ so q)
    unfold lE
    have g1 : cx so [q] = some (so ++ [q]) := by unfold cx; rw [if_pos (by simp; omega)]
    simp only [rW (l := so) (by omega), g1, Option.bind_some, lR st hb]
    have hfit := ov st p q
    have hne0 : (cE st p q).2 ≠ 0 → (cE st p q).1 = [] := by
      unfold cE
      split
      · cases ex st p q <;> simp
      · simp
    by_cases he0 : (cE st p q).2 = 0
    rotate_left
    · have : ((cE st p q).2 != 0) = true := by simpa using he0
      rw [this, if_pos rfl]
      exact ⟨_, _, rfl, fun h => (he0 h).elim⟩
    have hbe : ((cE st p q).2 != 0) = false := by simpa using he0
    rw [hbe, if_neg (by simp)]
    by_cases hz : (cE st p q).1 = []
    · have : (((cE st p q).1.length : Int) == 0) = true := by rw [hz]; rfl
      rw [this, if_pos rfl, rV t p st fd _ hf]
      by_cases h200 : fd.length = 200
      · rw [if_pos h200]
        exact ⟨24, _, rfl, fun h => by cases h⟩
      · rw [if_neg h200]
        refine ⟨0, _, rfl, fun _ => ⟨[so ++ [q]], rfl, by simp; omega, ?_⟩⟩
        have hpair : cE st p q = ([], 0) := Prod.ext hz he0
        refine ⟨by simp, by simp, fun w hw => ?_, fun w hw => ?_, fun d hd => ?_⟩
        · rw [List.mem_singleton] at hw; subst hw
          refine ⟨hch, by simp, by simp; omega, fun _ x hx => ?_, fun h => ?_⟩
          · rw [rY] at hx; cases hx; exact hpair
          · simp at h; omega
        · rw [List.mem_singleton] at hw; exact .inl ⟨hz, hw⟩
        · rw [hz] at hd; cases hd
    have hbz : (((cE st p q).1.length : Int) == 0) = false := by
      have : (cE st p q).1.length ≠ 0 := fun h => hz (List.eq_nil_of_length_eq_zero h)
      simp; exact hz
    rw [hbz, if_neg (by simp)]
    have hsrt := hfit.2
    have loop := j0 (nJ (so ++ [q]) (cE st p q) (jd k)) (cE st p q).1
      (fun done s => ∃ ws, s = (t.Switches, t.Links, t.Hosts, p.Op, p.F, p.N, p.Kids, st, fd ++ ws) ∧ (fd ++ ws).length ≤ 200 ∧ Wp t p st so q done ws) (fun _ => False) (fun r => r.1 ≠ 0)
      (t.Switches, t.Links, t.Hosts, p.Op, p.F, p.N, p.Kids, st, fd) ⟨[], by simp, by simpa using hf, ⟨List.Pairwise.nil, by simp, by simp, by simp⟩⟩
      (fun i d s hd ⟨ws, hs, hlen, hwp⟩ => by
        subst hs
        have hdm := dx hd
        have hi : i < (cE st p q).1.length := (List.getElem?_eq_some_iff.1 hd).1
        have hlt : ∀ e ∈ (cE st p q).1.take i, fh e d := fun e hem => by
          obtain ⟨j, hj⟩ := List.getElem?_of_mem hem
          rw [List.getElem?_take] at hj
          split at hj
          · rename_i hji
            have := List.pairwise_iff_getElem.1 hsrt j i (by omega) hi hji
            rw [(List.getElem?_eq_some_iff.1 hj).2, (List.getElem?_eq_some_iff.1 hd).2] at this
            exact this
          · cases hj
        have hch2 : Ch t p st (so ++ [q] ++ [d]) := hch.snoc t p st (by rw [if_neg (by omega)]; exact hdm)
        have hl2 : (so ++ [q]).length = so.length + 1 := by simp
        have g2 : cx (so ++ [q]) [d] = some (so ++ [q] ++ [d]) := by unfold cx; rw [if_pos (by simp; omega)]
        have et : api_Topo.mk t.Switches t.Links t.Hosts = t := rfl
        have ep : ai.mk p.Op p.F p.N p.Kids = p := by cases p; rfl
        have eo : so ++ [q] ++ [d] = so ++ q :: d :: [] := by simp
        simp only [nJ, cS, hd, Option.bind_some, et, ep, ou, rW (l := so ++ [q]) (by simp; omega), g2]
        by_cases c : ((nx t d).2 == 0 && decide (((so ++ [q]).length : Int) < 23)) = true
        · rw [if_pos c]
          simp only [Bool.and_eq_true, beq_iff_eq, decide_eq_true_eq] at c
          obtain ⟨c1, c2⟩ := c
          have hnx : nx t d = ((nx t d).1, 0) := Prod.ext rfl c1
          have hch3 : Ch t p st (so ++ [q] ++ [d] ++ [(nx t d).1]) := hch2.snoc t p st (by rw [if_pos (by simp; omega)]; exact hnx)
          obtain ⟨e', w', e1, e2⟩ := rZ hb k (so ++ [q] ++ [d]) (nx t d).1 (fd ++ ws) (by simp; omega) (by simp; omega) (by simp; omega) hch3 hlen
          rw [e1]
          simp only [Option.bind_some]
          by_cases h0 : e' = 0
          · obtain ⟨us, hw, hlen2, hk2⟩ := e2 h0
            subst hw
            have : (e' != 0) = false := by simpa using h0
            rw [this, if_neg (by simp)]
            refine .inl ⟨_, rfl, ws ++ us, by simp, by simpa using hlen2, ?_⟩
            refine hwp.more t p st hlt hk2.ord hk2.good (fun w hw => ?_) hk2.ne
            rcases hk2.each w hw with ⟨_, h⟩ | ⟨d2, _, r, h⟩
            · exact ⟨[(nx t d).1], by rw [h]; simp⟩
            · exact ⟨(nx t d).1 :: d2 :: r, by rw [h]; simp⟩
          · have : (e' != 0) = true := by simpa using h0
            rw [this, if_pos rfl]
            exact .inr (.inr ⟨_, rfl, h0⟩)
        · rw [if_neg c, rV t p st _ _ hlen]
          by_cases h200 : (fd ++ ws).length = 200
          · rw [if_pos h200]
            exact .inr (.inr ⟨_, rfl, (show (24 : Int) ≠ 0 by decide)⟩)
          · rw [if_neg h200]
            refine .inl ⟨_, rfl, ws ++ [so ++ [q] ++ [d]], by simp, by simp at hlen h200 ⊢; omega, ?_⟩
            refine hwp.more t p st hlt (List.pairwise_singleton _ _) (fun w hw => ?_) (fun w hw => ?_) (by simp)
            · rw [List.mem_singleton] at hw; subst hw
              refine ⟨hch2, by simp, by simp; omega, fun h => ?_, fun _ x hx => ?_⟩
              · simp at h; omega
              · rw [rY] at hx; cases hx
                simp only [Bool.and_eq_true, beq_iff_eq, decide_eq_true_eq] at c
                by_cases c1 : (nx t d).2 = 0
                · right
                  have : ¬ (((so ++ [q]).length : Int) < 23) := fun h => c ⟨c1, h⟩
                  simp at this ⊢; omega
                · exact .inl c1
            · rw [List.mem_singleton] at hw; subst hw
              exact ⟨[], eo⟩)
    rcases loop with ⟨s', e, ⟨ws, hs, hlen, hwp⟩ | h⟩ | ⟨r, e, hr⟩
    · rw [e]
      subst hs
      have ep : ai.mk p.Op p.F p.N p.Kids = p := by cases p; rfl
      refine ⟨0, ⟨t, p, st, fd ++ ws⟩, by simp only [Option.bind_some, ep], fun _ => ⟨ws, rfl, hlen, ?_⟩⟩
      refine ⟨?_, hwp.ord, hwp.good, fun w hw => .inr (hwp.each w hw), hwp.all⟩
      rintro rfl
      cases hm : (cE st p q).1 with
      | nil => exact hz hm
      | cons d l =>
        obtain ⟨w, hw, _⟩ := hwp.all d (by rw [hm]; simp)
        cases hw
    · exact h.elim
    · rw [e]
      obtain ⟨r1, r2⟩ := r
      exact ⟨r1, r2, rfl, fun h => (hr h).elim⟩
end
theorem sa {ν : Type} (k : Pk) (v : ν) : ∀ (m : List (Pk × ν)), (m.map (·.1)).Nodup → ((eO m k v).map (·.1)).Nodup ∧ ∀ x, x ∈ (eO m k v).map (·.1) ↔ x = k ∨ x ∈ m.map (·.1)
  | [], _ => by simp [eO]
  | a :: m, h => by
    rw [List.map_cons, List.nodup_cons] at h
    unfold eO
    by_cases c : a.1 = k
    · rw [if_pos (by first | exact c | exact c.symm)]
      refine ⟨?_, fun x => ?_⟩
      · rw [List.map_cons, List.nodup_cons, ← c]; exact h
      · simp [c]
    · obtain ⟨i1, i2⟩ := sa k v m h.2
      rw [if_neg (by first | exact c | exact fun e => c e.symm)]
      refine ⟨?_, fun x => ?_⟩
      · rw [List.map_cons, List.nodup_cons]
        refine ⟨fun hx => ?_, i1⟩
        rcases (i2 a.1).1 hx with e | e
        · exact c e
        · exact h.1 e
      · rw [List.map_cons, List.mem_cons, i2, List.map_cons, List.mem_cons]
        constructor
        · rintro (h | h | h)
          · exact .inr (.inl h)
          · exact .inl h
          · exact .inr (.inr h)
        · rintro (h | h | h)
          · exact .inr (.inl h)
          · exact .inl h
          · exact .inr (.inr h)
theorem wo (n : law14_Net) (h : StepOk n.L) : ∃ p b, lK n = some (p, b) ∧ b8 p ≤ da := by
  obtain ⟨p, ok, e, hs⟩ := vJ h
  obtain ⟨c, hc, _⟩ := wj n.T
  unfold lK
  rw [e]
  simp only [Option.bind_some, hc]
  have hb : b8 p ≤ da := by unfold da; omega
  cases ok <;> simp only [Bool.false_eq_true, if_false, if_true, Option.bind_some]
  · exact ⟨p, _, rfl, hb⟩
  · by_cases c1 : ((n.T.Switches.length : Int) ≤ 30) <;> by_cases c2 : ((n.T.Links.length : Int) ≤ 30) <;> by_cases c3 : ((n.T.Hosts.length : Int) ≤ 30) <;> by_cases c4 : ((n.State.length : Int) ≤ 6) <;> simp only [c1, c2, c3, c4, decide_true, decide_false, if_true, if_false, Bool.false_eq_true, Option.bind_some] <;> exact ⟨p, _, rfl, hb⟩
theorem law_WalkTold (n : law14_Net) (h : StepOk n.L) (q : Pk) : law14_WalkTold n q = some true := by
  obtain ⟨p, b, e, hb⟩ := wo n h
  unfold law14_WalkTold
  simp only [wd, Option.bind_some, e, Bool.not_true, Bool.false_eq_true, if_false]
  cases b
  · rfl
  simp only [Bool.not_true, Bool.false_eq_true, if_false]
  obtain ⟨k, hk⟩ := nd 12 (by omega)
  obtain ⟨e0, w', e1, e2⟩ := rZ n.T n.State hb dH [] q [] rfl (by simp) (by rw [hk]; simp; omega) (by intro i x y hx hy; simp at hy) (by simp)
  have e1 : nK ⟨n.T, p, n.State, []⟩ [] q = some (e0, w') := e1
  unfold lF
  rw [e1]
  simp only [Option.bind_some]
  by_cases h0 : e0 = 0
  rotate_left
  · have : (e0 != 0) = true := by simpa using h0
    simp [this, h0]
  have hz : (e0 != 0) = false := by simpa using h0
  obtain ⟨ws, hw, hlen, hk2⟩ := e2 h0
  subst hw
  rw [hz]
  simp only [Bool.false_eq_true, if_false, Option.bind_some, List.nil_append] at hlen ⊢
  have hl1 : ((ws.length : Int) == 0 || decide ((ws.length : Int) > 200)) = false := by
    have := hk2.ne
    have : ws.length ≠ 0 := fun h => this (List.eq_nil_of_length_eq_zero h)
    simp; exact ⟨hk2.ne, by omega⟩
  simp only [hl1, bne_self_eq_false, Bool.false_eq_true, if_false]
  have hws := hk2
  have loop := j0 (nQ n q (p, true) (ws, 0)) ws
    (fun done m => (m.map (·.1)).Nodup ∧ ∀ x, x ∈ m.map (·.1) ↔ ∃ w ∈ done, ∃ y r, w = y :: x :: r) (fun _ => False) (fun _ => False) ([] : List (Pk × Bool)) ⟨by simp, by simp⟩
    (fun i w m hwi ⟨m1, m2⟩ => by
      have hi : i < ws.length := (List.getElem?_eq_some_iff.1 hwi).1
      have hwm := dx hwi
      obtain ⟨c1, c2, c3, c4⟩ := hk2.good w hwm
      have hw0 : ∃ r, w = q :: r := by
        rcases hk2.each w hwm with ⟨_, h⟩ | ⟨d, _, r, h⟩
        · exact ⟨[], h⟩
        · exact ⟨d :: r, h⟩
      obtain ⟨r, hr⟩ := hw0
      have b1 : ((w.length : Int) == 0) = false := by rw [hr]; simp; omega
      have g0 : bq w 0 = some q := by rw [hr]; rfl
      have so := wl n.T n.State hb c1 c2 c3 c4
      have bef : (if decide ((i : Int) > 0) then (bq ws (IntKind.i64.wrap ((i : Int) - 1))).bind fun x23 => (j6 x23 w).bind fun r24 => some (!r24) else some false) = some false := by
        by_cases hi0 : i = 0
        · subst hi0; rfl
        · have : decide ((i : Int) > 0) = true := decide_eq_true (by omega)
          rw [this, if_pos rfl]
          have w1 : IntKind.i64.wrap ((i : Int) - 1) = ((i - 1 : Nat) : Int) := by rw [iD (by omega) (by omega)]; omega
          have hpv : ws[i - 1]? = some (ws[i - 1]'(by omega)) := bV (by omega)
          rw [w1, cS, hpv]
          have hbf := List.pairwise_iff_getElem.1 hk2.ord (i - 1) i (by omega) hi (by omega)
          rw [(List.getElem?_eq_some_iff.1 hwi).2] at hbf
          have := (hk2.good _ (List.getElem_mem (show i - 1 < ws.length by omega))).2.2.1
          simp only [Option.bind_some, wm hbf this, Bool.not_true]
      have inner := j0 (nP n (p, true) w) w (fun _ _ => True) (fun _ => False) (fun _ => False) () trivial (fun j x s hj _ => by
        have hjl : j < w.length := (List.getElem?_eq_some_iff.1 hj).1
        have hc : cJ w 0 ((j : Int) + 1) = some (w.take (j + 1)) := by
          unfold cJ
          rw [if_pos (by omega)]
          congr 1
        have si := rU n.T n.State hb (c1.take n.T p n.State (j + 1)) (by simp; omega) (by simp; omega)
        refine .inl ⟨(), ?_, trivial⟩
        simp only [nP, hc, Option.bind_some, si, Bool.not_true, Bool.false_eq_true, if_false])
      rcases inner with ⟨s', ei, _⟩ | ⟨_, _, h⟩
      rotate_left
      · exact h.elim
      simp only [nQ, cS, hwi, Option.bind_some, b1, Bool.false_eq_true, if_false, g0, beq_self_eq_true, Bool.not_true, so, bef, ei]
      by_cases c : w.length > 1
      · have d1 : decide ((w.length : Int) > 1) = true := decide_eq_true (by omega)
        obtain ⟨d, r', hr'⟩ : ∃ d r', r = d :: r' := by
          cases r with
          | nil => rw [hr] at c; simp at c
          | cons d r' => exact ⟨d, r', rfl⟩
        subst hr'
        have g1 : bq w 1 = some d := by rw [hr]; rfl
        rw [d1]
        simp only [if_true, g1, Option.bind_some]
        obtain ⟨k1, k2⟩ := sa d true m m1
        refine .inl ⟨_, rfl, k1, fun x => ?_⟩
        rw [k2, m2]
        constructor
        · rintro (rfl | ⟨w2, hw2, h⟩)
          · exact ⟨w, by simp, q, r', hr⟩
          · exact ⟨w2, by simp [hw2], h⟩
        · rintro ⟨w2, hw2, y, s, h⟩
          rcases List.mem_append.1 hw2 with hw2 | hw2
          · exact .inr ⟨w2, hw2, y, s, h⟩
          · rw [List.mem_singleton] at hw2
            subst hw2
            rw [hr] at h
            cases h
            exact .inl rfl
      · have d1 : decide ((w.length : Int) > 1) = false := decide_eq_false (by omega)
        rw [d1]
        simp only [Bool.false_eq_true, if_false]
        refine .inl ⟨_, rfl, m1, fun x => ?_⟩
        rw [m2]
        constructor
        · rintro ⟨w2, hw2, h⟩; exact ⟨w2, by simp [hw2], h⟩
        · rintro ⟨w2, hw2, y, s, h⟩
          rcases List.mem_append.1 hw2 with hw2 | hw2
          · exact ⟨w2, hw2, y, s, h⟩
          · rw [List.mem_singleton] at hw2
            subst hw2
            rw [h] at c; simp at c)
  rcases loop with ⟨m, em, ⟨m1, m2⟩ | h⟩ | ⟨_, _, h⟩
  · rw [em]
    simp only [Option.bind_some, lR n.State hb]
    have hnd : (cE n.State p q).1.Nodup := List.Pairwise.imp (fun {a b} hab e => by subst e; exact lN _ hab) (ov n.State p q).2
    have hmem : ∀ x, x ∈ m.map (·.1) ↔ x ∈ (cE n.State p q).1 := fun x => by
      rw [m2]
      constructor
      · rintro ⟨w, hw, y, r, h⟩
        rcases hk2.each w hw with ⟨_, h2⟩ | ⟨d, hd, s, h2⟩
        · rw [h2] at h; simp at h
        · rw [h2] at h
          simp only [List.nil_append, List.cons.injEq] at h
          rw [← h.2.1]; exact hd
      · intro hx
        obtain ⟨w, hw, r, h⟩ := hk2.all x hx
        exact ⟨w, hw, q, r, h⟩
    have hle := ((List.perm_ext_iff_of_nodup m1 hnd).2 hmem).length_eq
    rw [List.length_map] at hle
    have h64 := (ov n.State p q).1
    have hg : jT m = some (m.length : Int) := by unfold jT; rw [if_pos (by omega)]
    rw [hg]
    simp [hle]
  · exact h.elim
  · exact h.elim
end Go.AM
