import Derived.Test.YtfjelgjfbjjopaaAmSoft
set_option linter.unusedVariables false
set_option linter.unusedSectionVars false
set_option linter.unusedSimpArgs false
namespace Go.AM
open Go Go.RowKit
variable [Glob]
def dK (post : List (Nat × Option aK)) (σ : au) : au := post.foldl (fun s p => aj s p.1 p.2) σ
def oE (P : Program) (f : Nat) (vals : List V) (pre : List (Nat × aK)) (v : V) (post : List (Nat × Option aK)) : Prop :=
  (∀ p ∈ post, ∃ q ∈ pre, q.1 = p.1) ∧ ∀ σ n, (∀ p ∈ pre, σ p.1 = some p.2) → dE P f vals σ n v (dK post σ) n
structure oF (P : Program) (f : Nat) (vals : List V) (pre : List (Nat × aK)) (v : V) (post : List (Nat × Option aK)) (n m : Nat) (W : List Nat) : Prop where
  le : n ≤ m
  dom : ∀ p ∈ post, p.1 ∈ W ∨ cF n m p.1
  sub : ∀ id ∈ W, id ∈ pre.map (·.1)
  cov : ∀ id, cF n m id → id ∈ post.map (·.1)
  run : ∀ σ, (∀ p ∈ pre, σ p.1 = some p.2) → dE P f vals σ n v (dK post σ) m
theorem oE.n {P : Program} {f : Nat} {vals : List V} {pre : List (Nat × aK)} {v : V} {post : List (Nat × Option aK)} (h : oE P f vals pre v post) (n : Nat) : oF P f vals pre v post n n (post.map (·.1)) :=
  ⟨Nat.le_refl _, fun p hp => .inl (List.mem_map.2 ⟨p, hp, rfl⟩), fun id hid => by
    obtain ⟨p, hp, rfl⟩ := List.mem_map.1 hid
    obtain ⟨q, hq, e⟩ := h.1 p hp
    exact List.mem_map.2 ⟨q, hq, e⟩, fun id hid => by have := hid.1; have := hid.2; omega, fun σ hs => h.2 σ n hs⟩
abbrev FP := List (Ft × Nat × Nat)
def gb (P : Program) (op : aM) (dst : Option Nat) (s : S) (K : S → List Nat → List Nat → Prop) : Prop :=
  match op with
  | .call true f xs => ∃ pre post v m W, oF P f (xs.map (aD s.T)) pre v post s.n m W ∧ (∀ p ∈ pre, s.σ p.1 = some p.2) ∧ K ⟨aO s.T dst v, dK post s.σ, m⟩ (pre.map (·.1)) W
  | .callv true _ _ => False
  | op => dj P op dst s fun s' => K s' (dm op (aD s.T)) (dc op (aD s.T))
def de (P : Program) : List aQ → S → FP → (S → FP → Prop) → Prop
  | [], s, acc, K => K s acc
  | i :: l, s, acc, K => match i.guard with
    | none => gb P i.op i.dst s fun s' r w => ∃ C Kp, gX i.op (aD s.T) C ∧ f8 s.σ s'.σ r Kp ∧ Ft.ok ⟨r, w, C, Kp⟩ ∧ de P l s' (acc ++ [(⟨r, w, C, Kp⟩, s.n, s'.n)]) K
    | some (g, b) => match fU (s.T g) with
      | some b' => if b' = some b then gb P i.op i.dst s fun s' r w => ∃ C Kp, gX i.op (aD s.T) C ∧ f8 s.σ s'.σ r Kp ∧ Ft.ok ⟨r, w, C, Kp⟩ ∧ de P l s' (acc ++ [(⟨r, w, C, Kp⟩, s.n, s'.n)]) K else de P l ⟨aO s.T i.dst V.skip, s.σ, s.n⟩ (acc ++ [(⟨[], [], [], []⟩, s.n, s.n)]) K
      | none => False
def r7 (a b : Ft × Nat × Nat) : Prop :=
  (∀ id ∈ a.1.W, id ∉ b.1.R) ∧ (∀ id ∈ b.1.W, id ∉ a.1.R) ∧ (∀ id ∈ a.1.R ++ a.1.W, ¬ (b.2.1 ≤ id ∧ id < b.2.2)) ∧ (∀ id ∈ b.1.R ++ b.1.W, ¬ (a.2.1 ≤ id ∧ id < a.2.2))
def r8 (pairs : List (Nat × Nat)) (acc : FP) : Prop := ∀ p ∈ pairs, ∃ a b, acc[p.1]? = some a ∧ acc[p.2]? = some b ∧ (r7 a b ∨ iR a.1 b.1)
section
variable {P : Program} {N : Nat} {A : Nat → Nat → Prop} {μ : Nat → Option aJ} {T T' T1 T2 : Nat → V} {σ σ' σ1 σ2 : au} {w : World} {a : Act} {o : Oper} {n n' m m' n1 n2 : Nat} {v : V} {e : AX → V} {i j : aQ} {R W R2 W2 : List Nat}
theorem r9 : ∀ (post : List (Nat × Option aK)) (σ σ2 : au) (id : Nat), id ∈ post.map (·.1) → dK post σ id = dK post σ2 id := by
  intro post
  induction post with
  | nil => intro _ _ id h; simp at h
  | cons p post ih =>
    intro σ σ2 id h
    by_cases c : id ∈ post.map (·.1)
    · exact ih _ _ id c
    · have hid : id = p.1 := by
        rcases List.mem_cons.1 h with h | h
        · exact h
        · exact (c h).elim
      have : ∀ (l : List (Nat × Option aK)) (s : au), id ∉ l.map (·.1) → dK l s id = s id := by
        intro l
        induction l with
        | nil => intro s _; rfl
        | cons q l ih2 =>
          intro s hl
          simp only [List.map_cons, List.mem_cons, not_or] at hl
          have h2 := ih2 (aj s q.1 q.2) hl.2
          rw [aG _ _ hl.1] at h2
          exact h2
      have k1 := this post (aj σ p.1 p.2) c
      have k2 := this post (aj σ2 p.1 p.2) c
      have e1 : dK (p :: post) σ id = dK post (aj σ p.1 p.2) id := rfl
      have e2 : dK (p :: post) σ2 id = dK post (aj σ2 p.1 p.2) id := rfl
      rw [e1, e2, k1, k2, hid, aL, aL]
theorem lE : ∀ (post : List (Nat × Option aK)) (σ : au) (id : Nat), id ∉ post.map (·.1) → dK post σ id = σ id := by
  intro post
  induction post with
  | nil => intro _ _ _; rfl
  | cons p post ih =>
    intro σ id h
    simp only [List.map_cons, List.mem_cons, not_or] at h
    have h2 := ih (aj σ p.1 p.2) id h.2
    rw [aG _ _ h.1] at h2
    exact h2
theorem gb.step {op : aM} {dst : Option Nat} {s : S} {K : S → List Nat → List Nat → Prop} (h : gb P op dst s K) : ∃ v σ' n' R W, s.n ≤ n' ∧ (∀ id ∈ W, id ∈ R) ∧ (∀ id, ¬ (id ∈ W ∨ cF s.n n' id) → σ' id = s.σ id) ∧
    (∀ σ2, (∀ id ∈ R, σ2 id = s.σ id) → bQ P op (aD s.T) σ2 s.n v (mix σ2 σ' W s.n n') n') ∧
    (op.cls = 0 → R = [] ∧ W = [] ∧ n' = s.n) ∧ (op.cls = 1 → W = [] ∧ n' = s.n) ∧ K ⟨aO s.T dst v, σ', n'⟩ R W := by
  unfold gb at h
  split at h
  · rename_i f xs
    obtain ⟨pre, post, v, m, W, hF, h2, h3⟩ := h
    have emix : ∀ σ2 : au, (∀ id ∈ pre.map (·.1), σ2 id = s.σ id) → mix σ2 (dK post s.σ) W s.n m = dK post σ2 := by
      intro σ2 hs
      funext id
      by_cases c : id ∈ post.map (·.1)
      · rw [r9 post σ2 s.σ id c]
        refine cT ?_
        obtain ⟨p, hp, rfl⟩ := List.mem_map.1 c
        exact hF.dom p hp
      · rw [lE post σ2 id c]
        by_cases c2 : id ∈ W ∨ cF s.n m id
        · rw [cT c2, lE post s.σ id c]
          rcases c2 with c2 | c2
          · exact (hs id (hF.sub id c2)).symm
          · exact (c (hF.cov id c2)).elim
        · exact c6 c2
    have hpre : ∀ σ2 : au, (∀ id ∈ pre.map (·.1), σ2 id = s.σ id) → ∀ p ∈ pre, σ2 p.1 = some p.2 := fun σ2 hs p hp => (hs p.1 (List.mem_map.2 ⟨p, hp, rfl⟩)).trans (h2 p hp)
    refine ⟨v, dK post s.σ, m, pre.map (·.1), W, hF.le, hF.sub, fun id hid => lE post s.σ id fun c => hid ?_, fun σ2 hs => ?_, fun h => by simp [aM.cls] at h, fun h => by simp [aM.cls] at h, h3⟩
    · obtain ⟨p, hp, rfl⟩ := List.mem_map.1 c
      exact hF.dom p hp
    · rw [emix σ2 hs]
      exact ⟨hF.run σ2 (hpre σ2 hs), hF.le⟩
  · exact h.elim
  · rename_i h1 h2
    obtain ⟨v, σ', n', g1, g2⟩ := dj.step h
    have hc : op.callish = false := by
      cases hq : op.callish with
      | false => rfl
      | true =>
        unfold aM.callish at hq
        split at hq
        · exact (h1 _ _ rfl).elim
        · exact (h2 _ _ rfl).elim
        · cases hq
    obtain ⟨k1, k2, k3⟩ := r6 hc g1
    refine ⟨v, σ', n', _, _, k1, rZ, k2, k3, fun c0 => ⟨(lD c0).1, (lD c0).2, (g1.cls0 c0).2.1⟩, fun c1 => ⟨oD c1, ?_⟩, g2⟩
    exact (g1.grow (σ2 := s.σ) (n2 := 0) c1 fun _ _ h => h).2.1
theorem de.step {i : aQ} {l : List aQ} {s : S} {acc : FP} {K : S → FP → Prop} (h : de P (i :: l) s acc K) : ∃ T' σ' n' f, (dU P i s.T s.σ s.n T' σ' n' f ∧ f.ok) ∧ (i.op.cls = 0 → f.R = [] ∧ f.W = [] ∧ n' = s.n) ∧ (i.op.cls = 1 → f.W = [] ∧ n' = s.n) ∧
    de P l ⟨T', σ', n'⟩ (acc ++ [(f, s.n, n')]) K := by
  unfold de at h
  cases hg : i.guard with
  | none =>
    rw [hg] at h
    obtain ⟨v, σ', n', R, W, h1, h2, h3, h4, h6, h7, C, Kp, hC, hK, hok, h8⟩ := gb.step h
    refine ⟨_, σ', n', ⟨R, W, C, Kp⟩, ⟨⟨⟨h1, h2, h3, fun σ2 hs => ?_⟩, hC, hK⟩, hok⟩, h6, h7, h8⟩
    · unfold aU; rw [hg]; exact ⟨v, h4 σ2 hs, rfl⟩
  | some p =>
    obtain ⟨g, b⟩ := p
    rw [hg] at h
    simp only at h
    split at h
    · rename_i b' hT
      split at h
      · rename_i hb
        obtain ⟨v, σ', n', R, W, h1, h2, h3, h4, h6, h7, C, Kp, hC, hK, hok, h8⟩ := gb.step h
        refine ⟨_, σ', n', ⟨R, W, C, Kp⟩, ⟨⟨⟨h1, h2, h3, fun σ2 hs => ?_⟩, hC, hK⟩, hok⟩, h6, h7, h8⟩
        · unfold aU; rw [hg]; exact ⟨b', hT, by rw [if_pos hb]; exact ⟨v, h4 σ2 hs, rfl⟩⟩
      · rename_i hb
        refine ⟨_, s.σ, s.n, ⟨[], [], [], []⟩, ⟨⟨⟨Nat.le_refl _, fun _ h => h, fun _ _ => rfl, fun σ2 hs => ?_⟩, .inl rfl, fun c hc => by simp at hc⟩, .inl rfl⟩, fun _ => ⟨rfl, rfl, rfl⟩, fun _ => ⟨rfl, rfl⟩, h⟩
        · rw [jM]; unfold aU; rw [hg]; exact ⟨b', hT, by rw [if_neg hb]; exact ⟨rfl, rfl, rfl⟩⟩
    · exact h.elim
theorem de.chain : ∀ (suf pre : List aQ) (s : S) (acc : FP) (K : S → FP → Prop), de P suf s acc K → ∃ (ν : Nat → Nat) (F : Nat → Ft) (T' : Nat → V) (σ' : au) (tl : FP), (∀ k, k ≤ pre.length → ν k = s.n) ∧ (∀ k, ν k ≤ ν (k + 1)) ∧
    f9 P (pre ++ suf) ν F (List.range' pre.length suf.length) s.T s.σ T' σ' ∧
    (∀ k i, suf[k]? = some i → tl[k]? = some (F (pre.length + k), ν (pre.length + k), ν (pre.length + k + 1)) ∧ (i.op.cls = 0 → (F (pre.length + k)).R = [] ∧ (F (pre.length + k)).W = [] ∧ ν (pre.length + k + 1) = ν (pre.length + k)) ∧
      (i.op.cls = 1 → (F (pre.length + k)).W = [] ∧ ν (pre.length + k + 1) = ν (pre.length + k))) ∧ K ⟨T', σ', ν (pre.length + suf.length)⟩ (acc ++ tl)
  | [], pre, s, acc, K, h => ⟨fun _ => s.n, fun _ => ⟨[], [], [], []⟩, s.T, s.σ, [], fun _ _ => rfl, fun _ => Nat.le_refl _, ⟨rfl, rfl⟩, fun k i h => by simp at h, by simpa [de] using h⟩
  | i :: suf, pre, s, acc, K, h => by
    obtain ⟨T1, σ1, n1, Fi, hs, h0, h1, hr⟩ := de.step h
    obtain ⟨ν, F, T', σ', tl, e1, e2, e3, e4, e5⟩ := de.chain suf (pre ++ [i]) ⟨T1, σ1, n1⟩ _ K hr
    have hl : (pre ++ [i]).length = pre.length + 1 := by simp
    have hn1 : ν (pre.length + 1) = n1 := e1 _ (by omega)
    refine ⟨fun k => if k ≤ pre.length then s.n else ν k, fun k => if k ≤ pre.length then Fi else F k, T', σ', (Fi, s.n, n1) :: tl, fun k hk => by simp [hk], fun k => ?_, ?_, fun k i' hk => ?_, ?_⟩
    · by_cases c1 : k + 1 ≤ pre.length
      · simp [c1, show k ≤ pre.length by omega]
      · by_cases c2 : k ≤ pre.length
        · simp only [c2, c1, if_true, if_false]
          have : ν (k + 1) = n1 := by have := e1 (k + 1) (by omega); exact this
          have := hs.1.loc.le
          omega
        · simp only [c2, c1, if_false]; exact e2 k
    · simp only [List.length_cons, List.range'_succ]
      refine ⟨i, T1, σ1, by simp, ?_, ?_⟩
      · simp only [Nat.le_refl, if_true, show ¬ (pre.length + 1 ≤ pre.length) by omega, if_false, hn1]
        exact hs
      · rw [hl] at e3
        have hcong : ∀ (r : List Nat) (T : Nat → V) (σ : au), (∀ q ∈ r, pre.length + 1 ≤ q) → f9 P (pre ++ [i] ++ suf) ν F r T σ T' σ' →
            f9 P (pre ++ i :: suf) (fun k => if k ≤ pre.length then s.n else ν k) (fun k => if k ≤ pre.length then Fi else F k) r T σ T' σ' := by
          intro r
          induction r with
          | nil => intro T σ _ h; exact h
          | cons q r ih =>
            intro T σ hq h
            obtain ⟨iq, Tq, σq, h1, h2, h3⟩ := h
            have hq0 := hq q (by simp)
            refine ⟨iq, Tq, σq, by simpa using h1, ?_, ih Tq σq (fun x hx => hq x (by simp [hx])) h3⟩
            simp only [show ¬ (q ≤ pre.length) by omega, show ¬ (q + 1 ≤ pre.length) by omega, if_false]
            exact h2
        exact hcong _ _ _ (fun q hq => by have := List.mem_range'.1 hq; omega) e3
    · cases k with
      | zero =>
        simp at hk
        subst hk
        simp only [Nat.add_zero, Nat.le_refl, if_true, show ¬ (pre.length + 1 ≤ pre.length) by omega, if_false, hn1, List.getElem?_cons_zero, true_and]
        exact ⟨h0, h1⟩
      | succ k =>
        have := e4 k i' (by simpa using hk)
        rw [hl, show pre.length + 1 + k = pre.length + (k + 1) by omega] at this
        simp only [show ¬ (pre.length + (k + 1) ≤ pre.length) by omega, show ¬ (pre.length + (k + 1) + 1 ≤ pre.length) by omega, if_false, List.getElem?_cons_succ]
        exact this
    · have : ¬ (pre.length + (suf.length + 1) ≤ pre.length) := by omega
      simp only [List.length_cons, this, if_false]
      rw [hl, show pre.length + 1 + suf.length = pre.length + (suf.length + 1) by omega] at e5
      simpa using e5
set_option maxHeartbeats 1000000 in
theorem sd {l : List aQ} {ops : Array Oper} {ν : Nat → Nat} {F : Nat → Ft} {Q : Exit → Act → World → Prop} (hc : cZ P N ops l ops.toList = true)
    (hback : ∀ (j : Nat) o, ops[j]? = some o → ∀ e ∈ o.after, Region.binds .any e = true → e.on < j)
    (hpair : ∀ (i j : Nat) a b o, i < j → l[i]? = some a → l[j]? = some b → ops[j]? = some o → ex ops j i ∨ (e8 a b = true ∧ (iQ (ν i) (ν (i + 1)) (F i).R (F i).W (ν j) (ν (j + 1)) (F j).R (F j).W ∨ iR (F i) (F j))))
    (hν : ∀ k, ν k ≤ ν (k + 1)) :
    ∀ (fuel : Nat) (rem : List Nat) (listed : Array Bool) (T : Nat → V) (σ : au) (a : Act) (w : World) (μ : Nat → Option aJ), rem.length = fuel → rem.Pairwise (· < ·) → (∀ j, j ∈ rem ↔ j < ops.size ∧ listed.getD j false = false) →
      listed.size = ops.size → f9 P l ν F rem T σ T' σ' → ca N A μ T σ a w → (∀ j ∈ rem, ∀ id, ν j ≤ id → id < ν (j + 1) → μ id = none) → (∀ id, ν l.length ≤ id → μ id = none) →
      (∀ j, j ∉ rem → ∀ o, ops[j]? = some o → ∀ e ∈ o.after, Region.binds .any e = true → e.on ∉ rem) →
      (∀ a' w' μ', ca N A μ' T' σ' a' w' → aA μ σ w μ' σ' w' → (∀ id, μ' id ≠ none → μ id ≠ none ∨ ∃ j ∈ rem, ν j ≤ id ∧ id < ν (j + 1)) → Q .normal a' w') →
      wpAny P .any ops Q fuel listed a w := by
  obtain ⟨hlen, hchk⟩ := fV hc
  have hle : ∀ p q, p ≤ q → ν p ≤ ν q := by
    intro p q hpq
    induction q with
    | zero => have : p = 0 := by omega
              subst this; exact Nat.le_refl _
    | succ q ih =>
      rcases Nat.lt_or_ge p (q + 1) with h | h
      · exact Nat.le_trans (ih (by omega)) (hν _)
      · have : p = q + 1 := by omega
        subst this; exact Nat.le_refl _
  intro fuel
  induction fuel with
  | zero =>
    intro rem listed T σ a w μ hl hs hm hsz hch hsim hfr hmax hcl hk
    have : rem = [] := List.eq_nil_of_length_eq_zero hl
    subst this
    obtain ⟨rfl, rfl⟩ := hch
    refine ⟨?_, hk a w μ hsim (aA.refl _ _ _) fun id h => .inl h⟩
    cases hr : Region.ready .any ops listed with
    | nil => rfl
    | cons j r =>
      have hj : j ∈ Region.ready .any ops listed := by rw [hr]; simp
      obtain ⟨h0, o, ho, _⟩ := mem_ready.1 hj
      have hjlt : j < ops.size := (Array.getElem?_eq_some_iff.1 ho).1
      have : j ∈ ([] : List Nat) := (hm j).2 ⟨hjlt, by
        rw [Array.getD_eq_getD_getElem?] at h0 ⊢
        rw [Array.getElem?_eq_getElem (by omega)] at h0 ⊢
        simpa using h0⟩
      simp at this
  | succ fuel ih =>
    intro rem listed T σ a w μ hl hs hm hsz hch hsim hfr hmax hcl hk
    refine ⟨fun h0 => ?_, fun q hq => ?_⟩
    · -- something is always ready
      exfalso
      cases rem with
      | nil => simp at hl
      | cons h r =>
        obtain ⟨hh1, hh2⟩ := (hm h).1 (by simp)
        have ho : ops[h]? = some ops[h] := by simp [hh1]
        have : h ∈ Region.ready .any ops listed := by
          refine mem_ready.2 ⟨?_, ops[h], ho, fun e he hb => ?_⟩
          · rw [Array.getD_eq_getD_getElem?] at hh2 ⊢
            rw [Array.getElem?_eq_getElem (by omega)] at hh2 ⊢
            simpa using hh2
          · have hlt := hback h ops[h] ho e he hb
            cases hx : listed.getD e.on false with
            | true => rfl
            | false =>
              have hmem := (hm e.on).2 ⟨by omega, hx⟩
              rcases List.mem_cons.1 hmem with h' | h'
              · omega
              · have := (List.pairwise_cons.1 hs).1 e.on h'
                omega
        rw [h0] at this
        simp at this
    · obtain ⟨g0, oq, hoq, hall⟩ := mem_ready.1 hq
      have hqlt : q < ops.size := (Array.getElem?_eq_some_iff.1 hoq).1
      have hqr : q ∈ rem := (hm q).2 ⟨hqlt, by
        rw [Array.getD_eq_getD_getElem?] at g0 ⊢
        rw [Array.getElem?_eq_getElem (by omega)] at g0 ⊢
        simpa using g0⟩
      obtain ⟨r1, r2, rfl⟩ := List.append_of_mem hqr
      have hql : q < l.length := by rw [hlen]; simpa using hqlt
      have hlq : l[q]? = some l[q] := by simp [hql]
      obtain ⟨p1, p2, p3⟩ := List.pairwise_append.1 hs
      have hr1lt : ∀ j ∈ r1, j < q := fun j hj => p3 j hj q (by simp)
      have hind : ∀ j ∈ r1, ∀ ij, l[j]? = some ij → e8 ij l[q] = true ∧ (iQ (ν j) (ν (j + 1)) (F j).R (F j).W (ν q) (ν (q + 1)) (F q).R (F q).W ∨ iR (F j) (F q)) := by
        intro j hj ij hij
        rcases hpair j q ij l[q] oq (hr1lt j hj) hij hlq hoq with hord | h
        · refine (hord.ready hcl hoq (fun e he hb hmem => ?_) (by simp [hj])).elim
          have h1 := hall e he hb
          rw [((hm e.on).1 hmem).2] at h1
          cases h1
        · exact h
      obtain ⟨T1, σ1, hst, hch1⟩ := oz hlq r1 r2 T σ hch hind
      have hone : ∀ {K : Act → World → Prop}, gH P N A μ σ w T1 σ1 (ν q) (ν (q + 1)) K → wpOp P ops Q q K a w := by
        intro K hk
        exact kO hc hlq hsim (hfr q (by simp)) hst.1.loc.here hk
      refine hone fun a1 w1 μ1 hsim1 hg1 hd1 => ?_
      refine ih (r1 ++ r2) (listed.setIfInBounds q true) T1 σ1 a1 w1 μ1 (by simp at hl ⊢; omega) ?_ (fun j => ?_) (by simpa using hsz) hch1 hsim1 (fun j hj id hid1 hid2 => ?_) (fun id h => ?_) (fun j hj o ho e he hb => ?_) fun a2 w2 μ2 hsim2 hg2 hd2 => ?_
      · rw [List.pairwise_append]
        refine ⟨p1, (List.pairwise_cons.1 p2).2, fun x hx y hy => p3 x hx y (by simp [hy])⟩
      · have hnq : q ∉ r1 ++ r2 := by
          intro h
          rcases List.mem_append.1 h with h | h
          · have := hr1lt q h; omega
          · have := (List.pairwise_cons.1 p2).1 q h; omega
        constructor
        · intro hj
          have hjq : j ≠ q := fun e => hnq (e ▸ hj)
          have : j ∈ r1 ++ q :: r2 := by
            rcases List.mem_append.1 hj with h | h
            · exact List.mem_append.2 (.inl h)
            · exact List.mem_append.2 (.inr (by simp [h]))
          obtain ⟨k1, k2⟩ := (hm j).1 this
          exact ⟨k1, by rw [getD_set_ne false (Ne.symm hjq)]; exact k2⟩
        · rintro ⟨k1, k2⟩
          have hjq : j ≠ q := by
            rintro rfl
            rw [Array.getD_eq_getD_getElem?] at k2
            simp [show j < listed.size by omega] at k2
          rw [getD_set_ne false (Ne.symm hjq)] at k2
          have := (hm j).2 ⟨k1, k2⟩
          rcases List.mem_append.1 this with h | h
          · exact List.mem_append.2 (.inl h)
          · rcases List.mem_cons.1 h with h | h
            · exact (hjq h).elim
            · exact List.mem_append.2 (.inr h)
      · have hjm : j ∈ r1 ++ q :: r2 := by
          rcases List.mem_append.1 hj with h | h
          · exact List.mem_append.2 (.inl h)
          · exact List.mem_append.2 (.inr (by simp [h]))
        cases hm1 : μ1 id with
        | none => rfl
        | some p =>
          rcases hd1 id (by rw [hm1]; simp) with h | h
          · exact (h (hfr j hjm id hid1 hid2)).elim
          · exfalso
            rcases List.mem_append.1 hj with h' | h'
            · have := hle (j + 1) q (hr1lt j h'); omega
            · have := hle (q + 1) j ((List.pairwise_cons.1 p2).1 j h'); omega
      · cases hm1 : μ1 id with
        | none => rfl
        | some p =>
          rcases hd1 id (by rw [hm1]; simp) with h' | h'
          · exact (h' (hmax id h)).elim
          · have := hle (q + 1) l.length hql; omega
      · have hnr : ∀ j, j ∉ r1 ++ q :: r2 → j ∉ r1 ++ r2 := by
          intro j h h'
          apply h
          rcases List.mem_append.1 h' with h' | h'
          · exact List.mem_append.2 (.inl h')
          · exact List.mem_append.2 (.inr (by simp [h']))
        by_cases hjq : j = q
        · subst hjq
          have : o = oq := by rw [hoq] at ho; cases ho; rfl
          subst this
          have h1 := hall e he hb
          intro hmem
          have h2 := ((hm e.on).1 (by
            rcases List.mem_append.1 hmem with h' | h'
            · exact List.mem_append.2 (.inl h')
            · exact List.mem_append.2 (.inr (by simp [h'])))).2
          rw [h2] at h1
          cases h1
        · refine hnr _ (hcl j (fun h' => hj ?_) o ho e he hb)
          rcases List.mem_append.1 h' with h' | h'
          · exact List.mem_append.2 (.inl h')
          · rcases List.mem_cons.1 h' with h' | h'
            · exact (hjq h').elim
            · exact List.mem_append.2 (.inr h')
      · refine hk a2 w2 μ2 hsim2 (hg1.trans hg2) fun id h => ?_
        rcases hd2 id h with h | ⟨j, hj, h⟩
        · rcases hd1 id h with h | h
          · exact .inl h
          · exact .inr ⟨q, by simp, h⟩
        · refine .inr ⟨j, ?_, h⟩
          rcases List.mem_append.1 hj with h | h
          · exact List.mem_append.2 (.inl h)
          · exact List.mem_append.2 (.inr (by simp [h]))
theorem bv.opsS {Q : Exit → S → Prop} {s : S} {pairs : List (Nat × Nat)} {l : List aQ} (h : de P l s [] fun s' acc => r8 pairs acc ∧ Q .normal s') : bv P N (.opsS pairs l) Q s := by
  intro code hc A μ a w ⟨hs, hfr⟩
  cases code <;> simp only [ct, Bool.false_eq_true] at hc
  rename_i id ops draw
  simp only [Bool.and_eq_true] at hc
  obtain ⟨⟨⟨rfl, hcl⟩, hdr⟩, hmix⟩ := hc
  obtain ⟨ν, F, T', σ', tl, e1, e2, e3, e4, e5, e6⟩ := de.chain l [] s [] _ h
  obtain ⟨hback, hpair⟩ := rW hdr
  have hlen := (fV hcl).1
  have hls : l.length = ops.size := by simpa using hlen
  simp only [List.length_nil, List.nil_append, Nat.zero_add] at e3 e4 e5 e6
  have e0 : ν 0 = s.n := e1 0 (Nat.zero_le _)
  have hle : ∀ p q, p ≤ q → ν p ≤ ν q := by
    intro p q hpq
    induction q with
    | zero => have : p = 0 := by omega
              subst this; exact Nat.le_refl _
    | succ q ih =>
      rcases Nat.lt_or_ge p (q + 1) with h | h
      · exact Nat.le_trans (ih (by omega)) (e2 _)
      · have : p = q + 1 := by omega
        subst this; exact Nat.le_refl _
  have g0 : aA μ s.σ w μ s.σ { w with drawn := w.drawn + 1 } := aA.drew _
  have hs0 : ca N A μ s.T s.σ a { w with drawn := w.drawn + 1 } := ⟨hs.size, hs.defers, fun i => g0.keepV hs.store.alt (hs.tmps i), hs.store.drew _⟩
  refine wp_region_any hmix ?_
  refine sd hcl hback (fun i j ia ib oj hij hia hib hoj => ?_) e2 ops.size (List.range' 0 l.length) _ s.T s.σ a _ μ (by simp [hls]) List.pairwise_lt_range' (fun j => ?_) (by simp) e3 hs0 (fun j hj id hid1 _ => hfr id (by have := hle 0 j (Nat.zero_le _); omega)) (fun id hid => hfr id (by have := hle 0 l.length (Nat.zero_le _); omega)) (fun j hj o ho => ?_) fun a' w' μ' hsim hg hdom => ?_
  · rcases hpair i j ia ib oj hij hia hib hoj with h | ⟨h1, h2⟩
    · exact .inl h
    · refine .inr ⟨h1, ?_⟩
      obtain ⟨a1, a2, a3⟩ := e4 i ia hia
      obtain ⟨b1, b2, b3⟩ := e4 j ib hib
      have hνij : ν (i + 1) ≤ ν j := hle _ _ hij
      rcases h2 with h2 | h2 | ⟨h2, h3⟩ | h2
      · obtain ⟨k1, k2, k3⟩ := a2 h2
        refine .inl fun id => ?_
        rw [k1, k2, k3]
        refine ⟨?_, ?_⟩
        · rintro (h | ⟨h1, h2⟩)
          · simp at h
          · omega
        · intro _
          rintro (h | ⟨h1, h2⟩)
          · simp at h
          · omega
      · obtain ⟨k1, k2, k3⟩ := b2 h2
        refine .inl fun id => ?_
        rw [k1, k2, k3]
        refine ⟨?_, ?_⟩
        · intro _
          rintro (h | ⟨h1, h2⟩)
          · simp at h
          · omega
        · rintro (h | ⟨h1, h2⟩)
          · simp at h
          · omega
      · obtain ⟨k1, k2⟩ := a3 h2
        obtain ⟨m1, m2⟩ := b3 h3
        refine .inl fun id => ?_
        rw [k1, k2, m1, m2]
        refine ⟨?_, ?_⟩
        · rintro (h | ⟨h1, h2⟩)
          · simp at h
          · omega
        · rintro (h | ⟨h1, h2⟩)
          · simp at h
          · omega
      · obtain ⟨fa, fb, f1, f2, dd⟩ := e5 (i, j) h2
        rw [a1] at f1
        rw [b1] at f2
        cases f1; cases f2
        refine dd.imp_left fun ⟨d1, d2, d3, d4⟩ => ?_
        intro id
        refine ⟨?_, ?_⟩
        · rintro (h | h)
          · rintro (h' | h')
            · exact d1 id h h'
            · exact d3 id (by simp [h]) h'
          · rintro (h' | h')
            · exact d4 id (by simp [h']) h
            · have := h.2; have := h'.1; omega
        · rintro (h | h)
          · rintro (h' | h')
            · exact d2 id h h'
            · exact d4 id (by simp [h]) h'
          · rintro (h' | h')
            · exact d3 id (by simp [h']) h
            · have := h.1; have := h'.2; omega
  · rw [List.mem_range'_1]
    constructor
    · intro hj
      refine ⟨by omega, ?_⟩
      rw [Array.getD_eq_getD_getElem?]
      simp [show j < ops.size by omega]
    · rintro ⟨hj, _⟩; omega
  · exfalso
    have := (Array.getElem?_eq_some_iff.1 ho).1
    exact hj (List.mem_range'_1.2 (by omega))
  · refine ⟨trivial, ⟨T', σ', ν l.length⟩, μ', e6, ⟨hsim, fun id hid => ?_⟩, g0.trans hg, by have := hle 0 l.length (Nat.zero_le _); simp only; omega, fun id h => (hdom id h).imp_right fun ⟨j, hj, h1, h2⟩ => by have := hle 0 j (Nat.zero_le _); omega⟩
    cases hm : μ' id with
    | none => rfl
    | some p =>
      rcases hdom id (by rw [hm]; simp) with h | ⟨j, hj, h⟩
      · exact (h (hfr id (by have := hle 0 l.length (Nat.zero_le _); simp only at hid; omega))).elim
      · have hj' := List.mem_range'_1.1 hj
        have := hle (j + 1) l.length (by omega)
        simp only at hid; omega
end
end Go.AM
