import Derived.Test.YtfjelgjfbjjopaaGR9
set_option linter.unusedVariables false
set_option linter.unusedSimpArgs false
namespace Go.AM
open Go
theorem pk {σ : Type} {f g : Int → σ → Option σ} : ∀ (l : List Int) (s : σ), (∀ i ∈ l, ∀ s, f i s = g i s) → bS f l s = bS g l s
  | [], s, _ => rfl
  | i :: l, s, h => by
    simp only [bS]
    rw [h i (by simp) s]
    cases g i s with
    | none => rfl
    | some s' => exact pk l s' fun j hj s => h j (by simp [hj]) s
theorem sM (a b c : Int) : bO a (bO b c) = bO (bO a b) c := by
  unfold bO; repeat' split
  all_goals omega
theorem pm : ∀ (l : List Int) (a b : Int), bO a (l.foldl bO b) = l.foldl bO (bO a b)
  | [], _, _ => rfl
  | x :: l, a, b => by
    simp only [List.foldl_cons]
    rw [pm l a (bO b x), sM]
theorem sN (d : Int) (l : List Int) : jI (d :: l) = some (l.foldl bO d) := by
  unfold jI
  rw [decide_eq_false (by simp; omega), if_neg (by decide)]
  have g0 : aQ (d :: l) 0 = some d := rfl
  obtain ⟨z, e, hz⟩ := jh (jH (d :: l)) (fun j s => ∀ i, j = i + 1 → s = (l.take i).foldl bO d) l.length 1 d (fun i hi => by
    obtain rfl : i = 0 := by omega
    rfl) (fun j s hj1 hj2 hP => by
    obtain ⟨i, rfl⟩ : ∃ i, j = i + 1 := ⟨j - 1, by omega⟩
    have hil : i < l.length := by omega
    have gi : l[i]? = some l[i] := bo hil
    generalize l[i] = x at gi
    refine ⟨bO s x, ?_, fun i' hi' => ?_⟩
    · simp only [jH, cm, List.getElem?_cons_succ, gi, Option.bind_some]
    · obtain rfl : i' = i + 1 := by omega
      rw [List.take_add_one, gi, hP i rfl]
      simp [List.foldl_append])
  rw [show 1 + l.length = (d :: l).length by simp; omega] at e
  have e : bS (jH (d :: l)) (bm 1 (((d :: l).length : Nat) : Int)) d = some z := e
  simp only [g0, Option.bind_some, e]
  rw [hz l.length (by omega), List.take_length]
theorem Ds.uniq {N : Nat → Nat → Prop} {n s : Nat} {D D' : List Int} (h : Ds N n s D) (g : Ds N n s D') : D = D' := by
  apply List.ext_getElem?
  intro i
  by_cases hi : i < n
  · obtain ⟨d, h1, h2⟩ := h.get hi
    obtain ⟨d', g1, g2⟩ := g.get hi
    rw [h1, g1, h2.uniq g2]
  · rw [List.getElem?_eq_none (by rw [h.1]; omega), List.getElem?_eq_none (by rw [g.1]; omega)]
section
variable {t : api_Topo}
theorem sO (wf : Wf t) (a b : Int) : ∃ r, fv t a b = some r ∧ eO t a b = some r ∧ r.1.length ≤ 1000 := by
  by_cases ho : a < 0 ∨ (t.Switches.length : Int) ≤ a ∨ b < 0 ∨ (t.Switches.length : Int) ≤ b
  · obtain ⟨w1, w2⟩ := sG wf ho
    exact ⟨_, w1, w2, Nat.zero_le _⟩
  · obtain ⟨x, rfl⟩ := Int.eq_ofNat_of_zero_le (show 0 ≤ a by omega)
    obtain ⟨y, rfl⟩ := Int.eq_ofNat_of_zero_le (show 0 ≤ b by omega)
    have hx : x < t.Switches.length := by omega
    have hy : y < t.Switches.length := by omega
    have wn := wf.sw
    obtain ⟨d, hd, ⟨_, h1, h2⟩ | ⟨k, D, l, rfl, _, _, hW, h1, h2⟩⟩ := sF wf hx hy
    · exact ⟨_, h1, h2, Nat.zero_le _⟩
    · have := hd.lt (fun a b h => eK h) hx
      exact ⟨_, h1, h2, by have := hW.len; simp; omega⟩
def iu (r : List Int × Bool) : Option Int := if (r.2 && (decide ((r.1.length : Int) > 1))) then aQ r.1 (IntKind.i64.wrap ((r.1.length : Int) - 2)) else some (-1)
theorem sP {r : List Int × Bool} (h : r.1.length ≤ 1000) : ∃ x, iu r = some x := by
  unfold iu
  by_cases c : (r.2 && (decide ((r.1.length : Int) > 1))) = true
  · rw [if_pos c]
    simp at c
    rw [fQ (by omega) (by omega), show ((r.1.length : Int) - 2) = ((r.1.length - 2 : Nat) : Int) by omega, cm]
    exact ⟨_, bo (by omega)⟩
  · rw [if_neg c]; exact ⟨_, rfl⟩
theorem sQ (wf : Wf t) (a : Int) : ∃ T, jG t a = some T ∧ T.length = t.Switches.length ∧ ∀ (v : Nat), v < t.Switches.length → ∃ r x, eO t a v = some r ∧ iu r = some x ∧ T[v]? = some x := by
  obtain ⟨G, eG, hG⟩ := fT wf (-1)
  have wn := wf.sw
  have hl := hG.len
  unfold jG
  have hg0 : cT (G.length : Int) (0 : Int) = some (List.replicate t.Switches.length 0) := by
    unfold cT; rw [if_pos (by omega)]; simp [hl]
  simp only [eG, Option.bind_some, hg0, List.length_replicate]
  obtain ⟨T, e, h1, h2⟩ := dX (kS t a) (fun k m => m.length = t.Switches.length ∧ ∀ (v : Nat), v < k → ∃ r x, eO t a v = some r ∧ iu r = some x ∧ m[v]? = some x) t.Switches.length (List.replicate t.Switches.length 0) ⟨by simp, fun v h => by omega⟩ (fun k m hk ⟨m1, m2⟩ => by
    have hkm : k < m.length := by omega
    obtain ⟨r, r1, r2, r3⟩ := sO wf a (k : Int)
    obtain ⟨x, hx⟩ := sP r3
    have hx0 := hx
    unfold iu at hx
    refine ⟨m.set k x, ?_, by simp [m1], fun v hv => ?_⟩
    · simp only [kS, cm, bo hkm, Option.bind_some]
      rw [en _ hkm]
      simp only [Option.bind_some, r1]
      by_cases c : (r.2 && (decide ((r.1.length : Int) > 1))) = true
      · rw [if_pos c] at hx
        rw [if_pos c, hx]
        simp only [Option.bind_some]
        rw [List.getElem?_set_self hkm]
        simp only [Option.bind_some]
        rw [en _ (by simpa using hkm)]
        simp
      · rw [if_neg c] at hx
        cases hx
        rw [if_neg c]; rfl
    · by_cases e : v = k
      · subst e
        exact ⟨r, x, r2, hx0, by rw [List.getElem?_set_self hkm]⟩
      · obtain ⟨r', x', g1, g2, g3⟩ := m2 v (by omega)
        exact ⟨r', x', g1, g2, by rw [List.getElem?_set_ne (Ne.symm e)]; exact g3⟩)
  rw [e]
  exact ⟨T, rfl, h1, h2⟩
def ky (DD : Nat → List Int) : Nat → Int
  | 0 => 0
  | i + 1 => (DD i).foldl bO (ky DD i)
theorem sR (wf : Wf t) {DD : Nat → List Int} (hDD : ∀ i, i < t.Switches.length → Ds (bL t (-1)) t.Switches.length i (DD i)) : jJ t = some (ky DD t.Switches.length) := by
  obtain ⟨G, eG, hG⟩ := fT wf (-1)
  have hl := hG.len
  unfold jJ
  obtain ⟨z, e, hz⟩ := dX (kT G) (fun i s => s = ky DD i) t.Switches.length 0 rfl (fun i s hi hP => by
    obtain ⟨D, eD, hD⟩ := kv wf hG hi
    obtain rfl := hD.uniq (hDD i hi)
    refine ⟨(DD i).foldl bO s, ?_, by rw [hP]; rfl⟩
    simp only [kT, eD, Option.bind_some]
    have hlen := hD.1
    cases hc : DD i with
    | nil => rw [hc] at hlen; simp at hlen; omega
    | cons d ds =>
      rw [sN]
      simp only [Option.bind_some, List.foldl_cons]
      rw [pm])
  simp only [eG, Option.bind_some, hl, e, hz]
theorem sS (wf : Wf t) {DD : Nat → List Int} (hDD : ∀ i, i < t.Switches.length → Ds (bL t (-1)) t.Switches.length i (DD i)) {i : Nat} (hi : i < t.Switches.length) (s : Int) : bS (jK t (i : Int)) (bm 0 (t.Switches.length : Int)) s = some ((DD i).foldl bO s) := by
  obtain ⟨D, hD, hf⟩ := my wf (-1) hi
  obtain rfl := hD.uniq (hDD i hi)
  have hlen := hD.1
  obtain ⟨z, e, hz⟩ := o8 (jK t (i : Int)) (DD i) (fun l z => z = l.foldl bO s) s rfl (fun j x z hj hP => by
    have hjn : j < t.Switches.length := by rw [← hlen]; exact (List.getElem?_eq_some_iff.1 hj).1
    refine ⟨bO z x, ?_, by rw [hP]; simp [List.foldl_append]⟩
    simp only [jK, hf j hjn, hj, Option.bind_some])
  rw [← hlen, e, hz]
theorem sT (wf : Wf t) {i u : Nat} (hi : i < t.Switches.length) (hu : ir (bL t (-1)) i u) : ew (jL t (i : Int)) dD 0 = some (u : Int) := by
  have wn := wf.sw
  have hui : u ≤ i := hu.2 i (dK.refl i)
  obtain ⟨FK, hFK⟩ := kn 2000 (by omega)
  obtain ⟨z, e, hz⟩ := jk (f := jL t (i : Int)) (fun s => ∃ w : Nat, s = w ∧ w ≤ u) (fun s => s = (u : Int)) (fun s => u - s.toNat) (fun s ⟨w, hs, hw⟩ => by
    subst hs
    obtain ⟨d, h1, h2⟩ := kr wf (-1) hi (show w < t.Switches.length by omega)
    simp only [jL, h1, Option.bind_some]
    by_cases c : d < 0
    · rw [decide_eq_true c, if_pos rfl, fQ (by omega) (by omega)]
      have : ¬ w = u := by
        rintro rfl
        have := h2.rch.2 (hu.1.symm io)
        omega
      exact .inl ⟨_, rfl, ⟨w + 1, rfl, by omega⟩, by omega⟩
    · rw [decide_eq_false c, if_neg (by decide)]
      have := hu.2 w ((h2.rch.1 (by omega)).symm io)
      exact .inr ⟨_, rfl, by omega⟩) dD 0 ⟨0, rfl, Nat.zero_le _⟩ (by omega)
  rw [e, hz]
theorem po (wf : Wf t) {k : Nat} (hk : k < t.Links.length) : ∃ b : Bool, ∀ l : List Int, jz t (k : Int) l = fJ t (k : Int) l ∧ fJ t (k : Int) l = if b then cJ l [(k : Int)] else some l := by
  have hx : t.Links[k]? = some t.Links[k] := bo hk
  generalize t.Links[k] = x at hx
  have hxm : x ∈ t.Links := dm hx
  have p0 := wf.pt x.a0 (List.mem_flatMap.2 ⟨x, hxm, by simp⟩)
  have p1 := wf.pt x.a1 (List.mem_flatMap.2 ⟨x, hxm, by simp⟩)
  obtain ⟨p, hp⟩ := Int.eq_ofNat_of_zero_le p0
  obtain ⟨q, hq⟩ := Int.eq_ofNat_of_zero_le p1
  have hp : pl t.Switches x.a0.Sw = (p : Int) := hp
  have hq : pl t.Switches x.a1.Sw = (q : Int) := hq
  have pn := fR hp
  have qn := fR hq
  have e1 : bO (p : Int) 0 = p := by unfold bO; split <;> omega
  have e2 : bO (q : Int) 0 = q := by unfold bO; split <;> omega
  by_cases c : ((p : Int) != (q : Int)) = true
  · obtain ⟨G, eG, hG⟩ := fT wf (k : Int)
    obtain ⟨D, eD, hD⟩ := kv wf hG pn
    obtain ⟨d, g1, g2⟩ := hD.get qn
    obtain ⟨d', h1, h2⟩ := kr wf (k : Int) pn qn
    obtain rfl := g2.uniq h2
    refine ⟨decide (d < 0), fun l => ?_⟩
    simp only [jz, fJ, ms hx, cm, hx, Option.bind_some, mn, hp, hq, e1, e2, c, if_true, eG, eD, g1, h1]
    refine ⟨trivial, ?_⟩
    by_cases c2 : decide (d < 0) = true
    · simp only [c2, if_true]
      cases cJ l [(k : Int)] <;> rfl
    · simp only [c2]; rfl
  · refine ⟨false, fun l => ?_⟩
    simp only [jz, fJ, ms hx, cm, hx, Option.bind_some, mn, hp, hq, e1, e2, c]
    exact ⟨rfl, rfl⟩
theorem bridges (wf : Wf t) : ∃ l, iE t = some l ∧ bS (fJ t) (bm 0 (t.Links.length : Int)) [] = some l := by
  have wl := wf.ln
  obtain ⟨l, e, _⟩ := dX (fJ t) (fun k l => l.length ≤ k) t.Links.length [] (Nat.le_refl _) (fun k l hk hl => by
    obtain ⟨b, hb⟩ := po wf hk
    rw [(hb l).2]
    cases b with
    | true =>
      rw [if_pos rfl, gP (by simp; omega)]
      exact ⟨_, rfl, by simp; omega⟩
    | false => exact ⟨l, rfl, by omega⟩)
  refine ⟨l, ?_, e⟩
  unfold iE
  rw [pk (g := fJ t) _ _ (fun i hi s => by
    rw [sf] at hi
    obtain ⟨k, hk, rfl⟩ := List.mem_map.1 hi
    obtain ⟨b, hb⟩ := po wf (List.mem_range.1 hk)
    exact (hb s).1), e]
  rfl
theorem sU (wf : Wf t) (a : Int) : ∃ l, gb t a = some l ∧ bS (gf t a) (bm 0 (t.Switches.length : Int)) [] = some l := by
  have wn := wf.sw
  by_cases ho : a < 0 ∨ (t.Switches.length : Int) ≤ a
  · refine ⟨[], sJ wf ho, ?_⟩
    obtain ⟨l, e, hl⟩ := dX (gf t a) (fun k l => l = []) t.Switches.length [] rfl (fun k l hk hl => by
      subst hl
      refine ⟨[], ?_, rfl⟩
      simp only [gf]
      by_cases c : a < 0
      · rw [decide_eq_false (show ¬ a ≥ 0 by omega)]; rfl
      · rw [decide_eq_true (show a ≥ 0 by omega), decide_eq_false (show ¬ a < (t.Switches.length : Int) by omega)]; rfl)
    rw [e, hl]
  · obtain ⟨x, rfl⟩ := Int.eq_ofNat_of_zero_le (show 0 ≤ a by omega)
    have hx : x < t.Switches.length := by omega
    obtain ⟨l, e1, _, e2, e3⟩ := sI wf hx
    refine ⟨l, e1, ?_⟩
    obtain ⟨m, e, _, h1, h2⟩ := dX (gf t (x : Int)) (fun k l => l.length ≤ k ∧ l.Pairwise (· < ·) ∧ ∀ z, z ∈ l ↔ ∃ b : Nat, b < k ∧ z = b ∧ bL t (-1) x b) t.Switches.length [] ⟨Nat.le_refl _, List.Pairwise.nil, fun z => ⟨fun h => (by cases h), fun ⟨b, h, _⟩ => (by omega)⟩⟩ (fun k l hk ⟨hl, ho, hm⟩ => by
      obtain ⟨r, hr, hrn⟩ := mt t (-1) x k
      simp only [gf]
      rw [decide_eq_true (show (x : Int) ≥ 0 by omega), decide_eq_true (show (x : Int) < (t.Switches.length : Int) by omega)]
      simp only [if_true, hr, Option.bind_some]
      by_cases c : r = true
      · subst c
        rw [if_pos rfl, gP (by simp; omega)]
        refine ⟨l ++ [(k : Int)], rfl, by simp; omega, ?_, fun z => ?_⟩
        · rw [List.pairwise_append]
          refine ⟨ho, List.pairwise_singleton _ _, fun z hz y hy => ?_⟩
          rw [List.mem_singleton] at hy
          subst hy
          obtain ⟨b, h1, rfl, _⟩ := (hm z).1 hz
          omega
        · rw [List.mem_append, hm, List.mem_singleton]
          constructor
          · rintro (⟨b, h1, h2, h3⟩ | rfl)
            · exact ⟨b, by omega, h2, h3⟩
            · exact ⟨k, by omega, rfl, hrn.1 rfl⟩
          · rintro ⟨b, h1, rfl, h3⟩
            by_cases e : b = k
            · subst e; exact .inr rfl
            · exact .inl ⟨b, by omega, rfl, h3⟩
      · have : r = false := by simpa using c
        subst this
        refine ⟨l, rfl, by omega, ho, fun z => ?_⟩
        rw [hm]
        constructor
        · rintro ⟨b, h1, h2, h3⟩; exact ⟨b, by omega, h2, h3⟩
        · rintro ⟨b, h1, rfl, h3⟩
          by_cases e : b = k
          · subst e; exact (c (hrn.2 h3)).elim
          · exact ⟨b, by omega, rfl, h3⟩)
    have e : bS (gf t ((x : Nat) : Int)) (bm 0 (t.Switches.length : Int)) [] = some m := e
    have : m = l := pj h1 e2 fun z => by
      rw [h2, e3]
      constructor
      · rintro ⟨b, _, h2, h3⟩; exact ⟨b, h2, h3⟩
      · rintro ⟨b, h2, h3⟩; exact ⟨b, (eK h3).2, h2, h3⟩
    rw [← this]; exact e
end
theorem law_GraphParts (t : api_Topo) (a : Int) : law29_GraphParts t a = some true := by
  unfold law29_GraphParts
  obtain ⟨c, hc, hwf⟩ := sp t
  simp only [sH, Option.bind_some, Bool.not_true, Bool.false_eq_true, if_false, hc]
  by_cases c0 : (c != 0) = true
  · rw [if_pos c0]
  rw [if_neg c0]
  have wf := hwf (by simpa using c0)
  obtain ⟨nx, n1, n2⟩ := sU wf a
  obtain ⟨p, ep, hpl, hp⟩ := sL wf
  obtain ⟨T, eT, hTl, hT⟩ := sQ wf a
  obtain ⟨br, b1, b2⟩ := bridges wf
  obtain ⟨DD, hDD⟩ : ∃ DD : Nat → List Int, ∀ i, i < t.Switches.length → Ds (bL t (-1)) t.Switches.length i (DD i) := by
    have : ∀ i, ∃ D, i < t.Switches.length → Ds (bL t (-1)) t.Switches.length i D := fun i => by
      by_cases h : i < t.Switches.length
      · obtain ⟨D, hD, _⟩ := my wf (-1) h; exact ⟨D, fun _ => hD⟩
      · exact ⟨[], fun h' => (h h').elim⟩
    exact ⟨fun i => Classical.choose (this i), fun i => Classical.choose_spec (this i)⟩
  have hw := sR wf hDD
  simp only [n2, ep, eT, n1, Option.bind_some, pi]
  rw [if_neg (by simp [hpl, hTl])]
  have hloop := mc (jM t a p T) (fun i s => s = ky DD i) (fun _ => False) (fun _ => False) t.Switches.length 0 0 rfl (fun i s _ hi hP => by
    have hi : i < t.Switches.length := by omega
    left
    obtain ⟨u, gu, hu⟩ := hp i hi
    obtain ⟨r, x, r1, r2, r3⟩ := hT i hi
    have hy : ((eO t a (i : Int)).bind fun r36 => (if (r36.2 && (decide ((r36.1.length : Int) > 1))) then (aQ r36.1 (IntKind.i64.wrap ((r36.1.length : Int) - 2))).bind fun x39 => some x39 else some (-1))) = some x := by
      rw [r1]
      simp only [Option.bind_some]
      unfold iu at r2
      by_cases c : (r.2 && (decide ((r.1.length : Int) > 1))) = true
      · rw [if_pos c] at r2 ⊢; rw [r2]; rfl
      · rw [if_neg c] at r2 ⊢; exact r2
    refine ⟨(DD i).foldl bO s, ?_, by rw [hP]; rfl⟩
    simp only [jM, hy, Option.bind_some, cm, r3, bne_self_eq_false, Bool.false_eq_true, if_false, sS wf hDD hi, sT wf hi hu, gu])
  rcases hloop with ⟨s, e, h | h⟩ | ⟨r, e, h⟩
  · rw [Nat.zero_add] at e h
    have e : cw (jM t a p T) (bm 0 (t.Switches.length : Int)) 0 = some (.done s) := e
    simp only [e, Option.bind_some, b1, b2, pi, if_true, hw, h, beq_self_eq_true]
  · exact h.elim
  · exact h.elim
end Go.AM
