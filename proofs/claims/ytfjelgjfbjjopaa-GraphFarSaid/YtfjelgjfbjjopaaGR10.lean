import Derived.Test.YtfjelgjfbjjopaaGrT
import Derived.Test.YtfjelgjfbjjopaaGR7
/-  Several texts in one. -/
section
set_option linter.unusedVariables false
namespace Go.AM
open Go
theorem ss : kv = some true := by decide +kernel
end Go.AM
end
section
set_option linter.unusedVariables false
set_option linter.unusedSimpArgs false
namespace Go.AM
open Go
end Go.AM
end
section
set_option linter.unusedVariables false
set_option linter.unusedSimpArgs false
namespace Go.AM
open Go
theorem dy.get {N : Nat → Nat → Prop} {D : List Int} {d v : Nat} {l : List Int} (h : dy N D d v l) : D[v]? = some (d : Int) → ∀ i : Nat, i ≤ d →
    ∃ u : Nat, ((v : Int) :: l)[i]? = some (u : Int) ∧ Wk N i v u ∧ D[u]? = some ((d - i : Nat) : Int) ∧ (i < d → ∃ w : Nat, ((v : Int) :: l)[i + 1]? = some (w : Int) ∧ N u w) := by
  induction h with
  | done v =>
    intro h0 i hi
    obtain rfl : i = 0 := by omega
    exact ⟨v, rfl, .nil v, h0, fun h => by omega⟩
  | @step d v k l hk _ ih =>
    intro h0 i hi
    cases i with
    | zero => exact ⟨v, rfl, .nil v, h0, fun _ => ⟨k, rfl, hk.nb⟩⟩
    | succ i =>
      obtain ⟨u, h1, h2, h3, h4⟩ := ih hk.at_ i (by omega)
      refine ⟨u, by simpa using h1, h2.cons hk.nb, by rw [h3]; congr 2; omega, fun hlt => ?_⟩
      obtain ⟨w, g1, g2⟩ := h4 (by omega)
      exact ⟨w, by simpa using g1, g2⟩
theorem su {N : Nat → Nat → Prop} {n b : Nat} {D : List Int} (hs : ∀ a b, N a b → N b a) (hD : Ds N n b D) {d v u i : Nat} (hv : D[v]? = some (d : Int)) (w : Wk N i v u) (hi : i ≤ d) (hu : D[u]? = some ((d - i : Nat) : Int)) : b4 N v u (i : Int) := by
  refine .inr ⟨i, rfl, w, fun j wj => ?_⟩
  have h1 := hD.2 v _ hv
  have h2 := hD.2 u _ hu
  rcases h1 with ⟨h1, _⟩ | ⟨k, h1, _, hm⟩
  · omega
  rcases h2 with ⟨h2, _⟩ | ⟨k', h2, wk, _⟩
  · omega
  have := hm _ (wk.app (wj.rev hs))
  omega
section
variable {t : api_Topo}
theorem sv (wf : Wf t) {a : Nat} (ha : a < t.Switches.length) : ∃ l, jv t a = some l ∧ l.length ≤ t.Switches.length ∧ l.Pairwise (· < ·) ∧ ∀ z, z ∈ l ↔ ∃ b : Nat, z = b ∧ bJ t (-1) a b := by
  obtain ⟨G, eG, hG⟩ := j9 wf (-1)
  have haG : a < G.length := by rw [hG.len]; exact ha
  have gG : G[a]? = some G[a] := bf haG
  generalize G[a] = l at gG
  have ho := hG.ord a l gG
  refine ⟨l, ?_, ?_, ho, fun z => ⟨fun hz => hG.out a l z gG hz, ?_⟩⟩
  · unfold jv
    simp only [eG, jb hG.len ha, Option.bind_some, Bool.not_true, Bool.false_eq_true, if_false, b8, gG]
  · have nd : (l.map Int.toNat).Nodup := by
      rw [List.Nodup, List.pairwise_map]
      refine List.Pairwise.imp_of_mem (R := fun a b => a < b) (fun {x y} hx hy hxy => ?_) ho
      obtain ⟨u, rfl, _⟩ := hG.out a l x gG hx
      obtain ⟨w, rfl, _⟩ := hG.out a l y gG hy
      simp; omega
    have := lV nd (m := List.range t.Switches.length) (fun x hx => by
      obtain ⟨y, hy, rfl⟩ := List.mem_map.1 hx
      obtain ⟨u, rfl, hu⟩ := hG.out a l y gG hy
      simpa using (dR hu).2)
    simpa using this
  · rintro ⟨b, rfl, hb⟩
    exact hG.inn a l b gG hb
def dF (N : Nat → Nat → Prop) (a b : Nat) : Prop := ∃ k, Wk N k a b
theorem dF.symm {N : Nat → Nat → Prop} (hs : ∀ a b, N a b → N b a) {a b : Nat} (h : dF N a b) : dF N b a := h.elim fun k w => ⟨k, w.rev hs⟩
theorem dF.trans {N : Nat → Nat → Prop} {a b c : Nat} (h : dF N a b) (g : dF N b c) : dF N a c := h.elim fun _ w => g.elim fun _ v => ⟨_, w.app v⟩
theorem dF.refl {N : Nat → Nat → Prop} (a : Nat) : dF N a a := ⟨0, .nil a⟩
theorem b4.rch {N : Nat → Nat → Prop} {a b : Nat} {d : Int} (h : b4 N a b d) : 0 ≤ d ↔ dF N a b := by
  rcases h with ⟨h1, h2⟩ | ⟨k, h1, h2, _⟩
  · exact ⟨fun h => by omega, fun ⟨k, w⟩ => (h2 k w).elim⟩
  · exact ⟨fun _ => ⟨k, h2⟩, fun _ => by omega⟩
def ie (N : Nat → Nat → Prop) (v u : Nat) : Prop := dF N u v ∧ ∀ w, dF N w v → u ≤ w
theorem ie.uniq {N : Nat → Nat → Prop} {v u u' : Nat} (h : ie N v u) (g : ie N v u') : u = u' := Nat.le_antisymm (h.2 _ g.1) (g.2 _ h.1)
def sx (N : Nat → Nat → Prop) (n i : Nat) (l : List Int) : Prop := l.length = n ∧ ∀ (v : Nat) x, l[v]? = some x → (x = -1 ∧ ∀ w, w < i → ¬ dF N w v) ∨ ∃ u : Nat, u < i ∧ x = u ∧ ie N v u
theorem sy (wf : Wf t) : ∃ p, jw t = some p ∧ p.length = t.Switches.length ∧ ∀ (v : Nat), v < t.Switches.length → ∃ u : Nat, p[v]? = some (u : Int) ∧ ie (bJ t (-1)) v u := by
  obtain ⟨G, eG, hG⟩ := j9 wf (-1)
  have wn := wf.sw
  have hl := hG.len
  unfold jw
  have hg0 : dg (G.length : Int) (0 : Int) = some (List.replicate t.Switches.length 0) := by
    unfold dg; rw [if_pos (by omega)]; simp [hl]
  simp only [eG, Option.bind_some, hg0, List.length_replicate]
  rw [mb (n := t.Switches.length) (by omega) kC (fun j l hj => by
    simp only [kC, b8, bf hj, Option.bind_some]
    rw [eS _ hj]; rfl)]
  simp only [Option.bind_some]
  obtain ⟨p, e, hlen, hp⟩ := fy (kE G) (sx (bJ t (-1)) t.Switches.length) G.length (List.replicate t.Switches.length (-1)) ⟨by simp, fun v x hx => by
    rw [List.getElem?_replicate] at hx
    split at hx
    · cases hx; exact .inl ⟨rfl, fun w h => by omega⟩
    · cases hx⟩ (fun i l hi ⟨h1, h2⟩ => by
      have hil : i < l.length := by omega
      have gi : l[i]? = some l[i] := bf hil
      generalize l[i] = x at gi
      simp only [kE, b8, gi, Option.bind_some]
      rcases h2 i x gi with ⟨rfl, hn⟩ | ⟨u, hu, rfl, hL⟩
      · rw [if_neg (by decide)]
        obtain ⟨D, eD, hD⟩ := mc wf hG (s := i) (by omega)
        simp only [eD, Option.bind_some]
        obtain ⟨l2, e2, g1, g2⟩ := fy (kD (i : Int) D) (fun k m => m.length = l.length ∧ ∀ (v : Nat) d y, D[v]? = some d → l[v]? = some y → m[v]? = some (if v < k ∧ 0 ≤ d then (i : Int) else y)) D.length l ⟨rfl, fun v d y _ hy => by simp [hy]⟩ (fun k m hk ⟨m1, m2⟩ => by
          have hDl := hD.1
          have gd : D[k]? = some D[k] := bf hk
          generalize D[k] = d at gd
          have hkl : k < l.length := by omega
          have hkm : k < m.length := by omega
          simp only [kD, b8, gd, Option.bind_some]
          by_cases c : 0 ≤ d
          · rw [decide_eq_true (show d ≥ 0 from c), if_pos rfl, bf hkm]
            simp only [Option.bind_some]
            rw [eS _ hkm]
            refine ⟨_, rfl, by simp [m1], fun v d' y hd hy => ?_⟩
            rw [List.getElem?_set]
            by_cases e : k = v
            · subst e
              rw [if_pos rfl, if_pos hkm]
              rw [gd] at hd; cases hd
              rw [if_pos ⟨by omega, c⟩]
            · rw [if_neg e, m2 v d' y hd hy]
              congr 1
              by_cases c2 : v < k ∧ 0 ≤ d'
              · rw [if_pos c2, if_pos ⟨by omega, c2.2⟩]
              · rw [if_neg c2, if_neg (by omega)]
          · rw [decide_eq_false (show ¬ d ≥ 0 from c), if_neg (by decide)]
            refine ⟨_, rfl, m1, fun v d' y hd hy => ?_⟩
            rw [m2 v d' y hd hy]
            congr 1
            by_cases e : k = v
            · subst e
              rw [gd] at hd; cases hd
              rw [if_neg (by omega), if_neg (by omega)]
            · by_cases c2 : v < k ∧ 0 ≤ d'
              · rw [if_pos c2, if_pos ⟨by omega, c2.2⟩]
              · rw [if_neg c2, if_neg (by omega)])
        rw [e2]
        refine ⟨l2, rfl, by rw [g1, h1], fun v y hy => ?_⟩
        have hvn : v < t.Switches.length := by have := (List.getElem?_eq_some_iff.1 hy).1; omega
        obtain ⟨d, gd, hd⟩ := hD.get hvn
        have gv : l[v]? = some (l[v]'(by omega)) := bf (by omega)
        generalize l[v]'(by omega) = y0 at gv
        have := g2 v d y0 gd gv
        rw [hy] at this
        have := aE this
        have hvD : v < D.length := by rw [hD.1]; exact hvn
        by_cases c : 0 ≤ d
        · rw [if_pos ⟨hvD, c⟩] at this
          subst this
          have hr := hd.rch.1 c
          refine .inr ⟨i, by omega, rfl, hr, fun w hw => Nat.le_of_not_lt fun hlt => hn w hlt (hw.trans (hr.symm fN))⟩
        · rw [if_neg (by omega)] at this
          subst this
          rcases h2 v y gv with ⟨rfl, hv⟩ | ⟨u, hu, rfl, hL⟩
          · refine .inl ⟨rfl, fun w hw => ?_⟩
            by_cases e : w = i
            · subst e; exact fun hr => c (hd.rch.2 hr)
            · exact hv w (by omega)
          · exact .inr ⟨u, by omega, rfl, hL⟩
      · rw [if_pos (by simp)]
        refine ⟨l, rfl, h1, fun v y gv => ?_⟩
        rcases h2 v y gv with ⟨rfl, hv⟩ | ⟨u', hu', rfl, hL'⟩
        · refine .inl ⟨rfl, fun w hw => ?_⟩
          by_cases e : w = i
          · subst e; exact fun hr => hv u hu (hL.1.trans hr)
          · exact hv w (by omega)
        · exact .inr ⟨u', by omega, rfl, hL'⟩)
  rw [e]
  refine ⟨p, rfl, hlen, fun v hv => ?_⟩
  have hvp : v < p.length := by omega
  have gv : p[v]? = some p[v] := bf hvp
  generalize p[v] = x at gv
  rcases hp v x gv with ⟨_, h⟩ | ⟨u, _, rfl, hL⟩
  · exact (h v (by omega) (dF.refl v)).elim
  · exact ⟨u, gv, hL⟩
end
end Go.AM
end
section
set_option linter.unusedVariables false
set_option linter.unusedSimpArgs false
namespace Go.AM
open Go
theorem sA (l : List Int) (x : Int) (w : List Int × Bool) (i : Int) (hx : aQ w.1 i = some x) : cm (jx w i l) (be 0 (l.length : Int)) false = some (l.any (· == x)) := by
  obtain ⟨z, e, hz⟩ := oM (jx w i l) l (fun pre b => b = pre.any (· == x)) false rfl (fun j y b hj hb => by
    subst hb
    simp only [jx, b8, hj, Option.bind_some]
    by_cases c : (l.take j).any (· == x) = true
    · rw [if_pos c]; exact ⟨_, rfl, by simp [c]⟩
    · rw [if_neg c, hx]
      exact ⟨_, rfl, by simp at c; simp [c]⟩)
  rw [e, hz]
theorem md {a n : Nat} (hn : 0 < n) : ∃ q : Nat, fW (a : Int) (n : Int) = some (q : Int) ∧ q < n := by
  refine ⟨a % n, ?_, Nat.mod_lt _ hn⟩
  unfold fW
  rw [if_neg (by omega)]
  congr 1
theorem law_GraphFar (t : api_Topo) (s : A3 Int) (h0 : 0 ≤ s.a0 ∧ s.a0 ≤ 10000000) (h1 : 0 ≤ s.a1 ∧ s.a1 ≤ 10000000) (h2 : 0 ≤ s.a2 ∧ s.a2 ≤ 10000000) : law29_GraphFar t s = some true := by
  unfold law29_GraphFar
  obtain ⟨c, hc, hwf⟩ := sb t
  simp only [ss, Option.bind_some, Bool.not_true, Bool.false_eq_true, if_false, hc]
  by_cases c0 : ((c != 0) || ((t.Switches.length : Int) == 0)) = true
  · rw [if_pos c0]
  rw [if_neg c0]
  have wf : Wf t := hwf (by by_cases e : c = 0 <;> simp_all)
  have wn := wf.sw
  have hn : 0 < t.Switches.length := by
    rcases Nat.eq_zero_or_pos t.Switches.length with e | e
    · exact (c0 (by rw [e]; simp)).elim
    · exact e
  obtain ⟨a0, ha0⟩ : ∃ a : Nat, s.a0 = (a : Int) := Int.eq_ofNat_of_zero_le h0.1
  obtain ⟨a1, ha1⟩ : ∃ a : Nat, s.a1 = (a : Int) := Int.eq_ofNat_of_zero_le h1.1
  obtain ⟨a2, ha2⟩ : ∃ a : Nat, s.a2 = (a : Int) := Int.eq_ofNat_of_zero_le h2.1
  obtain ⟨x, ex, hx⟩ := md (a := a0) hn
  obtain ⟨y, ey, hy⟩ := md (a := a1) hn
  obtain ⟨z, ez, hz⟩ := md (a := a2) hn
  rw [eH h0.1 h0.2, eH h1.1 h1.2, eH h2.1 h2.2, ha0, ha1, ha2]
  obtain ⟨d1, e1, k1⟩ := jc wf hx hy
  obtain ⟨d2, e2, k2⟩ := jc wf hy hz
  obtain ⟨d3, e3, k3⟩ := jc wf hx hz
  obtain ⟨d4, e4, k4⟩ := jc wf hy hx
  obtain rfl : d1 = d4 := (k1.rev fN).uniq k4
  have l1 := k1.lt (fun a b h => dR h) hx
  have l2 := k2.lt (fun a b h => dR h) hy
  have l3 := k3.lt (fun a b h => dR h) hx
  have g1 := k1.ge
  have g2 := k2.ge
  simp only [ex, ey, ez, e1, e2, e3, e4, Option.bind_some]
  have ez : (d1 == 0) = ((x : Int) == (y : Int)) := by
    rw [Bool.eq_iff_iff]
    simp only [beq_iff_eq]
    constructor
    · rintro rfl; have := k1.zero; omega
    · intro h
      have : x = y := by omega
      subst this
      exact k1.uniq (j6 x)
  have cond : ((d1 != d1) || (if decide (d1 ≥ 0) then (if decide (d2 ≥ 0) then ((decide (d3 < 0)) || ((decide (d3 > (IntKind.i64.wrap (d1 + d2)))) || (!((d1 == 0) == ((x : Int) == (y : Int)))))) else (!((d1 == 0) == ((x : Int) == (y : Int))))) else (!((d1 == 0) == ((x : Int) == (y : Int)))))) = false := by
    rw [ez]
    simp only [bne_self_eq_false, beq_self_eq_true, Bool.not_true, Bool.or_false, Bool.false_or]
    by_cases c1 : d1 ≥ 0
    · by_cases c2 : d2 ≥ 0
      · have ⟨t1, t2⟩ := k1.tri k2 k3 c1 c2
        rw [eH (by omega) (by omega)]
        rw [if_pos (by simpa using c1), if_pos (by simpa using c2)]
        simp; omega
      · rw [if_pos (by simpa using c1), if_neg (by simpa using c2)]
    · rw [if_neg (by simpa using c1)]
  rw [cond, if_neg (by decide)]
  obtain ⟨p, ep, hpl, hp⟩ := sy wf
  obtain ⟨u, gu, hu⟩ := hp x hx
  obtain ⟨u', gu', hu'⟩ := hp y hy
  have fin : (((u : Int) == (u' : Int)) == decide (d1 ≥ 0)) = true := by
    rw [beq_iff_eq, Bool.eq_iff_iff]
    simp only [beq_iff_eq, decide_eq_true_eq]
    rw [show d1 ≥ 0 ↔ dF (bJ t (-1)) x y from k1.rch]
    constructor
    · intro e
      have : u = u' := by omega
      subst this
      exact (hu.1.symm fN).trans hu'.1
    · intro hr
      have : ie (bJ t (-1)) y u := ⟨hu.1.trans hr, fun w hw => hu.2 w (hw.trans (hr.symm fN))⟩
      rw [this.uniq hu']
  obtain ⟨d, hd, ⟨rfl, w1, _⟩ | ⟨k, D, l, rfl, hD, hDx, hW, w1, _⟩⟩ := sr wf hx hy
  · obtain rfl := k1.uniq hd
    simp only [w1, Option.bind_some]
    rw [if_neg (by decide)]
    rw [show be 1 ((([] : List Int).length : Nat) : Int) = [] from rfl]
    simp only [cd, Option.bind_some, ep, hpl, beq_self_eq_true, if_true, b8, gu, gu', fin]
  · obtain rfl := k1.uniq hd
    have hlen := hW.len
    simp only [w1, Option.bind_some]
    rw [if_neg (by
      rw [eH (by omega) (by omega)]
      simp [hlen])]
    have hloop := lR (jy t (x : Int) ((x : Int) :: l, true)) (fun _ _ => True) (fun _ => False) (fun _ => False) l.length 1 () trivial (fun j s hj1 hj2 _ => by
      left
      obtain ⟨i, rfl⟩ : ∃ i, j = i + 1 := ⟨j - 1, by omega⟩
      obtain ⟨v, a1, a2, a3, a4⟩ := hW.get hDx i (by omega)
      obtain ⟨w, b1, b2⟩ := a4 (by omega)
      obtain ⟨w', c1, c2, c3, _⟩ := hW.get hDx (i + 1) (by omega)
      have : w' = w := by
        rw [c1] at b1
        have := aE b1; omega
      subst this
      obtain ⟨hv, hw⟩ := dR b2
      obtain ⟨nb, en, _, _, hnb⟩ := sv wf hv
      obtain ⟨df, ef, kf⟩ := jc wf hx hw
      obtain rfl := kf.uniq (su fN hD hDx c2 (by omega) c3)
      have wr : IntKind.i64.wrap (((i + 1 : Nat) : Int) - 1) = (i : Int) := by rw [eH (by omega) (by omega)]; omega
      have hany : nb.any (· == (w' : Int)) = true := List.any_eq_true.2 ⟨(w' : Int), (hnb _).2 ⟨w', rfl, b2⟩, by simp⟩
      refine ⟨(), ?_, trivial⟩
      simp only [jy, wr, b8, a1, Option.bind_some, en]
      rw [sA nb (w' : Int) _ _ (by rw [b8]; exact c1), hany]
      simp only [Option.bind_some, c1, ef, Bool.not_true, Bool.false_eq_true, if_false, bne_self_eq_false])
    rw [show 1 + l.length = ((x : Int) :: l).length by simp; omega] at hloop
    rcases hloop with ⟨s', e, _⟩ | ⟨r, e, h⟩
    · have e : cd (jy t (x : Int) ((x : Int) :: l, true)) (be 1 ((((x : Int) :: l).length : Nat) : Int)) () = some (.done s') := e
      simp only [e, Option.bind_some, ep, hpl, beq_self_eq_true, if_true, b8, gu, gu', fin]
    · exact h.elim
end Go.AM
end
