import Derived.Test.YtfjelgjfbjjopaaAmDel
import Derived.Test.YtfjelgjfbjjopaaAmN6
set_option linter.unusedVariables false
set_option linter.unusedSectionVars false
set_option linter.unusedSimpArgs false
namespace Go.AM
open Go Go.RowKit Go.Proofs
variable [Glob]
variable {P : Program} {ρ : Shelf.Ren}
def df (c : Array Value) (o : Nat) (l : List Value) : Array Value := (c.toList.take o ++ l ++ c.toList.drop (o + l.length)).toArray
theorem lw {c : Array Value} {o : Nat} {l : List Value} (h : o + l.length ≤ c.size) : (df c o l).size = c.size := by simp [df]; omega
theorem jL {c : Array Value} {o : Nat} {l : List Value} (h : o + l.length ≤ c.size) (i : Nat) : (df c o l)[i]? = if i < o then c[i]? else if i < o + l.length then l[i - o]? else c[i]? := by
  unfold df
  rw [List.getElem?_toArray, gE (by simpa using h)]
  simp only [Array.getElem?_toList]
theorem lz {b : Nat} {ty : TypeId} {fr : Nat × Nat} : ∀ (l : List Value) (o : Nat) (c : Array Value) (w : World), w.heap[b]? = some (.cells c ty fr) → o + l.length ≤ c.size → w.setCells b o l = bY w b (df c o l)
  | [], o, c, w, h, hl => by
    have : df c o [] = c := by simp [df]
    rw [this, mD h]; rfl
  | v :: l, o, c, w, h, hl => by
    simp only [List.length_cons] at hl
    show (w.setCell ⟨b, o, none⟩ v).setCells b (o + 1) l = _
    rw [mE v h, lz l (o + 1) (c.setIfInBounds o v) _ (dY h) (by simp; omega), ky]
    congr 1
    apply Array.ext_getElem?
    intro i
    rw [jL (by simp; omega), jL (by simp; omega)]
    simp only [Array.getElem?_setIfInBounds, List.length_cons]
    by_cases c1 : i < o
    · simp [c1, show i < o + 1 by omega, show ¬ o = i by omega]
    · by_cases c2 : i = o
      · subst c2
        simp [show i < c.size by omega]
      · by_cases c3 : i < o + 1 + l.length
        · simp only [show ¬ i < o + 1 by omega, if_false, c3, if_true, c1, show i < o + (l.length + 1) by omega]
          rw [show i - o = (i - (o + 1)) + 1 by omega, List.getElem?_cons_succ]
        · simp only [show ¬ i < o + 1 by omega, if_false, c3, c1, show ¬ i < o + (l.length + 1) by omega, show ¬ o = i by omega]
theorem rQ (zc : Array Value) (m k : Nat) (hk : zc.size = k) (hpos : 0 < k) (h1 : ∀ v ∈ zc, v.oneCell' = true) : (Builtin.zeroCells zc m).toList.length = m * k ∧ ∀ v ∈ (Builtin.zeroCells zc m).toList, v.oneCell' = true := by
  refine ⟨by simp [Builtin.zeroCells, hk], fun v hv => ?_⟩
  simp only [Builtin.zeroCells, Array.toList_map, List.mem_map] at hv
  obtain ⟨i, _, rfl⟩ := hv
  have hlt : i % zc.size < zc.size := Nat.mod_lt _ (by omega)
  rw [getElem!_pos zc _ hlt]
  exact h1 _ (Array.getElem_mem hlt)
theorem aw.int_inv {μ : Nat → Option aJ} {O : Nat → Nat → Prop} {w : World} {k : IntKind} {n : Int} {u : Value} (h : aw μ O w (.d (.int k n)) u) : u = .int k n := by
  cases h with | d _ _ h => cases h; rfl
theorem aw.loc_inv {μ : Nat → Option aJ} {O : Nat → Nat → Prop} {w : World} {id off len : Nat} {u : Value} (h : aw μ O w (.loc id off len) u) :
    (len = 0 ∧ ∃ a, u = .slice a 0 0 ∧ μ id ≠ none) ∨ ∃ b k cap, u = .slice (some ⟨b, off * ah k, none⟩) len cap ∧ μ id = some (.at b k) ∧ len ≤ cap ∧ cap ≤ maxLen ∧ eK w b ((off + cap) * ah k) := by
  cases h with
  | loc0 _ _ a h => exact .inl ⟨rfl, a, rfl, h⟩
  | loc _ _ _ b k cap h1 h2 h3 h4 => exact .inr ⟨b, k, cap, rfl, h1, h2, h3, h4⟩
theorem rR (L : SlLaysE0.n45 P ρ) (k : Option Nat) (hk : 0 < ah k) (hcall : fu P (ρ.f 45) = true) (z23 : ∀ w, (Go.sizeOf (ρ.t 23)).run P w = .ok (ah k) w) (z : Value) (v23 : ∀ w, (zeroValue (ρ.t 23)).run P w = .ok z w) (hzc : z.cells.size = ah k) (hz1 : ∀ v ∈ z.cells, v.oneCell' = true)
    (hinfo : (P.info? (ρ.t 23)).map (fun i => i.size) = some (ah k)) {els : List D} {i j : Nat} (hij : i ≤ j) (hj : j ≤ els.length) :
    cy P (ρ.f 45) [.loc 0 0 els.length, .d (.int .i64 (i : Int)), .d (.int .i64 (j : Int))] (ag [(0, .lst true k els)]) 1 (.loc 0 0 (els.take i ++ els.drop j).length) (ag [(0, .lst true k (els.take i ++ els.drop j))]) 1 := by
  obtain ⟨i0, hi0, hsz⟩ := Option.map_eq_some_iff.1 hinfo
  refine ⟨hcall, fun A μ w vs hs hfr hlen hrel => ?_⟩
  have h3 : vs.size = 3 := by simpa using hlen.symm
  have r0 := hrel 0 _ vs[0] rfl (by simp [h3])
  have r1 := hrel 1 _ vs[1] rfl (by simp [h3])
  have r2 := hrel 2 _ vs[2] rfl (by simp [h3])
  have e1 : vs[1] = .int .i64 (i : Int) := r1.int_inv
  have e2 : vs[2] = .int .i64 (j : Int) := r2.int_inv
  have evs : vs = #[vs[0], .int .i64 (i : Int), .int .i64 (j : Int)] := by
    apply Array.ext (by simp [h3])
    intro q h1 h2
    have : q = 0 ∨ q = 1 ∨ q = 2 := by omega
    rcases this with rfl | rfl | rfl
    · rfl
    · exact e1
    · exact e2
  generalize hu : vs[0] = u at r0 evs
  have hid : ag [(0, aK.lst true k els)] 0 = some (.lst true k els) := rfl
  have other : ∀ q, q ≠ 0 → ∀ x, ag [(0, aK.lst true k x)] q = none := fun q hq x => by simp [ag, hq]
  have upd0 : ∀ x, ag [(0, aK.lst true k x)] = aj (ag [(0, aK.lst true k els)]) 0 (some (.lst true k x)) := by
    intro x
    funext q
    by_cases h : q = 0
    · subst h; simp [ag, aj]
    · simp [ag, aj, h]
  have same : i = j → ∀ (a : Option Addr) (cap : Nat), u = .slice a els.length cap → els.length ≤ cap → cap ≤ maxLen → (a = none → cap = 0) → aw μ (ak A μ (ag [(0, aK.lst true k els)])) w (.loc 0 0 els.length) u →
      Calls P (ρ.f 45) vs w fun e w' => ∃ cv μ', e = .returned cv ∧ aw μ' (ak A μ' (ag [(0, .lst true k (els.take i ++ els.drop j))])) w' (.loc 0 0 (els.take i ++ els.drop j).length) cv ∧ aB A μ' (ag [(0, .lst true k (els.take i ++ els.drop j))]) w' ∧ aA μ (ag [(0, .lst true k els)]) w μ' (ag [(0, .lst true k (els.take i ++ els.drop j))]) w' ∧ ∀ id, μ' id ≠ none → μ id ≠ none ∨ (1 ≤ id ∧ id < 1) := by
    rintro rfl a cap rfl h1 h2 h4 hv
    rw [evs]
    refine (rO L (ah k) z23 a els.length cap i w h1 h2 hj h4).mono ?_
    rintro e w' ⟨rfl, rfl⟩
    rw [List.take_append_drop]
    exact ⟨_, μ, rfl, hv, hs, aA.refl _ _ _, fun id h => .inl h⟩
  by_cases hlt : i = j
  · rcases r0.loc_inv with ⟨hz, a, ha, hm⟩ | ⟨b, k', cap, ha, h1, h2, h4, h5⟩
    · exact same hlt a 0 (by rw [ha, hz]) (by omega) (by decide) (fun _ => rfl) r0
    · exact same hlt _ cap ha h2 h4 (fun h => by cases h) r0
  · rcases hs.blks 0 _ hid with ⟨h1, hnil⟩ | ⟨b, c, ty, fr, h1, h2, h4, h5, h6⟩
    · exfalso
      rw [hnil] at hj; simp at hj; omega
    · have hn0 : 0 < els.length := by omega
      rcases r0.loc_inv with ⟨hz, _⟩ | ⟨b', k', cap, hr, g1, g2, g3, g4⟩
      · omega
      · rw [h1] at g1
        cases g1
        obtain ⟨n, hel⟩ : ∃ n, n = els.length := ⟨_, rfl⟩
        rw [← hel] at hr g2 hn0 hj h5
        have cell : ∀ q, q < n * ah k → ∃ v, c[q]? = some v ∧ v.oneCell' = true := by
          intro q hq
          have hqi : q / ah k < els.length := by rw [← hel, Nat.div_lt_iff_lt_mul hk]; exact hq
          obtain ⟨s1, s2⟩ := h6 _ _ (bt hqi)
          have hqj : q % ah k < (els[q / ah k]).cells.length := by rw [ck s1]; exact Nat.mod_lt _ hk
          obtain ⟨v, hv, ho, _⟩ := s2 _ _ (bt hqj)
          have e : q / ah k * ah k + q % ah k = q := by have := Nat.div_add_mod q (ah k); rw [Nat.mul_comm] at this; omega
          rw [e] at hv
          exact ⟨v, hv, ho⟩
        have hmul : j * ah k + (n - j) * ah k = n * ah k := by rw [← Nat.add_mul]; congr 1; omega
        have hmul2 : (i + (n - j)) * ah k + (j - i) * ah k = n * ah k := by rw [← Nat.add_mul]; congr 1; omega
        have hmul3 : (i + (n - j)) * ah k = i * ah k + (n - j) * ah k := Nat.add_mul _ _ _
        have hil : i * ah k ≤ j * ah k := Nat.mul_le_mul_right _ hij
        let news : List Value := (c.toList.drop (j * ah k)).take ((n - j) * ah k)
        have hnl : news.length = (n - j) * ah k := by simp only [news, List.length_take, List.length_drop, Array.length_toList]; omega
        have hng : ∀ t, t < (n - j) * ah k → news[t]? = c[j * ah k + t]? := by
          intro t ht
          simp only [news]
          rw [List.getElem?_take, if_pos ht, List.getElem?_drop, Array.getElem?_toList]
        obtain ⟨z1, z2⟩ := rQ z.cells (j - i) (ah k) hzc hk hz1
        have cellw : ∀ q, w.cell? ⟨b, q, none⟩ = c[q]? := fun q => by rw [cD h2]
        rw [evs, hr]
        refine (rP L (ah k) hk z23 z v23 i0 hi0 hsz b (0 * ah k) n cap i j w news _ hnl rfl z1 z2 (fun t u hu => ?_) (fun u hu => ?_) (fun t ht => ?_) (fun t ht => ?_) g2 g3 (by omega) hj).mono ?_
        · have ht : t < (n - j) * ah k := by rw [← hnl]; exact (List.getElem?_eq_some_iff.1 hu).1
          rw [cellw, ← hu, hng t ht]; congr 1; omega
        · obtain ⟨t, ht, rfl⟩ := List.getElem_of_mem hu
          have ht' : t < (n - j) * ah k := by rwa [hnl] at ht
          obtain ⟨v, hv, ho⟩ := cell (j * ah k + t) (by omega)
          have := hng t ht'
          rw [hv, bt ht] at this
          rw [aH this]; exact ho
        · obtain ⟨v, hv, _⟩ := cell t ht
          rw [cellw, show 0 * ah k + t = t by omega, hv]; rfl
        · exact mF h2 h4 (by omega)
        · rintro e w' ⟨rfl, hw'⟩
          have hd2 : w.drew.heap[b]? = some (.cells c ty fr) := h2
          have hw2 : w' = bY w.drew b (df (df c (i * ah k) news) ((i + (n - j)) * ah k) (Builtin.zeroCells z.cells (j - i)).toList) := by
            rw [hw', show 0 * ah k + i * ah k = i * ah k by omega, show 0 * ah k + (i + (n - j)) * ah k = (i + (n - j)) * ah k by omega]
            rw [lz news _ c w.drew hd2 (by rw [hnl]; omega), lz _ _ _ _ (dY hd2) (by rw [lw (by rw [hnl]; omega), z1]; omega), ky]
          have hsz1 : (df c (i * ah k) news).size = c.size := lw (by rw [hnl]; omega)
          have hsz2 : (df (df c (i * ah k) news) ((i + (n - j)) * ah k) (Builtin.zeroCells z.cells (j - i)).toList).size = c.size := (lw (by rw [hsz1, z1]; omega)).trans hsz1
          have get2 : ∀ q, q < (i + (n - j)) * ah k → (df (df c (i * ah k) news) ((i + (n - j)) * ah k) (Builtin.zeroCells z.cells (j - i)).toList)[q]? = if q < i * ah k then c[q]? else c[q - i * ah k + j * ah k]? := by
            intro q hq
            rw [jL (by rw [hsz1, z1]; omega), if_pos hq, jL (by rw [hnl]; omega)]
            by_cases c1 : q < i * ah k
            · rw [if_pos c1, if_pos c1]
            · rw [if_neg c1, if_neg c1, if_pos (by rw [hnl]; omega), hng _ (by omega)]
              congr 1; omega
          generalize hc2 : df (df c (i * ah k) news) ((i + (n - j)) * ah k) (Builtin.zeroCells z.cells (j - i)).toList = c2 at hw2 hsz2 get2
          have hsd : aB A μ (ag [(0, .lst true k els)]) w.drew := hs.drew _
          have gd : aA μ (ag [(0, .lst true k els)]) w μ (ag [(0, .lst true k els)]) w.drew := aA.drew _
          have g := aA.write (blk' := .lst true k (els.take i ++ els.drop j)) (c' := c2) hsd hid h1 hd2 hsz2 (fun o' ho' => (ho' rfl).elim) (fun o' ho' => ho')
          have hlen' : (els.take i ++ els.drop j).length = i + (n - j) := by simp; omega
          have hsw := hsd.write hid h1 hd2 g (.inr ⟨b, _, ty, fr, h1, dY hd2, by show fr.1 = fr.2 ∨ _ ≤ fr.1; rw [hsz2]; exact h4, by rw [hlen', hsz2]; omega, fun q d hq => by
            have hql : q < i + (n - j) := by rw [← hlen']; exact (List.getElem?_eq_some_iff.1 hq).1
            have hq1 : (q + 1) * ah k ≤ (i + (n - j)) * ah k := Nat.mul_le_mul_right _ hql
            rw [Nat.add_mul, Nat.one_mul] at hq1
            by_cases c1 : q < i
            · have hqd : els[q]? = some d := by
                rw [List.getElem?_append_left (by simp; omega), List.getElem?_take, if_pos c1] at hq
                exact hq
              have hq2 : (q + 1) * ah k ≤ i * ah k := Nat.mul_le_mul_right _ c1
              rw [Nat.add_mul, Nat.one_mul] at hq2
              refine ⟨(h6 q d hqd).1, fun y x hx => ?_⟩
              obtain ⟨v, hv, ho, hrl⟩ := (h6 q d hqd).2 y x hx
              have hy : y < ah k := by have := (List.getElem?_eq_some_iff.1 hx).1; rw [ck (h6 q d hqd).1] at this; exact this
              exact ⟨v, by rw [get2 _ (by omega), if_pos (by omega)]; exact hv, ho, g.keepD hsd.alt (gd.keepD hs.alt hrl)⟩
            · have hqd : els[q - i + j]? = some d := by
                rw [List.getElem?_append_right (by simp; omega), List.getElem?_drop] at hq
                rw [← hq]; congr 1; simp; omega
              have hq2 : i * ah k ≤ q * ah k := Nat.mul_le_mul_right _ (by omega)
              refine ⟨(h6 _ d hqd).1, fun y x hx => ?_⟩
              obtain ⟨v, hv, ho, hrl⟩ := (h6 _ d hqd).2 y x hx
              have hy : y < ah k := by have := (List.getElem?_eq_some_iff.1 hx).1; rw [ck (h6 _ d hqd).1] at this; exact this
              refine ⟨v, ?_, ho, g.keepD hsd.alt (gd.keepD hs.alt hrl)⟩
              rw [get2 _ (by omega), if_neg (by omega), ← hv]
              congr 1
              rw [Nat.add_mul, Nat.sub_mul]
              omega⟩)
          rw [← upd0] at g hsw
          subst hw2
          refine ⟨_, μ, rfl, ?_, hsw, gd.trans g, fun id h => .inl h⟩
          rw [hlen']
          exact .loc 0 0 _ b k cap h1 (by omega) g3 ((gd.trans g).keepFits _ _ g4)
end Go.AM
