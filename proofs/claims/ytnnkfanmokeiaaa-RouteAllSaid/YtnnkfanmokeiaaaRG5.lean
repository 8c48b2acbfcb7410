import Derived.Test.YtnnkfanmokeiaaaRG3
/-  Several texts in one. -/
section
set_option linter.unusedVariables false
set_option linter.unusedSimpArgs false
namespace Go.AM
open Go
def mW (t : api_Topo) (but : Int) (k a b : Nat) : Prop := ∃ (i : Nat) (x : A2 api_Port), i < k ∧ t.Links[i]? = some x ∧ (i : Int) ≠ but ∧ a ≠ b ∧ ((pl t.Switches x.a0.Sw = a ∧ pl t.Switches x.a1.Sw = b) ∨ (pl t.Switches x.a0.Sw = b ∧ pl t.Switches x.a1.Sw = a))
def cJ (t : api_Topo) (but : Int) (a b : Nat) : Prop := mW t but t.Links.length a b
theorem jD {l : List Int} {x : Int} {a : Nat} (h : pl l x = a) : a < l.length := by
  rcases lF l x with ⟨k, h1, h2⟩ | ⟨h1, _⟩
  · have := (List.getElem?_eq_some_iff.1 h2).1; omega
  · omega
theorem gF {t : api_Topo} {but : Int} {a b : Nat} (h : cJ t but a b) : a < t.Switches.length ∧ b < t.Switches.length := by
  obtain ⟨i, x, _, _, _, _, ⟨h1, h2⟩ | ⟨h1, h2⟩⟩ := h
  · exact ⟨jD h1, jD h2⟩
  · exact ⟨jD h2, jD h1⟩
theorem rN {t : api_Topo} {but : Int} (a b : Nat) (h : cJ t but a b) : cJ t but b a := by
  obtain ⟨i, x, h0, h1, h2, h3, h4⟩ := h
  exact ⟨i, x, h0, h1, h2, Ne.symm h3, h4.symm⟩
theorem AS {t : api_Topo} {but : Int} {k : Nat} {x : A2 api_Port} (hx : t.Links[k]? = some x) (a b : Nat) : mW t but (k + 1) a b ↔ mW t but k a b ∨ ((k : Int) ≠ but ∧ a ≠ b ∧ ((pl t.Switches x.a0.Sw = a ∧ pl t.Switches x.a1.Sw = b) ∨ (pl t.Switches x.a0.Sw = b ∧ pl t.Switches x.a1.Sw = a))) := by
  constructor
  · rintro ⟨i, y, h0, h1, h2, h3, h4⟩
    by_cases e : i = k
    · subst e
      rw [hx] at h1; cases h1
      exact .inr ⟨h2, h3, h4⟩
    · exact .inl ⟨i, y, by omega, h1, h2, h3, h4⟩
  · rintro (⟨i, y, h0, h1, h2, h3, h4⟩ | ⟨h2, h3, h4⟩)
    · exact ⟨i, y, by omega, h1, h2, h3, h4⟩
    · exact ⟨k, x, by omega, hx, h2, h3, h4⟩
theorem o0 {α β : Type} {step : List α → α → List α → Option β} {b : β} : ∀ suf pre, dQ step pre suf = some b → ∃ (k : Nat) (x : α), suf[k]? = some x ∧ step (pre ++ suf.take k) x (suf.drop (k + 1)) = some b ∧ ∀ (j : Nat) y, j < k → suf[j]? = some y → step (pre ++ suf.take j) y (suf.drop (j + 1)) = none
  | [], pre, h => by cases h
  | y :: r, pre, h => by
    simp only [dQ] at h
    cases hs : step pre y r with
    | some c =>
      rw [hs] at h; cases h
      exact ⟨0, y, rfl, by simpa using hs, fun j _ hj => by omega⟩
    | none =>
      rw [hs] at h
      obtain ⟨k, x, h1, h2, h3⟩ := o0 r (pre ++ [y]) h
      refine ⟨k + 1, x, by simpa using h1, by simpa using h2, fun j z hj hz => ?_⟩
      cases j with
      | zero => cases hz; simpa using hs
      | succ j => simpa using h3 j z (by omega) (by simpa using hz)
theorem AT {t : api_Topo} {i : Nat} {x : A2 api_Port} (h : t.Links[i]? = some x) : oK t (i : Int) = some (pl t.Switches x.a0.Sw, pl t.Switches x.a1.Sw) := by
  unfold oK
  rw [cd, h]
  simp [oY]
def kA (t : api_Topo) (but : Int) (a b k : Nat) (x : A2 api_Port) : Bool := (((k : Int) != but) && (((a : Int) != (b : Int)) && (if (pl t.Switches x.a0.Sw == (a : Int)) then ((pl t.Switches x.a1.Sw == (b : Int)) || ((pl t.Switches x.a0.Sw == (b : Int)) && (pl t.Switches x.a1.Sw == (a : Int)))) else ((pl t.Switches x.a0.Sw == (b : Int)) && (pl t.Switches x.a1.Sw == (a : Int))))))
theorem vO (t : api_Topo) (but : Int) (a b : Nat) : ∃ r, mJ t (a : Int) (b : Int) but = some r ∧ (r = true ↔ cJ t but a b) := by
  unfold mJ
  rw [kz _ (fun pre x _ => if kA t but a b pre.length x then some true else none) t.Links (fun pre x r e => by
    have hx : t.Links[pre.length]? = some x := by rw [e]; simp
    simp only [uK, AT hx, Option.bind_some]
    show (if kA t but a b pre.length x = true then _ else _) = _
    cases kA t but a b pre.length x <;> rfl)]
  have cond : ∀ (k : Nat) (x : A2 api_Port), kA t but a b k x = true ↔
      ((k : Int) ≠ but ∧ a ≠ b ∧ ((pl t.Switches x.a0.Sw = a ∧ pl t.Switches x.a1.Sw = b) ∨ (pl t.Switches x.a0.Sw = b ∧ pl t.Switches x.a1.Sw = a))) := by
    intro k x
    unfold kA
    generalize pl t.Switches x.a0.Sw = p
    generalize pl t.Switches x.a1.Sw = q
    by_cases e : p = (a : Int)
    · subst e; simp; omega
    · simp [e]; omega
  cases hr : dQ (fun pre x _ => if kA t but a b pre.length x then some true else none) [] t.Links with
  | some r =>
    obtain ⟨k, x, h1, h2, _⟩ := o0 _ _ hr
    have hk := (List.getElem?_eq_some_iff.1 h1).1
    have e2 : (([] : List (A2 api_Port)) ++ t.Links.take k).length = k := by simp; omega
    simp only [e2] at h2
    by_cases hc : kA t but a b k x = true
    · rw [if_pos hc] at h2
      cases h2
      obtain ⟨g1, g2, g3⟩ := (cond k x).1 hc
      exact ⟨true, rfl, by simp only [true_iff]; exact ⟨k, x, hk, h1, g1, g2, g3⟩⟩
    · rw [if_neg hc] at h2; cases h2
  | none =>
    refine ⟨false, rfl, ?_⟩
    simp only [Bool.false_eq_true, false_iff]
    rintro ⟨k, x, hk, hx, g⟩
    have h2 := mV _ _ hr k x hx
    have e2 : (([] : List (A2 api_Port)) ++ t.Links.take k).length = k := by simp; omega
    simp only [e2] at h2
    rw [if_pos ((cond k x).2 g)] at h2
    cases h2
structure Nb (N : Nat → Nat → Prop) (n : Nat) (G : List (List Int)) : Prop where
  len : G.length = n
  ord : ∀ (a : Nat) l, G[a]? = some l → l.Pairwise (· < ·)
  out : ∀ (a : Nat) l z, G[a]? = some l → z ∈ l → ∃ b : Nat, z = b ∧ N a b
  inn : ∀ (a : Nat) l (b : Nat), G[a]? = some l → N a b → (b : Int) ∈ l
structure rP (t : api_Topo) (but : Int) (k : Nat) (g : List (List Int)) : Prop where
  len : g.length = t.Switches.length
  few : ∀ (a : Nat) l, g[a]? = some l → l.length ≤ 2 * k
  out : ∀ (a : Nat) l z, g[a]? = some l → z ∈ l → ∃ b : Nat, z = b ∧ mW t but k a b
  inn : ∀ (a : Nat) l (b : Nat), g[a]? = some l → mW t but k a b → (b : Int) ∈ l
theorem AU {t : api_Topo} (wf : Wf t) {but : Int} {k : Nat} {x : A2 api_Port} (hx : t.Links[k]? = some x) {g : List (List Int)} (h : rP t but k g) : ∃ g', oa t but (k : Int) g = some g' ∧ rP t but (k + 1) g' := by
  have hk := (List.getElem?_eq_some_iff.1 hx).1
  have hxm : x ∈ t.Links := c7 hx
  have p0 := wf.pt x.a0 (List.mem_flatMap.2 ⟨x, hxm, by simp⟩)
  have p1 := wf.pt x.a1 (List.mem_flatMap.2 ⟨x, hxm, by simp⟩)
  obtain ⟨p, hp⟩ := Int.eq_ofNat_of_zero_le p0
  obtain ⟨q, hq⟩ := Int.eq_ofNat_of_zero_le p1
  have hp : pl t.Switches x.a0.Sw = (p : Int) := hp
  have hq : pl t.Switches x.a1.Sw = (q : Int) := hq
  have pn := jD hp
  have qn := jD hq
  have ns := AS (but := but) hx
  rw [hp, hq] at ns
  have e1 : fX (p : Int) 0 = p := by unfold fX; split <;> omega
  have e2 : fX (q : Int) 0 = q := by unfold fX; split <;> omega
  have e3 : decide ((p : Int) ≥ 0) = true := by simp
  have e4 : decide ((q : Int) ≥ 0) = true := by simp
  simp only [oa, cd, hx, Option.bind_some, vM, hp, hq, e1, e2, e3, e4, Bool.not_true, Bool.false_or]
  by_cases c : (((p : Int) == (q : Int)) || ((k : Int) == but)) = true
  · rw [if_pos c]
    refine ⟨g, rfl, ⟨h.len, fun a l hl => by have := h.few a l hl; omega, fun a l z hl hz => ?_, fun a l b hl hb => ?_⟩⟩
    · obtain ⟨b, h1, h2⟩ := h.out a l z hl hz
      exact ⟨b, h1, (ns a b).2 (.inl h2)⟩
    · rcases (ns a b).1 hb with hb | ⟨g1, g2, g3⟩
      · exact h.inn a l b hl hb
      · exfalso
        simp at c
        omega
  · rw [if_neg c]
    simp at c
    obtain ⟨c1, c2⟩ := c
    have hpg : p < g.length := by rw [h.len]; exact pn
    have hqg : q < g.length := by rw [h.len]; exact qn
    have gp : g[p]? = some g[p] := bU hpg
    have gq : g[q]? = some g[q] := bU hqg
    generalize g[p] = la at gp
    generalize g[q] = lb at gq
    have fa := h.few p la gp
    have fb := h.few q lb gq
    have wl := wf.ln
    simp only [gp, gq, Option.bind_some]
    rw [dW (by simp; omega)]
    simp only [Option.bind_some]
    rw [dW (by simp; omega)]
    simp only [Option.bind_some]
    rw [iX _ hpg]
    simp only [Option.bind_some]
    rw [iX _ (by simpa using hqg)]
    refine ⟨_, rfl, ?_⟩
    have look : ∀ (a : Nat) l, ((g.set p (la ++ [(q : Int)])).set q (lb ++ [(p : Int)]))[a]? = some l → (a = q ∧ l = lb ++ [(p : Int)]) ∨ (a = p ∧ l = la ++ [(q : Int)]) ∨ (a ≠ p ∧ a ≠ q ∧ g[a]? = some l) := by
      intro a l hl
      rw [List.getElem?_set] at hl
      by_cases e : q = a
      · rw [if_pos e, if_pos (by simpa using hqg)] at hl
        cases hl; exact .inl ⟨e.symm, rfl⟩
      · rw [if_neg e, List.getElem?_set] at hl
        by_cases e' : p = a
        · rw [if_pos e', if_pos hpg] at hl
          cases hl; exact .inr (.inl ⟨e'.symm, rfl⟩)
        · rw [if_neg e'] at hl
          exact .inr (.inr ⟨Ne.symm e', Ne.symm e, hl⟩)
    refine ⟨by simp [h.len], fun a l hl => ?_, fun a l z hl hz => ?_, fun a l b hl hb => ?_⟩
    · rcases look a l hl with ⟨rfl, rfl⟩ | ⟨rfl, rfl⟩ | ⟨_, _, hl⟩
      · simp; omega
      · simp; omega
      · have := h.few a l hl; omega
    · rcases look a l hl with ⟨rfl, rfl⟩ | ⟨rfl, rfl⟩ | ⟨_, _, hl⟩
      · rcases List.mem_append.1 hz with hz | hz
        · obtain ⟨b, h1, h2⟩ := h.out a lb z gq hz
          exact ⟨b, h1, (ns a b).2 (.inl h2)⟩
        · simp at hz
          exact ⟨p, hz, (ns a p).2 (.inr ⟨c2, by omega, .inr ⟨rfl, rfl⟩⟩)⟩
      · rcases List.mem_append.1 hz with hz | hz
        · obtain ⟨b, h1, h2⟩ := h.out a la z gp hz
          exact ⟨b, h1, (ns a b).2 (.inl h2)⟩
        · simp at hz
          exact ⟨q, hz, (ns a q).2 (.inr ⟨c2, by omega, .inl ⟨rfl, rfl⟩⟩)⟩
      · obtain ⟨b, h1, h2⟩ := h.out a l z hl hz
        exact ⟨b, h1, (ns a b).2 (.inl h2)⟩
    · rcases look a l hl with ⟨rfl, rfl⟩ | ⟨rfl, rfl⟩ | ⟨n1, n2, hl⟩
      · rcases (ns a b).1 hb with hb | ⟨g1, g2, g3⟩
        · exact List.mem_append_left _ (h.inn a lb b gq hb)
        · have : b = p := by omega
          subst this; simp
      · rcases (ns a b).1 hb with hb | ⟨g1, g2, g3⟩
        · exact List.mem_append_left _ (h.inn a la b gp hb)
        · have : b = q := by omega
          subst this; simp
      · rcases (ns a b).1 hb with hb | ⟨g1, g2, g3⟩
        · exact h.inn a l b hl hb
        · omega
theorem vP {t : api_Topo} (wf : Wf t) (but : Int) : ∃ G, ob t but = some G ∧ Nb (cJ t but) t.Switches.length G := by
  unfold ob
  have hn := wf.sw
  have hg0 : fj (t.Switches.length : Int) ([] : List Int) = some (List.replicate t.Switches.length []) := by
    unfold fj; rw [if_pos (by omega)]; simp
  rw [hg0]
  simp only [Option.bind_some]
  obtain ⟨g1, e1, h1⟩ := iH (oa t but) (rP t but) t.Links.length (List.replicate t.Switches.length [])
    (by
      have rep : ∀ (a : Nat) l, (List.replicate t.Switches.length ([] : List Int))[a]? = some l → l = [] := fun a l hl => by
        rw [List.getElem?_replicate] at hl
        split at hl
        · exact (bM hl).symm
        · cases hl
      refine ⟨by simp, fun a l hl => ?_, fun a l z hl hz => ?_, fun a l b hl hb => ?_⟩
      · rw [rep a l hl]; simp
      · rw [rep a l hl] at hz; cases hz
      · obtain ⟨i, x, hi, _⟩ := hb; omega)
    (fun j s hj hP => AU wf (bU hj) hP)
  rw [e1]
  simp only [Option.bind_some]
  obtain ⟨g2, e2, h2⟩ := iH qu (fun k g => g.length = g1.length ∧ ∀ (a : Nat) l, g1[a]? = some l → g[a]? = some (if a < k then lC l else l)) g1.length g1 ⟨rfl, fun a l hl => by simpa using hl⟩
    (fun j g hj ⟨hl, hP⟩ => by
      have hx := hP j g1[j] (bU hj)
      rw [if_neg (Nat.lt_irrefl j)] at hx
      have hf := h1.few j g1[j] (bU hj)
      have wl := wf.ln
      simp only [qu, cd, hx, Option.bind_some]
      rw [if_pos (by omega), AP (by omega)]
      simp only [Option.bind_some]
      rw [iX _ (by omega)]
      refine ⟨_, rfl, by simp [hl], fun a l ha => ?_⟩
      rw [List.getElem?_set]
      by_cases e : j = a
      · subst e
        rw [if_pos rfl, if_pos (by omega), if_pos (Nat.lt_succ_self _)]
        rw [bU hj] at ha
        cases ha; rfl
      · rw [if_neg e, hP a l ha]
        congr 1
        by_cases e' : a < j
        · rw [if_pos e', if_pos (by omega)]
        · rw [if_neg e', if_neg (by omega)])
  rw [e2]
  simp only [Option.bind_some]
  refine ⟨g2, rfl, ?_⟩
  obtain ⟨k1, k2⟩ := h2
  have back : ∀ (a : Nat) l, g2[a]? = some l → ∃ l0, g1[a]? = some l0 ∧ l = lC l0 := by
    intro a l hl
    have ha : a < g1.length := by have := (List.getElem?_eq_some_iff.1 hl).1; omega
    have := k2 a g1[a] (bU ha)
    rw [if_pos ha, hl] at this
    exact ⟨_, bU ha, bM this⟩
  refine ⟨by rw [k1, h1.len], fun a l hl => ?_, fun a l z hl hz => ?_, fun a l b hl hb => ?_⟩
  · obtain ⟨l0, _, rfl⟩ := back a l hl; exact AL _
  · obtain ⟨l0, g, rfl⟩ := back a l hl
    exact h1.out a l0 z g ((vF _ _).1 hz)
  · obtain ⟨l0, g, rfl⟩ := back a l hl
    exact (vF _ _).2 (h1.inn a l0 b g hb)
end Go.AM
end
section
set_option linter.unusedVariables false
set_option linter.unusedSimpArgs false
namespace Go.AM
open Go
structure Rd (N : Nat → Nat → Prop) (n s d : Nat) (D : List Int) : Prop where
  len : D.length = n
  val : ∀ (v : Nat) x, D[v]? = some x → (x = -1 ∧ ∀ k, k ≤ d → ¬ Wk N k s v) ∨ ∃ k : Nat, k ≤ d ∧ x = k ∧ Wk N k s v ∧ ∀ j, Wk N j s v → k ≤ j
structure Mi (N : Nat → Nat → Prop) (n s d : Nat) (dn : Nat → Nat → Prop) (D : List Int) : Prop where
  len : D.length = n
  val : ∀ (v : Nat) x, D[v]? = some x → (x = -1 ∧ ∀ k, k ≤ d → ¬ Wk N k s v) ∨ (∃ k : Nat, k ≤ d ∧ x = k ∧ Wk N k s v ∧ ∀ j, Wk N j s v → k ≤ j) ∨ (x = ((d + 1 : Nat) : Int) ∧ Wk N (d + 1) s v ∧ ∀ k, k ≤ d → ¬ Wk N k s v)
  dn : ∀ i k, dn i k → N i k → D[i]? = some (d : Int) → ∃ y, D[k]? = some y ∧ 0 ≤ y
theorem Rd.mi {N : Nat → Nat → Prop} {n s d : Nat} {D : List Int} (h : Rd N n s d D) : Mi N n s d (fun _ _ => False) D :=
  ⟨h.len, fun v x hx => (h.val v x hx).imp id .inl, fun _ _ h => h.elim⟩
theorem Mi.rd {N : Nat → Nat → Prop} {n s d : Nat} {dn : Nat → Nat → Prop} {D : List Int} (hn : ∀ a b, N a b → a < n ∧ b < n) (h : Mi N n s d dn D) (hd : ∀ i k, i < n → k < n → dn i k) : Rd N n s (d + 1) D := by
  refine ⟨h.len, fun v x hx => ?_⟩
  rcases h.val v x hx with ⟨h1, h2⟩ | ⟨k, h1, h2, h3, h4⟩ | ⟨h1, h2, h3⟩
  · refine .inl ⟨h1, fun k hk w => ?_⟩
    by_cases e : k = d + 1
    · subst e
      obtain ⟨u, wu, hu⟩ := w.last
      obtain ⟨un, vn⟩ := hn _ _ hu
      have ul : u < D.length := by rw [h.len]; exact un
      have gu : D[u]? = some D[u] := bU ul
      rcases h.val u _ gu with ⟨_, g2⟩ | ⟨j, g1, g2, g3, g4⟩ | ⟨_, _, g3⟩
      · exact g2 d (Nat.le_refl _) wu
      · have hj := g4 d wu
        by_cases ej : j = d
        · subst ej
          rw [g2] at gu
          obtain ⟨y, hy, hy0⟩ := h.dn u v (hd u v un vn) hu gu
          rw [hx] at hy; cases hy
          omega
        · exact h2 (j + 1) (by omega) (g3.snoc hu)
      · exact g3 d (Nat.le_refl _) wu
    · exact h2 k (by omega) w
  · exact .inr ⟨k, by omega, h2, h3, h4⟩
  · exact .inr ⟨d + 1, Nat.le_refl _, h1, h2, fun j w => Nat.lt_of_not_le fun hj => h3 j hj w⟩
theorem Rd.ds {N : Nat → Nat → Prop} {n s : Nat} {D : List Int} (hn : ∀ a b, N a b → a < n ∧ b < n) (hs : s < n) (h : Rd N n s n D) : Ds N n s D := by
  refine ⟨h.len, fun v x hx => ?_⟩
  rcases h.val v x hx with ⟨h1, h2⟩ | ⟨k, _, h2, h3, h4⟩
  · refine .inl ⟨h1, fun k w => ?_⟩
    obtain ⟨m, _, wm, hm⟩ := w.least
    have := Wk.lt hn hs wm hm
    exact h2 m (by omega) wm
  · exact .inr ⟨k, h2, h3, h4⟩
theorem AV {t : api_Topo} {but : Int} {n s d i k : Nat} {dn : Nat → Nat → Prop} {D : List Int} (hi : i < n) (hk : k < n) (h : Mi (cJ t but) n s d dn D) :
    ∃ D', oL t but (d : Int) (i : Int) (k : Int) D = some D' ∧ Mi (cJ t but) n s d (fun a b => dn a b ∨ (a = i ∧ b = k)) D' := by
  have hil : i < D.length := by rw [h.len]; exact hi
  have hkl : k < D.length := by rw [h.len]; exact hk
  have gi : D[i]? = some D[i] := bU hil
  have gk : D[k]? = some D[k] := bU hkl
  generalize D[i] = x at gi
  generalize D[k] = y at gk
  have keep : (x = (d : Int) → cJ t but i k → 0 ≤ y) → Mi (cJ t but) n s d (fun a b => dn a b ∨ (a = i ∧ b = k)) D := fun hq =>
    ⟨h.len, h.val, fun a b hab hN ha => by
      rcases hab with hab | ⟨rfl, rfl⟩
      · exact h.dn a b hab hN ha
      · rw [gi] at ha; cases ha
        exact ⟨y, gk, hq rfl hN⟩⟩
  simp only [oL, cd, gi, gk, Option.bind_some]
  by_cases c1 : x = (d : Int)
  · subst c1
    simp only [beq_self_eq_true, if_true]
    by_cases c2 : y < 0
    · obtain ⟨r, hr, hrn⟩ := vO t but i k
      simp only [decide_eq_true c2, if_true, hr, Option.bind_some]
      cases r with
      | false =>
        simp only [Bool.false_eq_true, if_false, Option.bind_some]
        refine ⟨D, rfl, keep fun _ hN => ?_⟩
        have := hrn.2 hN
        cases this
      | true =>
        have hN := hrn.1 rfl
        simp only [if_true, Option.bind_some]
        rw [iX _ hkl]
        simp only [Option.bind_some]
        have wi : Wk (cJ t but) d s i := by
          rcases h.val i _ gi with ⟨h1, _⟩ | ⟨j, _, h2, h3, _⟩ | ⟨h1, _⟩
          · omega
          · have : j = d := by omega
            subst this; exact h3
          · omega
        have no : ∀ j, j ≤ d → ¬ Wk (cJ t but) j s k := by
          rcases h.val k _ gk with ⟨_, h2⟩ | ⟨j, _, h2, _⟩ | ⟨h1, _⟩
          · exact h2
          · omega
          · omega
        refine ⟨_, rfl, ⟨by simp [h.len], fun v z hz => ?_, fun a b hab hNab ha => ?_⟩⟩
        · rw [List.getElem?_set] at hz
          by_cases e : k = v
          · subst e
            rw [if_pos rfl, if_pos hkl] at hz
            cases hz
            exact .inr (.inr ⟨by push_cast; rfl, wi.snoc hN, no⟩)
          · rw [if_neg e] at hz; exact h.val v z hz
        · rw [List.getElem?_set] at ha
          have hak : ¬ k = a := by
            intro e
            subst e
            rw [if_pos rfl, if_pos hkl] at ha
            have := bM ha
            omega
          rw [if_neg hak] at ha
          by_cases e : k = b
          · subst e
            exact ⟨_, by rw [List.getElem?_set, if_pos rfl, if_pos hkl], by omega⟩
          · rcases hab with hab | ⟨rfl, rfl⟩
            · obtain ⟨y', h1, h2⟩ := h.dn a b hab hNab ha
              exact ⟨y', by rw [List.getElem?_set, if_neg e]; exact h1, h2⟩
            · exact (e rfl).elim
    · simp only [decide_eq_false c2, Bool.false_eq_true, if_false, Option.bind_some]
      exact ⟨D, rfl, keep fun _ _ => by omega⟩
  · have c1' : (x == (d : Int)) = false := by simpa using c1
    simp only [c1', Bool.false_eq_true, if_false, Option.bind_some]
    exact ⟨D, rfl, keep fun e => (c1 e).elim⟩
theorem Mi.mono {N : Nat → Nat → Prop} {n s d : Nat} {dn dn' : Nat → Nat → Prop} {D : List Int} (h : Mi N n s d dn D) (hd : ∀ i k, dn' i k → dn i k) : Mi N n s d dn' D :=
  ⟨h.len, h.val, fun i k hik => h.dn i k (hd i k hik)⟩
theorem AW {t : api_Topo} {but : Int} {s d : Nat} {D : List Int} (h : Rd (cJ t but) t.Switches.length s d D) :
    ∃ D', oM t but (d : Int) D = some D' ∧ Rd (cJ t but) t.Switches.length s (d + 1) D' := by
  obtain ⟨D', e, hP⟩ := iH (qY t but (d : Int)) (fun i D => Mi (cJ t but) t.Switches.length s d (fun a b => a < i ∧ b < t.Switches.length) D) t.Switches.length D (h.mi.mono fun a b hab => by omega) (fun i D1 hi hP => by
    obtain ⟨D2, e, hQ⟩ := iH (oL t but (d : Int) (i : Int)) (fun k D => Mi (cJ t but) t.Switches.length s d (fun a b => (a < i ∧ b < t.Switches.length) ∨ (a = i ∧ b < k)) D) t.Switches.length D1 (hP.mono fun a b hab => by omega) (fun k D3 hk hR => by
      obtain ⟨D4, e, hS⟩ := AV hi hk hR
      exact ⟨D4, e, hS.mono fun a b hab => by omega⟩)
    refine ⟨D2, ?_, hQ.mono fun a b hab => by omega⟩
    simp only [qY, e, Option.bind_some])
  refine ⟨D', ?_, hP.rd (fun a b hab => gF hab) fun i k hi hk => ⟨hi, hk⟩⟩
  simp only [oM, e, Option.bind_some]
theorem vQ {n : Nat} (hn : (n : Int) ≤ 4294967296) (f : Int → List Int → Option (List Int)) (hf : ∀ (j : Nat) l, j < l.length → f (j : Int) l = some (l.set j (-1))) : cQ f (bA 0 (n : Int)) (List.replicate n (0 : Int)) = some (List.replicate n (-1)) := by
  obtain ⟨z, e, hz⟩ := iH f (fun k l => l = List.replicate k (-1) ++ List.replicate (n - k) (0 : Int)) n (List.replicate n 0) (by simp) (fun j l hj hl => by
    refine ⟨l.set j (-1), hf j l (by rw [hl]; simp; omega), ?_⟩
    rw [hl]
    apply List.ext_getElem?
    intro i
    rw [List.getElem?_set]
    simp only [List.getElem?_append, List.getElem?_replicate, List.length_replicate, List.length_append]
    by_cases e : j = i
    · subst e; simp; omega
    · simp only [e, if_false]
      by_cases e1 : i < j
      · simp [e1, show i < j + 1 by omega]
      · have e2 : ¬ i < j + 1 := by omega
        simp only [e1, e2, if_false]
        by_cases e3 : i < n
        · rw [if_pos (by omega), if_pos (by omega)]
        · rw [if_neg (by omega), if_neg (by omega)])
  rw [e, hz]; simp
theorem AY {t : api_Topo} (wf : Wf t) (but : Int) {a : Nat} (ha : a < t.Switches.length) : ∃ D, Ds (cJ t but) t.Switches.length a D ∧ ∀ (b : Nat), b < t.Switches.length → jx t (a : Int) (b : Int) but = D[b]? := by
  have hn := wf.sw
  have hg0 : fj (t.Switches.length : Int) (0 : Int) = some (List.replicate t.Switches.length 0) := by
    unfold fj; rw [if_pos (by omega)]; simp
  have e1 := vQ (n := t.Switches.length) (by omega) qW (fun j l hj => by
    simp only [qW, cd, bU hj, Option.bind_some]
    rw [iX _ hj]; rfl)
  have r0 : Rd (cJ t but) t.Switches.length a 0 ((List.replicate t.Switches.length (-1)).set a 0) := by
    refine ⟨by simp, fun v x hx => ?_⟩
    rw [List.getElem?_set, List.length_replicate] at hx
    by_cases e : a = v
    · subst e
      rw [if_pos rfl, if_pos ha] at hx
      cases hx
      exact .inr ⟨0, Nat.le_refl _, rfl, .nil a, fun j _ => Nat.zero_le j⟩
    · rw [if_neg e, List.getElem?_replicate] at hx
      split at hx
      · cases hx
        refine .inl ⟨rfl, fun k hk w => ?_⟩
        obtain rfl : k = 0 := by omega
        exact e w.zero
      · cases hx
  obtain ⟨D, e2, hD⟩ := iH (oM t but) (fun d D => Rd (cJ t but) t.Switches.length a d D) t.Switches.length _ r0 (fun d D hd hP => AW hP)
  refine ⟨D, hD.ds (fun a b h => gF h) ha, fun b hb => ?_⟩
  unfold jx
  have c : ((decide ((a : Int) < 0)) || ((decide ((a : Int) ≥ (t.Switches.length : Int))) || ((decide ((b : Int) < 0)) || (decide ((b : Int) ≥ (t.Switches.length : Int)))))) = false := by
    simp; omega
  rw [c, if_neg (by decide), hg0]
  simp only [Option.bind_some, e1, cd]
  rw [List.getElem?_replicate, if_pos ha]
  simp only [Option.bind_some]
  rw [iX _ (by simpa using ha)]
  simp only [Option.bind_some, e2]
  have hb' : b < D.length := by rw [hD.len]; exact hb
  rw [bU hb']; rfl
theorem AZ {t : api_Topo} (but : Int) {a b : Int} (h : a < 0 ∨ (t.Switches.length : Int) ≤ a ∨ b < 0 ∨ (t.Switches.length : Int) ≤ b) : jx t a b but = some (-1) := by
  unfold jx
  have c : ((decide (a < 0)) || ((decide (a ≥ (t.Switches.length : Int))) || ((decide (b < 0)) || (decide (b ≥ (t.Switches.length : Int)))))) = true := by
    simp; omega
  rw [c, if_pos rfl]
theorem vR {t : api_Topo} (wf : Wf t) (but : Int) {a b : Nat} (ha : a < t.Switches.length) (hb : b < t.Switches.length) : ∃ d, jx t (a : Int) (b : Int) but = some d ∧ dI (cJ t but) a b d := by
  obtain ⟨D, hD, hf⟩ := AY wf but ha
  obtain ⟨d, h1, h2⟩ := hD.get hb
  exact ⟨d, by rw [hf b hb, h1], h2⟩
end Go.AM
end
