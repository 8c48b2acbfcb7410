import Derived.Test.YtfjelgjfbjjopaaGR5
set_option linter.unusedVariables false
set_option linter.unusedSimpArgs false
namespace Go.AM
open Go
def dZ : List Int → Nat
  | [] => 0
  | x :: l => (if x < 0 then 1 else 0) + dZ l
theorem ku : ∀ (D : List Int) (k : Nat) (y x : Int), D[k]? = some y → y < 0 → 0 ≤ x → dZ (D.set k x) + 1 = dZ D
  | [], k, y, x, h, _, _ => by simp at h
  | z :: D, 0, y, x, h, hy, hx => by
    cases h
    simp only [List.set_cons_zero, dZ]
    rw [if_pos hy, if_neg (by omega)]; omega
  | z :: D, k + 1, y, x, h, hy, hx => by
    simp only [List.set_cons_succ, dZ]
    have := ku D k y x (by simpa using h) hy hx
    omega
theorem sx (n : Nat) : dZ (List.replicate n (-1)) = n := by
  induction n with
  | zero => rfl
  | succ n ih => rw [List.replicate_succ, dZ, ih, if_pos (by decide)]; omega
def dv (D : List Int) (z : Int) : Int := (D[z.toNat]?).getD (-1)
structure Bf (N : Nat → Nat → Prop) (n s : Nat) (D q : List Int) : Prop where
  len : D.length = n
  val : ∀ (v : Nat) x, D[v]? = some x → x = -1 ∨ ∃ k : Nat, x = k ∧ Wk N k s v
  sz : ∀ (v : Nat) x, D[v]? = some x → x + dZ D < n
  src : D[s]? = some 0
  qn : ∀ z ∈ q, ∃ (v : Nat) (x : Int), z = v ∧ D[v]? = some x ∧ 0 ≤ x
  qs : q.Pairwise (fun a b => dv D a ≤ dv D b)
  top : ∀ (v : Nat) x h, D[v]? = some x → q.head? = some h → x ≤ dv D h + 1
  cl : ∀ (v : Nat) x w, D[v]? = some x → 0 ≤ x → (v : Int) ∉ q → N v w → ∃ y, D[w]? = some y ∧ 0 ≤ y ∧ y ≤ x + 1
  me : q.length + dZ D ≤ n
theorem eM {D : List Int} {v : Nat} {x : Int} (h : D[v]? = some x) : dv D (v : Int) = x := by unfold dv; rw [Int.toNat_natCast, h]; rfl
theorem sy {N : Nat → Nat → Prop} {n s a w : Nat} {D q : List Int} {dx y : Int} (h : Bf N n s D ((a : Int) :: q)) (ha : D[a]? = some dx) (hN : N a w) (hw : D[w]? = some y) (hy : y < 0) : Bf N n s (D.set w (dx + 1)) ((a : Int) :: q ++ [(w : Int)]) := by
  have hwl : w < D.length := (List.getElem?_eq_some_iff.1 hw).1
  obtain ⟨_, x', e1, e2, e3⟩ := h.qn (a : Int) (by simp)
  have e1 := Int.ofNat.inj e1
  subst e1
  rw [ha] at e2; cases e2
  have hu := ku D w y (dx + 1) hw hy (by omega)
  have haw : ¬ w = a := by intro e; subst e; rw [ha] at hw; cases hw; omega
  have look : ∀ (v : Nat), (D.set w (dx + 1))[v]? = if w = v then some (dx + 1) else D[v]? := fun v => by
    by_cases e : w = v
    · subst e; simp [hwl]
    · simp [e]
  have ha' : (D.set w (dx + 1))[a]? = some dx := by rw [look, if_neg haw]; exact ha
  have hwk : ∃ k : Nat, dx = k ∧ Wk N k s a := by
    rcases h.val a dx ha with h | h
    · omega
    · exact h
  obtain ⟨kx, hkx, wkx⟩ := hwk
  have dvq : ∀ z ∈ ((a : Int) :: q), dv (D.set w (dx + 1)) z = dv D z := by
    intro z hz
    obtain ⟨v, x, rfl, h2, h3⟩ := h.qn z hz
    have : ¬ w = v := by intro e; subst e; rw [hw] at h2; cases h2; omega
    rw [eM h2]
    exact eM (by rw [look, if_neg this]; exact h2)
  refine ⟨by simp [h.len], fun v x hx => ?_, fun v x hx => ?_, ?_, fun z hz => ?_, ?_, fun v x hd hx hh => ?_, fun v x u hx h0 hq hu' => ?_, ?_⟩
  · rw [look] at hx
    split at hx
    · rename_i e; subst e; cases hx
      exact .inr ⟨kx + 1, by push_cast; omega, wkx.snoc hN⟩
    · exact h.val v x hx
  · rw [look] at hx
    split at hx
    · cases hx; have := h.sz a dx ha; omega
    · have := h.sz v x hx; omega
  · rw [look]
    have : ¬ w = s := by intro e; subst e; have := h.src; rw [hw] at this; cases this; omega
    rw [if_neg this]; exact h.src
  · rcases List.mem_append.1 hz with hz | hz
    · obtain ⟨v, x, rfl, h2, h3⟩ := h.qn z hz
      have : ¬ w = v := by intro e; subst e; rw [hw] at h2; cases h2; omega
      exact ⟨v, x, rfl, by rw [look, if_neg this]; exact h2, h3⟩
    · simp at hz
      exact ⟨w, dx + 1, hz, by rw [look, if_pos rfl], by omega⟩
  · rw [List.pairwise_append]
    refine ⟨?_, List.pairwise_singleton _ _, fun z hz b hb => ?_⟩
    · refine List.Pairwise.imp_of_mem (R := fun a b => dv D a ≤ dv D b) (fun {x y} hx hy hxy => ?_) h.qs
      rw [dvq x hx, dvq y hy]; exact hxy
    · rw [List.mem_singleton] at hb
      subst hb
      rw [dvq z hz, eM (show (D.set w (dx + 1))[w]? = some (dx + 1) by rw [look, if_pos rfl])]
      obtain ⟨v, x, rfl, h2, h3⟩ := h.qn z hz
      have := h.top v x (a : Int) h2 rfl
      rw [eM ha] at this
      rw [eM h2]; exact this
  · have e : hd = (a : Int) := by simpa using hh.symm
    subst e
    rw [eM ha']
    rw [look] at hx
    split at hx
    · cases hx; omega
    · have := h.top v x (a : Int) hx rfl
      rw [eM ha] at this; exact this
  · rw [List.mem_append, not_or] at hq
    obtain ⟨q1, q2⟩ := hq
    have hvw : ¬ w = v := by intro e; subst e; simp at q2
    rw [look, if_neg hvw] at hx
    obtain ⟨y', g1, g2, g3⟩ := h.cl v x u hx h0 q1 hu'
    have : ¬ w = u := by intro e; subst e; rw [hw] at g1; cases g1; omega
    exact ⟨y', by rw [look, if_neg this]; exact g1, g2, g3⟩
  · have := h.me
    simp at this ⊢; omega
theorem sA {N : Nat → Nat → Prop} {n s a : Nat} {D q : List Int} {dx : Int} (h : Bf N n s D ((a : Int) :: q)) (ha : D[a]? = some dx) (hc : ∀ w, N a w → ∃ y, D[w]? = some y ∧ 0 ≤ y ∧ y ≤ dx + 1) : Bf N n s D q ∧ q.length + dZ D < n := by
  have hqs := List.pairwise_cons.1 h.qs
  have := h.me
  simp at this
  refine ⟨⟨h.len, h.val, h.sz, h.src, fun z hz => h.qn z (by simp [hz]), hqs.2, fun v x hd hx hh => ?_, fun v x w hx h0 hq hw => ?_, by omega⟩, by omega⟩
  · have h1 := h.top v x (a : Int) hx rfl
    have h2 := hqs.1 hd (List.mem_of_mem_head? hh)
    omega
  · by_cases e : v = a
    · subst e
      rw [ha] at hx; cases hx
      exact hc w hw
    · exact h.cl v x w hx h0 (by simp [hq]; omega) hw
theorem sB {N : Nat → Nat → Prop} {n s : Nat} {D : List Int} (h : Bf N n s D []) : Ds N n s D := by
  have key : ∀ (k v : Nat), Wk N k s v → ∃ x, D[v]? = some x ∧ 0 ≤ x ∧ x ≤ k := by
    intro k
    induction k with
    | zero => intro v w; rw [← w.zero]; exact ⟨0, h.src, by omega, by omega⟩
    | succ k ih =>
      intro v w
      obtain ⟨u, wu, hu⟩ := w.last
      obtain ⟨x, h1, h2, h3⟩ := ih u wu
      obtain ⟨y, g1, g2, g3⟩ := h.cl u x v h1 h2 (by simp) hu
      exact ⟨y, g1, g2, by push_cast; omega⟩
  refine ⟨h.len, fun v x hx => ?_⟩
  rcases h.val v x hx with h1 | ⟨k, h1, h2⟩
  · refine .inl ⟨h1, fun k w => ?_⟩
    obtain ⟨y, g1, g2, _⟩ := key k v w
    rw [hx] at g1; cases g1; omega
  · refine .inr ⟨k, h1, h2, fun j w => ?_⟩
    obtain ⟨y, g1, _, g3⟩ := key j v w
    rw [hx] at g1; cases g1; omega
theorem kv {t : api_Topo} (wf : Wf t) {but : Int} {G : List (List Int)} (hG : Nb (bL t but) t.Switches.length G) {s : Nat} (hs : s < t.Switches.length) : ∃ D, fI G (s : Int) = some D ∧ Ds (bL t but) t.Switches.length s D := by
  have hn := wf.sw
  have hl := hG.len
  unfold fI
  have hg0 : cT (G.length : Int) (0 : Int) = some (List.replicate t.Switches.length 0) := by
    unfold cT; rw [if_pos (by omega)]; simp [hl]
  rw [hg0]
  simp only [Option.bind_some, List.length_replicate]
  rw [mx (n := t.Switches.length) (by omega) kJ (fun j l hj => by
    simp only [kJ, cm, bo hj, Option.bind_some]
    rw [en _ hj]; rfl)]
  have hh : d8 G (s : Int) = some true := by
    unfold d8
    simp [hl]; omega
  simp only [Option.bind_some, hh, Bool.not_true, Bool.false_eq_true, if_false, cm]
  rw [List.getElem?_replicate, if_pos hs]
  simp only [Option.bind_some]
  rw [en _ (by simpa using hs)]
  simp only [Option.bind_some]
  have u0 : dZ ((List.replicate t.Switches.length (-1)).set s 0) + 1 = t.Switches.length := by
    have := ku (List.replicate t.Switches.length (-1)) s (-1) 0 (by rw [List.getElem?_replicate, if_pos hs]) (by decide) (by decide)
    rw [sx] at this; exact this
  have look0 : ∀ (v : Nat) x, ((List.replicate t.Switches.length (-1 : Int)).set s 0)[v]? = some x → (v = s ∧ x = 0) ∨ x = -1 := by
    intro v x hx
    rw [List.getElem?_set, List.length_replicate] at hx
    by_cases e : s = v
    · rw [if_pos e, if_pos hs] at hx; cases hx; exact .inl ⟨e.symm, rfl⟩
    · rw [if_neg e, List.getElem?_replicate] at hx
      split at hx
      · cases hx; exact .inr rfl
      · cases hx
  have src0 : ((List.replicate t.Switches.length (-1 : Int)).set s 0)[s]? = some 0 := by rw [List.getElem?_set, if_pos rfl, List.length_replicate, if_pos hs]
  have b0 : Bf (bL t but) t.Switches.length s ((List.replicate t.Switches.length (-1)).set s 0) [(s : Int)] := by
    refine ⟨by simp, fun v x hx => ?_, fun v x hx => ?_, src0, fun z hz => ?_, List.pairwise_singleton _ _, fun v x hd hx hh => ?_, fun v x w hx h0 hq hw => ?_, by simp; omega⟩
    · rcases look0 v x hx with ⟨rfl, rfl⟩ | h
      · exact .inr ⟨0, rfl, .nil v⟩
      · exact .inl h
    · rcases look0 v x hx with ⟨rfl, rfl⟩ | h <;> omega
    · simp at hz; exact ⟨s, 0, hz, src0, by omega⟩
    · have e : hd = (s : Int) := by simpa using hh.symm
      subst e
      rw [eM src0]
      rcases look0 v x hx with ⟨rfl, rfl⟩ | h <;> omega
    · rcases look0 v x hx with ⟨rfl, rfl⟩ | h
      · simp at hq
      · omega
  obtain ⟨FK, hFK⟩ := kn 100 (by omega)
  obtain ⟨⟨D, q⟩, e, hQ⟩ := jk (f := jw G) (fun st => Bf (bL t but) t.Switches.length s st.1 st.2) (fun st => Ds (bL t but) t.Switches.length s st.1) (fun st => st.2.length + dZ st.1) (fun ⟨D, q⟩ hb => by
    simp only at hb
    cases q with
    | nil =>
      refine .inr ⟨(D, []), ?_, sB hb⟩
      simp only [jw]
      rfl
    | cons z q =>
      obtain ⟨a, dx, rfl, ha, hd0⟩ := hb.qn z (by simp)
      have hal : a < t.Switches.length := by have := (List.getElem?_eq_some_iff.1 ha).1; rw [hb.len] at this; exact this
      have haG : a < G.length := by omega
      have gG : G[a]? = some G[a] := bo haG
      generalize G[a] = l at gG
      have c : decide ((((a : Int) :: q).length : Int) > 0) = true := by simp
      have g0 : aQ ((a : Int) :: q) 0 = some (a : Int) := rfl
      obtain ⟨⟨D2, q2⟩, e2, q3, hq2, hb2, ha2, hm2, hcl⟩ := dX (kK l (a : Int)) (fun i st => ∃ q3, st.2 = (a : Int) :: q3 ∧ Bf (bL t but) t.Switches.length s st.1 st.2 ∧ st.1[a]? = some dx ∧ st.2.length + dZ st.1 = ((a : Int) :: q).length + dZ D ∧ ∀ (j : Nat) (w : Nat), j < i → l[j]? = some (w : Int) → ∃ y, st.1[w]? = some y ∧ 0 ≤ y ∧ y ≤ dx + 1) l.length (D, (a : Int) :: q) ⟨q, rfl, hb, ha, rfl, fun j w hj => by omega⟩ (fun i ⟨D1, q1⟩ hi ⟨q3, hq1, hb1, ha1, hm1, hc1⟩ => by
        simp only at hq1 hb1 ha1 hm1 hc1
        subst hq1
        have gl : l[i]? = some l[i] := bo hi
        obtain ⟨w, hw, hN⟩ := hG.out a l _ gG (List.getElem_mem hi)
        rw [hw] at gl
        have hwl : w < D1.length := by rw [hb1.len]; exact (eK hN).2
        have gw : D1[w]? = some D1[w] := bo hwl
        generalize D1[w] = y at gw
        simp only [kK, cm, gl, gw, ha1, Option.bind_some]
        by_cases cy : y < 0
        · have hsz := hb1.sz a dx ha1
          have hw64 : IntKind.i64.wrap (dx + 1) = dx + 1 := fQ (by omega) (by omega)
          have hme := hb1.me
          rw [decide_eq_true cy, if_pos rfl, hw64, en _ hwl]
          simp only [Option.bind_some]
          rw [gP (by simp at hme ⊢; omega)]
          have hu := ku D1 w y (dx + 1) gw cy (by omega)
          have haw : ¬ w = a := by intro e; subst e; rw [ha1] at gw; cases gw; omega
          refine ⟨_, rfl, q3 ++ [(w : Int)], by simp, sy hb1 ha1 hN gw cy, ?_, ?_, fun j u hj hju => ?_⟩
          · simp only; rw [List.getElem?_set, if_neg haw]; exact ha1
          · simp only [List.length_append, List.length_cons, List.length_nil] at hm1 ⊢; omega
          · simp only
            rw [List.getElem?_set]
            by_cases e : w = u
            · rw [if_pos e, if_pos hwl]; exact ⟨_, rfl, by omega, by omega⟩
            · rw [if_neg e]
              by_cases ej : j = i
              · subst ej; rw [gl] at hju; cases hju; exact (e rfl).elim
              · exact hc1 j u (by omega) hju
        · rw [decide_eq_false cy, if_neg (by decide)]
          refine ⟨_, rfl, q3, rfl, hb1, ha1, hm1, fun j u hj hju => ?_⟩
          by_cases ej : j = i
          · subst ej
            rw [gl] at hju
            have : w = u := by have := aB hju; omega
            subst this
            refine ⟨y, gw, by omega, ?_⟩
            have := hb1.top w y (a : Int) gw rfl
            rw [eM ha1] at this; exact this
          · exact hc1 j u (by omega) hju)
      simp only at hq2 hb2 ha2 hm2 hcl
      subst hq2
      obtain ⟨p1, p2⟩ := sA hb2 ha2 fun w hN => by
        obtain ⟨j, hj⟩ := List.getElem?_of_mem (hG.inn a l w gG hN)
        have hjl := (List.getElem?_eq_some_iff.1 hj).1
        exact hcl j w hjl hj
      have hcut : cN ((a : Int) :: q3) 1 ((((a : Int) :: q3).length : Nat) : Int) = some q3 := by
        unfold cN
        rw [if_pos ⟨by decide, by simp; omega, Int.le_refl _⟩]
        simp
      refine .inl ⟨(D2, q3), ?_, p1, ?_⟩
      · simp only [jw, c, if_true, g0, Option.bind_some, cm, gG, e2, hcut]
      · simp only [List.length_cons] at hm2 ⊢; omega) dD (_, [(s : Int)]) b0 (by simp only [List.length_cons, List.length_nil]; omega)
  rw [e]
  exact ⟨D, rfl, hQ⟩
end Go.AM
