import Derived.Test.YtnnkfanmokeiaaaRG5
/-  Several texts in one. -/
section
set_option linter.unusedVariables false
set_option linter.unusedSimpArgs false
namespace Go.AM
open Go
def gn : List Int → Nat
  | [] => 0
  | x :: l => (if x < 0 then 1 else 0) + gn l
theorem o5 : ∀ (D : List Int) (k : Nat) (y x : Int), D[k]? = some y → y < 0 → 0 ≤ x → gn (D.set k x) + 1 = gn D
  | [], k, y, x, h, _, _ => by simp at h
  | z :: D, 0, y, x, h, hy, hx => by
    cases h
    simp only [List.set_cons_zero, gn]
    rw [if_pos hy, if_neg (by omega)]; omega
  | z :: D, k + 1, y, x, h, hy, hx => by
    simp only [List.set_cons_succ, gn]
    have := o5 D k y x (by simpa using h) hy hx
    omega
theorem A0 (n : Nat) : gn (List.replicate n (-1)) = n := by
  induction n with
  | zero => rfl
  | succ n ih => rw [List.replicate_succ, gn, ih, if_pos (by decide)]; omega
def dv (D : List Int) (z : Int) : Int := (D[z.toNat]?).getD (-1)
structure Bf (N : Nat → Nat → Prop) (n s : Nat) (D q : List Int) : Prop where
  len : D.length = n
  val : ∀ (v : Nat) x, D[v]? = some x → x = -1 ∨ ∃ k : Nat, x = k ∧ Wk N k s v
  sz : ∀ (v : Nat) x, D[v]? = some x → x + gn D < n
  src : D[s]? = some 0
  qn : ∀ z ∈ q, ∃ (v : Nat) (x : Int), z = v ∧ D[v]? = some x ∧ 0 ≤ x
  qs : q.Pairwise (fun a b => dv D a ≤ dv D b)
  top : ∀ (v : Nat) x h, D[v]? = some x → q.head? = some h → x ≤ dv D h + 1
  cl : ∀ (v : Nat) x w, D[v]? = some x → 0 ≤ x → (v : Int) ∉ q → N v w → ∃ y, D[w]? = some y ∧ 0 ≤ y ∧ y ≤ x + 1
  me : q.length + gn D ≤ n
theorem gU {D : List Int} {v : Nat} {x : Int} (h : D[v]? = some x) : dv D (v : Int) = x := by unfold dv; rw [Int.toNat_natCast, h]; rfl
theorem A3 {N : Nat → Nat → Prop} {n s a w : Nat} {D q : List Int} {dx y : Int} (h : Bf N n s D ((a : Int) :: q)) (ha : D[a]? = some dx) (hN : N a w) (hw : D[w]? = some y) (hy : y < 0) : Bf N n s (D.set w (dx + 1)) ((a : Int) :: q ++ [(w : Int)]) := by
  have hwl : w < D.length := (List.getElem?_eq_some_iff.1 hw).1
  obtain ⟨_, x', e1, e2, e3⟩ := h.qn (a : Int) (by simp)
  have e1 := Int.ofNat.inj e1
  subst e1
  rw [ha] at e2; cases e2
  have hu := o5 D w y (dx + 1) hw hy (by omega)
  have haw : ¬ w = a := by intro e; subst e; rw [ha] at hw; cases hw; omega
  have look : ∀ (v : Nat), (D.set w (dx + 1))[v]? = if w = v then some (dx + 1) else D[v]? := fun v => by
    by_cases e : w = v
    · subst e; simp [hwl]
    · simp [e]
  have ha' : (D.set w (dx + 1))[a]? = some dx := by rw [look, if_neg haw]; exact ha
  have hwk : ∃ k : Nat, dx = k ∧ Wk N k s a := by
    rcases h.val a dx ha with h | h
    · omega
    · exact h
  obtain ⟨kx, hkx, wkx⟩ := hwk
  have dvq : ∀ z ∈ ((a : Int) :: q), dv (D.set w (dx + 1)) z = dv D z := by
    intro z hz
    obtain ⟨v, x, rfl, h2, h3⟩ := h.qn z hz
    have : ¬ w = v := by intro e; subst e; rw [hw] at h2; cases h2; omega
    rw [gU h2]
    exact gU (by rw [look, if_neg this]; exact h2)
  refine ⟨by simp [h.len], fun v x hx => ?_, fun v x hx => ?_, ?_, fun z hz => ?_, ?_, fun v x hd hx hh => ?_, fun v x u hx h0 hq hu' => ?_, ?_⟩
  · rw [look] at hx
    split at hx
    · rename_i e; subst e; cases hx
      exact .inr ⟨kx + 1, by push_cast; omega, wkx.snoc hN⟩
    · exact h.val v x hx
  · rw [look] at hx
    split at hx
    · cases hx; have := h.sz a dx ha; omega
    · have := h.sz v x hx; omega
  · rw [look]
    have : ¬ w = s := by intro e; subst e; have := h.src; rw [hw] at this; cases this; omega
    rw [if_neg this]; exact h.src
  · rcases List.mem_append.1 hz with hz | hz
    · obtain ⟨v, x, rfl, h2, h3⟩ := h.qn z hz
      have : ¬ w = v := by intro e; subst e; rw [hw] at h2; cases h2; omega
      exact ⟨v, x, rfl, by rw [look, if_neg this]; exact h2, h3⟩
    · simp at hz
      exact ⟨w, dx + 1, hz, by rw [look, if_pos rfl], by omega⟩
  · rw [List.pairwise_append]
    refine ⟨?_, List.pairwise_singleton _ _, fun z hz b hb => ?_⟩
    · refine List.Pairwise.imp_of_mem (R := fun a b => dv D a ≤ dv D b) (fun {x y} hx hy hxy => ?_) h.qs
      rw [dvq x hx, dvq y hy]; exact hxy
    · rw [List.mem_singleton] at hb
      subst hb
      rw [dvq z hz, gU (show (D.set w (dx + 1))[w]? = some (dx + 1) by rw [look, if_pos rfl])]
      obtain ⟨v, x, rfl, h2, h3⟩ := h.qn z hz
      have := h.top v x (a : Int) h2 rfl
      rw [gU ha] at this
      rw [gU h2]; exact this
  · have e : hd = (a : Int) := by simpa using hh.symm
    subst e
    rw [gU ha']
    rw [look] at hx
    split at hx
    · cases hx; omega
    · have := h.top v x (a : Int) hx rfl
      rw [gU ha] at this; exact this
  · rw [List.mem_append, not_or] at hq
    obtain ⟨q1, q2⟩ := hq
    have hvw : ¬ w = v := by intro e; subst e; simp at q2
    rw [look, if_neg hvw] at hx
    obtain ⟨y', g1, g2, g3⟩ := h.cl v x u hx h0 q1 hu'
    have : ¬ w = u := by intro e; subst e; rw [hw] at g1; cases g1; omega
    exact ⟨y', by rw [look, if_neg this]; exact g1, g2, g3⟩
  · have := h.me
    simp at this ⊢; omega
theorem A6 {N : Nat → Nat → Prop} {n s a : Nat} {D q : List Int} {dx : Int} (h : Bf N n s D ((a : Int) :: q)) (ha : D[a]? = some dx) (hc : ∀ w, N a w → ∃ y, D[w]? = some y ∧ 0 ≤ y ∧ y ≤ dx + 1) : Bf N n s D q ∧ q.length + gn D < n := by
  have hqs := List.pairwise_cons.1 h.qs
  have := h.me
  simp at this
  refine ⟨⟨h.len, h.val, h.sz, h.src, fun z hz => h.qn z (by simp [hz]), hqs.2, fun v x hd hx hh => ?_, fun v x w hx h0 hq hw => ?_, by omega⟩, by omega⟩
  · have h1 := h.top v x (a : Int) hx rfl
    have h2 := hqs.1 hd (List.mem_of_mem_head? hh)
    omega
  · by_cases e : v = a
    · subst e
      rw [ha] at hx; cases hx
      exact hc w hw
    · exact h.cl v x w hx h0 (by simp [hq]; omega) hw
theorem A7 {N : Nat → Nat → Prop} {n s : Nat} {D : List Int} (h : Bf N n s D []) : Ds N n s D := by
  have key : ∀ (k v : Nat), Wk N k s v → ∃ x, D[v]? = some x ∧ 0 ≤ x ∧ x ≤ k := by
    intro k
    induction k with
    | zero => intro v w; rw [← w.zero]; exact ⟨0, h.src, by omega, by omega⟩
    | succ k ih =>
      intro v w
      obtain ⟨u, wu, hu⟩ := w.last
      obtain ⟨x, h1, h2, h3⟩ := ih u wu
      obtain ⟨y, g1, g2, g3⟩ := h.cl u x v h1 h2 (by simp) hu
      exact ⟨y, g1, g2, by push_cast; omega⟩
  refine ⟨h.len, fun v x hx => ?_⟩
  rcases h.val v x hx with h1 | ⟨k, h1, h2⟩
  · refine .inl ⟨h1, fun k w => ?_⟩
    obtain ⟨y, g1, g2, _⟩ := key k v w
    rw [hx] at g1; cases g1; omega
  · refine .inr ⟨k, h1, h2, fun j w => ?_⟩
    obtain ⟨y, g1, _, g3⟩ := key j v w
    rw [hx] at g1; cases g1; omega
theorem A9 {t : api_Topo} (wf : Wf t) {but : Int} {G : List (List Int)} (hG : Nb (cJ t but) t.Switches.length G) {s : Nat} (hs : s < t.Switches.length) : ∃ D, od G (s : Int) = some D ∧ Ds (cJ t but) t.Switches.length s D := by
  have hn := wf.sw
  have hl := hG.len
  unfold od
  have hg0 : fj (G.length : Int) (0 : Int) = some (List.replicate t.Switches.length 0) := by
    unfold fj; rw [if_pos (by omega)]; simp [hl]
  rw [hg0]
  simp only [Option.bind_some, List.length_replicate]
  rw [vQ (n := t.Switches.length) (by omega) qv (fun j l hj => by
    simp only [qv, cd, bU hj, Option.bind_some]
    rw [iX _ hj]; rfl)]
  have hh : iD G (s : Int) = some true := by
    unfold iD
    simp [hl]; omega
  simp only [Option.bind_some, hh, Bool.not_true, Bool.false_eq_true, if_false, cd]
  rw [List.getElem?_replicate, if_pos hs]
  simp only [Option.bind_some]
  rw [iX _ (by simpa using hs)]
  simp only [Option.bind_some]
  have u0 : gn ((List.replicate t.Switches.length (-1)).set s 0) + 1 = t.Switches.length := by
    have := o5 (List.replicate t.Switches.length (-1)) s (-1) 0 (by rw [List.getElem?_replicate, if_pos hs]) (by decide) (by decide)
    rw [A0] at this; exact this
  have look0 : ∀ (v : Nat) x, ((List.replicate t.Switches.length (-1 : Int)).set s 0)[v]? = some x → (v = s ∧ x = 0) ∨ x = -1 := by
    intro v x hx
    rw [List.getElem?_set, List.length_replicate] at hx
    by_cases e : s = v
    · rw [if_pos e, if_pos hs] at hx; cases hx; exact .inl ⟨e.symm, rfl⟩
    · rw [if_neg e, List.getElem?_replicate] at hx
      split at hx
      · cases hx; exact .inr rfl
      · cases hx
  have src0 : ((List.replicate t.Switches.length (-1 : Int)).set s 0)[s]? = some 0 := by rw [List.getElem?_set, if_pos rfl, List.length_replicate, if_pos hs]
  have b0 : Bf (cJ t but) t.Switches.length s ((List.replicate t.Switches.length (-1)).set s 0) [(s : Int)] := by
    refine ⟨by simp, fun v x hx => ?_, fun v x hx => ?_, src0, fun z hz => ?_, List.pairwise_singleton _ _, fun v x hd hx hh => ?_, fun v x w hx h0 hq hw => ?_, by simp; omega⟩
    · rcases look0 v x hx with ⟨rfl, rfl⟩ | h
      · exact .inr ⟨0, rfl, .nil v⟩
      · exact .inl h
    · rcases look0 v x hx with ⟨rfl, rfl⟩ | h <;> omega
    · simp at hz; exact ⟨s, 0, hz, src0, by omega⟩
    · have e : hd = (s : Int) := by simpa using hh.symm
      subst e
      rw [gU src0]
      rcases look0 v x hx with ⟨rfl, rfl⟩ | h <;> omega
    · rcases look0 v x hx with ⟨rfl, rfl⟩ | h
      · simp at hq
      · omega
  obtain ⟨FK, hFK⟩ := mr 100 (by omega)
  obtain ⟨⟨D, q⟩, e, hQ⟩ := oW (f := oc G) (fun st => Bf (cJ t but) t.Switches.length s st.1 st.2) (fun st => Ds (cJ t but) t.Switches.length s st.1) (fun st => st.2.length + gn st.1) (fun ⟨D, q⟩ hb => by
    simp only at hb
    cases q with
    | nil =>
      refine .inr ⟨(D, []), ?_, A7 hb⟩
      simp only [oc]
      rfl
    | cons z q =>
      obtain ⟨a, dx, rfl, ha, hd0⟩ := hb.qn z (by simp)
      have hal : a < t.Switches.length := by have := (List.getElem?_eq_some_iff.1 ha).1; rw [hb.len] at this; exact this
      have haG : a < G.length := by omega
      have gG : G[a]? = some G[a] := bU haG
      generalize G[a] = l at gG
      have c : decide ((((a : Int) :: q).length : Int) > 0) = true := by simp
      have g0 : be ((a : Int) :: q) 0 = some (a : Int) := rfl
      obtain ⟨⟨D2, q2⟩, e2, q3, hq2, hb2, ha2, hm2, hcl⟩ := iH (qw l (a : Int)) (fun i st => ∃ q3, st.2 = (a : Int) :: q3 ∧ Bf (cJ t but) t.Switches.length s st.1 st.2 ∧ st.1[a]? = some dx ∧ st.2.length + gn st.1 = ((a : Int) :: q).length + gn D ∧ ∀ (j : Nat) (w : Nat), j < i → l[j]? = some (w : Int) → ∃ y, st.1[w]? = some y ∧ 0 ≤ y ∧ y ≤ dx + 1) l.length (D, (a : Int) :: q) ⟨q, rfl, hb, ha, rfl, fun j w hj => by omega⟩ (fun i ⟨D1, q1⟩ hi ⟨q3, hq1, hb1, ha1, hm1, hc1⟩ => by
        simp only at hq1 hb1 ha1 hm1 hc1
        subst hq1
        have gl : l[i]? = some l[i] := bU hi
        obtain ⟨w, hw, hN⟩ := hG.out a l _ gG (List.getElem_mem hi)
        rw [hw] at gl
        have hwl : w < D1.length := by rw [hb1.len]; exact (gF hN).2
        have gw : D1[w]? = some D1[w] := bU hwl
        generalize D1[w] = y at gw
        simp only [qw, cd, gl, gw, ha1, Option.bind_some]
        by_cases cy : y < 0
        · have hsz := hb1.sz a dx ha1
          have hw64 : IntKind.i64.wrap (dx + 1) = dx + 1 := lD (by omega) (by omega)
          have hme := hb1.me
          rw [decide_eq_true cy, if_pos rfl, hw64, iX _ hwl]
          simp only [Option.bind_some]
          rw [dW (by simp at hme ⊢; omega)]
          have hu := o5 D1 w y (dx + 1) gw cy (by omega)
          have haw : ¬ w = a := by intro e; subst e; rw [ha1] at gw; cases gw; omega
          refine ⟨_, rfl, q3 ++ [(w : Int)], by simp, A3 hb1 ha1 hN gw cy, ?_, ?_, fun j u hj hju => ?_⟩
          · simp only; rw [List.getElem?_set, if_neg haw]; exact ha1
          · simp only [List.length_append, List.length_cons, List.length_nil] at hm1 ⊢; omega
          · simp only
            rw [List.getElem?_set]
            by_cases e : w = u
            · rw [if_pos e, if_pos hwl]; exact ⟨_, rfl, by omega, by omega⟩
            · rw [if_neg e]
              by_cases ej : j = i
              · subst ej; rw [gl] at hju; cases hju; exact (e rfl).elim
              · exact hc1 j u (by omega) hju
        · rw [decide_eq_false cy, if_neg (by decide)]
          refine ⟨_, rfl, q3, rfl, hb1, ha1, hm1, fun j u hj hju => ?_⟩
          by_cases ej : j = i
          · subst ej
            rw [gl] at hju
            have : w = u := by have := bM hju; omega
            subst this
            refine ⟨y, gw, by omega, ?_⟩
            have := hb1.top w y (a : Int) gw rfl
            rw [gU ha1] at this; exact this
          · exact hc1 j u (by omega) hju)
      simp only at hq2 hb2 ha2 hm2 hcl
      subst hq2
      obtain ⟨p1, p2⟩ := A6 hb2 ha2 fun w hN => by
        obtain ⟨j, hj⟩ := List.getElem?_of_mem (hG.inn a l w gG hN)
        have hjl := (List.getElem?_eq_some_iff.1 hj).1
        exact hcl j w hjl hj
      have hcut : eF ((a : Int) :: q3) 1 ((((a : Int) :: q3).length : Nat) : Int) = some q3 := by
        unfold eF
        rw [if_pos ⟨by decide, by simp; omega, Int.le_refl _⟩]
        simp
      refine .inl ⟨(D2, q3), ?_, p1, ?_⟩
      · simp only [oc, c, if_true, g0, Option.bind_some, cd, gG, e2, hcut]
      · simp only [List.length_cons] at hm2 ⊢; omega) c9 (_, [(s : Int)]) b0 (by simp only [List.length_cons, List.length_nil]; omega)
  rw [e]
  exact ⟨D, rfl, hQ⟩
end Go.AM
end
section
set_option linter.unusedVariables false
set_option linter.unusedSimpArgs false
namespace Go.AM
open Go
structure Nx (N : Nat → Nat → Prop) (D : List Int) (d v k : Nat) : Prop where
  nb : N v k
  at_ : D[k]? = some (d : Int)
  le : ∀ j, N v j → D[j]? = some (d : Int) → k ≤ j
inductive fD (N : Nat → Nat → Prop) (D : List Int) : Nat → Nat → List Int → Prop
  | done (v : Nat) : fD N D 0 v []
  | step {d v k : Nat} {l : List Int} : Nx N D d v k → fD N D d k l → fD N D (d + 1) v ((k : Int) :: l)
theorem fD.len {N : Nat → Nat → Prop} {D : List Int} {d v : Nat} {l : List Int} (h : fD N D d v l) : l.length = d := by
  induction h with
  | done => rfl
  | step _ _ ih => simp [ih]
theorem Nx.uniq {N : Nat → Nat → Prop} {D : List Int} {d v k j : Nat} (h : Nx N D d v k) (g : Nx N D d v j) : k = j :=
  Nat.le_antisymm (h.le j g.nb g.at_) (g.le k h.nb h.at_)
theorem Nx.ex {N : Nat → Nat → Prop} {n b : Nat} {D : List Int} (hs : ∀ a b, N a b → N b a) (hn : ∀ a b, N a b → a < n ∧ b < n) (hD : Ds N n b D) {d v : Nat} (hv : D[v]? = some ((d + 1 : Nat) : Int)) : ∃ k, Nx N D d v k := by
  have h := hD.2 v _ hv
  push_cast at h
  obtain ⟨u, hu, hd⟩ := h.back
  have hu' : D[u]? = some (d : Int) := by
    obtain ⟨e, h1, h2⟩ := hD.get (hn _ _ hu).1
    rw [h1, h2.uniq hd]
  have key : ∀ m, (∃ k, k ≤ m ∧ N v k ∧ D[k]? = some (d : Int)) → ∃ k, Nx N D d v k := by
    intro m
    induction m with
    | zero =>
      rintro ⟨k, h1, h2, h3⟩
      exact ⟨k, h2, h3, fun j _ _ => by omega⟩
    | succ m ih =>
      rintro ⟨k, h1, h2, h3⟩
      by_cases e : ∃ k, k ≤ m ∧ N v k ∧ D[k]? = some (d : Int)
      · exact ih e
      · exact ⟨k, h2, h3, fun j g1 g2 => Nat.le_of_not_lt fun hj => e ⟨j, by omega, g1, g2⟩⟩
  exact key u ⟨u, Nat.le_refl _, hs _ _ hu, hu'⟩
theorem fD.ex {N : Nat → Nat → Prop} {n b : Nat} {D : List Int} (hs : ∀ a b, N a b → N b a) (hn : ∀ a b, N a b → a < n ∧ b < n) (hD : Ds N n b D) : ∀ (d v : Nat), D[v]? = some (d : Int) → ∃ l, fD N D d v l
  | 0, v, _ => ⟨[], .done v⟩
  | d + 1, v, hv => by
    obtain ⟨k, hk⟩ := Nx.ex hs hn hD hv
    obtain ⟨l, hl⟩ := fD.ex hs hn hD d k hk.at_
    exact ⟨_, .step hk hl⟩
theorem Ba {l : List Int} {f : Int → Option Bool} {p : Int → Bool} (h : ∀ x ∈ l, f x = some (p x)) {x : Int} (hx : x ∈ l) (hp : p x = true) (hf : ∀ y ∈ l, p y = true → x ≤ y) (ho : l.Pairwise (· < ·)) : ∃ i, og l f = some i ∧ be l i = some x := by
  unfold og
  rw [kz _ (fun pre y _ => if p y then some (pre.length : Int) else none) l (fun pre y r e => by
    have hm : y ∈ l := by rw [e]; simp
    simp only [uo, lE e, Option.bind_some, h y hm]
    by_cases c : p y = true
    · simp only [c, if_true]; rfl
    · simp only [c, if_false]; rfl)]
  cases hr : dQ (fun pre y _ => if p y then some (pre.length : Int) else none) [] l with
  | none =>
    exfalso
    obtain ⟨k, hk⟩ := List.getElem?_of_mem hx
    have := mV _ _ hr k x hk
    rw [if_pos hp] at this
    cases this
  | some i =>
    obtain ⟨k, y, h1, h2, h3⟩ := o0 _ _ hr
    have hk := (List.getElem?_eq_some_iff.1 h1).1
    by_cases c : p y = true
    · rw [if_pos c] at h2
      have e2 : (([] : List Int) ++ l.take k).length = k := by simp; omega
      rw [e2] at h2
      cases h2
      refine ⟨(k : Int), rfl, ?_⟩
      rw [cd, h1]
      have hxy := hf y (c7 h1) c
      obtain ⟨j, hj⟩ := List.getElem?_of_mem hx
      have hjl := (List.getElem?_eq_some_iff.1 hj).1
      by_cases e : j = k
      · subst e; rw [h1] at hj; exact hj
      · by_cases e3 : j < k
        · have := h3 j x e3 hj
          rw [if_pos hp] at this; cases this
        · have := (List.pairwise_iff_getElem.1 ho) k j hk hjl (by omega)
          rw [(List.getElem?_eq_some_iff.1 h1).2, (List.getElem?_eq_some_iff.1 hj).2] at this
          omega
    · rw [if_neg c] at h2; cases h2
section
variable {t : api_Topo}
theorem Bb {G : List (List Int)} {D : List Int} {a b : Nat} (wf : Wf t) (hG : Nb (cJ t (-1)) t.Switches.length G) (hD : Ds (cJ t (-1)) t.Switches.length b D) {d : Nat} {l : List Int} (hw : fD (cJ t (-1)) D d a l) (ha : D[a]? = some (d : Int)) (hd : d ≤ 1000) :
    ∃ z, iz (mz (b : Int) G D) c9 ([(a : Int)], (a : Int)) = some ((a : Int) :: l, z) := by
  obtain ⟨FK, hFK⟩ := mr 2000 (by omega)
  have hl := hw.len
  have hb : b < t.Switches.length → D[b]? = some 0 := fun hb => by
    obtain ⟨e, h1, h2⟩ := hD.get hb
    rw [h1, h2.uniq (rL b)]
  obtain ⟨⟨z, zz⟩, e, hz⟩ := oW (f := mz (b : Int) G D) (fun st => ∃ (v d : Nat) (l2 : List Int), st.2 = (v : Int) ∧ D[v]? = some (d : Int) ∧ fD (cJ t (-1)) D d v l2 ∧ st.1 ++ l2 = (a : Int) :: l) (fun st => st.1 = (a : Int) :: l) (fun st => (((D[st.2.toNat]?).getD 0).toNat)) (fun ⟨acc, at_⟩ ⟨v, d, l2, h1, h2, h3, h4⟩ => by
    simp only at h1 h4
    subst h1
    cases h3 with
    | done =>
      have : v = b := ((hD.2 v _ h2).zero).symm
      subst this
      refine .inr ⟨(acc, (v : Int)), ?_, by simpa using h4⟩
      simp only [mz]
      simp
    | @step d v k l2 hk h3 =>
      have hvb : ¬ v = b := by
        intro e; subst e
        have := (hD.2 v _ h2).uniq (rL v)
        omega
      have hc : ((v : Int) != (b : Int)) = true := by simp; omega
      obtain ⟨hvn, hkn⟩ := gF hk.nb
      have hvG : v < G.length := by rw [hG.len]; exact hvn
      have gG : G[v]? = some G[v] := bU hvG
      generalize G[v] = nb at gG
      have hdl : d ≤ 1000 := by
        have := h3.len
        have h5 := congrArg List.length h4
        simp at h5; omega
      have w64 : IntKind.i64.wrap (((d + 1 : Nat) : Int) - 1) = d := by rw [lD (by omega) (by omega)]; omega
      obtain ⟨i, hi, hgi⟩ := Ba (l := nb) (f := fun y => oe y D (v : Int)) (p := fun y => dv D y == (d : Int)) (x := (k : Int)) (fun y hy => by
        obtain ⟨u, rfl, hu⟩ := hG.out v nb y gG hy
        obtain ⟨e, g1, _⟩ := hD.get (gF hu).2
        simp only [oe, cd, g1, h2, Option.bind_some, w64, gU g1]) (hG.inn v nb k gG hk.nb) (by rw [gU hk.at_]; simp) (fun y hy hp => by
        obtain ⟨u, rfl, hu⟩ := hG.out v nb y gG hy
        obtain ⟨e, g1, _⟩ := hD.get (gF hu).2
        rw [gU g1] at hp
        have := hk.le u hu (by rw [g1]; congr 1; simpa using hp)
        omega) (hG.ord v nb gG)
      refine .inl ⟨(acc ++ [(k : Int)], (k : Int)), ?_, ⟨k, d, l2, rfl, hk.at_, h3, by rw [← h4]; simp⟩, ?_⟩
      · simp only [mz, hc, if_true, cd, gG, Option.bind_some, hi, hgi]
        have h5 := congrArg List.length h4
        simp at h5
        rw [dW (by simp; omega)]; rfl
      · simp only [Int.toNat_natCast, h2, hk.at_, Option.getD_some]; omega) c9 ([(a : Int)], (a : Int)) ⟨a, d, l, rfl, ha, hw, by simp⟩ (by simp only [Int.toNat_natCast, ha, Option.getD_some]; omega)
  simp only at hz
  subst hz
  exact ⟨zz, e⟩
theorem Bc {D : List Int} {a b : Nat} (wf : Wf t) (hbn : b < t.Switches.length) (hD : Ds (cJ t (-1)) t.Switches.length b D) {d : Nat} {l : List Int} (hw : fD (cJ t (-1)) D d a l) (ha : D[a]? = some (d : Int)) (hd : d ≤ 1000) :
    ∃ y z, iz (mK t (b : Int)) c9 ((d : Int), [(a : Int)], (a : Int)) = some (y, (a : Int) :: l, z) := by
  obtain ⟨FK, hFK⟩ := mr 2000 (by omega)
  have hl := hw.len
  obtain ⟨⟨y, z, zz⟩, e, hz⟩ := oW (f := mK t (b : Int)) (fun st => ∃ (v d : Nat) (l2 : List Int), st.1 = (d : Int) ∧ st.2.2 = (v : Int) ∧ D[v]? = some (d : Int) ∧ fD (cJ t (-1)) D d v l2 ∧ st.2.1 ++ l2 = (a : Int) :: l) (fun st => st.2.1 = (a : Int) :: l) (fun st => st.1.toNat) (fun ⟨dd, acc, at_⟩ ⟨v, d, l2, h0, h1, h2, h3, h4⟩ => by
    simp only at h0 h1 h4
    subst h1; subst h0
    cases h3 with
    | done =>
      have : v = b := ((hD.2 v _ h2).zero).symm
      subst this
      refine .inr ⟨(((0 : Nat) : Int), acc, (v : Int)), ?_, by simpa using h4⟩
      simp only [mK]
      simp
    | @step d v k l2 hk h3 =>
      have hvb : ¬ v = b := by
        intro e; subst e
        have := (hD.2 v _ h2).uniq (rL v)
        omega
      have hc : ((v : Int) != (b : Int)) = true := by simp; omega
      obtain ⟨hvn, hkn⟩ := gF hk.nb
      have hdl : d ≤ 1000 := by
        have := h3.len
        have h5 := congrArg List.length h4
        simp at h5; omega
      have w64 : IntKind.i64.wrap (((d + 1 : Nat) : Int) - 1) = d := by rw [lD (by omega) (by omega)]; omega
      have h5 := congrArg List.length h4
      simp at h5
      have hfk := vH (oN t (b : Int) ((d + 1 : Nat) : Int)) (fun j st => st = (acc, (v : Int)) ∧ j ≤ k) (fun st => st = (acc ++ [(k : Int)], (k : Int))) t.Switches.length 0 (acc, (v : Int)) ⟨rfl, Nat.zero_le _⟩ (fun j st _ hj ⟨hst, hjk⟩ => by
        subst hst
        have hjn : j < t.Switches.length := by omega
        obtain ⟨r, hr, hrn⟩ := vO t (-1) v j
        obtain ⟨e, he, hde⟩ := vR wf (-1) hjn hbn
        have hDj : D[j]? = some e := by
          obtain ⟨e', g1, g2⟩ := hD.get hjn
          rw [g1, g2.uniq (hde.rev rN)]
        simp only [oN, hr, Option.bind_some, he, w64]
        by_cases ej : j = k
        · subst ej
          have : r = true := hrn.2 hk.nb
          subst this
          have : e = (d : Int) := by have := hk.at_; rw [hDj] at this; exact bM this
          subst this
          simp only [if_true, Option.bind_some, beq_self_eq_true]
          rw [dW (by simp; omega)]
          exact .inr ⟨_, rfl, rfl⟩
        · have nope : ¬ (r = true ∧ e = (d : Int)) := by
            rintro ⟨g1, g2⟩
            have := hk.le j (hrn.1 g1) (by rw [hDj, g2])
            omega
          refine .inl ⟨(acc, (v : Int)), ?_, rfl, by omega⟩
          cases r with
          | false => simp
          | true =>
            have : (e == (d : Int)) = false := by
              simp only [beq_eq_false_iff_ne]; intro g; exact nope ⟨rfl, g⟩
            simp [this])
      obtain ⟨st, e1, hst⟩ := hfk
      have hst' : st = (acc ++ [(k : Int)], (k : Int)) := by
        rcases hst with ⟨_, hh⟩ | hh
        · omega
        · exact hh
      subst hst'
      have e1 : ka (oN t (b : Int) ((d + 1 : Nat) : Int)) (bA 0 (t.Switches.length : Int)) (acc, (v : Int)) = some (acc ++ [(k : Int)], (k : Int)) := by simpa using e1
      refine .inl ⟨((d : Int), acc ++ [(k : Int)], (k : Int)), ?_, ⟨k, d, l2, rfl, rfl, hk.at_, h3, by rw [← h4]; simp⟩, by simp only; omega⟩
      simp only [mK, hc, if_true, e1, Option.bind_some, w64]) c9 ((d : Int), [(a : Int)], (a : Int)) ⟨a, d, l, rfl, rfl, ha, hw, by simp⟩ (by simp only [Int.toNat_natCast]; omega)
  simp only at hz
  subst hz
  exact ⟨y, zz, e⟩
theorem rQ {G : List (List Int)} {n a : Nat} (h : G.length = n) (ha : a < n) : iD G (a : Int) = some true := by
  unfold iD; simp [h]; omega
theorem vS {G : List (List Int)} {n : Nat} {a : Int} (h : G.length = n) (ha : a < 0 ∨ (n : Int) ≤ a) : iD G a = some false := by
  unfold iD; simp [h]; omega
theorem vT (wf : Wf t) {a b : Nat} (ha : a < t.Switches.length) (hb : b < t.Switches.length) : ∃ d, dI (cJ t (-1)) a b d ∧
    ((d = -1 ∧ iE t a b = some ([], false) ∧ jy t a b = some ([], false)) ∨
      ∃ (k : Nat) (D l : List Int), d = k ∧ Ds (cJ t (-1)) t.Switches.length b D ∧ D[a]? = some (k : Int) ∧ fD (cJ t (-1)) D k a l ∧ iE t a b = some ((a : Int) :: l, true) ∧ jy t a b = some ((a : Int) :: l, true)) := by
  obtain ⟨G, eG, hG⟩ := vP wf (-1)
  obtain ⟨D, eD, hD⟩ := A9 wf hG hb
  obtain ⟨d, h1, h2⟩ := hD.get ha
  have h3 := h2.rev rN
  obtain ⟨d', r1, r2⟩ := vR wf (-1) ha hb
  have : d' = d := r2.uniq h3
  subst this
  have lt := h3.lt (fun a b h => gF h) ha
  have wn := wf.sw
  refine ⟨d', h3, ?_⟩
  unfold iE jy
  simp only [eG, rQ hG.len ha, rQ hG.len hb, Option.bind_some, Bool.not_true, Bool.false_eq_true, if_false, eD, cd, h1, r1]
  by_cases c : d' < 0
  · have := h3.ge
    left
    refine ⟨by omega, ?_, ?_⟩
    · rw [decide_eq_true c, if_pos rfl]
    · rw [decide_eq_true c, if_pos rfl]
  · right
    obtain ⟨k, rfl⟩ := Int.eq_ofNat_of_zero_le (Int.not_lt.1 c)
    obtain ⟨l, hl⟩ := fD.ex rN (fun a b h => gF h) hD k a h1
    obtain ⟨z, e1⟩ := Bb wf hG hD hl h1 (by omega)
    obtain ⟨y, z', e2⟩ := Bc wf hb hD hl h1 (by omega)
    refine ⟨k, D, l, rfl, hD, h1, hl, ?_, ?_⟩
    · rw [decide_eq_false c, if_neg (by decide), e1]; rfl
    · rw [decide_eq_false c, if_neg (by decide)]
      rw [e2]; rfl
theorem Bd (wf : Wf t) {a b : Int} (h : a < 0 ∨ (t.Switches.length : Int) ≤ a ∨ b < 0 ∨ (t.Switches.length : Int) ≤ b) : iE t a b = some ([], false) ∧ jy t a b = some ([], false) := by
  obtain ⟨G, eG, hG⟩ := vP wf (-1)
  refine ⟨?_, ?_⟩
  · unfold iE
    simp only [eG, Option.bind_some]
    by_cases c : a < 0 ∨ (t.Switches.length : Int) ≤ a
    · simp [vS hG.len c]
    · obtain ⟨k, rfl⟩ := Int.eq_ofNat_of_zero_le (show 0 ≤ a by omega)
      have hk : k < t.Switches.length := by have := fun h => c (.inr h); simp at this; omega
      have hb : b < 0 ∨ (t.Switches.length : Int) ≤ b := by omega
      have := rQ hG.len hk
      simp [this, vS hG.len hb]
  · unfold jy
    rw [AZ (-1) h]
    simp
end
end Go.AM
end
