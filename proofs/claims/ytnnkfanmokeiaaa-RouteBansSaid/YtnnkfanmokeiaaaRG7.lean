import Derived.Test.YtnnkfanmokeiaaaRG5
/-  Several texts in one. -/
section
set_option linter.unusedVariables false
set_option linter.unusedSimpArgs false
namespace Go.AM
open Go
def f6 : List Int → Nat
  | [] => 0
  | x :: l => (if x < 0 then 1 else 0) + f6 l
theorem oF : ∀ (D : List Int) (k : Nat) (y x : Int), D[k]? = some y → y < 0 → 0 ≤ x → f6 (D.set k x) + 1 = f6 D
  | [], k, y, x, h, _, _ => by simp at h
  | z :: D, 0, y, x, h, hy, hx => by
    cases h
    simp only [List.set_cons_zero, f6]
    rw [if_pos hy, if_neg (by omega)]; omega
  | z :: D, k + 1, y, x, h, hy, hx => by
    simp only [List.set_cons_succ, f6]
    have := oF D k y x (by simpa using h) hy hx
    omega
theorem Ao (n : Nat) : f6 (List.replicate n (-1)) = n := by
  induction n with
  | zero => rfl
  | succ n ih => rw [List.replicate_succ, f6, ih, if_pos (by decide)]; omega
def dv (D : List Int) (z : Int) : Int := (D[z.toNat]?).getD (-1)
structure Bf (N : Nat → Nat → Prop) (n s : Nat) (D q : List Int) : Prop where
  len : D.length = n
  val : ∀ (v : Nat) x, D[v]? = some x → x = -1 ∨ ∃ k : Nat, x = k ∧ Wk N k s v
  sz : ∀ (v : Nat) x, D[v]? = some x → x + f6 D < n
  src : D[s]? = some 0
  qn : ∀ z ∈ q, ∃ (v : Nat) (x : Int), z = v ∧ D[v]? = some x ∧ 0 ≤ x
  qs : q.Pairwise (fun a b => dv D a ≤ dv D b)
  top : ∀ (v : Nat) x h, D[v]? = some x → q.head? = some h → x ≤ dv D h + 1
  cl : ∀ (v : Nat) x w, D[v]? = some x → 0 ≤ x → (v : Int) ∉ q → N v w → ∃ y, D[w]? = some y ∧ 0 ≤ y ∧ y ≤ x + 1
  me : q.length + f6 D ≤ n
theorem gJ {D : List Int} {v : Nat} {x : Int} (h : D[v]? = some x) : dv D (v : Int) = x := by unfold dv; rw [Int.toNat_natCast, h]; rfl
theorem Ap {N : Nat → Nat → Prop} {n s a w : Nat} {D q : List Int} {dx y : Int} (h : Bf N n s D ((a : Int) :: q)) (ha : D[a]? = some dx) (hN : N a w) (hw : D[w]? = some y) (hy : y < 0) : Bf N n s (D.set w (dx + 1)) ((a : Int) :: q ++ [(w : Int)]) := by
  have hwl : w < D.length := (List.getElem?_eq_some_iff.1 hw).1
  obtain ⟨_, x', e1, e2, e3⟩ := h.qn (a : Int) (by simp)
  have e1 := Int.ofNat.inj e1
  subst e1
  rw [ha] at e2; cases e2
  have hu := oF D w y (dx + 1) hw hy (by omega)
  have haw : ¬ w = a := by intro e; subst e; rw [ha] at hw; cases hw; omega
  have look : ∀ (v : Nat), (D.set w (dx + 1))[v]? = if w = v then some (dx + 1) else D[v]? := fun v => by
    by_cases e : w = v
    · subst e; simp [hwl]
    · simp [e]
  have ha' : (D.set w (dx + 1))[a]? = some dx := by rw [look, if_neg haw]; exact ha
  have hwk : ∃ k : Nat, dx = k ∧ Wk N k s a := by
    rcases h.val a dx ha with h | h
    · omega
    · exact h
  obtain ⟨kx, hkx, wkx⟩ := hwk
  have dvq : ∀ z ∈ ((a : Int) :: q), dv (D.set w (dx + 1)) z = dv D z := by
    intro z hz
    obtain ⟨v, x, rfl, h2, h3⟩ := h.qn z hz
    have : ¬ w = v := by intro e; subst e; rw [hw] at h2; cases h2; omega
    rw [gJ h2]
    exact gJ (by rw [look, if_neg this]; exact h2)
  refine ⟨by simp [h.len], fun v x hx => ?_, fun v x hx => ?_, ?_, fun z hz => ?_, ?_, fun v x hd hx hh => ?_, fun v x u hx h0 hq hu' => ?_, ?_⟩
  · rw [look] at hx
    split at hx
    · rename_i e; subst e; cases hx
      exact .inr ⟨kx + 1, by push_cast; omega, wkx.snoc hN⟩
    · exact h.val v x hx
  · rw [look] at hx
    split at hx
    · cases hx; have := h.sz a dx ha; omega
    · have := h.sz v x hx; omega
  · rw [look]
    have : ¬ w = s := by intro e; subst e; have := h.src; rw [hw] at this; cases this; omega
    rw [if_neg this]; exact h.src
  · rcases List.mem_append.1 hz with hz | hz
    · obtain ⟨v, x, rfl, h2, h3⟩ := h.qn z hz
      have : ¬ w = v := by intro e; subst e; rw [hw] at h2; cases h2; omega
      exact ⟨v, x, rfl, by rw [look, if_neg this]; exact h2, h3⟩
    · simp at hz
      exact ⟨w, dx + 1, hz, by rw [look, if_pos rfl], by omega⟩
  · rw [List.pairwise_append]
    refine ⟨?_, List.pairwise_singleton _ _, fun z hz b hb => ?_⟩
    · refine List.Pairwise.imp_of_mem (R := fun a b => dv D a ≤ dv D b) (fun {x y} hx hy hxy => ?_) h.qs
      rw [dvq x hx, dvq y hy]; exact hxy
    · rw [List.mem_singleton] at hb
      subst hb
      rw [dvq z hz, gJ (show (D.set w (dx + 1))[w]? = some (dx + 1) by rw [look, if_pos rfl])]
      obtain ⟨v, x, rfl, h2, h3⟩ := h.qn z hz
      have := h.top v x (a : Int) h2 rfl
      rw [gJ ha] at this
      rw [gJ h2]; exact this
  · have e : hd = (a : Int) := by simpa using hh.symm
    subst e
    rw [gJ ha']
    rw [look] at hx
    split at hx
    · cases hx; omega
    · have := h.top v x (a : Int) hx rfl
      rw [gJ ha] at this; exact this
  · rw [List.mem_append, not_or] at hq
    obtain ⟨q1, q2⟩ := hq
    have hvw : ¬ w = v := by intro e; subst e; simp at q2
    rw [look, if_neg hvw] at hx
    obtain ⟨y', g1, g2, g3⟩ := h.cl v x u hx h0 q1 hu'
    have : ¬ w = u := by intro e; subst e; rw [hw] at g1; cases g1; omega
    exact ⟨y', by rw [look, if_neg this]; exact g1, g2, g3⟩
  · have := h.me
    simp at this ⊢; omega
theorem Aq {N : Nat → Nat → Prop} {n s a : Nat} {D q : List Int} {dx : Int} (h : Bf N n s D ((a : Int) :: q)) (ha : D[a]? = some dx) (hc : ∀ w, N a w → ∃ y, D[w]? = some y ∧ 0 ≤ y ∧ y ≤ dx + 1) : Bf N n s D q ∧ q.length + f6 D < n := by
  have hqs := List.pairwise_cons.1 h.qs
  have := h.me
  simp at this
  refine ⟨⟨h.len, h.val, h.sz, h.src, fun z hz => h.qn z (by simp [hz]), hqs.2, fun v x hd hx hh => ?_, fun v x w hx h0 hq hw => ?_, by omega⟩, by omega⟩
  · have h1 := h.top v x (a : Int) hx rfl
    have h2 := hqs.1 hd (List.mem_of_mem_head? hh)
    omega
  · by_cases e : v = a
    · subst e
      rw [ha] at hx; cases hx
      exact hc w hw
    · exact h.cl v x w hx h0 (by simp [hq]; omega) hw
theorem Ar {N : Nat → Nat → Prop} {n s : Nat} {D : List Int} (h : Bf N n s D []) : Ds N n s D := by
  have key : ∀ (k v : Nat), Wk N k s v → ∃ x, D[v]? = some x ∧ 0 ≤ x ∧ x ≤ k := by
    intro k
    induction k with
    | zero => intro v w; rw [← w.zero]; exact ⟨0, h.src, by omega, by omega⟩
    | succ k ih =>
      intro v w
      obtain ⟨u, wu, hu⟩ := w.last
      obtain ⟨x, h1, h2, h3⟩ := ih u wu
      obtain ⟨y, g1, g2, g3⟩ := h.cl u x v h1 h2 (by simp) hu
      exact ⟨y, g1, g2, by push_cast; omega⟩
  refine ⟨h.len, fun v x hx => ?_⟩
  rcases h.val v x hx with h1 | ⟨k, h1, h2⟩
  · refine .inl ⟨h1, fun k w => ?_⟩
    obtain ⟨y, g1, g2, _⟩ := key k v w
    rw [hx] at g1; cases g1; omega
  · refine .inr ⟨k, h1, h2, fun j w => ?_⟩
    obtain ⟨y, g1, _, g3⟩ := key j v w
    rw [hx] at g1; cases g1; omega
theorem As {t : api_Topo} (wf : Wf t) {but : Int} {G : List (List Int)} (hG : Nb (cH t but) t.Switches.length G) {s : Nat} (hs : s < t.Switches.length) : ∃ D, nG G (s : Int) = some D ∧ Ds (cH t but) t.Switches.length s D := by
  have hn := wf.sw
  have hl := hG.len
  unfold nG
  have hg0 : eX (G.length : Int) (0 : Int) = some (List.replicate t.Switches.length 0) := by
    unfold eX; rw [if_pos (by omega)]; simp [hl]
  rw [hg0]
  simp only [Option.bind_some, List.length_replicate]
  rw [vp (n := t.Switches.length) (by omega) p7 (fun j l hj => by
    simp only [p7, bZ, bO hj, Option.bind_some]
    rw [iL _ hj]; rfl)]
  have hh : jd G (s : Int) = some true := by
    unfold jd
    simp [hl]; omega
  simp only [Option.bind_some, hh, Bool.not_true, Bool.false_eq_true, if_false, bZ]
  rw [List.getElem?_replicate, if_pos hs]
  simp only [Option.bind_some]
  rw [iL _ (by simpa using hs)]
  simp only [Option.bind_some]
  have u0 : f6 ((List.replicate t.Switches.length (-1)).set s 0) + 1 = t.Switches.length := by
    have := oF (List.replicate t.Switches.length (-1)) s (-1) 0 (by rw [List.getElem?_replicate, if_pos hs]) (by decide) (by decide)
    rw [Ao] at this; exact this
  have look0 : ∀ (v : Nat) x, ((List.replicate t.Switches.length (-1 : Int)).set s 0)[v]? = some x → (v = s ∧ x = 0) ∨ x = -1 := by
    intro v x hx
    rw [List.getElem?_set, List.length_replicate] at hx
    by_cases e : s = v
    · rw [if_pos e, if_pos hs] at hx; cases hx; exact .inl ⟨e.symm, rfl⟩
    · rw [if_neg e, List.getElem?_replicate] at hx
      split at hx
      · cases hx; exact .inr rfl
      · cases hx
  have src0 : ((List.replicate t.Switches.length (-1 : Int)).set s 0)[s]? = some 0 := by rw [List.getElem?_set, if_pos rfl, List.length_replicate, if_pos hs]
  have b0 : Bf (cH t but) t.Switches.length s ((List.replicate t.Switches.length (-1)).set s 0) [(s : Int)] := by
    refine ⟨by simp, fun v x hx => ?_, fun v x hx => ?_, src0, fun z hz => ?_, List.pairwise_singleton _ _, fun v x hd hx hh => ?_, fun v x w hx h0 hq hw => ?_, by simp; omega⟩
    · rcases look0 v x hx with ⟨rfl, rfl⟩ | h
      · exact .inr ⟨0, rfl, .nil v⟩
      · exact .inl h
    · rcases look0 v x hx with ⟨rfl, rfl⟩ | h <;> omega
    · simp at hz; exact ⟨s, 0, hz, src0, by omega⟩
    · have e : hd = (s : Int) := by simpa using hh.symm
      subst e
      rw [gJ src0]
      rcases look0 v x hx with ⟨rfl, rfl⟩ | h <;> omega
    · rcases look0 v x hx with ⟨rfl, rfl⟩ | h
      · simp at hq
      · omega
  obtain ⟨FK, hFK⟩ := lT 100 (by omega)
  obtain ⟨⟨D, q⟩, e, hQ⟩ := oA (f := nF G) (fun st => Bf (cH t but) t.Switches.length s st.1 st.2) (fun st => Ds (cH t but) t.Switches.length s st.1) (fun st => st.2.length + f6 st.1) (fun ⟨D, q⟩ hb => by
    simp only at hb
    cases q with
    | nil =>
      refine .inr ⟨(D, []), ?_, Ar hb⟩
      simp only [nF]
      rfl
    | cons z q =>
      obtain ⟨a, dx, rfl, ha, hd0⟩ := hb.qn z (by simp)
      have hal : a < t.Switches.length := by have := (List.getElem?_eq_some_iff.1 ha).1; rw [hb.len] at this; exact this
      have haG : a < G.length := by omega
      have gG : G[a]? = some G[a] := bO haG
      generalize G[a] = l at gG
      have c : decide ((((a : Int) :: q).length : Int) > 0) = true := by simp
      have g0 : bd ((a : Int) :: q) 0 = some (a : Int) := rfl
      obtain ⟨⟨D2, q2⟩, e2, q3, hq2, hb2, ha2, hm2, hcl⟩ := jm (p8 l (a : Int)) (fun i st => ∃ q3, st.2 = (a : Int) :: q3 ∧ Bf (cH t but) t.Switches.length s st.1 st.2 ∧ st.1[a]? = some dx ∧ st.2.length + f6 st.1 = ((a : Int) :: q).length + f6 D ∧ ∀ (j : Nat) (w : Nat), j < i → l[j]? = some (w : Int) → ∃ y, st.1[w]? = some y ∧ 0 ≤ y ∧ y ≤ dx + 1) l.length (D, (a : Int) :: q) ⟨q, rfl, hb, ha, rfl, fun j w hj => by omega⟩ (fun i ⟨D1, q1⟩ hi ⟨q3, hq1, hb1, ha1, hm1, hc1⟩ => by
        simp only at hq1 hb1 ha1 hm1 hc1
        subst hq1
        have gl : l[i]? = some l[i] := bO hi
        obtain ⟨w, hw, hN⟩ := hG.out a l _ gG (List.getElem_mem hi)
        rw [hw] at gl
        have hwl : w < D1.length := by rw [hb1.len]; exact (gI hN).2
        have gw : D1[w]? = some D1[w] := bO hwl
        generalize D1[w] = y at gw
        simp only [p8, bZ, gl, gw, ha1, Option.bind_some]
        by_cases cy : y < 0
        · have hsz := hb1.sz a dx ha1
          have hw64 : IntKind.i64.wrap (dx + 1) = dx + 1 := k4 (by omega) (by omega)
          have hme := hb1.me
          rw [decide_eq_true cy, if_pos rfl, hw64, iL _ hwl]
          simp only [Option.bind_some]
          rw [dM (by simp at hme ⊢; omega)]
          have hu := oF D1 w y (dx + 1) gw cy (by omega)
          have haw : ¬ w = a := by intro e; subst e; rw [ha1] at gw; cases gw; omega
          refine ⟨_, rfl, q3 ++ [(w : Int)], by simp, Ap hb1 ha1 hN gw cy, ?_, ?_, fun j u hj hju => ?_⟩
          · simp only; rw [List.getElem?_set, if_neg haw]; exact ha1
          · simp only [List.length_append, List.length_cons, List.length_nil] at hm1 ⊢; omega
          · simp only
            rw [List.getElem?_set]
            by_cases e : w = u
            · rw [if_pos e, if_pos hwl]; exact ⟨_, rfl, by omega, by omega⟩
            · rw [if_neg e]
              by_cases ej : j = i
              · subst ej; rw [gl] at hju; cases hju; exact (e rfl).elim
              · exact hc1 j u (by omega) hju
        · rw [decide_eq_false cy, if_neg (by decide)]
          refine ⟨_, rfl, q3, rfl, hb1, ha1, hm1, fun j u hj hju => ?_⟩
          by_cases ej : j = i
          · subst ej
            rw [gl] at hju
            have : w = u := by have := bK hju; omega
            subst this
            refine ⟨y, gw, by omega, ?_⟩
            have := hb1.top w y (a : Int) gw rfl
            rw [gJ ha1] at this; exact this
          · exact hc1 j u (by omega) hju)
      simp only at hq2 hb2 ha2 hm2 hcl
      subst hq2
      obtain ⟨p1, p2⟩ := Aq hb2 ha2 fun w hN => by
        obtain ⟨j, hj⟩ := List.getElem?_of_mem (hG.inn a l w gG hN)
        have hjl := (List.getElem?_eq_some_iff.1 hj).1
        exact hcl j w hjl hj
      have hcut : d8 ((a : Int) :: q3) 1 ((((a : Int) :: q3).length : Nat) : Int) = some q3 := by
        unfold d8
        rw [if_pos ⟨by decide, by simp; omega, Int.le_refl _⟩]
        simp
      refine .inl ⟨(D2, q3), ?_, p1, ?_⟩
      · simp only [nF, c, if_true, g0, Option.bind_some, bZ, gG, e2, hcut]
      · simp only [List.length_cons] at hm2 ⊢; omega) cX (_, [(s : Int)]) b0 (by simp only [List.length_cons, List.length_nil]; omega)
  rw [e]
  exact ⟨D, rfl, hQ⟩
end Go.AM
end
section
set_option linter.unusedVariables false
set_option linter.unusedSimpArgs false
namespace Go.AM
open Go
structure Nx (N : Nat → Nat → Prop) (D : List Int) (d v k : Nat) : Prop where
  nb : N v k
  at_ : D[k]? = some (d : Int)
  le : ∀ j, N v j → D[j]? = some (d : Int) → k ≤ j
inductive fm (N : Nat → Nat → Prop) (D : List Int) : Nat → Nat → List Int → Prop
  | done (v : Nat) : fm N D 0 v []
  | step {d v k : Nat} {l : List Int} : Nx N D d v k → fm N D d k l → fm N D (d + 1) v ((k : Int) :: l)
theorem fm.len {N : Nat → Nat → Prop} {D : List Int} {d v : Nat} {l : List Int} (h : fm N D d v l) : l.length = d := by
  induction h with
  | done => rfl
  | step _ _ ih => simp [ih]
theorem Nx.uniq {N : Nat → Nat → Prop} {D : List Int} {d v k j : Nat} (h : Nx N D d v k) (g : Nx N D d v j) : k = j :=
  Nat.le_antisymm (h.le j g.nb g.at_) (g.le k h.nb h.at_)
theorem Nx.ex {N : Nat → Nat → Prop} {n b : Nat} {D : List Int} (hs : ∀ a b, N a b → N b a) (hn : ∀ a b, N a b → a < n ∧ b < n) (hD : Ds N n b D) {d v : Nat} (hv : D[v]? = some ((d + 1 : Nat) : Int)) : ∃ k, Nx N D d v k := by
  have h := hD.2 v _ hv
  push_cast at h
  obtain ⟨u, hu, hd⟩ := h.back
  have hu' : D[u]? = some (d : Int) := by
    obtain ⟨e, h1, h2⟩ := hD.get (hn _ _ hu).1
    rw [h1, h2.uniq hd]
  have key : ∀ m, (∃ k, k ≤ m ∧ N v k ∧ D[k]? = some (d : Int)) → ∃ k, Nx N D d v k := by
    intro m
    induction m with
    | zero =>
      rintro ⟨k, h1, h2, h3⟩
      exact ⟨k, h2, h3, fun j _ _ => by omega⟩
    | succ m ih =>
      rintro ⟨k, h1, h2, h3⟩
      by_cases e : ∃ k, k ≤ m ∧ N v k ∧ D[k]? = some (d : Int)
      · exact ih e
      · exact ⟨k, h2, h3, fun j g1 g2 => Nat.le_of_not_lt fun hj => e ⟨j, by omega, g1, g2⟩⟩
  exact key u ⟨u, Nat.le_refl _, hs _ _ hu, hu'⟩
theorem fm.ex {N : Nat → Nat → Prop} {n b : Nat} {D : List Int} (hs : ∀ a b, N a b → N b a) (hn : ∀ a b, N a b → a < n ∧ b < n) (hD : Ds N n b D) : ∀ (d v : Nat), D[v]? = some (d : Int) → ∃ l, fm N D d v l
  | 0, v, _ => ⟨[], .done v⟩
  | d + 1, v, hv => by
    obtain ⟨k, hk⟩ := Nx.ex hs hn hD hv
    obtain ⟨l, hl⟩ := fm.ex hs hn hD d k hk.at_
    exact ⟨_, .step hk hl⟩
theorem At {l : List Int} {f : Int → Option Bool} {p : Int → Bool} (h : ∀ x ∈ l, f x = some (p x)) {x : Int} (hx : x ∈ l) (hp : p x = true) (hf : ∀ y ∈ l, p y = true → x ≤ y) (ho : l.Pairwise (· < ·)) : ∃ i, nJ l f = some i ∧ bd l i = some x := by
  unfold nJ
  rw [ms _ (fun pre y _ => if p y then some (pre.length : Int) else none) l (fun pre y r e => by
    have hm : y ∈ l := by rw [e]; simp
    simp only [tZ, oB e, Option.bind_some, h y hm]
    by_cases c : p y = true
    · simp only [c, if_true]; rfl
    · simp only [c, if_false]; rfl)]
  cases hr : eP (fun pre y _ => if p y then some (pre.length : Int) else none) [] l with
  | none =>
    exfalso
    obtain ⟨k, hk⟩ := List.getElem?_of_mem hx
    have := oD _ _ hr k x hk
    rw [if_pos hp] at this
    cases this
  | some i =>
    obtain ⟨k, y, h1, h2, h3⟩ := oE _ _ hr
    have hk := (List.getElem?_eq_some_iff.1 h1).1
    by_cases c : p y = true
    · rw [if_pos c] at h2
      have e2 : (([] : List Int) ++ l.take k).length = k := by simp; omega
      rw [e2] at h2
      cases h2
      refine ⟨(k : Int), rfl, ?_⟩
      rw [bZ, h1]
      have hxy := hf y (c9 h1) c
      obtain ⟨j, hj⟩ := List.getElem?_of_mem hx
      have hjl := (List.getElem?_eq_some_iff.1 hj).1
      by_cases e : j = k
      · subst e; rw [h1] at hj; exact hj
      · by_cases e3 : j < k
        · have := h3 j x e3 hj
          rw [if_pos hp] at this; cases this
        · have := (List.pairwise_iff_getElem.1 ho) k j hk hjl (by omega)
          rw [(List.getElem?_eq_some_iff.1 h1).2, (List.getElem?_eq_some_iff.1 hj).2] at this
          omega
    · rw [if_neg c] at h2; cases h2
section
variable {t : api_Topo}
theorem Au {G : List (List Int)} {D : List Int} {a b : Nat} (wf : Wf t) (hG : Nb (cH t (-1)) t.Switches.length G) (hD : Ds (cH t (-1)) t.Switches.length b D) {d : Nat} {l : List Int} (hw : fm (cH t (-1)) D d a l) (ha : D[a]? = some (d : Int)) (hd : d ≤ 1000) :
    ∃ z, ig (lZ (b : Int) G D) cX ([(a : Int)], (a : Int)) = some ((a : Int) :: l, z) := by
  obtain ⟨FK, hFK⟩ := lT 2000 (by omega)
  have hl := hw.len
  have hb : b < t.Switches.length → D[b]? = some 0 := fun hb => by
    obtain ⟨e, h1, h2⟩ := hD.get hb
    rw [h1, h2.uniq (rt b)]
  obtain ⟨⟨z, zz⟩, e, hz⟩ := oA (f := lZ (b : Int) G D) (fun st => ∃ (v d : Nat) (l2 : List Int), st.2 = (v : Int) ∧ D[v]? = some (d : Int) ∧ fm (cH t (-1)) D d v l2 ∧ st.1 ++ l2 = (a : Int) :: l) (fun st => st.1 = (a : Int) :: l) (fun st => (((D[st.2.toNat]?).getD 0).toNat)) (fun ⟨acc, at_⟩ ⟨v, d, l2, h1, h2, h3, h4⟩ => by
    simp only at h1 h4
    subst h1
    cases h3 with
    | done =>
      have : v = b := ((hD.2 v _ h2).zero).symm
      subst this
      refine .inr ⟨(acc, (v : Int)), ?_, by simpa using h4⟩
      simp only [lZ]
      simp
    | @step d v k l2 hk h3 =>
      have hvb : ¬ v = b := by
        intro e; subst e
        have := (hD.2 v _ h2).uniq (rt v)
        omega
      have hc : ((v : Int) != (b : Int)) = true := by simp; omega
      obtain ⟨hvn, hkn⟩ := gI hk.nb
      have hvG : v < G.length := by rw [hG.len]; exact hvn
      have gG : G[v]? = some G[v] := bO hvG
      generalize G[v] = nb at gG
      have hdl : d ≤ 1000 := by
        have := h3.len
        have h5 := congrArg List.length h4
        simp at h5; omega
      have w64 : IntKind.i64.wrap (((d + 1 : Nat) : Int) - 1) = d := by rw [k4 (by omega) (by omega)]; omega
      obtain ⟨i, hi, hgi⟩ := At (l := nb) (f := fun y => nH y D (v : Int)) (p := fun y => dv D y == (d : Int)) (x := (k : Int)) (fun y hy => by
        obtain ⟨u, rfl, hu⟩ := hG.out v nb y gG hy
        obtain ⟨e, g1, _⟩ := hD.get (gI hu).2
        simp only [nH, bZ, g1, h2, Option.bind_some, w64, gJ g1]) (hG.inn v nb k gG hk.nb) (by rw [gJ hk.at_]; simp) (fun y hy hp => by
        obtain ⟨u, rfl, hu⟩ := hG.out v nb y gG hy
        obtain ⟨e, g1, _⟩ := hD.get (gI hu).2
        rw [gJ g1] at hp
        have := hk.le u hu (by rw [g1]; congr 1; simpa using hp)
        omega) (hG.ord v nb gG)
      refine .inl ⟨(acc ++ [(k : Int)], (k : Int)), ?_, ⟨k, d, l2, rfl, hk.at_, h3, by rw [← h4]; simp⟩, ?_⟩
      · simp only [lZ, hc, if_true, bZ, gG, Option.bind_some, hi, hgi]
        have h5 := congrArg List.length h4
        simp at h5
        rw [dM (by simp; omega)]; rfl
      · simp only [Int.toNat_natCast, h2, hk.at_, Option.getD_some]; omega) cX ([(a : Int)], (a : Int)) ⟨a, d, l, rfl, ha, hw, by simp⟩ (by simp only [Int.toNat_natCast, ha, Option.getD_some]; omega)
  simp only at hz
  subst hz
  exact ⟨zz, e⟩
theorem Av {D : List Int} {a b : Nat} (wf : Wf t) (hbn : b < t.Switches.length) (hD : Ds (cH t (-1)) t.Switches.length b D) {d : Nat} {l : List Int} (hw : fm (cH t (-1)) D d a l) (ha : D[a]? = some (d : Int)) (hd : d ≤ 1000) :
    ∃ y z, ig (mj t (b : Int)) cX ((d : Int), [(a : Int)], (a : Int)) = some (y, (a : Int) :: l, z) := by
  obtain ⟨FK, hFK⟩ := lT 2000 (by omega)
  have hl := hw.len
  obtain ⟨⟨y, z, zz⟩, e, hz⟩ := oA (f := mj t (b : Int)) (fun st => ∃ (v d : Nat) (l2 : List Int), st.1 = (d : Int) ∧ st.2.2 = (v : Int) ∧ D[v]? = some (d : Int) ∧ fm (cH t (-1)) D d v l2 ∧ st.2.1 ++ l2 = (a : Int) :: l) (fun st => st.2.1 = (a : Int) :: l) (fun st => st.1.toNat) (fun ⟨dd, acc, at_⟩ ⟨v, d, l2, h0, h1, h2, h3, h4⟩ => by
    simp only at h0 h1 h4
    subst h1; subst h0
    cases h3 with
    | done =>
      have : v = b := ((hD.2 v _ h2).zero).symm
      subst this
      refine .inr ⟨(((0 : Nat) : Int), acc, (v : Int)), ?_, by simpa using h4⟩
      simp only [mj]
      simp
    | @step d v k l2 hk h3 =>
      have hvb : ¬ v = b := by
        intro e; subst e
        have := (hD.2 v _ h2).uniq (rt v)
        omega
      have hc : ((v : Int) != (b : Int)) = true := by simp; omega
      obtain ⟨hvn, hkn⟩ := gI hk.nb
      have hdl : d ≤ 1000 := by
        have := h3.len
        have h5 := congrArg List.length h4
        simp at h5; omega
      have w64 : IntKind.i64.wrap (((d + 1 : Nat) : Int) - 1) = d := by rw [k4 (by omega) (by omega)]; omega
      have h5 := congrArg List.length h4
      simp at h5
      have hfk := vd (oh t (b : Int) ((d + 1 : Nat) : Int)) (fun j st => st = (acc, (v : Int)) ∧ j ≤ k) (fun st => st = (acc ++ [(k : Int)], (k : Int))) t.Switches.length 0 (acc, (v : Int)) ⟨rfl, Nat.zero_le _⟩ (fun j st _ hj ⟨hst, hjk⟩ => by
        subst hst
        have hjn : j < t.Switches.length := by omega
        obtain ⟨r, hr, hrn⟩ := vo t (-1) v j
        obtain ⟨e, he, hde⟩ := vq wf (-1) hjn hbn
        have hDj : D[j]? = some e := by
          obtain ⟨e', g1, g2⟩ := hD.get hjn
          rw [g1, g2.uniq (hde.rev ru)]
        simp only [oh, hr, Option.bind_some, he, w64]
        by_cases ej : j = k
        · subst ej
          have : r = true := hrn.2 hk.nb
          subst this
          have : e = (d : Int) := by have := hk.at_; rw [hDj] at this; exact bK this
          subst this
          simp only [if_true, Option.bind_some, beq_self_eq_true]
          rw [dM (by simp; omega)]
          exact .inr ⟨_, rfl, rfl⟩
        · have nope : ¬ (r = true ∧ e = (d : Int)) := by
            rintro ⟨g1, g2⟩
            have := hk.le j (hrn.1 g1) (by rw [hDj, g2])
            omega
          refine .inl ⟨(acc, (v : Int)), ?_, rfl, by omega⟩
          cases r with
          | false => simp
          | true =>
            have : (e == (d : Int)) = false := by
              simp only [beq_eq_false_iff_ne]; intro g; exact nope ⟨rfl, g⟩
            simp [this])
      obtain ⟨st, e1, hst⟩ := hfk
      have hst' : st = (acc ++ [(k : Int)], (k : Int)) := by
        rcases hst with ⟨_, hh⟩ | hh
        · omega
        · exact hh
      subst hst'
      have e1 : lM (oh t (b : Int) ((d + 1 : Nat) : Int)) (bx 0 (t.Switches.length : Int)) (acc, (v : Int)) = some (acc ++ [(k : Int)], (k : Int)) := by simpa using e1
      refine .inl ⟨((d : Int), acc ++ [(k : Int)], (k : Int)), ?_, ⟨k, d, l2, rfl, rfl, hk.at_, h3, by rw [← h4]; simp⟩, by simp only; omega⟩
      simp only [mj, hc, if_true, e1, Option.bind_some, w64]) cX ((d : Int), [(a : Int)], (a : Int)) ⟨a, d, l, rfl, rfl, ha, hw, by simp⟩ (by simp only [Int.toNat_natCast]; omega)
  simp only at hz
  subst hz
  exact ⟨y, zz, e⟩
theorem vr {G : List (List Int)} {n a : Nat} (h : G.length = n) (ha : a < n) : jd G (a : Int) = some true := by
  unfold jd; simp [h]; omega
theorem Aw (wf : Wf t) {a b : Nat} (ha : a < t.Switches.length) (hb : b < t.Switches.length) : ∃ d, dw (cH t (-1)) a b d ∧
    ((d = -1 ∧ jX t a b = some ([], false) ∧ qD t a b = some ([], false)) ∨
      ∃ (k : Nat) (D l : List Int), d = k ∧ Ds (cH t (-1)) t.Switches.length b D ∧ D[a]? = some (k : Int) ∧ fm (cH t (-1)) D k a l ∧ jX t a b = some ((a : Int) :: l, true) ∧ qD t a b = some ((a : Int) :: l, true)) := by
  obtain ⟨G, eG, hG⟩ := Ak wf (-1)
  obtain ⟨D, eD, hD⟩ := As wf hG hb
  obtain ⟨d, h1, h2⟩ := hD.get ha
  have h3 := h2.rev ru
  obtain ⟨d', r1, r2⟩ := vq wf (-1) ha hb
  have : d' = d := r2.uniq h3
  subst this
  have lt := h3.lt (fun a b h => gI h) ha
  have wn := wf.sw
  refine ⟨d', h3, ?_⟩
  unfold jX qD
  simp only [eG, vr hG.len ha, vr hG.len hb, Option.bind_some, Bool.not_true, Bool.false_eq_true, if_false, eD, bZ, h1, r1]
  by_cases c : d' < 0
  · have := h3.ge
    left
    refine ⟨by omega, ?_, ?_⟩
    · rw [decide_eq_true c, if_pos rfl]
    · rw [decide_eq_true c, if_pos rfl]
  · right
    obtain ⟨k, rfl⟩ := Int.eq_ofNat_of_zero_le (Int.not_lt.1 c)
    obtain ⟨l, hl⟩ := fm.ex ru (fun a b h => gI h) hD k a h1
    obtain ⟨z, e1⟩ := Au wf hG hD hl h1 (by omega)
    obtain ⟨y, z', e2⟩ := Av wf hb hD hl h1 (by omega)
    refine ⟨k, D, l, rfl, hD, h1, hl, ?_, ?_⟩
    · rw [decide_eq_false c, if_neg (by decide), e1]; rfl
    · rw [decide_eq_false c, if_neg (by decide)]
      rw [e2]; rfl
end
end Go.AM
end
