import Derived.Test.YtfjelgjfbjjopaaGR6
set_option linter.unusedVariables false
set_option linter.unusedSimpArgs false
namespace Go.AM
open Go
structure Nx (N : Nat → Nat → Prop) (D : List Int) (d v k : Nat) : Prop where
  nb : N v k
  at_ : D[k]? = some (d : Int)
  le : ∀ j, N v j → D[j]? = some (d : Int) → k ≤ j
inductive dy (N : Nat → Nat → Prop) (D : List Int) : Nat → Nat → List Int → Prop
  | done (v : Nat) : dy N D 0 v []
  | step {d v k : Nat} {l : List Int} : Nx N D d v k → dy N D d k l → dy N D (d + 1) v ((k : Int) :: l)
theorem dy.len {N : Nat → Nat → Prop} {D : List Int} {d v : Nat} {l : List Int} (h : dy N D d v l) : l.length = d := by
  induction h with
  | done => rfl
  | step _ _ ih => simp [ih]
theorem Nx.uniq {N : Nat → Nat → Prop} {D : List Int} {d v k j : Nat} (h : Nx N D d v k) (g : Nx N D d v j) : k = j :=
  Nat.le_antisymm (h.le j g.nb g.at_) (g.le k h.nb h.at_)
theorem Nx.ex {N : Nat → Nat → Prop} {n b : Nat} {D : List Int} (hs : ∀ a b, N a b → N b a) (hn : ∀ a b, N a b → a < n ∧ b < n) (hD : Ds N n b D) {d v : Nat} (hv : D[v]? = some ((d + 1 : Nat) : Int)) : ∃ k, Nx N D d v k := by
  have h := hD.2 v _ hv
  push_cast at h
  obtain ⟨u, hu, hd⟩ := h.back
  have hu' : D[u]? = some (d : Int) := by
    obtain ⟨e, h1, h2⟩ := hD.get (hn _ _ hu).1
    rw [h1, h2.uniq hd]
  have key : ∀ m, (∃ k, k ≤ m ∧ N v k ∧ D[k]? = some (d : Int)) → ∃ k, Nx N D d v k := by
    intro m
    induction m with
    | zero =>
      rintro ⟨k, h1, h2, h3⟩
      exact ⟨k, h2, h3, fun j _ _ => by omega⟩
    | succ m ih =>
      rintro ⟨k, h1, h2, h3⟩
      by_cases e : ∃ k, k ≤ m ∧ N v k ∧ D[k]? = some (d : Int)
      · exact ih e
      · exact ⟨k, h2, h3, fun j g1 g2 => Nat.le_of_not_lt fun hj => e ⟨j, by omega, g1, g2⟩⟩
  exact key u ⟨u, Nat.le_refl _, hs _ _ hu, hu'⟩
theorem dy.ex {N : Nat → Nat → Prop} {n b : Nat} {D : List Int} (hs : ∀ a b, N a b → N b a) (hn : ∀ a b, N a b → a < n ∧ b < n) (hD : Ds N n b D) : ∀ (d v : Nat), D[v]? = some (d : Int) → ∃ l, dy N D d v l
  | 0, v, _ => ⟨[], .done v⟩
  | d + 1, v, hv => by
    obtain ⟨k, hk⟩ := Nx.ex hs hn hD hv
    obtain ⟨l, hl⟩ := dy.ex hs hn hD d k hk.at_
    exact ⟨_, .step hk hl⟩
theorem sn {l : List Int} {f : Int → Option Bool} {p : Int → Bool} (h : ∀ x ∈ l, f x = some (p x)) {x : Int} (hx : x ∈ l) (hp : p x = true) (hf : ∀ y ∈ l, p y = true → x ≤ y) (ho : l.Pairwise (· < ·)) : ∃ i, jo l f = some i ∧ aQ l i = some x := by
  unfold jo
  rw [hY _ (fun pre y _ => if p y then some (pre.length : Int) else none) l (fun pre y r e => by
    have hm : y ∈ l := by rw [e]; simp
    simp only [mz, i6 e, Option.bind_some, h y hm]
    by_cases c : p y = true
    · simp only [c, if_true]; rfl
    · simp only [c, if_false]; rfl)]
  cases hr : cB (fun pre y _ => if p y then some (pre.length : Int) else none) [] l with
  | none =>
    exfalso
    obtain ⟨k, hk⟩ := List.getElem?_of_mem hx
    have := j8 _ _ hr k x hk
    rw [if_pos hp] at this
    cases this
  | some i =>
    obtain ⟨k, y, h1, h2, h3⟩ := lZ _ _ hr
    have hk := (List.getElem?_eq_some_iff.1 h1).1
    by_cases c : p y = true
    · rw [if_pos c] at h2
      have e2 : (([] : List Int) ++ l.take k).length = k := by simp; omega
      rw [e2] at h2
      cases h2
      refine ⟨(k : Int), rfl, ?_⟩
      rw [b8, h1]
      have hxy := hf y (dq h1) c
      obtain ⟨j, hj⟩ := List.getElem?_of_mem hx
      have hjl := (List.getElem?_eq_some_iff.1 hj).1
      by_cases e : j = k
      · subst e; rw [h1] at hj; exact hj
      · by_cases e3 : j < k
        · have := h3 j x e3 hj
          rw [if_pos hp] at this; cases this
        · have := (List.pairwise_iff_getElem.1 ho) k j hk hjl (by omega)
          rw [(List.getElem?_eq_some_iff.1 h1).2, (List.getElem?_eq_some_iff.1 hj).2] at this
          omega
    · rw [if_neg c] at h2; cases h2
section
variable {t : api_Topo}
theorem sp {G : List (List Int)} {D : List Int} {a b : Nat} (wf : Wf t) (hG : Nb (bJ t (-1)) t.Switches.length G) (hD : Ds (bJ t (-1)) t.Switches.length b D) {d : Nat} {l : List Int} (hw : dy (bJ t (-1)) D d a l) (ha : D[a]? = some (d : Int)) (hd : d ≤ 1000) :
    ∃ z, eX (iw (b : Int) G D) eb ([(a : Int)], (a : Int)) = some ((a : Int) :: l, z) := by
  obtain ⟨FK, hFK⟩ := lQ 2000 (by omega)
  have hl := hw.len
  have hb : b < t.Switches.length → D[b]? = some 0 := fun hb => by
    obtain ⟨e, h1, h2⟩ := hD.get hb
    rw [h1, h2.uniq (j6 b)]
  obtain ⟨⟨z, zz⟩, e, hz⟩ := j5 (f := iw (b : Int) G D) (fun st => ∃ (v d : Nat) (l2 : List Int), st.2 = (v : Int) ∧ D[v]? = some (d : Int) ∧ dy (bJ t (-1)) D d v l2 ∧ st.1 ++ l2 = (a : Int) :: l) (fun st => st.1 = (a : Int) :: l) (fun st => (((D[st.2.toNat]?).getD 0).toNat)) (fun ⟨acc, at_⟩ ⟨v, d, l2, h1, h2, h3, h4⟩ => by
    simp only at h1 h4
    subst h1
    cases h3 with
    | done =>
      have : v = b := ((hD.2 v _ h2).zero).symm
      subst this
      refine .inr ⟨(acc, (v : Int)), ?_, by simpa using h4⟩
      simp only [iw]
      simp
    | @step d v k l2 hk h3 =>
      have hvb : ¬ v = b := by
        intro e; subst e
        have := (hD.2 v _ h2).uniq (j6 v)
        omega
      have hc : ((v : Int) != (b : Int)) = true := by simp; omega
      obtain ⟨hvn, hkn⟩ := dR hk.nb
      have hvG : v < G.length := by rw [hG.len]; exact hvn
      have gG : G[v]? = some G[v] := bf hvG
      generalize G[v] = nb at gG
      have hdl : d ≤ 1000 := by
        have := h3.len
        have h5 := congrArg List.length h4
        simp at h5; omega
      have w64 : IntKind.i64.wrap (((d + 1 : Nat) : Int) - 1) = d := by rw [eH (by omega) (by omega)]; omega
      obtain ⟨i, hi, hgi⟩ := sn (l := nb) (f := fun y => jn y D (v : Int)) (p := fun y => dv D y == (d : Int)) (x := (k : Int)) (fun y hy => by
        obtain ⟨u, rfl, hu⟩ := hG.out v nb y gG hy
        obtain ⟨e, g1, _⟩ := hD.get (dR hu).2
        simp only [jn, b8, g1, h2, Option.bind_some, w64, eI g1]) (hG.inn v nb k gG hk.nb) (by rw [eI hk.at_]; simp) (fun y hy hp => by
        obtain ⟨u, rfl, hu⟩ := hG.out v nb y gG hy
        obtain ⟨e, g1, _⟩ := hD.get (dR hu).2
        rw [eI g1] at hp
        have := hk.le u hu (by rw [g1]; congr 1; simpa using hp)
        omega) (hG.ord v nb gG)
      refine .inl ⟨(acc ++ [(k : Int)], (k : Int)), ?_, ⟨k, d, l2, rfl, hk.at_, h3, by rw [← h4]; simp⟩, ?_⟩
      · simp only [iw, hc, if_true, b8, gG, Option.bind_some, hi, hgi]
        have h5 := congrArg List.length h4
        simp at h5
        rw [iZ (by simp; omega)]; rfl
      · simp only [Int.toNat_natCast, h2, hk.at_, Option.getD_some]; omega) eb ([(a : Int)], (a : Int)) ⟨a, d, l, rfl, ha, hw, by simp⟩ (by simp only [Int.toNat_natCast, ha, Option.getD_some]; omega)
  simp only at hz
  subst hz
  exact ⟨zz, e⟩
theorem sq {D : List Int} {a b : Nat} (wf : Wf t) (hbn : b < t.Switches.length) (hD : Ds (bJ t (-1)) t.Switches.length b D) {d : Nat} {l : List Int} (hw : dy (bJ t (-1)) D d a l) (ha : D[a]? = some (d : Int)) (hd : d ≤ 1000) :
    ∃ y z, eX (iz t (b : Int)) eb ((d : Int), [(a : Int)], (a : Int)) = some (y, (a : Int) :: l, z) := by
  obtain ⟨FK, hFK⟩ := lQ 2000 (by omega)
  have hl := hw.len
  obtain ⟨⟨y, z, zz⟩, e, hz⟩ := j5 (f := iz t (b : Int)) (fun st => ∃ (v d : Nat) (l2 : List Int), st.1 = (d : Int) ∧ st.2.2 = (v : Int) ∧ D[v]? = some (d : Int) ∧ dy (bJ t (-1)) D d v l2 ∧ st.2.1 ++ l2 = (a : Int) :: l) (fun st => st.2.1 = (a : Int) :: l) (fun st => st.1.toNat) (fun ⟨dd, acc, at_⟩ ⟨v, d, l2, h0, h1, h2, h3, h4⟩ => by
    simp only at h0 h1 h4
    subst h1; subst h0
    cases h3 with
    | done =>
      have : v = b := ((hD.2 v _ h2).zero).symm
      subst this
      refine .inr ⟨(((0 : Nat) : Int), acc, (v : Int)), ?_, by simpa using h4⟩
      simp only [iz]
      simp
    | @step d v k l2 hk h3 =>
      have hvb : ¬ v = b := by
        intro e; subst e
        have := (hD.2 v _ h2).uniq (j6 v)
        omega
      have hc : ((v : Int) != (b : Int)) = true := by simp; omega
      obtain ⟨hvn, hkn⟩ := dR hk.nb
      have hdl : d ≤ 1000 := by
        have := h3.len
        have h5 := congrArg List.length h4
        simp at h5; omega
      have w64 : IntKind.i64.wrap (((d + 1 : Nat) : Int) - 1) = d := by rw [eH (by omega) (by omega)]; omega
      have h5 := congrArg List.length h4
      simp at h5
      have hfk := oR (ju t (b : Int) ((d + 1 : Nat) : Int)) (fun j st => st = (acc, (v : Int)) ∧ j ≤ k) (fun st => st = (acc ++ [(k : Int)], (k : Int))) t.Switches.length 0 (acc, (v : Int)) ⟨rfl, Nat.zero_le _⟩ (fun j st _ hj ⟨hst, hjk⟩ => by
        subst hst
        have hjn : j < t.Switches.length := by omega
        obtain ⟨r, hr, hrn⟩ := oW t (-1) v j
        obtain ⟨e, he, hde⟩ := oY wf (-1) hjn hbn
        have hDj : D[j]? = some e := by
          obtain ⟨e', g1, g2⟩ := hD.get hjn
          rw [g1, g2.uniq (hde.rev fN)]
        simp only [ju, hr, Option.bind_some, he, w64]
        by_cases ej : j = k
        · subst ej
          have : r = true := hrn.2 hk.nb
          subst this
          have : e = (d : Int) := by have := hk.at_; rw [hDj] at this; exact aE this
          subst this
          simp only [if_true, Option.bind_some, beq_self_eq_true]
          rw [iZ (by simp; omega)]
          exact .inr ⟨_, rfl, rfl⟩
        · have nope : ¬ (r = true ∧ e = (d : Int)) := by
            rintro ⟨g1, g2⟩
            have := hk.le j (hrn.1 g1) (by rw [hDj, g2])
            omega
          refine .inl ⟨(acc, (v : Int)), ?_, rfl, by omega⟩
          cases r with
          | false => simp
          | true =>
            have : (e == (d : Int)) = false := by
              simp only [beq_eq_false_iff_ne]; intro g; exact nope ⟨rfl, g⟩
            simp [this])
      obtain ⟨st, e1, hst⟩ := hfk
      have hst' : st = (acc ++ [(k : Int)], (k : Int)) := by
        rcases hst with ⟨_, hh⟩ | hh
        · omega
        · exact hh
      subst hst'
      have e1 : ir (ju t (b : Int) ((d + 1 : Nat) : Int)) (be 0 (t.Switches.length : Int)) (acc, (v : Int)) = some (acc ++ [(k : Int)], (k : Int)) := by simpa using e1
      refine .inl ⟨((d : Int), acc ++ [(k : Int)], (k : Int)), ?_, ⟨k, d, l2, rfl, rfl, hk.at_, h3, by rw [← h4]; simp⟩, by simp only; omega⟩
      simp only [iz, hc, if_true, e1, Option.bind_some, w64]) eb ((d : Int), [(a : Int)], (a : Int)) ⟨a, d, l, rfl, rfl, ha, hw, by simp⟩ (by simp only [Int.toNat_natCast]; omega)
  simp only at hz
  subst hz
  exact ⟨y, zz, e⟩
theorem jb {G : List (List Int)} {n a : Nat} (h : G.length = n) (ha : a < n) : eJ G (a : Int) = some true := by
  unfold eJ; simp [h]; omega
theorem sr (wf : Wf t) {a b : Nat} (ha : a < t.Switches.length) (hb : b < t.Switches.length) : ∃ d, b4 (bJ t (-1)) a b d ∧
    ((d = -1 ∧ gJ t a b = some ([], false) ∧ kB t a b = some ([], false)) ∨
      ∃ (k : Nat) (D l : List Int), d = k ∧ Ds (bJ t (-1)) t.Switches.length b D ∧ D[a]? = some (k : Int) ∧ dy (bJ t (-1)) D k a l ∧ gJ t a b = some ((a : Int) :: l, true) ∧ kB t a b = some ((a : Int) :: l, true)) := by
  obtain ⟨G, eG, hG⟩ := j9 wf (-1)
  obtain ⟨D, eD, hD⟩ := mc wf hG hb
  obtain ⟨d, h1, h2⟩ := hD.get ha
  have h3 := h2.rev fN
  obtain ⟨d', r1, r2⟩ := oY wf (-1) ha hb
  have : d' = d := r2.uniq h3
  subst this
  have lt := h3.lt (fun a b h => dR h) ha
  have wn := wf.sw
  refine ⟨d', h3, ?_⟩
  unfold gJ kB
  simp only [eG, jb hG.len ha, jb hG.len hb, Option.bind_some, Bool.not_true, Bool.false_eq_true, if_false, eD, b8, h1, r1]
  by_cases c : d' < 0
  · have := h3.ge
    left
    refine ⟨by omega, ?_, ?_⟩
    · rw [decide_eq_true c, if_pos rfl]
    · rw [decide_eq_true c, if_pos rfl]
  · right
    obtain ⟨k, rfl⟩ := Int.eq_ofNat_of_zero_le (Int.not_lt.1 c)
    obtain ⟨l, hl⟩ := dy.ex fN (fun a b h => dR h) hD k a h1
    obtain ⟨z, e1⟩ := sp wf hG hD hl h1 (by omega)
    obtain ⟨y, z', e2⟩ := sq wf hb hD hl h1 (by omega)
    refine ⟨k, D, l, rfl, hD, h1, hl, ?_, ?_⟩
    · rw [decide_eq_false c, if_neg (by decide), e1]; rfl
    · rw [decide_eq_false c, if_neg (by decide)]
      rw [e2]; rfl
theorem jc (wf : Wf t) {a b : Nat} (ha : a < t.Switches.length) (hb : b < t.Switches.length) : ∃ d, fk t a b = some d ∧ b4 (bJ t (-1)) a b d := by
  obtain ⟨G, eG, hG⟩ := j9 wf (-1)
  obtain ⟨D, eD, hD⟩ := mc wf hG ha
  obtain ⟨d, h1, h2⟩ := hD.get hb
  refine ⟨d, ?_, h2⟩
  unfold fk
  simp only [eG, jb hG.len ha, jb hG.len hb, Option.bind_some, Bool.not_true, Bool.false_eq_true, if_false, eD, b8, h1]
end
end Go.AM
