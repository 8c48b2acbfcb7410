import Derived.Test.YtfjelgjfbjjopaaGR6
import Derived.Test.YtfjelgjfbjjopaaGrT
/-  Several texts in one. -/
section
set_option linter.unusedVariables false
set_option linter.unusedSimpArgs false
namespace Go.AM
open Go
structure Nx (N : Nat → Nat → Prop) (D : List Int) (d v k : Nat) : Prop where
  nb : N v k
  at_ : D[k]? = some (d : Int)
  le : ∀ j, N v j → D[j]? = some (d : Int) → k ≤ j
inductive dC (N : Nat → Nat → Prop) (D : List Int) : Nat → Nat → List Int → Prop
  | done (v : Nat) : dC N D 0 v []
  | step {d v k : Nat} {l : List Int} : Nx N D d v k → dC N D d k l → dC N D (d + 1) v ((k : Int) :: l)
theorem dC.len {N : Nat → Nat → Prop} {D : List Int} {d v : Nat} {l : List Int} (h : dC N D d v l) : l.length = d := by
  induction h with
  | done => rfl
  | step _ _ ih => simp [ih]
theorem Nx.uniq {N : Nat → Nat → Prop} {D : List Int} {d v k j : Nat} (h : Nx N D d v k) (g : Nx N D d v j) : k = j :=
  Nat.le_antisymm (h.le j g.nb g.at_) (g.le k h.nb h.at_)
theorem Nx.ex {N : Nat → Nat → Prop} {n b : Nat} {D : List Int} (hs : ∀ a b, N a b → N b a) (hn : ∀ a b, N a b → a < n ∧ b < n) (hD : Ds N n b D) {d v : Nat} (hv : D[v]? = some ((d + 1 : Nat) : Int)) : ∃ k, Nx N D d v k := by
  have h := hD.2 v _ hv
  push_cast at h
  obtain ⟨u, hu, hd⟩ := h.back
  have hu' : D[u]? = some (d : Int) := by
    obtain ⟨e, h1, h2⟩ := hD.get (hn _ _ hu).1
    rw [h1, h2.uniq hd]
  have key : ∀ m, (∃ k, k ≤ m ∧ N v k ∧ D[k]? = some (d : Int)) → ∃ k, Nx N D d v k := by
    intro m
    induction m with
    | zero =>
      rintro ⟨k, h1, h2, h3⟩
      exact ⟨k, h2, h3, fun j _ _ => by omega⟩
    | succ m ih =>
      rintro ⟨k, h1, h2, h3⟩
      by_cases e : ∃ k, k ≤ m ∧ N v k ∧ D[k]? = some (d : Int)
      · exact ih e
      · exact ⟨k, h2, h3, fun j g1 g2 => Nat.le_of_not_lt fun hj => e ⟨j, by omega, g1, g2⟩⟩
  exact key u ⟨u, Nat.le_refl _, hs _ _ hu, hu'⟩
theorem dC.ex {N : Nat → Nat → Prop} {n b : Nat} {D : List Int} (hs : ∀ a b, N a b → N b a) (hn : ∀ a b, N a b → a < n ∧ b < n) (hD : Ds N n b D) : ∀ (d v : Nat), D[v]? = some (d : Int) → ∃ l, dC N D d v l
  | 0, v, _ => ⟨[], .done v⟩
  | d + 1, v, hv => by
    obtain ⟨k, hk⟩ := Nx.ex hs hn hD hv
    obtain ⟨l, hl⟩ := dC.ex hs hn hD d k hk.at_
    exact ⟨_, .step hk hl⟩
theorem sC {l : List Int} {f : Int → Option Bool} {p : Int → Bool} (h : ∀ x ∈ l, f x = some (p x)) {x : Int} (hx : x ∈ l) (hp : p x = true) (hf : ∀ y ∈ l, p y = true → x ≤ y) (ho : l.Pairwise (· < ·)) : ∃ i, jy l f = some i ∧ aQ l i = some x := by
  unfold jy
  rw [im _ (fun pre y _ => if p y then some (pre.length : Int) else none) l (fun pre y r e => by
    have hm : y ∈ l := by rw [e]; simp
    simp only [mS, jl e, Option.bind_some, h y hm]
    by_cases c : p y = true
    · simp only [c, if_true]; rfl
    · simp only [c, if_false]; rfl)]
  cases hr : cH (fun pre y _ => if p y then some (pre.length : Int) else none) [] l with
  | none =>
    exfalso
    obtain ⟨k, hk⟩ := List.getElem?_of_mem hx
    have := kq _ _ hr k x hk
    rw [if_pos hp] at this
    cases this
  | some i =>
    obtain ⟨k, y, h1, h2, h3⟩ := mr _ _ hr
    have hk := (List.getElem?_eq_some_iff.1 h1).1
    by_cases c : p y = true
    · rw [if_pos c] at h2
      have e2 : (([] : List Int) ++ l.take k).length = k := by simp; omega
      rw [e2] at h2
      cases h2
      refine ⟨(k : Int), rfl, ?_⟩
      rw [cm, h1]
      have hxy := hf y (dm h1) c
      obtain ⟨j, hj⟩ := List.getElem?_of_mem hx
      have hjl := (List.getElem?_eq_some_iff.1 hj).1
      by_cases e : j = k
      · subst e; rw [h1] at hj; exact hj
      · by_cases e3 : j < k
        · have := h3 j x e3 hj
          rw [if_pos hp] at this; cases this
        · have := (List.pairwise_iff_getElem.1 ho) k j hk hjl (by omega)
          rw [(List.getElem?_eq_some_iff.1 h1).2, (List.getElem?_eq_some_iff.1 hj).2] at this
          omega
    · rw [if_neg c] at h2; cases h2
section
variable {t : api_Topo}
theorem sD {G : List (List Int)} {D : List Int} {a b : Nat} (wf : Wf t) (hG : Nb (bL t (-1)) t.Switches.length G) (hD : Ds (bL t (-1)) t.Switches.length b D) {d : Nat} {l : List Int} (hw : dC (bL t (-1)) D d a l) (ha : D[a]? = some (d : Int)) (hd : d ≤ 1000) :
    ∃ z, ew (iD (b : Int) G D) dD ([(a : Int)], (a : Int)) = some ((a : Int) :: l, z) := by
  obtain ⟨FK, hFK⟩ := kn 2000 (by omega)
  have hl := hw.len
  have hb : b < t.Switches.length → D[b]? = some 0 := fun hb => by
    obtain ⟨e, h1, h2⟩ := hD.get hb
    rw [h1, h2.uniq (mj b)]
  obtain ⟨⟨z, zz⟩, e, hz⟩ := jk (f := iD (b : Int) G D) (fun st => ∃ (v d : Nat) (l2 : List Int), st.2 = (v : Int) ∧ D[v]? = some (d : Int) ∧ dC (bL t (-1)) D d v l2 ∧ st.1 ++ l2 = (a : Int) :: l) (fun st => st.1 = (a : Int) :: l) (fun st => (((D[st.2.toNat]?).getD 0).toNat)) (fun ⟨acc, at_⟩ ⟨v, d, l2, h1, h2, h3, h4⟩ => by
    simp only at h1 h4
    subst h1
    cases h3 with
    | done =>
      have : v = b := ((hD.2 v _ h2).zero).symm
      subst this
      refine .inr ⟨(acc, (v : Int)), ?_, by simpa using h4⟩
      simp only [iD]
      simp
    | @step d v k l2 hk h3 =>
      have hvb : ¬ v = b := by
        intro e; subst e
        have := (hD.2 v _ h2).uniq (mj v)
        omega
      have hc : ((v : Int) != (b : Int)) = true := by simp; omega
      obtain ⟨hvn, hkn⟩ := eK hk.nb
      have hvG : v < G.length := by rw [hG.len]; exact hvn
      have gG : G[v]? = some G[v] := bo hvG
      generalize G[v] = nb at gG
      have hdl : d ≤ 1000 := by
        have := h3.len
        have h5 := congrArg List.length h4
        simp at h5; omega
      have w64 : IntKind.i64.wrap (((d + 1 : Nat) : Int) - 1) = d := by rw [fQ (by omega) (by omega)]; omega
      obtain ⟨i, hi, hgi⟩ := sC (l := nb) (f := fun y => jx y D (v : Int)) (p := fun y => dv D y == (d : Int)) (x := (k : Int)) (fun y hy => by
        obtain ⟨u, rfl, hu⟩ := hG.out v nb y gG hy
        obtain ⟨e, g1, _⟩ := hD.get (eK hu).2
        simp only [jx, cm, g1, h2, Option.bind_some, w64, eM g1]) (hG.inn v nb k gG hk.nb) (by rw [eM hk.at_]; simp) (fun y hy hp => by
        obtain ⟨u, rfl, hu⟩ := hG.out v nb y gG hy
        obtain ⟨e, g1, _⟩ := hD.get (eK hu).2
        rw [eM g1] at hp
        have := hk.le u hu (by rw [g1]; congr 1; simpa using hp)
        omega) (hG.ord v nb gG)
      refine .inl ⟨(acc ++ [(k : Int)], (k : Int)), ?_, ⟨k, d, l2, rfl, hk.at_, h3, by rw [← h4]; simp⟩, ?_⟩
      · simp only [iD, hc, if_true, cm, gG, Option.bind_some, hi, hgi]
        have h5 := congrArg List.length h4
        simp at h5
        rw [gP (by simp; omega)]; rfl
      · simp only [Int.toNat_natCast, h2, hk.at_, Option.getD_some]; omega) dD ([(a : Int)], (a : Int)) ⟨a, d, l, rfl, ha, hw, by simp⟩ (by simp only [Int.toNat_natCast, ha, Option.getD_some]; omega)
  simp only at hz
  subst hz
  exact ⟨zz, e⟩
theorem sE {D : List Int} {a b : Nat} (wf : Wf t) (hbn : b < t.Switches.length) (hD : Ds (bL t (-1)) t.Switches.length b D) {d : Nat} {l : List Int} (hw : dC (bL t (-1)) D d a l) (ha : D[a]? = some (d : Int)) (hd : d ≤ 1000) :
    ∃ y z, ew (iG t (b : Int)) dD ((d : Int), [(a : Int)], (a : Int)) = some (y, (a : Int) :: l, z) := by
  obtain ⟨FK, hFK⟩ := kn 2000 (by omega)
  have hl := hw.len
  obtain ⟨⟨y, z, zz⟩, e, hz⟩ := jk (f := iG t (b : Int)) (fun st => ∃ (v d : Nat) (l2 : List Int), st.1 = (d : Int) ∧ st.2.2 = (v : Int) ∧ D[v]? = some (d : Int) ∧ dC (bL t (-1)) D d v l2 ∧ st.2.1 ++ l2 = (a : Int) :: l) (fun st => st.2.1 = (a : Int) :: l) (fun st => st.1.toNat) (fun ⟨dd, acc, at_⟩ ⟨v, d, l2, h0, h1, h2, h3, h4⟩ => by
    simp only at h0 h1 h4
    subst h1; subst h0
    cases h3 with
    | done =>
      have : v = b := ((hD.2 v _ h2).zero).symm
      subst this
      refine .inr ⟨(((0 : Nat) : Int), acc, (v : Int)), ?_, by simpa using h4⟩
      simp only [iG]
      simp
    | @step d v k l2 hk h3 =>
      have hvb : ¬ v = b := by
        intro e; subst e
        have := (hD.2 v _ h2).uniq (mj v)
        omega
      have hc : ((v : Int) != (b : Int)) = true := by simp; omega
      obtain ⟨hvn, hkn⟩ := eK hk.nb
      have hdl : d ≤ 1000 := by
        have := h3.len
        have h5 := congrArg List.length h4
        simp at h5; omega
      have w64 : IntKind.i64.wrap (((d + 1 : Nat) : Int) - 1) = d := by rw [fQ (by omega) (by omega)]; omega
      have h5 := congrArg List.length h4
      simp at h5
      have hfk := pc (jE t (b : Int) ((d + 1 : Nat) : Int)) (fun j st => st = (acc, (v : Int)) ∧ j ≤ k) (fun st => st = (acc ++ [(k : Int)], (k : Int))) t.Switches.length 0 (acc, (v : Int)) ⟨rfl, Nat.zero_le _⟩ (fun j st _ hj ⟨hst, hjk⟩ => by
        subst hst
        have hjn : j < t.Switches.length := by omega
        obtain ⟨r, hr, hrn⟩ := mt t (-1) v j
        obtain ⟨e, he, hde⟩ := kr wf (-1) hjn hbn
        have hDj : D[j]? = some e := by
          obtain ⟨e', g1, g2⟩ := hD.get hjn
          rw [g1, g2.uniq (hde.rev io)]
        simp only [jE, hr, Option.bind_some, he, w64]
        by_cases ej : j = k
        · subst ej
          have : r = true := hrn.2 hk.nb
          subst this
          have : e = (d : Int) := by have := hk.at_; rw [hDj] at this; exact aB this
          subst this
          simp only [if_true, Option.bind_some, beq_self_eq_true]
          rw [gP (by simp; omega)]
          exact .inr ⟨_, rfl, rfl⟩
        · have nope : ¬ (r = true ∧ e = (d : Int)) := by
            rintro ⟨g1, g2⟩
            have := hk.le j (hrn.1 g1) (by rw [hDj, g2])
            omega
          refine .inl ⟨(acc, (v : Int)), ?_, rfl, by omega⟩
          cases r with
          | false => simp
          | true =>
            have : (e == (d : Int)) = false := by
              simp only [beq_eq_false_iff_ne]; intro g; exact nope ⟨rfl, g⟩
            simp [this])
      obtain ⟨st, e1, hst⟩ := hfk
      have hst' : st = (acc ++ [(k : Int)], (k : Int)) := by
        rcases hst with ⟨_, hh⟩ | hh
        · omega
        · exact hh
      subst hst'
      have e1 : f6 (jE t (b : Int) ((d + 1 : Nat) : Int)) (bm 0 (t.Switches.length : Int)) (acc, (v : Int)) = some (acc ++ [(k : Int)], (k : Int)) := by simpa using e1
      refine .inl ⟨((d : Int), acc ++ [(k : Int)], (k : Int)), ?_, ⟨k, d, l2, rfl, rfl, hk.at_, h3, by rw [← h4]; simp⟩, by simp only; omega⟩
      simp only [iG, hc, if_true, e1, Option.bind_some, w64]) dD ((d : Int), [(a : Int)], (a : Int)) ⟨a, d, l, rfl, rfl, ha, hw, by simp⟩ (by simp only [Int.toNat_natCast]; omega)
  simp only at hz
  subst hz
  exact ⟨y, zz, e⟩
theorem kw {G : List (List Int)} {n a : Nat} (h : G.length = n) (ha : a < n) : d8 G (a : Int) = some true := by
  unfold d8; simp [h]; omega
theorem mz {G : List (List Int)} {n : Nat} {a : Int} (h : G.length = n) (ha : a < 0 ∨ (n : Int) ≤ a) : d8 G a = some false := by
  unfold d8; simp [h]; omega
theorem sF (wf : Wf t) {a b : Nat} (ha : a < t.Switches.length) (hb : b < t.Switches.length) : ∃ d, cx (bL t (-1)) a b d ∧
    ((d = -1 ∧ fv t a b = some ([], false) ∧ eO t a b = some ([], false)) ∨
      ∃ (k : Nat) (D l : List Int), d = k ∧ Ds (bL t (-1)) t.Switches.length b D ∧ D[a]? = some (k : Int) ∧ dC (bL t (-1)) D k a l ∧ fv t a b = some ((a : Int) :: l, true) ∧ eO t a b = some ((a : Int) :: l, true)) := by
  obtain ⟨G, eG, hG⟩ := fT wf (-1)
  obtain ⟨D, eD, hD⟩ := kv wf hG hb
  obtain ⟨d, h1, h2⟩ := hD.get ha
  have h3 := h2.rev io
  obtain ⟨d', r1, r2⟩ := kr wf (-1) ha hb
  have : d' = d := r2.uniq h3
  subst this
  have lt := h3.lt (fun a b h => eK h) ha
  have wn := wf.sw
  refine ⟨d', h3, ?_⟩
  unfold fv eO
  simp only [eG, kw hG.len ha, kw hG.len hb, Option.bind_some, Bool.not_true, Bool.false_eq_true, if_false, eD, cm, h1, r1]
  by_cases c : d' < 0
  · have := h3.ge
    left
    refine ⟨by omega, ?_, ?_⟩
    · rw [decide_eq_true c, if_pos rfl]
    · rw [decide_eq_true c, if_pos rfl]
  · right
    obtain ⟨k, rfl⟩ := Int.eq_ofNat_of_zero_le (Int.not_lt.1 c)
    obtain ⟨l, hl⟩ := dC.ex io (fun a b h => eK h) hD k a h1
    obtain ⟨z, e1⟩ := sD wf hG hD hl h1 (by omega)
    obtain ⟨y, z', e2⟩ := sE wf hb hD hl h1 (by omega)
    refine ⟨k, D, l, rfl, hD, h1, hl, ?_, ?_⟩
    · rw [decide_eq_false c, if_neg (by decide), e1]; rfl
    · rw [decide_eq_false c, if_neg (by decide)]
      rw [e2]; rfl
theorem sG (wf : Wf t) {a b : Int} (h : a < 0 ∨ (t.Switches.length : Int) ≤ a ∨ b < 0 ∨ (t.Switches.length : Int) ≤ b) : fv t a b = some ([], false) ∧ eO t a b = some ([], false) := by
  obtain ⟨G, eG, hG⟩ := fT wf (-1)
  refine ⟨?_, ?_⟩
  · unfold fv
    simp only [eG, Option.bind_some]
    by_cases c : a < 0 ∨ (t.Switches.length : Int) ≤ a
    · simp [mz hG.len c]
    · obtain ⟨k, rfl⟩ := Int.eq_ofNat_of_zero_le (show 0 ≤ a by omega)
      have hk : k < t.Switches.length := by have := fun h => c (.inr h); simp at this; omega
      have hb : b < 0 ∨ (t.Switches.length : Int) ≤ b := by omega
      have := kw hG.len hk
      simp [this, mz hG.len hb]
  · unfold eO
    rw [sv (-1) h]
    simp
end
end Go.AM
end
section
set_option linter.unusedVariables false
namespace Go.AM
open Go
theorem sH : kL = some true := by decide +kernel
end Go.AM
end
section
set_option linter.unusedVariables false
set_option linter.unusedSimpArgs false
namespace Go.AM
open Go
theorem pi (l : List Int) : gU l l = some true := by
  unfold gU
  rw [if_neg (by simp)]
  rw [md _ (fun _ => none) l (fun j x hj => by
    simp only [mU, cm, hj, Option.bind_some]
    simp [ji])]
  have : ∀ l : List Int, fP (fun _ => (none : Option Bool)) l = none := fun l => by
    induction l with
    | nil => rfl
    | cons x l ih => simpa [fP] using ih
  rw [this]; rfl
end Go.AM
end
section
set_option linter.unusedVariables false
set_option linter.unusedSimpArgs false
namespace Go.AM
open Go
theorem pj : ∀ {l m : List Int}, l.Pairwise (· < ·) → m.Pairwise (· < ·) → (∀ x, x ∈ l ↔ x ∈ m) → l = m
  | [], [], _, _, _ => rfl
  | [], y :: m, _, _, h => by have := (h y).2 (by simp); cases this
  | x :: l, [], _, _, h => by have := (h x).1 (by simp); cases this
  | x :: l, y :: m, hl, hm, h => by
    rw [List.pairwise_cons] at hl hm
    have e : x = y := by
      rcases List.mem_cons.1 ((h x).1 (by simp)) with e | h1
      · exact e
      · rcases List.mem_cons.1 ((h y).2 (by simp)) with e | h2
        · exact e.symm
        · have := hl.1 y h2
          have := hm.1 x h1
          omega
    subst e
    congr 1
    refine pj hl.2 hm.2 fun z => ⟨fun hz => ?_, fun hz => ?_⟩
    · rcases List.mem_cons.1 ((h z).1 (by simp [hz])) with e | h1
      · have := hl.1 z hz; omega
      · exact h1
    · rcases List.mem_cons.1 ((h z).2 (by simp [hz])) with e | h1
      · have := hm.1 z hz; omega
      · exact h1
theorem dC.get {N : Nat → Nat → Prop} {D : List Int} {d v : Nat} {l : List Int} (h : dC N D d v l) : D[v]? = some (d : Int) → ∀ i : Nat, i ≤ d →
    ∃ u : Nat, ((v : Int) :: l)[i]? = some (u : Int) ∧ Wk N i v u ∧ D[u]? = some ((d - i : Nat) : Int) ∧ (i < d → ∃ w : Nat, ((v : Int) :: l)[i + 1]? = some (w : Int) ∧ N u w) := by
  induction h with
  | done v =>
    intro h0 i hi
    obtain rfl : i = 0 := by omega
    exact ⟨v, rfl, .nil v, h0, fun h => by omega⟩
  | @step d v k l hk _ ih =>
    intro h0 i hi
    cases i with
    | zero => exact ⟨v, rfl, .nil v, h0, fun _ => ⟨k, rfl, hk.nb⟩⟩
    | succ i =>
      obtain ⟨u, h1, h2, h3, h4⟩ := ih hk.at_ i (by omega)
      refine ⟨u, by simpa using h1, h2.cons hk.nb, by rw [h3]; congr 2; omega, fun hlt => ?_⟩
      obtain ⟨w, g1, g2⟩ := h4 (by omega)
      exact ⟨w, by simpa using g1, g2⟩
theorem wd {N : Nat → Nat → Prop} {n b : Nat} {D : List Int} (hs : ∀ a b, N a b → N b a) (hD : Ds N n b D) {d v u i : Nat} (hv : D[v]? = some (d : Int)) (w : Wk N i v u) (hi : i ≤ d) (hu : D[u]? = some ((d - i : Nat) : Int)) : cx N v u (i : Int) := by
  refine .inr ⟨i, rfl, w, fun j wj => ?_⟩
  have h1 := hD.2 v _ hv
  have h2 := hD.2 u _ hu
  rcases h1 with ⟨h1, _⟩ | ⟨k, h1, _, hm⟩
  · omega
  rcases h2 with ⟨h2, _⟩ | ⟨k', h2, wk, _⟩
  · omega
  have := hm _ (wk.app (wj.rev hs))
  omega
section
variable {t : api_Topo}
theorem sI (wf : Wf t) {a : Nat} (ha : a < t.Switches.length) : ∃ l, gb t a = some l ∧ l.length ≤ t.Switches.length ∧ l.Pairwise (· < ·) ∧ ∀ z, z ∈ l ↔ ∃ b : Nat, z = b ∧ bL t (-1) a b := by
  obtain ⟨G, eG, hG⟩ := fT wf (-1)
  have haG : a < G.length := by rw [hG.len]; exact ha
  have gG : G[a]? = some G[a] := bo haG
  generalize G[a] = l at gG
  have ho := hG.ord a l gG
  refine ⟨l, ?_, ?_, ho, fun z => ⟨fun hz => hG.out a l z gG hz, ?_⟩⟩
  · unfold gb
    simp only [eG, kw hG.len ha, Option.bind_some, Bool.not_true, Bool.false_eq_true, if_false, cm, gG]
  · have nd : (l.map Int.toNat).Nodup := by
      rw [List.Nodup, List.pairwise_map]
      refine List.Pairwise.imp_of_mem (R := fun a b => a < b) (fun {x y} hx hy hxy => ?_) ho
      obtain ⟨u, rfl, _⟩ := hG.out a l x gG hx
      obtain ⟨w, rfl, _⟩ := hG.out a l y gG hy
      simp; omega
    have := ml nd (m := List.range t.Switches.length) (fun x hx => by
      obtain ⟨y, hy, rfl⟩ := List.mem_map.1 hx
      obtain ⟨u, rfl, hu⟩ := hG.out a l y gG hy
      simpa using (eK hu).2)
    simpa using this
  · rintro ⟨b, rfl, hb⟩
    exact hG.inn a l b gG hb
theorem sJ (wf : Wf t) {a : Int} (h : a < 0 ∨ (t.Switches.length : Int) ≤ a) : gb t a = some [] := by
  obtain ⟨G, eG, hG⟩ := fT wf (-1)
  unfold gb
  simp [eG, mz hG.len h]
def dK (N : Nat → Nat → Prop) (a b : Nat) : Prop := ∃ k, Wk N k a b
theorem dK.symm {N : Nat → Nat → Prop} (hs : ∀ a b, N a b → N b a) {a b : Nat} (h : dK N a b) : dK N b a := h.elim fun k w => ⟨k, w.rev hs⟩
theorem dK.trans {N : Nat → Nat → Prop} {a b c : Nat} (h : dK N a b) (g : dK N b c) : dK N a c := h.elim fun _ w => g.elim fun _ v => ⟨_, w.app v⟩
theorem dK.refl {N : Nat → Nat → Prop} (a : Nat) : dK N a a := ⟨0, .nil a⟩
theorem cx.rch {N : Nat → Nat → Prop} {a b : Nat} {d : Int} (h : cx N a b d) : 0 ≤ d ↔ dK N a b := by
  rcases h with ⟨h1, h2⟩ | ⟨k, h1, h2, _⟩
  · exact ⟨fun h => by omega, fun ⟨k, w⟩ => (h2 k w).elim⟩
  · exact ⟨fun _ => ⟨k, h2⟩, fun _ => by omega⟩
def ir (N : Nat → Nat → Prop) (v u : Nat) : Prop := dK N u v ∧ ∀ w, dK N w v → u ≤ w
theorem ir.uniq {N : Nat → Nat → Prop} {v u u' : Nat} (h : ir N v u) (g : ir N v u') : u = u' := Nat.le_antisymm (h.2 _ g.1) (g.2 _ h.1)
def sK (N : Nat → Nat → Prop) (n i : Nat) (l : List Int) : Prop := l.length = n ∧ ∀ (v : Nat) x, l[v]? = some x → (x = -1 ∧ ∀ w, w < i → ¬ dK N w v) ∨ ∃ u : Nat, u < i ∧ x = u ∧ ir N v u
theorem sL (wf : Wf t) : ∃ p, jF t = some p ∧ p.length = t.Switches.length ∧ ∀ (v : Nat), v < t.Switches.length → ∃ u : Nat, p[v]? = some (u : Int) ∧ ir (bL t (-1)) v u := by
  obtain ⟨G, eG, hG⟩ := fT wf (-1)
  have wn := wf.sw
  have hl := hG.len
  unfold jF
  have hg0 : cT (G.length : Int) (0 : Int) = some (List.replicate t.Switches.length 0) := by
    unfold cT; rw [if_pos (by omega)]; simp [hl]
  simp only [eG, Option.bind_some, hg0, List.length_replicate]
  rw [mx (n := t.Switches.length) (by omega) kP (fun j l hj => by
    simp only [kP, cm, bo hj, Option.bind_some]
    rw [en _ hj]; rfl)]
  simp only [Option.bind_some]
  obtain ⟨p, e, hlen, hp⟩ := dX (kR G) (sK (bL t (-1)) t.Switches.length) G.length (List.replicate t.Switches.length (-1)) ⟨by simp, fun v x hx => by
    rw [List.getElem?_replicate] at hx
    split at hx
    · cases hx; exact .inl ⟨rfl, fun w h => by omega⟩
    · cases hx⟩ (fun i l hi ⟨h1, h2⟩ => by
      have hil : i < l.length := by omega
      have gi : l[i]? = some l[i] := bo hil
      generalize l[i] = x at gi
      simp only [kR, cm, gi, Option.bind_some]
      rcases h2 i x gi with ⟨rfl, hn⟩ | ⟨u, hu, rfl, hL⟩
      · rw [if_neg (by decide)]
        obtain ⟨D, eD, hD⟩ := kv wf hG (s := i) (by omega)
        simp only [eD, Option.bind_some]
        obtain ⟨l2, e2, g1, g2⟩ := dX (kQ (i : Int) D) (fun k m => m.length = l.length ∧ ∀ (v : Nat) d y, D[v]? = some d → l[v]? = some y → m[v]? = some (if v < k ∧ 0 ≤ d then (i : Int) else y)) D.length l ⟨rfl, fun v d y _ hy => by simp [hy]⟩ (fun k m hk ⟨m1, m2⟩ => by
          have hDl := hD.1
          have gd : D[k]? = some D[k] := bo hk
          generalize D[k] = d at gd
          have hkl : k < l.length := by omega
          have hkm : k < m.length := by omega
          simp only [kQ, cm, gd, Option.bind_some]
          by_cases c : 0 ≤ d
          · rw [decide_eq_true (show d ≥ 0 from c), if_pos rfl, bo hkm]
            simp only [Option.bind_some]
            rw [en _ hkm]
            refine ⟨_, rfl, by simp [m1], fun v d' y hd hy => ?_⟩
            rw [List.getElem?_set]
            by_cases e : k = v
            · subst e
              rw [if_pos rfl, if_pos hkm]
              rw [gd] at hd; cases hd
              rw [if_pos ⟨by omega, c⟩]
            · rw [if_neg e, m2 v d' y hd hy]
              congr 1
              by_cases c2 : v < k ∧ 0 ≤ d'
              · rw [if_pos c2, if_pos ⟨by omega, c2.2⟩]
              · rw [if_neg c2, if_neg (by omega)]
          · rw [decide_eq_false (show ¬ d ≥ 0 from c), if_neg (by decide)]
            refine ⟨_, rfl, m1, fun v d' y hd hy => ?_⟩
            rw [m2 v d' y hd hy]
            congr 1
            by_cases e : k = v
            · subst e
              rw [gd] at hd; cases hd
              rw [if_neg (by omega), if_neg (by omega)]
            · by_cases c2 : v < k ∧ 0 ≤ d'
              · rw [if_pos c2, if_pos ⟨by omega, c2.2⟩]
              · rw [if_neg c2, if_neg (by omega)])
        rw [e2]
        refine ⟨l2, rfl, by rw [g1, h1], fun v y hy => ?_⟩
        have hvn : v < t.Switches.length := by have := (List.getElem?_eq_some_iff.1 hy).1; omega
        obtain ⟨d, gd, hd⟩ := hD.get hvn
        have gv : l[v]? = some (l[v]'(by omega)) := bo (by omega)
        generalize l[v]'(by omega) = y0 at gv
        have := g2 v d y0 gd gv
        rw [hy] at this
        have := aB this
        have hvD : v < D.length := by rw [hD.1]; exact hvn
        by_cases c : 0 ≤ d
        · rw [if_pos ⟨hvD, c⟩] at this
          subst this
          have hr := hd.rch.1 c
          refine .inr ⟨i, by omega, rfl, hr, fun w hw => Nat.le_of_not_lt fun hlt => hn w hlt (hw.trans (hr.symm io))⟩
        · rw [if_neg (by omega)] at this
          subst this
          rcases h2 v y gv with ⟨rfl, hv⟩ | ⟨u, hu, rfl, hL⟩
          · refine .inl ⟨rfl, fun w hw => ?_⟩
            by_cases e : w = i
            · subst e; exact fun hr => c (hd.rch.2 hr)
            · exact hv w (by omega)
          · exact .inr ⟨u, by omega, rfl, hL⟩
      · rw [if_pos (by simp)]
        refine ⟨l, rfl, h1, fun v y gv => ?_⟩
        rcases h2 v y gv with ⟨rfl, hv⟩ | ⟨u', hu', rfl, hL'⟩
        · refine .inl ⟨rfl, fun w hw => ?_⟩
          by_cases e : w = i
          · subst e; exact fun hr => hv u hu (hL.1.trans hr)
          · exact hv w (by omega)
        · exact .inr ⟨u', by omega, rfl, hL'⟩)
  rw [e]
  refine ⟨p, rfl, hlen, fun v hv => ?_⟩
  have hvp : v < p.length := by omega
  have gv : p[v]? = some p[v] := bo hvp
  generalize p[v] = x at gv
  rcases hp v x gv with ⟨_, h⟩ | ⟨u, _, rfl, hL⟩
  · exact (h v (by omega) (dK.refl v)).elim
  · exact ⟨u, gv, hL⟩
end
end Go.AM
end
