import Derived.Test.YtnnkfanmokeiaaaRG7
import Derived.Test.YtnnkfanmokeiaaaRG1
/-  Several texts in one. -/
section
set_option linter.unusedVariables false
set_option linter.unusedSimpArgs false
namespace Go.AM
open Go
def gH (p : api_Port) (x : A2 api_Port) : Option (api_Port × Bool) := if (x.a0 == p) then some (x.a1, true) else if (x.a1 == p) then some (x.a0, true) else none
theorem vU : ∀ (l : List (A2 api_Port)), (cN l).Nodup → ∀ x ∈ l, e9 (gH x.a0) l = some (x.a1, true) ∧ e9 (gH x.a1) l = some (x.a0, true)
  | [], _, x, hx => by cases hx
  | y :: l, hn, x, hx => by
    have hn : (y.a0 :: y.a1 :: cN l).Nodup := hn
    rw [List.nodup_cons, List.nodup_cons] at hn
    obtain ⟨n0, n1, n2⟩ := hn
    have n01 : ¬ y.a0 = y.a1 := fun e => n0 (by rw [e]; simp)
    rcases List.mem_cons.1 hx with rfl | hx
    · refine ⟨by simp [e9, gH], ?_⟩
      have : (x.a0 == x.a1) = false := by simpa using n01
      simp [e9, gH, this]
    · have m0 : x.a0 ∈ cN l := List.mem_flatMap.2 ⟨x, hx, by simp⟩
      have m1 : x.a1 ∈ cN l := List.mem_flatMap.2 ⟨x, hx, by simp⟩
      have ne : ∀ p ∈ cN l, gH p y = none := by
        intro p hp
        have e0 : (y.a0 == p) = false := by
          simp only [beq_eq_false_iff_ne]; rintro rfl; exact n0 (by simp [hp])
        have e1 : (y.a1 == p) = false := by
          simp only [beq_eq_false_iff_ne]; rintro rfl; exact n1 hp
        simp [gH, e0, e1]
      obtain ⟨h1, h2⟩ := vU l n2 x hx
      refine ⟨?_, ?_⟩
      · simp only [e9, ne _ m0]; exact h1
      · simp only [e9, ne _ m1]; exact h2
theorem vV (t : api_Topo) (p : api_Port) {q : api_Port × Bool} (h : e9 (gH p) t.Links = some q) : ju t p = some q := by
  unfold ju
  rw [k8 _ (gH p) t.Links (fun j x hj => by
    simp only [qS, cd, hj, Option.bind_some, gH]
    by_cases c : (x.a0 == p) = true
    · simp only [c, if_true]; rfl
    · simp only [c, if_false]
      by_cases c2 : (x.a1 == p) = true
      · simp only [c2, if_true]; rfl
      · simp only [c2, if_false]; rfl)]
  rw [h]; rfl
theorem o6 {t : api_Topo} (wf : Wf t) {a : Nat} {v : Int} (hv : t.Switches[a]? = some v) (x : Int) : (x == v) = true ↔ pl t.Switches x = a := by
  constructor
  · intro h
    have : x = v := by simpa using h
    subst this; exact wf.id a x hv
  · intro h
    rcases lF t.Switches x with ⟨k, h1, h2⟩ | ⟨h1, _⟩
    · have : k = a := by omega
      subst this
      rw [hv] at h2; cases h2; simp
    · omega
theorem vW {t : api_Topo} (wf : Wf t) {a b : Nat} {va vb : Int} (ha : t.Switches[a]? = some va) (hb : t.Switches[b]? = some vb) : ∃ p : Int × Bool, k9 t a b = some p ∧
    ((¬ cJ t (-1) a b ∧ p = (0, false)) ∨ (cJ t (-1) a b ∧ p.2 = true ∧ ∃ o : api_Port, ju t (api_Port.mk va p.1) = some (o, true) ∧ o.Sw = vb)) := by
  have han := (List.getElem?_eq_some_iff.1 ha).1
  have hbn := (List.getElem?_eq_some_iff.1 hb).1
  unfold k9
  by_cases e : a = b
  · subst e
    have c : ((decide ((a : Int) < 0)) || ((decide ((a : Int) ≥ (t.Switches.length : Int))) || ((decide ((a : Int) < 0)) || ((decide ((a : Int) ≥ (t.Switches.length : Int))) || ((a : Int) == (a : Int)))))) = true := by simp
    rw [c, if_pos rfl]
    exact ⟨_, rfl, .inl ⟨fun ⟨_, _, _, _, _, h, _⟩ => h rfl, rfl⟩⟩
  have c : ((decide ((a : Int) < 0)) || ((decide ((a : Int) ≥ (t.Switches.length : Int))) || ((decide ((b : Int) < 0)) || ((decide ((b : Int) ≥ (t.Switches.length : Int))) || ((a : Int) == (b : Int)))))) = false := by
    simp; omega
  rw [c, if_neg (by decide)]
  simp only [cd, ha, hb, Option.bind_some]
  rw [kz _ (fun _ x _ => if ((x.a0.Sw == va) && (x.a1.Sw == vb)) then some (x.a0.Pt, true) else if ((x.a1.Sw == va) && (x.a0.Sw == vb)) then some (x.a1.Pt, true) else none) t.Links (fun pre x r e => by
    simp only [ur, lE e, Option.bind_some]
    by_cases c1 : ((x.a0.Sw == va) && (x.a1.Sw == vb)) = true
    · simp only [c1, if_true]; rfl
    · simp only [c1, if_false]
      by_cases c2 : ((x.a1.Sw == va) && (x.a0.Sw == vb)) = true
      · simp only [c2, if_true]; rfl
      · simp only [c2, if_false]; rfl)]
  simp only [Option.bind_some]
  have cond1 : ∀ x : A2 api_Port, ((x.a0.Sw == va) && (x.a1.Sw == vb)) = true ↔ pl t.Switches x.a0.Sw = a ∧ pl t.Switches x.a1.Sw = b := fun x => by
    rw [Bool.and_eq_true, o6 wf ha, o6 wf hb]
  have cond2 : ∀ x : A2 api_Port, ((x.a1.Sw == va) && (x.a0.Sw == vb)) = true ↔ pl t.Switches x.a1.Sw = a ∧ pl t.Switches x.a0.Sw = b := fun x => by
    rw [Bool.and_eq_true, o6 wf ha, o6 wf hb]
  cases hr : dQ (fun (_ : List (A2 api_Port)) x _ => if ((x.a0.Sw == va) && (x.a1.Sw == vb)) then some (x.a0.Pt, true) else if ((x.a1.Sw == va) && (x.a0.Sw == vb)) then some (x.a1.Pt, true) else none) [] t.Links with
  | none =>
    refine ⟨_, rfl, .inl ⟨?_, rfl⟩⟩
    rintro ⟨i, x, hi, hx, _, _, h⟩
    have := mV _ _ hr i x hx
    rcases h with h | ⟨h1, h2⟩
    · rw [if_pos ((cond1 x).2 h)] at this; cases this
    · by_cases c1 : ((x.a0.Sw == va) && (x.a1.Sw == vb)) = true
      · rw [if_pos c1] at this; cases this
      · rw [if_neg c1, if_pos ((cond2 x).2 ⟨h2, h1⟩)] at this; cases this
  | some p =>
    obtain ⟨k, x, h1, h2, _⟩ := o0 _ _ hr
    have hk := (List.getElem?_eq_some_iff.1 h1).1
    obtain ⟨o1, o2⟩ := vU t.Links wf.nd x (c7 h1)
    refine ⟨p, rfl, .inr ?_⟩
    by_cases c1 : ((x.a0.Sw == va) && (x.a1.Sw == vb)) = true
    · rw [if_pos c1] at h2
      cases h2
      refine ⟨⟨k, x, hk, h1, by omega, e, .inl ((cond1 x).1 c1)⟩, rfl, x.a1, ?_, ?_⟩
      · have : api_Port.mk va x.a0.Pt = x.a0 := by
          have := (Bool.and_eq_true _ _ ▸ c1).1
          have : x.a0.Sw = va := by simpa using this
          rw [← this]
        rw [this]; exact vV t _ o1
      · have := (Bool.and_eq_true _ _ ▸ c1).2
        simpa using this
    · rw [if_neg c1] at h2
      by_cases c2 : ((x.a1.Sw == va) && (x.a0.Sw == vb)) = true
      · rw [if_pos c2] at h2
        cases h2
        have g := (cond2 x).1 c2
        refine ⟨⟨k, x, hk, h1, by omega, e, .inr ⟨g.2, g.1⟩⟩, rfl, x.a0, ?_, ?_⟩
        · have : api_Port.mk va x.a1.Pt = x.a1 := by
            have := (Bool.and_eq_true _ _ ▸ c2).1
            have : x.a1.Sw = va := by simpa using this
            rw [← this]
          rw [this]; exact vV t _ o2
        · have := (Bool.and_eq_true _ _ ▸ c2).2
          simpa using this
      · rw [if_neg c2] at h2; cases h2
end Go.AM
end
section
set_option linter.unusedVariables false
set_option linter.unusedSimpArgs false
namespace Go.AM
open Go
theorem fD.get {N : Nat → Nat → Prop} {D : List Int} {d v : Nat} {l : List Int} (h : fD N D d v l) : D[v]? = some (d : Int) → ∀ i : Nat, i ≤ d →
    ∃ u : Nat, ((v : Int) :: l)[i]? = some (u : Int) ∧ Wk N i v u ∧ D[u]? = some ((d - i : Nat) : Int) ∧ (i < d → ∃ w : Nat, ((v : Int) :: l)[i + 1]? = some (w : Int) ∧ N u w) := by
  induction h with
  | done v =>
    intro h0 i hi
    obtain rfl : i = 0 := by omega
    exact ⟨v, rfl, .nil v, h0, fun h => by omega⟩
  | @step d v k l hk _ ih =>
    intro h0 i hi
    cases i with
    | zero => exact ⟨v, rfl, .nil v, h0, fun _ => ⟨k, rfl, hk.nb⟩⟩
    | succ i =>
      obtain ⟨u, h1, h2, h3, h4⟩ := ih hk.at_ i (by omega)
      refine ⟨u, by simpa using h1, h2.cons hk.nb, by rw [h3]; congr 2; omega, fun hlt => ?_⟩
      obtain ⟨w, g1, g2⟩ := h4 (by omega)
      exact ⟨w, by simpa using g1, g2⟩
theorem Fx {N : Nat → Nat → Prop} {n b : Nat} {D : List Int} (hs : ∀ a b, N a b → N b a) (hD : Ds N n b D) {d v u i : Nat} (hv : D[v]? = some (d : Int)) (w : Wk N i v u) (hi : i ≤ d) (hu : D[u]? = some ((d - i : Nat) : Int)) : dI N v u (i : Int) := by
  refine .inr ⟨i, rfl, w, fun j wj => ?_⟩
  have h1 := hD.2 v _ hv
  have h2 := hD.2 u _ hu
  rcases h1 with ⟨h1, _⟩ | ⟨k, h1, _, hm⟩
  · omega
  rcases h2 with ⟨h2, _⟩ | ⟨k', h2, wk, _⟩
  · omega
  have := hm _ (wk.app (wj.rev hs))
  omega
section
variable {t : api_Topo}
def ic (N : Nat → Nat → Prop) (a b : Nat) : Prop := ∃ k, Wk N k a b
theorem ic.symm {N : Nat → Nat → Prop} (hs : ∀ a b, N a b → N b a) {a b : Nat} (h : ic N a b) : ic N b a := h.elim fun k w => ⟨k, w.rev hs⟩
theorem ic.trans {N : Nat → Nat → Prop} {a b c : Nat} (h : ic N a b) (g : ic N b c) : ic N a c := h.elim fun _ w => g.elim fun _ v => ⟨_, w.app v⟩
theorem ic.refl {N : Nat → Nat → Prop} (a : Nat) : ic N a a := ⟨0, .nil a⟩
def rR (N : Nat → Nat → Prop) (v u : Nat) : Prop := ic N u v ∧ ∀ w, ic N w v → u ≤ w
theorem rR.uniq {N : Nat → Nat → Prop} {v u u' : Nat} (h : rR N v u) (g : rR N v u') : u = u' := Nat.le_antisymm (h.2 _ g.1) (g.2 _ h.1)
end
end Go.AM
end
section
set_option linter.unusedVariables false
set_option linter.unusedSimpArgs false
namespace Go.AM
open Go
theorem Ds.uniq {N : Nat → Nat → Prop} {n s : Nat} {D D' : List Int} (h : Ds N n s D) (g : Ds N n s D') : D = D' := by
  apply List.ext_getElem?
  intro i
  by_cases hi : i < n
  · obtain ⟨d, h1, h2⟩ := h.get hi
    obtain ⟨d', g1, g2⟩ := g.get hi
    rw [h1, g1, h2.uniq g2]
  · rw [List.getElem?_eq_none (by rw [h.1]; omega), List.getElem?_eq_none (by rw [g.1]; omega)]
section
variable {t : api_Topo}
theorem Be (wf : Wf t) (a b : Int) : ∃ r, iE t a b = some r ∧ jy t a b = some r ∧ r.1.length ≤ 1000 := by
  by_cases ho : a < 0 ∨ (t.Switches.length : Int) ≤ a ∨ b < 0 ∨ (t.Switches.length : Int) ≤ b
  · obtain ⟨w1, w2⟩ := Bd wf ho
    exact ⟨_, w1, w2, Nat.zero_le _⟩
  · obtain ⟨x, rfl⟩ := Int.eq_ofNat_of_zero_le (show 0 ≤ a by omega)
    obtain ⟨y, rfl⟩ := Int.eq_ofNat_of_zero_le (show 0 ≤ b by omega)
    have hx : x < t.Switches.length := by omega
    have hy : y < t.Switches.length := by omega
    have wn := wf.sw
    obtain ⟨d, hd, ⟨_, h1, h2⟩ | ⟨k, D, l, rfl, _, _, hW, h1, h2⟩⟩ := vT wf hx hy
    · exact ⟨_, h1, h2, Nat.zero_le _⟩
    · have := hd.lt (fun a b h => gF h) hx
      exact ⟨_, h1, h2, by have := hW.len; simp; omega⟩
end
end Go.AM
end
section
set_option linter.unusedVariables false
set_option linter.unusedSimpArgs false
set_option linter.unusedSectionVars false
namespace Go.AM
open Go
section
variable {κ : Type} [DecidableEq κ]
theorem vX {ν : Type} (k : κ) (v : ν) : ∀ (m : List (κ × ν)), k ∈ m.map (·.1) → (en m k v).map (·.1) = m.map (·.1)
  | [], h => by simp at h
  | p :: m, h => by
    unfold en
    split
    · rename_i e; simp [e]
    · rename_i e
      simp only [List.map_cons, List.mem_cons] at h
      rcases h with h | h
      · exact (e h).elim
      · simp only [List.map_cons, vX k v m h]
theorem vY {ν : Type} (k : κ) (v : ν) : ∀ (m : List (κ × ν)), k ∉ m.map (·.1) → en m k v = m ++ [(k, v)]
  | [], _ => rfl
  | p :: m, h => by
    simp only [List.map_cons, List.mem_cons, not_or] at h
    unfold en
    rw [if_neg h.1, vY k v m h.2]; rfl
theorem rS (k : κ) : ∀ (m : List (κ × Bool)), (∀ p ∈ m, p.2 = true) → ∀ p ∈ en m k true, p.2 = true
  | [], _, p, hp => by simp [en] at hp; rw [hp]
  | q :: m, h, p, hp => by
    unfold en at hp
    split at hp
    · rcases List.mem_cons.1 hp with rfl | hp
      · rfl
      · exact h p (by simp [hp])
    · rcases List.mem_cons.1 hp with rfl | hp
      · exact h p (by simp)
      · exact rS k m (fun r hr => h r (by simp [hr])) p hp
theorem vZ (k : κ) : ∀ (m : List (κ × Bool)), (∀ p ∈ m, p.2 = true) → ((mget m k).getD false = true ↔ k ∈ m.map (·.1))
  | [], _ => by simp [mget]
  | q :: m, h => by
    unfold mget
    split
    · rename_i e
      have := h q (by simp)
      simp [e, this]
    · rename_i e
      rw [vZ k m fun p hp => h p (by simp [hp])]
      simp [e]
structure KS (m : List (κ × Bool)) (l : List κ) : Prop where
  t : ∀ p ∈ m, p.2 = true
  k : ∀ x, x ∈ m.map (·.1) ↔ x ∈ l
  le : m.length ≤ l.length
  nd : m.length = l.length ↔ l.Nodup
theorem KS.nil : KS ([] : List (κ × Bool)) [] := ⟨fun p h => (by cases h), fun x => (by simp), Nat.le_refl _, (by simp)⟩
theorem KS.put {m : List (κ × Bool)} {l : List κ} (h : KS m l) (x : κ) : KS (en m x true) (l ++ [x]) := by
  have ln : (en m x true).length = ((en m x true).map (·.1)).length := by simp
  by_cases c : x ∈ l
  · have e := vX x true m ((h.k x).2 c)
    have l2 : (en m x true).length = m.length := by rw [ln, e]; simp
    refine ⟨rS x m h.t, fun y => ?_, by rw [l2]; have := h.le; simp; omega, ?_⟩
    · rw [e, h.k]; simp
      rintro rfl; exact c
    · rw [l2]
      have := h.le
      constructor
      · intro h2; simp at h2; omega
      · intro h2
        rw [List.nodup_append] at h2
        exact (h2.2.2 x c x (by simp) rfl).elim
  · have e := vY x true m (fun h2 => c ((h.k x).1 h2))
    refine ⟨rS x m h.t, fun y => ?_, by rw [e]; have := h.le; simp; omega, ?_⟩
    · rw [e]; simp only [List.map_append, List.mem_append, h.k]; simp
    · rw [e]
      simp only [List.length_append, List.length_cons, List.length_nil]
      rw [show (m.length + (0 + 1) = l.length + (0 + 1)) ↔ m.length = l.length by omega, h.nd, List.nodup_append]
      constructor
      · intro h2; exact ⟨h2, by simp, fun a ha b hb => by rw [List.mem_singleton] at hb; rintro rfl; subst hb; exact c ha⟩
      · exact fun h2 => h2.1
end
structure Wh (t : api_Topo) : Prop where
  wf : Wf t
  ho : t.Hosts.length ≤ 24
  hp : ∀ p ∈ t.Hosts, 0 ≤ pl t.Switches p.Sw
  hn : (cN t.Links ++ t.Hosts).Nodup
theorem o7 (l : List Int) (x : Int) : 0 ≤ pl l x ↔ x ∈ l := by
  rcases lF l x with ⟨k, h1, h2⟩ | ⟨h1, h2⟩
  · exact ⟨fun _ => c7 h2, fun _ => by omega⟩
  · exact ⟨fun h => by omega, fun h => (h2 h).elim⟩
theorem v6 (l : List Int) : l.Nodup ↔ ∀ (k : Nat) x, l[k]? = some x → pl l x = k := by
  constructor
  · intro h k x hx
    rcases lF l x with ⟨j, h1, h2⟩ | ⟨_, h2⟩
    · have hk := (List.getElem?_eq_some_iff.1 hx)
      have hj := (List.getElem?_eq_some_iff.1 h2)
      obtain ⟨hk1, hk2⟩ := hk
      obtain ⟨hj1, hj2⟩ := hj
      rw [List.Nodup, List.pairwise_iff_getElem] at h
      rcases Nat.lt_trichotomy j k with c | c | c
      · exact (h j k hj1 hk1 c (by rw [hk2, hj2])).elim
      · omega
      · exact (h k j hk1 hj1 c (by rw [hk2, hj2])).elim
    · exact (h2 (c7 hx)).elim
  · intro h
    rw [List.Nodup, List.pairwise_iff_getElem]
    intro i j hi hj hij e
    have h1 := h i l[i] (bU hi)
    have h2 := h j l[j] (bU hj)
    rw [e] at h1; omega
theorem v7 (l : List (A2 api_Port)) : (cN l).length = 2 * l.length := by
  induction l with
  | nil => rfl
  | cons x l ih => simp only [cN, List.flatMap_cons, List.length_append, List.length_cons, List.length_nil] at ih ⊢; omega
theorem Bg (t : api_Topo) : Wh t ↔ (t.Switches.length ≤ 12 ∧ t.Links.length ≤ 24 ∧ t.Hosts.length ≤ 24) ∧ t.Switches.Nodup ∧ (∀ p ∈ t.Hosts ++ cN t.Links, p.Sw ∈ t.Switches) ∧ (t.Hosts ++ cN t.Links).Nodup := by
  have sw : (t.Hosts ++ cN t.Links).Nodup ↔ (cN t.Links ++ t.Hosts).Nodup := (List.perm_append_comm).nodup_iff
  constructor
  · intro h
    refine ⟨⟨h.wf.sw, h.wf.ln, h.ho⟩, (v6 _).2 h.wf.id, fun p hp => ?_, sw.2 h.hn⟩
    rcases List.mem_append.1 hp with hp | hp
    · exact (o7 _ _).1 (h.hp p hp)
    · exact (o7 _ _).1 (h.wf.pt p hp)
  · rintro ⟨⟨h1, h2, h3⟩, h4, h5, h6⟩
    have h7 := sw.1 h6
    exact ⟨⟨h1, h2, (v6 _).1 h4, fun p hp => (o7 _ _).2 (h5 p (by simp [hp])), (List.nodup_append.1 h7).1⟩, h3, fun p hp => (o7 _ _).2 (h5 p (by simp [hp])), h7⟩
theorem wa (t : api_Topo) : ∃ c, mu t = some c ∧ (c = 0 ↔ Wh t) := by
  rw [Bg]
  unfold mu
  by_cases hs : ((decide ((t.Switches.length : Int) > 12)) || ((decide ((t.Links.length : Int) > 24)) || (decide ((t.Hosts.length : Int) > 24)))) = true
  · rw [if_pos hs]
    refine ⟨2, rfl, fun h => (by cases h), fun ⟨⟨h1, h2, h3⟩, _⟩ => ?_⟩
    simp at hs; omega
  rw [if_neg hs]
  simp only [Bool.or_eq_true, decide_eq_true_eq, not_or] at hs
  have hb : t.Switches.length ≤ 12 ∧ t.Links.length ≤ 24 ∧ t.Hosts.length ≤ 24 := by omega
  obtain ⟨m, em, hm⟩ := jq (qp t) t.Switches (fun l m => KS m l) [] KS.nil (fun i x s hx hP => ⟨_, by simp only [qp, cd, hx, Option.bind_some], hP.put x⟩)
  have hcl : mt t.Hosts = some t.Hosts := by
    unfold mt
    rw [dW (by simp; omega)]; rfl
  obtain ⟨z, ez, hz⟩ := jq (qr t) t.Links (fun l s => s = t.Hosts ++ cN l) t.Hosts (by simp [cN]) (fun i x s hx hP => by
    have hi := (List.getElem?_eq_some_iff.1 hx).1
    subst hP
    refine ⟨t.Hosts ++ cN (t.Links.take i) ++ [x.a0, x.a1], ?_, by simp [cN]⟩
    simp only [qr, cd, hx, Option.bind_some]
    have := v7 (t.Links.take i)
    rw [dW (by simp only [List.length_append, this, List.length_take, List.length_cons, List.length_nil]; omega)]; rfl)
  subst hz
  simp only [em, hcl, ez, Option.bind_some]
  have hlen := v7 t.Links
  have hloop := n7 (qt m (t.Hosts ++ cN t.Links)) (t.Hosts ++ cN t.Links) (fun l s => KS s l ∧ ∀ p ∈ l, p.Sw ∈ t.Switches) (fun _ => False) (fun r => r = 12 ∧ ∃ p ∈ t.Hosts ++ cN t.Links, p.Sw ∉ t.Switches) [] ⟨KS.nil, fun p h => by cases h⟩ (fun i x s hx ⟨h1, h2⟩ => by
    simp only [qt, cd, hx, Option.bind_some]
    have key := vZ x.Sw m hm.t
    rw [hm.k] at key
    by_cases c : (mget m x.Sw).getD false = true
    · rw [c]
      refine .inl ⟨_, rfl, h1.put x, fun p hp => ?_⟩
      rcases List.mem_append.1 hp with hp | hp
      · exact h2 p hp
      · rw [List.mem_singleton] at hp; subst hp; exact key.1 c
    · have c' : (mget m x.Sw).getD false = false := by simpa using c
      rw [c']
      exact .inr (.inr ⟨12, rfl, rfl, x, c7 hx, fun h => c (key.2 h)⟩))
  rcases hloop with ⟨s, e, ⟨h1, h2⟩ | h⟩ | ⟨r, e, rfl, p, hp, hn⟩
  · rw [e]
    have g1 : jm m = some (m.length : Int) := by unfold jm; rw [if_pos (by have := hm.le; omega)]
    have g2 : jm s = some (s.length : Int) := by unfold jm; rw [if_pos (by have := h1.le; simp only [List.length_append, hlen] at this; omega)]
    simp only [Option.bind_some, g1, g2]
    by_cases c1 : ((m.length : Int) < (t.Switches.length : Int))
    · rw [decide_eq_true c1, if_pos rfl]
      refine ⟨12, rfl, fun h => (by cases h), fun ⟨_, h3, _⟩ => ?_⟩
      have := hm.nd.2 h3; omega
    · rw [decide_eq_false c1, if_neg (by decide)]
      have n1 : t.Switches.Nodup := hm.nd.1 (by have := hm.le; omega)
      by_cases c2 : ((s.length : Int) < (((t.Hosts ++ cN t.Links).length : Nat) : Int))
      · rw [decide_eq_true c2, if_pos rfl]
        refine ⟨11, rfl, fun h => (by cases h), fun ⟨_, _, _, h3⟩ => ?_⟩
        have := h1.nd.2 h3; omega
      · rw [decide_eq_false c2, if_neg (by decide)]
        refine ⟨0, rfl, fun _ => ⟨hb, n1, h2, h1.nd.1 (by have := h1.le; omega)⟩, fun _ => rfl⟩
  · exact h.elim
  · rw [e]
    exact ⟨12, rfl, fun h => (by cases h), fun ⟨_, _, h3, _⟩ => (hn (h3 p hp)).elim⟩
theorem Bh (t : api_Topo) : ∃ c, oH t = some c ∧ (c = 0 → Wh t) := by
  unfold oH
  by_cases hs : ((decide ((t.Switches.length : Int) > 12)) || ((decide ((t.Links.length : Int) > 24)) || (decide ((t.Hosts.length : Int) > 24)))) = true
  · rw [if_pos hs]; exact ⟨2, rfl, fun h => by cases h⟩
  rw [if_neg hs]
  simp only [Bool.or_eq_true, decide_eq_true_eq, not_or] at hs
  rw [kz _ (fun pre x _ => if (pl t.Switches x != (pre.length : Int)) then some 12 else none) t.Switches (fun pre x r e => by
    simp only [uG, lE e, Option.bind_some, oY]
    by_cases c : (pl t.Switches x != (pre.length : Int)) = true
    · simp only [c, if_true]; rfl
    · simp only [c, if_false]; rfl)]
  simp only [Option.bind_some]
  rcases rM (v := (12 : Int)) (step := fun (pre : List Int) x (_ : List Int) => if (pl t.Switches x != (pre.length : Int)) then some 12 else none) (fun pre x r => by by_cases c : (pl t.Switches x != (pre.length : Int)) = true <;> simp [c]) t.Switches [] with e | e
  rotate_left
  · rw [e]; exact ⟨12, rfl, fun h => by cases h⟩
  rw [e]
  simp only [fL, AR (t := t) (by omega) (by omega), Option.bind_some]
  rw [k8 _ (fun x : api_Port => if decide (pl t.Switches x.Sw < 0) then some (12 : Int) else none) (cN t.Links ++ t.Hosts) (fun j x hj => by
    simp only [uH, cd, hj, Option.bind_some, oY]
    by_cases c : pl t.Switches x.Sw < 0
    · simp only [c, decide_true, if_true]; rfl
    · simp only [c, decide_false]; rfl)]
  simp only [Option.bind_some, oZ]
  by_cases c2 : ((cN t.Links ++ t.Hosts).any fun x => decide (pl t.Switches x.Sw < 0)) = true
  · rw [if_pos c2]; exact ⟨12, rfl, fun h => by cases h⟩
  rw [if_neg c2]
  simp only [fL]
  rw [kz _ (fun pre x _ => if pre.any (fun y => x == y) then some (11 : Int) else none) (cN t.Links ++ t.Hosts) (fun pre x r e => by
    simp only [uJ]
    rw [k8 _ (fun y : api_Port => if (x == y) then some (Br.ret (11 : Int)) else none) pre (fun j y hj => by
      have hj2 : (cN t.Links ++ t.Hosts)[j]? = some y := by
        rw [e, List.getElem?_append_left (by
          rcases Nat.lt_or_ge j pre.length with h | h
          · exact h
          · rw [List.getElem?_eq_none h] at hj; cases hj)]
        exact hj
      simp only [uI, lE e, cd, hj2, Option.bind_some]
      by_cases c : (x == y) = true
      · simp only [c, if_true]; rfl
      · simp only [c, if_false]; rfl)]
    rw [oZ]
    by_cases c : pre.any (fun y => x == y) = true
    · simp only [c, if_true]; rfl
    · simp only [c, if_false]; rfl)]
  simp only [Option.bind_some]
  cases hr : dQ (fun pre x _ => if pre.any (fun y => x == y) then some (11 : Int) else none) [] (cN t.Links ++ t.Hosts) with
  | some v =>
    refine ⟨v, rfl, fun h => ?_⟩
    rcases rM (v := (11 : Int)) (step := fun (pre : List api_Port) x (_ : List api_Port) => if pre.any (fun y => x == y) then some (11 : Int) else none) (fun pre x r => by by_cases c : pre.any (fun y => x == y) = true <;> simp [c]) (cN t.Links ++ t.Hosts) [] with e | e
    · rw [e] at hr; cases hr
    · rw [e] at hr; cases hr; cases h
  | none =>
    have hnd := vN _ [] hr (by simp)
    rw [List.nil_append] at hnd
    have hall : ∀ p ∈ cN t.Links ++ t.Hosts, 0 ≤ pl t.Switches p.Sw := fun p hp => by
      have := fun h => c2 (List.any_eq_true.2 ⟨p, hp, h⟩)
      simpa using this
    refine ⟨0, rfl, fun _ => ⟨⟨by omega, by omega, fun k x hk => ?_, fun p hp => hall p (by simp [hp]), (List.nodup_append.1 hnd).1⟩, by omega, fun p hp => hall p (by simp [hp]), hnd⟩⟩
    have h := mV _ _ e k x hk
    have hl := (List.getElem?_eq_some_iff.1 hk).1
    have e2 : (([] : List Int) ++ t.Switches.take k).length = k := by simp; omega
    simp only [e2] at h
    by_cases c : (pl t.Switches x != (k : Int)) = true
    · rw [if_pos c] at h; cases h
    · simpa using c
end Go.AM
end
