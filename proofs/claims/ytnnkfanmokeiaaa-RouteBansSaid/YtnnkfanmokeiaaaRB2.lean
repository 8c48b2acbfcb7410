import Derived.Test.YtnnkfanmokeiaaaRG7
import Derived.Test.YtnnkfanmokeiaaaRG1
/-  Several texts in one. -/
section
set_option linter.unusedVariables false
set_option linter.unusedSimpArgs false
namespace Go.AM
open Go
def fE (p : api_Port) (x : A2 api_Port) : Option (api_Port × Bool) := if (x.a0 == p) then some (x.a1, true) else if (x.a1 == p) then some (x.a0, true) else none
theorem vt : ∀ (l : List (A2 api_Port)), (dI l).Nodup → ∀ x ∈ l, dP (fE x.a0) l = some (x.a1, true) ∧ dP (fE x.a1) l = some (x.a0, true)
  | [], _, x, hx => by cases hx
  | y :: l, hn, x, hx => by
    have hn : (y.a0 :: y.a1 :: dI l).Nodup := hn
    rw [List.nodup_cons, List.nodup_cons] at hn
    obtain ⟨n0, n1, n2⟩ := hn
    have n01 : ¬ y.a0 = y.a1 := fun e => n0 (by rw [e]; simp)
    rcases List.mem_cons.1 hx with rfl | hx
    · refine ⟨by simp [dP, fE], ?_⟩
      have : (x.a0 == x.a1) = false := by simpa using n01
      simp [dP, fE, this]
    · have m0 : x.a0 ∈ dI l := List.mem_flatMap.2 ⟨x, hx, by simp⟩
      have m1 : x.a1 ∈ dI l := List.mem_flatMap.2 ⟨x, hx, by simp⟩
      have ne : ∀ p ∈ dI l, fE p y = none := by
        intro p hp
        have e0 : (y.a0 == p) = false := by
          simp only [beq_eq_false_iff_ne]; rintro rfl; exact n0 (by simp [hp])
        have e1 : (y.a1 == p) = false := by
          simp only [beq_eq_false_iff_ne]; rintro rfl; exact n1 hp
        simp [fE, e0, e1]
      obtain ⟨h1, h2⟩ := vt l n2 x hx
      refine ⟨?_, ?_⟩
      · simp only [dP, ne _ m0]; exact h1
      · simp only [dP, ne _ m1]; exact h2
theorem vv (t : api_Topo) (p : api_Port) {q : api_Port × Bool} (h : dP (fE p) t.Links = some q) : gQ t p = some q := by
  unfold gQ
  rw [jT _ (fE p) t.Links (fun j x hj => by
    simp only [n7, bZ, hj, Option.bind_some, fE]
    by_cases c : (x.a0 == p) = true
    · simp only [c, if_true]; rfl
    · simp only [c, if_false]
      by_cases c2 : (x.a1 == p) = true
      · simp only [c2, if_true]; rfl
      · simp only [c2, if_false]; rfl)]
  rw [h]; rfl
theorem oH {t : api_Topo} (wf : Wf t) {a : Nat} {v : Int} (hv : t.Switches[a]? = some v) (x : Int) : (x == v) = true ↔ pl t.Switches x = a := by
  constructor
  · intro h
    have : x = v := by simpa using h
    subst this; exact wf.id a x hv
  · intro h
    rcases mt t.Switches x with ⟨k, h1, h2⟩ | ⟨h1, _⟩
    · have : k = a := by omega
      subst this
      rw [hv] at h2; cases h2; simp
    · omega
theorem vy {t : api_Topo} (wf : Wf t) {a b : Nat} {va vb : Int} (ha : t.Switches[a]? = some va) (hb : t.Switches[b]? = some vb) : ∃ p : Int × Bool, kO t a b = some p ∧
    ((¬ cH t (-1) a b ∧ p = (0, false)) ∨ (cH t (-1) a b ∧ p.2 = true ∧ ∃ o : api_Port, gQ t (api_Port.mk va p.1) = some (o, true) ∧ o.Sw = vb)) := by
  have han := (List.getElem?_eq_some_iff.1 ha).1
  have hbn := (List.getElem?_eq_some_iff.1 hb).1
  unfold kO
  by_cases e : a = b
  · subst e
    have c : ((decide ((a : Int) < 0)) || ((decide ((a : Int) ≥ (t.Switches.length : Int))) || ((decide ((a : Int) < 0)) || ((decide ((a : Int) ≥ (t.Switches.length : Int))) || ((a : Int) == (a : Int)))))) = true := by simp
    rw [c, if_pos rfl]
    exact ⟨_, rfl, .inl ⟨fun ⟨_, _, _, _, _, h, _⟩ => h rfl, rfl⟩⟩
  have c : ((decide ((a : Int) < 0)) || ((decide ((a : Int) ≥ (t.Switches.length : Int))) || ((decide ((b : Int) < 0)) || ((decide ((b : Int) ≥ (t.Switches.length : Int))) || ((a : Int) == (b : Int)))))) = false := by
    simp; omega
  rw [c, if_neg (by decide)]
  simp only [bZ, ha, hb, Option.bind_some]
  rw [ms _ (fun _ x _ => if ((x.a0.Sw == va) && (x.a1.Sw == vb)) then some (x.a0.Pt, true) else if ((x.a1.Sw == va) && (x.a0.Sw == vb)) then some (x.a1.Pt, true) else none) t.Links (fun pre x r e => by
    simp only [t6, oB e, Option.bind_some]
    by_cases c1 : ((x.a0.Sw == va) && (x.a1.Sw == vb)) = true
    · simp only [c1, if_true]; rfl
    · simp only [c1, if_false]
      by_cases c2 : ((x.a1.Sw == va) && (x.a0.Sw == vb)) = true
      · simp only [c2, if_true]; rfl
      · simp only [c2, if_false]; rfl)]
  simp only [Option.bind_some]
  have cond1 : ∀ x : A2 api_Port, ((x.a0.Sw == va) && (x.a1.Sw == vb)) = true ↔ pl t.Switches x.a0.Sw = a ∧ pl t.Switches x.a1.Sw = b := fun x => by
    rw [Bool.and_eq_true, oH wf ha, oH wf hb]
  have cond2 : ∀ x : A2 api_Port, ((x.a1.Sw == va) && (x.a0.Sw == vb)) = true ↔ pl t.Switches x.a1.Sw = a ∧ pl t.Switches x.a0.Sw = b := fun x => by
    rw [Bool.and_eq_true, oH wf ha, oH wf hb]
  cases hr : eP (fun (_ : List (A2 api_Port)) x _ => if ((x.a0.Sw == va) && (x.a1.Sw == vb)) then some (x.a0.Pt, true) else if ((x.a1.Sw == va) && (x.a0.Sw == vb)) then some (x.a1.Pt, true) else none) [] t.Links with
  | none =>
    refine ⟨_, rfl, .inl ⟨?_, rfl⟩⟩
    rintro ⟨i, x, hi, hx, _, _, h⟩
    have := oD _ _ hr i x hx
    rcases h with h | ⟨h1, h2⟩
    · rw [if_pos ((cond1 x).2 h)] at this; cases this
    · by_cases c1 : ((x.a0.Sw == va) && (x.a1.Sw == vb)) = true
      · rw [if_pos c1] at this; cases this
      · rw [if_neg c1, if_pos ((cond2 x).2 ⟨h2, h1⟩)] at this; cases this
  | some p =>
    obtain ⟨k, x, h1, h2, _⟩ := oE _ _ hr
    have hk := (List.getElem?_eq_some_iff.1 h1).1
    obtain ⟨o1, o2⟩ := vt t.Links wf.nd x (c9 h1)
    refine ⟨p, rfl, .inr ?_⟩
    by_cases c1 : ((x.a0.Sw == va) && (x.a1.Sw == vb)) = true
    · rw [if_pos c1] at h2
      cases h2
      refine ⟨⟨k, x, hk, h1, by omega, e, .inl ((cond1 x).1 c1)⟩, rfl, x.a1, ?_, ?_⟩
      · have : api_Port.mk va x.a0.Pt = x.a0 := by
          have := (Bool.and_eq_true _ _ ▸ c1).1
          have : x.a0.Sw = va := by simpa using this
          rw [← this]
        rw [this]; exact vv t _ o1
      · have := (Bool.and_eq_true _ _ ▸ c1).2
        simpa using this
    · rw [if_neg c1] at h2
      by_cases c2 : ((x.a1.Sw == va) && (x.a0.Sw == vb)) = true
      · rw [if_pos c2] at h2
        cases h2
        have g := (cond2 x).1 c2
        refine ⟨⟨k, x, hk, h1, by omega, e, .inr ⟨g.2, g.1⟩⟩, rfl, x.a0, ?_, ?_⟩
        · have : api_Port.mk va x.a1.Pt = x.a1 := by
            have := (Bool.and_eq_true _ _ ▸ c2).1
            have : x.a1.Sw = va := by simpa using this
            rw [← this]
          rw [this]; exact vv t _ o2
        · have := (Bool.and_eq_true _ _ ▸ c2).2
          simpa using this
      · rw [if_neg c2] at h2; cases h2
end Go.AM
end
section
set_option linter.unusedVariables false
set_option linter.unusedSimpArgs false
namespace Go.AM
open Go
theorem fm.get {N : Nat → Nat → Prop} {D : List Int} {d v : Nat} {l : List Int} (h : fm N D d v l) : D[v]? = some (d : Int) → ∀ i : Nat, i ≤ d →
    ∃ u : Nat, ((v : Int) :: l)[i]? = some (u : Int) ∧ Wk N i v u ∧ D[u]? = some ((d - i : Nat) : Int) ∧ (i < d → ∃ w : Nat, ((v : Int) :: l)[i + 1]? = some (w : Int) ∧ N u w) := by
  induction h with
  | done v =>
    intro h0 i hi
    obtain rfl : i = 0 := by omega
    exact ⟨v, rfl, .nil v, h0, fun h => by omega⟩
  | @step d v k l hk _ ih =>
    intro h0 i hi
    cases i with
    | zero => exact ⟨v, rfl, .nil v, h0, fun _ => ⟨k, rfl, hk.nb⟩⟩
    | succ i =>
      obtain ⟨u, h1, h2, h3, h4⟩ := ih hk.at_ i (by omega)
      refine ⟨u, by simpa using h1, h2.cons hk.nb, by rw [h3]; congr 2; omega, fun hlt => ?_⟩
      obtain ⟨w, g1, g2⟩ := h4 (by omega)
      exact ⟨w, by simpa using g1, g2⟩
theorem EF {N : Nat → Nat → Prop} {n b : Nat} {D : List Int} (hs : ∀ a b, N a b → N b a) (hD : Ds N n b D) {d v u i : Nat} (hv : D[v]? = some (d : Int)) (w : Wk N i v u) (hi : i ≤ d) (hu : D[u]? = some ((d - i : Nat) : Int)) : dw N v u (i : Int) := by
  refine .inr ⟨i, rfl, w, fun j wj => ?_⟩
  have h1 := hD.2 v _ hv
  have h2 := hD.2 u _ hu
  rcases h1 with ⟨h1, _⟩ | ⟨k, h1, _, hm⟩
  · omega
  rcases h2 with ⟨h2, _⟩ | ⟨k', h2, wk, _⟩
  · omega
  have := hm _ (wk.app (wj.rev hs))
  omega
section
variable {t : api_Topo}
def g7 (N : Nat → Nat → Prop) (a b : Nat) : Prop := ∃ k, Wk N k a b
theorem g7.symm {N : Nat → Nat → Prop} (hs : ∀ a b, N a b → N b a) {a b : Nat} (h : g7 N a b) : g7 N b a := h.elim fun k w => ⟨k, w.rev hs⟩
theorem g7.trans {N : Nat → Nat → Prop} {a b c : Nat} (h : g7 N a b) (g : g7 N b c) : g7 N a c := h.elim fun _ w => g.elim fun _ v => ⟨_, w.app v⟩
theorem g7.refl {N : Nat → Nat → Prop} (a : Nat) : g7 N a a := ⟨0, .nil a⟩
def ry (N : Nat → Nat → Prop) (v u : Nat) : Prop := g7 N u v ∧ ∀ w, g7 N w v → u ≤ w
theorem ry.uniq {N : Nat → Nat → Prop} {v u u' : Nat} (h : ry N v u) (g : ry N v u') : u = u' := Nat.le_antisymm (h.2 _ g.1) (g.2 _ h.1)
end
end Go.AM
end
section
set_option linter.unusedVariables false
set_option linter.unusedSimpArgs false
namespace Go.AM
open Go
theorem Ds.uniq {N : Nat → Nat → Prop} {n s : Nat} {D D' : List Int} (h : Ds N n s D) (g : Ds N n s D') : D = D' := by
  apply List.ext_getElem?
  intro i
  by_cases hi : i < n
  · obtain ⟨d, h1, h2⟩ := h.get hi
    obtain ⟨d', g1, g2⟩ := g.get hi
    rw [h1, g1, h2.uniq g2]
  · rw [List.getElem?_eq_none (by rw [h.1]; omega), List.getElem?_eq_none (by rw [g.1]; omega)]
section
variable {t : api_Topo}
end
end Go.AM
end
section
set_option linter.unusedVariables false
set_option linter.unusedSimpArgs false
set_option linter.unusedSectionVars false
namespace Go.AM
open Go
section
variable {κ : Type} [DecidableEq κ]
theorem vz {ν : Type} (k : κ) (v : ν) : ∀ (m : List (κ × ν)), k ∈ m.map (·.1) → (dT m k v).map (·.1) = m.map (·.1)
  | [], h => by simp at h
  | p :: m, h => by
    unfold dT
    split
    · rename_i e; simp [e]
    · rename_i e
      simp only [List.map_cons, List.mem_cons] at h
      rcases h with h | h
      · exact (e h).elim
      · simp only [List.map_cons, vz k v m h]
theorem vA {ν : Type} (k : κ) (v : ν) : ∀ (m : List (κ × ν)), k ∉ m.map (·.1) → dT m k v = m ++ [(k, v)]
  | [], _ => rfl
  | p :: m, h => by
    simp only [List.map_cons, List.mem_cons, not_or] at h
    unfold dT
    rw [if_neg h.1, vA k v m h.2]; rfl
theorem rz (k : κ) : ∀ (m : List (κ × Bool)), (∀ p ∈ m, p.2 = true) → ∀ p ∈ dT m k true, p.2 = true
  | [], _, p, hp => by simp [dT] at hp; rw [hp]
  | q :: m, h, p, hp => by
    unfold dT at hp
    split at hp
    · rcases List.mem_cons.1 hp with rfl | hp
      · rfl
      · exact h p (by simp [hp])
    · rcases List.mem_cons.1 hp with rfl | hp
      · exact h p (by simp)
      · exact rz k m (fun r hr => h r (by simp [hr])) p hp
theorem vB (k : κ) : ∀ (m : List (κ × Bool)), (∀ p ∈ m, p.2 = true) → ((mget m k).getD false = true ↔ k ∈ m.map (·.1))
  | [], _ => by simp [mget]
  | q :: m, h => by
    unfold mget
    split
    · rename_i e
      have := h q (by simp)
      simp [e, this]
    · rename_i e
      rw [vB k m fun p hp => h p (by simp [hp])]
      simp [e]
structure KS (m : List (κ × Bool)) (l : List κ) : Prop where
  t : ∀ p ∈ m, p.2 = true
  k : ∀ x, x ∈ m.map (·.1) ↔ x ∈ l
  le : m.length ≤ l.length
  nd : m.length = l.length ↔ l.Nodup
theorem KS.nil : KS ([] : List (κ × Bool)) [] := ⟨fun p h => (by cases h), fun x => (by simp), Nat.le_refl _, (by simp)⟩
theorem KS.put {m : List (κ × Bool)} {l : List κ} (h : KS m l) (x : κ) : KS (dT m x true) (l ++ [x]) := by
  have ln : (dT m x true).length = ((dT m x true).map (·.1)).length := by simp
  by_cases c : x ∈ l
  · have e := vz x true m ((h.k x).2 c)
    have l2 : (dT m x true).length = m.length := by rw [ln, e]; simp
    refine ⟨rz x m h.t, fun y => ?_, by rw [l2]; have := h.le; simp; omega, ?_⟩
    · rw [e, h.k]; simp
      rintro rfl; exact c
    · rw [l2]
      have := h.le
      constructor
      · intro h2; simp at h2; omega
      · intro h2
        rw [List.nodup_append] at h2
        exact (h2.2.2 x c x (by simp) rfl).elim
  · have e := vA x true m (fun h2 => c ((h.k x).1 h2))
    refine ⟨rz x m h.t, fun y => ?_, by rw [e]; have := h.le; simp; omega, ?_⟩
    · rw [e]; simp only [List.map_append, List.mem_append, h.k]; simp
    · rw [e]
      simp only [List.length_append, List.length_cons, List.length_nil]
      rw [show (m.length + (0 + 1) = l.length + (0 + 1)) ↔ m.length = l.length by omega, h.nd, List.nodup_append]
      constructor
      · intro h2; exact ⟨h2, by simp, fun a ha b hb => by rw [List.mem_singleton] at hb; rintro rfl; subst hb; exact c ha⟩
      · exact fun h2 => h2.1
end
structure Wh (t : api_Topo) : Prop where
  wf : Wf t
  ho : t.Hosts.length ≤ 24
  hp : ∀ p ∈ t.Hosts, 0 ≤ pl t.Switches p.Sw
  hn : (dI t.Links ++ t.Hosts).Nodup
theorem oI (l : List Int) (x : Int) : 0 ≤ pl l x ↔ x ∈ l := by
  rcases mt l x with ⟨k, h1, h2⟩ | ⟨h1, h2⟩
  · exact ⟨fun _ => c9 h2, fun _ => by omega⟩
  · exact ⟨fun h => by omega, fun h => (h2 h).elim⟩
theorem vC (l : List Int) : l.Nodup ↔ ∀ (k : Nat) x, l[k]? = some x → pl l x = k := by
  constructor
  · intro h k x hx
    rcases mt l x with ⟨j, h1, h2⟩ | ⟨_, h2⟩
    · have hk := (List.getElem?_eq_some_iff.1 hx)
      have hj := (List.getElem?_eq_some_iff.1 h2)
      obtain ⟨hk1, hk2⟩ := hk
      obtain ⟨hj1, hj2⟩ := hj
      rw [List.Nodup, List.pairwise_iff_getElem] at h
      rcases Nat.lt_trichotomy j k with c | c | c
      · exact (h j k hj1 hk1 c (by rw [hk2, hj2])).elim
      · omega
      · exact (h k j hk1 hj1 c (by rw [hk2, hj2])).elim
    · exact (h2 (c9 hx)).elim
  · intro h
    rw [List.Nodup, List.pairwise_iff_getElem]
    intro i j hi hj hij e
    have h1 := h i l[i] (bO hi)
    have h2 := h j l[j] (bO hj)
    rw [e] at h1; omega
theorem vD (l : List (A2 api_Port)) : (dI l).length = 2 * l.length := by
  induction l with
  | nil => rfl
  | cons x l ih => simp only [dI, List.flatMap_cons, List.length_append, List.length_cons, List.length_nil] at ih ⊢; omega
theorem Ax (t : api_Topo) : Wh t ↔ (t.Switches.length ≤ 12 ∧ t.Links.length ≤ 24 ∧ t.Hosts.length ≤ 24) ∧ t.Switches.Nodup ∧ (∀ p ∈ t.Hosts ++ dI t.Links, p.Sw ∈ t.Switches) ∧ (t.Hosts ++ dI t.Links).Nodup := by
  have sw : (t.Hosts ++ dI t.Links).Nodup ↔ (dI t.Links ++ t.Hosts).Nodup := (List.perm_append_comm).nodup_iff
  constructor
  · intro h
    refine ⟨⟨h.wf.sw, h.wf.ln, h.ho⟩, (vC _).2 h.wf.id, fun p hp => ?_, sw.2 h.hn⟩
    rcases List.mem_append.1 hp with hp | hp
    · exact (oI _ _).1 (h.hp p hp)
    · exact (oI _ _).1 (h.wf.pt p hp)
  · rintro ⟨⟨h1, h2, h3⟩, h4, h5, h6⟩
    have h7 := sw.1 h6
    exact ⟨⟨h1, h2, (vC _).1 h4, fun p hp => (oI _ _).2 (h5 p (by simp [hp])), (List.nodup_append.1 h7).1⟩, h3, fun p hp => (oI _ _).2 (h5 p (by simp [hp])), h7⟩
theorem Ay (t : api_Topo) : ∃ c, nz t = some c ∧ (c = 0 ↔ Wh t) := by
  rw [Ax]
  unfold nz
  by_cases hs : ((decide ((t.Switches.length : Int) > 12)) || ((decide ((t.Links.length : Int) > 24)) || (decide ((t.Hosts.length : Int) > 24)))) = true
  · rw [if_pos hs]
    refine ⟨2, rfl, fun h => (by cases h), fun ⟨⟨h1, h2, h3⟩, _⟩ => ?_⟩
    simp at hs; omega
  rw [if_neg hs]
  simp only [Bool.or_eq_true, decide_eq_true_eq, not_or] at hs
  have hb : t.Switches.length ≤ 12 ∧ t.Links.length ≤ 24 ∧ t.Hosts.length ≤ 24 := by omega
  obtain ⟨m, em, hm⟩ := jS (pZ t) t.Switches (fun l m => KS m l) [] KS.nil (fun i x s hx hP => ⟨_, by simp only [pZ, bZ, hx, Option.bind_some], hP.put x⟩)
  have hcl : lW t.Hosts = some t.Hosts := by
    unfold lW
    rw [dM (by simp; omega)]; rfl
  obtain ⟨z, ez, hz⟩ := jS (p4 t) t.Links (fun l s => s = t.Hosts ++ dI l) t.Hosts (by simp [dI]) (fun i x s hx hP => by
    have hi := (List.getElem?_eq_some_iff.1 hx).1
    subst hP
    refine ⟨t.Hosts ++ dI (t.Links.take i) ++ [x.a0, x.a1], ?_, by simp [dI]⟩
    simp only [p4, bZ, hx, Option.bind_some]
    have := vD (t.Links.take i)
    rw [dM (by simp only [List.length_append, this, List.length_take, List.length_cons, List.length_nil]; omega)]; rfl)
  subst hz
  simp only [em, hcl, ez, Option.bind_some]
  have hlen := vD t.Links
  have hloop := lV (p5 m (t.Hosts ++ dI t.Links)) (t.Hosts ++ dI t.Links) (fun l s => KS s l ∧ ∀ p ∈ l, p.Sw ∈ t.Switches) (fun _ => False) (fun r => r = 12 ∧ ∃ p ∈ t.Hosts ++ dI t.Links, p.Sw ∉ t.Switches) [] ⟨KS.nil, fun p h => by cases h⟩ (fun i x s hx ⟨h1, h2⟩ => by
    simp only [p5, bZ, hx, Option.bind_some]
    have key := vB x.Sw m hm.t
    rw [hm.k] at key
    by_cases c : (mget m x.Sw).getD false = true
    · rw [c]
      refine .inl ⟨_, rfl, h1.put x, fun p hp => ?_⟩
      rcases List.mem_append.1 hp with hp | hp
      · exact h2 p hp
      · rw [List.mem_singleton] at hp; subst hp; exact key.1 c
    · have c' : (mget m x.Sw).getD false = false := by simpa using c
      rw [c']
      exact .inr (.inr ⟨12, rfl, rfl, x, c9 hx, fun h => c (key.2 h)⟩))
  rcases hloop with ⟨s, e, ⟨h1, h2⟩ | h⟩ | ⟨r, e, rfl, p, hp, hn⟩
  · rw [e]
    have g1 : i4 m = some (m.length : Int) := by unfold i4; rw [if_pos (by have := hm.le; omega)]
    have g2 : i4 s = some (s.length : Int) := by unfold i4; rw [if_pos (by have := h1.le; simp only [List.length_append, hlen] at this; omega)]
    simp only [Option.bind_some, g1, g2]
    by_cases c1 : ((m.length : Int) < (t.Switches.length : Int))
    · rw [decide_eq_true c1, if_pos rfl]
      refine ⟨12, rfl, fun h => (by cases h), fun ⟨_, h3, _⟩ => ?_⟩
      have := hm.nd.2 h3; omega
    · rw [decide_eq_false c1, if_neg (by decide)]
      have n1 : t.Switches.Nodup := hm.nd.1 (by have := hm.le; omega)
      by_cases c2 : ((s.length : Int) < (((t.Hosts ++ dI t.Links).length : Nat) : Int))
      · rw [decide_eq_true c2, if_pos rfl]
        refine ⟨11, rfl, fun h => (by cases h), fun ⟨_, _, _, h3⟩ => ?_⟩
        have := h1.nd.2 h3; omega
      · rw [decide_eq_false c2, if_neg (by decide)]
        refine ⟨0, rfl, fun _ => ⟨hb, n1, h2, h1.nd.1 (by have := h1.le; omega)⟩, fun _ => rfl⟩
  · exact h.elim
  · rw [e]
    exact ⟨12, rfl, fun h => (by cases h), fun ⟨_, _, h3, _⟩ => (hn (h3 p hp)).elim⟩
end Go.AM
end
