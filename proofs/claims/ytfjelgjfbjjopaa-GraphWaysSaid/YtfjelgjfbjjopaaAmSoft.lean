import Derived.Test.YtfjelgjfbjjopaaAmWp2
set_option linter.unusedVariables false
set_option linter.unusedSectionVars false
set_option linter.unusedSimpArgs false
namespace Go.AM
open Go Go.RowKit
variable [Glob]
def cI (n n' : Nat) (id : Nat) : Prop := n ≤ id ∧ id < n'
open Classical in
noncomputable def mix (σ2 σ' : aq) (W : List Nat) (n n' : Nat) : aq := fun id => if id ∈ W ∨ cI n n' id then σ' id else σ2 id
section
variable {P : Program} {N : Nat} {A : Nat → Nat → Prop} {μ : Nat → Option aP} {T T' T1 T2 : Nat → V} {σ σ' σ1 σ2 : aq} {w : World} {a : Act} {o : Oper} {n n' m m' n1 n2 : Nat} {v : V} {e : AX → V} {i j : aT} {R W R2 W2 : List Nat}
theorem c7 {id : Nat} (h : id ∈ W ∨ cI n n' id) : mix σ2 σ' W n n' id = σ' id := by simp only [mix, if_pos h]
theorem de {id : Nat} (h : ¬ (id ∈ W ∨ cI n n' id)) : mix σ2 σ' W n n' id = σ2 id := by simp only [mix, if_neg h]
theorem sk (h : ∀ id, ¬ (id ∈ W ∨ cI n n' id) → σ' id = σ id) : mix σ σ' W n n' = σ' := by
  funext id
  by_cases c : id ∈ W ∨ cI n n' id
  · exact c7 c
  · rw [de c, h id c]
abbrev Cl := Nat × Nat × Nat
def fK (op : aN) (e : AX → V) (C : List Cl) : Prop := C = [] ∨ ∃ k x c, op = .load k x ∧ e x = .ptr c.1 c.2.1 c.2.2 ∧ C = [c]
def fL (σ σ' : aq) (R : List Nat) (K : List Cl) : Prop := ∀ c ∈ K, c.1 ∈ R ∧ ∀ k, bY σ' k (.ptr c.1 c.2.1 c.2.2) = bY σ k (.ptr c.1 c.2.1 c.2.2)
structure d7 (P : Program) (i : aT) (T : Nat → V) (σ : aq) (n : Nat) (T' : Nat → V) (σ' : aq) (n' : Nat) (R W : List Nat) : Prop where
  le : n ≤ n'
  sub : ∀ id ∈ W, id ∈ R
  kept : ∀ id, ¬ (id ∈ W ∨ cI n n' id) → σ' id = σ id
  step : ∀ σ2, (∀ id ∈ R, σ2 id = σ id) → aV P i T σ2 n T' (mix σ2 σ' W n n') n'
theorem d7.here (h : d7 P i T σ n T' σ' n' R W) : aV P i T σ n T' σ' n' := by
  have := h.step σ fun _ _ => rfl
  rwa [sk h.kept] at this
def ja (n n' : Nat) (R W : List Nat) (m m' : Nat) (R2 W2 : List Nat) : Prop :=
  ∀ id, ((id ∈ W ∨ cI n n' id) → ¬ (id ∈ R2 ∨ cI m m' id)) ∧ ((id ∈ W2 ∨ cI m m' id) → ¬ (id ∈ R ∨ cI n n' id))
theorem lP (h : fk i j = true) : (∀ d, i.dst = some d → d ∉ j.reads ∧ j.dst ≠ some d) ∧ (∀ d, j.dst = some d → d ∉ i.reads) := by
  unfold fk at h
  simp only [Bool.and_eq_true] at h
  obtain ⟨h1, h2⟩ := h
  refine ⟨fun d hd => ?_, fun d hd => ?_⟩
  · rw [hd] at h1
    simp only [Bool.and_eq_true, Bool.not_eq_true', bne_iff_ne, List.contains_eq_mem, decide_eq_false_iff_not] at h1
    exact h1
  · rw [hd] at h2
    simpa using h2
theorem sl {dst : Option Nat} {u v : V} (h : aM T dst u = aM T dst v) : aM T2 dst u = aM T2 dst v := by
  cases dst with
  | none => rfl
  | some d =>
    have : u = v := by
      have := congrFun h d
      simpa [aM, aJ] using this
    rw [this]
theorem d7.parts (h : d7 P i T σ n T' σ' n' R W) : ∃ v, T' = aM T i.dst v ∧ ∀ T2, (∀ t ∈ i.reads, T t = T2 t) → d7 P i T2 σ n (aM T2 i.dst v) σ' n' R W := by
  obtain ⟨v, hv, _⟩ := h.here.parts
  refine ⟨v, hv, fun T2 hT => ⟨h.le, h.sub, h.kept, fun σ2 hs => ?_⟩⟩
  · obtain ⟨v2, hv2, k⟩ := (h.step σ2 hs).parts
    rw [sl (T := T) (T2 := T2) (u := v) (v := v2) (by rw [← hv, ← hv2])]
    exact k T2 hT
theorem d7.agree (h : d7 P i T σ n T' σ' n' R W) (hs : ∀ id ∈ R, σ2 id = σ id) : d7 P i T σ2 n T' (mix σ2 σ' W n n') n' R W := by
  have e : ∀ σx, mix σx (mix σ2 σ' W n n') W n n' = mix σx σ' W n n' := by
    intro σx
    funext id
    by_cases c : id ∈ W ∨ cI n n' id
    · rw [c7 c, c7 c, c7 c]
    · rw [de c, de c]
  refine ⟨h.le, h.sub, fun id c => de c, fun σx hx => ?_⟩
  · rw [e]; exact h.step σx fun id hid => (hx id hid).trans (hs id hid)
theorem j3 (σ2 σ' : aq) (n : Nat) : mix σ2 σ' [] n n = σ2 := by
  funext id
  exact de (by rintro (h | ⟨h1, h2⟩)
               · simp at h
               · omega)
theorem sm (hj : d7 P j T σ n T1 σ1 n' R W) (hi : d7 P i T1 σ1 m T2 σ2 m' R2 W2) (hs : fk j i = true) (hd : ja n n' R W m m' R2 W2) :
    ∃ v w' σ3, T1 = aM T j.dst v ∧ (∀ t ∈ i.reads, T1 t = T t) ∧ d7 P i T σ m (aM T i.dst w') σ3 m' R2 W2 ∧ (∀ t ∈ j.reads, T t = aM T i.dst w' t) ∧ σ3 = mix σ σ2 W2 m m' ∧ d7 P j (aM T i.dst w') σ3 n T2 σ2 n' R W ∧ σ2 = mix σ3 σ1 W n n' ∧ (∀ id ∈ R, σ3 id = σ id) ∧ (∀ id ∈ R2, σ id = σ1 id) := by
  obtain ⟨d1, d2⟩ := lP hs
  obtain ⟨vj, e1, f1⟩ := hj.parts
  obtain ⟨vi, e2, f2⟩ := hi.parts
  have hT : ∀ t ∈ i.reads, T1 t = T t := fun t ht => by rw [e1]; exact fp (l := i.reads) (fun d hd => (d1 d hd).1) t ht
  have hR2 : ∀ id ∈ R2, σ id = σ1 id := fun id hid => (hj.kept id fun c => (hd id).1 c (.inl hid)).symm
  have hi' := (f2 T hT).agree hR2
  have hTj : ∀ t ∈ j.reads, T t = aM T i.dst vi t := fun t ht => (fp (l := j.reads) (fun d hd => d2 d hd) t ht).symm
  have hj1 := f1 (aM T i.dst vi) hTj
  have hR : ∀ id ∈ R, mix σ σ2 W2 m m' id = σ id := fun id hid => de fun c => (hd id).2 c (.inl hid)
  have hj2 := hj1.agree hR
  have ee : mix (mix σ σ2 W2 m m') σ1 W n n' = σ2 := by
    funext id
    by_cases c : id ∈ W ∨ cI n n' id
    · rw [c7 c]
      refine (hi.kept id fun c2 => (hd id).1 c ?_).symm
      rcases c2 with c2 | c2
      · exact .inl (hi.sub id c2)
      · exact .inr c2
    · rw [de c]
      by_cases c2 : id ∈ W2 ∨ cI m m' id
      · rw [c7 c2]
      · rw [de c2, hi.kept id c2, hj.kept id c]
  rw [ee] at hj2
  have et : aM (aM T i.dst vi) j.dst vj = T2 := by
    rw [e2, e1]
    exact (iJ (d1 := j.dst) (d2 := i.dst) fun d hd => (d1 d hd).2).symm
  rw [et] at hj2
  exact ⟨vj, vi, _, e1, hT, hi', hTj, rfl, hj2, ee.symm, hR, hR2⟩
structure Ft where
  R : List Nat
  W : List Nat
  C : List Cl
  K : List Cl
structure d8 (P : Program) (i : aT) (T : Nat → V) (σ : aq) (n : Nat) (T' : Nat → V) (σ' : aq) (n' : Nat) (f : Ft) : Prop where
  loc : d7 P i T σ n T' σ' n' f.R f.W
  cell : fK i.op (aA T) f.C
  keep : fL σ σ' f.R f.K
def hY (f g : Ft) : Prop := (∃ c, f.C = [c] ∧ c ∈ g.K) ∨ ∃ c, g.C = [c] ∧ c ∈ f.K
theorem fK.reads {C : List Cl} {op : aN} {dst : Option Nat} {g : Option (Nat × Bool)} (h : fK op (aA T) C) (hT : ∀ t ∈ (aT.mk dst op g).reads, T t = T2 t) : fK op (aA T2) C := by
  rcases h with h | ⟨k, x, c, rfl, h2, h3⟩
  · exact .inl h
  · refine .inr ⟨k, x, c, rfl, ?_, h3⟩
    rw [← h2]
    refine (fo fun t ht => hT t ?_).symm
    simp only [aT.reads, aN.reads]
    simp [ht]
theorem fL.mix {K : List Cl} (h : fL σ σ' R K) (hR : ∀ id ∈ R, σ2 id = σ id) : fL σ2 (mix σ2 σ' W n n') R K := by
  intro c hc
  obtain ⟨h1, h2⟩ := h c hc
  refine ⟨h1, fun k => ?_⟩
  have e2 : bY σ2 k (.ptr c.1 c.2.1 c.2.2) = bY σ k (.ptr c.1 c.2.1 c.2.2) := by
    simp only [bY, hR c.1 h1]
  by_cases q : c.1 ∈ W ∨ cI n n' c.1
  · rw [e2, ← h2 k]
    simp only [bY, c7 q]
  · simp only [bY, de q]
theorem aV.load {k : Option Nat} {x : AX} (hop : i.op = .load k x) (h : aV P i T σ n T' σ' n') (hl : bY σ2 k (aA T x) = bY σ k (aA T x)) : σ' = σ ∧ n' = n ∧ aV P i T σ2 n2 T' σ2 n2 := by
  have key : ∀ {v}, bW P i.op (aA T) σ n v σ' n' → σ' = σ ∧ n' = n ∧ bW P i.op (aA T) σ2 n2 v σ2 n2 := by
    intro v h
    rw [hop] at h ⊢
    have h : ay (.load k x) (aA T) σ n = some (v, σ', n') := h
    show _ ∧ _ ∧ ay (.load k x) (aA T) σ2 n2 = some (v, σ2, n2)
    simp only [ay] at h ⊢
    rw [hl]
    cases hv : bY σ k (aA T x) with
    | none => rw [hv] at h; cases h
    | some u =>
      rw [hv] at h
      simp only [Option.map_some, Option.some.injEq, Prod.mk.injEq] at h
      exact ⟨h.2.1.symm, h.2.2.symm, by rw [h.1]; rfl⟩
  unfold aV at h
  cases hg : i.guard with
  | none =>
    rw [hg] at h
    obtain ⟨v, h1, h2⟩ := h
    obtain ⟨k1, k2, k3⟩ := key h1
    exact ⟨k1, k2, by unfold aV; rw [hg]; exact ⟨v, k3, h2⟩⟩
  | some p =>
    obtain ⟨g, b⟩ := p
    rw [hg] at h
    obtain ⟨b', hT, h⟩ := h
    by_cases hb : b' = some b
    · rw [if_pos hb] at h
      obtain ⟨v, h1, h2⟩ := h
      obtain ⟨k1, k2, k3⟩ := key h1
      exact ⟨k1, k2, by unfold aV; rw [hg]; exact ⟨b', hT, by rw [if_pos hb]; exact ⟨v, k3, h2⟩⟩⟩
    · rw [if_neg hb] at h
      obtain ⟨h1, h2, h3⟩ := h
      exact ⟨h2, h3, by unfold aV; rw [hg]; exact ⟨b', hT, by rw [if_neg hb]; exact ⟨h1, rfl, rfl⟩⟩⟩
theorem d8.move {f : Ft} {c : Cl} (h : d8 P i T σ n T' σ' n' f) (hc : f.C = [c]) (hl : ∀ k, bY σ2 k (.ptr c.1 c.2.1 c.2.2) = bY σ k (.ptr c.1 c.2.1 c.2.2)) (hK : f.K = []) (hR : f.R = [c.1]) (hW : f.W = []) :
    σ' = σ ∧ n' = n ∧ d8 P i T σ2 n T' σ2 n' f := by
  rcases h.cell with h0 | ⟨k, x, c', hop, hx, h0⟩
  · rw [hc] at h0; cases h0
  · rw [hc] at h0
    cases h0
    obtain ⟨e1, e2, e3⟩ := h.loc.here.load (σ2 := σ2) (n2 := n) hop (by rw [hx]; exact hl k)
    subst e2
    refine ⟨e1, rfl, ⟨⟨Nat.le_refl _, by rw [hW]; intro id hid; (simp at hid), fun _ _ => rfl, fun σ3 hs => ?_⟩, .inr ⟨k, x, c, hop, hx, hc⟩, by rw [hK]; intro c hc; (simp at hc)⟩⟩
    rw [hW, j3]
    refine (h.loc.here.load (σ2 := σ3) (n2 := n') hop ?_).2.2
    rw [hx]
    have : σ3 c.1 = σ2 c.1 := hs c.1 (by rw [hR]; simp)
    rw [← hl k]
    simp only [bY, this]
theorem d8.puts {f : Ft} (h : d8 P i T σ n T' σ' n' f) : ∃ v, T' = aM T i.dst v ∧ ∀ T2, (∀ t ∈ i.reads, T t = T2 t) → d8 P i T2 σ n (aM T2 i.dst v) σ' n' f := by
  obtain ⟨v, h1, h2⟩ := h.loc.parts
  exact ⟨v, h1, fun T2 hT => ⟨h2 T2 hT, h.cell.reads hT, h.keep⟩⟩
def Ft.ok (f : Ft) : Prop := f.C = [] ∨ ∃ c, f.C = [c] ∧ f.K = [] ∧ f.R = [c.1] ∧ f.W = []
theorem sn {f g : Ft} (hj : d8 P j T σ n T1 σ1 n' f) (hi : d8 P i T1 σ1 m T2 σ2 m' g) (hf : f.ok) (hg : g.ok) (hs : fk j i = true) (hd : ja n n' f.R f.W m m' g.R g.W ∨ hY f g) :
    ∃ T3 σ3, d8 P i T σ m T3 σ3 m' g ∧ d8 P j T3 σ3 n T2 σ2 n' f := by
  rcases hd with hd | hd | hd
  · obtain ⟨v, w', σ3, h1, h2, h3, h4, h5, h6, h7, h8, h9⟩ := sm hj.loc hi.loc hs hd
    refine ⟨_, σ3, ⟨h3, hi.cell.reads h2, ?_⟩, ⟨h6, hj.cell.reads h4, ?_⟩⟩
    · rw [h5]; exact hi.keep.mix h9
    · rw [h7]; exact hj.keep.mix h8
  · -- the first one is the load
    obtain ⟨c, hc, hk⟩ := hd
    obtain ⟨d1, d2⟩ := lP hs
    obtain ⟨hK, hR, hW⟩ : f.K = [] ∧ f.R = [c.1] ∧ f.W = [] := by
      rcases hf with h | ⟨c', h, h'⟩
      · rw [hc] at h; cases h
      · rw [hc] at h; cases h; exact h'
    obtain ⟨vj, e1, f1⟩ := hj.puts
    obtain ⟨vi, e2, f2⟩ := hi.puts
    have hσ : σ1 = σ := (hj.move hc (fun _ => rfl) hK hR hW).1
    subst hσ
    have hT : ∀ t ∈ i.reads, T1 t = T t := fun t ht => by rw [e1]; exact fp (l := i.reads) (fun d hd => (d1 d hd).1) t ht
    have hTj : ∀ t ∈ j.reads, T t = aM T i.dst vi t := fun t ht => (fp (l := j.reads) (fun d hd => d2 d hd) t ht).symm
    have hj2 := (f1 _ hTj).move hc (σ2 := σ2) (hi.keep c hk).2 hK hR hW
    have et : aM (aM T i.dst vi) j.dst vj = T2 := by
      rw [e2, e1]
      exact (iJ (d1 := j.dst) (d2 := i.dst) fun d hd => (d1 d hd).2).symm
    rw [et] at hj2
    exact ⟨_, σ2, f2 T hT, hj2.2.2⟩
  · -- the second one is the load
    obtain ⟨c, hc, hk⟩ := hd
    obtain ⟨d1, d2⟩ := lP hs
    obtain ⟨hK, hR, hW⟩ : g.K = [] ∧ g.R = [c.1] ∧ g.W = [] := by
      rcases hg with h | ⟨c', h, h'⟩
      · rw [hc] at h; cases h
      · rw [hc] at h; cases h; exact h'
    obtain ⟨vj, e1, f1⟩ := hj.puts
    obtain ⟨vi, e2, f2⟩ := hi.puts
    have hσ : σ2 = σ1 := (hi.move hc (fun _ => rfl) hK hR hW).1
    subst hσ
    have hT : ∀ t ∈ i.reads, T1 t = T t := fun t ht => by rw [e1]; exact fp (l := i.reads) (fun d hd => (d1 d hd).1) t ht
    have hTj : ∀ t ∈ j.reads, T t = aM T i.dst vi t := fun t ht => (fp (l := j.reads) (fun d hd => d2 d hd) t ht).symm
    have hi2 := (f2 T hT).move hc (σ2 := σ) (fun k => ((hj.keep c hk).2 k).symm) hK hR hW
    have et : aM (aM T i.dst vi) j.dst vj = T2 := by
      rw [e2, e1]
      exact (iJ (d1 := j.dst) (d2 := i.dst) fun d hd => (d1 d hd).2).symm
    have hj2 := f1 _ hTj
    rw [et] at hj2
    exact ⟨_, σ, hi2.2.2, hj2⟩
def gE (P : Program) (l : List aT) (ν : Nat → Nat) (F : Nat → Ft) : List Nat → (Nat → V) → aq → (Nat → V) → aq → Prop
  | [], T, σ, T', σ' => T = T' ∧ σ = σ'
  | j :: r, T, σ, T', σ' => ∃ i T1 σ1, l[j]? = some i ∧ (d8 P i T σ (ν j) T1 σ1 (ν (j + 1)) (F j) ∧ (F j).ok) ∧ gE P l ν F r T1 σ1 T' σ'
theorem oU {l : List aT} {ν : Nat → Nat} {F : Nat → Ft} {q : Nat} {iq : aT} (hq : l[q]? = some iq) : ∀ (r1 r2 : List Nat) (T : Nat → V) (σ : aq), gE P l ν F (r1 ++ q :: r2) T σ T' σ' →
    (∀ j ∈ r1, ∀ ij, l[j]? = some ij → fk ij iq = true ∧ (ja (ν j) (ν (j + 1)) (F j).R (F j).W (ν q) (ν (q + 1)) (F q).R (F q).W ∨ hY (F j) (F q))) →
    ∃ T1 σ1, (d8 P iq T σ (ν q) T1 σ1 (ν (q + 1)) (F q) ∧ (F q).ok) ∧ gE P l ν F (r1 ++ r2) T1 σ1 T' σ'
  | [], r2, T, σ, h, _ => by
    obtain ⟨i, T1, σ1, h1, h2, h3⟩ := h
    rw [hq] at h1; cases h1
    exact ⟨T1, σ1, h2, h3⟩
  | j :: r1, r2, T, σ, h, hind => by
    obtain ⟨ij, T1, σ1, h1, h2, h3⟩ := h
    obtain ⟨T2, σ2, g1, g2⟩ := oU hq r1 r2 T1 σ1 h3 fun j hj => hind j (by simp [hj])
    obtain ⟨hsl, hdi⟩ := hind j (by simp) ij h1
    obtain ⟨T3, σ3, k1, k2⟩ := sn h2.1 g1.1 h2.2 g1.2 hsl hdi
    exact ⟨T3, σ3, ⟨k1, g1.2⟩, ij, T2, σ2, h1, ⟨k2, h2.2⟩, g2⟩
theorem sp {pairs : List (Nat × Nat)} {l : List aT} {ops : Array Oper} (h : kv pairs l ops = true) :
    (∀ (j : Nat) o, ops[j]? = some o → ∀ e ∈ o.after, Region.binds .any e = true → e.on < j) ∧
    ∀ (i j : Nat) a b o, i < j → l[i]? = some a → l[j]? = some b → ops[j]? = some o → eJ ops j i ∨
      (fk a b = true ∧ (a.op.cls = 0 ∨ b.op.cls = 0 ∨ (a.op.cls = 1 ∧ b.op.cls = 1) ∨ (i, j) ∈ pairs)) := by
  unfold kv at h
  simp only [Bool.and_eq_true] at h
  obtain ⟨h1, h2⟩ := h
  refine ⟨fun j o ho e he hb => ?_, fun i j a b o hij ha hb ho => ?_⟩
  · unfold jz at h1
    have hj : j < ops.size := (Array.getElem?_eq_some_iff.1 ho).1
    have := List.all_eq_true.1 h1 j (List.mem_range.2 hj)
    rw [ho] at this
    have := Array.all_eq_true_iff_forall_mem.1 this e he
    simpa [hb] using this
  · have hj : j < ops.size := (Array.getElem?_eq_some_iff.1 ho).1
    have := List.all_eq_true.1 h2 j (List.mem_range.2 hj)
    have := List.all_eq_true.1 this i (List.mem_range.2 hij)
    rw [ha, hb, ho] at this
    simp only [Bool.or_eq_true] at this
    rcases this with (this | this) | this
    · left
      unfold jy at this
      obtain ⟨q, hq, hc⟩ := Array.any_eq_true.1 this
      simp only [Bool.and_eq_true, beq_iff_eq] at hc
      obtain ⟨hb, hc⟩ := hc
      subst hc
      exact .one ho (Array.getElem_mem hq) hb
    rotate_left
    · exact .inl (k7 _ _ _ this)
    · right
      simp only [Bool.and_eq_true, Bool.or_eq_true, beq_iff_eq, List.contains_eq_mem, decide_eq_true_eq] at this
      refine ⟨this.1, ?_⟩
      rcases this.2 with ((h | h) | h) | h
      · exact .inl h
      · exact .inr (.inl h)
      · exact .inr (.inr (.inl h))
      · exact .inr (.inr (.inr h))
def V.ids : V → List Nat
  | .loc id _ _ => [id]
  | .ptr id _ _ => [id]
  | .mref id => [id]
  | _ => []
def V.idsA : V → List Nat
  | .agg vs => vs.flatMap V.ids
  | v => v.ids
def cV (op : aN) (e : AX → V) : List Nat :=
  match op with
  | .load _ x | .iaddr _ x _ | .b2s x | .slc _ x _ _ | .mget _ _ _ x _ | .mlen x => (e x).ids
  | .store _ a _ | .mset _ a _ _ => (e a).ids
  | .append _ x y _ => (e x).ids ++ (e y).ids
  | .clear _ _ x => (e x).ids
  | .bsliceV _ parts _ => (parts.map e).flatMap V.idsA
  | .appendC _ x y _ => (e x).ids ++ (e y).ids
  | .call false _ xs | .callv false _ xs => (xs.map e).flatMap V.idsA
  | _ => []
def cN (op : aN) (e : AX → V) : List Nat :=
  match op with
  | .store _ a _ | .mset _ a _ _ => (e a).ids
  | .append _ x _ _ => (e x).ids
  | .clear _ _ x => (e x).ids
  | .appendC _ x _ _ => (e x).ids
  | _ => []
theorem j4 {x : V} (h : ∀ id ∈ x.ids, σ2 id = σ id) : ew σ σ2 x := by
  refine ⟨fun id off len hx => h id ?_, fun id i j hx => h id ?_, fun id hx => h id ?_⟩ <;> (subst hx; simp [V.ids])
theorem oV {x : V} (h : ∀ id ∈ x.idsA, σ2 id = σ id) : gZ σ σ2 x := by
  refine ⟨?_, fun vs hx y hy => j4 fun id hid => h id ?_⟩
  · cases x with
    | agg vs => exact ⟨fun _ _ _ h => (nomatch h), fun _ _ _ h => (nomatch h), fun _ h => (nomatch h)⟩
    | _ => exact j4 h
  · subst hx; exact List.mem_flatMap.2 ⟨y, hy, hid⟩
theorem oW {k : Option Nat} {x : V} (h : ∀ id ∈ x.ids, σ2 id = σ id) : dA σ2 k x = dA σ k x := by
  unfold dA
  split
  · rfl
  · exact nM (j4 h)
theorem dF {n id : Nat} : cI n (n + 1) id ↔ id = n := by unfold cI; omega
theorem sq {k : Option Nat} {a x : V} (h : dg σ k a x = some σ') : ∃ id blk, a.ids = [id] ∧ σ' = ah σ id (some blk) ∧ ∀ σ2, σ2 id = σ id → dg σ2 k a x = some (ah σ2 id (some blk)) := by
  unfold dg at h
  split at h
  · rename_i id i j
    split at h
    · rename_i kb els hid
      split at h
      · rename_i d y hd
        cases hz : f4 kb d j k y with
        | none => rw [hz] at h; simp at h
        | some z =>
          rw [hz] at h
          simp at h
          refine ⟨id, _, rfl, h.symm, fun σ2 h2 => ?_⟩
          unfold dg
          simp only [h2, hid, hd, hz, Option.map_some]
      · cases h
    · rename_i cs hid
      split at h
      · rename_i hcond
        simp at h
        refine ⟨id, _, rfl, h.symm, fun σ2 h2 => ?_⟩
        unfold dg
        simp only [h2, hid]
        rw [if_pos hcond]
        simp
      · cases h
    · cases h
  · cases h
theorem oX {k : Option Nat} {x y : V} {m : Bool} (h : cW σ n k x y m = some (v, σ', n')) : n' = n + 1 ∧ (∃ blk, (x.ids = [] ∧ σ' = ah σ n (some blk) ∧ ∀ σ2, (∀ id ∈ y.ids, σ2 id = σ id) → cW σ2 n k x y m = some (v, ah σ2 n (some blk), n + 1)) ∨
    ∃ id, x.ids = [id] ∧ σ' = ah (ah σ id none) n (some blk) ∧ ∀ σ2, σ2 id = σ id → (∀ id ∈ y.ids, σ2 id = σ id) → cW σ2 n k x y m = some (v, ah (ah σ2 id none) n (some blk), n + 1)) := by
  unfold cW at h
  split at h
  · cases h
  · rename_i ys hys
    split at h
    · split at h
      · rename_i hle
        simp only [Option.some.injEq, Prod.mk.injEq] at h
        obtain ⟨rfl, rfl, rfl⟩ := h
        refine ⟨rfl, _, .inl ⟨rfl, rfl, fun σ2 h2 => ?_⟩⟩
        unfold cW
        rw [oW h2, hys]
        simp only [if_pos hle]
      · cases h
    · rename_i id len
      split at h
      · rename_i m' k' els hid
        split at h
        · rename_i hcond
          simp only [Option.some.injEq, Prod.mk.injEq] at h
          obtain ⟨rfl, rfl, rfl⟩ := h
          refine ⟨rfl, _, .inr ⟨id, rfl, rfl, fun σ2 h1 h2 => ?_⟩⟩
          unfold cW
          rw [oW h2, hys]
          simp only [h1, hid, if_pos hcond]
        · cases h
      · cases h
    · cases h
theorem lQ {op : aN} (h : op.cls = 0) : cV op e = [] ∧ cN op e = [] := by
  cases op <;> simp [aN.cls] at h <;> first | exact ⟨rfl, rfl⟩ | skip
  case call w f xs => cases w <;> simp at h
  case callv w x xs => cases w <;> simp at h
theorem oY {op : aN} (h : op.cls = 1) : cN op e = [] := by
  cases op <;> simp [aN.cls] at h <;> first | rfl | skip
theorem sr {op : aN} (h : op.cls = 2) : cV op e = [] ∧ cN op e = [] := by
  cases op <;> simp [aN.cls] at h <;> first | exact ⟨rfl, rfl⟩ | skip
  case call w f xs => cases w <;> simp at h
  case callv w x xs => cases w <;> simp at h
theorem ss {op : aN} : ∀ id ∈ cN op e, id ∈ cV op e := by
  intro id hid
  cases op <;> simp only [cN, cV, List.not_mem_nil, List.mem_append] at hid ⊢ <;> first | exact hid | exact .inl hid
theorem su {op : aN} (hc : op.callish = false) (h : bW P op e σ n v σ' n') : n ≤ n' ∧ (∀ id, ¬ (id ∈ cN op e ∨ cI n n' id) → σ' id = σ id) ∧
    ∀ σ2, (∀ id ∈ cV op e, σ2 id = σ id) → bW P op e σ2 n v (mix σ2 σ' (cN op e) n n') n' := by
  by_cases c0 : op.cls = 0
  · obtain ⟨rfl, rfl, h3⟩ := h.cls0 c0
    rw [(lQ c0).2]
    exact ⟨Nat.le_refl _, fun _ _ => rfl, fun σ2 _ => by rw [j3]; exact h3 σ2 n'⟩
  by_cases c1 : op.cls = 1
  · have key : ∀ σ2, (∀ id ∈ cV op e, σ2 id = σ id) → σ' = σ ∧ n' = n ∧ bW P op e σ2 n v σ2 n := fun σ2 hs => by
      refine h.cls1 (σ2 := σ2) (n2 := n) c1 (fun x hx => j4 fun id hid => hs id ?_) (fun x hx => oV fun id hid => hs id ?_)
      · cases op <;> simp only [aN.looks, List.not_mem_nil, List.mem_singleton] at hx <;> (subst hx; exact hid)
      · cases op <;> simp only [aN.sees, List.not_mem_nil] at hx
        case call w f xs => cases w with
          | false => exact List.mem_flatMap.2 ⟨e x, List.mem_map.2 ⟨x, hx, rfl⟩, hid⟩
          | true => simp [aN.cls] at c1
        case callv w y xs => cases w with
          | false => exact List.mem_flatMap.2 ⟨e x, List.mem_map.2 ⟨x, hx, rfl⟩, hid⟩
          | true => simp [aN.cls] at c1
    obtain ⟨rfl, rfl, _⟩ := key σ fun _ _ => rfl
    rw [oY c1]
    exact ⟨Nat.le_refl _, fun _ _ => rfl, fun σ2 hs => by rw [j3]; exact (key σ2 hs).2.2⟩
  by_cases c2 : op.cls = 2
  · obtain ⟨rfl, blk, rfl, h3⟩ := h.cls2 c2
    rw [(sr c2).2]
    refine ⟨Nat.le_succ _, fun id hid => ?_, fun σ2 _ => ?_⟩
    · rw [aD]; intro e; exact hid (.inr (dF.2 e))
    · have : mix σ2 (ah σ n (some blk)) [] n (n + 1) = ah σ2 n (some blk) := by
        funext id
        by_cases c : id = n
        · subst c; rw [c7 (.inr (dF.2 rfl)), aJ, aJ]
        · rw [de, aD _ _ c]
          rintro (h | h)
          · simp at h
          · exact c (dF.1 h)
      rw [this]; exact h3 σ2
  · -- what writes
    cases op <;> simp [aN.cls] at c0 c1 c2
    case box k x imm => cases imm <;> simp at c0 c2
    case store k a x =>
      have h : (dg σ k (e a) (e x)).map (fun σ' => (V.undef, σ', n)) = some (v, σ', n') := h
      simp only [Option.map_eq_some_iff, Prod.mk.injEq] at h
      obtain ⟨σ1, hs, rfl, rfl, rfl⟩ := h
      obtain ⟨id, blk, hid, rfl, h3⟩ := sq hs
      simp only [cN, cV, hid]
      refine ⟨Nat.le_refl _, fun id' h' => ?_, fun σ2 h2 => ?_⟩
      · rw [aD]; intro e; exact h' (.inl (by simp [e]))
      · have : mix σ2 (ah σ id (some blk)) [id] n n = ah σ2 id (some blk) := by
          funext id'
          by_cases c : id' = id
          · subst c; rw [c7 (.inl (by simp)), aJ, aJ]
          · rw [de, aD _ _ c]
            rintro (h | ⟨h1, h2⟩)
            · simp at h; exact c h
            · omega
        rw [this]
        show (dg σ2 k (e a) (e x)).map (fun σ' => (V.undef, σ', n)) = _
        rw [h3 σ2 (h2 id (by simp))]
        rfl
    case mset q x i u =>
      have h : ay (.mset q x i u) e σ n = some (v, σ', n') := h
      simp only [ay] at h
      split at h
      · rename_i id d dv hx hi hu
        split at h
        · rename_i es hid
          have fin : ∀ blk, v = V.undef → σ' = ah σ id (some blk) → n' = n → (∀ σ2 : aq, σ2 id = σ id → ay (.mset q x i u) e σ2 n = some (V.undef, ah σ2 id (some blk), n)) → n ≤ n' ∧ (∀ id, ¬ (id ∈ cN (.mset q x i u) e ∨ cI n n' id) → σ' id = σ id) ∧
              ∀ σ2, (∀ id ∈ cV (.mset q x i u) e, σ2 id = σ id) → bW P (.mset q x i u) e σ2 n v (mix σ2 σ' (cN (.mset q x i u) e) n n') n' := by
            rintro blk rfl rfl rfl h3
            simp only [cN, cV, hx, V.ids]
            refine ⟨Nat.le_refl _, fun id' h' => ?_, fun σ2 h2 => ?_⟩
            · rw [aD]; intro e; exact h' (.inl (by simp [e]))
            · have : mix σ2 (ah σ id (some blk)) [id] n' n' = ah σ2 id (some blk) := by
                funext id'
                by_cases c : id' = id
                · subst c; rw [c7 (.inl (by simp)), aJ, aJ]
                · rw [de, aD _ _ c]
                  rintro (h | ⟨h1, h2⟩)
                  · simp at h; exact c h
                  · omega
              rw [this]
              exact h3 σ2 (h2 id (by simp))
          split at h
          · rename_i hh hr
            simp only [Option.some.injEq, Prod.mk.injEq] at h
            obtain ⟨h1, h2, h3⟩ := h
            exact fin _ h1.symm h2.symm h3.symm fun σ2 hs => by simp [ay, hx, hi, hu, hs, hid, hh, hr]
          · rename_i hh hr
            simp only [Option.some.injEq, Prod.mk.injEq] at h
            obtain ⟨h1, h2, h3⟩ := h
            exact fin _ h1.symm h2.symm h3.symm fun σ2 hs => by simp [ay, hx, hi, hu, hs, hid, hh, hr]
          · cases h
        · cases h
      · cases h
    case appendC k x y m =>
      have h : ay (.appendC k x y m) e σ n = some (v, σ', n') := h
      simp only [ay] at h
      split at h
      · rename_i id len hx
        split at h
        · rename_i kb els hid
          split at h
          · rename_i hcond
            obtain ⟨rfl, blk, ⟨h1, rfl, h3⟩ | ⟨id', h1, rfl, h3⟩⟩ := oX h
            · rw [hx] at h1; simp [V.ids] at h1
            · have e1 : id = id' := by rw [hx] at h1; simpa [V.ids] using h1
              subst e1
              have uu : ∀ σ2 : aq, ah (ah σ2 id (some (.lst true kb (els.take len)))) id none = ah σ2 id none := fun σ2 => by funext q; simp only [ah]; split <;> rfl
              rw [uu]
              simp only [cN, cV, h1]
              refine ⟨Nat.le_succ _, fun id' h' => ?_, fun σ2 h2 => ?_⟩
              · rw [aD, aD]
                · intro e; exact h' (.inl (by simp [e]))
                · intro e; exact h' (.inr (dF.2 e))
              · have : mix σ2 (ah (ah σ id none) n (some blk)) [id] n (n + 1) = ah (ah σ2 id none) n (some blk) := by
                  funext id'
                  by_cases c : id' = n
                  · subst c; rw [c7 (.inr (dF.2 rfl)), aJ, aJ]
                  · by_cases c2 : id' = id
                    · subst c2; rw [c7 (.inl (by simp)), aD _ _ c, aD _ _ c, aJ, aJ]
                    · rw [de, aD _ _ c, aD _ _ c2]
                      rintro (h | h)
                      · simp at h; exact c2 h
                      · exact c (dF.1 h)
                rw [this]
                show ay (.appendC k x y m) e σ2 n = _
                have := h3 (ah σ2 id (some (.lst true kb (els.take len)))) (by simp [aJ]) (fun q hq => by
                  by_cases c : q = id
                  · subst c; simp [aJ]
                  · rw [aD _ _ c, aD _ _ c]; exact h2 q (by simp [hq]))
                rw [uu, hx] at this
                simp only [ay, hx, h2 id (by simp), hid, if_pos hcond]
                exact this
          · cases h
        · cases h
      · cases h
    case clear k z x =>
      have h : ay (.clear k z x) e σ n = some (v, σ', n') := h
      simp only [ay] at h
      split at h
      · rename_i id off len hx
        split at h
        · rename_i kb els hid
          split at h
          · rename_i hcond
            simp only [Option.some.injEq, Prod.mk.injEq] at h
            obtain ⟨rfl, rfl, rfl⟩ := h
            simp only [cN, cV, hx, V.ids]
            refine ⟨Nat.le_refl _, fun id' h' => ?_, fun σ2 h2 => ?_⟩
            · rw [aD]; intro e; exact h' (.inl (by simp [e]))
            · have : mix σ2 (ah σ id (some (.lst true kb (els.take off)))) [id] n n = ah σ2 id (some (.lst true kb (els.take off))) := by
                funext id'
                by_cases c : id' = id
                · subst c; rw [c7 (.inl (by simp)), aJ, aJ]
                · rw [de, aD _ _ c]
                  rintro (h | ⟨h1, h2⟩)
                  · simp at h; exact c h
                  · omega
              rw [this]
              show ay (.clear k z x) e σ2 n = _
              simp only [ay, hx, h2 id (by simp), hid, if_pos hcond]
          · cases h
        · cases h
      · cases h
    case append k x y m =>
      have h : cW σ n k (e x) (e y) m = some (v, σ', n') := h
      obtain ⟨rfl, blk, ⟨h1, rfl, h3⟩ | ⟨id, h1, rfl, h3⟩⟩ := oX h
      · simp only [cN, cV, h1]
        refine ⟨Nat.le_succ _, fun id' h' => ?_, fun σ2 h2 => ?_⟩
        · rw [aD]; intro e; exact h' (.inr (dF.2 e))
        · have : mix σ2 (ah σ n (some blk)) [] n (n + 1) = ah σ2 n (some blk) := by
            funext id
            by_cases c : id = n
            · subst c; rw [c7 (.inr (dF.2 rfl)), aJ, aJ]
            · rw [de, aD _ _ c]
              rintro (h | h)
              · simp at h
              · exact c (dF.1 h)
          rw [this]
          exact h3 σ2 fun id hid => h2 id (by simpa using hid)
      · simp only [cN, cV, h1]
        refine ⟨Nat.le_succ _, fun id' h' => ?_, fun σ2 h2 => ?_⟩
        · rw [aD, aD]
          · intro e; exact h' (.inl (by simp [e]))
          · intro e; exact h' (.inr (dF.2 e))
        · have : mix σ2 (ah (ah σ id none) n (some blk)) [id] n (n + 1) = ah (ah σ2 id none) n (some blk) := by
            funext id'
            by_cases c : id' = n
            · subst c; rw [c7 (.inr (dF.2 rfl)), aJ, aJ]
            · by_cases c2 : id' = id
              · subst c2; rw [c7 (.inl (by simp)), aD _ _ c, aD _ _ c, aJ, aJ]
              · rw [de, aD _ _ c, aD _ _ c2]
                rintro (h | h)
                · simp at h; exact c2 h
                · exact c (dF.1 h)
          rw [this]
          exact h3 σ2 (h2 id (by simp)) fun id hid => h2 id (by simp [hid])
    case bsliceV k parts m =>
      have h : ay (.bsliceV k parts m) e σ n = some (v, σ', n') := h
      simp only [ay] at h
      split at h
      · rename_i ds hd
        split at h
        · rename_i hsh
          simp only [Option.some.injEq, Prod.mk.injEq] at h
          obtain ⟨rfl, rfl, rfl⟩ := h
          simp only [cN, cV]
          refine ⟨Nat.le_succ _, fun id' h' => ?_, fun σ2 h2 => ?_⟩
          · rw [aD]; intro e; exact h' (.inr (dF.2 e))
          · have : mix σ2 (ah σ n (some (.lst m k ds))) [] n (n + 1) = ah σ2 n (some (.lst m k ds)) := by
              funext id
              by_cases c : id = n
              · subst c; rw [c7 (.inr (dF.2 rfl)), aJ, aJ]
              · rw [de, aD _ _ c]
                rintro (h | h)
                · simp at h
                · exact c (dF.1 h)
            rw [this]
            show ay (.bsliceV k parts m) e σ2 n = _
            have hv : (parts.map fun x => cY σ2 (e x)) = parts.map fun x => cY σ (e x) := List.map_congr_left fun x hx => nO (oV fun id hid => h2 id (List.mem_flatMap.2 ⟨e x, List.mem_map.2 ⟨x, hx, rfl⟩, hid⟩))
            simp only [ay, hv, hd, if_pos hsh]
        · cases h
      · cases h
    case call w f xs => cases w <;> simp [aN.callish] at hc c1
    case callv w x xs => cases w <;> simp [aN.callish] at hc c1
end
end Go.AM
