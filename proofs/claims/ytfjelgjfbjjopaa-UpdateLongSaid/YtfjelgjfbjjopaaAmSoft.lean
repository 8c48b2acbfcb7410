import Derived.Test.YtfjelgjfbjjopaaAmWp2
set_option linter.unusedVariables false
set_option linter.unusedSectionVars false
set_option linter.unusedSimpArgs false
namespace Go.AM
open Go Go.RowKit
variable [Glob]
def cF (n n' : Nat) (id : Nat) : Prop := n ≤ id ∧ id < n'
open Classical in
noncomputable def mix (σ2 σ' : au) (W : List Nat) (n n' : Nat) : au := fun id => if id ∈ W ∨ cF n n' id then σ' id else σ2 id
section
variable {P : Program} {N : Nat} {A : Nat → Nat → Prop} {μ : Nat → Option aJ} {T T' T1 T2 : Nat → V} {σ σ' σ1 σ2 : au} {w : World} {a : Act} {o : Oper} {n n' m m' n1 n2 : Nat} {v : V} {e : AX → V} {i j : aQ} {R W R2 W2 : List Nat}
theorem cT {id : Nat} (h : id ∈ W ∨ cF n n' id) : mix σ2 σ' W n n' id = σ' id := by simp only [mix, if_pos h]
theorem c6 {id : Nat} (h : ¬ (id ∈ W ∨ cF n n' id)) : mix σ2 σ' W n n' id = σ2 id := by simp only [mix, if_neg h]
theorem rS (h : ∀ id, ¬ (id ∈ W ∨ cF n n' id) → σ' id = σ id) : mix σ σ' W n n' = σ' := by
  funext id
  by_cases c : id ∈ W ∨ cF n n' id
  · exact cT c
  · rw [c6 c, h id c]
abbrev Cl := Nat × Nat × Nat
def gX (op : aM) (e : AX → V) (C : List Cl) : Prop := C = [] ∨ ∃ k x c, op = .load k x ∧ e x = .ptr c.1 c.2.1 c.2.2 ∧ C = [c]
def f8 (σ σ' : au) (R : List Nat) (K : List Cl) : Prop := ∀ c ∈ K, c.1 ∈ R ∧ ∀ k, bU σ' k (.ptr c.1 c.2.1 c.2.2) = bU σ k (.ptr c.1 c.2.1 c.2.2)
structure dT (P : Program) (i : aQ) (T : Nat → V) (σ : au) (n : Nat) (T' : Nat → V) (σ' : au) (n' : Nat) (R W : List Nat) : Prop where
  le : n ≤ n'
  sub : ∀ id ∈ W, id ∈ R
  kept : ∀ id, ¬ (id ∈ W ∨ cF n n' id) → σ' id = σ id
  step : ∀ σ2, (∀ id ∈ R, σ2 id = σ id) → aU P i T σ2 n T' (mix σ2 σ' W n n') n'
theorem dT.here (h : dT P i T σ n T' σ' n' R W) : aU P i T σ n T' σ' n' := by
  have := h.step σ fun _ _ => rfl
  rwa [rS h.kept] at this
def iQ (n n' : Nat) (R W : List Nat) (m m' : Nat) (R2 W2 : List Nat) : Prop :=
  ∀ id, ((id ∈ W ∨ cF n n' id) → ¬ (id ∈ R2 ∨ cF m m' id)) ∧ ((id ∈ W2 ∨ cF m m' id) → ¬ (id ∈ R ∨ cF n n' id))
theorem lC (h : e8 i j = true) : (∀ d, i.dst = some d → d ∉ j.reads ∧ j.dst ≠ some d) ∧ (∀ d, j.dst = some d → d ∉ i.reads) := by
  unfold e8 at h
  simp only [Bool.and_eq_true] at h
  obtain ⟨h1, h2⟩ := h
  refine ⟨fun d hd => ?_, fun d hd => ?_⟩
  · rw [hd] at h1
    simp only [Bool.and_eq_true, Bool.not_eq_true', bne_iff_ne, List.contains_eq_mem, decide_eq_false_iff_not] at h1
    exact h1
  · rw [hd] at h2
    simpa using h2
theorem rT {dst : Option Nat} {u v : V} (h : aO T dst u = aO T dst v) : aO T2 dst u = aO T2 dst v := by
  cases dst with
  | none => rfl
  | some d =>
    have : u = v := by
      have := congrFun h d
      simpa [aO, aL] using this
    rw [this]
theorem dT.parts (h : dT P i T σ n T' σ' n' R W) : ∃ v, T' = aO T i.dst v ∧ ∀ T2, (∀ t ∈ i.reads, T t = T2 t) → dT P i T2 σ n (aO T2 i.dst v) σ' n' R W := by
  obtain ⟨v, hv, _⟩ := h.here.parts
  refine ⟨v, hv, fun T2 hT => ⟨h.le, h.sub, h.kept, fun σ2 hs => ?_⟩⟩
  · obtain ⟨v2, hv2, k⟩ := (h.step σ2 hs).parts
    rw [rT (T := T) (T2 := T2) (u := v) (v := v2) (by rw [← hv, ← hv2])]
    exact k T2 hT
theorem dT.agree (h : dT P i T σ n T' σ' n' R W) (hs : ∀ id ∈ R, σ2 id = σ id) : dT P i T σ2 n T' (mix σ2 σ' W n n') n' R W := by
  have e : ∀ σx, mix σx (mix σ2 σ' W n n') W n n' = mix σx σ' W n n' := by
    intro σx
    funext id
    by_cases c : id ∈ W ∨ cF n n' id
    · rw [cT c, cT c, cT c]
    · rw [c6 c, c6 c]
  refine ⟨h.le, h.sub, fun id c => c6 c, fun σx hx => ?_⟩
  · rw [e]; exact h.step σx fun id hid => (hx id hid).trans (hs id hid)
theorem jM (σ2 σ' : au) (n : Nat) : mix σ2 σ' [] n n = σ2 := by
  funext id
  exact c6 (by rintro (h | ⟨h1, h2⟩)
               · simp at h
               · omega)
theorem rU (hj : dT P j T σ n T1 σ1 n' R W) (hi : dT P i T1 σ1 m T2 σ2 m' R2 W2) (hs : e8 j i = true) (hd : iQ n n' R W m m' R2 W2) :
    ∃ v w' σ3, T1 = aO T j.dst v ∧ (∀ t ∈ i.reads, T1 t = T t) ∧ dT P i T σ m (aO T i.dst w') σ3 m' R2 W2 ∧ (∀ t ∈ j.reads, T t = aO T i.dst w' t) ∧ σ3 = mix σ σ2 W2 m m' ∧ dT P j (aO T i.dst w') σ3 n T2 σ2 n' R W ∧ σ2 = mix σ3 σ1 W n n' ∧ (∀ id ∈ R, σ3 id = σ id) ∧ (∀ id ∈ R2, σ id = σ1 id) := by
  obtain ⟨d1, d2⟩ := lC hs
  obtain ⟨vj, e1, f1⟩ := hj.parts
  obtain ⟨vi, e2, f2⟩ := hi.parts
  have hT : ∀ t ∈ i.reads, T1 t = T t := fun t ht => by rw [e1]; exact fc (l := i.reads) (fun d hd => (d1 d hd).1) t ht
  have hR2 : ∀ id ∈ R2, σ id = σ1 id := fun id hid => (hj.kept id fun c => (hd id).1 c (.inl hid)).symm
  have hi' := (f2 T hT).agree hR2
  have hTj : ∀ t ∈ j.reads, T t = aO T i.dst vi t := fun t ht => (fc (l := j.reads) (fun d hd => d2 d hd) t ht).symm
  have hj1 := f1 (aO T i.dst vi) hTj
  have hR : ∀ id ∈ R, mix σ σ2 W2 m m' id = σ id := fun id hid => c6 fun c => (hd id).2 c (.inl hid)
  have hj2 := hj1.agree hR
  have ee : mix (mix σ σ2 W2 m m') σ1 W n n' = σ2 := by
    funext id
    by_cases c : id ∈ W ∨ cF n n' id
    · rw [cT c]
      refine (hi.kept id fun c2 => (hd id).1 c ?_).symm
      rcases c2 with c2 | c2
      · exact .inl (hi.sub id c2)
      · exact .inr c2
    · rw [c6 c]
      by_cases c2 : id ∈ W2 ∨ cF m m' id
      · rw [cT c2]
      · rw [c6 c2, hi.kept id c2, hj.kept id c]
  rw [ee] at hj2
  have et : aO (aO T i.dst vi) j.dst vj = T2 := by
    rw [e2, e1]
    exact (iz (d1 := j.dst) (d2 := i.dst) fun d hd => (d1 d hd).2).symm
  rw [et] at hj2
  exact ⟨vj, vi, _, e1, hT, hi', hTj, rfl, hj2, ee.symm, hR, hR2⟩
structure Ft where
  R : List Nat
  W : List Nat
  C : List Cl
  K : List Cl
structure dU (P : Program) (i : aQ) (T : Nat → V) (σ : au) (n : Nat) (T' : Nat → V) (σ' : au) (n' : Nat) (f : Ft) : Prop where
  loc : dT P i T σ n T' σ' n' f.R f.W
  cell : gX i.op (aD T) f.C
  keep : f8 σ σ' f.R f.K
def iR (f g : Ft) : Prop := (∃ c, f.C = [c] ∧ c ∈ g.K) ∨ ∃ c, g.C = [c] ∧ c ∈ f.K
theorem gX.reads {C : List Cl} {op : aM} {dst : Option Nat} {g : Option (Nat × Bool)} (h : gX op (aD T) C) (hT : ∀ t ∈ (aQ.mk dst op g).reads, T t = T2 t) : gX op (aD T2) C := by
  rcases h with h | ⟨k, x, c, rfl, h2, h3⟩
  · exact .inl h
  · refine .inr ⟨k, x, c, rfl, ?_, h3⟩
    rw [← h2]
    refine (e9 fun t ht => hT t ?_).symm
    simp only [aQ.reads, aM.reads]
    simp [ht]
theorem f8.mix {K : List Cl} (h : f8 σ σ' R K) (hR : ∀ id ∈ R, σ2 id = σ id) : f8 σ2 (mix σ2 σ' W n n') R K := by
  intro c hc
  obtain ⟨h1, h2⟩ := h c hc
  refine ⟨h1, fun k => ?_⟩
  have e2 : bU σ2 k (.ptr c.1 c.2.1 c.2.2) = bU σ k (.ptr c.1 c.2.1 c.2.2) := by
    simp only [bU, hR c.1 h1]
  by_cases q : c.1 ∈ W ∨ cF n n' c.1
  · rw [e2, ← h2 k]
    simp only [bU, cT q]
  · simp only [bU, c6 q]
theorem aU.load {k : Option Nat} {x : AX} (hop : i.op = .load k x) (h : aU P i T σ n T' σ' n') (hl : bU σ2 k (aD T x) = bU σ k (aD T x)) : σ' = σ ∧ n' = n ∧ aU P i T σ2 n2 T' σ2 n2 := by
  have key : ∀ {v}, bQ P i.op (aD T) σ n v σ' n' → σ' = σ ∧ n' = n ∧ bQ P i.op (aD T) σ2 n2 v σ2 n2 := by
    intro v h
    rw [hop] at h ⊢
    have h : ay (.load k x) (aD T) σ n = some (v, σ', n') := h
    show _ ∧ _ ∧ ay (.load k x) (aD T) σ2 n2 = some (v, σ2, n2)
    simp only [ay] at h ⊢
    rw [hl]
    cases hv : bU σ k (aD T x) with
    | none => rw [hv] at h; cases h
    | some u =>
      rw [hv] at h
      simp only [Option.map_some, Option.some.injEq, Prod.mk.injEq] at h
      exact ⟨h.2.1.symm, h.2.2.symm, by rw [h.1]; rfl⟩
  unfold aU at h
  cases hg : i.guard with
  | none =>
    rw [hg] at h
    obtain ⟨v, h1, h2⟩ := h
    obtain ⟨k1, k2, k3⟩ := key h1
    exact ⟨k1, k2, by unfold aU; rw [hg]; exact ⟨v, k3, h2⟩⟩
  | some p =>
    obtain ⟨g, b⟩ := p
    rw [hg] at h
    obtain ⟨b', hT, h⟩ := h
    by_cases hb : b' = some b
    · rw [if_pos hb] at h
      obtain ⟨v, h1, h2⟩ := h
      obtain ⟨k1, k2, k3⟩ := key h1
      exact ⟨k1, k2, by unfold aU; rw [hg]; exact ⟨b', hT, by rw [if_pos hb]; exact ⟨v, k3, h2⟩⟩⟩
    · rw [if_neg hb] at h
      obtain ⟨h1, h2, h3⟩ := h
      exact ⟨h2, h3, by unfold aU; rw [hg]; exact ⟨b', hT, by rw [if_neg hb]; exact ⟨h1, rfl, rfl⟩⟩⟩
theorem dU.move {f : Ft} {c : Cl} (h : dU P i T σ n T' σ' n' f) (hc : f.C = [c]) (hl : ∀ k, bU σ2 k (.ptr c.1 c.2.1 c.2.2) = bU σ k (.ptr c.1 c.2.1 c.2.2)) (hK : f.K = []) (hR : f.R = [c.1]) (hW : f.W = []) :
    σ' = σ ∧ n' = n ∧ dU P i T σ2 n T' σ2 n' f := by
  rcases h.cell with h0 | ⟨k, x, c', hop, hx, h0⟩
  · rw [hc] at h0; cases h0
  · rw [hc] at h0
    cases h0
    obtain ⟨e1, e2, e3⟩ := h.loc.here.load (σ2 := σ2) (n2 := n) hop (by rw [hx]; exact hl k)
    subst e2
    refine ⟨e1, rfl, ⟨⟨Nat.le_refl _, by rw [hW]; intro id hid; (simp at hid), fun _ _ => rfl, fun σ3 hs => ?_⟩, .inr ⟨k, x, c, hop, hx, hc⟩, by rw [hK]; intro c hc; (simp at hc)⟩⟩
    rw [hW, jM]
    refine (h.loc.here.load (σ2 := σ3) (n2 := n') hop ?_).2.2
    rw [hx]
    have : σ3 c.1 = σ2 c.1 := hs c.1 (by rw [hR]; simp)
    rw [← hl k]
    simp only [bU, this]
theorem dU.puts {f : Ft} (h : dU P i T σ n T' σ' n' f) : ∃ v, T' = aO T i.dst v ∧ ∀ T2, (∀ t ∈ i.reads, T t = T2 t) → dU P i T2 σ n (aO T2 i.dst v) σ' n' f := by
  obtain ⟨v, h1, h2⟩ := h.loc.parts
  exact ⟨v, h1, fun T2 hT => ⟨h2 T2 hT, h.cell.reads hT, h.keep⟩⟩
def Ft.ok (f : Ft) : Prop := f.C = [] ∨ ∃ c, f.C = [c] ∧ f.K = [] ∧ f.R = [c.1] ∧ f.W = []
theorem rV {f g : Ft} (hj : dU P j T σ n T1 σ1 n' f) (hi : dU P i T1 σ1 m T2 σ2 m' g) (hf : f.ok) (hg : g.ok) (hs : e8 j i = true) (hd : iQ n n' f.R f.W m m' g.R g.W ∨ iR f g) :
    ∃ T3 σ3, dU P i T σ m T3 σ3 m' g ∧ dU P j T3 σ3 n T2 σ2 n' f := by
  rcases hd with hd | hd | hd
  · obtain ⟨v, w', σ3, h1, h2, h3, h4, h5, h6, h7, h8, h9⟩ := rU hj.loc hi.loc hs hd
    refine ⟨_, σ3, ⟨h3, hi.cell.reads h2, ?_⟩, ⟨h6, hj.cell.reads h4, ?_⟩⟩
    · rw [h5]; exact hi.keep.mix h9
    · rw [h7]; exact hj.keep.mix h8
  · -- the first one is the load
    obtain ⟨c, hc, hk⟩ := hd
    obtain ⟨d1, d2⟩ := lC hs
    obtain ⟨hK, hR, hW⟩ : f.K = [] ∧ f.R = [c.1] ∧ f.W = [] := by
      rcases hf with h | ⟨c', h, h'⟩
      · rw [hc] at h; cases h
      · rw [hc] at h; cases h; exact h'
    obtain ⟨vj, e1, f1⟩ := hj.puts
    obtain ⟨vi, e2, f2⟩ := hi.puts
    have hσ : σ1 = σ := (hj.move hc (fun _ => rfl) hK hR hW).1
    subst hσ
    have hT : ∀ t ∈ i.reads, T1 t = T t := fun t ht => by rw [e1]; exact fc (l := i.reads) (fun d hd => (d1 d hd).1) t ht
    have hTj : ∀ t ∈ j.reads, T t = aO T i.dst vi t := fun t ht => (fc (l := j.reads) (fun d hd => d2 d hd) t ht).symm
    have hj2 := (f1 _ hTj).move hc (σ2 := σ2) (hi.keep c hk).2 hK hR hW
    have et : aO (aO T i.dst vi) j.dst vj = T2 := by
      rw [e2, e1]
      exact (iz (d1 := j.dst) (d2 := i.dst) fun d hd => (d1 d hd).2).symm
    rw [et] at hj2
    exact ⟨_, σ2, f2 T hT, hj2.2.2⟩
  · -- the second one is the load
    obtain ⟨c, hc, hk⟩ := hd
    obtain ⟨d1, d2⟩ := lC hs
    obtain ⟨hK, hR, hW⟩ : g.K = [] ∧ g.R = [c.1] ∧ g.W = [] := by
      rcases hg with h | ⟨c', h, h'⟩
      · rw [hc] at h; cases h
      · rw [hc] at h; cases h; exact h'
    obtain ⟨vj, e1, f1⟩ := hj.puts
    obtain ⟨vi, e2, f2⟩ := hi.puts
    have hσ : σ2 = σ1 := (hi.move hc (fun _ => rfl) hK hR hW).1
    subst hσ
    have hT : ∀ t ∈ i.reads, T1 t = T t := fun t ht => by rw [e1]; exact fc (l := i.reads) (fun d hd => (d1 d hd).1) t ht
    have hTj : ∀ t ∈ j.reads, T t = aO T i.dst vi t := fun t ht => (fc (l := j.reads) (fun d hd => d2 d hd) t ht).symm
    have hi2 := (f2 T hT).move hc (σ2 := σ) (fun k => ((hj.keep c hk).2 k).symm) hK hR hW
    have et : aO (aO T i.dst vi) j.dst vj = T2 := by
      rw [e2, e1]
      exact (iz (d1 := j.dst) (d2 := i.dst) fun d hd => (d1 d hd).2).symm
    have hj2 := f1 _ hTj
    rw [et] at hj2
    exact ⟨_, σ, hi2.2.2, hj2⟩
def f9 (P : Program) (l : List aQ) (ν : Nat → Nat) (F : Nat → Ft) : List Nat → (Nat → V) → au → (Nat → V) → au → Prop
  | [], T, σ, T', σ' => T = T' ∧ σ = σ'
  | j :: r, T, σ, T', σ' => ∃ i T1 σ1, l[j]? = some i ∧ (dU P i T σ (ν j) T1 σ1 (ν (j + 1)) (F j) ∧ (F j).ok) ∧ f9 P l ν F r T1 σ1 T' σ'
theorem oz {l : List aQ} {ν : Nat → Nat} {F : Nat → Ft} {q : Nat} {iq : aQ} (hq : l[q]? = some iq) : ∀ (r1 r2 : List Nat) (T : Nat → V) (σ : au), f9 P l ν F (r1 ++ q :: r2) T σ T' σ' →
    (∀ j ∈ r1, ∀ ij, l[j]? = some ij → e8 ij iq = true ∧ (iQ (ν j) (ν (j + 1)) (F j).R (F j).W (ν q) (ν (q + 1)) (F q).R (F q).W ∨ iR (F j) (F q))) →
    ∃ T1 σ1, (dU P iq T σ (ν q) T1 σ1 (ν (q + 1)) (F q) ∧ (F q).ok) ∧ f9 P l ν F (r1 ++ r2) T1 σ1 T' σ'
  | [], r2, T, σ, h, _ => by
    obtain ⟨i, T1, σ1, h1, h2, h3⟩ := h
    rw [hq] at h1; cases h1
    exact ⟨T1, σ1, h2, h3⟩
  | j :: r1, r2, T, σ, h, hind => by
    obtain ⟨ij, T1, σ1, h1, h2, h3⟩ := h
    obtain ⟨T2, σ2, g1, g2⟩ := oz hq r1 r2 T1 σ1 h3 fun j hj => hind j (by simp [hj])
    obtain ⟨hsl, hdi⟩ := hind j (by simp) ij h1
    obtain ⟨T3, σ3, k1, k2⟩ := rV h2.1 g1.1 h2.2 g1.2 hsl hdi
    exact ⟨T3, σ3, ⟨k1, g1.2⟩, ij, T2, σ2, h1, ⟨k2, h2.2⟩, g2⟩
theorem rW {pairs : List (Nat × Nat)} {l : List aQ} {ops : Array Oper} (h : kc pairs l ops = true) :
    (∀ (j : Nat) o, ops[j]? = some o → ∀ e ∈ o.after, Region.binds .any e = true → e.on < j) ∧
    ∀ (i j : Nat) a b o, i < j → l[i]? = some a → l[j]? = some b → ops[j]? = some o → ex ops j i ∨
      (e8 a b = true ∧ (a.op.cls = 0 ∨ b.op.cls = 0 ∨ (a.op.cls = 1 ∧ b.op.cls = 1) ∨ (i, j) ∈ pairs)) := by
  unfold kc at h
  simp only [Bool.and_eq_true] at h
  obtain ⟨h1, h2⟩ := h
  refine ⟨fun j o ho e he hb => ?_, fun i j a b o hij ha hb ho => ?_⟩
  · unfold jh at h1
    have hj : j < ops.size := (Array.getElem?_eq_some_iff.1 ho).1
    have := List.all_eq_true.1 h1 j (List.mem_range.2 hj)
    rw [ho] at this
    have := Array.all_eq_true_iff_forall_mem.1 this e he
    simpa [hb] using this
  · have hj : j < ops.size := (Array.getElem?_eq_some_iff.1 ho).1
    have := List.all_eq_true.1 h2 j (List.mem_range.2 hj)
    have := List.all_eq_true.1 this i (List.mem_range.2 hij)
    rw [ha, hb, ho] at this
    simp only [Bool.or_eq_true] at this
    rcases this with (this | this) | this
    · left
      unfold jg at this
      obtain ⟨q, hq, hc⟩ := Array.any_eq_true.1 this
      simp only [Bool.and_eq_true, beq_iff_eq] at hc
      obtain ⟨hb, hc⟩ := hc
      subst hc
      exact .one ho (Array.getElem_mem hq) hb
    rotate_left
    · exact .inl (kP _ _ _ this)
    · right
      simp only [Bool.and_eq_true, Bool.or_eq_true, beq_iff_eq, List.contains_eq_mem, decide_eq_true_eq] at this
      refine ⟨this.1, ?_⟩
      rcases this.2 with ((h | h) | h) | h
      · exact .inl h
      · exact .inr (.inl h)
      · exact .inr (.inr (.inl h))
      · exact .inr (.inr (.inr h))
def V.ids : V → List Nat
  | .loc id _ _ => [id]
  | .ptr id _ _ => [id]
  | .mref id => [id]
  | _ => []
def V.idsA : V → List Nat
  | .agg vs => vs.flatMap V.ids
  | v => v.ids
def dm (op : aM) (e : AX → V) : List Nat :=
  match op with
  | .load _ x | .iaddr _ x _ | .b2s x | .slc _ x _ _ | .mget _ _ _ x _ | .mlen x => (e x).ids
  | .store _ a _ | .mset _ a _ _ => (e a).ids
  | .append _ x y _ => (e x).ids ++ (e y).ids
  | .clear _ _ x => (e x).ids
  | .bsliceV _ parts _ => (parts.map e).flatMap V.idsA
  | .appendC _ x y _ => (e x).ids ++ (e y).ids
  | .call false _ xs | .callv false _ xs => (xs.map e).flatMap V.idsA
  | _ => []
def dc (op : aM) (e : AX → V) : List Nat :=
  match op with
  | .store _ a _ | .mset _ a _ _ => (e a).ids
  | .append _ x _ _ => (e x).ids
  | .clear _ _ x => (e x).ids
  | .appendC _ x _ _ => (e x).ids
  | _ => []
theorem jN {x : V} (h : ∀ id ∈ x.ids, σ2 id = σ id) : dZ σ σ2 x := by
  refine ⟨fun id off len hx => h id ?_, fun id i j hx => h id ?_, fun id hx => h id ?_⟩ <;> (subst hx; simp [V.ids])
theorem oA {x : V} (h : ∀ id ∈ x.idsA, σ2 id = σ id) : gJ σ σ2 x := by
  refine ⟨?_, fun vs hx y hy => jN fun id hid => h id ?_⟩
  · cases x with
    | agg vs => exact ⟨fun _ _ _ h => (nomatch h), fun _ _ _ h => (nomatch h), fun _ h => (nomatch h)⟩
    | _ => exact jN h
  · subst hx; exact List.mem_flatMap.2 ⟨y, hy, hid⟩
theorem oB {k : Option Nat} {x : V} (h : ∀ id ∈ x.ids, σ2 id = σ id) : dV σ2 k x = dV σ k x := by
  unfold dV
  split
  · rfl
  · exact nd (jN h)
theorem dp {n id : Nat} : cF n (n + 1) id ↔ id = n := by unfold cF; omega
theorem rX {k : Option Nat} {a x : V} (h : dM σ k a x = some σ') : ∃ id blk, a.ids = [id] ∧ σ' = aj σ id (some blk) ∧ ∀ σ2, σ2 id = σ id → dM σ2 k a x = some (aj σ2 id (some blk)) := by
  unfold dM at h
  split at h
  · rename_i id i j
    split at h
    · rename_i kb els hid
      split at h
      · rename_i d y hd
        cases hz : fk kb d j k y with
        | none => rw [hz] at h; simp at h
        | some z =>
          rw [hz] at h
          simp at h
          refine ⟨id, _, rfl, h.symm, fun σ2 h2 => ?_⟩
          unfold dM
          simp only [h2, hid, hd, hz, Option.map_some]
      · cases h
    · rename_i cs hid
      split at h
      · rename_i hcond
        simp at h
        refine ⟨id, _, rfl, h.symm, fun σ2 h2 => ?_⟩
        unfold dM
        simp only [h2, hid]
        rw [if_pos hcond]
        simp
      · cases h
    · cases h
  · cases h
theorem oC {k : Option Nat} {x y : V} {m : Bool} (h : cX σ n k x y m = some (v, σ', n')) : n' = n + 1 ∧ (∃ blk, (x.ids = [] ∧ σ' = aj σ n (some blk) ∧ ∀ σ2, (∀ id ∈ y.ids, σ2 id = σ id) → cX σ2 n k x y m = some (v, aj σ2 n (some blk), n + 1)) ∨
    ∃ id, x.ids = [id] ∧ σ' = aj (aj σ id none) n (some blk) ∧ ∀ σ2, σ2 id = σ id → (∀ id ∈ y.ids, σ2 id = σ id) → cX σ2 n k x y m = some (v, aj (aj σ2 id none) n (some blk), n + 1)) := by
  unfold cX at h
  split at h
  · cases h
  · rename_i ys hys
    split at h
    · split at h
      · rename_i hle
        simp only [Option.some.injEq, Prod.mk.injEq] at h
        obtain ⟨rfl, rfl, rfl⟩ := h
        refine ⟨rfl, _, .inl ⟨rfl, rfl, fun σ2 h2 => ?_⟩⟩
        unfold cX
        rw [oB h2, hys]
        simp only [if_pos hle]
      · cases h
    · rename_i id len
      split at h
      · rename_i m' k' els hid
        split at h
        · rename_i hcond
          simp only [Option.some.injEq, Prod.mk.injEq] at h
          obtain ⟨rfl, rfl, rfl⟩ := h
          refine ⟨rfl, _, .inr ⟨id, rfl, rfl, fun σ2 h1 h2 => ?_⟩⟩
          unfold cX
          rw [oB h2, hys]
          simp only [h1, hid, if_pos hcond]
        · cases h
      · cases h
    · cases h
theorem lD {op : aM} (h : op.cls = 0) : dm op e = [] ∧ dc op e = [] := by
  cases op <;> simp [aM.cls] at h <;> first | exact ⟨rfl, rfl⟩ | skip
  case call w f xs => cases w <;> simp at h
  case callv w x xs => cases w <;> simp at h
theorem oD {op : aM} (h : op.cls = 1) : dc op e = [] := by
  cases op <;> simp [aM.cls] at h <;> first | rfl | skip
theorem rY {op : aM} (h : op.cls = 2) : dm op e = [] ∧ dc op e = [] := by
  cases op <;> simp [aM.cls] at h <;> first | exact ⟨rfl, rfl⟩ | skip
  case call w f xs => cases w <;> simp at h
  case callv w x xs => cases w <;> simp at h
theorem rZ {op : aM} : ∀ id ∈ dc op e, id ∈ dm op e := by
  intro id hid
  cases op <;> simp only [dc, dm, List.not_mem_nil, List.mem_append] at hid ⊢ <;> first | exact hid | exact .inl hid
theorem r6 {op : aM} (hc : op.callish = false) (h : bQ P op e σ n v σ' n') : n ≤ n' ∧ (∀ id, ¬ (id ∈ dc op e ∨ cF n n' id) → σ' id = σ id) ∧
    ∀ σ2, (∀ id ∈ dm op e, σ2 id = σ id) → bQ P op e σ2 n v (mix σ2 σ' (dc op e) n n') n' := by
  by_cases c0 : op.cls = 0
  · obtain ⟨rfl, rfl, h3⟩ := h.cls0 c0
    rw [(lD c0).2]
    exact ⟨Nat.le_refl _, fun _ _ => rfl, fun σ2 _ => by rw [jM]; exact h3 σ2 n'⟩
  by_cases c1 : op.cls = 1
  · have key : ∀ σ2, (∀ id ∈ dm op e, σ2 id = σ id) → σ' = σ ∧ n' = n ∧ bQ P op e σ2 n v σ2 n := fun σ2 hs => by
      refine h.cls1 (σ2 := σ2) (n2 := n) c1 (fun x hx => jN fun id hid => hs id ?_) (fun x hx => oA fun id hid => hs id ?_)
      · cases op <;> simp only [aM.looks, List.not_mem_nil, List.mem_singleton] at hx <;> (subst hx; exact hid)
      · cases op <;> simp only [aM.sees, List.not_mem_nil] at hx
        case call w f xs => cases w with
          | false => exact List.mem_flatMap.2 ⟨e x, List.mem_map.2 ⟨x, hx, rfl⟩, hid⟩
          | true => simp [aM.cls] at c1
        case callv w y xs => cases w with
          | false => exact List.mem_flatMap.2 ⟨e x, List.mem_map.2 ⟨x, hx, rfl⟩, hid⟩
          | true => simp [aM.cls] at c1
    obtain ⟨rfl, rfl, _⟩ := key σ fun _ _ => rfl
    rw [oD c1]
    exact ⟨Nat.le_refl _, fun _ _ => rfl, fun σ2 hs => by rw [jM]; exact (key σ2 hs).2.2⟩
  by_cases c2 : op.cls = 2
  · obtain ⟨rfl, blk, rfl, h3⟩ := h.cls2 c2
    rw [(rY c2).2]
    refine ⟨Nat.le_succ _, fun id hid => ?_, fun σ2 _ => ?_⟩
    · rw [aG]; intro e; exact hid (.inr (dp.2 e))
    · have : mix σ2 (aj σ n (some blk)) [] n (n + 1) = aj σ2 n (some blk) := by
        funext id
        by_cases c : id = n
        · subst c; rw [cT (.inr (dp.2 rfl)), aL, aL]
        · rw [c6, aG _ _ c]
          rintro (h | h)
          · simp at h
          · exact c (dp.1 h)
      rw [this]; exact h3 σ2
  · -- what writes
    cases op <;> simp [aM.cls] at c0 c1 c2
    case box k x imm => cases imm <;> simp at c0 c2
    case store k a x =>
      have h : (dM σ k (e a) (e x)).map (fun σ' => (V.undef, σ', n)) = some (v, σ', n') := h
      simp only [Option.map_eq_some_iff, Prod.mk.injEq] at h
      obtain ⟨σ1, hs, rfl, rfl, rfl⟩ := h
      obtain ⟨id, blk, hid, rfl, h3⟩ := rX hs
      simp only [dc, dm, hid]
      refine ⟨Nat.le_refl _, fun id' h' => ?_, fun σ2 h2 => ?_⟩
      · rw [aG]; intro e; exact h' (.inl (by simp [e]))
      · have : mix σ2 (aj σ id (some blk)) [id] n n = aj σ2 id (some blk) := by
          funext id'
          by_cases c : id' = id
          · subst c; rw [cT (.inl (by simp)), aL, aL]
          · rw [c6, aG _ _ c]
            rintro (h | ⟨h1, h2⟩)
            · simp at h; exact c h
            · omega
        rw [this]
        show (dM σ2 k (e a) (e x)).map (fun σ' => (V.undef, σ', n)) = _
        rw [h3 σ2 (h2 id (by simp))]
        rfl
    case mset q x i u =>
      have h : ay (.mset q x i u) e σ n = some (v, σ', n') := h
      simp only [ay] at h
      split at h
      · rename_i id d dv hx hi hu
        split at h
        · rename_i es hid
          have fin : ∀ blk, v = V.undef → σ' = aj σ id (some blk) → n' = n → (∀ σ2 : au, σ2 id = σ id → ay (.mset q x i u) e σ2 n = some (V.undef, aj σ2 id (some blk), n)) → n ≤ n' ∧ (∀ id, ¬ (id ∈ dc (.mset q x i u) e ∨ cF n n' id) → σ' id = σ id) ∧
              ∀ σ2, (∀ id ∈ dm (.mset q x i u) e, σ2 id = σ id) → bQ P (.mset q x i u) e σ2 n v (mix σ2 σ' (dc (.mset q x i u) e) n n') n' := by
            rintro blk rfl rfl rfl h3
            simp only [dc, dm, hx, V.ids]
            refine ⟨Nat.le_refl _, fun id' h' => ?_, fun σ2 h2 => ?_⟩
            · rw [aG]; intro e; exact h' (.inl (by simp [e]))
            · have : mix σ2 (aj σ id (some blk)) [id] n' n' = aj σ2 id (some blk) := by
                funext id'
                by_cases c : id' = id
                · subst c; rw [cT (.inl (by simp)), aL, aL]
                · rw [c6, aG _ _ c]
                  rintro (h | ⟨h1, h2⟩)
                  · simp at h; exact c h
                  · omega
              rw [this]
              exact h3 σ2 (h2 id (by simp))
          split at h
          · rename_i hh hr
            simp only [Option.some.injEq, Prod.mk.injEq] at h
            obtain ⟨h1, h2, h3⟩ := h
            exact fin _ h1.symm h2.symm h3.symm fun σ2 hs => by simp [ay, hx, hi, hu, hs, hid, hh, hr]
          · rename_i hh hr
            simp only [Option.some.injEq, Prod.mk.injEq] at h
            obtain ⟨h1, h2, h3⟩ := h
            exact fin _ h1.symm h2.symm h3.symm fun σ2 hs => by simp [ay, hx, hi, hu, hs, hid, hh, hr]
          · cases h
        · cases h
      · cases h
    case appendC k x y m =>
      have h : ay (.appendC k x y m) e σ n = some (v, σ', n') := h
      simp only [ay] at h
      split at h
      · rename_i id len hx
        split at h
        · rename_i kb els hid
          split at h
          · rename_i hcond
            obtain ⟨rfl, blk, ⟨h1, rfl, h3⟩ | ⟨id', h1, rfl, h3⟩⟩ := oC h
            · rw [hx] at h1; simp [V.ids] at h1
            · have e1 : id = id' := by rw [hx] at h1; simpa [V.ids] using h1
              subst e1
              have uu : ∀ σ2 : au, aj (aj σ2 id (some (.lst true kb (els.take len)))) id none = aj σ2 id none := fun σ2 => by funext q; simp only [aj]; split <;> rfl
              rw [uu]
              simp only [dc, dm, h1]
              refine ⟨Nat.le_succ _, fun id' h' => ?_, fun σ2 h2 => ?_⟩
              · rw [aG, aG]
                · intro e; exact h' (.inl (by simp [e]))
                · intro e; exact h' (.inr (dp.2 e))
              · have : mix σ2 (aj (aj σ id none) n (some blk)) [id] n (n + 1) = aj (aj σ2 id none) n (some blk) := by
                  funext id'
                  by_cases c : id' = n
                  · subst c; rw [cT (.inr (dp.2 rfl)), aL, aL]
                  · by_cases c2 : id' = id
                    · subst c2; rw [cT (.inl (by simp)), aG _ _ c, aG _ _ c, aL, aL]
                    · rw [c6, aG _ _ c, aG _ _ c2]
                      rintro (h | h)
                      · simp at h; exact c2 h
                      · exact c (dp.1 h)
                rw [this]
                show ay (.appendC k x y m) e σ2 n = _
                have := h3 (aj σ2 id (some (.lst true kb (els.take len)))) (by simp [aL]) (fun q hq => by
                  by_cases c : q = id
                  · subst c; simp [aL]
                  · rw [aG _ _ c, aG _ _ c]; exact h2 q (by simp [hq]))
                rw [uu, hx] at this
                simp only [ay, hx, h2 id (by simp), hid, if_pos hcond]
                exact this
          · cases h
        · cases h
      · cases h
    case clear k z x =>
      have h : ay (.clear k z x) e σ n = some (v, σ', n') := h
      simp only [ay] at h
      split at h
      · rename_i id off len hx
        split at h
        · rename_i kb els hid
          split at h
          · rename_i hcond
            simp only [Option.some.injEq, Prod.mk.injEq] at h
            obtain ⟨rfl, rfl, rfl⟩ := h
            simp only [dc, dm, hx, V.ids]
            refine ⟨Nat.le_refl _, fun id' h' => ?_, fun σ2 h2 => ?_⟩
            · rw [aG]; intro e; exact h' (.inl (by simp [e]))
            · have : mix σ2 (aj σ id (some (.lst true kb (els.take off)))) [id] n n = aj σ2 id (some (.lst true kb (els.take off))) := by
                funext id'
                by_cases c : id' = id
                · subst c; rw [cT (.inl (by simp)), aL, aL]
                · rw [c6, aG _ _ c]
                  rintro (h | ⟨h1, h2⟩)
                  · simp at h; exact c h
                  · omega
              rw [this]
              show ay (.clear k z x) e σ2 n = _
              simp only [ay, hx, h2 id (by simp), hid, if_pos hcond]
          · cases h
        · cases h
      · cases h
    case append k x y m =>
      have h : cX σ n k (e x) (e y) m = some (v, σ', n') := h
      obtain ⟨rfl, blk, ⟨h1, rfl, h3⟩ | ⟨id, h1, rfl, h3⟩⟩ := oC h
      · simp only [dc, dm, h1]
        refine ⟨Nat.le_succ _, fun id' h' => ?_, fun σ2 h2 => ?_⟩
        · rw [aG]; intro e; exact h' (.inr (dp.2 e))
        · have : mix σ2 (aj σ n (some blk)) [] n (n + 1) = aj σ2 n (some blk) := by
            funext id
            by_cases c : id = n
            · subst c; rw [cT (.inr (dp.2 rfl)), aL, aL]
            · rw [c6, aG _ _ c]
              rintro (h | h)
              · simp at h
              · exact c (dp.1 h)
          rw [this]
          exact h3 σ2 fun id hid => h2 id (by simpa using hid)
      · simp only [dc, dm, h1]
        refine ⟨Nat.le_succ _, fun id' h' => ?_, fun σ2 h2 => ?_⟩
        · rw [aG, aG]
          · intro e; exact h' (.inl (by simp [e]))
          · intro e; exact h' (.inr (dp.2 e))
        · have : mix σ2 (aj (aj σ id none) n (some blk)) [id] n (n + 1) = aj (aj σ2 id none) n (some blk) := by
            funext id'
            by_cases c : id' = n
            · subst c; rw [cT (.inr (dp.2 rfl)), aL, aL]
            · by_cases c2 : id' = id
              · subst c2; rw [cT (.inl (by simp)), aG _ _ c, aG _ _ c, aL, aL]
              · rw [c6, aG _ _ c, aG _ _ c2]
                rintro (h | h)
                · simp at h; exact c2 h
                · exact c (dp.1 h)
          rw [this]
          exact h3 σ2 (h2 id (by simp)) fun id hid => h2 id (by simp [hid])
    case bsliceV k parts m =>
      have h : ay (.bsliceV k parts m) e σ n = some (v, σ', n') := h
      simp only [ay] at h
      split at h
      · rename_i ds hd
        split at h
        · rename_i hsh
          simp only [Option.some.injEq, Prod.mk.injEq] at h
          obtain ⟨rfl, rfl, rfl⟩ := h
          simp only [dc, dm]
          refine ⟨Nat.le_succ _, fun id' h' => ?_, fun σ2 h2 => ?_⟩
          · rw [aG]; intro e; exact h' (.inr (dp.2 e))
          · have : mix σ2 (aj σ n (some (.lst m k ds))) [] n (n + 1) = aj σ2 n (some (.lst m k ds)) := by
              funext id
              by_cases c : id = n
              · subst c; rw [cT (.inr (dp.2 rfl)), aL, aL]
              · rw [c6, aG _ _ c]
                rintro (h | h)
                · simp at h
                · exact c (dp.1 h)
            rw [this]
            show ay (.bsliceV k parts m) e σ2 n = _
            have hv : (parts.map fun x => cO σ2 (e x)) = parts.map fun x => cO σ (e x) := List.map_congr_left fun x hx => nh (oA fun id hid => h2 id (List.mem_flatMap.2 ⟨e x, List.mem_map.2 ⟨x, hx, rfl⟩, hid⟩))
            simp only [ay, hv, hd, if_pos hsh]
        · cases h
      · cases h
    case call w f xs => cases w <;> simp [aM.callish] at hc c1
    case callv w x xs => cases w <;> simp [aM.callish] at hc c1
end
end Go.AM
