import Derived.Test.YtfjelgjfbjjopaaAmDraw
set_option linter.unusedVariables false
set_option linter.unusedSectionVars false
set_option linter.unusedSimpArgs false
namespace Go.AM
open Go Go.RowKit
variable [Glob]
section
variable {P : Program} {N : Nat} {A : Nat → Nat → Prop} {μ : Nat → Option aJ} {T T' T1 T2 : Nat → V} {σ σ' σ1 σ2 : au} {w : World} {a : Act} {o : Oper} {n n' n1 n2 : Nat} {v : V} {e : AX → V} {i j : aQ}
theorem ni (h : ∀ t ∈ i.reads, T t = T2 t) : ∀ t ∈ i.op.reads, T t = T2 t := fun t ht => h t (by simp [aQ.reads, ht])
theorem nj {g : Nat} {b : Bool} (h : ∀ t ∈ i.reads, T t = T2 t) (hg : i.guard = some (g, b)) : T g = T2 g := h g (by simp [aQ.reads, hg])
theorem aU.parts (h : aU P i T σ n T' σ' n') : ∃ v, T' = aO T i.dst v ∧ ∀ T2, (∀ t ∈ i.reads, T t = T2 t) → aU P i T2 σ n (aO T2 i.dst v) σ' n' := by
  unfold aU at h
  cases hg : i.guard with
  | none =>
    rw [hg] at h
    obtain ⟨v, hv, rfl⟩ := h
    refine ⟨v, rfl, fun T2 ht => ?_⟩
    unfold aU; rw [hg]
    exact ⟨v, hv.reads (ni ht), rfl⟩
  | some p =>
    obtain ⟨g, b⟩ := p
    rw [hg] at h
    obtain ⟨b', hT, h⟩ := h
    by_cases hb : b' = b
    · rw [if_pos hb] at h
      obtain ⟨v, hv, rfl⟩ := h
      refine ⟨v, rfl, fun T2 ht => ?_⟩
      unfold aU; rw [hg]
      exact ⟨b', by rw [← nj ht hg]; exact hT, by rw [if_pos hb]; exact ⟨v, hv.reads (ni ht), rfl⟩⟩
    · rw [if_neg hb] at h
      obtain ⟨rfl, rfl, rfl⟩ := h
      refine ⟨V.skip, rfl, fun T2 ht => ?_⟩
      unfold aU; rw [hg]
      exact ⟨b', by rw [← nj ht hg]; exact hT, by rw [if_neg hb]; exact ⟨rfl, rfl, rfl⟩⟩
theorem aU.cls0 (hc : i.op.cls = 0) (h : aU P i T σ n T' σ' n') : σ' = σ ∧ n' = n ∧ ∀ σ2 n2, aU P i T σ2 n2 T' σ2 n2 := by
  unfold aU at h
  cases hg : i.guard with
  | none =>
    rw [hg] at h
    obtain ⟨v, hv, rfl⟩ := h
    obtain ⟨h1, h2, h3⟩ := hv.cls0 hc
    exact ⟨h1, h2, fun σ2 n2 => by unfold aU; rw [hg]; exact ⟨v, h3 σ2 n2, rfl⟩⟩
  | some p =>
    obtain ⟨g, b⟩ := p
    rw [hg] at h
    obtain ⟨b', hT, h⟩ := h
    by_cases hb : b' = b
    · rw [if_pos hb] at h
      obtain ⟨v, hv, rfl⟩ := h
      obtain ⟨h1, h2, h3⟩ := hv.cls0 hc
      exact ⟨h1, h2, fun σ2 n2 => by unfold aU; rw [hg]; exact ⟨b', hT, by rw [if_pos hb]; exact ⟨v, h3 σ2 n2, rfl⟩⟩⟩
    · rw [if_neg hb] at h
      obtain ⟨rfl, rfl, rfl⟩ := h
      exact ⟨rfl, rfl, fun σ2 n2 => by unfold aU; rw [hg]; exact ⟨b', hT, by rw [if_neg hb]; exact ⟨rfl, rfl, rfl⟩⟩⟩
theorem aU.cls2 (hc : i.op.cls = 2) (h : aU P i T σ n T' σ' n') : (n' = n ∧ σ' = σ ∧ ∀ σ2 n2, aU P i T σ2 n2 T' σ2 n2) ∨ (n' = n + 1 ∧ ∃ blk, σ' = aj σ n (some blk) ∧ ∀ σ2, aU P i T σ2 n T' (aj σ2 n (some blk)) (n + 1)) := by
  unfold aU at h
  cases hg : i.guard with
  | none =>
    rw [hg] at h
    obtain ⟨v, hv, rfl⟩ := h
    obtain ⟨h1, blk, h2, h3⟩ := hv.cls2 hc
    exact .inr ⟨h1, blk, h2, fun σ2 => by unfold aU; rw [hg]; exact ⟨v, h3 σ2, rfl⟩⟩
  | some p =>
    obtain ⟨g, b⟩ := p
    rw [hg] at h
    obtain ⟨b', hT, h⟩ := h
    by_cases hb : b' = b
    · rw [if_pos hb] at h
      obtain ⟨v, hv, rfl⟩ := h
      obtain ⟨h1, blk, h2, h3⟩ := hv.cls2 hc
      exact .inr ⟨h1, blk, h2, fun σ2 => by unfold aU; rw [hg]; exact ⟨b', hT, by rw [if_pos hb]; exact ⟨v, h3 σ2, rfl⟩⟩⟩
    · rw [if_neg hb] at h
      obtain ⟨rfl, rfl, rfl⟩ := h
      exact .inl ⟨rfl, rfl, fun σ2 n2 => by unfold aU; rw [hg]; exact ⟨b', hT, by rw [if_neg hb]; exact ⟨rfl, rfl, rfl⟩⟩⟩
theorem aU.cls1 (hc : i.op.cls = 1) (h : aU P i T σ n T' σ' n') (ha : ∀ x ∈ i.op.looks, dZ σ σ2 (aD T x)) (hv : ∀ x ∈ i.op.sees, gJ σ σ2 (aD T x)) : σ' = σ ∧ n' = n ∧ aU P i T σ2 n2 T' σ2 n2 := by
  unfold aU at h
  cases hg : i.guard with
  | none =>
    rw [hg] at h
    obtain ⟨v, hv', rfl⟩ := h
    obtain ⟨h1, h2, h3⟩ := hv'.cls1 (n2 := n2) hc ha hv
    exact ⟨h1, h2, by unfold aU; rw [hg]; exact ⟨v, h3, rfl⟩⟩
  | some p =>
    obtain ⟨g, b⟩ := p
    rw [hg] at h
    obtain ⟨b', hT, h⟩ := h
    by_cases hb : b' = b
    · rw [if_pos hb] at h
      obtain ⟨v, hv', rfl⟩ := h
      obtain ⟨h1, h2, h3⟩ := hv'.cls1 (n2 := n2) hc ha hv
      exact ⟨h1, h2, by unfold aU; rw [hg]; exact ⟨b', hT, by rw [if_pos hb]; exact ⟨v, h3, rfl⟩⟩⟩
    · rw [if_neg hb] at h
      obtain ⟨rfl, rfl, rfl⟩ := h
      exact ⟨rfl, rfl, by unfold aU; rw [hg]; exact ⟨b', hT, by rw [if_neg hb]; exact ⟨rfl, rfl, rfl⟩⟩⟩
theorem qo {k : Option Nat} {x : V} {y : V} (h : bU σ k x = some y) (hg : ∀ id blk, σ id = some blk → σ2 id = some blk) : bU σ2 k x = some y := by
  cases x with
  | ptr id p q =>
    simp only [bU] at h ⊢
    cases hs : σ id with
    | none => rw [hs] at h; cases h
    | some blk => rw [hg id blk hs]; rw [hs] at h; exact h
  | d x => cases x <;> exact h
  | _ => exact h
theorem kL {k : Option Nat} {x : V} (h : bX σ x = some k) (hg : ∀ id blk, σ id = some blk → σ2 id = some blk) : bX σ2 x = some k := by
  cases x with
  | loc id p q =>
    simp only [bX] at h ⊢
    cases hs : σ id with
    | none => rw [hs] at h; cases h
    | some blk => rw [hg id blk hs]; rw [hs] at h; exact h
  | d x => cases x <;> exact h
  | _ => exact h
theorem qp {x : V} {y : List D} (h : cW σ x = some y) (hg : ∀ id blk, σ id = some blk → σ2 id = some blk) : cW σ2 x = some y := by
  cases x with
  | loc id p q =>
    simp only [cW] at h ⊢
    cases hs : σ id with
    | none => rw [hs] at h; cases h
    | some blk => rw [hg id blk hs]; rw [hs] at h; exact h
  | d x => cases x <;> exact h
  | _ => exact h
theorem nk {x : V} {y : D} (h : cJ σ x = some y) (hg : ∀ id blk, σ id = some blk → σ2 id = some blk) : cJ σ2 x = some y := by
  cases x with
  | loc id p q =>
    simp only [cJ] at h ⊢
    cases hs : σ id with
    | none => rw [hs] at h; cases h
    | some blk => rw [hg id blk hs]; rw [hs] at h; exact h
  | _ => exact h
theorem nn {α β : Type} {f g : α → Option β} : ∀ {l : List α} {r : List β}, bu (l.map f) = some r → (∀ a b, f a = some b → g a = some b) → bu (l.map g) = some r
  | [], r, h, _ => h
  | a :: l, r, h, hfg => by
    simp only [List.map_cons] at h ⊢
    cases hf : f a with
    | none => rw [hf] at h; simp at h
    | some b =>
      rw [hf] at h
      rw [hfg a b hf]
      simp only [ie] at h ⊢
      cases hr : bu (l.map f) with
      | none => rw [hr] at h; simp at h
      | some r' => rw [nn hr hfg]; rw [hr] at h; exact h
theorem qr (x : V) (hx : ∀ vs, x ≠ .agg vs) (σ : au) : cO σ x = cJ σ x := by
  cases x <;> first | rfl | exact absurd rfl (hx _)
theorem qs {x : V} {y : D} (h : cO σ x = some y) (hg : ∀ id blk, σ id = some blk → σ2 id = some blk) : cO σ2 x = some y := by
  cases x with
  | agg vs =>
    simp only [cO] at h ⊢
    cases hr : bu (vs.map (cJ σ)) with
    | none => rw [hr] at h; simp at h
    | some r => rw [nn hr (fun a b hab => nk hab hg)]; rw [hr] at h; exact h
  | _ => rw [qr _ (by simp)] at h ⊢; exact nk h hg
theorem kM (hg : ∀ id blk, σ id = some blk → σ2 id = some blk) : ∀ {vals : List V} {ds : List D}, bh σ vals ds → bh σ2 vals ds
  | [], [], _ => trivial
  | v :: vals, d :: ds, ⟨⟨d0, h1, h2⟩, h3⟩ => ⟨⟨d0, qs h1 hg, h2⟩, kM hg h3⟩
  | [], _ :: _, h => h.elim
  | _ :: _, [], h => h.elim
theorem qt {k : Option Nat} {x : V} {y : List D} (h : dO σ k x = some y) (hg : ∀ id blk, σ id = some blk → σ2 id = some blk) : dO σ2 k x = some y := by
  unfold dO at h ⊢
  split
  · exact h
  · split at h
    · rename_i h1; exact (h1 rfl).elim
    · split at h
      · rename_i hk
        rw [if_pos (kL hk hg)]
        exact qp h hg
      · cases h
theorem np {op : aM} (hc : op.cls = 1) (h : ay op e σ n = some (v, σ', n')) (hg : ∀ id blk, σ id = some blk → σ2 id = some blk) : σ' = σ ∧ n' = n ∧ ay op e σ2 n2 = some (v, σ2, n2) := by
  cases op <;> simp only [aM.cls, reduceCtorEq, Nat.reduceEqDiff] at hc <;> simp only [ay] at h ⊢
  case box k x imm => cases imm <;> simp at hc
  case mget q z ok x i =>
    split at h
    · rename_i id d hx hi
      split at h
      · rename_i es hid
        rw [hg id _ hid]
        split at h
        · simp only [Option.some.injEq, Prod.mk.injEq] at h; obtain ⟨rfl, rfl, rfl⟩ := h
          exact ⟨rfl, rfl, by simp_all⟩
        · simp only [Option.some.injEq, Prod.mk.injEq] at h; obtain ⟨rfl, rfl, rfl⟩ := h
          exact ⟨rfl, rfl, by simp_all⟩
        · cases h
      · cases h
    · cases h
  case mlen x =>
    split at h
    · rename_i id hx
      split at h
      · rename_i es hid
        rw [hg id _ hid]
        split at h
        · rename_i hle
          simp only [Option.some.injEq, Prod.mk.injEq] at h; obtain ⟨rfl, rfl, rfl⟩ := h
          exact ⟨rfl, rfl, by simp [hle]⟩
        · cases h
      · cases h
    · cases h
  case load k x =>
    simp only [Option.map_eq_some_iff, Prod.mk.injEq] at h
    obtain ⟨z, hz, rfl, rfl, rfl⟩ := h
    exact ⟨rfl, rfl, by rw [qo hz hg]; rfl⟩
  case b2s x =>
    cases hs : dO σ none (e x) with
    | none => rw [hs] at h; cases h
    | some l =>
      rw [hs] at h
      rw [qt hs hg]
      split at h
      · rename_i s hs'
        simp only [Option.some.injEq, Prod.mk.injEq] at h; obtain ⟨rfl, rfl, rfl⟩ := h
        exact ⟨rfl, rfl, rfl⟩
      · cases h
  case iaddr k x i =>
    split at h
    · rename_i k' vs q ix hx hi
      split at h
      · rename_i hcnd
        split at h
        · rename_i d hd
          simp only [Option.some.injEq, Prod.mk.injEq] at h; obtain ⟨rfl, rfl, rfl⟩ := h
          refine ⟨rfl, rfl, ?_⟩
          rw [if_pos hcnd]
        · cases h
      · cases h
    · rename_i id off len q ix hx hi
      split at h
      · rename_i hcnd
        simp only [Option.some.injEq, Prod.mk.injEq] at h; obtain ⟨rfl, rfl, rfl⟩ := h
        refine ⟨rfl, rfl, ?_⟩
        rw [if_pos ⟨kL hcnd.1 hg, hcnd.2⟩]
      · cases h
    · cases h
  case slc k x lo hi =>
    split at h
    · rename_i k' vs hx
      split at h
      · rename_i hk
        split at h
        · rename_i l r hb
          simp only [Option.some.injEq, Prod.mk.injEq] at h; obtain ⟨rfl, rfl, rfl⟩ := h
          refine ⟨rfl, rfl, ?_⟩
          rw [if_pos hk]
        · cases h
      · cases h
    · rename_i hx
      split at h
      · rename_i pq hb
        simp only [Option.some.injEq, Prod.mk.injEq] at h; obtain ⟨rfl, rfl, rfl⟩ := h
        exact ⟨rfl, rfl, rfl⟩
      · cases h
    · rename_i id off len hx
      split at h
      · rename_i hk
        split at h
        · rename_i l r hb
          simp only [Option.some.injEq, Prod.mk.injEq] at h; obtain ⟨rfl, rfl, rfl⟩ := h
          refine ⟨rfl, rfl, ?_⟩
          rw [if_pos (kL hk hg)]
        · cases h
      · cases h
    · cases h
  case call w f xs => cases h
  case callv w x xs => cases h
theorem bQ.grow {op : aM} (hc : op.cls = 1) (h : bQ P op e σ n v σ' n') (hg : ∀ id blk, σ id = some blk → σ2 id = some blk) : σ' = σ ∧ n' = n ∧ bQ P op e σ2 n2 v σ2 n2 := by
  cases op with
  | call w f xs =>
    cases w with
    | true => simp [aM.cls] at hc
    | false =>
      obtain ⟨ds, r, h1, h2, rfl, rfl, rfl⟩ := h
      exact ⟨rfl, rfl, ds, r, kM hg h1, h2, rfl, rfl, rfl⟩
  | callv w x xs =>
    cases w with
    | true => simp [aM.cls] at hc
    | false =>
      obtain ⟨f, caps, ds, r, h0, h1, h2, rfl, rfl, rfl⟩ := h
      exact ⟨rfl, rfl, f, caps, ds, r, h0, kM hg h1, h2, rfl, rfl, rfl⟩
  | _ => exact np hc h hg
theorem aU.grow (hc : i.op.cls = 1) (h : aU P i T σ n T' σ' n') (hgr : ∀ id blk, σ id = some blk → σ2 id = some blk) : σ' = σ ∧ n' = n ∧ aU P i T σ2 n2 T' σ2 n2 := by
  unfold aU at h
  cases hg : i.guard with
  | none =>
    rw [hg] at h
    obtain ⟨v, hv', rfl⟩ := h
    obtain ⟨h1, h2, h3⟩ := hv'.grow (n2 := n2) hc hgr
    exact ⟨h1, h2, by unfold aU; rw [hg]; exact ⟨v, h3, rfl⟩⟩
  | some p =>
    obtain ⟨g, b⟩ := p
    rw [hg] at h
    obtain ⟨b', hT, h⟩ := h
    by_cases hb : b' = b
    · rw [if_pos hb] at h
      obtain ⟨v, hv', rfl⟩ := h
      obtain ⟨h1, h2, h3⟩ := hv'.grow (n2 := n2) hc hgr
      exact ⟨h1, h2, by unfold aU; rw [hg]; exact ⟨b', hT, by rw [if_pos hb]; exact ⟨v, h3, rfl⟩⟩⟩
    · rw [if_neg hb] at h
      obtain ⟨rfl, rfl, rfl⟩ := h
      exact ⟨rfl, rfl, by unfold aU; rw [hg]; exact ⟨b', hT, by rw [if_neg hb]; exact ⟨rfl, rfl, rfl⟩⟩⟩
theorem nq (h : fO i j = true) : (∀ d, i.dst = some d → d ∉ j.reads ∧ j.dst ≠ some d) ∧ (∀ d, j.dst = some d → d ∉ i.reads) ∧ (i.op.cls = 3 → j.op.cls = 0) ∧ (j.op.cls = 3 → i.op.cls = 0) := by
  unfold fO at h
  simp only [Bool.and_eq_true] at h
  obtain ⟨⟨⟨h1, h2⟩, h3⟩, h4⟩ := h
  refine ⟨fun d hd => ?_, fun d hd => ?_, fun hi => ?_, fun hj => ?_⟩
  · rw [hd] at h1
    simp only [Bool.and_eq_true, Bool.not_eq_true', bne_iff_ne] at h1
    exact ⟨by simpa using h1.1, h1.2⟩
  · rw [hd] at h2
    simpa using h2
  · simpa [hi] using h3
  · simpa [hj] using h4
theorem fc {dst : Option Nat} {v : V} {l : List Nat} (h : ∀ d, dst = some d → d ∉ l) : ∀ t ∈ l, aO T dst v t = T t := by
  intro t ht
  cases dst with
  | none => rfl
  | some d => exact aG _ _ (fun e => h d rfl (e ▸ ht))
theorem iz {d1 d2 : Option Nat} {u v : V} (h : ∀ d, d1 = some d → d2 ≠ some d) : aO (aO T d1 u) d2 v = aO (aO T d2 v) d1 u := by
  cases d1 with
  | none => rfl
  | some a =>
    cases d2 with
    | none => rfl
    | some b =>
      have hne : a ≠ b := fun e => h a rfl (by rw [e])
      funext q
      simp only [aO, aj]
      by_cases c1 : q = b
      · subst c1; rw [if_pos rfl, if_neg (Ne.symm hne), if_pos rfl]
      · rw [if_neg c1]
        by_cases c2 : q = a <;> simp [c1, c2]
theorem kN (op : aM) : op.cls ≤ 3 := by
  cases op <;> simp [aM.cls]
  case box imm => cases imm <;> simp
  case call w _ _ => cases w <;> simp
  case callv w _ _ => cases w <;> simp
theorem qu (hj : aU P j T σ n T1 σ1 n') (hi : aU P i T1 σ1 n1 T2 σ2 n2) (hind : fO j i = true) (hdis : n' ≤ n1)
    (hvl : ∀ t ∈ i.reads, eQ μ (T t)) (hfr : ∀ id, n ≤ id → id < n' → μ id = none) (hsn : ∀ id, n1 ≤ id → id < n2 → σ id = none) :
    ∃ T1' σ1', aU P i T σ n1 T1' σ1' n2 ∧ aU P j T1' σ1' n T2 σ2 n' := by
  obtain ⟨d1, d2, d3, d4⟩ := nq hind
  obtain ⟨vj, rfl, rj⟩ := hj.parts
  obtain ⟨vi, rfl, ri⟩ := hi.parts
  have hre : ∀ t ∈ i.reads, aO T j.dst vj t = T t := fc fun d hd => (d1 d hd).1
  have hi' : aU P i T σ1 n1 (aO T i.dst vi) σ2 n2 := ri T hre
  have hje : ∀ t ∈ j.reads, T t = aO T i.dst vi t := fun t ht => (fc (l := j.reads) (fun d hd => d2 d hd) t ht).symm
  have hput : aO (aO T j.dst vj) i.dst vi = aO (aO T i.dst vi) j.dst vj := iz fun d hd => (d1 d hd).2
  rw [hput]
  have hj' : aU P j (aO T i.dst vi) σ n (aO (aO T i.dst vi) j.dst vj) σ1 n' := rj _ hje
  by_cases cj0 : j.op.cls = 0
  · obtain ⟨e1, e2, e3⟩ := hj'.cls0 cj0
    subst e1
    rw [e2]
    exact ⟨_, _, hi', e3 _ _⟩
  by_cases ci0 : i.op.cls = 0
  · obtain ⟨e1, e2, e3⟩ := hi'.cls0 ci0
    subst e1
    rw [e2]
    exact ⟨_, _, e3 _ _, hj'⟩
  have cj3 : j.op.cls ≠ 3 := fun h => ci0 (d3 h)
  have ci3 : i.op.cls ≠ 3 := fun h => cj0 (d4 h)
  have cj : j.op.cls = 1 ∨ j.op.cls = 2 := by have := kN j.op; omega
  have ci : i.op.cls = 1 ∨ i.op.cls = 2 := by have := kN i.op; omega
  rcases cj with cj | cj
  · obtain ⟨e1, e2, _⟩ := hj'.grow (σ2 := σ) (n2 := n) cj (fun _ _ h => h)
    subst e1
    rcases ci with ci | ci
    · obtain ⟨g1, g2, _⟩ := hi'.grow (σ2 := σ1) (n2 := n1) ci (fun _ _ h => h)
      subst g1
      exact ⟨_, _, hi', hj'⟩
    · refine ⟨_, _, hi', ?_⟩
      rw [e2]
      have hgr : ∀ id blk, σ1 id = some blk → σ2 id = some blk := by
        intro id blk hb
        rcases hi'.cls2 ci with ⟨_, h2, _⟩ | ⟨h1, b, h2, _⟩
        · rw [h2]; exact hb
        · rw [h2]
          rw [aG]
          · exact hb
          · rintro rfl; rw [hsn _ (Nat.le_refl _) (by omega)] at hb; cases hb
      exact (hj'.grow cj hgr).2.2
  · rcases hj'.cls2 cj with ⟨e1, e2, e3⟩ | ⟨e1, bj, e2, e3⟩
    · subst e2
      rw [e1]
      exact ⟨_, _, hi', e3 _ _⟩
    · have hag : ∀ id, μ id ≠ none → σ id = σ1 id := by
        intro id hm
        rw [e2, aG]
        rintro rfl
        exact hm (hfr _ (Nat.le_refl _) (by omega))
      rcases ci with ci | ci
      · have hA : ∀ x : AX, (∀ t ∈ x.tmps, t ∈ i.reads) → dZ σ1 σ (aD T x) := by
          intro x hx
          cases x with
          | c d => exact ⟨fun id off len h => (by cases h), fun id p q h => (by cases h), fun id h => (by cases h)⟩
          | t m =>
            have hv := hvl m (hx m (by simp [AX.tmps]))
            refine ⟨fun id off len h => ?_, fun id p q h => ?_, fun id h => ?_⟩
            · have h' : T m = .loc id off len := h
              rw [h'] at hv; exact hag id hv.loc
            · have h' : T m = .ptr id p q := h
              rw [h'] at hv; exact hag id hv.ptr
            · have h' : T m = .mref id := h
              rw [h'] at hv; exact hag id hv.mref
        have hAA : ∀ x : AX, (∀ t ∈ x.tmps, t ∈ i.reads) → gJ σ1 σ (aD T x) := by
          intro x hx
          refine ⟨hA x hx, fun vs hvs y hy => ?_⟩
          cases x with
          | c d => cases hvs
          | t m =>
            have hv := hvl m (hx m (by simp [AX.tmps]))
            have h' : T m = .agg vs := hvs
            rw [h'] at hv
            obtain ⟨O, w0, u, hr⟩ := hv
            cases hr with
            | agg _ cs hl hc =>
              obtain ⟨q, hq, rfl⟩ := List.getElem_of_mem hy
              have hvy : eQ μ vs[q] := ⟨O, w0, cs[q]'(by omega), hc q _ _ (bt hq) (by simp [show q < cs.size by omega])⟩
              refine ⟨fun id off len h => ?_, fun id p q' h => ?_, fun id h => ?_⟩
              · rw [h] at hvy; exact hag id hvy.loc
              · rw [h] at hvy; exact hag id hvy.ptr
              · rw [h] at hvy; exact hag id hvy.mref
        have hlooks : ∀ x ∈ i.op.looks, ∀ t ∈ x.tmps, t ∈ i.reads := by
          intro x hx t ht
          simp only [aQ.reads, List.mem_append]
          right
          cases hop : i.op <;> rw [hop] at hx <;> simp only [aM.looks, List.mem_singleton, List.not_mem_nil] at hx <;> subst hx <;> simp [aM.reads, ht]
        have hsees : ∀ x ∈ i.op.sees, ∀ t ∈ x.tmps, t ∈ i.reads := by
          intro x hx t ht
          simp only [aQ.reads, List.mem_append]
          right
          cases hop : i.op <;> rw [hop] at hx <;> simp only [aM.sees, List.not_mem_nil] at hx
          case call w f xs => cases w <;> simp only [aM.sees, List.not_mem_nil] at hx; simp only [aM.reads]; exact List.mem_flatMap.2 ⟨x, hx, ht⟩
          case callv w x' xs => cases w <;> simp only [aM.sees, List.not_mem_nil] at hx; simp only [aM.reads, List.mem_append]; exact .inr (List.mem_flatMap.2 ⟨x, hx, ht⟩)
        obtain ⟨g1, g2, g3⟩ := hi'.cls1 (σ2 := σ) (n2 := n1) ci (fun x hx => hA x (hlooks x hx)) (fun x hx => hAA x (hsees x hx))
        subst g1
        rw [g2]
        exact ⟨_, _, g3, hj'⟩
      · rcases hi'.cls2 ci with ⟨g1, g2, g3⟩ | ⟨g1, bi, g2, g3⟩
        · subst g2
          rw [g1]
          exact ⟨_, _, g3 _ _, hj'⟩
        · refine ⟨_, _, by rw [g1]; exact g3 σ, ?_⟩
          have := e3 (aj σ n1 (some bi))
          rw [g2, e2, e1]
          have hc : aj (aj σ n1 (some bi)) n (some bj) = aj (aj σ n (some bj)) n1 (some bi) := by
            have hne : n ≠ n1 := by omega
            funext q
            by_cases c1 : q = n1
            · subst c1; rw [aL, aG _ _ (Ne.symm hne), aL]
            · rw [aG _ _ c1]
              by_cases c2 : q = n
              · subst c2; rw [aL, aL]
              · rw [aG _ _ c2, aG _ _ c2, aG _ _ c1]
          rw [← hc]; exact this
def d5 (P : Program) (l : List aQ) (ν : Nat → Nat) : List Nat → (Nat → V) → au → (Nat → V) → au → Prop
  | [], T, σ, T', σ' => T = T' ∧ σ = σ'
  | j :: r, T, σ, T', σ' => ∃ i T1 σ1, l[j]? = some i ∧ aU P i T σ (ν j) T1 σ1 (ν (j + 1)) ∧ d5 P l ν r T1 σ1 T' σ'
theorem aU.slots (h : aU P i T σ n T' σ' n') : ∀ t, (∀ d, i.dst = some d → t ≠ d) → T' t = T t := by
  obtain ⟨v, rfl, _⟩ := h.parts
  intro t ht
  cases hd : i.dst with
  | none => rfl
  | some d => exact aG _ _ (ht d hd)
theorem aU.none_kept (hc : i.op.cls ≠ 3) (h : aU P i T σ n T' σ' n') {id : Nat} (hn : σ id = none) (hid : ¬ (n ≤ id ∧ id < n')) : σ' id = none := by
  by_cases c0 : i.op.cls = 0
  · rw [(h.cls0 c0).1]; exact hn
  by_cases c1 : i.op.cls = 1
  · rw [(h.grow (σ2 := σ) (n2 := n) c1 (fun _ _ h => h)).1]; exact hn
  have c2 : i.op.cls = 2 := by have := kN i.op; omega
  rcases h.cls2 c2 with ⟨_, h2, _⟩ | ⟨h1, b, h2, _⟩
  · rw [h2]; exact hn
  · rw [h2, aG]
    · exact hn
    · rintro rfl; exact hid ⟨Nat.le_refl _, by omega⟩
theorem nt {l : List aQ} {ν : Nat → Nat} {q : Nat} {iq : aQ} (hq : l[q]? = some iq) : ∀ (r1 r2 : List Nat) (T : Nat → V) (σ : au), d5 P l ν (r1 ++ q :: r2) T σ T' σ' →
    (∀ j ∈ r1, ∀ ij, l[j]? = some ij → fO ij iq = true) → (∀ t ∈ iq.reads, eQ μ (T t)) → (∀ j ∈ r1, ∀ id, ν j ≤ id → id < ν (j + 1) → μ id = none) →
    (iq.op.cls ≠ 0 → ∀ id, ν q ≤ id → id < ν (q + 1) → σ id = none) → (∀ j ∈ r1, ν (j + 1) ≤ ν q) →
    ∃ T1 σ1, aU P iq T σ (ν q) T1 σ1 (ν (q + 1)) ∧ d5 P l ν (r1 ++ r2) T1 σ1 T' σ'
  | [], r2, T, σ, h, _, _, _, _, _ => by
    obtain ⟨i, T1, σ1, h1, h2, h3⟩ := h
    rw [hq] at h1; cases h1
    exact ⟨T1, σ1, h2, h3⟩
  | j :: r1, r2, T, σ, h, hind, hv, hfr, hsn, hdis => by
    obtain ⟨ij, T1, σ1, h1, h2, h3⟩ := h
    have hin := hind j (by simp) ij h1
    obtain ⟨d1, d2, d3, d4⟩ := nq hin
    have hT : ∀ t ∈ iq.reads, T1 t = T t := fun t ht => aU.slots h2 t fun d hd e => (d1 d hd).1 (e ▸ ht)
    obtain ⟨T2, σ2, g1, g2⟩ := nt hq r1 r2 T1 σ1 h3 (fun j hj => hind j (by simp [hj])) (fun t ht => by rw [hT t ht]; exact hv t ht) (fun j hj => hfr j (by simp [hj]))
      (fun hc id hid1 hid2 => h2.none_kept (fun h => hc (d3 h)) (hsn hc id hid1 hid2) (fun ⟨_, h⟩ => by have := hdis j (by simp); omega)) (fun j hj => hdis j (by simp [hj]))
    by_cases hc0 : iq.op.cls = 0
    · -- it hangs on no store at all
      obtain ⟨v1, e1, f1⟩ := g1.parts
      have hi' := f1 T hT
      obtain ⟨k1, k2, k3⟩ := hi'.cls0 hc0
      obtain ⟨v2, e2, f2⟩ := h2.parts
      have hje : ∀ t ∈ ij.reads, T t = aO T iq.dst v1 t := fun t ht => (fc (l := ij.reads) (fun d hd => d2 d hd) t ht).symm
      have hj' := f2 _ hje
      subst k1
      refine ⟨_, _, by rw [k2]; exact k3 σ (ν q), ij, _, _, h1, hj', ?_⟩
      subst e1; subst e2
      rw [← iz (d1 := ij.dst) (d2 := iq.dst) fun d hd => (d1 d hd).2]
      exact g2
    · obtain ⟨T3, σ3, k1, k2⟩ := qu (μ := μ) h2 g1 hin (hdis j (by simp)) hv (hfr j (by simp)) (hsn hc0)
      exact ⟨T3, σ3, k1, ij, _, _, h1, k2, g2⟩
end
end Go.AM
