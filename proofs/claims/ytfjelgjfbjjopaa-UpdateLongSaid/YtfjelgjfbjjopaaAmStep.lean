import Derived.Test.YtfjelgjfbjjopaaAmMap
set_option linter.unusedVariables false
set_option linter.unusedSectionVars false
set_option linter.unusedSimpArgs false
namespace Go.AM
open Go Go.RowKit
variable [Glob]
section
variable {P : Program} {A : Nat → Nat → Prop} {μ : Nat → Option aJ} {σ σ' : au} {w : World} {o : Oper} {a : Act} {v : V} {n n' : Nat} {e : AX → V}
theorem cR {k : Option Nat} {x : Option (Option Nat)} (h : (x == some k) = true) : x = some k := by simpa using h
set_option maxHeartbeats 2000000 in
theorem m6 {op : aM} (hc : eu P op o.op = true) (he : cx μ (ak A μ σ) w e a) (hs : aB A μ σ w) (hn : ∀ id, n ≤ id → id < n' → μ id = none) (h : ay op e σ n = some (v, σ', n')) :
    aZ P A μ σ w o a v σ' n n' := by
  generalize ho : o.op = oo at hc
  unfold eu at hc
  split at hc
  · -- mov, move
    simp only [ay, Option.some.injEq, Prod.mk.injEq] at h
    obtain ⟨rfl, rfl, rfl⟩ := h
    exact lZ (.inl ho) (he _ _ hc) hs
  · simp only [ay, Option.some.injEq, Prod.mk.injEq] at h
    obtain ⟨rfl, rfl, rfl⟩ := h
    exact lZ (.inr ho) (he _ _ hc) hs
  · -- pick
    simp only [Bool.and_eq_true] at hc
    simp only [ay] at h
    split at h
    · rename_i t ht
      simp only [Option.some.injEq, Prod.mk.injEq] at h
      obtain ⟨rfl, rfl, rfl⟩ := h
      exact pf ho (he _ _ hc.1.1) (he _ _ hc.1.2) (he _ _ hc.2) hs ht
    · cases h
  · -- alloc
    simp only [Bool.and_eq_true] at hc
    simp only [ay, Option.some.injEq, Prod.mk.injEq] at h
    obtain ⟨rfl, rfl, rfl⟩ := h
    exact pg ho hc.1 hc.2 hs (hn _ (Nat.le_refl _) (Nat.lt_succ_self _))
  · -- box
    simp only [Bool.and_eq_true] at hc
    simp only [ay] at h
    split at h
    · split at h
      · rename_i d hd
        split at h
        · rename_i hcond
          simp only [Option.some.injEq, Prod.mk.injEq] at h
          obtain ⟨rfl, rfl, rfl⟩ := h
          exact pi ho (he _ _ hc.1) hd hcond.1 hcond.2 hs
        · cases h
      · cases h
    · split at h
      · rename_i h1
        simp only [Option.some.injEq, Prod.mk.injEq] at h
        obtain ⟨rfl, rfl, rfl⟩ := h
        exact ph ho (he _ _ hc.1) h1 hs (hn _ (Nat.le_refl _) (Nat.lt_succ_self _))
      · cases h
  · -- build
    rename_i zero parts t ps
    simp only [Bool.and_eq_true] at hc
    simp only [ay] at h
    cases hf : eZ (zero.map V.d) (parts.map fun p => (p.1, p.2.1, e p.2.2)) with
    | none => simp [hf] at h
    | some cells =>
      simp [hf] at h
      obtain ⟨rfl, rfl, rfl⟩ := h
      exact pM ho hc.1 hc.2 he hs hf
  · -- load
    rename_i k x t y
    simp only [Bool.and_eq_true] at hc
    simp only [ay] at h
    cases hf : bU σ k (e x) with
    | none => simp [hf] at h
    | some u =>
      simp [hf] at h
      obtain ⟨rfl, rfl, rfl⟩ := h
      exact lY ho (cR hc.2) (he _ _ hc.1) hs hf
  · -- load of what is not changed
    rename_i k x t y
    simp only [Bool.and_eq_true] at hc
    simp only [ay] at h
    split at h
    · rename_i kb d j hx
      cases hf : (eo kb d j k).map V.d with
      | none => rw [hf] at h; simp at h
      | some z =>
        rw [hf] at h
        simp only [Option.map_some, Option.some.injEq, Prod.mk.injEq] at h
        obtain ⟨rfl, rfl, rfl⟩ := h
        exact lY ho (cR hc.2) (he _ _ hc.1) hs (by rw [hx]; exact hf)
    · cases h
  · -- store
    rename_i k a' x t b y
    simp only [Bool.and_eq_true] at hc
    simp only [ay] at h
    cases hf : dM σ k (e a') (e x) with
    | none => simp [hf] at h
    | some u =>
      simp [hf] at h
      obtain ⟨rfl, rfl, rfl⟩ := h
      exact pT ho (cR hc.2) (he _ _ hc.1.1) (he _ _ hc.1.2) hs hf
  · -- nilCheck
    simp only [ay] at h
    split at h
    · rename_i id i j hx
      simp only [Option.some.injEq, Prod.mk.injEq] at h
      obtain ⟨rfl, rfl, rfl⟩ := h
      rw [← hx]; exact jn ho (he _ _ hc) hs (.inl ⟨_, _, _, hx⟩)
    · rename_i id i j hx
      simp only [Option.some.injEq, Prod.mk.injEq] at h
      obtain ⟨rfl, rfl, rfl⟩ := h
      rw [← hx]; exact jn ho (he _ _ hc) hs (.inr (.inl ⟨_, _, _, hx⟩))
    · rename_i f c hx
      simp only [Option.some.injEq, Prod.mk.injEq] at h
      obtain ⟨rfl, rfl, rfl⟩ := h
      rw [← hx]; exact jn ho (he _ _ hc) hs (.inr (.inr (.inl ⟨_, _, hx⟩)))
    · rename_i f c hx
      simp only [Option.some.injEq, Prod.mk.injEq] at h
      obtain ⟨rfl, rfl, rfl⟩ := h
      rw [← hx]; exact jn ho (he _ _ hc) hs (.inr (.inr (.inr ⟨_, _, hx⟩)))
    · cases h
  · -- unOp
    rename_i op x op' t y
    simp only [Bool.and_eq_true, beq_iff_eq] at hc
    obtain ⟨rfl, hc⟩ := hc
    simp only [ay] at h
    cases hf : jd op (e x) with
    | none => simp [hf] at h
    | some u =>
      simp [hf] at h
      obtain ⟨rfl, rfl, rfl⟩ := h
      exact pn ho (he _ _ hc) hf hs
  · -- makeFunc
    rename_i f caps f' first captured
    simp only [Bool.and_eq_true, beq_iff_eq] at hc
    obtain ⟨⟨rfl, h0⟩, hc⟩ := hc
    simp only [ay] at h
    split at h
    · rename_i ds hd
      simp only [Option.some.injEq, Prod.mk.injEq] at h
      obtain ⟨rfl, rfl, rfl⟩ := h
      exact mj ho h0 hc he hs (.inl ⟨ds, hd, rfl⟩)
    · simp only [Option.some.injEq, Prod.mk.injEq] at h
      obtain ⟨rfl, rfl, rfl⟩ := h
      exact mj ho h0 hc he hs (.inr rfl)
  · -- fieldAddr
    rename_i off x s y f
    simp only [Bool.and_eq_true] at hc
    obtain ⟨hcx, hc⟩ := hc
    split at hc
    · rename_i fs hu
      split at hc
      · rename_i fl hf
        simp only [Bool.and_eq_true, beq_iff_eq, bne_iff_ne] at hc
        simp only [ay] at h
        split at h
        · rename_i id i j hx
          simp only [Option.some.injEq, Prod.mk.injEq] at h
          obtain ⟨rfl, rfl, rfl⟩ := h
          exact mc ho hu hf hc.1.1 hc.1.2 hc.2 (he _ _ hcx) hs (.inl ⟨_, _, _, hx, rfl⟩)
        · rename_i k d j hx
          simp only [Option.some.injEq, Prod.mk.injEq] at h
          obtain ⟨rfl, rfl, rfl⟩ := h
          exact mc ho hu hf hc.1.1 hc.1.2 hc.2 (he _ _ hcx) hs (.inr ⟨_, _, _, hx, rfl⟩)
        · cases h
      · cases hc
    · cases hc
  · -- field
    rename_i off k x s y f
    simp only [Bool.and_eq_true] at hc
    obtain ⟨hcx, hc⟩ := hc
    split at hc
    · rename_i fs hu
      split at hc
      · rename_i fl hf
        simp only [Bool.and_eq_true, beq_iff_eq] at hc
        simp only [ay] at h
        split at h
        · rename_i cs hx
          cases hsd : cI cs off k with
          | none => simp [hsd] at h
          | some z =>
            simp [hsd] at h
            obtain ⟨rfl, rfl, rfl⟩ := h
            exact mf ho hu hf hc.1 hc.2 (he _ _ hcx) hs (.inl ⟨cs, z, hx, hsd, rfl⟩)
        · rename_i cs hx
          cases hsd : dz cs off k with
          | none => simp [hsd] at h
          | some z =>
            simp [hsd] at h
            obtain ⟨rfl, rfl, rfl⟩ := h
            exact mf ho hu hf hc.1 hc.2 (he _ _ hcx) hs (.inr ⟨cs, hx, hsd⟩)
        · cases h
      · cases hc
    · cases hc
  · -- indexAddr of a slice
    rename_i k x i t y j
    simp only [Bool.and_eq_true] at hc
    obtain ⟨⟨hcx, hci⟩, hc⟩ := hc
    split at hc
    · rename_i el hu
      simp only [ay] at h
      split at h
      · rename_i k' vs q ix hx hix
        split at h
        · rename_i hcond
          obtain ⟨rfl, h0⟩ := hcond
          split at h
          · rename_i d hd
            simp only [Option.some.injEq, Prod.mk.injEq] at h
            obtain ⟨rfl, rfl, rfl⟩ := h
            exact mu ho hu (cR hc) (he _ _ hcx) (he _ _ hci) hs hix h0 (.inl ⟨vs, d, hx, hd, rfl⟩)
          · cases h
        · cases h
      · rename_i id off len q ix hx hix
        split at h
        · rename_i hcond
          simp only [Option.some.injEq, Prod.mk.injEq] at h
          obtain ⟨rfl, rfl, rfl⟩ := h
          exact mu ho hu (cR hc) (he _ _ hcx) (he _ _ hci) hs hix hcond.2.1 (.inr ⟨id, off, len, hx, hcond.1, hcond.2.2, rfl⟩)
        · cases h
      · cases h
    · cases hc
  · -- indexAddr of an array
    rename_i m k x i t y j
    simp only [Bool.and_eq_true] at hc
    obtain ⟨⟨hcx, hci⟩, hc⟩ := hc
    split at hc
    · rename_i m' el hu
      simp only [Bool.and_eq_true, beq_iff_eq] at hc
      obtain ⟨rfl, hk⟩ := hc
      simp only [ay] at h
      split at h
      · rename_i id i' j' q ix hx hix
        split at h
        · rename_i hcond
          simp only [Option.some.injEq, Prod.mk.injEq] at h
          obtain ⟨rfl, rfl, rfl⟩ := h
          exact mw ho hu hk (he _ _ hcx) (he _ _ hci) hs hix hcond.1 hcond.2 (.inl ⟨_, _, _, hx, rfl⟩)
        · cases h
      · rename_i k' d j' q ix hx hix
        split at h
        · rename_i hcond
          simp only [Option.some.injEq, Prod.mk.injEq] at h
          obtain ⟨rfl, rfl, rfl⟩ := h
          exact mw ho hu hk (he _ _ hcx) (he _ _ hci) hs hix hcond.1 hcond.2 (.inr ⟨_, _, _, hx, rfl⟩)
        · cases h
      · cases h
    · cases hc
  · -- index of an array
    rename_i m k x i t y j
    simp only [Bool.and_eq_true] at hc
    obtain ⟨⟨hcx, hci⟩, hc⟩ := hc
    split at hc
    · rename_i m' el hu
      simp only [Bool.and_eq_true, beq_iff_eq] at hc
      obtain ⟨rfl, hk⟩ := hc
      simp only [ay] at h
      split at h
      · rename_i cs q ix hx hix
        split at h
        · rename_i hcond
          cases hsd : cI cs (ix.toNat * ah k) k with
          | none => simp [hsd] at h
          | some z =>
            simp [hsd] at h
            obtain ⟨rfl, rfl, rfl⟩ := h
            exact mg ho hu hk (he _ _ hcx) (he _ _ hci) hs hix hcond.1 hcond.2 (.inl ⟨cs, z, hx, hsd, rfl⟩)
        · cases h
      · rename_i cs q ix hx hix
        split at h
        · rename_i hcond
          cases hsd : dz cs (ix.toNat * ah k) k with
          | none => simp [hsd] at h
          | some z =>
            simp [hsd] at h
            obtain ⟨rfl, rfl, rfl⟩ := h
            exact mg ho hu hk (he _ _ hcx) (he _ _ hci) hs hix hcond.1 hcond.2 (.inr ⟨cs, hx, hsd⟩)
        · cases h
      · cases h
    · cases hc
  · -- index of a string
    rename_i x i t y j
    simp only [Bool.and_eq_true] at hc
    simp only [ay] at h
    split at h
    · rename_i s q ix hx hix
      split at h
      · rename_i h0
        split at h
        · rename_i b hb
          simp only [Option.some.injEq, Prod.mk.injEq] at h
          obtain ⟨rfl, rfl, rfl⟩ := h
          exact pj ho hc.2 (he _ _ hc.1.1) (he _ _ hc.1.2) hs hx hix h0 hb
        · cases h
      · cases h
    · cases h
  · -- extract
    rename_i x i y j
    simp only [Bool.and_eq_true, beq_iff_eq] at hc
    obtain ⟨hcx, rfl⟩ := hc
    simp only [ay] at h
    split at h
    · rename_i ds hx
      cases hd : ds[i]? with
      | none => simp [hd] at h
      | some z =>
        simp [hd] at h
        obtain ⟨rfl, rfl, rfl⟩ := h
        exact mh ho (he _ _ hcx) hs (.inl ⟨ds, z, hx, hd, rfl⟩)
    · rename_i ds hx
      cases hd : ds[i]? with
      | none => simp [hd] at h
      | some z =>
        simp [hd] at h
        obtain ⟨rfl, rfl, rfl⟩ := h
        exact mh ho (he _ _ hcx) hs (.inr ⟨ds, hx, hd⟩)
    · cases h
  · -- slice of a slice
    rename_i k x lo hi t y l h' m
    simp only [Bool.and_eq_true] at hc
    obtain ⟨⟨⟨⟨hcx, hlo⟩, hhi⟩, hm⟩, hc⟩ := hc
    cases m with
    | some m => simp at hm
    | none =>
      split at hc
      · rename_i el hu
        simp only [ay] at h
        split at h
        · rename_i k' vs hx
          split at h
          · rename_i hk
            subst hk
            split at h
            · rename_i p q hb
              simp only [Option.some.injEq, Prod.mk.injEq] at h
              obtain ⟨rfl, rfl, rfl⟩ := h
              exact ku ho hlo hhi hu (cR hc) he (he _ _ hcx) hs (.inl ⟨vs, hx, hb, rfl⟩)
            · cases h
          · cases h
        · rename_i hx
          split at h
          · rename_i pq hb
            simp only [Option.some.injEq, Prod.mk.injEq] at h
            obtain ⟨rfl, rfl, rfl⟩ := h
            exact ku (p := pq.1) (q := pq.2) ho hlo hhi hu (cR hc) he (he _ _ hcx) hs (.inr (.inl ⟨hx, hb, rfl⟩))
          · cases h
        · rename_i id off len hx
          split at h
          · rename_i hk
            split at h
            · rename_i p q hb
              simp only [Option.some.injEq, Prod.mk.injEq] at h
              obtain ⟨rfl, rfl, rfl⟩ := h
              exact ku ho hlo hhi hu (cR hc) he (he _ _ hcx) hs (.inr (.inr ⟨id, off, len, hx, hk, hb, rfl⟩))
            · cases h
          · cases h
        · cases h
      · cases hc
  · -- slice of a string
    rename_i x lo hi t y l h' m
    simp only [Bool.and_eq_true] at hc
    obtain ⟨⟨⟨⟨hcx, hlo⟩, hhi⟩, hm⟩, hc⟩ := hc
    cases m with
    | some m => simp at hm
    | none =>
      simp only [ay] at h
      split at h
      · rename_i s hx
        split at h
        · rename_i p q hb
          simp only [Option.some.injEq, Prod.mk.injEq] at h
          obtain ⟨rfl, rfl, rfl⟩ := h
          exact pH ho hlo hhi hc he (he _ _ hcx) hx hs hb
        · cases h
      · cases h
  · -- slice of an array
    rename_i m' k x lo hi t y l h' m
    simp only [Bool.and_eq_true] at hc
    obtain ⟨⟨⟨⟨hcx, hlo⟩, hhi⟩, hm⟩, hc⟩ := hc
    cases m with
    | some m => simp at hm
    | none =>
      split at hc
      · rename_i n2 el hu
        simp only [Bool.and_eq_true, beq_iff_eq, decide_eq_true_eq] at hc
        obtain ⟨⟨rfl, hm16⟩, hk⟩ := hc
        simp only [ay] at h
        split at h
        · rename_i kb d j hx
          split at h
          · rename_i p q hb
            split at h
            · rename_i els hels
              simp only [Option.some.injEq, Prod.mk.injEq] at h
              obtain ⟨rfl, rfl, rfl⟩ := h
              exact pK (by unfold maxLen; omega) ho hlo hhi hu hk he (he _ _ hcx) hs hx hb hels
            · cases h
          · cases h
        · cases h
      · cases hc
  · -- to an integer kind
    rename_i k x s t y
    simp only [Bool.and_eq_true] at hc
    obtain ⟨⟨hcx, hsu⟩, hc⟩ := hc
    split at hc
    · rename_i k' hu
      simp only [beq_iff_eq] at hc
      subst hc
      simp only [ay] at h
      split at h
      · rename_i q i hx
        simp only [Option.some.injEq, Prod.mk.injEq] at h
        obtain ⟨rfl, rfl, rfl⟩ := h
        exact pk ho hsu hu (he _ _ hcx) hx hs
      · cases h
    · cases hc
  · -- string to string
    simp only [Bool.and_eq_true] at hc
    simp only [ay] at h
    split at h
    · rename_i b hx
      simp only [Option.some.injEq, Prod.mk.injEq] at h
      obtain ⟨rfl, rfl, rfl⟩ := h
      exact pm ho hc.1.2 hc.2 (he _ _ hc.1.1) hx hs
    · cases h
  · -- string to bytes
    simp only [Bool.and_eq_true] at hc
    obtain ⟨⟨hcx, hsu⟩, hc⟩ := hc
    split at hc
    · rename_i el hu
      simp only [Bool.and_eq_true] at hc
      simp only [ay] at h
      split at h
      · rename_i b hx
        split at h
        · rename_i hlim
          simp only [Option.some.injEq, Prod.mk.injEq] at h
          obtain ⟨rfl, rfl, rfl⟩ := h
          exact pX ho hsu hu hc.1 (cR hc.2) (he _ _ hcx) hx hlim hs (hn _ (Nat.le_refl _) (Nat.lt_succ_self _))
        · cases h
      · cases h
    · cases hc
  · -- bytes to string
    rename_i x s t y
    simp only [Bool.and_eq_true] at hc
    obtain ⟨⟨hcx, htu⟩, hc⟩ := hc
    split at hc
    · rename_i el hu
      simp only [Bool.and_eq_true] at hc
      simp only [ay] at h
      split at h
      · rename_i b hb
        simp only [Option.some.injEq, Prod.mk.injEq] at h
        obtain ⟨rfl, rfl, rfl⟩ := h
        cases hsrc : dO σ none (e x) with
        | none => rw [hsrc] at hb; simp at hb
        | some l =>
          rw [hsrc] at hb
          exact pZ ho htu hu hc.1 (he _ _ hcx) (kA hsrc) hb hs
      · cases h
    · cases hc
  · -- a slice written out
    rename_i k parts m t len ps
    simp only [Bool.and_eq_true, beq_iff_eq, decide_eq_true_eq] at hc
    obtain ⟨⟨⟨hl, hle⟩, hcp⟩, hc⟩ := hc
    split at hc
    · rename_i el hu
      simp only [Bool.and_eq_true] at hc
      obtain ⟨hk, hc⟩ := hc
      split at hc
      · rename_i i hi
        split at hc
        · rename_i z hz
          simp only [beq_iff_eq] at hc
          simp only [ay] at h
          split at h
          · rename_i ds hd
            split at h
            · rename_i hsh
              simp only [Option.some.injEq, Prod.mk.injEq] at h
              obtain ⟨rfl, rfl, rfl⟩ := h
              exact pN ho hl hle hcp hu (cR hk) hi hz hc he hs (hn _ (Nat.le_refl _) (Nat.lt_succ_self _)) hd hsh
            · cases h
          · cases h
        · cases hc
      · cases hc
    · cases hc
  · -- a slice written out, of parts that are seen
    rename_i k parts m t len ps
    simp only [Bool.and_eq_true, beq_iff_eq, decide_eq_true_eq] at hc
    obtain ⟨⟨⟨hl, hle⟩, hcp⟩, hc⟩ := hc
    split at hc
    · rename_i el hu
      simp only [Bool.and_eq_true] at hc
      obtain ⟨hk, hc⟩ := hc
      split at hc
      · rename_i i hi
        split at hc
        · rename_i z hz
          simp only [beq_iff_eq] at hc
          simp only [ay] at h
          split at h
          · rename_i ds hd
            split at h
            · rename_i hsh
              simp only [Option.some.injEq, Prod.mk.injEq] at h
              obtain ⟨rfl, rfl, rfl⟩ := h
              obtain ⟨e1, e2⟩ := gG (f := fun x => cO σ (e x)) hd
              obtain ⟨_, hpp⟩ := ir hcp
              refine mB ho hl hle hcp hu (cR hk) hi hz hc he hs (hn _ (Nat.le_refl _) (Nat.lt_succ_self _)) (by omega) (fun j d q hj hq => ?_) hsh
              have hjp : j < parts.length := by have := (List.getElem?_eq_some_iff.1 hj).1; omega
              obtain ⟨_, hcx⟩ := hpp j parts[j] q (by simp [hjp]) hq
              exact kD hs (e2 j parts[j] d (by simp [hjp]) hj) (he _ _ hcx)
            · cases h
          · cases h
        · cases hc
      · cases hc
    · cases hc
  · -- a slice written out
    rename_i k parts t len ps
    simp only [Bool.and_eq_true, beq_iff_eq, decide_eq_true_eq] at hc
    obtain ⟨⟨⟨hl, hle⟩, hcp⟩, hc⟩ := hc
    split at hc
    · rename_i el hu
      simp only [Bool.and_eq_true] at hc
      obtain ⟨hk, hc⟩ := hc
      split at hc
      · rename_i i hi
        split at hc
        · rename_i z hz
          simp only [beq_iff_eq] at hc
          simp only [ay] at h
          split at h
          · rename_i ds hd
            split at h
            · rename_i hsh
              simp only [Option.some.injEq, Prod.mk.injEq] at h
              obtain ⟨rfl, rfl, rfl⟩ := h
              exact pO ho hl hle hcp hu (cR hk) hi hz hc he hs hd hsh
            · cases h
          · cases h
        · cases hc
      · cases hc
    · cases hc
  · -- make
    rename_i k zero l c t l' c'
    simp only [Bool.and_eq_true] at hc
    obtain ⟨⟨hcl, hcc⟩, hc⟩ := hc
    split at hc
    · rename_i el hu
      simp only [Bool.and_eq_true, decide_eq_true_eq] at hc
      obtain ⟨⟨⟨⟨hk, hz⟩, hsh⟩, h1⟩, hby⟩ := hc
      simp only [ay] at h
      split at h
      · rename_i li ci hli hci
        split at h
        · rename_i hcond
          simp only [Option.some.injEq, Prod.mk.injEq] at h
          obtain ⟨rfl, rfl, rfl⟩ := h
          exact mC true ho hu (cR hk) hz hsh h1 hby (he _ _ hcl) (he _ _ hcc) hs (hn _ (Nat.le_refl _) (Nat.lt_succ_self _)) hli hci hcond.1 hcond.2.1 hcond.2.2
        · cases h
      · cases h
    · cases hc
  · -- make
    rename_i k zero l c t l' c'
    simp only [Bool.and_eq_true] at hc
    obtain ⟨⟨hcl, hcc⟩, hc⟩ := hc
    split at hc
    · rename_i el hu
      simp only [Bool.and_eq_true, decide_eq_true_eq] at hc
      obtain ⟨⟨⟨⟨hk, hz⟩, hsh⟩, h1⟩, hby⟩ := hc
      simp only [ay] at h
      split at h
      · rename_i li ci hli hci
        split at h
        · rename_i hcond
          simp only [Option.some.injEq, Prod.mk.injEq] at h
          obtain ⟨rfl, rfl, rfl⟩ := h
          exact mC false ho hu (cR hk) hz hsh h1 hby (he _ _ hcl) (he _ _ hcc) hs (hn _ (Nat.le_refl _) (Nat.lt_succ_self _)) hli hci hcond.1 hcond.2.1 hcond.2.2
        · cases h
      · cases h
    · cases hc
  · -- make
    rename_i k zero l c t l' c'
    simp only [Bool.and_eq_true] at hc
    obtain ⟨⟨hcl, hcc⟩, hc⟩ := hc
    split at hc
    · rename_i el hu
      simp only [Bool.and_eq_true, decide_eq_true_eq] at hc
      obtain ⟨⟨⟨⟨hk, hz⟩, hsh⟩, h1⟩, hby⟩ := hc
      simp only [ay] at h
      split at h
      · rename_i li ci hli hci
        split at h
        · rename_i hcond
          simp only [Option.some.injEq, Prod.mk.injEq] at h
          obtain ⟨rfl, rfl, rfl⟩ := h
          exact pP ho hu (cR hk) hz hsh h1 hby (he _ _ hcl) (he _ _ hcc) hs hli hci hcond.1 hcond.2.1 hcond.2.2
        · cases h
      · cases h
    · cases hc
  · -- nothing said
    simp [ay] at h
  · -- make, of slices
    rename_i zero l c t l' c'
    simp only [Bool.and_eq_true] at hc
    obtain ⟨⟨hcl, hcc⟩, hc⟩ := hc
    split at hc
    · rename_i el hu
      simp only [Bool.and_eq_true, decide_eq_true_eq] at hc
      obtain ⟨⟨⟨hk, hz⟩, h1⟩, hby⟩ := hc
      simp only [ay] at h
      split at h
      · rename_i li ci hli hci
        split at h
        · rename_i hcond
          simp only [Option.some.injEq, Prod.mk.injEq] at h
          obtain ⟨rfl, rfl, rfl⟩ := h
          obtain ⟨c1, c2, c2', c3⟩ := hcond
          obtain rfl : li = ci := by omega
          exact pR ho hu (cR hk) hz h1 hby (he _ _ hcl) (he _ _ hcc) hs (hn _ (Nat.le_refl _) (Nat.lt_succ_self _)) hli hci c1 c3
        · cases h
      · cases h
    · cases hc
  · -- two operands
    rename_i op x y op' t x' y' t'
    simp only [Bool.and_eq_true, beq_iff_eq] at hc
    obtain ⟨⟨rfl, hx⟩, hy⟩ := hc
    simp only [ay] at h
    cases hf : gq op (e x) (e y) with
    | none => simp [hf] at h
    | some u =>
      simp [hf] at h
      obtain ⟨rfl, rfl, rfl⟩ := h
      exact pA ho (he _ _ hx) (he _ _ hy) hs hf
  · -- bools
    rename_i neg x y op' t x' y' t'
    simp only [Bool.and_eq_true, beq_iff_eq] at hc
    obtain ⟨⟨⟨rfl, hx⟩, hy⟩, hc⟩ := hc
    split at hc
    · rename_i hu
      simp only [ay] at h
      cases hf : j9 (e x) (e y) with
      | none => simp [hf] at h
      | some u =>
        simp [hf] at h
        obtain ⟨rfl, rfl, rfl⟩ := h
        unfold j9 at hf
        split at hf
        · rename_i p q hp hq
          cases hf
          have := pB (P := P) (A := A) (n := n) ho (he _ _ hx) (he _ _ hy) hs hu hp hq
          exact this
        · cases hf
    · cases hc
  · -- nil
    rename_i neg q x y op' t x' y' t'
    simp only [Bool.and_eq_true, beq_iff_eq] at hc
    obtain ⟨⟨⟨rfl, hx⟩, hy⟩, hc⟩ := hc
    simp only [ay] at h
    cases hf : il q (e x) (e y) with
    | none => simp [hf] at h
    | some u =>
      simp [hf] at h
      obtain ⟨rfl, rfl, rfl⟩ := h
      refine pF ho (he _ _ hx) (he _ _ hy) hs ?_ hf
      split at hc
      · rename_i z hu; exact .inl ⟨z, hu, by simpa using hc⟩
      · rename_i z hu; exact .inr (.inl ⟨z, hu, by simpa using hc⟩)
      · rename_i z1 z2 z3 hu; exact .inr (.inr ⟨z1, z2, z3, hu, by simpa using hc⟩)
      · cases hc
  · -- structs and arrays
    rename_i neg ks x y op' t x' y' t'
    simp only [Bool.and_eq_true, beq_iff_eq, Bool.not_eq_true'] at hc
    obtain ⟨⟨⟨⟨⟨⟨rfl, hx⟩, hy⟩, hfl⟩, hks⟩, hg⟩, hc⟩ := hc
    simp only [ay] at h
    cases hf : fJ ks (e x) (e y) with
    | none => simp [hf] at h
    | some u =>
      simp [hf] at h
      obtain ⟨rfl, rfl, rfl⟩ := h
      unfold fJ at hf
      split at hf
      · rename_i p q hp hq
        have hlen := ft 8 t hfl
        rw [hks] at hlen
        split at hf
        · rename_i hl
          have hty : (∃ fs, P.underlying t = some (.struct fs)) ∨ ∃ m el, P.underlying t = some (.array m el) := by
            split at hc
            · exact .inl ⟨_, by assumption⟩
            · exact .inr ⟨_, _, by assumption⟩
            · cases hc
          exact pC ho (he _ _ hx) (he _ _ hy) hs hfl hks hg hty hp hq (hl.1.trans hlen) (hl.2.trans hlen) hf
        · cases hf
      · cases hf
  · -- len of a slice
    rename_i x c
    split at hc
    · rename_i hb
      simp only [Bool.and_eq_true, beq_iff_eq] at hc
      obtain ⟨⟨⟨h1, h2⟩, h3⟩, hc⟩ := hc
      split at hc
      · rename_i el hu
        simp only [ay] at h
        split at h
        · rename_i k vs hx
          simp only [Option.some.injEq, Prod.mk.injEq] at h
          obtain ⟨rfl, rfl, rfl⟩ := h
          exact kh ho hb h2 h3 hu he hs (.inl ⟨k, vs, hx, rfl⟩)
        · rename_i hx
          simp only [Option.some.injEq, Prod.mk.injEq] at h
          obtain ⟨rfl, rfl, rfl⟩ := h
          exact kh (m := 0) ho hb h2 h3 hu he hs (.inr (.inl ⟨hx, rfl⟩))
        · rename_i id off len hx
          simp only [Option.some.injEq, Prod.mk.injEq] at h
          obtain ⟨rfl, rfl, rfl⟩ := h
          exact kh ho hb h2 h3 hu he hs (.inr (.inr ⟨id, off, hx⟩))
        · cases h
      · cases hc
    · cases hc
  · -- len of a string
    rename_i x c
    split at hc
    · rename_i hb
      simp only [Bool.and_eq_true, beq_iff_eq] at hc
      obtain ⟨⟨⟨h1, h2⟩, h3⟩, hc⟩ := hc
      split at hc
      · rename_i hu
        simp only [ay] at h
        split at h
        · rename_i s hx
          simp only [Option.some.injEq, Prod.mk.injEq] at h
          obtain ⟨rfl, rfl, rfl⟩ := h
          exact pp ho hb h2 h3 hu he hs hx
        · cases h
      · cases hc
    · cases hc
  · -- len of an array
    rename_i m c
    split at hc
    · rename_i hb
      simp only [Bool.and_eq_true, beq_iff_eq, decide_eq_true_eq] at hc
      obtain ⟨⟨⟨h0, h1⟩, h2⟩, hc⟩ := hc
      simp only [ay, Option.some.injEq, Prod.mk.injEq] at h
      obtain ⟨rfl, rfl, rfl⟩ := h
      refine pr h0 ho hb h1 h2 ?_ hs
      split at hc
      · rename_i m' el hu
        simp only [beq_iff_eq] at hc
        subst hc
        exact .inl ⟨_, hu⟩
      · rename_i q hu
        split at hc
        · rename_i m' el hu'
          simp only [beq_iff_eq] at hc
          subst hc
          exact .inr ⟨_, _, hu, hu'⟩
        · cases hc
      · cases hc
    · cases hc
  · -- min
    rename_i x y c
    split at hc
    · rename_i hb
      simp only [ay] at h
      split at h
      · rename_i k i q j hx hy
        split at h
        · rename_i hq
          subst hq
          simp only [Option.some.injEq, Prod.mk.injEq] at h
          obtain ⟨rfl, rfl, rfl⟩ := h
          exact pu ho hb hc he hs hx hy
        · cases h
      · cases h
    · cases hc
  · -- max
    rename_i x y c
    split at hc
    · rename_i hb
      simp only [ay] at h
      split at h
      · rename_i k i q j hx hy
        split at h
        · rename_i hq
          subst hq
          simp only [Option.some.injEq, Prod.mk.injEq] at h
          obtain ⟨rfl, rfl, rfl⟩ := h
          exact pv ho hb hc he hs hx hy
        · cases h
      · cases h
    · cases hc
  · -- append
    rename_i k x y m c
    split at hc
    · rename_i hb
      simp only [Bool.and_eq_true, beq_iff_eq] at hc
      obtain ⟨⟨h1, h2⟩, hc⟩ := hc
      split at hc
      · rename_i el u hu hu2
        simp only [Bool.and_eq_true, decide_eq_true_eq] at hc
        obtain ⟨⟨⟨hni, hk⟩, hby⟩, hc⟩ := hc
        split at hc
        · rename_i i hi
          split at hc
          · rename_i z hz
            simp only [beq_iff_eq] at hc
            simp only [ay] at h
            have hn' : n' = n + 1 := by
              unfold cX at h
              split at h
              · cases h
              · split at h
                · split at h
                  · simp only [Option.some.injEq, Prod.mk.injEq] at h; exact h.2.2.symm
                  · cases h
                · split at h
                  · split at h
                    · simp only [Option.some.injEq, Prod.mk.injEq] at h; exact h.2.2.symm
                    · cases h
                  · cases h
                · cases h
            refine kB ho hb h1 h2 hu hu2 ?_ (cR hk) hi hz hc hby he hs (hn n (Nat.le_refl _) (by omega)) h
            split at hni
            · exact .inl ⟨_, rfl⟩
            · exact .inr rfl
            · cases hni
          · cases hc
        · cases hc
      · cases hc
    · cases hc
  · -- append to a part
    rename_i k x y m c
    split at hc
    · rename_i hb
      simp only [Bool.and_eq_true, beq_iff_eq] at hc
      obtain ⟨⟨h1, h2⟩, hc⟩ := hc
      split at hc
      · rename_i el u hu hu2
        simp only [Bool.and_eq_true, decide_eq_true_eq] at hc
        obtain ⟨⟨⟨hni, hk⟩, hby⟩, hc⟩ := hc
        split at hc
        · rename_i i hi
          split at hc
          · rename_i z hz
            simp only [beq_iff_eq] at hc
            simp only [ay] at h
            split at h
            · rename_i id len hx
              split at h
              · rename_i kb els hid
                split at h
                · rename_i hlen
                  have hn' : n' = n + 1 := by
                    unfold cX at h
                    split at h
                    · cases h
                    · split at h
                      · split at h
                        · simp only [Option.some.injEq, Prod.mk.injEq] at h; exact h.2.2.symm
                        · cases h
                      · split at h
                        · split at h
                          · simp only [Option.some.injEq, Prod.mk.injEq] at h; exact h.2.2.symm
                          · cases h
                        · cases h
                      · cases h
                  refine pV hid (kB (m := m) ho hb h1 h2 hu hu2 ?_ (cR hk) hi hz hc hby (by unfold cx; rw [kC hid]; exact he) (hs.cutL hid len) (hn n (Nat.le_refl _) (by omega)) h)
                  split at hni
                  · exact .inl ⟨_, rfl⟩
                  · exact .inr rfl
                  · cases hni
                · cases h
              · cases h
            · cases h
          · cases hc
        · cases hc
      · cases hc
    · cases hc
  · -- clear
    rename_i k zero x c
    split at hc
    · rename_i hb
      simp only [Bool.and_eq_true, beq_iff_eq] at hc
      obtain ⟨⟨h1, h2⟩, hc⟩ := hc
      split at hc
      · rename_i el hu
        simp only [Bool.and_eq_true, beq_iff_eq] at hc
        obtain ⟨⟨⟨hk, hz⟩, hz1⟩, hzl⟩ := hc
        simp only [ay] at h
        split at h
        · rename_i id off len hx
          split at h
          · rename_i kb els hid
            split at h
            · rename_i hcond
              obtain ⟨rfl, hle⟩ := hcond
              simp only [Option.some.injEq, Prod.mk.injEq] at h
              obtain ⟨rfl, rfl, rfl⟩ := h
              exact p5 ho hb h2 h1 hu hk hz hz1 hzl he hs hx hid hle
            · cases h
          · cases h
        · cases h
      · cases hc
    · cases hc
  · -- mkmap
    rename_i t r
    simp only [Bool.and_eq_true, Option.isNone_iff_eq_none] at hc
    obtain ⟨rfl, _⟩ := hc
    simp only [ay, Option.some.injEq, Prod.mk.injEq] at h
    obtain ⟨rfl, rfl, rfl⟩ := h
    exact qd ho hs (hn _ (Nat.le_refl _) (Nat.lt_succ_self _))
  · -- mget
    rename_i q z ok x i t y j ok'
    simp only [Bool.and_eq_true, beq_iff_eq] at hc
    obtain ⟨⟨⟨rfl, h1⟩, h2⟩, hc⟩ := hc
    split at hc
    · rename_i kt et ht
      simp only [Bool.and_eq_true, beq_iff_eq] at hc
      simp only [ay] at h
      split at h
      · rename_i id d hx hi
        split at h
        · rename_i es hid
          split at h
          · rename_i p y' hh hr
            simp only [Option.some.injEq, Prod.mk.injEq] at h
            obtain ⟨rfl, rfl, rfl⟩ := h
            exact mZ ho ht hc.1 hc.2 (he _ _ h1) (he _ _ h2) hs hx hi hid hh hr
          · rename_i hh hr
            simp only [Option.some.injEq, Prod.mk.injEq] at h
            obtain ⟨rfl, rfl, rfl⟩ := h
            exact mZ ho ht hc.1 hc.2 (he _ _ h1) (he _ _ h2) hs hx hi hid hh hr
          · cases h
        · cases h
      · cases h
    · cases hc
  · -- mset
    rename_i q x i u t y j v'
    simp only [Bool.and_eq_true, beq_iff_eq] at hc
    obtain ⟨⟨⟨h1, h2⟩, h3⟩, hc⟩ := hc
    split at hc
    · rename_i kt et ht
      simp only [beq_iff_eq] at hc
      simp only [ay] at h
      split at h
      · rename_i id d dv hx hi hu
        split at h
        · rename_i es hid
          split at h
          · rename_i p y' hh hr
            simp only [Option.some.injEq, Prod.mk.injEq] at h
            obtain ⟨rfl, rfl, rfl⟩ := h
            exact m3 ho ht hc (he _ _ h1) (he _ _ h2) (he _ _ h3) hs hx hi hu hid hh hr
          · rename_i hh hr
            simp only [Option.some.injEq, Prod.mk.injEq] at h
            obtain ⟨rfl, rfl, rfl⟩ := h
            exact m3 ho ht hc (he _ _ h1) (he _ _ h2) (he _ _ h3) hs hx hi hu hid hh hr
          · cases h
        · cases h
      · cases h
    · cases hc
  · -- mlen
    rename_i x c
    split at hc
    · rename_i hb
      simp only [Bool.and_eq_true, beq_iff_eq] at hc
      obtain ⟨⟨⟨h1, h2⟩, h3⟩, hc⟩ := hc
      split at hc
      · rename_i kt et hu
        simp only [ay] at h
        split at h
        · rename_i id hx
          split at h
          · rename_i es hid
            split at h
            · rename_i hle
              simp only [Option.some.injEq, Prod.mk.injEq] at h
              obtain ⟨rfl, rfl, rfl⟩ := h
              exact qe ho hb h2 h3 ⟨kt, et, hu⟩ he hs hx hid hle
            · cases h
          · cases h
        · cases h
      · cases hc
    · cases hc
  · simp only [ay] at h; cases h
  · simp only [ay] at h; cases h
  · cases hc
end
end Go.AM
