import Derived.Test.YtfjelgjfbjjopaaAmReg
set_option linter.unusedVariables false
set_option linter.unusedSectionVars false
set_option linter.unusedSimpArgs false
namespace Go.AM
open Go Go.RowKit
variable [Glob]
section
variable {P : Program} {N : Nat} {A : Nat → Nat → Prop} {μ : Nat → Option aJ} {T T' T2 : Nat → V} {σ σ' σ2 : au} {w : World} {a : Act} {o : Oper} {n n' n2 : Nat} {v : V} {e : AX → V}
theorem e9 {x : AX} (h : ∀ t ∈ x.tmps, T t = T2 t) : aD T x = aD T2 x := by
  cases x with
  | t n => exact h n (by simp [AX.tmps])
  | c d => rfl
theorem iy {xs : List AX} (h : ∀ t ∈ xs.flatMap AX.tmps, T t = T2 t) : xs.map (aD T) = xs.map (aD T2) := by
  refine List.map_congr_left fun x hx => e9 fun t ht => h t (List.mem_flatMap.2 ⟨x, hx, ht⟩)
theorem gI {x : Option AX} (h : ∀ t ∈ (x.map AX.tmps).getD [], T t = T2 t) : x.map (aD T) = x.map (aD T2) := by
  cases x with
  | none => rfl
  | some x => simp only [Option.map_some]; rw [e9 (x := x) (fun t ht => h t (by simpa using ht))]
theorem qj {ps : List (Nat × Nat × AX)} (h : ∀ t ∈ ps.flatMap (fun p => p.2.2.tmps), T t = T2 t) : (ps.map fun p => (p.1, p.2.1, aD T p.2.2)) = ps.map fun p => (p.1, p.2.1, aD T2 p.2.2) := by
  refine List.map_congr_left fun p hp => ?_
  rw [e9 (x := p.2.2) fun t ht => h t (List.mem_flatMap.2 ⟨p, hp, ht⟩)]
theorem kI {xs : List AX} (h : ∀ t ∈ xs.flatMap AX.tmps, T t = T2 t) : (xs.map fun x => (aD T x).toD) = xs.map fun x => (aD T2 x).toD := by
  refine List.map_congr_left fun x hx => ?_
  rw [e9 (x := x) fun t ht => h t (List.mem_flatMap.2 ⟨x, hx, ht⟩)]
theorem qk {op : aM} (h : ∀ t ∈ op.reads, T t = T2 t) : ay op (aD T) σ n = ay op (aD T2) σ n := by
  have one : ∀ {x : AX}, (∀ t ∈ x.tmps, T t = T2 t) → aD T x = aD T2 x := fun h => e9 h
  cases op <;> simp only [aM.reads, List.mem_append] at h <;> simp only [ay]
  case mov x => rw [one h]
  case pick x y z => rw [one fun t ht => h t (.inl (.inl ht)), one fun t ht => h t (.inl (.inr ht)), one fun t ht => h t (.inr ht)]
  case box => rw [one h]
  case build => rw [qj h]
  case bslice => rw [kI h]
  case bsliceV k parts m =>
    have : (parts.map fun x => cO σ (aD T x)) = parts.map fun x => cO σ (aD T2 x) := List.map_congr_left fun x hx => by
      rw [e9 (x := x) fun t ht => h t (List.mem_flatMap.2 ⟨x, hx, ht⟩)]
    rw [this]
  case bsliceI => rw [kI h]
  case load => rw [one h]
  case ldI => rw [one h]
  case nilchk => rw [one h]
  case un => rw [one h]
  case convI => rw [one h]
  case convS => rw [one h]
  case s2b => rw [one h]
  case b2s => rw [one h]
  case mkfunc => rw [kI h, iy h]
  case faddr => rw [one h]
  case fld => rw [one h]
  case len => rw [one h]
  case clear => rw [one h]
  case slen => rw [one h]
  case extract => rw [one h]
  case slc => rw [one fun t ht => h t (.inl (.inl ht)), gI fun t ht => h t (.inl (.inr ht)), gI fun t ht => h t (.inr ht)]
  case slcA => rw [one fun t ht => h t (.inl (.inl ht)), gI fun t ht => h t (.inl (.inr ht)), gI fun t ht => h t (.inr ht)]
  case sstr => rw [one fun t ht => h t (.inl (.inl ht)), gI fun t ht => h t (.inl (.inr ht)), gI fun t ht => h t (.inr ht)]
  case mlen => rw [one h]
  case mset => rw [one fun t ht => h t (.inl (.inl ht)), one fun t ht => h t (.inl (.inr ht)), one fun t ht => h t (.inr ht)]
  all_goals first | rfl | rw [one fun t ht => h t (.inl ht), one fun t ht => h t (.inr ht)]
theorem bQ.reads {op : aM} (h : ∀ t ∈ op.reads, T t = T2 t) (hs : bQ P op (aD T) σ n v σ' n') : bQ P op (aD T2) σ n v σ' n' := by
  unfold bQ at hs ⊢
  split
  · rename_i f xs
    rw [← iy (T := T) h]; exact hs
  · rename_i f xs
    rw [← iy (T := T) h]; exact hs
  · rename_i x xs
    simp only [aM.reads, List.mem_append] at h
    rw [← e9 (T := T) fun t ht => h t (.inl ht), ← iy (T := T) fun t ht => h t (.inr ht)]; exact hs
  · rename_i x xs
    simp only [aM.reads, List.mem_append] at h
    rw [← e9 (T := T) fun t ht => h t (.inl ht), ← iy (T := T) fun t ht => h t (.inr ht)]; exact hs
  · split at hs
    · rename_i h1 _ _ _; exact (h1 _ _ rfl).elim
    · rename_i h1 _ _; exact (h1 _ _ rfl).elim
    · rename_i h1 _; exact (h1 _ _ rfl).elim
    · rename_i h1; exact (h1 _ _ rfl).elim
    · rw [← qk h]; exact hs
set_option maxHeartbeats 1000000 in
theorem nb {op : aM} (hc : op.cls = 0) (h : ay op e σ n = some (v, σ', n')) : σ' = σ ∧ n' = n ∧ ∀ σ2 n2, ay op e σ2 n2 = some (v, σ2, n2) := by
  cases op <;> simp only [aM.cls, reduceCtorEq, Nat.reduceEqDiff] at hc <;> simp only [ay] at h ⊢
  case box k x imm =>
    cases imm with
    | false => simp at hc
    | true =>
      simp only [if_true] at h ⊢
      split at h
      · split at h
        · rename_i hh; simp only [Option.some.injEq, Prod.mk.injEq] at h; obtain ⟨rfl, rfl, rfl⟩ := h; exact ⟨rfl, rfl, fun _ _ => by rw [if_pos hh]⟩
        · cases h
      · cases h
  case call w f xs => cases w <;> simp at hc
  case callv w f xs => cases w <;> simp at hc
  case min2 x y =>
    split at h
    · split at h
      · rename_i hq
        simp only [Option.some.injEq, Prod.mk.injEq] at h; obtain ⟨rfl, rfl, rfl⟩ := h; exact ⟨rfl, rfl, fun _ _ => by rw [if_pos hq]⟩
      · cases h
    · cases h
  case max2 x y =>
    split at h
    · split at h
      · rename_i hq
        simp only [Option.some.injEq, Prod.mk.injEq] at h; obtain ⟨rfl, rfl, rfl⟩ := h; exact ⟨rfl, rfl, fun _ _ => by rw [if_pos hq]⟩
      · cases h
    · cases h
  case bsliceI k parts =>
    split at h
    · rename_i ds hd
      split at h
      · rename_i hsh
        simp only [Option.some.injEq, Prod.mk.injEq] at h; obtain ⟨rfl, rfl, rfl⟩ := h; exact ⟨rfl, rfl, fun _ _ => by rw [if_pos hsh]⟩
      · cases h
    · cases h
  all_goals first
    | (simp only [Option.some.injEq, Prod.mk.injEq] at h; obtain ⟨rfl, rfl, rfl⟩ := h; exact ⟨rfl, rfl, fun _ _ => rfl⟩)
    | (simp only [Option.map_eq_some_iff, Prod.mk.injEq] at h; obtain ⟨x, hx, rfl, rfl, rfl⟩ := h; exact ⟨rfl, rfl, fun _ _ => by rw [hx]; rfl⟩)
    | (repeat' split at h
       all_goals first
        | (cases h; done)
        | (simp only [Option.some.injEq, Prod.mk.injEq] at h; obtain ⟨rfl, rfl, rfl⟩ := h; exact ⟨rfl, rfl, fun _ _ => by simp_all⟩)
        | (simp only [Option.map_eq_some_iff, Prod.mk.injEq] at h; obtain ⟨x, hx, rfl, rfl, rfl⟩ := h; exact ⟨rfl, rfl, fun _ _ => by simp_all⟩))
set_option maxHeartbeats 1000000 in
theorem nc {op : aM} (hc : op.cls = 2) (h : ay op e σ n = some (v, σ', n')) : n' = n + 1 ∧ ∃ blk, σ' = aj σ n (some blk) ∧ ∀ σ2, ay op e σ2 n = some (v, aj σ2 n (some blk), n + 1) := by
  cases op <;> simp only [aM.cls, reduceCtorEq, Nat.reduceEqDiff] at hc <;> simp only [ay] at h ⊢
  case call w f xs => cases w <;> simp at hc
  case callv w f xs => cases w <;> simp at hc
  case box k x imm =>
    cases imm with
    | true => simp at hc
    | false =>
      simp only [Bool.false_eq_true, if_false] at h ⊢
      split at h
      · rename_i hh; simp only [Option.some.injEq, Prod.mk.injEq] at h; obtain ⟨rfl, rfl, rfl⟩ := h; exact ⟨rfl, _, rfl, fun _ => by rw [if_pos hh]⟩
      · cases h
  case bslice k parts m =>
    split at h
    · rename_i ds hd
      split at h
      · rename_i hsh
        simp only [Option.some.injEq, Prod.mk.injEq] at h; obtain ⟨rfl, rfl, rfl⟩ := h; exact ⟨rfl, _, rfl, fun _ => by rw [if_pos hsh]⟩
      · cases h
    · cases h
  all_goals first
    | (simp only [Option.some.injEq, Prod.mk.injEq] at h; obtain ⟨rfl, rfl, rfl⟩ := h; exact ⟨rfl, _, rfl, fun _ => rfl⟩)
    | (repeat' split at h
       all_goals first
        | (cases h; done)
        | (simp only [Option.some.injEq, Prod.mk.injEq] at h; obtain ⟨rfl, rfl, rfl⟩ := h; exact ⟨rfl, _, rfl, fun _ => by simp_all⟩))
def eQ (μ : Nat → Option aJ) (v : V) : Prop := ∃ O w u, aw μ O w v u
theorem eQ.loc {id off len : Nat} (h : eQ μ (.loc id off len)) : μ id ≠ none := by
  obtain ⟨O, w, u, h⟩ := h
  cases h with
  | loc0 _ _ _ h => exact h
  | loc _ _ _ _ _ _ h => rw [h]; simp
theorem eQ.ptr {id i j : Nat} (h : eQ μ (.ptr id i j)) : μ id ≠ none := by
  obtain ⟨O, w, u, h⟩ := h
  cases h with
  | ptr _ _ _ _ _ h => rw [h]; simp
theorem eQ.mref {id : Nat} (h : eQ μ (.mref id)) : μ id ≠ none := by
  obtain ⟨O, w, u, h⟩ := h
  cases h with
  | mref _ _ _ h => rw [h]; simp
def dZ (σ σ2 : au) (v : V) : Prop := (∀ id off len, v = .loc id off len → σ2 id = σ id) ∧ (∀ id i j, v = .ptr id i j → σ2 id = σ id) ∧ (∀ id, v = .mref id → σ2 id = σ id)
theorem ql {k : Option Nat} {x : V} (h : dZ σ σ2 x) : bU σ2 k x = bU σ k x := by
  cases x with
  | ptr id i j => simp only [bU, h.2.1 id i j rfl]
  | d x => cases x <;> rfl
  | _ => rfl
theorem kJ {x : V} (h : dZ σ σ2 x) : bX σ2 x = bX σ x := by
  cases x with
  | loc id off len => simp only [bX, h.1 id off len rfl]
  | d x => cases x <;> rfl
  | _ => rfl
theorem qm {x : V} (h : dZ σ σ2 x) : cW σ2 x = cW σ x := by
  cases x with
  | loc id off len => simp only [cW, h.1 id off len rfl]
  | d x => cases x <;> rfl
  | _ => rfl
theorem nd {k : Option Nat} {x : V} (h : dZ σ σ2 x) : dO σ2 k x = dO σ k x := by
  have h1 := kJ h
  have h2 := qm h
  unfold dO
  split
  · rfl
  · rw [h1, h2]
def aM.looks : aM → List AX
  | .load _ x | .iaddr _ x _ | .b2s x | .slc _ x _ _ | .mget _ _ _ x _ | .mlen x => [x]
  | _ => []
theorem qn {op : aM} (hc : op.cls = 1) (h : ay op e σ n = some (v, σ', n')) (ha : ∀ x ∈ op.looks, dZ σ σ2 (e x)) : σ' = σ ∧ n' = n ∧ ay op e σ2 n2 = some (v, σ2, n2) := by
  cases op <;> simp only [aM.cls, reduceCtorEq, Nat.reduceEqDiff] at hc <;> simp only [aM.looks, List.mem_singleton, forall_eq] at ha <;> simp only [ay] at h ⊢
  case box k x imm => cases imm <;> simp at hc
  case mget q z ok x i =>
    split at h
    · rename_i id d hx hi
      rw [ha.2.2 id hx]
      split at h
      · split at h
        · simp only [Option.some.injEq, Prod.mk.injEq] at h; obtain ⟨rfl, rfl, rfl⟩ := h
          exact ⟨rfl, rfl, by simp_all⟩
        · simp only [Option.some.injEq, Prod.mk.injEq] at h; obtain ⟨rfl, rfl, rfl⟩ := h
          exact ⟨rfl, rfl, by simp_all⟩
        · cases h
      · cases h
    · cases h
  case mlen x =>
    split at h
    · rename_i id hx
      rw [ha.2.2 id hx]
      split at h
      · rename_i es hid
        split at h
        · rename_i hle
          simp only [Option.some.injEq, Prod.mk.injEq] at h; obtain ⟨rfl, rfl, rfl⟩ := h
          exact ⟨rfl, rfl, by simp [hid, hle]⟩
        · cases h
      · cases h
    · cases h
  case load k x =>
    simp only [Option.map_eq_some_iff, Prod.mk.injEq] at h
    obtain ⟨z, hz, rfl, rfl, rfl⟩ := h
    exact ⟨rfl, rfl, by rw [ql ha, hz]; rfl⟩
  case b2s x =>
    split at h
    · rename_i s hs
      simp only [Option.some.injEq, Prod.mk.injEq] at h; obtain ⟨rfl, rfl, rfl⟩ := h
      exact ⟨rfl, rfl, by rw [nd ha, hs]⟩
    · cases h
  case iaddr k x i =>
    split at h
    · rename_i k' vs q ix hx hi
      split at h
      · rename_i hcnd
        split at h
        · rename_i d hd
          simp only [Option.some.injEq, Prod.mk.injEq] at h; obtain ⟨rfl, rfl, rfl⟩ := h
          refine ⟨rfl, rfl, ?_⟩
          rw [if_pos hcnd]
        · cases h
      · cases h
    · rename_i id off len q ix hx hi
      split at h
      · rename_i hcnd
        simp only [Option.some.injEq, Prod.mk.injEq] at h; obtain ⟨rfl, rfl, rfl⟩ := h
        refine ⟨rfl, rfl, ?_⟩
        have := kJ ha
        rw [hx] at this
        rw [this, if_pos hcnd]
      · cases h
    · cases h
  case slc k x lo hi =>
    split at h
    · rename_i k' vs hx
      split at h
      · rename_i hk
        split at h
        · rename_i l r hb
          simp only [Option.some.injEq, Prod.mk.injEq] at h; obtain ⟨rfl, rfl, rfl⟩ := h
          refine ⟨rfl, rfl, ?_⟩
          rw [if_pos hk]
        · cases h
      · cases h
    · rename_i hx
      split at h
      · rename_i pq hb
        simp only [Option.some.injEq, Prod.mk.injEq] at h; obtain ⟨rfl, rfl, rfl⟩ := h
        refine ⟨rfl, rfl, ?_⟩
        rfl
      · cases h
    · rename_i id off len hx
      split at h
      · rename_i hk
        split at h
        · rename_i l r hb
          simp only [Option.some.injEq, Prod.mk.injEq] at h; obtain ⟨rfl, rfl, rfl⟩ := h
          refine ⟨rfl, rfl, ?_⟩
          have := kJ ha
          rw [hx] at this
          rw [this, if_pos hk]
        · cases h
      · cases h
    · cases h
  case call w f xs => cases h
  case callv w x xs => cases h
theorem nf {x : V} (h : dZ σ σ2 x) : cJ σ2 x = cJ σ x := by
  cases x with
  | loc id off len => simp only [cJ, h.1 id off len rfl]
  | _ => rfl
def gJ (σ σ2 : au) (v : V) : Prop := dZ σ σ2 v ∧ ∀ vs, v = .agg vs → ∀ x ∈ vs, dZ σ σ2 x
theorem nh {x : V} (h : gJ σ σ2 x) : cO σ2 x = cO σ x := by
  cases x with
  | agg vs =>
    simp only [cO]
    congr 1
    congr 1
    exact List.map_congr_left fun y hy => nf (h.2 vs rfl y hy)
  | loc id off len => exact nf h.1
  | _ => rfl
theorem kK : ∀ {vals : List V} {ds : List D}, (∀ v ∈ vals, gJ σ σ2 v) → bh σ vals ds → bh σ2 vals ds
  | [], [], _, _ => trivial
  | v :: vals, d :: ds, h, ⟨⟨d0, h1, h2⟩, h3⟩ => ⟨⟨d0, by rw [nh (h v (by simp))]; exact h1, h2⟩, kK (fun v hv => h v (by simp [hv])) h3⟩
  | [], _ :: _, _, h => h.elim
  | _ :: _, [], _, h => h.elim
def aM.sees : aM → List AX
  | .call false _ xs | .callv false _ xs => xs
  | _ => []
theorem bQ.cls0 {op : aM} (hc : op.cls = 0) (h : bQ P op e σ n v σ' n') : σ' = σ ∧ n' = n ∧ ∀ σ2 n2, bQ P op e σ2 n2 v σ2 n2 := by
  cases op with
  | call w f xs => cases w <;> simp [aM.cls] at hc
  | callv w f xs => cases w <;> simp [aM.cls] at hc
  | _ => exact nb hc h
theorem bQ.cls2 {op : aM} (hc : op.cls = 2) (h : bQ P op e σ n v σ' n') : n' = n + 1 ∧ ∃ blk, σ' = aj σ n (some blk) ∧ ∀ σ2, bQ P op e σ2 n v (aj σ2 n (some blk)) (n + 1) := by
  cases op with
  | call w f xs => cases w <;> simp [aM.cls] at hc
  | callv w f xs => cases w <;> simp [aM.cls] at hc
  | _ => exact nc hc h
theorem bQ.cls1 {op : aM} (hc : op.cls = 1) (h : bQ P op e σ n v σ' n') (ha : ∀ x ∈ op.looks, dZ σ σ2 (e x)) (hv : ∀ x ∈ op.sees, gJ σ σ2 (e x)) : σ' = σ ∧ n' = n ∧ bQ P op e σ2 n2 v σ2 n2 := by
  cases op with
  | call w f xs =>
    cases w with
    | true => simp [aM.cls] at hc
    | false =>
      obtain ⟨ds, r, h1, h2, rfl, rfl, rfl⟩ := h
      refine ⟨rfl, rfl, ds, r, kK (fun v hv' => ?_) h1, h2, rfl, rfl, rfl⟩
      obtain ⟨x, hx, rfl⟩ := List.mem_map.1 hv'
      exact hv x hx
  | callv w x xs =>
    cases w with
    | true => simp [aM.cls] at hc
    | false =>
      obtain ⟨f, caps, ds, r, h0, h1, h2, rfl, rfl, rfl⟩ := h
      refine ⟨rfl, rfl, f, caps, ds, r, h0, kK (fun v hv' => ?_) h1, h2, rfl, rfl, rfl⟩
      obtain ⟨x, hx, rfl⟩ := List.mem_map.1 hv'
      exact hv x hx
  | _ => exact qn hc h ha
end
end Go.AM
