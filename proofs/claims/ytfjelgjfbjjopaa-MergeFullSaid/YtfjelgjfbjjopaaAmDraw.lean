import Derived.Test.YtfjelgjfbjjopaaAmReg
/-
  AM, part 19: regions whose order is drawn: the text's order serves for each.
-/
set_option linter.unusedVariables false
set_option linter.unusedSectionVars false
set_option linter.unusedSimpArgs false
namespace Go.AM
open Go Go.RowKit
variable [Glob]

section
variable {P : Program} {N : Nat} {A : Nat → Nat → Prop} {μ : Nat → Option Place} {T T' T2 : Nat → V} {σ σ' σ2 : Store} {w : World} {a : Act} {o : Oper} {n n' n2 : Nat} {v : V} {e : AX → V}

/-! what an operation hangs on -/

theorem evT_eq {x : AX} (h : ∀ t ∈ x.tmps, T t = T2 t) : evT T x = evT T2 x := by
  cases x with
  | t n => exact h n (by simp [AX.tmps])
  | c d => rfl

theorem evT_eqL {xs : List AX} (h : ∀ t ∈ xs.flatMap AX.tmps, T t = T2 t) : xs.map (evT T) = xs.map (evT T2) := by
  refine List.map_congr_left fun x hx => evT_eq fun t ht => h t (List.mem_flatMap.2 ⟨x, hx, ht⟩)

theorem evT_eqO {x : Option AX} (h : ∀ t ∈ (x.map AX.tmps).getD [], T t = T2 t) : x.map (evT T) = x.map (evT T2) := by
  cases x with
  | none => rfl
  | some x => simp only [Option.map_some]; rw [evT_eq (x := x) (fun t ht => h t (by simpa using ht))]

theorem evT_eqP {ps : List (Nat × Nat × AX)} (h : ∀ t ∈ ps.flatMap (fun p => p.2.2.tmps), T t = T2 t) : (ps.map fun p => (p.1, p.2.1, evT T p.2.2)) = ps.map fun p => (p.1, p.2.1, evT T2 p.2.2) := by
  refine List.map_congr_left fun p hp => ?_
  rw [evT_eq (x := p.2.2) fun t ht => h t (List.mem_flatMap.2 ⟨p, hp, ht⟩)]

theorem evT_eqD {xs : List AX} (h : ∀ t ∈ xs.flatMap AX.tmps, T t = T2 t) : (xs.map fun x => (evT T x).toD) = xs.map fun x => (evT T2 x).toD := by
  refine List.map_congr_left fun x hx => ?_
  rw [evT_eq (x := x) fun t ht => h t (List.mem_flatMap.2 ⟨x, hx, ht⟩)]

theorem stepV_reads {op : AOp} (h : ∀ t ∈ op.reads, T t = T2 t) : stepV op (evT T) σ n = stepV op (evT T2) σ n := by
  have one : ∀ {x : AX}, (∀ t ∈ x.tmps, T t = T2 t) → evT T x = evT T2 x := fun h => evT_eq h
  cases op <;> simp only [AOp.reads, List.mem_append] at h <;> simp only [stepV]
  case mov x => rw [one h]
  case pick x y z => rw [one fun t ht => h t (.inl (.inl ht)), one fun t ht => h t (.inl (.inr ht)), one fun t ht => h t (.inr ht)]
  case box => rw [one h]
  case build => rw [evT_eqP h]
  case bslice => rw [evT_eqD h]
  case bsliceV k parts m =>
    have : (parts.map fun x => viewA σ (evT T x)) = parts.map fun x => viewA σ (evT T2 x) := List.map_congr_left fun x hx => by
      rw [evT_eq (x := x) fun t ht => h t (List.mem_flatMap.2 ⟨x, hx, ht⟩)]
    rw [this]
  case bsliceI => rw [evT_eqD h]
  case load => rw [one h]
  case ldI => rw [one h]
  case nilchk => rw [one h]
  case un => rw [one h]
  case convI => rw [one h]
  case convS => rw [one h]
  case s2b => rw [one h]
  case b2s => rw [one h]
  case mkfunc => rw [evT_eqD h, evT_eqL h]
  case faddr => rw [one h]
  case fld => rw [one h]
  case len => rw [one h]
  case clear => rw [one h]
  case slen => rw [one h]
  case extract => rw [one h]
  case slc => rw [one fun t ht => h t (.inl (.inl ht)), evT_eqO fun t ht => h t (.inl (.inr ht)), evT_eqO fun t ht => h t (.inr ht)]
  case slcA => rw [one fun t ht => h t (.inl (.inl ht)), evT_eqO fun t ht => h t (.inl (.inr ht)), evT_eqO fun t ht => h t (.inr ht)]
  case sstr => rw [one fun t ht => h t (.inl (.inl ht)), evT_eqO fun t ht => h t (.inl (.inr ht)), evT_eqO fun t ht => h t (.inr ht)]
  case mlen => rw [one h]
  case mset => rw [one fun t ht => h t (.inl (.inl ht)), one fun t ht => h t (.inl (.inr ht)), one fun t ht => h t (.inr ht)]
  all_goals first | rfl | rw [one fun t ht => h t (.inl ht), one fun t ht => h t (.inr ht)]

theorem OpStep.reads {op : AOp} (h : ∀ t ∈ op.reads, T t = T2 t) (hs : OpStep P op (evT T) σ n v σ' n') : OpStep P op (evT T2) σ n v σ' n' := by
  unfold OpStep at hs ⊢
  split
  · rename_i f xs
    rw [← evT_eqL (T := T) h]; exact hs
  · rename_i f xs
    rw [← evT_eqL (T := T) h]; exact hs
  · rename_i x xs
    simp only [AOp.reads, List.mem_append] at h
    rw [← evT_eq (T := T) fun t ht => h t (.inl ht), ← evT_eqL (T := T) fun t ht => h t (.inr ht)]; exact hs
  · rename_i x xs
    simp only [AOp.reads, List.mem_append] at h
    rw [← evT_eq (T := T) fun t ht => h t (.inl ht), ← evT_eqL (T := T) fun t ht => h t (.inr ht)]; exact hs
  · split at hs
    · rename_i h1 _ _ _; exact (h1 _ _ rfl).elim
    · rename_i h1 _ _; exact (h1 _ _ rfl).elim
    · rename_i h1 _; exact (h1 _ _ rfl).elim
    · rename_i h1; exact (h1 _ _ rfl).elim
    · rw [← stepV_reads h]; exact hs

set_option maxHeartbeats 1000000 in
theorem stepV_cls0 {op : AOp} (hc : op.cls = 0) (h : stepV op e σ n = some (v, σ', n')) : σ' = σ ∧ n' = n ∧ ∀ σ2 n2, stepV op e σ2 n2 = some (v, σ2, n2) := by
  cases op <;> simp only [AOp.cls, reduceCtorEq, Nat.reduceEqDiff] at hc <;> simp only [stepV] at h ⊢
  case box k x imm =>
    cases imm with
    | false => simp at hc
    | true =>
      simp only [if_true] at h ⊢
      split at h
      · split at h
        · rename_i hh; simp only [Option.some.injEq, Prod.mk.injEq] at h; obtain ⟨rfl, rfl, rfl⟩ := h; exact ⟨rfl, rfl, fun _ _ => by rw [if_pos hh]⟩
        · cases h
      · cases h
  case call w f xs => cases w <;> simp at hc
  case callv w f xs => cases w <;> simp at hc
  case min2 x y =>
    split at h
    · split at h
      · rename_i hq
        simp only [Option.some.injEq, Prod.mk.injEq] at h; obtain ⟨rfl, rfl, rfl⟩ := h; exact ⟨rfl, rfl, fun _ _ => by rw [if_pos hq]⟩
      · cases h
    · cases h
  case max2 x y =>
    split at h
    · split at h
      · rename_i hq
        simp only [Option.some.injEq, Prod.mk.injEq] at h; obtain ⟨rfl, rfl, rfl⟩ := h; exact ⟨rfl, rfl, fun _ _ => by rw [if_pos hq]⟩
      · cases h
    · cases h
  case bsliceI k parts =>
    split at h
    · rename_i ds hd
      split at h
      · rename_i hsh
        simp only [Option.some.injEq, Prod.mk.injEq] at h; obtain ⟨rfl, rfl, rfl⟩ := h; exact ⟨rfl, rfl, fun _ _ => by rw [if_pos hsh]⟩
      · cases h
    · cases h
  all_goals first
    | (simp only [Option.some.injEq, Prod.mk.injEq] at h; obtain ⟨rfl, rfl, rfl⟩ := h; exact ⟨rfl, rfl, fun _ _ => rfl⟩)
    | (simp only [Option.map_eq_some_iff, Prod.mk.injEq] at h; obtain ⟨x, hx, rfl, rfl, rfl⟩ := h; exact ⟨rfl, rfl, fun _ _ => by rw [hx]; rfl⟩)
    | (repeat' split at h
       all_goals first
        | (cases h; done)
        | (simp only [Option.some.injEq, Prod.mk.injEq] at h; obtain ⟨rfl, rfl, rfl⟩ := h; exact ⟨rfl, rfl, fun _ _ => by simp_all⟩)
        | (simp only [Option.map_eq_some_iff, Prod.mk.injEq] at h; obtain ⟨x, hx, rfl, rfl, rfl⟩ := h; exact ⟨rfl, rfl, fun _ _ => by simp_all⟩))

set_option maxHeartbeats 1000000 in
theorem stepV_cls2 {op : AOp} (hc : op.cls = 2) (h : stepV op e σ n = some (v, σ', n')) : n' = n + 1 ∧ ∃ blk, σ' = upd σ n (some blk) ∧ ∀ σ2, stepV op e σ2 n = some (v, upd σ2 n (some blk), n + 1) := by
  cases op <;> simp only [AOp.cls, reduceCtorEq, Nat.reduceEqDiff] at hc <;> simp only [stepV] at h ⊢
  case call w f xs => cases w <;> simp at hc
  case callv w f xs => cases w <;> simp at hc
  case box k x imm =>
    cases imm with
    | true => simp at hc
    | false =>
      simp only [Bool.false_eq_true, if_false] at h ⊢
      split at h
      · rename_i hh; simp only [Option.some.injEq, Prod.mk.injEq] at h; obtain ⟨rfl, rfl, rfl⟩ := h; exact ⟨rfl, _, rfl, fun _ => by rw [if_pos hh]⟩
      · cases h
  case bslice k parts m =>
    split at h
    · rename_i ds hd
      split at h
      · rename_i hsh
        simp only [Option.some.injEq, Prod.mk.injEq] at h; obtain ⟨rfl, rfl, rfl⟩ := h; exact ⟨rfl, _, rfl, fun _ => by rw [if_pos hsh]⟩
      · cases h
    · cases h
  all_goals first
    | (simp only [Option.some.injEq, Prod.mk.injEq] at h; obtain ⟨rfl, rfl, rfl⟩ := h; exact ⟨rfl, _, rfl, fun _ => rfl⟩)
    | (repeat' split at h
       all_goals first
        | (cases h; done)
        | (simp only [Option.some.injEq, Prod.mk.injEq] at h; obtain ⟨rfl, rfl, rfl⟩ := h; exact ⟨rfl, _, rfl, fun _ => by simp_all⟩))

/-! operations that read the store -/

/-- A value that some machine's value is of. -/
def Vld (μ : Nat → Option Place) (v : V) : Prop := ∃ O w u, VRel μ O w v u

theorem Vld.loc {id off len : Nat} (h : Vld μ (.loc id off len)) : μ id ≠ none := by
  obtain ⟨O, w, u, h⟩ := h
  cases h with
  | loc0 _ _ _ h => exact h
  | loc _ _ _ _ _ _ h => rw [h]; simp

theorem Vld.ptr {id i j : Nat} (h : Vld μ (.ptr id i j)) : μ id ≠ none := by
  obtain ⟨O, w, u, h⟩ := h
  cases h with
  | ptr _ _ _ _ _ h => rw [h]; simp

theorem Vld.mref {id : Nat} (h : Vld μ (.mref id)) : μ id ≠ none := by
  obtain ⟨O, w, u, h⟩ := h
  cases h with
  | mref _ _ _ h => rw [h]; simp

/-- Two stores that agree where a value's reading looks. -/
def Agree (σ σ2 : Store) (v : V) : Prop := (∀ id off len, v = .loc id off len → σ2 id = σ id) ∧ (∀ id i j, v = .ptr id i j → σ2 id = σ id) ∧ (∀ id, v = .mref id → σ2 id = σ id)

theorem loadAt_agree {k : Option Nat} {x : V} (h : Agree σ σ2 x) : loadAt σ2 k x = loadAt σ k x := by
  cases x with
  | ptr id i j => simp only [loadAt, h.2.1 id i j rfl]
  | d x => cases x <;> rfl
  | _ => rfl

theorem kindOf_agree {x : V} (h : Agree σ σ2 x) : kindOf σ2 x = kindOf σ x := by
  cases x with
  | loc id off len => simp only [kindOf, h.1 id off len rfl]
  | d x => cases x <;> rfl
  | _ => rfl

theorem elemsOf_agree {x : V} (h : Agree σ σ2 x) : elemsOf σ2 x = elemsOf σ x := by
  cases x with
  | loc id off len => simp only [elemsOf, h.1 id off len rfl]
  | d x => cases x <;> rfl
  | _ => rfl

theorem sliceSrc_agree {k : Option Nat} {x : V} (h : Agree σ σ2 x) : sliceSrc σ2 k x = sliceSrc σ k x := by
  have h1 := kindOf_agree h
  have h2 := elemsOf_agree h
  unfold sliceSrc
  split
  · rfl
  · rw [h1, h2]

/-- The operands whose store an operation reads. -/
def AOp.looks : AOp → List AX
  | .load _ x | .iaddr _ x _ | .b2s x | .slc _ x _ _ | .mget _ _ _ x _ | .mlen x => [x]
  | _ => []

theorem stepV_cls1 {op : AOp} (hc : op.cls = 1) (h : stepV op e σ n = some (v, σ', n')) (ha : ∀ x ∈ op.looks, Agree σ σ2 (e x)) : σ' = σ ∧ n' = n ∧ stepV op e σ2 n2 = some (v, σ2, n2) := by
  cases op <;> simp only [AOp.cls, reduceCtorEq, Nat.reduceEqDiff] at hc <;> simp only [AOp.looks, List.mem_singleton, forall_eq] at ha <;> simp only [stepV] at h ⊢
  case box k x imm => cases imm <;> simp at hc
  case mget q z ok x i =>
    split at h
    · rename_i id d hx hi
      rw [ha.2.2 id hx]
      split at h
      · split at h
        · simp only [Option.some.injEq, Prod.mk.injEq] at h; obtain ⟨rfl, rfl, rfl⟩ := h
          exact ⟨rfl, rfl, by simp_all⟩
        · simp only [Option.some.injEq, Prod.mk.injEq] at h; obtain ⟨rfl, rfl, rfl⟩ := h
          exact ⟨rfl, rfl, by simp_all⟩
        · cases h
      · cases h
    · cases h
  case mlen x =>
    split at h
    · rename_i id hx
      rw [ha.2.2 id hx]
      split at h
      · rename_i es hid
        split at h
        · rename_i hle
          simp only [Option.some.injEq, Prod.mk.injEq] at h; obtain ⟨rfl, rfl, rfl⟩ := h
          exact ⟨rfl, rfl, by simp [hid, hle]⟩
        · cases h
      · cases h
    · cases h
  case load k x =>
    simp only [Option.map_eq_some_iff, Prod.mk.injEq] at h
    obtain ⟨z, hz, rfl, rfl, rfl⟩ := h
    exact ⟨rfl, rfl, by rw [loadAt_agree ha, hz]; rfl⟩
  case b2s x =>
    split at h
    · rename_i s hs
      simp only [Option.some.injEq, Prod.mk.injEq] at h; obtain ⟨rfl, rfl, rfl⟩ := h
      exact ⟨rfl, rfl, by rw [sliceSrc_agree ha, hs]⟩
    · cases h
  case iaddr k x i =>
    split at h
    · rename_i k' vs q ix hx hi
      split at h
      · rename_i hcnd
        split at h
        · rename_i d hd
          simp only [Option.some.injEq, Prod.mk.injEq] at h; obtain ⟨rfl, rfl, rfl⟩ := h
          refine ⟨rfl, rfl, ?_⟩
          rw [if_pos hcnd]
        · cases h
      · cases h
    · rename_i id off len q ix hx hi
      split at h
      · rename_i hcnd
        simp only [Option.some.injEq, Prod.mk.injEq] at h; obtain ⟨rfl, rfl, rfl⟩ := h
        refine ⟨rfl, rfl, ?_⟩
        have := kindOf_agree ha
        rw [hx] at this
        rw [this, if_pos hcnd]
      · cases h
    · cases h
  case slc k x lo hi =>
    split at h
    · rename_i k' vs hx
      split at h
      · rename_i hk
        split at h
        · rename_i l r hb
          simp only [Option.some.injEq, Prod.mk.injEq] at h; obtain ⟨rfl, rfl, rfl⟩ := h
          refine ⟨rfl, rfl, ?_⟩
          rw [if_pos hk]
        · cases h
      · cases h
    · rename_i hx
      split at h
      · rename_i pq hb
        simp only [Option.some.injEq, Prod.mk.injEq] at h; obtain ⟨rfl, rfl, rfl⟩ := h
        refine ⟨rfl, rfl, ?_⟩
        rfl
      · cases h
    · rename_i id off len hx
      split at h
      · rename_i hk
        split at h
        · rename_i l r hb
          simp only [Option.some.injEq, Prod.mk.injEq] at h; obtain ⟨rfl, rfl, rfl⟩ := h
          refine ⟨rfl, rfl, ?_⟩
          have := kindOf_agree ha
          rw [hx] at this
          rw [this, if_pos hk]
        · cases h
      · cases h
    · cases h
  case call w f xs => cases h
  case callv w x xs => cases h

theorem viewC_agree {x : V} (h : Agree σ σ2 x) : viewC σ2 x = viewC σ x := by
  cases x with
  | loc id off len => simp only [viewC, h.1 id off len rfl]
  | _ => rfl

/-- .. for a struct: of its cells. -/
def AgreeA (σ σ2 : Store) (v : V) : Prop := Agree σ σ2 v ∧ ∀ vs, v = .agg vs → ∀ x ∈ vs, Agree σ σ2 x

theorem viewA_agree {x : V} (h : AgreeA σ σ2 x) : viewA σ2 x = viewA σ x := by
  cases x with
  | agg vs =>
    simp only [viewA]
    congr 1
    congr 1
    exact List.map_congr_left fun y hy => viewC_agree (h.2 vs rfl y hy)
  | loc id off len => exact viewC_agree h.1
  | _ => rfl

theorem ArgsOk_agree : ∀ {vals : List V} {ds : List D}, (∀ v ∈ vals, AgreeA σ σ2 v) → ArgsOk σ vals ds → ArgsOk σ2 vals ds
  | [], [], _, _ => trivial
  | v :: vals, d :: ds, h, ⟨⟨d0, h1, h2⟩, h3⟩ => ⟨⟨d0, by rw [viewA_agree (h v (by simp))]; exact h1, h2⟩, ArgsOk_agree (fun v hv => h v (by simp [hv])) h3⟩
  | [], _ :: _, _, h => h.elim
  | _ :: _, [], _, h => h.elim

/-- The operands that a pure call sees as data. -/
def AOp.sees : AOp → List AX
  | .call false _ xs | .callv false _ xs => xs
  | _ => []

theorem OpStep.cls0 {op : AOp} (hc : op.cls = 0) (h : OpStep P op e σ n v σ' n') : σ' = σ ∧ n' = n ∧ ∀ σ2 n2, OpStep P op e σ2 n2 v σ2 n2 := by
  cases op with
  | call w f xs => cases w <;> simp [AOp.cls] at hc
  | callv w f xs => cases w <;> simp [AOp.cls] at hc
  | _ => exact stepV_cls0 hc h

theorem OpStep.cls2 {op : AOp} (hc : op.cls = 2) (h : OpStep P op e σ n v σ' n') : n' = n + 1 ∧ ∃ blk, σ' = upd σ n (some blk) ∧ ∀ σ2, OpStep P op e σ2 n v (upd σ2 n (some blk)) (n + 1) := by
  cases op with
  | call w f xs => cases w <;> simp [AOp.cls] at hc
  | callv w f xs => cases w <;> simp [AOp.cls] at hc
  | _ => exact stepV_cls2 hc h

theorem OpStep.cls1 {op : AOp} (hc : op.cls = 1) (h : OpStep P op e σ n v σ' n') (ha : ∀ x ∈ op.looks, Agree σ σ2 (e x)) (hv : ∀ x ∈ op.sees, AgreeA σ σ2 (e x)) : σ' = σ ∧ n' = n ∧ OpStep P op e σ2 n2 v σ2 n2 := by
  cases op with
  | call w f xs =>
    cases w with
    | true => simp [AOp.cls] at hc
    | false =>
      obtain ⟨ds, r, h1, h2, rfl, rfl, rfl⟩ := h
      refine ⟨rfl, rfl, ds, r, ArgsOk_agree (fun v hv' => ?_) h1, h2, rfl, rfl, rfl⟩
      obtain ⟨x, hx, rfl⟩ := List.mem_map.1 hv'
      exact hv x hx
  | callv w x xs =>
    cases w with
    | true => simp [AOp.cls] at hc
    | false =>
      obtain ⟨f, caps, ds, r, h0, h1, h2, rfl, rfl, rfl⟩ := h
      refine ⟨rfl, rfl, f, caps, ds, r, h0, ArgsOk_agree (fun v hv' => ?_) h1, h2, rfl, rfl, rfl⟩
      obtain ⟨x, hx, rfl⟩ := List.mem_map.1 hv'
      exact hv x hx
  | _ => exact stepV_cls1 hc h ha

end
end Go.AM
