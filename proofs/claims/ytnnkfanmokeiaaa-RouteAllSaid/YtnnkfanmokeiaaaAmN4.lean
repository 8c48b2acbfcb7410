import GoSem.Core.View
import Derived.Test.YtnnkfanmokeiaaaAmN3
/-  Several texts in one. -/
section
namespace Go.AM
open Go
def be {α : Type} (l : List α) (i : Int) : Option α := if 0 ≤ i then l[i.toNat]? else none
def cY {α : Type} (xs ys : List α) : Option (List α) := if xs.length + ys.length ≤ 4294967296 then some (xs ++ ys) else none
def eF {α : Type} (l : List α) (lo hi : Int) : Option (List α) := if 0 ≤ lo ∧ lo ≤ hi ∧ hi ≤ l.length then some ((l.drop lo.toNat).take (hi.toNat - lo.toNat)) else none
def di {α : Type} (l : List α) (i : Int) (v : α) : Option (List α) := if 0 ≤ i then if i.toNat < l.length then some (l.set i.toNat v) else none else none
def fj {α : Type} (n : Int) (z : α) : Option (List α) := if 0 ≤ n ∧ n ≤ 4294967296 then some (List.replicate n.toNat z) else none
def mg (a b : Int) : Option Int := if b = 0 then none else some (a.tmod b)
def Fr (s : ByteArray) : List Int := s.data.toList.map fun b => (b.toNat : Int)
def fX (a b : Int) : Int := if b > a then b else a
def mget {κ ν : Type} [DecidableEq κ] : List (κ × ν) → κ → Option ν
  | [], _ => none
  | p :: m, k => if k = p.1 then some p.2 else mget m k
def en {κ ν : Type} [DecidableEq κ] : List (κ × ν) → κ → ν → List (κ × ν)
  | [], k, v => [(k, v)]
  | p :: m, k, v => if k = p.1 then (k, v) :: m else p :: en m k v
def jm {α : Type} (l : List α) : Option Int := if l.length ≤ 4294967296 then some (l.length : Int) else none
def bA (a b : Int) : List Int := (List.range (b - a).toNat).map fun (i : Nat) => a + i
inductive Br (σ ρ : Type) where
  | next (s : σ)
  | brk (s : σ)
  | ret (r : ρ)
inductive Ex (σ ρ : Type) where
  | done (s : σ)
  | ret (r : ρ)
section
variable {σ ρ : Type}
def cQ (f : Int → σ → Option σ) : List Int → σ → Option σ
  | [], s => some s
  | i :: l, s => (f i s).bind fun s => cQ f l s
def ka (f : Int → σ → Option (σ ⊕ σ)) : List Int → σ → Option σ
  | [], s => some s
  | i :: l, s => (f i s).bind fun x => match x with
    | .inl s => ka f l s
    | .inr s => some s
def b6 (f : Int → σ → Option (Br σ ρ)) : List Int → σ → Option (Ex σ ρ)
  | [], s => some (.done s)
  | i :: l, s => (f i s).bind fun x => match x with
    | .next s => b6 f l s
    | .brk s => some (.done s)
    | .ret r => some (.ret r)
def iz (f : σ → Option (σ ⊕ σ)) : Nat → σ → Option σ
  | 0, _ => none
  | k + 1, s => (f s).bind fun x => match x with
    | .inl s => iz f k s
    | .inr s => some s
end
def c9 : Nat := 1099511627776
attribute [irreducible] c9
theorem ap {α β : Type} {o : Option α} {f : α → Option β} {r : β} (h : o.bind f = some r) : ∃ x, o = some x ∧ f x = some r := by
  cases o with
  | none => cases h
  | some x => exact ⟨x, rfl, h⟩
theorem aU {α : Type} {c : Bool} {A B r : α} (hc : c = true) (h : (if c = true then A else B) = r) : A = r := by rw [if_pos hc] at h; exact h
theorem aV {α : Type} {c : Bool} {A B r : α} (hc : ¬ c = true) (h : (if c = true then A else B) = r) : B = r := by rw [if_neg hc] at h; exact h
structure A2 (α : Type) where
  a0 : α
  a1 : α
  deriving DecidableEq, Inhabited
structure A4 (α : Type) where
  a0 : α
  a1 : α
  a2 : α
  a3 : α
  deriving DecidableEq, Inhabited
structure A5 (α : Type) where
  a0 : α
  a1 : α
  a2 : α
  a3 : α
  a4 : α
  deriving DecidableEq, Inhabited
structure A8 (α : Type) where
  a0 : α
  a1 : α
  a2 : α
  a3 : α
  a4 : α
  a5 : α
  a6 : α
  a7 : α
  deriving DecidableEq, Inhabited
def A2.l {α : Type} (a : A2 α) : List α := [a.a0, a.a1]
def A4.l {α : Type} (a : A4 α) : List α := [a.a0, a.a1, a.a2, a.a3]
def A5.l {α : Type} (a : A5 α) : List α := [a.a0, a.a1, a.a2, a.a3, a.a4]
def A8.l {α : Type} (a : A8 α) : List α := [a.a0, a.a1, a.a2, a.a3, a.a4, a.a5, a.a6, a.a7]
def A2.get {α : Type} (a : A2 α) (i : Int) : Option α := be a.l i
def A4.get {α : Type} (a : A4 α) (i : Int) : Option α := be a.l i
def A5.get {α : Type} (a : A5 α) (i : Int) : Option α := be a.l i
def A8.get {α : Type} (a : A8 α) (i : Int) : Option α := be a.l i
def A2.of {α : Type} : List α → Option (A2 α)
  | [a, b] => some ⟨a, b⟩
  | _ => none
def A4.of {α : Type} : List α → Option (A4 α)
  | [a, b, c, d] => some ⟨a, b, c, d⟩
  | _ => none
def A5.of {α : Type} : List α → Option (A5 α)
  | [a, b, c, d, e] => some ⟨a, b, c, d, e⟩
  | _ => none
def A8.of {α : Type} : List α → Option (A8 α)
  | [a, b, c, d, e, f, g, h] => some ⟨a, b, c, d, e, f, g, h⟩
  | _ => none
def A2.put {α : Type} (a : A2 α) (i : Int) (v : α) : Option (A2 α) := (di a.l i v).bind A2.of
def A4.put {α : Type} (a : A4 α) (i : Int) (v : α) : Option (A4 α) := (di a.l i v).bind A4.of
def A5.put {α : Type} (a : A5 α) (i : Int) (v : α) : Option (A5 α) := (di a.l i v).bind A5.of
def A8.put {α : Type} (a : A8 α) (i : Int) (v : α) : Option (A8 α) := (di a.l i v).bind A8.of
end Go.AM
end
section
set_option linter.unusedVariables false
set_option linter.unusedSectionVars false
set_option linter.unusedSimpArgs false
namespace Go.AM
open Go Go.RowKit
variable [Glob]
section
variable {P : Program} {N na : Nat} {A : Nat → Nat → Prop} {μ μ' : Nat → Option bI} {T T' : Nat → V} {σ σ' : aL} {w w' : World} {a : Act} {n n' : Nat} {l : List bL} {dst : Option Nat} {op : bF} {K : S → Prop}
theorem ck {c : bC} {Q : Exit → S → Prop} {s : S} (t : Nat) {k : IntKind} {x : Int} (ht : s.T t = .d (.int k x)) (h : k.wrap x = x → bG P N na c Q s) : bG P N na c Q s := by
  intro code hc A μ a w hs
  have := hs.1.tmps t
  rw [ht] at this
  exact h (kO this) code hc A μ a w hs
theorem aM {Q : Exit → S → Prop} {s : S} (s0 : S) {d : Bool} {l : List bL} {y : bC} (h : aQ P l s fun s' => bW na s' s0) (k : bG P N na y Q s0) : bG P N na (.seq (.ops d l) y) Q s :=
  tN (RunOps_mono l s (fun s' hs => ⟨s0, hs, k⟩) h)
where
  RunOps_mono {K K' : S → Prop} : ∀ (l : List bL) (s : S), (∀ s, K s → K' s) → aQ P l s K → aQ P l s K'
    | [], s, hk, h => hk s h
    | i :: l, s, hk, h => by
      have one : ∀ {K1 K2 : S → Prop} {op : bF} {dst : Option Nat}, (∀ s, K1 s → K2 s) → fV P op dst s K1 → fV P op dst s K2 := by
        intro K1 K2 op dst hk h
        unfold fV at h ⊢
        split at h
        · obtain ⟨ds, r, h1, h2, h3⟩ := h; exact ⟨ds, r, h1, h2, hk _ h3⟩
        · obtain ⟨v, σ', n', h1, h2, h3⟩ := h; exact ⟨v, σ', n', h1, h2, hk _ h3⟩
        · obtain ⟨f, caps, ds, r, h0, h1, h2, h3⟩ := h; exact ⟨f, caps, ds, r, h0, h1, h2, hk _ h3⟩
        · obtain ⟨f, caps, v, σ', n', h0, h1, h2, h3⟩ := h; exact ⟨f, caps, v, σ', n', h0, h1, h2, hk _ h3⟩
        · split at h
          · exact hk _ h
          · exact h.elim
      unfold aQ at h ⊢
      cases hg : i.guard with
      | none => rw [hg] at h; exact one (fun s => RunOps_mono l s hk) h
      | some p =>
        obtain ⟨g, b⟩ := p
        rw [hg] at h
        simp only at h ⊢
        cases hb : iO (s.T g) with
        | none => rw [hb] at h; exact h.elim
        | some b' =>
          rw [hb] at h
          simp only at h ⊢
          by_cases hbb : b' = some b
          · rw [if_pos hbb] at h ⊢; exact one (fun s => RunOps_mono l s hk) h
          · rw [if_neg hbb] at h ⊢; exact RunOps_mono l _ hk h
theorem dP {Q : Exit → S → Prop} {s : S} (s0 : S) {d : Bool} {l : List bL} (h : aQ P l s fun s' => bW na s' s0) (k : Q .normal s0) : bG P N na (.ops d l) Q s :=
  bG.ops (aM.RunOps_mono l s (fun s' hs => ⟨s0, hs, k⟩) h)
def JN (s0 : S) (e : Exit) (s' : S) : Prop := e = .normal ∧ s' = s0
theorem gg {Q : Exit → S → Prop} {s : S} (s0 : S) {x y : bC} (hx : bG P N na x (JN s0) s) (hy : bG P N na y Q s0) : bG P N na (.seq x y) Q s := by
  refine aA (hx.mono fun e s' ⟨h1, h2⟩ => ?_)
  subst h1; subst h2; exact hy
def JS {α ρ : Type} (s0 : α → S) (PQ : ρ → Exit → S → Prop) : α ⊕ ρ → Exit → S → Prop
  | .inl v, e, s' => e = .normal ∧ s' = s0 v
  | .inr r, e, s' => e ≠ .normal ∧ PQ r e s'
theorem mh {α ρ : Type} {s : S} (s0 : α → S) {Q : Exit → S → Prop} {xv : α ⊕ ρ} {r : ρ} {x y : bC} (hx : bG P N na x (JS s0 (fun r' e s' => r = r' → Q e s') xv) s) (hr : ∀ r', xv = .inr r' → r' = r) (hy : ∀ v, xv = .inl v → bG P N na y Q (s0 v)) : bG P N na (.seq x y) Q s := by
  refine aA (hx.mono fun e s' h => ?_)
  cases xv with
  | inl v => obtain ⟨h1, h2⟩ := h; subst h1; subst h2; exact hy v rfl
  | inr r' =>
    obtain ⟨h1, h2⟩ := h
    have h2 := h2 (hr r' rfl).symm
    cases e with
    | normal => exact (h1 rfl).elim
    | _ => exact h2
section
variable {β ρ : Type}
def LO (st' : β → S) (x : β) (e : Exit) (s' : S) : Prop := e = .normal ∧ s' = st' x
def LK (st' : β → S) (X : Nat) (stx : β → S) : β ⊕ β → Exit → S → Prop
  | .inl s, e, s' => e = .normal ∧ s' = st' s
  | .inr s, e, s' => e = .exit X ∧ s' = stx s
def LR (st' : β → S) (X : Nat) (stx : β → S) (PQ : ρ → Exit → S → Prop) : Br β ρ → Exit → S → Prop
  | .next s, e, s' => e = .normal ∧ s' = st' s
  | .brk s, e, s' => e = .exit X ∧ s' = stx s
  | .ret r, e, s' => e ≠ .normal ∧ PQ r e s'
def LE (X : Nat) (s0 : S) (e : Exit) (s' : S) : Prop := e = .exit X ∧ s' = s0
theorem zy {a b : Int} (h : ¬ a < b) : bA a b = [] := by
  simp [bA, show (b - a).toNat = 0 by omega]
theorem zA {a b : Int} (h : a < b) : bA a b = a :: bA (a + 1) b := by
  unfold bA
  rw [show (b - a).toNat = (b - (a + 1)).toNat + 1 by omega, List.range_succ_eq_map, List.map_cons, List.map_map]
  congr 1
  · simp
  · refine List.map_congr_left fun i _ => ?_
    simp only [Function.comp_apply]; push_cast; omega
structure mj (go : Int → Prop) (nx : Int → Int) (L : Int → List Int) : Prop where
  stop : ∀ i, ¬ go i → L i = []
  step : ∀ i, go i → L i = i :: L (nx i)
theorem ce (b : Int) : mj (· < b) (· + 1) (fun i => bA i b) := ⟨fun i h => zy h, fun i h => zA h⟩
variable {go : Int → Prop} {nx : Int → Int} {L : Int → List Int} {c : bC} {Q : Exit → S → Prop}
theorem eo (hL : mj go nx L) {f : Int → β → Option β} (st : Int → β → S) (X : Nat) (stx : β → S) (inv : Int → Prop) (hinv : ∀ i, inv i → go i → inv (nx i)) {a : Int} {s r : β} (h : cQ f (L a) s = some r) (ha : inv a)
    (hb : ∀ i s x, inv i → go i → f i s = some x → bG P N na c (LO (st (nx i)) x) (st i s)) (he : ∀ i s, inv i → ¬ go i → bG P N na c (LE X (stx s)) (st i s)) (hQ : Q (.exit X) (stx r)) : bG P N na (.loop c) Q (st a s) := by
  have key : ∀ (k : List Int) (a : Int) (s : β), L a = k → inv a → cQ f k s = some r → bG P N na (.loop c) Q (st a s) := by
    intro k
    induction k with
    | nil =>
      intro a s hk ha h
      have hng : ¬ go a := fun hg => by rw [hL.step a hg] at hk; cases hk
      cases h
      refine iy ((he a _ ha hng).mono fun e s' ⟨h1, h2⟩ => ?_)
      subst h1; subst h2; exact hQ
    | cons i k ih =>
      intro a s hk ha h
      have hg : go a := Classical.byContradiction fun hg => by rw [hL.stop a hg] at hk; cases hk
      rw [hL.step a hg] at hk
      obtain ⟨rfl, hk2⟩ := List.cons.inj hk
      obtain ⟨s2, h1, h2⟩ := ap h
      refine iy ((hb a s s2 ha hg h1).mono fun e s' ⟨g1, g2⟩ => ?_)
      subst g1; subst g2
      exact ih _ _ hk2 (hinv _ ha hg) h2
  exact key _ a s rfl ha h
theorem zB (hL : mj go nx L) {f : Int → β → Option (β ⊕ β)} (st : Int → β → S) (X : Nat) (stx : β → S) (inv : Int → Prop) (hinv : ∀ i, inv i → go i → inv (nx i)) {a : Int} {s r : β} (h : ka f (L a) s = some r) (ha : inv a)
    (hb : ∀ i s x, inv i → go i → f i s = some x → bG P N na c (LK (st (nx i)) X stx x) (st i s)) (he : ∀ i s, inv i → ¬ go i → bG P N na c (LE X (stx s)) (st i s)) (hQ : Q (.exit X) (stx r)) : bG P N na (.loop c) Q (st a s) := by
  have key : ∀ (k : List Int) (a : Int) (s : β), L a = k → inv a → ka f k s = some r → bG P N na (.loop c) Q (st a s) := by
    intro k
    induction k with
    | nil =>
      intro a s hk ha h
      have hng : ¬ go a := fun hg => by rw [hL.step a hg] at hk; cases hk
      cases h
      refine iy ((he a _ ha hng).mono fun e s' ⟨h1, h2⟩ => ?_)
      subst h1; subst h2; exact hQ
    | cons i k ih =>
      intro a s hk ha h
      have hg : go a := Classical.byContradiction fun hg => by rw [hL.stop a hg] at hk; cases hk
      rw [hL.step a hg] at hk
      obtain ⟨rfl, hk2⟩ := List.cons.inj hk
      obtain ⟨x, h1, h2⟩ := ap h
      refine iy ((hb a s x ha hg h1).mono fun e s' g => ?_)
      cases x with
      | inl s2 => obtain ⟨g1, g2⟩ := g; subst g1; subst g2; exact ih _ _ hk2 (hinv _ ha hg) h2
      | inr s2 => obtain ⟨g1, g2⟩ := g; subst g1; subst g2; cases h2; exact hQ
  exact key _ a s rfl ha h
theorem dj (hL : mj go nx L) {f : Int → β → Option (Br β ρ)} (st : Int → β → S) (X : Nat) (stx : β → S) (inv : Int → Prop) (hinv : ∀ i, inv i → go i → inv (nx i)) {a : Int} {s : β} {y : Ex β ρ} {r : ρ} (h : b6 f (L a) s = some y) (ha : inv a)
    (hb : ∀ i s x, inv i → go i → f i s = some x → bG P N na c (LR (st (nx i)) X stx (fun r' e s' => r = r' → Q e s') x) (st i s)) (he : ∀ i s, inv i → ¬ go i → bG P N na c (LE X (stx s)) (st i s)) (hr : ∀ r', y = .ret r' → r' = r) (hQ : ∀ s, y = .done s → Q (.exit X) (stx s)) : bG P N na (.loop c) Q (st a s) := by
  have key : ∀ (k : List Int) (a : Int) (s : β), L a = k → inv a → b6 f k s = some y → bG P N na (.loop c) Q (st a s) := by
    intro k
    induction k with
    | nil =>
      intro a s hk ha h
      have hng : ¬ go a := fun hg => by rw [hL.step a hg] at hk; cases hk
      cases h
      refine iy ((he a _ ha hng).mono fun e s' ⟨h1, h2⟩ => ?_)
      subst h1; subst h2; exact hQ _ rfl
    | cons i k ih =>
      intro a s hk ha h
      have hg : go a := Classical.byContradiction fun hg => by rw [hL.stop a hg] at hk; cases hk
      rw [hL.step a hg] at hk
      obtain ⟨rfl, hk2⟩ := List.cons.inj hk
      obtain ⟨x, h1, h2⟩ := ap h
      refine iy ((hb a s x ha hg h1).mono fun e s' g => ?_)
      cases x with
      | next s2 => obtain ⟨g1, g2⟩ := g; subst g1; subst g2; exact ih _ _ hk2 (hinv _ ha hg) h2
      | brk s2 => obtain ⟨g1, g2⟩ := g; subst g1; subst g2; cases h2; exact hQ _ rfl
      | ret r' =>
        obtain ⟨g1, g2⟩ := g
        cases h2
        have g2 := g2 (hr r' rfl).symm
        cases e with
        | normal => exact (g1 rfl).elim
        | _ => exact g2
  exact key _ a s rfl ha h
theorem tY {f : β → Option (β ⊕ β)} (st : β → S) (X : Nat) (stx : β → S) {k : Nat} {s r : β} (h : iz f k s = some r)
    (hb : ∀ s x, f s = some x → bG P N na c (LK st X stx x) (st s)) (hQ : Q (.exit X) (stx r)) : bG P N na (.loop c) Q (st s) := by
  induction k generalizing s with
  | zero => cases h
  | succ k ih =>
    obtain ⟨x, h1, h2⟩ := ap h
    refine iy ((hb s x h1).mono fun e s' g => ?_)
    cases x with
    | inl s2 => obtain ⟨g1, g2⟩ := g; subst g1; subst g2; exact ih h2
    | inr s2 => obtain ⟨g1, g2⟩ := g; subst g1; subst g2; cases h2; exact hQ
end
def bv (i : Int) : Prop := -9223372036854775808 ≤ i
theorem cf {b : Int} : ∀ i, bv i → i < b → bv (i + 1) := fun i h _ => by unfold bv at *; omega
theorem VN.eq {ρ : Nat → Nat} {n0 : Nat} {x y : D} (h : x = y) : VN ρ n0 (.d x) (.d y) := h ▸ .d x
theorem VN.nl {ρ : Nat → Nat} {n0 : Nat} {k : Option Nat} : VN ρ n0 (.d .nils) (.d (.vec k [])) := .sub _ _ (.nils k)
theorem VN.le {ρ : Nat → Nat} {n0 id off len len' : Nat} (h : len = len') (hid : id < n0) : VN ρ n0 (.loc (ρ id) off len) (.loc id off len') := h ▸ .loc id off len hid
end
end Go.AM
end
