import GoSem.Core.View
import Derived.Test.YtnnkfanmokeiaaaAmN3
/-  Several texts in one. -/
section
namespace Go.AM
open Go
def bq {α : Type} (l : List α) (i : Int) : Option α := if 0 ≤ i then l[i.toNat]? else none
def cx {α : Type} (xs ys : List α) : Option (List α) := if xs.length + ys.length ≤ 4294967296 then some (xs ++ ys) else none
def cJ {α : Type} (l : List α) (lo hi : Int) : Option (List α) := if 0 ≤ lo ∧ lo ≤ hi ∧ hi ≤ l.length then some ((l.drop lo.toNat).take (hi.toNat - lo.toNat)) else none
def dz {α : Type} (l : List α) (i : Int) (v : α) : Option (List α) := if 0 ≤ i then if i.toNat < l.length then some (l.set i.toNat v) else none else none
def gU {α : Type} (n : Int) (z : α) : Option (List α) := if 0 ≤ n ∧ n ≤ 4294967296 then some (List.replicate n.toNat z) else none
def Ay (s : ByteArray) : List Int := s.data.toList.map fun b => (b.toNat : Int)
def fK (a b : Int) : Int := if b < a then b else a
def kM (a b : Int) : Int := if b > a then b else a
def mget {κ ν : Type} [DecidableEq κ] : List (κ × ν) → κ → Option ν
  | [], _ => none
  | p :: m, k => if k = p.1 then some p.2 else mget m k
def eO {κ ν : Type} [DecidableEq κ] : List (κ × ν) → κ → ν → List (κ × ν)
  | [], k, v => [(k, v)]
  | p :: m, k, v => if k = p.1 then (k, v) :: m else p :: eO m k v
def jT {α : Type} (l : List α) : Option Int := if l.length ≤ 4294967296 then some (l.length : Int) else none
def bJ (a b : Int) : List Int := (List.range (b - a).toNat).map fun (i : Nat) => a + i
inductive Br (σ ρ : Type) where
  | next (s : σ)
  | brk (s : σ)
  | ret (r : ρ)
inductive Ex (σ ρ : Type) where
  | done (s : σ)
  | ret (r : ρ)
section
variable {σ ρ : Type}
def fy (f : Int → σ → Option σ) : List Int → σ → Option σ
  | [], s => some s
  | i :: l, s => (f i s).bind fun s => fy f l s
def bT (f : Int → σ → Option (Br σ ρ)) : List Int → σ → Option (Ex σ ρ)
  | [], s => some (.done s)
  | i :: l, s => (f i s).bind fun x => match x with
    | .next s => bT f l s
    | .brk s => some (.done s)
    | .ret r => some (.ret r)
def iW (f : σ → Option (Br σ ρ)) : Nat → σ → Option (Ex σ ρ)
  | 0, _ => none
  | k + 1, s => (f s).bind fun x => match x with
    | .next s => iW f k s
    | .brk s => some (.done s)
    | .ret r => some (.ret r)
end
def dH : Nat := 1099511627776
attribute [irreducible] dH
theorem ay {α β : Type} {o : Option α} {f : α → Option β} {r : β} (h : o.bind f = some r) : ∃ x, o = some x ∧ f x = some r := by
  cases o with
  | none => cases h
  | some x => exact ⟨x, rfl, h⟩
theorem aO {α : Type} {c : Bool} {A B r : α} (hc : c = true) (h : (if c = true then A else B) = r) : A = r := by rw [if_pos hc] at h; exact h
theorem aP {α : Type} {c : Bool} {A B r : α} (hc : ¬ c = true) (h : (if c = true then A else B) = r) : B = r := by rw [if_neg hc] at h; exact h
structure A2 (α : Type) where
  a0 : α
  a1 : α
  deriving DecidableEq, Inhabited
structure A4 (α : Type) where
  a0 : α
  a1 : α
  a2 : α
  a3 : α
  deriving DecidableEq, Inhabited
structure A5 (α : Type) where
  a0 : α
  a1 : α
  a2 : α
  a3 : α
  a4 : α
  deriving DecidableEq, Inhabited
structure A8 (α : Type) where
  a0 : α
  a1 : α
  a2 : α
  a3 : α
  a4 : α
  a5 : α
  a6 : α
  a7 : α
  deriving DecidableEq, Inhabited
def A2.l {α : Type} (a : A2 α) : List α := [a.a0, a.a1]
def A4.l {α : Type} (a : A4 α) : List α := [a.a0, a.a1, a.a2, a.a3]
def A5.l {α : Type} (a : A5 α) : List α := [a.a0, a.a1, a.a2, a.a3, a.a4]
def A8.l {α : Type} (a : A8 α) : List α := [a.a0, a.a1, a.a2, a.a3, a.a4, a.a5, a.a6, a.a7]
def A2.get {α : Type} (a : A2 α) (i : Int) : Option α := bq a.l i
def A4.get {α : Type} (a : A4 α) (i : Int) : Option α := bq a.l i
def A5.get {α : Type} (a : A5 α) (i : Int) : Option α := bq a.l i
def A8.get {α : Type} (a : A8 α) (i : Int) : Option α := bq a.l i
def A2.of {α : Type} : List α → Option (A2 α)
  | [a, b] => some ⟨a, b⟩
  | _ => none
def A4.of {α : Type} : List α → Option (A4 α)
  | [a, b, c, d] => some ⟨a, b, c, d⟩
  | _ => none
def A5.of {α : Type} : List α → Option (A5 α)
  | [a, b, c, d, e] => some ⟨a, b, c, d, e⟩
  | _ => none
def A8.of {α : Type} : List α → Option (A8 α)
  | [a, b, c, d, e, f, g, h] => some ⟨a, b, c, d, e, f, g, h⟩
  | _ => none
def A2.put {α : Type} (a : A2 α) (i : Int) (v : α) : Option (A2 α) := (dz a.l i v).bind A2.of
def A4.put {α : Type} (a : A4 α) (i : Int) (v : α) : Option (A4 α) := (dz a.l i v).bind A4.of
def A5.put {α : Type} (a : A5 α) (i : Int) (v : α) : Option (A5 α) := (dz a.l i v).bind A5.of
def A8.put {α : Type} (a : A8 α) (i : Int) (v : α) : Option (A8 α) := (dz a.l i v).bind A8.of
end Go.AM
end
section
set_option linter.unusedVariables false
set_option linter.unusedSectionVars false
set_option linter.unusedSimpArgs false
namespace Go.AM
open Go Go.RowKit
variable [Glob]
section
variable {P : Program} {N na : Nat} {A : Nat → Nat → Prop} {μ μ' : Nat → Option bn} {T T' : Nat → V} {σ σ' : aB} {w w' : World} {a : Act} {n n' : Nat} {l : List bt} {dst : Option Nat} {op : be} {K : S → Prop}
theorem c8 {c : bA} {Q : Exit → S → Prop} {s : S} (t : Nat) {k : IntKind} {x : Int} (ht : s.T t = .d (.int k x)) (h : k.wrap x = x → aI P N na c Q s) : aI P N na c Q s := by
  intro code hc A μ a w hs
  have := hs.1.tmps t
  rw [ht] at this
  exact h (iN this) code hc A μ a w hs
theorem am {Q : Exit → S → Prop} {s : S} (s0 : S) {d : Bool} {l : List bt} {y : bA} (h : aZ P l s fun s' => bO na s' s0) (k : aI P N na y Q s0) : aI P N na (.seq (.ops d l) y) Q s :=
  uS (RunOps_mono l s (fun s' hs => ⟨s0, hs, k⟩) h)
where
  RunOps_mono {K K' : S → Prop} : ∀ (l : List bt) (s : S), (∀ s, K s → K' s) → aZ P l s K → aZ P l s K'
    | [], s, hk, h => hk s h
    | i :: l, s, hk, h => by
      have one : ∀ {K1 K2 : S → Prop} {op : be} {dst : Option Nat}, (∀ s, K1 s → K2 s) → eC P op dst s K1 → eC P op dst s K2 := by
        intro K1 K2 op dst hk h
        unfold eC at h ⊢
        split at h
        · obtain ⟨ds, r, h1, h2, h3⟩ := h; exact ⟨ds, r, h1, h2, hk _ h3⟩
        · obtain ⟨v, σ', n', h1, h2, h3⟩ := h; exact ⟨v, σ', n', h1, h2, hk _ h3⟩
        · obtain ⟨f, caps, ds, r, h0, h1, h2, h3⟩ := h; exact ⟨f, caps, ds, r, h0, h1, h2, hk _ h3⟩
        · obtain ⟨f, caps, v, σ', n', h0, h1, h2, h3⟩ := h; exact ⟨f, caps, v, σ', n', h0, h1, h2, hk _ h3⟩
        · split at h
          · exact hk _ h
          · exact h.elim
      unfold aZ at h ⊢
      cases hg : i.guard with
      | none => rw [hg] at h; exact one (fun s => RunOps_mono l s hk) h
      | some p =>
        obtain ⟨g, b⟩ := p
        rw [hg] at h
        simp only at h ⊢
        cases hb : gA (s.T g) with
        | none => rw [hb] at h; exact h.elim
        | some b' =>
          rw [hb] at h
          simp only at h ⊢
          by_cases hbb : b' = some b
          · rw [if_pos hbb] at h ⊢; exact one (fun s => RunOps_mono l s hk) h
          · rw [if_neg hbb] at h ⊢; exact RunOps_mono l _ hk h
theorem bU {Q : Exit → S → Prop} {s : S} (s0 : S) {d : Bool} {l : List bt} (h : aZ P l s fun s' => bO na s' s0) (k : Q .normal s0) : aI P N na (.ops d l) Q s :=
  aI.ops (am.RunOps_mono l s (fun s' hs => ⟨s0, hs, k⟩) h)
def JN (s0 : S) (e : Exit) (s' : S) : Prop := e = .normal ∧ s' = s0
theorem gV {Q : Exit → S → Prop} {s : S} (s0 : S) {x y : bA} (hx : aI P N na x (JN s0) s) (hy : aI P N na y Q s0) : aI P N na (.seq x y) Q s := by
  refine aG (hx.mono fun e s' ⟨h1, h2⟩ => ?_)
  subst h1; subst h2; exact hy
def JS {α ρ : Type} (s0 : α → S) (PQ : ρ → Exit → S → Prop) : α ⊕ ρ → Exit → S → Prop
  | .inl v, e, s' => e = .normal ∧ s' = s0 v
  | .inr r, e, s' => e ≠ .normal ∧ PQ r e s'
theorem mW {α ρ : Type} {s : S} (s0 : α → S) {Q : Exit → S → Prop} {xv : α ⊕ ρ} {r : ρ} {x y : bA} (hx : aI P N na x (JS s0 (fun r' e s' => r = r' → Q e s') xv) s) (hr : ∀ r', xv = .inr r' → r' = r) (hy : ∀ v, xv = .inl v → aI P N na y Q (s0 v)) : aI P N na (.seq x y) Q s := by
  refine aG (hx.mono fun e s' h => ?_)
  cases xv with
  | inl v => obtain ⟨h1, h2⟩ := h; subst h1; subst h2; exact hy v rfl
  | inr r' =>
    obtain ⟨h1, h2⟩ := h
    have h2 := h2 (hr r' rfl).symm
    cases e with
    | normal => exact (h1 rfl).elim
    | _ => exact h2
section
variable {β ρ : Type}
def LO (st' : β → S) (x : β) (e : Exit) (s' : S) : Prop := e = .normal ∧ s' = st' x
def LR (st' : β → S) (X : Nat) (stx : β → S) (PQ : ρ → Exit → S → Prop) : Br β ρ → Exit → S → Prop
  | .next s, e, s' => e = .normal ∧ s' = st' s
  | .brk s, e, s' => e = .exit X ∧ s' = stx s
  | .ret r, e, s' => e ≠ .normal ∧ PQ r e s'
def LE (X : Nat) (s0 : S) (e : Exit) (s' : S) : Prop := e = .exit X ∧ s' = s0
theorem uZ {a b : Int} (h : ¬ a < b) : bJ a b = [] := by
  simp [bJ, show (b - a).toNat = 0 by omega]
theorem u0 {a b : Int} (h : a < b) : bJ a b = a :: bJ (a + 1) b := by
  unfold bJ
  rw [show (b - a).toNat = (b - (a + 1)).toNat + 1 by omega, List.range_succ_eq_map, List.map_cons, List.map_map]
  congr 1
  · simp
  · refine List.map_congr_left fun i _ => ?_
    simp only [Function.comp_apply]; push_cast; omega
structure mX (go : Int → Prop) (nx : Int → Int) (L : Int → List Int) : Prop where
  stop : ∀ i, ¬ go i → L i = []
  step : ∀ i, go i → L i = i :: L (nx i)
theorem cQ (b : Int) : mX (· < b) (· + 1) (fun i => bJ i b) := ⟨fun i h => uZ h, fun i h => u0 h⟩
variable {go : Int → Prop} {nx : Int → Int} {L : Int → List Int} {c : bA} {Q : Exit → S → Prop}
theorem jU (hL : mX go nx L) {f : Int → β → Option β} (st : Int → β → S) (X : Nat) (stx : β → S) (inv : Int → Prop) (hinv : ∀ i, inv i → go i → inv (nx i)) {a : Int} {s r : β} (h : fy f (L a) s = some r) (ha : inv a)
    (hb : ∀ i s x, inv i → go i → f i s = some x → aI P N na c (LO (st (nx i)) x) (st i s)) (he : ∀ i s, inv i → ¬ go i → aI P N na c (LE X (stx s)) (st i s)) (hQ : Q (.exit X) (stx r)) : aI P N na (.loop c) Q (st a s) := by
  have key : ∀ (k : List Int) (a : Int) (s : β), L a = k → inv a → fy f k s = some r → aI P N na (.loop c) Q (st a s) := by
    intro k
    induction k with
    | nil =>
      intro a s hk ha h
      have hng : ¬ go a := fun hg => by rw [hL.step a hg] at hk; cases hk
      cases h
      refine jR ((he a _ ha hng).mono fun e s' ⟨h1, h2⟩ => ?_)
      subst h1; subst h2; exact hQ
    | cons i k ih =>
      intro a s hk ha h
      have hg : go a := Classical.byContradiction fun hg => by rw [hL.stop a hg] at hk; cases hk
      rw [hL.step a hg] at hk
      obtain ⟨rfl, hk2⟩ := List.cons.inj hk
      obtain ⟨s2, h1, h2⟩ := ay h
      refine jR ((hb a s s2 ha hg h1).mono fun e s' ⟨g1, g2⟩ => ?_)
      subst g1; subst g2
      exact ih _ _ hk2 (hinv _ ha hg) h2
  exact key _ a s rfl ha h
theorem dp (hL : mX go nx L) {f : Int → β → Option (Br β ρ)} (st : Int → β → S) (X : Nat) (stx : β → S) (inv : Int → Prop) (hinv : ∀ i, inv i → go i → inv (nx i)) {a : Int} {s : β} {y : Ex β ρ} {r : ρ} (h : bT f (L a) s = some y) (ha : inv a)
    (hb : ∀ i s x, inv i → go i → f i s = some x → aI P N na c (LR (st (nx i)) X stx (fun r' e s' => r = r' → Q e s') x) (st i s)) (he : ∀ i s, inv i → ¬ go i → aI P N na c (LE X (stx s)) (st i s)) (hr : ∀ r', y = .ret r' → r' = r) (hQ : ∀ s, y = .done s → Q (.exit X) (stx s)) : aI P N na (.loop c) Q (st a s) := by
  have key : ∀ (k : List Int) (a : Int) (s : β), L a = k → inv a → bT f k s = some y → aI P N na (.loop c) Q (st a s) := by
    intro k
    induction k with
    | nil =>
      intro a s hk ha h
      have hng : ¬ go a := fun hg => by rw [hL.step a hg] at hk; cases hk
      cases h
      refine jR ((he a _ ha hng).mono fun e s' ⟨h1, h2⟩ => ?_)
      subst h1; subst h2; exact hQ _ rfl
    | cons i k ih =>
      intro a s hk ha h
      have hg : go a := Classical.byContradiction fun hg => by rw [hL.stop a hg] at hk; cases hk
      rw [hL.step a hg] at hk
      obtain ⟨rfl, hk2⟩ := List.cons.inj hk
      obtain ⟨x, h1, h2⟩ := ay h
      refine jR ((hb a s x ha hg h1).mono fun e s' g => ?_)
      cases x with
      | next s2 => obtain ⟨g1, g2⟩ := g; subst g1; subst g2; exact ih _ _ hk2 (hinv _ ha hg) h2
      | brk s2 => obtain ⟨g1, g2⟩ := g; subst g1; subst g2; cases h2; exact hQ _ rfl
      | ret r' =>
        obtain ⟨g1, g2⟩ := g
        cases h2
        have g2 := g2 (hr r' rfl).symm
        cases e with
        | normal => exact (g1 rfl).elim
        | _ => exact g2
  exact key _ a s rfl ha h
theorem u1 {f : β → Option (Br β ρ)} (st : β → S) (X : Nat) (stx : β → S) {k : Nat} {s : β} {y : Ex β ρ} {r : ρ} (h : iW f k s = some y)
    (hb : ∀ s x, f s = some x → aI P N na c (LR st X stx (fun r' e s' => r = r' → Q e s') x) (st s)) (hr : ∀ r', y = .ret r' → r' = r) (hQ : ∀ s, y = .done s → Q (.exit X) (stx s)) : aI P N na (.loop c) Q (st s) := by
  induction k generalizing s with
  | zero => cases h
  | succ k ih =>
    obtain ⟨x, h1, h2⟩ := ay h
    refine jR ((hb s x h1).mono fun e s' g => ?_)
    cases x with
    | next s2 => obtain ⟨g1, g2⟩ := g; subst g1; subst g2; exact ih h2
    | brk s2 => obtain ⟨g1, g2⟩ := g; subst g1; subst g2; cases h2; exact hQ _ rfl
    | ret r' =>
      obtain ⟨g1, g2⟩ := g
      cases h2
      have g2 := g2 (hr r' rfl).symm
      cases e with
      | normal => exact (g1 rfl).elim
      | _ => exact g2
end
def bK (i : Int) : Prop := -9223372036854775808 ≤ i
theorem cR {b : Int} : ∀ i, bK i → i < b → bK (i + 1) := fun i h _ => by unfold bK at *; omega
theorem VN.eq {ρ : Nat → Nat} {n0 : Nat} {x y : D} (h : x = y) : VN ρ n0 (.d x) (.d y) := h ▸ .d x
theorem VN.nl {ρ : Nat → Nat} {n0 : Nat} {k : Option Nat} : VN ρ n0 (.d .nils) (.d (.vec k [])) := .sub _ _ (.nils k)
theorem VN.le {ρ : Nat → Nat} {n0 id off len len' : Nat} (h : len = len') (hid : id < n0) : VN ρ n0 (.loc (ρ id) off len) (.loc id off len') := h ▸ .loc id off len hid
end
end Go.AM
end
