import GoSem.Core.View
/-  Several texts in one. -/
section
namespace Go.AM
open Go
def aQ {α : Type} (l : List α) (i : Int) : Option α := if 0 ≤ i then l[i.toNat]? else none
def cJ {α : Type} (xs ys : List α) : Option (List α) := if xs.length + ys.length ≤ 4294967296 then some (xs ++ ys) else none
def cN {α : Type} (l : List α) (lo hi : Int) : Option (List α) := if 0 ≤ lo ∧ lo ≤ hi ∧ hi ≤ l.length then some ((l.drop lo.toNat).take (hi.toNat - lo.toNat)) else none
def b4 {α : Type} (l : List α) (i : Int) (v : α) : Option (List α) := if 0 ≤ i then if i.toNat < l.length then some (l.set i.toNat v) else none else none
def cT {α : Type} (n : Int) (z : α) : Option (List α) := if 0 ≤ n ∧ n ≤ 4294967296 then some (List.replicate n.toNat z) else none
def vW (s : ByteArray) : List Int := s.data.toList.map fun b => (b.toNat : Int)
def bO (a b : Int) : Int := if b > a then b else a
def mget {κ ν : Type} [DecidableEq κ] : List (κ × ν) → κ → Option ν
  | [], _ => none
  | p :: m, k => if k = p.1 then some p.2 else mget m k
def bm (a b : Int) : List Int := (List.range (b - a).toNat).map fun (i : Nat) => a + i
inductive Br (σ ρ : Type) where
  | next (s : σ)
  | brk (s : σ)
  | ret (r : ρ)
inductive Ex (σ ρ : Type) where
  | done (s : σ)
  | ret (r : ρ)
section
variable {σ ρ : Type}
def bS (f : Int → σ → Option σ) : List Int → σ → Option σ
  | [], s => some s
  | i :: l, s => (f i s).bind fun s => bS f l s
def f6 (f : Int → σ → Option (σ ⊕ σ)) : List Int → σ → Option σ
  | [], s => some s
  | i :: l, s => (f i s).bind fun x => match x with
    | .inl s => f6 f l s
    | .inr s => some s
def cw (f : Int → σ → Option (Br σ ρ)) : List Int → σ → Option (Ex σ ρ)
  | [], s => some (.done s)
  | i :: l, s => (f i s).bind fun x => match x with
    | .next s => cw f l s
    | .brk s => some (.done s)
    | .ret r => some (.ret r)
def ew (f : σ → Option (σ ⊕ σ)) : Nat → σ → Option σ
  | 0, _ => none
  | k + 1, s => (f s).bind fun x => match x with
    | .inl s => ew f k s
    | .inr s => some s
end
def dD : Nat := 1099511627776
attribute [irreducible] dD
theorem ap {α β : Type} {o : Option α} {f : α → Option β} {r : β} (h : o.bind f = some r) : ∃ x, o = some x ∧ f x = some r := by
  cases o with
  | none => cases h
  | some x => exact ⟨x, rfl, h⟩
theorem bp {α : Type} {c : Bool} {A B r : α} (hc : c = true) (h : (if c = true then A else B) = r) : A = r := by rw [if_pos hc] at h; exact h
theorem bq {α : Type} {c : Bool} {A B r : α} (hc : ¬ c = true) (h : (if c = true then A else B) = r) : B = r := by rw [if_neg hc] at h; exact h
structure A2 (α : Type) where
  a0 : α
  a1 : α
  deriving DecidableEq, Inhabited
structure A4 (α : Type) where
  a0 : α
  a1 : α
  a2 : α
  a3 : α
  deriving DecidableEq, Inhabited
structure A5 (α : Type) where
  a0 : α
  a1 : α
  a2 : α
  a3 : α
  a4 : α
  deriving DecidableEq, Inhabited
structure A8 (α : Type) where
  a0 : α
  a1 : α
  a2 : α
  a3 : α
  a4 : α
  a5 : α
  a6 : α
  a7 : α
  deriving DecidableEq, Inhabited
def A2.l {α : Type} (a : A2 α) : List α := [a.a0, a.a1]
def A4.l {α : Type} (a : A4 α) : List α := [a.a0, a.a1, a.a2, a.a3]
def A5.l {α : Type} (a : A5 α) : List α := [a.a0, a.a1, a.a2, a.a3, a.a4]
def A8.l {α : Type} (a : A8 α) : List α := [a.a0, a.a1, a.a2, a.a3, a.a4, a.a5, a.a6, a.a7]
def A2.get {α : Type} (a : A2 α) (i : Int) : Option α := aQ a.l i
def A4.get {α : Type} (a : A4 α) (i : Int) : Option α := aQ a.l i
def A5.get {α : Type} (a : A5 α) (i : Int) : Option α := aQ a.l i
def A8.get {α : Type} (a : A8 α) (i : Int) : Option α := aQ a.l i
def A2.of {α : Type} : List α → Option (A2 α)
  | [a, b] => some ⟨a, b⟩
  | _ => none
def A4.of {α : Type} : List α → Option (A4 α)
  | [a, b, c, d] => some ⟨a, b, c, d⟩
  | _ => none
def A5.of {α : Type} : List α → Option (A5 α)
  | [a, b, c, d, e] => some ⟨a, b, c, d, e⟩
  | _ => none
def A8.of {α : Type} : List α → Option (A8 α)
  | [a, b, c, d, e, f, g, h] => some ⟨a, b, c, d, e, f, g, h⟩
  | _ => none
def A2.put {α : Type} (a : A2 α) (i : Int) (v : α) : Option (A2 α) := (b4 a.l i v).bind A2.of
def A4.put {α : Type} (a : A4 α) (i : Int) (v : α) : Option (A4 α) := (b4 a.l i v).bind A4.of
def A5.put {α : Type} (a : A5 α) (i : Int) (v : α) : Option (A5 α) := (b4 a.l i v).bind A5.of
def A8.put {α : Type} (a : A8 α) (i : Int) (v : α) : Option (A8 α) := (b4 a.l i v).bind A8.of
end Go.AM
end
section
namespace Go.AM
structure A3 (α : Type) where
  a0 : α
  a1 : α
  a2 : α
  deriving DecidableEq, Inhabited
def A3.l {α : Type} (a : A3 α) : List α := [a.a0, a.a1, a.a2]
def A3.get {α : Type} (a : A3 α) (i : Int) : Option α := aQ a.l i
def A3.of {α : Type} : List α → Option (A3 α)
  | [a, b, c] => some ⟨a, b, c⟩
  | _ => none
def A3.put {α : Type} (a : A3 α) (i : Int) (v : α) : Option (A3 α) := (b4 a.l i v).bind A3.of
end Go.AM
end
section
namespace Go.AM
def fu {α : Type} (l : List α) (lo hi i : Int) : Option α := if 0 ≤ lo ∧ 0 ≤ i ∧ i < hi - lo then aQ l (lo + i) else none
theorem pK {α : Type} {l : List α} {lo hi i : Int} {v : α} (h : fu l lo hi i = some v) : (0 ≤ lo ∧ 0 ≤ i ∧ i < hi - lo) ∧ aQ l (lo + i) = some v := by
  unfold fu at h
  split at h
  · rename_i hc; exact ⟨hc, h⟩
  · cases h
end Go.AM
end
