import GoSem.Core.View
/-  Several texts in one. -/
section
namespace Go.AM
open Go
def aW {α : Type} (l : List α) (i : Int) : Option α := if 0 ≤ i then l[i.toNat]? else none
def cU {α : Type} (xs ys : List α) : Option (List α) := if xs.length + ys.length ≤ 4294967296 then some (xs ++ ys) else none
def gl {α : Type} (l : List α) (lo hi : Int) : Option (List α) := if 0 ≤ lo ∧ lo ≤ hi ∧ hi ≤ l.length then some ((l.drop lo.toNat).take (hi.toNat - lo.toNat)) else none
def cB {α : Type} (l : List α) (i : Int) (v : α) : Option (List α) := if 0 ≤ i then if i.toNat < l.length then some (l.set i.toNat v) else none else none
def dL {α : Type} (n : Int) (z : α) : Option (List α) := if 0 ≤ n ∧ n ≤ 4294967296 then some (List.replicate n.toNat z) else none
def ut (s : ByteArray) : List Int := s.data.toList.map fun b => (b.toNat : Int)
def eG (a b : Int) : Int := if b > a then b else a
def mget {κ ν : Type} [DecidableEq κ] : List (κ × ν) → κ → Option ν
  | [], _ => none
  | p :: m, k => if k = p.1 then some p.2 else mget m k
def bq (a b : Int) : List Int := (List.range (b - a).toNat).map fun (i : Nat) => a + i
def cN (a b : Int) : List Int := (List.range (a - b).toNat).map fun (i : Nat) => a - i
inductive Br (σ ρ : Type) where
  | next (s : σ)
  | brk (s : σ)
  | ret (r : ρ)
inductive Ex (σ ρ : Type) where
  | done (s : σ)
  | ret (r : ρ)
section
variable {σ ρ : Type}
def bS (f : Int → σ → Option σ) : List Int → σ → Option σ
  | [], s => some s
  | i :: l, s => (f i s).bind fun s => bS f l s
def fF (f : Int → σ → Option (σ ⊕ σ)) : List Int → σ → Option σ
  | [], s => some s
  | i :: l, s => (f i s).bind fun x => match x with
    | .inl s => fF f l s
    | .inr s => some s
def cG (f : Int → σ → Option (Br σ ρ)) : List Int → σ → Option (Ex σ ρ)
  | [], s => some (.done s)
  | i :: l, s => (f i s).bind fun x => match x with
    | .next s => cG f l s
    | .brk s => some (.done s)
    | .ret r => some (.ret r)
end
def o6 : Nat := 1099511627776
attribute [irreducible] o6
theorem aE {α β : Type} {o : Option α} {f : α → Option β} {r : β} (h : o.bind f = some r) : ∃ x, o = some x ∧ f x = some r := by
  cases o with
  | none => cases h
  | some x => exact ⟨x, rfl, h⟩
theorem bx {α : Type} {c : Bool} {A B r : α} (hc : c = true) (h : (if c = true then A else B) = r) : A = r := by rw [if_pos hc] at h; exact h
theorem bz {α : Type} {c : Bool} {A B r : α} (hc : ¬ c = true) (h : (if c = true then A else B) = r) : B = r := by rw [if_neg hc] at h; exact h
structure A2 (α : Type) where
  a0 : α
  a1 : α
  deriving DecidableEq, Inhabited
structure A4 (α : Type) where
  a0 : α
  a1 : α
  a2 : α
  a3 : α
  deriving DecidableEq, Inhabited
structure A5 (α : Type) where
  a0 : α
  a1 : α
  a2 : α
  a3 : α
  a4 : α
  deriving DecidableEq, Inhabited
structure A8 (α : Type) where
  a0 : α
  a1 : α
  a2 : α
  a3 : α
  a4 : α
  a5 : α
  a6 : α
  a7 : α
  deriving DecidableEq, Inhabited
def A2.l {α : Type} (a : A2 α) : List α := [a.a0, a.a1]
def A4.l {α : Type} (a : A4 α) : List α := [a.a0, a.a1, a.a2, a.a3]
def A5.l {α : Type} (a : A5 α) : List α := [a.a0, a.a1, a.a2, a.a3, a.a4]
def A8.l {α : Type} (a : A8 α) : List α := [a.a0, a.a1, a.a2, a.a3, a.a4, a.a5, a.a6, a.a7]
def A2.get {α : Type} (a : A2 α) (i : Int) : Option α := aW a.l i
def A4.get {α : Type} (a : A4 α) (i : Int) : Option α := aW a.l i
def A5.get {α : Type} (a : A5 α) (i : Int) : Option α := aW a.l i
def A8.get {α : Type} (a : A8 α) (i : Int) : Option α := aW a.l i
def A2.of {α : Type} : List α → Option (A2 α)
  | [a, b] => some ⟨a, b⟩
  | _ => none
def A4.of {α : Type} : List α → Option (A4 α)
  | [a, b, c, d] => some ⟨a, b, c, d⟩
  | _ => none
def A5.of {α : Type} : List α → Option (A5 α)
  | [a, b, c, d, e] => some ⟨a, b, c, d, e⟩
  | _ => none
def A8.of {α : Type} : List α → Option (A8 α)
  | [a, b, c, d, e, f, g, h] => some ⟨a, b, c, d, e, f, g, h⟩
  | _ => none
def A2.put {α : Type} (a : A2 α) (i : Int) (v : α) : Option (A2 α) := (cB a.l i v).bind A2.of
def A4.put {α : Type} (a : A4 α) (i : Int) (v : α) : Option (A4 α) := (cB a.l i v).bind A4.of
def A5.put {α : Type} (a : A5 α) (i : Int) (v : α) : Option (A5 α) := (cB a.l i v).bind A5.of
def A8.put {α : Type} (a : A8 α) (i : Int) (v : α) : Option (A8 α) := (cB a.l i v).bind A8.of
end Go.AM
end
section
set_option linter.unusedVariables false
namespace Go.AM
open Go
structure br where
  F : Int
  N : Int
  deriving DecidableEq, Inhabited
structure al where
  Match : (List br)
  Acts : (List (List br))
  deriving DecidableEq, Inhabited
structure cC where
  a : (List Int)
  b : (List Int)
  best : (List (List Int))
  deriving DecidableEq, Inhabited
structure bg where
  At : Int
  Out : Bool
  Row : al
  deriving DecidableEq, Inhabited
structure lP where
  Sw : Int
  Pt : Int
  deriving DecidableEq, Inhabited
structure uv where
  Switches : (List Int)
  Links : (List (A2 lP))
  Hosts : (List lP)
  deriving DecidableEq, Inhabited
structure uw where
  Which : (List Int)
  Lists : (List (List al))
  deriving DecidableEq, Inhabited
def gm (a0 : (List al)) (a1 : (List al)) : Option Bool :=
  some (decide ((eG (a0.length : Int) (a1.length : Int)) ≤ 1000))
def j0 (a0 : (List br)) (a1 : (List br)) (i2 : Int) : Unit → Option (Br Unit Bool)
  | () =>
  (aW a0 i2).bind fun x8 =>
    (aW a1 i2).bind fun x9 =>
    (if (!(x8 == x9)) then some (Br.ret false) else some (.next ()))
def iW (a0 : (List br)) (a1 : (List br)) : Option Bool :=
  (if ((a0.length : Int) != (a1.length : Int)) then some false else (cG (j0 a0 a1) (bq 0 (a0.length : Int)) ()).bind fun q11 => match q11 with
    | .ret r => some r
    | .done () =>
    some true)
def lQ (a0 : (List (List br))) (a1 : (List (List br))) (a2 : ((List br) → (List br) → Option Bool)) (i2 : Int) : Unit → Option (Br Unit Bool)
  | () =>
  (aW a0 i2).bind fun x8 =>
    (aW a1 i2).bind fun x9 =>
    (a2 x8 x9).bind fun x10 =>
    (if (!x10) then some (Br.ret false) else some (.next ()))
def j1 (a0 : (List (List br))) (a1 : (List (List br))) (a2 : (List br) → (List br) → Option Bool) : Option Bool :=
  (if ((a0.length : Int) != (a1.length : Int)) then some false else (cG (lQ a0 a1 a2) (bq 0 (a0.length : Int)) ()).bind fun q12 => match q12 with
    | .ret r => some r
    | .done () =>
    some true)
def o7 (a0 : (List br)) (a1 : (List br)) (i2 : Int) : Unit → Option (Br Unit Bool)
  | () =>
  (aW a0 i2).bind fun x8 =>
    (aW a1 i2).bind fun x9 =>
    (if (!(x8 == x9)) then some (Br.ret false) else some (.next ()))
def j3 (a0 : (List br)) (a1 : (List br)) : Option Bool :=
  (if ((a0.length : Int) != (a1.length : Int)) then some false else (cG (o7 a0 a1) (bq 0 (a0.length : Int)) ()).bind fun q11 => match q11 with
    | .ret r => some r
    | .done () =>
    some true)
def g9 (a0 : al) (a1 : al) : Option Bool :=
  (iW a0.Match a1.Match).bind fun r1 =>
    ((if r1 then (j1 a0.Acts a1.Acts (fun y0 y1 => j3 y0 y1)).bind fun r3 =>
    some r3 else some false)).bind fun y4 =>
    some y4
def hE (a0 : al) (a1 : al) : Option Bool :=
  (g9 a0 a1).bind fun r1 =>
    some r1
def j4 (a0 : (List al)) (a1 : (al → Option Bool)) (i1 : Int) : Unit → Option (Br Unit Int)
  | () =>
  (aW a0 i1).bind fun x7 =>
    (a1 x7).bind fun x8 =>
    (if x8 then some (Br.ret i1) else some (.next ()))
def iX (a0 : (List al)) (a1 : al → Option Bool) : Option Int :=
  (cG (j4 a0 a1) (bq 0 (a0.length : Int)) ()).bind fun q10 => match q10 with
    | .ret r => some r
    | .done () =>
    some (-1)
def iY (x8 : (List al)) (i2 : Int) (i10 : Int) : ((List al) × (List Int) × (List Int)) → Option ((List al) × (List Int) × (List Int))
  | (l9, o0, o1) =>
  (aW x8 i10).bind fun x16 =>
    (iX l9 (fun y0 => hE y0 x16)).bind fun r17 =>
    ((if decide (r17 < 0) then (cU l9 ([x16] : List al)).bind fun l19 =>
    some (l19, (l9.length : Int)) else some (l9, r17))).bind fun ln =>
    (if decide (i2 = 0) then (cU o0 ([ln.2] : List Int)).bind fun o => some (ln.1, o, o1) else (cU o1 ([ln.2] : List Int)).bind fun o => some (ln.1, o0, o))
def lR (a0 : (List (List al))) (i2 : Int) : ((List al) × (List Int) × (List Int)) → Option ((List al) × (List Int) × (List Int))
  | s =>
  (aW a0 i2).bind fun x8 =>
    (bS (iY x8 i2) (bq 0 (x8.length : Int)) s).bind fun z22 =>
    some z22
def hH (a0 : (List (List al))) : Option (List (List Int)) :=
  if a0.length = 2 then (bS (lR a0) (bq 0 (a0.length : Int)) (([], [], []) : (List al) × (List Int) × (List Int))).bind fun z =>
    some [z.2.1, z.2.2] else none
def iZ (x2 : (List Int)) (x3 : (List Int)) (i9 : Int) (x15 : (List Int)) (i17 : Int) : (List Int) → Option (List Int)
  | l16 =>
  ((aW x15 i17).bind fun x23 =>
    (aW l16 (IntKind.i64.wrap (i17 + 1))).bind fun x24 =>
    (aW l16 i17).bind fun x25 =>
    (cB l16 i17 (eG x23 x24)).bind fun l26 =>
    (aW x2 i9).bind fun x27 =>
    (aW x3 i17).bind fun x28 =>
    (if (x27 == x28) then (aW x15 (IntKind.i64.wrap (i17 + 1))).bind fun x30 =>
    (aW l26 i17).bind fun x31 =>
    (cB l26 i17 (IntKind.i16.wrap (x30 + 1))).bind fun l32 =>
    some l32 else some l26)).bind fun l33 =>
    some l33
def j5 (a1 : (List al)) (x2 : (List Int)) (x3 : (List Int)) (l5 : (List Int)) (i9 : Int) : (List (List Int)) → Option (List (List Int))
  | l8 =>
  (aW l8 (IntKind.i64.wrap (i9 + 1))).bind fun x15 =>
    (bS (iZ x2 x3 i9 x15) (cN (IntKind.i64.wrap ((a1.length : Int) - 1)) (-1)) l5).bind fun z35 =>
    (aW l8 i9).bind fun x36 =>
    (cB l8 i9 z35).bind fun l37 =>
    some l37
def gn (a0 : (List al)) (a1 : (List al)) : Option cC :=
  (hH ([a0, a1] : List (List al))).bind fun r1 =>
    (aW r1 0).bind fun x2 =>
    (aW r1 1).bind fun x3 =>
    (dL (IntKind.i64.wrap ((a0.length : Int) + 1)) []).bind fun l4 =>
    (dL (IntKind.i64.wrap ((a1.length : Int) + 1)) 0).bind fun l5 =>
    (aW l4 (a0.length : Int)).bind fun x6 =>
    (cB l4 (a0.length : Int) l5).bind fun l7 =>
    (bS (j5 a1 x2 x3 l5) (cN (IntKind.i64.wrap ((a0.length : Int) - 1)) (-1)) l7).bind fun z40 =>
    some (cC.mk x2 x3 z40)
def i4 (a0 : cC) (a1 : Int) (a3 : Int) (i1 : Int) : Unit → Option (Br Unit Int)
  | () =>
  (aW a0.a a1).bind fun x7 =>
    (aW a0.b i1).bind fun x8 =>
    (if (x7 == x8) then (aW a0.best (IntKind.i64.wrap (a1 + 1))).bind fun x10 =>
    (aW x10 (i1 + 1)).bind fun x11 =>
    (if ((IntKind.i16.wrap (x11 + 1)) == a3) then some (Br.ret i1) else some (Br.ret (-1))) else some (.next ()))
def i7 (a0 : cC) (a1 : Int) (a2 : Int) (a3 : Int) : Option Int :=
  (cG (i4 a0 a1 a3) (bq a2 (a0.b.length : Int)) ()).bind fun q13 => match q13 with
    | .ret r => some r
    | .done () =>
    some (-1)
def i8 (a0 : cC) (i6 : Int) : ((List Bool) × (List Bool) × Int) → Option (((List Bool) × (List Bool) × Int) ⊕ ((List Bool) × (List Bool) × Int))
  | (l3, l4, i5) =>
  ((aW a0.best i6).bind fun x12 =>
    (aW x12 i5).bind fun x13 =>
    (if (x13 == 0) then some (Sum.inr (.inr (l3, l4, i5))) else (i7 a0 i6 i5 x13).bind fun r15 =>
    (if decide (r15 ≥ 0) then (aW l3 i6).bind fun x17 =>
    (cB l3 i6 true).bind fun l18 =>
    (aW l4 r15).bind fun x19 =>
    (cB l4 r15 true).bind fun l20 =>
    some (.inl (l18, l20, IntKind.i64.wrap (r15 + 1))) else some (.inl (l3, l4, i5))))).bind fun q24 => match q24 with
    | .inr r => some r
    | .inl (l21, l22, y23) =>
    some (.inl (l21, l22, y23))
def hJ (a0 : cC) : Option ((List Bool) × (List Bool)) :=
  (dL (a0.a.length : Int) false).bind fun l1 =>
    (dL (a0.b.length : Int) false).bind fun l2 =>
    (fF (i8 a0) (bq 0 (a0.a.length : Int)) (l1, l2, 0)).bind fun (z25, z26, z27) =>
    some (z25, z26)
def ja (a0 : Int) : Option al :=
  some (al.mk ([(br.mk 3 a0)] : List br) [])
def eY (a0 : (List al)) (x : (List Bool)) (i : Int) : (List bg) → Option (List bg)
  | l =>
  (aW x i).bind fun y =>
    (if (!y) then (aW a0 i).bind fun r =>
    cU l ([(bg.mk i true r)] : List bg) else some l)
def hM (a1 : (List al)) (y : (List Bool)) (i6 : Int) : (List bg) → Option (List bg)
  | l5 =>
  ((aW a1 i6).bind fun x12 =>
    (aW y i6).bind fun x13 =>
    (if (!x13) then (cU l5 ([(bg.mk i6 false x12)] : List bg)).bind fun l15 =>
    some l15 else some l5)).bind fun l16 =>
    some l16
def en (a0 : (List al)) (a1 : (List al)) : Option ((List bg) × Int) :=
  (gm a0 a1).bind fun r1 =>
    (if (!r1) then some (([] : List bg), 2) else (gn a0 a1).bind fun g =>
    (hJ g).bind fun xy =>
    (bS (eY a0 xy.1) (cN (IntKind.i64.wrap ((a0.length : Int) - 1)) (-1)) ([] : List bg)).bind fun l1 =>
    (bS (hM a1 xy.2) (bq 0 (a1.length : Int)) l1).bind fun l2 =>
    some (l2, 0))
def jb (a0 : List al) : Option (List al) :=
  (cU ([] : List al) a0).bind fun l1 => some l1
def lS (a0 : (List al)) (a1 : Int) (a2 : (List al)) : Option (List al) :=
  (gl a0 a1 (a0.length : Int)).bind fun l1 =>
    (if ((a2.length : Int) == 0) then some a0 else (if (a1 == (a0.length : Int)) then (cU a0 a2).bind fun l4 =>
    some l4 else none))
def jc (a0 : List al) (a1 a2 : Int) : Option (List al) :=
  if 0 ≤ a1 ∧ a1 ≤ a2 ∧ a2 ≤ (a0.length : Int) then some (a0.take a1.toNat ++ a0.drop a2.toNat) else none
def hO (a1 : (List bg)) (i3 : Int) : (List al) → Option (Br (List al) ((List al) × Bool))
  | l2 =>
  (((aW a1 i3).bind fun x9 =>
    (if ((decide (x9.At < 0)) || (decide (x9.At > (l2.length : Int)))) then some (Sum.inr (Br.ret (([] : List al), false))) else (if (!x9.Out) then (lS l2 x9.At ([x9.Row] : List al)).bind fun r13 =>
    some (.inl r13) else ((if (x9.At == (l2.length : Int)) then some true else (aW l2 x9.At).bind fun x15 =>
    (g9 x15 x9.Row).bind fun r16 =>
    some (!r16))).bind fun y17 =>
    (if y17 then some (Sum.inr (Br.ret (([] : List al), false))) else (jc l2 x9.At (IntKind.i64.wrap (x9.At + 1))).bind fun r20 =>
    some (.inl r20)))) : Option ((List al) ⊕ (Br (List al) ((List al) × Bool))))).bind fun q22 => match q22 with
    | .inr r => some r
    | .inl l21 =>
    some (.next l21)
def hP (a0 : (List al)) (a1 : (List bg)) : Option ((List al) × Bool) :=
  (jb a0).bind fun r1 =>
    (cG (hO a1) (bq 0 (a1.length : Int)) r1).bind fun q24 => match q24 with
    | .ret r => some r
    | .done z23 =>
    some (z23, true)
def fG (a0 : (List al)) (a1 : (List al)) : Option Int :=
  (gm a0 a1).bind fun r1 =>
    (if (!r1) then some 0 else (gn a0 a1).bind fun r3 =>
    (aW r3.best 0).bind fun x4 =>
    (aW x4 0).bind fun x5 =>
    some (IntKind.i64.wrap x5))
def j6  : Option Bool :=
  (ja 1).bind fun r1 =>
    (ja 2).bind fun r2 =>
    (ja 3).bind fun r3 =>
    (en ([r1, r2] : List al) ([r2, r3] : List al)).bind fun r4 =>
    (hP ([r1, r2] : List al) r4.1).bind fun r5 =>
    ((if (r4.2 == 0) then (if r5.2 then (if ((r4.1.length : Int) == 2) then (aW r4.1 0).bind fun x9 =>
    (if x9.Out then (if (x9.At == 0) then (aW r4.1 1).bind fun x12 =>
    (if (x12.At == 1) then (if ((r5.1.length : Int) == 2) then (aW r5.1 1).bind fun x15 =>
    (aW x15.Match 0).bind fun x16 =>
    (if (x16.N == 3) then (fG r5.1 r5.1).bind fun r18 =>
    some (r18 == 2) else some false) else some false) else some false) else some false) else some false) else some false) else some false) else some false)).bind fun y19 =>
    some y19
def j7 (i5 : Int) : (List al) → Option (List al)
  | l4 =>
  (aW l4 i5).bind fun x11 =>
    (cB l4 i5 (al.mk ([(br.mk 3 (IntKind.u16.wrap i5))] : List br) x11.Acts)).bind fun l12 =>
    some l12
def law34_UpdateLong (a0 : Int) : Option Bool :=
  (j6).bind fun r1 =>
    (if (!r1) then some false else (dL (IntKind.i64.wrap (990 + ((IntKind.i64.wrap a0).tmod 21))) (al.mk [] [])).bind fun l3 =>
    (bS j7 (bq 0 (l3.length : Int)) l3).bind fun z13 =>
    (en z13 []).bind fun r14 =>
    (en [] z13).bind fun r15 =>
    (if decide ((IntKind.i64.wrap (990 + ((IntKind.i64.wrap a0).tmod 21))) > 1000) then ((if (r14.2 == 2) then (if (r15.2 == 2) then (fG z13 z13).bind fun r19 =>
    some ((IntKind.i64.wrap ((IntKind.i64.wrap ((r14.1.length : Int) + (r15.1.length : Int))) + r19)) == 0) else some false) else some false)).bind fun y20 =>
    some y20 else (hP z13 r14.1).bind fun r22 =>
    ((if (r14.2 == 0) then (if (r15.2 == 0) then (if ((r14.1.length : Int) == (IntKind.i64.wrap (990 + ((IntKind.i64.wrap a0).tmod 21)))) then (if ((r15.1.length : Int) == (IntKind.i64.wrap (990 + ((IntKind.i64.wrap a0).tmod 21)))) then (if r22.2 then (if ((r22.1.length : Int) == 0) then (aW r15.1 (IntKind.i64.wrap ((IntKind.i64.wrap (990 + ((IntKind.i64.wrap a0).tmod 21))) - 1))).bind fun x29 =>
    some (x29.At == (IntKind.i64.wrap ((IntKind.i64.wrap (990 + ((IntKind.i64.wrap a0).tmod 21))) - 1))) else some false) else some false) else some false) else some false) else some false) else some false)).bind fun y30 =>
    some y30))
end Go.AM
end
