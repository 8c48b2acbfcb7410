import Derived.Test.YtkgegocfjalcbaaAmPre
/-  The program's functions, told outright. -/
set_option linter.unusedVariables false
namespace Go.AM
open Go

structure api_Pol where
  Op : Int
  F : Int
  N : Int
  Kids : (List api_Pol)
  deriving Inhabited

structure api_Pair where
  F : Int
  N : Int
  deriving DecidableEq, Inhabited

structure api_Rule where
  When : (List api_Pair)
  Guard : (List api_Pair)
  Then : (List api_Pair)
  deriving DecidableEq, Inhabited

structure api_Program where
  Init : (List Int)
  Pol : api_Pol
  Rules : (List api_Rule)
  deriving Inhabited

structure law05_Step where
  What : Int
  F : Int
  N : Int
  K : Int
  deriving DecidableEq, Inhabited

/- pointsman/pointsmanlaw28.put -/
def law28_put (a0 : Int) : Option api_Pol :=
  some (api_Pol.mk 5 1 a0 [])

/- pointsman/pointsmanlaw07.Seq -/
def law07_Seq (a0 : (List api_Pol)) : Option api_Pol :=
  some (api_Pol.mk 6 0 0 a0)

/- pointsman/pointsmanlaw07.Sum -/
def law07_Sum (a0 : (List api_Pol)) : Option api_Pol :=
  some (api_Pol.mk 7 0 0 a0)

/- pointsman/syntax.Size -/
def syntax_Size_b1 (a0 : api_Pol) (self : api_Pol → Option Int) (i2 : Int) : Int → Option Int
  | i1 =>
  (gat a0.Kids i2).bind fun x8 =>
    (self x8).bind fun r9 =>
    some (IntKind.i64.wrap (i1 + r9))

def syntax_Size_s (self : api_Pol → Option Int) (a0 : api_Pol) : Option Int :=
  (forO (syntax_Size_b1 a0 self) (irange 0 (a0.Kids.length : Int)) 1).bind fun z10 =>
    some z10

def syntax_Size_f : Nat → api_Pol → Option Int
  | 0 => fun _ => none
  | k + 1 => syntax_Size_s (syntax_Size_f k)

def syntax_Size (a0 : api_Pol) : Option Int := syntax_Size_f FUEL a0

/- pointsman/syntax.Depth -/
def syntax_Depth_b1 (a0 : api_Pol) (self : api_Pol → Option Int) (i2 : Int) : Int → Option Int
  | i1 =>
  (gat a0.Kids i2).bind fun x8 =>
    (self x8).bind fun r9 =>
    some (imax i1 r9)

def syntax_Depth_s (self : api_Pol → Option Int) (a0 : api_Pol) : Option Int :=
  (forO (syntax_Depth_b1 a0 self) (irange 0 (a0.Kids.length : Int)) 0).bind fun z10 =>
    some (IntKind.i64.wrap (z10 + 1))

def syntax_Depth_f : Nat → api_Pol → Option Int
  | 0 => fun _ => none
  | k + 1 => syntax_Depth_s (syntax_Depth_f k)

def syntax_Depth (a0 : api_Pol) : Option Int := syntax_Depth_f FUEL a0

/- slices.IndexFunc[[]pointsman/api.Pol,pointsman/api.Pol] -/
def slices_IndexFunc_api_Pol_b1 (a0 : (List api_Pol)) (a1 : (api_Pol → Option Bool)) (i1 : Int) : Unit → Option (Br Unit Int)
  | () =>
  (gat a0 i1).bind fun x7 =>
    (a1 x7).bind fun x8 =>
    (if x8 then some (Br.ret i1) else some (.next ()))

def slices_IndexFunc_api_Pol (a0 : (List api_Pol)) (a1 : api_Pol → Option Bool) : Option Int :=
  (forR (slices_IndexFunc_api_Pol_b1 a0 a1) (irange 0 (a0.length : Int)) ()).bind fun q10 => match q10 with
    | .ret r => some r
    | .done () =>
    some (-1)

/- slices.ContainsFunc[[]pointsman/api.Pol,pointsman/api.Pol] -/
def slices_ContainsFunc_api_Pol (a0 : (List api_Pol)) (a1 : api_Pol → Option Bool) : Option Bool :=
  (slices_IndexFunc_api_Pol a0 a1).bind fun r1 =>
    some (decide (r1 ≥ 0))

/- pointsman/syntax.Predicate$1 -/
def syntax_Predicate_1 (self : api_Pol → Option Bool) (a0 : api_Pol) : Option Bool :=
  (self a0).bind fun r1 =>
    some (!r1)

/- pointsman/syntax.Predicate -/
def syntax_Predicate_s (self : api_Pol → Option Bool) (a0 : api_Pol) : Option Bool :=
  ((if (a0.Op == 0) then some (a0.Op == 0) else (if (a0.Op == 1) then some (a0.Op == 1) else (if (a0.Op == 2) then some (a0.Op == 2) else (if (a0.Op == 3) then some (a0.Op == 3) else some (a0.Op == 4)))))).bind fun y5 =>
    (if y5 then some true else ((if (a0.Op == 6) then some (a0.Op == 6) else some (a0.Op == 7))).bind fun y9 =>
    (if y9 then (slices_ContainsFunc_api_Pol a0.Kids (fun y0 => syntax_Predicate_1 self y0)).bind fun r12 =>
    some (!r12) else some false))

def syntax_Predicate_f : Nat → api_Pol → Option Bool
  | 0 => fun _ => none
  | k + 1 => syntax_Predicate_s (syntax_Predicate_f k)

def syntax_Predicate (a0 : api_Pol) : Option Bool := syntax_Predicate_f FUEL a0

/- pointsman/syntax.formed$1 -/
def syntax_formed_1 (self : api_Pol → Int → Option Bool) (a0 : api_Pol) (a1 : Int) : Option Bool :=
  (self a0 a1).bind fun r1 =>
    some (!r1)

/- pointsman/syntax.formed -/
def syntax_formed_s (self : api_Pol → Int → Option Bool) (a0 : api_Pol) (a1 : Int) : Option Bool :=
  (((if (a0.Op == 0) then some (a0.Op == 0) else some (a0.Op == 1))).bind fun y3 =>
    (if y3 then some (Sum.inr (((a0.Kids.length : Int) == 0) && ((a0.F == 0) && (a0.N == 0)))) else (if (a0.Op == 4) then ((if ((a0.Kids.length : Int) == 1) then (if ((a0.F == 0) && (a0.N == 0)) then (gat a0.Kids 0).bind fun x10 =>
    (syntax_Predicate x10).bind fun r11 =>
    (if r11 then (self x10 a1).bind fun r13 =>
    some r13 else some false) else some false) else some false)).bind fun y14 =>
    some (Sum.inr y14) else ((if (a0.Op == 6) then some (a0.Op == 6) else some (a0.Op == 7))).bind fun y17 =>
    (if y17 then ((if decide ((a0.Kids.length : Int) ≥ 2) then (if ((a0.F == 0) && (a0.N == 0)) then (slices_ContainsFunc_api_Pol a0.Kids (fun y0 => syntax_formed_1 self y0 a1)).bind fun r22 =>
    some (!r22) else some false) else some false)).bind fun y23 =>
    some (Sum.inr y23) else (if (a0.Op == 2) then some (.inl (0, 8)) else (if (a0.Op == 5) then some (.inl (1, 8)) else (if (a0.Op == 3) then some (.inl (0, a1)) else some (Sum.inr false)))))))).bind fun q30 => match q30 with
    | .inr r => some r
    | .inl (y28, y29) =>
    some (((a0.Kids.length : Int) == 0) && ((decide (a0.F ≥ y28)) && (decide (a0.F < y29))))

def syntax_formed_f : Nat → api_Pol → Int → Option Bool
  | 0 => fun _ _ => none
  | k + 1 => syntax_formed_s (syntax_formed_f k)

def syntax_formed (a0 : api_Pol) (a1 : Int) : Option Bool := syntax_formed_f FUEL a0 a1

/- pointsman/syntax.once -/
def syntax_once_b1 (a0 : (List api_Pair)) (a1 : Int) (i1 : Int) : Unit → Option (Br Unit Bool)
  | () =>
  (gat a0 i1).bind fun x7 =>
    ((if decide (x7.F < 0) then some true else (if decide (x7.F ≥ a1) then some true else (if decide (i1 > 0) then (gat a0 (IntKind.i64.wrap (i1 - 1))).bind fun x11 =>
    some (decide (x11.F ≥ x7.F)) else some false)))).bind fun y12 =>
    (if y12 then some (Br.ret false) else some (.next ()))

def syntax_once (a0 : (List api_Pair)) (a1 : Int) : Option Bool :=
  (forR (syntax_once_b1 a0 a1) (irange 0 (a0.length : Int)) ()).bind fun q15 => match q15 with
    | .ret r => some r
    | .done () =>
    some true

/- pointsman/syntax.Check -/
def syntax_Check_b1 (a0 : api_Program) (i12 : Int) : Unit → Option (Br Unit Int)
  | () =>
  (gat a0.Rules i12).bind fun x18 =>
    ((if decide ((x18.When.length : Int) ≥ 2) then (gat x18.When 0).bind fun x20 =>
    (if (x20.F == 0) then (gat x18.When 1).bind fun x22 =>
    some (x22.F == 1) else some false) else some false)).bind fun y23 =>
    ((if (!y23) then some true else (syntax_once x18.When 8).bind fun r26 =>
    (if (!r26) then some true else (syntax_once x18.Guard (a0.Init.length : Int)).bind fun r28 =>
    (if (!r28) then some true else (syntax_once x18.Then (a0.Init.length : Int)).bind fun r30 =>
    (if (!r30) then some true else some ((x18.Then.length : Int) == 0)))))).bind fun y32 =>
    (if y32 then some (Br.ret 11) else some (.next ()))

def syntax_Check (a0 : api_Program) : Option Int :=
  ((if decide ((a0.Init.length : Int) < 1) then some true else (if decide ((a0.Init.length : Int) > 4) then some true else (syntax_Size a0.Pol).bind fun r3 =>
    (if decide (r3 > 300) then some true else (syntax_Depth a0.Pol).bind fun r5 =>
    (if decide (r5 > 20) then some true else some (decide ((a0.Rules.length : Int) > 24))))))).bind fun y7 =>
    (if y7 then some 2 else (syntax_formed a0.Pol (a0.Init.length : Int)).bind fun r10 =>
    (if (!r10) then some 11 else (forR (syntax_Check_b1 a0) (irange 0 (a0.Rules.length : Int)) ()).bind fun q35 => match q35 with
    | .ret r => some r
    | .done () =>
    some 0))

/- pointsman/trim.flat -/
def trim_flat_b1 (a0 : Int) (a1 : (List api_Pol)) (i2 : Int) : (List api_Pol) → Option (List api_Pol)
  | l1 =>
  ((gat a1 i2).bind fun x8 =>
    (if (x8.Op == a0) then (gapp l1 x8.Kids).bind fun l10 =>
    some l10 else (gapp l1 ([x8] : List api_Pol)).bind fun l11 =>
    some l11)).bind fun l12 =>
    some l12

def trim_flat (a0 : Int) (a1 : (List api_Pol)) : Option (List api_Pol) :=
  (forO (trim_flat_b1 a0 a1) (irange 0 (a1.length : Int)) ([] : List api_Pol)).bind fun z14 =>
    some z14

/- pointsman/trim.without$1 -/
def trim_without_1 (a0 : api_Pol) (a1 : Int) : Option Bool :=
  some (a0.Op == a1)

/- slices.DeleteFunc[[]pointsman/api.Pol,pointsman/api.Pol] -/
def slices_DeleteFunc_api_Pol_b1 (a1 : (api_Pol → Option Bool)) : ((List api_Pol) × Int × Int) → Option (((List api_Pol) × Int × Int) ⊕ ((List api_Pol) × Int × Int))
  | (l3, i4, i5) =>
  (if decide (i5 < (l3.length : Int)) then ((gat l3 i5).bind fun x8 =>
    (a1 x8).bind fun x9 =>
    (if (!x9) then (gat l3 i4).bind fun x11 =>
    (gput l3 i4 x8).bind fun l12 =>
    some (l12, IntKind.i64.wrap (i4 + 1)) else some (l3, i4))).bind fun (l13, y14) =>
    some (.inl (l13, y14, IntKind.i64.wrap (i5 + 1))) else some (.inr (l3, i4, i5)))

def slices_DeleteFunc_api_Pol (a0 : (List api_Pol)) (a1 : (api_Pol → Option Bool)) : Option (List api_Pol) :=
  (slices_IndexFunc_api_Pol a0 a1).bind fun r1 =>
    (if (r1 == (-1)) then some a0 else (whK (slices_DeleteFunc_api_Pol_b1 a1) FUEL (a0, r1, IntKind.i64.wrap (r1 + 1))).bind fun (z16, z17, z18) =>
    (gcut z16 z17 (z16.length : Int)).bind fun l19 =>
    some (z16.take z17.toNat))

/- pointsman/trim.without -/
def trim_without (a0 : Int) (a1 : (List api_Pol)) : Option (List api_Pol) :=
  (slices_DeleteFunc_api_Pol a1 (fun y0 => trim_without_1 y0 a0)).bind fun r1 =>
    some r1

/- slices.EqualFunc[[]pointsman/api.Pol,[]pointsman/api.Pol,pointsman/api.Pol,pointsman/api.Pol] -/
def slices_EqualFunc_api_Pol_b1 (a0 : (List api_Pol)) (a1 : (List api_Pol)) (a2 : (api_Pol → api_Pol → Option Bool)) (i2 : Int) : Unit → Option (Br Unit Bool)
  | () =>
  (gat a0 i2).bind fun x8 =>
    (gat a1 i2).bind fun x9 =>
    (a2 x8 x9).bind fun x10 =>
    (if (!x10) then some (Br.ret false) else some (.next ()))

def slices_EqualFunc_api_Pol (a0 : (List api_Pol)) (a1 : (List api_Pol)) (a2 : api_Pol → api_Pol → Option Bool) : Option Bool :=
  (if ((a0.length : Int) != (a1.length : Int)) then some false else (forR (slices_EqualFunc_api_Pol_b1 a0 a1 a2) (irange 0 (a0.length : Int)) ()).bind fun q12 => match q12 with
    | .ret r => some r
    | .done () =>
    some true)

/- pointsman/trim.same -/
def trim_same_s (self : api_Pol → api_Pol → Option Bool) (a0 : api_Pol) (a1 : api_Pol) : Option Bool :=
  ((if (a0.Op == a1.Op) then (if (a0.F == a1.F) then (if (a0.N == a1.N) then (slices_EqualFunc_api_Pol a0.Kids a1.Kids (fun y0 y1 => self y0 y1)).bind fun r4 =>
    some r4 else some false) else some false) else some false)).bind fun y5 =>
    some y5

def trim_same_f : Nat → api_Pol → api_Pol → Option Bool
  | 0 => fun _ _ => none
  | k + 1 => trim_same_s (trim_same_f k)

def trim_same (a0 : api_Pol) (a1 : api_Pol) : Option Bool := trim_same_f FUEL a0 a1

/- pointsman/trim.sum$1 -/
def trim_sum_1 (a0 : api_Pol) (a1 : api_Pol) : Option Bool :=
  (trim_same a0 a1).bind fun r1 =>
    some r1

/- pointsman/trim.has$1 -/
def trim_has_1 (a0 : api_Pol) (a1 : Int) : Option Bool :=
  some (a0.Op == a1)

/- pointsman/trim.has -/
def trim_has (a0 : Int) (a1 : (List api_Pol)) : Option Bool :=
  (slices_ContainsFunc_api_Pol a1 (fun y0 => trim_has_1 y0 a0)).bind fun r1 =>
    some r1

/- pointsman/trim.sum$2 -/
def trim_sum_2 (a0 : api_Pol) : Option Bool :=
  (syntax_Predicate a0).bind fun r1 =>
    some (!r1)

/- pointsman/trim.id -/
def trim_id  : Option api_Pol :=
  some (api_Pol.mk 1 0 0 [])

/- pointsman/trim.drop -/
def trim_drop  : Option api_Pol :=
  some (api_Pol.mk 0 0 0 [])

/- pointsman/trim.sum -/
def trim_sum_b1 (r2 : (List api_Pol)) (i4 : Int) : (List api_Pol) → Option (List api_Pol)
  | l3 =>
  ((gat r2 i4).bind fun x10 =>
    (slices_ContainsFunc_api_Pol l3 (fun y0 => trim_sum_1 y0 x10)).bind fun r11 =>
    (if (!r11) then (gapp l3 ([x10] : List api_Pol)).bind fun l13 =>
    some l13 else some l3)).bind fun l14 =>
    some l14

def trim_sum (a0 : (List api_Pol)) : Option api_Pol :=
  (trim_flat 7 a0).bind fun r1 =>
    (trim_without 0 r1).bind fun r2 =>
    (forO (trim_sum_b1 r2) (irange 0 (r2.length : Int)) ([] : List api_Pol)).bind fun z16 =>
    (trim_has 1 z16).bind fun r17 =>
    ((if r17 then (slices_ContainsFunc_api_Pol z16 (fun y0 => trim_sum_2 y0)).bind fun r19 =>
    some (!r19) else some false)).bind fun y20 =>
    (if y20 then (trim_id).bind fun r23 =>
    some r23 else (if ((z16.length : Int) == 0) then (trim_drop).bind fun r25 =>
    some r25 else (if ((z16.length : Int) == 1) then (gat z16 0).bind fun x27 =>
    some x27 else some (api_Pol.mk 7 0 0 z16))))

/- pointsman/trim.asks -/
def trim_asks (a0 : api_Pol) : Option Bool :=
  some ((a0.Op == 2) || (a0.Op == 3))

/- pointsman/trim.equal -/
def trim_equal (a0 : Bool) (a1 : Int) : Option Int :=
  (if a0 then some a1 else some 3)

/- pointsman/trim.neighbours -/
def trim_neighbours (a0 : api_Pol) (a1 : api_Pol) (a2 : Bool) : Option Int :=
  (trim_asks a0).bind fun r1 =>
    ((if (!((r1 && (a0.Op == a1.Op)) == a2)) then some (!((r1 && (a0.Op == a1.Op)) == a2)) else some (a0.F != a1.F))).bind fun y4 =>
    (if y4 then some 0 else (if (r1 && (a0.Op == a1.Op)) then (trim_equal (a0.N == a1.N) 2).bind fun r8 =>
    some r8 else (if ((a0.Op == 5) && (a1.Op == 5)) then some 1 else (if ((a0.Op == 5) && (a1.Op == 2)) then (trim_equal (a0.N == a1.N) 2).bind fun r13 =>
    some r13 else (if ((a0.Op == 2) && ((a1.Op == 5) && (a0.N == a1.N))) then some 2 else some 0)))))

/- slices.Delete[[]pointsman/api.Pol,pointsman/api.Pol] -/
def slices_Delete_api_Pol (a0 : List api_Pol) (a1 a2 : Int) : Option (List api_Pol) :=
  if 0 ≤ a1 ∧ a1 ≤ a2 ∧ a2 ≤ (a0.length : Int) then some (a0.take a1.toNat ++ a0.drop a2.toNat) else none

/- pointsman/trim.closer -/
def trim_closer_b1 (a0 : (List api_Pol)) (a1 : Bool) (i1 : Int) : Unit → Option (Br Unit ((List api_Pol) × Bool × Bool))
  | () =>
  (gat a0 i1).bind fun x7 =>
    (gat a0 (i1 + 1)).bind fun x8 =>
    (trim_neighbours x7 x8 a1).bind fun r9 =>
    (if (r9 == 1) then (slices_Delete_api_Pol a0 i1 (i1 + 1)).bind fun r11 =>
    some (Br.ret (r11, false, true)) else (if (r9 == 2) then (slices_Delete_api_Pol a0 (i1 + 1) (IntKind.i64.wrap (i1 + 2))).bind fun r13 =>
    some (Br.ret (r13, false, true)) else (if (r9 == 3) then some (Br.ret (([] : List api_Pol), true, true)) else some (.next ()))))

def trim_closer (a0 : (List api_Pol)) (a1 : Bool) : Option ((List api_Pol) × Bool × Bool) :=
  (forR (trim_closer_b1 a0 a1) (irange 0 (IntKind.i64.wrap ((a0.length : Int) - 1))) ()).bind fun q15 => match q15 with
    | .ret r => some r
    | .done () =>
    some (a0, false, false)

/- pointsman/trim.seq -/
def trim_seq_b1 : ((List api_Pol) × Bool) → Option (Br ((List api_Pol) × Bool) api_Pol)
  | (l6, y7) =>
  (if y7 then ((trim_closer l6 true).bind fun r10 =>
    (if (!r10.2.2) then (trim_closer r10.1 false).bind fun r12 =>
    some (r12.1, r12.2.2, r12.2.1) else some (r10.1, r10.2.2, r10.2.1))).bind fun (l13, y14, y15) =>
    (if y15 then (trim_drop).bind fun r18 =>
    some (Br.ret r18) else some (.next (l13, y14))) else some (.brk (l6, y7)))

def trim_seq (a0 : (List api_Pol)) : Option api_Pol :=
  (trim_flat 6 a0).bind fun r1 =>
    (trim_without 1 r1).bind fun r2 =>
    (trim_has 0 r2).bind fun r3 =>
    (if r3 then (trim_drop).bind fun r5 =>
    some r5 else (whR trim_seq_b1 FUEL (r2, true)).bind fun q25 => match q25 with
    | .ret r => some r
    | .done (z19, z20) =>
    (if ((z19.length : Int) == 0) then (trim_id).bind fun r22 =>
    some r22 else (if ((z19.length : Int) == 1) then (gat z19 0).bind fun x24 =>
    some x24 else some (api_Pol.mk 6 0 0 z19))))

/- pointsman/trim.not -/
def trim_not (a0 : api_Pol) : Option api_Pol :=
  (if (a0.Op == 0) then (trim_id).bind fun r2 =>
    some r2 else (if (a0.Op == 1) then (trim_drop).bind fun r4 =>
    some r4 else (if (a0.Op == 4) then (gat a0.Kids 0).bind fun x6 =>
    some x6 else some (api_Pol.mk 4 0 0 ([a0] : List api_Pol)))))

/- pointsman/trim.trimmed -/
def trim_trimmed_b1 (a0 : api_Pol) (self : api_Pol → Option api_Pol) (i2 : Int) : (List api_Pol) → Option (List api_Pol)
  | l1 =>
  (gat a0.Kids i2).bind fun x8 =>
    (self x8).bind fun r9 =>
    (gapp l1 ([r9] : List api_Pol)).bind fun l10 =>
    some l10

def trim_trimmed_s (self : api_Pol → Option api_Pol) (a0 : api_Pol) : Option api_Pol :=
  (forO (trim_trimmed_b1 a0 self) (irange 0 (a0.Kids.length : Int)) ([] : List api_Pol)).bind fun z11 =>
    (if (a0.Op == 7) then (trim_sum z11).bind fun r13 =>
    some r13 else (if (a0.Op == 6) then (trim_seq z11).bind fun r15 =>
    some r15 else (if (a0.Op == 4) then (gat z11 0).bind fun x17 =>
    (trim_not x17).bind fun r18 =>
    some r18 else some (api_Pol.mk a0.Op a0.F a0.N ([] : List api_Pol)))))

def trim_trimmed_f : Nat → api_Pol → Option api_Pol
  | 0 => fun _ => none
  | k + 1 => trim_trimmed_s (trim_trimmed_f k)

def trim_trimmed (a0 : api_Pol) : Option api_Pol := trim_trimmed_f FUEL a0

/- pointsman/trim.Trim -/
def trim_Trim (a0 : api_Pol) : Option api_Pol :=
  (gmk 4 0).bind fun l1 =>
    (syntax_Check (api_Program.mk l1 a0 [])).bind fun r2 =>
    (if (r2 != 0) then some a0 else (trim_trimmed a0).bind fun r4 =>
    some r4)

/- pointsman/pointsmanref05.SamePol -/
def ref05_SamePol_b1 (a0 : api_Pol) (a1 : api_Pol) (self : api_Pol → api_Pol → Option Bool) (i5 : Int) : Unit → Option (Br Unit Bool)
  | () =>
  (gat a0.Kids i5).bind fun x11 =>
    (gat a1.Kids i5).bind fun x12 =>
    (self x11 x12).bind fun r13 =>
    (if (!r13) then some (Br.ret false) else some (.next ()))

def ref05_SamePol_s (self : api_Pol → api_Pol → Option Bool) (a0 : api_Pol) (a1 : api_Pol) : Option Bool :=
  (if ((a0.Op != a1.Op) || ((a0.F != a1.F) || ((a0.N != a1.N) || ((a0.Kids.length : Int) != (a1.Kids.length : Int))))) then some false else (forR (ref05_SamePol_b1 a0 a1 self) (irange 0 (a0.Kids.length : Int)) ()).bind fun q15 => match q15 with
    | .ret r => some r
    | .done () =>
    some true)

def ref05_SamePol_f : Nat → api_Pol → api_Pol → Option Bool
  | 0 => fun _ _ => none
  | k + 1 => ref05_SamePol_s (ref05_SamePol_f k)

def ref05_SamePol (a0 : api_Pol) (a1 : api_Pol) : Option Bool := ref05_SamePol_f FUEL a0 a1

/- pointsman/trim.Trimmed -/
def trim_Trimmed (a0 : api_Pol) : Option Bool :=
  (trim_Trim a0).bind fun r1 =>
    (trim_same a0 r1).bind fun r2 =>
    some r2

/- pointsman/pointsmanlaw28.awake -/
def law28_awake  : Option Bool :=
  (law28_put 1).bind fun r1 =>
    (law28_put 2).bind fun r2 =>
    (law07_Seq ([(api_Pol.mk 1 0 0 []), r1, r2] : List api_Pol)).bind fun r3 =>
    (law07_Sum ([r3, (api_Pol.mk 0 0 0 [])] : List api_Pol)).bind fun r4 =>
    (trim_Trim r4).bind fun r5 =>
    (ref05_SamePol r5 r2).bind fun r6 =>
    ((if r6 then (trim_Trimmed r5).bind fun r8 =>
    (if r8 then (law07_Sum ([r5, r5] : List api_Pol)).bind fun r10 =>
    (trim_Trimmed r10).bind fun r11 =>
    some (!r11) else some false) else some false)).bind fun y12 =>
    some y12

/- pointsman/pointsmanlaw05.Pile -/
def law05_Pile_b1 (a0 : (List law05_Step)) (i3 : Int) : (List api_Pol) → Option (List api_Pol)
  | l2 =>
  ((gat a0 i3).bind fun x9 =>
    (if ((x9.What == 0) || (x9.What == 1)) then (gapp l2 ([(api_Pol.mk x9.What 0 0 [])] : List api_Pol)).bind fun l12 =>
    some l12 else (if ((x9.What == 2) || ((x9.What == 3) || (x9.What == 5))) then (gapp l2 ([(api_Pol.mk x9.What x9.F x9.N [])] : List api_Pol)).bind fun l16 =>
    some l16 else (if ((x9.What == 4) && (decide ((l2.length : Int) > 0))) then (gat l2 (IntKind.i64.wrap ((l2.length : Int) - 1))).bind fun x19 =>
    (gput l2 (IntKind.i64.wrap ((l2.length : Int) - 1)) (api_Pol.mk 4 0 0 ([x19] : List api_Pol))).bind fun l20 =>
    some l20 else (if ((x9.What == 6) || (x9.What == 7)) then (gcut l2 (IntKind.i64.wrap ((l2.length : Int) - (imin (IntKind.i64.wrap x9.K) (l2.length : Int)))) (l2.length : Int)).bind fun l23 =>
    (gapp ([] : List api_Pol) l23).bind fun l24 =>
    (gcut l2 0 (IntKind.i64.wrap ((l2.length : Int) - (imin (IntKind.i64.wrap x9.K) (l2.length : Int))))).bind fun l25 =>
    (gapp l25 ([(api_Pol.mk x9.What 0 0 l24)] : List api_Pol)).bind fun l26 =>
    some l26 else some l2))))).bind fun l27 =>
    some l27

def law05_Pile (a0 : (List law05_Step)) : Option (api_Pol × Bool) :=
  (if decide ((a0.length : Int) > 60) then some ((api_Pol.mk 0 0 0 []), false) else (forO (law05_Pile_b1 a0) (irange 0 (a0.length : Int)) ([] : List api_Pol)).bind fun z29 =>
    (if ((z29.length : Int) == 0) then some ((api_Pol.mk 0 0 0 []), false) else (gat z29 (IntKind.i64.wrap ((z29.length : Int) - 1))).bind fun x31 =>
    some (x31, true)))

/- pointsman/pointsmanref05.Size -/
def ref05_Size_b1 (a0 : api_Pol) (self : api_Pol → Option Int) (i2 : Int) : Int → Option Int
  | i1 =>
  (gat a0.Kids i2).bind fun x8 =>
    (self x8).bind fun r9 =>
    some (IntKind.i64.wrap (i1 + r9))

def ref05_Size_s (self : api_Pol → Option Int) (a0 : api_Pol) : Option Int :=
  (forO (ref05_Size_b1 a0 self) (irange 0 (a0.Kids.length : Int)) 1).bind fun z10 =>
    some z10

def ref05_Size_f : Nat → api_Pol → Option Int
  | 0 => fun _ => none
  | k + 1 => ref05_Size_s (ref05_Size_f k)

def ref05_Size (a0 : api_Pol) : Option Int := ref05_Size_f FUEL a0

/- pointsman/pointsmanref05.Depth -/
def ref05_Depth_b1 (a0 : api_Pol) (self : api_Pol → Option Int) (i2 : Int) : Int → Option Int
  | i1 =>
  (gat a0.Kids i2).bind fun x8 =>
    (self x8).bind fun r9 =>
    some (imax i1 r9)

def ref05_Depth_s (self : api_Pol → Option Int) (a0 : api_Pol) : Option Int :=
  (forO (ref05_Depth_b1 a0 self) (irange 0 (a0.Kids.length : Int)) 0).bind fun z10 =>
    some (IntKind.i64.wrap (z10 + 1))

def ref05_Depth_f : Nat → api_Pol → Option Int
  | 0 => fun _ => none
  | k + 1 => ref05_Depth_s (ref05_Depth_f k)

def ref05_Depth (a0 : api_Pol) : Option Int := ref05_Depth_f FUEL a0

/- pointsman/pointsmanref05.Predicate -/
def ref05_Predicate_b1 (a0 : api_Pol) (self : api_Pol → Option Bool) (i6 : Int) : Unit → Option (Br Unit (Unit ⊕ Bool))
  | () =>
  (gat a0.Kids i6).bind fun x12 =>
    (self x12).bind fun r13 =>
    (if (!r13) then some (Br.ret (Sum.inr false)) else some (.next ()))

def ref05_Predicate_s (self : api_Pol → Option Bool) (a0 : api_Pol) : Option Bool :=
  (if ((a0.Op == 5) || ((decide (a0.Op < 0)) || (decide (a0.Op > 7)))) then some false else ((if ((a0.Op == 6) || (a0.Op == 7)) then (forR (ref05_Predicate_b1 a0 self) (irange 0 (a0.Kids.length : Int)) ()).bind fun q15 => match q15 with
    | .ret r => some r
    | .done () =>
    some (.inl ()) else some (.inl ()))).bind fun q16 => match q16 with
    | .inr r => some r
    | .inl () =>
    some true)

def ref05_Predicate_f : Nat → api_Pol → Option Bool
  | 0 => fun _ => none
  | k + 1 => ref05_Predicate_s (ref05_Predicate_f k)

def ref05_Predicate (a0 : api_Pol) : Option Bool := ref05_Predicate_f FUEL a0

/- pointsman/pointsmanref05.formed -/
def ref05_formed_b1 (a0 : api_Pol) (a1 : Int) (self : api_Pol → Int → Option Bool) (i33 : Int) : Unit → Option (Br Unit Bool)
  | () =>
  (gat a0.Kids i33).bind fun x39 =>
    (self x39 a1).bind fun r40 =>
    (if (!r40) then some (Br.ret false) else some (.next ()))

def ref05_formed_s (self : api_Pol → Int → Option Bool) (a0 : api_Pol) (a1 : Int) : Option Bool :=
  ((if (a0.Op == 0) then some (a0.Op == 0) else some (a0.Op == 1))).bind fun y2 =>
    (if y2 then some (((a0.Kids.length : Int) == 0) && ((a0.F == 0) && (a0.N == 0))) else (if (a0.Op == 2) then some (((a0.Kids.length : Int) == 0) && ((decide (a0.F ≥ 0)) && (decide (a0.F < 8)))) else (if (a0.Op == 3) then some (((a0.Kids.length : Int) == 0) && ((decide (a0.F ≥ 0)) && (decide (a0.F < a1)))) else (if (a0.Op == 5) then some (((a0.Kids.length : Int) == 0) && ((decide (a0.F ≥ 1)) && (decide (a0.F < 8)))) else (if (a0.Op == 4) then ((if ((a0.Kids.length : Int) == 1) then (if (a0.F == 0) then (if (a0.N == 0) then (gat a0.Kids 0).bind fun x20 =>
    (ref05_Predicate x20).bind fun r21 =>
    (if r21 then (self x20 a1).bind fun r23 =>
    some r23 else some false) else some false) else some false) else some false)).bind fun y24 =>
    some y24 else ((if (a0.Op == 6) then some (a0.Op == 6) else some (a0.Op == 7))).bind fun y27 =>
    (if y27 then (if ((decide ((a0.Kids.length : Int) < 2)) || ((a0.F != 0) || (a0.N != 0))) then some false else (forR (ref05_formed_b1 a0 a1 self) (irange 0 (a0.Kids.length : Int)) ()).bind fun q42 => match q42 with
    | .ret r => some r
    | .done () =>
    some true) else some false))))))

def ref05_formed_f : Nat → api_Pol → Int → Option Bool
  | 0 => fun _ _ => none
  | k + 1 => ref05_formed_s (ref05_formed_f k)

def ref05_formed (a0 : api_Pol) (a1 : Int) : Option Bool := ref05_formed_f FUEL a0 a1

/- pointsman/pointsmanref05.rising -/
def ref05_rising_b1 (a0 : (List api_Pair)) (a1 : Int) (i1 : Int) : Unit → Option (Br Unit Bool)
  | () =>
  (gat a0 i1).bind fun x7 =>
    ((if decide (x7.F < 0) then some true else (if decide (x7.F ≥ a1) then some true else (if decide (i1 > 0) then (gat a0 (IntKind.i64.wrap (i1 - 1))).bind fun x11 =>
    some (decide (x11.F ≥ x7.F)) else some false)))).bind fun y12 =>
    (if y12 then some (Br.ret false) else some (.next ()))

def ref05_rising (a0 : (List api_Pair)) (a1 : Int) : Option Bool :=
  (forR (ref05_rising_b1 a0 a1) (irange 0 (a0.length : Int)) ()).bind fun q15 => match q15 with
    | .ret r => some r
    | .done () =>
    some true

/- pointsman/pointsmanref05.Check -/
def ref05_Check_b1 (a0 : api_Program) (i12 : Int) : Unit → Option (Br Unit Int)
  | () =>
  (gat a0.Rules i12).bind fun x18 =>
    ((if decide ((x18.When.length : Int) < 2) then some true else (gat x18.When 0).bind fun x20 =>
    (if (x20.F != 0) then some true else (gat x18.When 1).bind fun x22 =>
    (if (x22.F != 1) then some true else (ref05_rising x18.When 8).bind fun r24 =>
    (if (!r24) then some true else (ref05_rising x18.Guard (a0.Init.length : Int)).bind fun r26 =>
    (if (!r26) then some true else (ref05_rising x18.Then (a0.Init.length : Int)).bind fun r28 =>
    (if (!r28) then some true else some ((x18.Then.length : Int) == 0)))))))).bind fun y30 =>
    (if y30 then some (Br.ret 11) else some (.next ()))

def ref05_Check (a0 : api_Program) : Option Int :=
  ((if decide ((a0.Init.length : Int) < 1) then some true else (if decide ((a0.Init.length : Int) > 4) then some true else (ref05_Size a0.Pol).bind fun r3 =>
    (if decide (r3 > 300) then some true else (ref05_Depth a0.Pol).bind fun r5 =>
    (if decide (r5 > 20) then some true else some (decide ((a0.Rules.length : Int) > 24))))))).bind fun y7 =>
    (if y7 then some 2 else (ref05_formed a0.Pol (a0.Init.length : Int)).bind fun r10 =>
    (if (!r10) then some 11 else (forR (ref05_Check_b1 a0) (irange 0 (a0.Rules.length : Int)) ()).bind fun q33 => match q33 with
    | .ret r => some r
    | .done () =>
    some 0))

/- pointsman/pointsmanref07.Right -/
def ref07_Right (a0 : api_Pol) : Option Bool :=
  (gmk 4 0).bind fun l1 =>
    (ref05_Check (api_Program.mk l1 a0 [])).bind fun r2 =>
    some (r2 == 0)

/- pointsman/pointsmanref01.With -/
def ref01_With (a0 : (A8 Int)) (a1 : Int) (a2 : Int) : Option (A8 Int) :=
  ((if ((decide (a1 ≥ 0)) && (decide (a1 < 8))) then (a0.get a1).bind fun x3 =>
    (a0.put a1 a2).bind fun x4 =>
    some x4 else some a0)).bind fun y5 =>
    some y5

/- pointsman/pointsmanref01.Compare -/
def ref01_Compare_b1 (a0 : (A8 Int)) (a1 : (A8 Int)) (i1 : Int) : Unit → Option (Br Unit Int)
  | () =>
  (a0.get i1).bind fun x7 =>
    (a1.get i1).bind fun x8 =>
    (if decide (x7 < x8) then some (Br.ret (-1)) else (if decide (x7 > x8) then some (Br.ret 1) else some (.next ())))

def ref01_Compare (a0 : (A8 Int)) (a1 : (A8 Int)) : Option Int :=
  (forR (ref01_Compare_b1 a0 a1) (irange 0 8) ()).bind fun q11 => match q11 with
    | .ret r => some r
    | .done () =>
    some 0

/- pointsman/pointsmanref01.Add -/
def ref01_Add_b1 (a0 : (List (A8 Int))) (a1 : (A8 Int)) (i3 : Int) : ((List (A8 Int)) × Bool) → Option ((List (A8 Int)) × Bool)
  | (l1, y2) =>
  ((gat a0 i3).bind fun x9 =>
    (ref01_Compare a1 x9).bind fun r10 =>
    ((if ((!y2) && (decide (r10 ≤ 0))) then (gapp l1 ([a1] : List (A8 Int))).bind fun l13 =>
    some (l13, true) else some (l1, y2))).bind fun (l14, y15) =>
    (if (r10 != 0) then (gapp l14 ([x9] : List (A8 Int))).bind fun l18 =>
    some (l18, y15) else some (l14, y15))).bind fun (l19, y20) =>
    some (l19, y20)

def ref01_Add (a0 : (List (A8 Int))) (a1 : (A8 Int)) : Option (List (A8 Int)) :=
  (forO (ref01_Add_b1 a0 a1) (irange 0 (a0.length : Int)) (([] : List (A8 Int)), false)).bind fun (z22, z23) =>
    ((if (!z23) then (gapp z22 ([a1] : List (A8 Int))).bind fun l25 =>
    some l25 else some z22)).bind fun l26 =>
    some l26

/- pointsman/pointsmanref07.union -/
def ref07_union_b1 (a1 : (List (A8 Int))) (i2 : Int) : (List (A8 Int)) → Option (List (A8 Int))
  | y1 =>
  (gat a1 i2).bind fun x8 =>
    (ref01_Add y1 x8).bind fun r9 =>
    some r9

def ref07_union (a0 : (List (A8 Int))) (a1 : (List (A8 Int))) : Option (List (A8 Int)) :=
  (forO (ref07_union_b1 a1) (irange 0 (a1.length : Int)) a0).bind fun z10 =>
    some z10

/- pointsman/pointsmanref07.run -/
def ref07_run_b2 (a0 : api_Pol) (a1 : (List Int)) (y21 : (List (A8 Int))) (i22 : Int) (self : api_Pol → (List Int) → (A8 Int) → Option ((List (A8 Int)) × Bool)) (i29 : Int) : (List (A8 Int)) → Option (Br (List (A8 Int)) (Br (List (A8 Int)) ((List (A8 Int)) × Bool)))
  | y28 =>
  (gat a0.Kids i22).bind fun x35 =>
    (gat y21 i29).bind fun x36 =>
    (self x35 a1 x36).bind fun r37 =>
    (if (!r37.2) then some (Br.ret (Br.ret (([] : List (A8 Int)), false))) else (ref07_union y28 r37.1).bind fun r39 =>
    some (.next r39))

def ref07_run_b1 (a0 : api_Pol) (a1 : (List Int)) (self : api_Pol → (List Int) → (A8 Int) → Option ((List (A8 Int)) × Bool)) (i22 : Int) : (List (A8 Int)) → Option (Br (List (A8 Int)) ((List (A8 Int)) × Bool))
  | y21 =>
  (forR (ref07_run_b2 a0 a1 y21 i22 self) (irange 0 (y21.length : Int)) ([] : List (A8 Int))).bind fun q42 => match q42 with
    | .ret r => some r
    | .done z40 =>
    (if decide ((z40.length : Int) > 64) then some (Br.ret (([] : List (A8 Int)), false)) else some (.next z40))

def ref07_run_b3 (a0 : api_Pol) (a1 : (List Int)) (a2 : (A8 Int)) (self : api_Pol → (List Int) → (A8 Int) → Option ((List (A8 Int)) × Bool)) (i46 : Int) : (List (A8 Int)) → Option (Br (List (A8 Int)) ((List (A8 Int)) × Bool))
  | y45 =>
  (gat a0.Kids i46).bind fun x52 =>
    (self x52 a1 a2).bind fun r53 =>
    (if (!r53.2) then some (Br.ret (([] : List (A8 Int)), false)) else (ref07_union y45 r53.1).bind fun r55 =>
    (if decide ((r55.length : Int) > 64) then some (Br.ret (([] : List (A8 Int)), false)) else some (.next r55)))

def ref07_run_s (self : api_Pol → (List Int) → (A8 Int) → Option ((List (A8 Int)) × Bool)) (a0 : api_Pol) (a1 : (List Int)) (a2 : (A8 Int)) : Option ((List (A8 Int)) × Bool) :=
  (if (a0.Op == 0) then some (([] : List (A8 Int)), true) else (if (a0.Op == 1) then some (([a2] : List (A8 Int)), true) else (if (a0.Op == 2) then (a2.get a0.F).bind fun x4 =>
    (if (x4 == a0.N) then some (([a2] : List (A8 Int)), true) else some (([] : List (A8 Int)), true)) else (if (a0.Op == 3) then ((if decide (a0.F < (a1.length : Int)) then (gat a1 a0.F).bind fun x8 =>
    some (x8 == a0.N) else some false)).bind fun y9 =>
    (if y9 then some (([a2] : List (A8 Int)), true) else some (([] : List (A8 Int)), true)) else (if (a0.Op == 4) then (gat a0.Kids 0).bind fun x13 =>
    (self x13 a1 a2).bind fun r14 =>
    ((if decide ((r14.1.length : Int) > 0) then some ([] : List (A8 Int)) else some ([a2] : List (A8 Int)))).bind fun y16 =>
    some (y16, r14.2) else (if (a0.Op == 5) then (ref01_With a2 a0.F a0.N).bind fun r19 =>
    some (([r19] : List (A8 Int)), true) else (if (a0.Op == 6) then (forR (ref07_run_b1 a0 a1 self) (irange 0 (a0.Kids.length : Int)) ([a2] : List (A8 Int))).bind fun q44 => match q44 with
    | .ret r => some r
    | .done z43 =>
    some (z43, true) else (forR (ref07_run_b3 a0 a1 a2 self) (irange 0 (a0.Kids.length : Int)) ([] : List (A8 Int))).bind fun q58 => match q58 with
    | .ret r => some r
    | .done z57 =>
    some (z57, true))))))))

def ref07_run_f : Nat → api_Pol → (List Int) → (A8 Int) → Option ((List (A8 Int)) × Bool)
  | 0 => fun _ _ _ => none
  | k + 1 => ref07_run_s (ref07_run_f k)

def ref07_run (a0 : api_Pol) (a1 : (List Int)) (a2 : (A8 Int)) : Option ((List (A8 Int)) × Bool) := ref07_run_f FUEL a0 a1 a2

/- pointsman/pointsmanref07.Make -/
def ref07_Make (a0 : api_Pol) (a1 : (List Int)) (a2 : (A8 Int)) : Option ((List (A8 Int)) × Int) :=
  (ref07_Right a0).bind fun r1 =>
    (if (!r1) then some (([] : List (A8 Int)), 11) else (ref07_run a0 a1 a2).bind fun r3 =>
    (if (!r3.2) then some (([] : List (A8 Int)), 24) else some (r3.1, 0)))

/- pointsman/pointsmanref01.Same -/
def ref01_Same_b1 (a0 : (List (A8 Int))) (a1 : (List (A8 Int))) (i2 : Int) : Unit → Option (Br Unit Bool)
  | () =>
  (gat a0 i2).bind fun x8 =>
    (gat a1 i2).bind fun x9 =>
    (if (!(x8 == x9)) then some (Br.ret false) else some (.next ()))

def ref01_Same (a0 : (List (A8 Int))) (a1 : (List (A8 Int))) : Option Bool :=
  (if ((a0.length : Int) != (a1.length : Int)) then some false else (forR (ref01_Same_b1 a0 a1) (irange 0 (a0.length : Int)) ()).bind fun q11 => match q11 with
    | .ret r => some r
    | .done () =>
    some true)

/- pointsman/pointsmanlaw28.TrimKeeps -/
def law28_TrimKeeps (a0 : (List law05_Step)) (a1 : (List Int)) (a2 : (A8 Int)) : Option Bool :=
  (law28_awake).bind fun r1 =>
    (if (!r1) then some false else (law05_Pile a0).bind fun r3 =>
    (if ((!r3.2) || (decide ((a1.length : Int) > 6))) then some true else (ref07_Make r3.1 a1 a2).bind fun r6 =>
    (trim_Trim r3.1).bind fun r7 =>
    (ref07_Make r7 a1 a2).bind fun r8 =>
    (if ((r6.2 == 24) || (r8.2 == 24)) then some true else ((if (r6.2 == r8.2) then (ref01_Same r6.1 r8.1).bind fun r12 =>
    some r12 else some false)).bind fun y13 =>
    some y13)))

/- pointsman/pointsmanlaw28.TrimLess -/
def law28_TrimLess (a0 : (List law05_Step)) : Option Bool :=
  (law28_awake).bind fun r1 =>
    (if (!r1) then some false else (law05_Pile a0).bind fun r3 =>
    (if (!r3.2) then some true else (trim_Trim r3.1).bind fun r5 =>
    (ref07_Right r3.1).bind fun r6 =>
    (if (!r6) then (ref05_SamePol r3.1 r5).bind fun r8 =>
    some r8 else (ref07_Right r5).bind fun r9 =>
    ((if r9 then (ref05_Size r5).bind fun r11 =>
    (ref05_Size r3.1).bind fun r12 =>
    (if decide (r11 ≤ r12) then (ref05_Depth r5).bind fun r14 =>
    (ref05_Depth r3.1).bind fun r15 =>
    (if decide (r14 ≤ r15) then (trim_Trimmed r5).bind fun r17 =>
    (if r17 then (ref05_Predicate r3.1).bind fun r19 =>
    (if (!r19) then some true else (ref05_Predicate r5).bind fun r21 =>
    some r21) else some false) else some false) else some false) else some false)).bind fun y22 =>
    some y22)))

/- pointsman/pointsmanlaw28.TrimLaws$1 -/
def law28_TrimLaws_1 (a0 : api_Pol) : Option api_Pol :=
  some (api_Pol.mk 4 0 0 ([a0] : List api_Pol))

/- pointsman/pointsmanlaw28.TrimLaws -/
def law28_TrimLaws_b1 (r13 : api_Pol) (r14 : api_Pol) (r15 : api_Pol) (r16 : api_Pol) (r17 : api_Pol) (r19 : api_Pol) (i20 : Int) : Unit → Option (Br Unit Bool)
  | () =>
  (gat ([r14, r15, r16, r17, r19] : List api_Pol) i20).bind fun x26 =>
    (trim_Trim x26).bind fun r27 =>
    (ref05_SamePol r27 r13).bind fun r28 =>
    (if (!r28) then some (Br.ret false) else some (.next ()))

def law28_TrimLaws (a0 : (List law05_Step)) : Option Bool :=
  (law28_awake).bind fun r1 =>
    (if (!r1) then some false else (law05_Pile a0).bind fun r3 =>
    ((if (!r3.2) then some true else (ref07_Right r3.1).bind fun r5 =>
    (if (!r5) then some true else (ref05_Size r3.1).bind fun r7 =>
    (if decide (r7 > 80) then some true else (ref05_Depth r3.1).bind fun r9 =>
    some (decide (r9 > 15)))))).bind fun y10 =>
    (if y10 then some true else (trim_Trim r3.1).bind fun r13 =>
    (law07_Sum ([r3.1, r3.1] : List api_Pol)).bind fun r14 =>
    (law07_Sum ([(api_Pol.mk 0 0 0 []), r3.1, (api_Pol.mk 0 0 0 [])] : List api_Pol)).bind fun r15 =>
    (law07_Seq ([(api_Pol.mk 1 0 0 []), r3.1] : List api_Pol)).bind fun r16 =>
    (law07_Seq ([r3.1, (api_Pol.mk 1 0 0 []), (api_Pol.mk 1 0 0 [])] : List api_Pol)).bind fun r17 =>
    (law07_Seq ([r3.1, (api_Pol.mk 0 0 0 [])] : List api_Pol)).bind fun r18 =>
    (law07_Sum ([r3.1, r3.1, r18] : List api_Pol)).bind fun r19 =>
    (forR (law28_TrimLaws_b1 r13 r14 r15 r16 r17 r19) (irange 0 5) ()).bind fun q47 => match q47 with
    | .ret r => some r
    | .done () =>
    (ref05_Predicate r3.1).bind fun r30 =>
    ((if r30 then (law28_TrimLaws_1 r3.1).bind fun r32 =>
    (law28_TrimLaws_1 r32).bind fun r33 =>
    (trim_Trim r33).bind fun r34 =>
    (ref05_SamePol r34 r13).bind fun r35 =>
    some (!r35) else some false)).bind fun y36 =>
    (if y36 then some false else (trim_Trim r18).bind fun r39 =>
    (ref05_SamePol r39 (api_Pol.mk 0 0 0 [])).bind fun r40 =>
    ((if r40 then (law07_Seq ([(api_Pol.mk 0 0 0 []), r3.1] : List api_Pol)).bind fun r42 =>
    (trim_Trim r42).bind fun r43 =>
    (ref05_SamePol r43 (api_Pol.mk 0 0 0 [])).bind fun r44 =>
    some r44 else some false)).bind fun y45 =>
    some y45)))

/- pointsman/pointsmanlaw11.Small -/
def law11_Small_b1 (a0 : api_Program) (i3 : Int) : Unit → Option (Br Unit Bool)
  | () =>
  (gat a0.Rules i3).bind fun x9 =>
    (if ((decide ((x9.When.length : Int) > 8)) || ((decide ((x9.Guard.length : Int) > 6)) || (decide ((x9.Then.length : Int) > 6)))) then some (Br.ret false) else some (.next ()))

def law11_Small (a0 : api_Program) : Option Bool :=
  (if ((decide ((a0.Init.length : Int) > 5)) || (decide ((a0.Rules.length : Int) > 26))) then some false else (forR (law11_Small_b1 a0) (irange 0 (a0.Rules.length : Int)) ()).bind fun q13 => match q13 with
    | .ret r => some r
    | .done () =>
    some true)

/- pointsman/pointsmanref28.cut -/
def ref28_cut (a0 : (List api_Pol)) (a1 : Int) : Option (List api_Pol) :=
  (gcut a0 0 a1).bind fun l1 =>
    (gapp [] l1).bind fun l2 =>
    (gcut a0 (IntKind.i64.wrap (a1 + 1)) (a0.length : Int)).bind fun l3 =>
    (gapp l2 l3).bind fun l4 =>
    some l4

/- pointsman/pointsmanref28.pair -/
def ref28_pair (a0 : api_Pol) (a1 : api_Pol) : Option Int :=
  (if ((if (a0.Op == 2) then ((a0.Op == a1.Op) && (a0.F == a1.F)) else ((a0.Op == 3) && ((a0.Op == a1.Op) && (a0.F == a1.F)))) && (a0.N == a1.N)) then some 2 else (if (if (a0.Op == 2) then ((a0.Op == a1.Op) && (a0.F == a1.F)) else ((a0.Op == 3) && ((a0.Op == a1.Op) && (a0.F == a1.F)))) then some 3 else (if (a0.F != a1.F) then some 0 else (if ((a0.Op == 5) && (a1.Op == 5)) then some 1 else (if ((a0.Op == 5) && (a1.Op == 2)) then (if (a0.N == a1.N) then some 2 else some 3) else (if ((a0.Op == 2) && ((a1.Op == 5) && (a0.N == a1.N))) then some 2 else some 0))))))

/- pointsman/pointsmanref28.predicates -/
def ref28_predicates_b1 (a0 : (List api_Pol)) (i1 : Int) : Unit → Option (Br Unit Bool)
  | () =>
  (gat a0 i1).bind fun x7 =>
    (ref05_Predicate x7).bind fun r8 =>
    (if (!r8) then some (Br.ret false) else some (.next ()))

def ref28_predicates (a0 : (List api_Pol)) : Option Bool :=
  (forR (ref28_predicates_b1 a0) (irange 0 (a0.length : Int)) ()).bind fun q10 => match q10 with
    | .ret r => some r
    | .done () =>
    some true

/- pointsman/pointsmanref28.once -/
def ref28_once_b1 (a0 : api_Pol) (i3 : Int) : Unit → Option (Br Unit (Unit ⊕ (api_Pol × Bool)))
  | () =>
  (gat a0.Kids i3).bind fun x9 =>
    (if (x9.Op == a0.Op) then (gcut a0.Kids 0 i3).bind fun l11 =>
    (gapp [] l11).bind fun l12 =>
    (gapp l12 x9.Kids).bind fun l13 =>
    (gcut a0.Kids (i3 + 1) (a0.Kids.length : Int)).bind fun l14 =>
    (gapp l13 l14).bind fun l15 =>
    some (Br.ret (Sum.inr ((api_Pol.mk a0.Op a0.F a0.N l15), true))) else some (.next ()))

def ref28_once_b2 (a0 : api_Pol) (i16 : Int) : Unit → Option (Br Unit (Unit ⊕ (api_Pol × Bool)))
  | () =>
  ((if (a0.Op == 7) then (gat a0.Kids i16).bind fun x23 =>
    (if (x23.Op == 0) then some true else (if (a0.Op == 6) then some (x23.Op == 1) else some false)) else (if (a0.Op == 6) then (gat a0.Kids i16).bind fun x27 =>
    some (x27.Op == 1) else some false))).bind fun y28 =>
    (if y28 then (ref28_cut a0.Kids i16).bind fun r31 =>
    some (Br.ret (Sum.inr ((api_Pol.mk a0.Op a0.F a0.N r31), true))) else some (.next ()))

def ref28_once_b3 (a0 : api_Pol) (i36 : Int) : Unit → Option (Br Unit (Unit ⊕ (api_Pol × Bool)))
  | () =>
  (gat a0.Kids i36).bind fun x42 =>
    (if (x42.Op == 0) then some (Br.ret (Sum.inr ((api_Pol.mk 0 0 0 []), true))) else some (.next ()))

def ref28_once_b5 (a0 : api_Pol) (i47 : Int) (i53 : Int) : Unit → Option (Br Unit (Br Unit (Unit ⊕ (api_Pol × Bool))))
  | () =>
  (gat a0.Kids i47).bind fun x59 =>
    (gat a0.Kids i53).bind fun x60 =>
    (ref05_SamePol x59 x60).bind fun r61 =>
    (if r61 then (ref28_cut a0.Kids i47).bind fun r63 =>
    some (Br.ret (Br.ret (Sum.inr ((api_Pol.mk a0.Op a0.F a0.N r63), true)))) else some (.next ()))

def ref28_once_b4 (a0 : api_Pol) (i47 : Int) : Unit → Option (Br Unit (Unit ⊕ (api_Pol × Bool)))
  | () =>
  (forR (ref28_once_b5 a0 i47) (irange 0 i47) ()).bind fun q64 => match q64 with
    | .ret r => some r
    | .done () =>
    some (.next ())

def ref28_once_b7 (a0 : api_Pol) (i68 : Int) : Int → Option (Br Int (Br Int (Unit ⊕ (api_Pol × Bool))))
  | i71 =>
  (if decide ((IntKind.i64.wrap (i71 + 1)) < (a0.Kids.length : Int)) then ((gat a0.Kids i71).bind fun x74 =>
    ((if (x74.Op == 2) then (gat a0.Kids (IntKind.i64.wrap (i71 + 1))).bind fun x76 =>
    some (x74.Op == x76.Op) else (if (x74.Op == 3) then (gat a0.Kids (IntKind.i64.wrap (i71 + 1))).bind fun x78 =>
    some (x74.Op == x78.Op) else some false))).bind fun y79 =>
    (if (!(y79 == (i68 == 5))) then some (.inl ()) else (gat a0.Kids (IntKind.i64.wrap (i71 + 1))).bind fun x82 =>
    (ref28_pair x74 x82).bind fun r83 =>
    (if (r83 == 1) then (ref28_cut a0.Kids i71).bind fun r85 =>
    some (Sum.inr (Br.ret (Br.ret (Sum.inr ((api_Pol.mk a0.Op a0.F a0.N r85), true))))) else (if (r83 == 2) then (ref28_cut a0.Kids (IntKind.i64.wrap (i71 + 1))).bind fun r87 =>
    some (Sum.inr (Br.ret (Br.ret (Sum.inr ((api_Pol.mk a0.Op a0.F a0.N r87), true))))) else (if (r83 == 3) then some (Sum.inr (Br.ret (Br.ret (Sum.inr ((api_Pol.mk 0 0 0 []), true))))) else some (.inl ())))))).bind fun q89 => match q89 with
    | .inr r => some r
    | .inl () =>
    some (.next (IntKind.i64.wrap (i71 + 1))) else some (.brk i71))

def ref28_once_b6 (a0 : api_Pol) : Int → Option (Br Int (Unit ⊕ (api_Pol × Bool)))
  | i68 =>
  (if decide (i68 ≤ 6) then (whR (ref28_once_b7 a0 i68) FUEL 0).bind fun q91 => match q91 with
    | .ret r => some r
    | .done z90 =>
    some (.next (IntKind.i64.wrap (i68 + 1))) else some (.brk i68))

def ref28_once_b8 (a0 : api_Pol) (i100 : Int) : Unit → Option (Br Unit (Unit ⊕ (api_Pol × Bool)))
  | () =>
  (gat a0.Kids i100).bind fun x106 =>
    (if (x106.Op == 1) then some (Br.ret (Sum.inr ((api_Pol.mk 1 0 0 []), true))) else some (.next ()))

def ref28_once (a0 : api_Pol) : Option (api_Pol × Bool) :=
  ((if ((a0.Op == 6) || (a0.Op == 7)) then (forR (ref28_once_b1 a0) (irange 0 (a0.Kids.length : Int)) ()).bind fun q33 => match q33 with
    | .ret r => some r
    | .done () =>
    (forR (ref28_once_b2 a0) (irange 0 (a0.Kids.length : Int)) ()).bind fun q32 => match q32 with
    | .ret r => some r
    | .done () =>
    some (.inl ()) else some (.inl ()))).bind fun q34 => match q34 with
    | .inr r => some r
    | .inl () =>
    ((if (a0.Op == 6) then (forR (ref28_once_b3 a0) (irange 0 (a0.Kids.length : Int)) ()).bind fun q44 => match q44 with
    | .ret r => some r
    | .done () =>
    some (.inl ()) else some (.inl ()))).bind fun q45 => match q45 with
    | .inr r => some r
    | .inl () =>
    ((if (a0.Op == 7) then (forR (ref28_once_b4 a0) (irange 0 (a0.Kids.length : Int)) ()).bind fun q65 => match q65 with
    | .ret r => some r
    | .done () =>
    some (.inl ()) else some (.inl ()))).bind fun q66 => match q66 with
    | .inr r => some r
    | .inl () =>
    ((if (a0.Op == 6) then (whR (ref28_once_b6 a0) FUEL 5).bind fun q93 => match q93 with
    | .ret r => some r
    | .done z92 =>
    some (.inl ()) else some (.inl ()))).bind fun q94 => match q94 with
    | .inr r => some r
    | .inl () =>
    (((if (a0.Op == 7) then (ref28_predicates a0.Kids).bind fun r96 =>
    some r96 else some false)).bind fun y97 =>
    (if y97 then (forR (ref28_once_b8 a0) (irange 0 (a0.Kids.length : Int)) ()).bind fun q108 => match q108 with
    | .ret r => some r
    | .done () =>
    some (.inl ()) else some (.inl ()))).bind fun q109 => match q109 with
    | .inr r => some r
    | .inl () =>
    (if (if (a0.Op == 6) then ((a0.Kids.length : Int) == 1) else ((a0.Op == 7) && ((a0.Kids.length : Int) == 1))) then (gat a0.Kids 0).bind fun x113 =>
    some (x113, true) else (if (if (a0.Op == 6) then ((a0.Kids.length : Int) == 0) else ((a0.Op == 7) && ((a0.Kids.length : Int) == 0))) then some ((api_Pol.mk (IntKind.i64.wrap (7 - a0.Op)) 0 0 []), true) else ((if (a0.Op == 4) then (gat a0.Kids 0).bind fun x118 =>
    some (decide (x118.Op < 2)) else some false)).bind fun y119 =>
    (if y119 then (gat a0.Kids 0).bind fun x122 =>
    some ((api_Pol.mk (IntKind.i64.wrap (1 - x122.Op)) 0 0 []), true) else ((if (a0.Op == 4) then (gat a0.Kids 0).bind fun x124 =>
    some (x124.Op == 4) else some false)).bind fun y125 =>
    (if y125 then (gat a0.Kids 0).bind fun x128 =>
    (gat x128.Kids 0).bind fun x129 =>
    some (x129, true) else some (a0, false)))))

/- pointsman/pointsmanref28.trim -/
def ref28_trim_b1 (a0 : api_Pol) (self : api_Pol → Option api_Pol) (i2 : Int) : (List api_Pol) → Option (List api_Pol)
  | l1 =>
  (gat a0.Kids i2).bind fun x8 =>
    (self x8).bind fun r9 =>
    (gapp l1 ([r9] : List api_Pol)).bind fun l10 =>
    some l10

def ref28_trim_b2 : api_Pol → Option (Br api_Pol api_Pol)
  | y12 =>
  (ref28_once y12).bind fun r14 =>
    (if (!r14.2) then some (Br.ret y12) else some (.next r14.1))

def ref28_trim_s (self : api_Pol → Option api_Pol) (a0 : api_Pol) : Option api_Pol :=
  (forO (ref28_trim_b1 a0 self) (irange 0 (a0.Kids.length : Int)) ([] : List api_Pol)).bind fun z11 =>
    (whR ref28_trim_b2 FUEL (api_Pol.mk a0.Op a0.F a0.N z11)).bind fun q17 => match q17 with
    | .ret r => some r
    | .done z16 =>
    some (api_Pol.mk 0 0 0 [])

def ref28_trim_f : Nat → api_Pol → Option api_Pol
  | 0 => fun _ => none
  | k + 1 => ref28_trim_s (ref28_trim_f k)

def ref28_trim (a0 : api_Pol) : Option api_Pol := ref28_trim_f FUEL a0

/- pointsman/pointsmanref28.Trim -/
def ref28_Trim (a0 : api_Pol) : Option api_Pol :=
  (ref07_Right a0).bind fun r1 =>
    (if (!r1) then some a0 else (ref28_trim a0).bind fun r3 =>
    some r3)

/- pointsman/trim.Program -/
def trim_Program (a0 : api_Program) : Option (api_Program × Int) :=
  (syntax_Check a0).bind fun r1 =>
    (if (r1 != 0) then some ((api_Program.mk [] (api_Pol.mk 0 0 0 []) []), r1) else (trim_Trim a0.Pol).bind fun r3 =>
    some ((api_Program.mk a0.Init r3 a0.Rules), 0))

/- pointsman/pointsmanref05.SamePairs -/
def ref05_SamePairs_b1 (a0 : (List api_Pair)) (a1 : (List api_Pair)) (i2 : Int) : Unit → Option (Br Unit Bool)
  | () =>
  (gat a0 i2).bind fun x8 =>
    (gat a1 i2).bind fun x9 =>
    (if (!(x8 == x9)) then some (Br.ret false) else some (.next ()))

def ref05_SamePairs (a0 : (List api_Pair)) (a1 : (List api_Pair)) : Option Bool :=
  (if ((a0.length : Int) != (a1.length : Int)) then some false else (forR (ref05_SamePairs_b1 a0 a1) (irange 0 (a0.length : Int)) ()).bind fun q11 => match q11 with
    | .ret r => some r
    | .done () =>
    some true)

/- pointsman/pointsmanref05.Same -/
def ref05_Same_b1 (a0 : api_Program) (a1 : api_Program) (i7 : Int) : Unit → Option (Br Unit Bool)
  | () =>
  (gat a0.Init i7).bind fun x13 =>
    (gat a1.Init i7).bind fun x14 =>
    (if (x13 != x14) then some (Br.ret false) else some (.next ()))

def ref05_Same_b2 (a0 : api_Program) (a1 : api_Program) (i16 : Int) : Unit → Option (Br Unit Bool)
  | () =>
  (gat a0.Rules i16).bind fun x22 =>
    (gat a1.Rules i16).bind fun x23 =>
    (ref05_SamePairs x22.When x23.When).bind fun r24 =>
    ((if (!r24) then some true else (ref05_SamePairs x22.Guard x23.Guard).bind fun r26 =>
    (if (!r26) then some true else (ref05_SamePairs x22.Then x23.Then).bind fun r28 =>
    some (!r28)))).bind fun y29 =>
    (if y29 then some (Br.ret false) else some (.next ()))

def ref05_Same (a0 : api_Program) (a1 : api_Program) : Option Bool :=
  ((if ((a0.Init.length : Int) != (a1.Init.length : Int)) then some true else (if ((a0.Rules.length : Int) != (a1.Rules.length : Int)) then some true else (ref05_SamePol a0.Pol a1.Pol).bind fun r3 =>
    some (!r3)))).bind fun y4 =>
    (if y4 then some false else (forR (ref05_Same_b1 a0 a1) (irange 0 (a0.Init.length : Int)) ()).bind fun q33 => match q33 with
    | .ret r => some r
    | .done () =>
    (forR (ref05_Same_b2 a0 a1) (irange 0 (a0.Rules.length : Int)) ()).bind fun q32 => match q32 with
    | .ret r => some r
    | .done () =>
    some true)

/- pointsman/pointsmanlaw28.TrimTells -/
def law28_TrimTells (a0 : (List law05_Step)) (a1 : api_Program) : Option Bool :=
  (law28_awake).bind fun r1 =>
    (if (!r1) then some false else (law05_Pile a0).bind fun r3 =>
    ((if (!r3.2) then some true else (law11_Small a1).bind fun r5 =>
    some (!r5))).bind fun y6 =>
    (if y6 then some true else (ref28_Trim r3.1).bind fun r9 =>
    (trim_Program (api_Program.mk a1.Init r3.1 a1.Rules)).bind fun r10 =>
    (ref05_Check (api_Program.mk a1.Init r3.1 a1.Rules)).bind fun r11 =>
    (if (r10.2 != r11) then some false else ((if (r11 != 0) then some (api_Program.mk [] (api_Pol.mk 0 0 0 []) []) else some (api_Program.mk a1.Init r9 a1.Rules))).bind fun y14 =>
    (trim_Trim r3.1).bind fun r16 =>
    (ref05_SamePol r16 r9).bind fun r17 =>
    ((if r17 then (trim_Trimmed r3.1).bind fun r19 =>
    (ref05_SamePol r3.1 r9).bind fun r20 =>
    (if (r19 == r20) then (ref05_Same y14 r10.1).bind fun r22 =>
    some r22 else some false) else some false)).bind fun y23 =>
    some y23)))

end Go.AM
