import Derived.Test.YtjdaaclkihjjnaaAmPre
/-  The program's functions, told outright. -/
set_option linter.unusedVariables false
namespace Go.AM
open Go

structure api_Pair where
  F : Int
  N : Int
  deriving DecidableEq, Inhabited

structure api_Row where
  Match : (List api_Pair)
  Acts : (List (List api_Pair))
  deriving DecidableEq, Inhabited

/- slices.Clone[[]pointsman/api.Row,pointsman/api.Row] -/
def slices_Clone_api_Row (a0 : List api_Row) : Option (List api_Row) :=
  (gapp ([] : List api_Row) a0).bind fun l1 => some l1

/- slices.Index[[]pointsman/api.Pair,pointsman/api.Pair] -/
def slices_Index_api_Pair_b1 (a0 : (List api_Pair)) (a1 : api_Pair) (i1 : Int) : Unit → Option (Br Unit Int)
  | () =>
  (gat a0 i1).bind fun x7 =>
    (if (a1 == x7) then some (Br.ret i1) else some (.next ()))

def slices_Index_api_Pair (a0 : (List api_Pair)) (a1 : api_Pair) : Option Int :=
  (forR (slices_Index_api_Pair_b1 a0 a1) (irange 0 (a0.length : Int)) ()).bind fun q9 => match q9 with
    | .ret r => some r
    | .done () =>
    some (-1)

/- slices.Contains[[]pointsman/api.Pair,pointsman/api.Pair] -/
def slices_Contains_api_Pair (a0 : (List api_Pair)) (a1 : api_Pair) : Option Bool :=
  (slices_Index_api_Pair a0 a1).bind fun r1 =>
    some (decide (r1 ≥ 0))

/- pointsman/table.Covers$1 -/
def table_Covers_1 (a0 : api_Pair) (a1 : api_Row) : Option Bool :=
  (slices_Contains_api_Pair a1.Match a0).bind fun r1 =>
    some (!r1)

/- slices.IndexFunc[[]pointsman/api.Pair,pointsman/api.Pair] -/
def slices_IndexFunc_api_Pair_b1 (a0 : (List api_Pair)) (a1 : (api_Pair → Option Bool)) (i1 : Int) : Unit → Option (Br Unit Int)
  | () =>
  (gat a0 i1).bind fun x7 =>
    (a1 x7).bind fun x8 =>
    (if x8 then some (Br.ret i1) else some (.next ()))

def slices_IndexFunc_api_Pair (a0 : (List api_Pair)) (a1 : api_Pair → Option Bool) : Option Int :=
  (forR (slices_IndexFunc_api_Pair_b1 a0 a1) (irange 0 (a0.length : Int)) ()).bind fun q10 => match q10 with
    | .ret r => some r
    | .done () =>
    some (-1)

/- slices.ContainsFunc[[]pointsman/api.Pair,pointsman/api.Pair] -/
def slices_ContainsFunc_api_Pair (a0 : (List api_Pair)) (a1 : api_Pair → Option Bool) : Option Bool :=
  (slices_IndexFunc_api_Pair a0 a1).bind fun r1 =>
    some (decide (r1 ≥ 0))

/- pointsman/table.Covers -/
def table_Covers (a0 : api_Row) (a1 : api_Row) : Option Bool :=
  (slices_ContainsFunc_api_Pair a0.Match (fun y0 => table_Covers_1 y0 a1)).bind fun r1 =>
    some (!r1)

/- pointsman/slim.covered$1 -/
def slim_covered_1 (a0 : api_Row) (a1 : (List api_Row)) (a2 : Int) : Option Bool :=
  (gat a1 a2).bind fun x1 =>
    (table_Covers a0 x1).bind fun r2 =>
    some r2

/- slices.IndexFunc[[]pointsman/api.Row,pointsman/api.Row] -/
def slices_IndexFunc_api_Row_b1 (a0 : (List api_Row)) (a1 : (api_Row → Option Bool)) (i1 : Int) : Unit → Option (Br Unit Int)
  | () =>
  (gat a0 i1).bind fun x7 =>
    (a1 x7).bind fun x8 =>
    (if x8 then some (Br.ret i1) else some (.next ()))

def slices_IndexFunc_api_Row (a0 : (List api_Row)) (a1 : api_Row → Option Bool) : Option Int :=
  (forR (slices_IndexFunc_api_Row_b1 a0 a1) (irange 0 (a0.length : Int)) ()).bind fun q10 => match q10 with
    | .ret r => some r
    | .done () =>
    some (-1)

/- slices.ContainsFunc[[]pointsman/api.Row,pointsman/api.Row] -/
def slices_ContainsFunc_api_Row (a0 : (List api_Row)) (a1 : api_Row → Option Bool) : Option Bool :=
  (slices_IndexFunc_api_Row a0 a1).bind fun r1 =>
    some (decide (r1 ≥ 0))

/- pointsman/slim.covered -/
def slim_covered (a0 : (List api_Row)) (a1 : Int) : Option Bool :=
  (gcut a0 0 a1).bind fun l1 =>
    (slices_ContainsFunc_api_Row l1 (fun y0 => slim_covered_1 y0 a0 a1)).bind fun r2 =>
    some r2

/- slices.EqualFunc[[]pointsman/api.Act,[]pointsman/api.Act,pointsman/api.Act,pointsman/api.Act] -/
def slices_EqualFunc_api_Act_b1 (a0 : (List (List api_Pair))) (a1 : (List (List api_Pair))) (a2 : ((List api_Pair) → (List api_Pair) → Option Bool)) (i2 : Int) : Unit → Option (Br Unit Bool)
  | () =>
  (gat a0 i2).bind fun x8 =>
    (gat a1 i2).bind fun x9 =>
    (a2 x8 x9).bind fun x10 =>
    (if (!x10) then some (Br.ret false) else some (.next ()))

def slices_EqualFunc_api_Act (a0 : (List (List api_Pair))) (a1 : (List (List api_Pair))) (a2 : (List api_Pair) → (List api_Pair) → Option Bool) : Option Bool :=
  (if ((a0.length : Int) != (a1.length : Int)) then some false else (forR (slices_EqualFunc_api_Act_b1 a0 a1 a2) (irange 0 (a0.length : Int)) ()).bind fun q12 => match q12 with
    | .ret r => some r
    | .done () =>
    some true)

/- slices.Equal[pointsman/api.Act,pointsman/api.Pair] -/
def slices_Equal_api_Pair_b1 (a0 : (List api_Pair)) (a1 : (List api_Pair)) (i2 : Int) : Unit → Option (Br Unit Bool)
  | () =>
  (gat a0 i2).bind fun x8 =>
    (gat a1 i2).bind fun x9 =>
    (if (!(x8 == x9)) then some (Br.ret false) else some (.next ()))

def slices_Equal_api_Pair (a0 : (List api_Pair)) (a1 : (List api_Pair)) : Option Bool :=
  (if ((a0.length : Int) != (a1.length : Int)) then some false else (forR (slices_Equal_api_Pair_b1 a0 a1) (irange 0 (a0.length : Int)) ()).bind fun q11 => match q11 with
    | .ret r => some r
    | .done () =>
    some true)

/- pointsman/slim.alike -/
def slim_alike (a0 : api_Row) (a1 : api_Row) : Option Bool :=
  (slices_EqualFunc_api_Act a0.Acts a1.Acts (fun y0 y1 => slices_Equal_api_Pair y0 y1)).bind fun r1 =>
    some r1

/- pointsman/slim.Apart$1$1 -/
def slim_Apart_1_1 (a0 : api_Pair) (a1 : api_Pair) : Option Bool :=
  some ((a1.F == a0.F) && (a1.N != a0.N))

/- pointsman/slim.Apart$1 -/
def slim_Apart_1 (a0 : api_Pair) (a1 : api_Row) : Option Bool :=
  (slices_ContainsFunc_api_Pair a1.Match (fun y0 => slim_Apart_1_1 y0 a0)).bind fun r1 =>
    some r1

/- pointsman/slim.Apart -/
def slim_Apart (a0 : api_Row) (a1 : api_Row) : Option Bool :=
  (slices_ContainsFunc_api_Pair a0.Match (fun y0 => slim_Apart_1 y0 a1)).bind fun r1 =>
    some r1

/- pointsman/slim.spared -/
def slim_spared_b1 (a0 : (List api_Row)) (a1 : Int) (l1 : (List api_Row)) (i2 : Int) : Unit → Option (Br Unit Bool)
  | () =>
  (gat l1 i2).bind fun x8 =>
    (gat a0 a1).bind fun x9 =>
    (slim_alike x8 x9).bind fun r10 =>
    ((if r10 then (table_Covers x8 x9).bind fun r12 =>
    some r12 else some false)).bind fun y13 =>
    (if y13 then some (Br.ret true) else ((if (!r10) then (slim_Apart x8 x9).bind fun r17 =>
    some (!r17) else some false)).bind fun y18 =>
    (if y18 then some (Br.ret false) else some (.next ())))

def slim_spared (a0 : (List api_Row)) (a1 : Int) : Option Bool :=
  (gcut a0 (IntKind.i64.wrap (a1 + 1)) (a0.length : Int)).bind fun l1 =>
    (forR (slim_spared_b1 a0 a1 l1) (irange 0 (l1.length : Int)) ()).bind fun q21 => match q21 with
    | .ret r => some r
    | .done () =>
    some false

/- pointsman/slim.Idle -/
def slim_Idle (a0 : (List api_Row)) (a1 : Int) : Option Bool :=
  ((if decide (a1 ≥ 0) then (if decide (a1 < (a0.length : Int)) then (slim_covered a0 a1).bind fun r3 =>
    (if r3 then some true else (slim_spared a0 a1).bind fun r5 =>
    some r5) else some false) else some false)).bind fun y6 =>
    some y6

/- slices.Delete[[]pointsman/api.Row,pointsman/api.Row] -/
def slices_Delete_api_Row (a0 : List api_Row) (a1 a2 : Int) : Option (List api_Row) :=
  if 0 ≤ a1 ∧ a1 ≤ a2 ∧ a2 ≤ (a0.length : Int) then some (a0.take a1.toNat ++ a0.drop a2.toNat) else none

/- pointsman/slim.Slim -/
def slim_Slim_b1 (i3 : Int) : (List api_Row) → Option (List api_Row)
  | l2 =>
  ((slim_Idle l2 i3).bind fun r9 =>
    (if r9 then (slices_Delete_api_Row l2 i3 (IntKind.i64.wrap (i3 + 1))).bind fun r11 =>
    some r11 else some l2)).bind fun l12 =>
    some l12

def slim_Slim (a0 : (List api_Row)) : Option (List api_Row) :=
  (slices_Clone_api_Row a0).bind fun r1 =>
    (forO slim_Slim_b1 (drange (IntKind.i64.wrap ((r1.length : Int) - 1)) (-1)) r1).bind fun z14 =>
    some z14

/- pointsman/pointsmanlaw26.awake -/
def law26_awake  : Option Bool :=
  (slim_Slim ([(api_Row.mk ([(api_Pair.mk 3 1)] : List api_Pair) []), (api_Row.mk [] [])] : List api_Row)).bind fun r1 =>
    ((if ((r1.length : Int) == 1) then (gat r1 0).bind fun x3 =>
    (if ((x3.Match.length : Int) == 0) then (slim_Apart (api_Row.mk ([(api_Pair.mk 3 1)] : List api_Pair) []) (api_Row.mk ([(api_Pair.mk 3 2)] : List api_Pair) [])).bind fun r5 =>
    some r5 else some false) else some false)).bind fun y6 =>
    some y6

/- pointsman/pointsmanlaw09.Few -/
def law09_Few_b2 (x8 : api_Row) (i11 : Int) : Unit → Option (Br Unit (Br Unit Bool))
  | () =>
  (gat x8.Acts i11).bind fun x17 =>
    (if decide ((x17.length : Int) > 10) then some (Br.ret (Br.ret false)) else some (.next ()))

def law09_Few_b1 (a0 : (List api_Row)) (i2 : Int) : Unit → Option (Br Unit Bool)
  | () =>
  (gat a0 i2).bind fun x8 =>
    (if ((decide ((x8.Match.length : Int) > 10)) || (decide ((x8.Acts.length : Int) > 40))) then some (Br.ret false) else (forR (law09_Few_b2 x8) (irange 0 (x8.Acts.length : Int)) ()).bind fun q19 => match q19 with
    | .ret r => some r
    | .done () =>
    some (.next ()))

def law09_Few (a0 : (List api_Row)) : Option Bool :=
  (if decide ((a0.length : Int) > 20) then some false else (forR (law09_Few_b1 a0) (irange 0 (a0.length : Int)) ()).bind fun q20 => match q20 with
    | .ret r => some r
    | .done () =>
    some true)

/- pointsman/pointsmanref08.Rising -/
def ref08_Rising_b1 (a0 : (List api_Pair)) (i1 : Int) : Unit → Option (Br Unit Bool)
  | () =>
  (gat a0 i1).bind fun x7 =>
    ((if decide (x7.F < 0) then some true else (if decide (x7.F > 7) then some true else (if decide (i1 > 0) then (gat a0 (IntKind.i64.wrap (i1 - 1))).bind fun x11 =>
    some (decide (x11.F ≥ x7.F)) else some false)))).bind fun y12 =>
    (if y12 then some (Br.ret false) else some (.next ()))

def ref08_Rising (a0 : (List api_Pair)) : Option Bool :=
  (forR (ref08_Rising_b1 a0) (irange 0 (a0.length : Int)) ()).bind fun q15 => match q15 with
    | .ret r => some r
    | .done () =>
    some true

/- pointsman/pointsmanref09.Right -/
def ref09_Right_b2 (x7 : api_Row) (i11 : Int) : Unit → Option (Br Unit (Br Unit Bool))
  | () =>
  (gat x7.Acts i11).bind fun x17 =>
    (ref08_Rising x17).bind fun r18 =>
    (if (!r18) then some (Br.ret (Br.ret false)) else some (.next ()))

def ref09_Right_b1 (a0 : (List api_Row)) (i1 : Int) : Unit → Option (Br Unit Bool)
  | () =>
  (gat a0 i1).bind fun x7 =>
    (ref08_Rising x7.Match).bind fun r8 =>
    (if ((!r8) || (decide ((x7.Acts.length : Int) > 32))) then some (Br.ret false) else (forR (ref09_Right_b2 x7) (irange 0 (x7.Acts.length : Int)) ()).bind fun q20 => match q20 with
    | .ret r => some r
    | .done () =>
    some (.next ()))

def ref09_Right (a0 : (List api_Row)) : Option Bool :=
  (forR (ref09_Right_b1 a0) (irange 0 (a0.length : Int)) ()).bind fun q21 => match q21 with
    | .ret r => some r
    | .done () =>
    some (decide ((a0.length : Int) ≤ 1000))

/- pointsman/pointsmanref09.has -/
def ref09_has_b1 (a0 : (List api_Pair)) (a1 : api_Pair) (i1 : Int) : Unit → Option (Br Unit Bool)
  | () =>
  (gat a0 i1).bind fun x7 =>
    (if (x7 == a1) then some (Br.ret true) else some (.next ()))

def ref09_has (a0 : (List api_Pair)) (a1 : api_Pair) : Option Bool :=
  (forR (ref09_has_b1 a0 a1) (irange 0 (a0.length : Int)) ()).bind fun q9 => match q9 with
    | .ret r => some r
    | .done () =>
    some false

/- pointsman/pointsmanref09.Covers -/
def ref09_Covers_b1 (a0 : api_Row) (a1 : api_Row) (i1 : Int) : Unit → Option (Br Unit Bool)
  | () =>
  (gat a0.Match i1).bind fun x7 =>
    (ref09_has a1.Match x7).bind fun r8 =>
    (if (!r8) then some (Br.ret false) else some (.next ()))

def ref09_Covers (a0 : api_Row) (a1 : api_Row) : Option Bool :=
  (forR (ref09_Covers_b1 a0 a1) (irange 0 (a0.Match.length : Int)) ()).bind fun q10 => match q10 with
    | .ret r => some r
    | .done () =>
    some true

/- pointsman/pointsmanref05.SamePairs -/
def ref05_SamePairs_b1 (a0 : (List api_Pair)) (a1 : (List api_Pair)) (i2 : Int) : Unit → Option (Br Unit Bool)
  | () =>
  (gat a0 i2).bind fun x8 =>
    (gat a1 i2).bind fun x9 =>
    (if (!(x8 == x9)) then some (Br.ret false) else some (.next ()))

def ref05_SamePairs (a0 : (List api_Pair)) (a1 : (List api_Pair)) : Option Bool :=
  (if ((a0.length : Int) != (a1.length : Int)) then some false else (forR (ref05_SamePairs_b1 a0 a1) (irange 0 (a0.length : Int)) ()).bind fun q11 => match q11 with
    | .ret r => some r
    | .done () =>
    some true)

/- pointsman/pointsmanref09.Same -/
def ref09_Same_b2 (x8 : api_Row) (x9 : api_Row) (i13 : Int) : Unit → Option (Br Unit (Br Unit Bool))
  | () =>
  (gat x8.Acts i13).bind fun x19 =>
    (gat x9.Acts i13).bind fun x20 =>
    (ref05_SamePairs x19 x20).bind fun r21 =>
    (if (!r21) then some (Br.ret (Br.ret false)) else some (.next ()))

def ref09_Same_b1 (a0 : (List api_Row)) (a1 : (List api_Row)) (i2 : Int) : Unit → Option (Br Unit Bool)
  | () =>
  (gat a0 i2).bind fun x8 =>
    (gat a1 i2).bind fun x9 =>
    (ref05_SamePairs x8.Match x9.Match).bind fun r10 =>
    (if ((!r10) || ((x8.Acts.length : Int) != (x9.Acts.length : Int))) then some (Br.ret false) else (forR (ref09_Same_b2 x8 x9) (irange 0 (x8.Acts.length : Int)) ()).bind fun q23 => match q23 with
    | .ret r => some r
    | .done () =>
    some (.next ()))

def ref09_Same (a0 : (List api_Row)) (a1 : (List api_Row)) : Option Bool :=
  (if ((a0.length : Int) != (a1.length : Int)) then some false else (forR (ref09_Same_b1 a0 a1) (irange 0 (a0.length : Int)) ()).bind fun q24 => match q24 with
    | .ret r => some r
    | .done () =>
    some true)

/- pointsman/pointsmanref26.same -/
def ref26_same (a0 : api_Row) (a1 : api_Row) : Option Bool :=
  (ref09_Same ([(api_Row.mk ([] : List api_Pair) a0.Acts)] : List api_Row) ([(api_Row.mk ([] : List api_Pair) a1.Acts)] : List api_Row)).bind fun r1 =>
    some r1

/- pointsman/pointsmanref26.Apart -/
def ref26_Apart_b2 (a0 : api_Row) (a1 : api_Row) (i1 : Int) (i7 : Int) : Unit → Option (Br Unit (Br Unit Bool))
  | () =>
  (gat a0.Match i1).bind fun x13 =>
    (gat a1.Match i7).bind fun x14 =>
    (if ((x13.F == x14.F) && (x13.N != x14.N)) then some (Br.ret (Br.ret true)) else some (.next ()))

def ref26_Apart_b1 (a0 : api_Row) (a1 : api_Row) (i1 : Int) : Unit → Option (Br Unit Bool)
  | () =>
  (forR (ref26_Apart_b2 a0 a1 i1) (irange 0 (a1.Match.length : Int)) ()).bind fun q17 => match q17 with
    | .ret r => some r
    | .done () =>
    some (.next ())

def ref26_Apart (a0 : api_Row) (a1 : api_Row) : Option Bool :=
  (forR (ref26_Apart_b1 a0 a1) (irange 0 (a0.Match.length : Int)) ()).bind fun q18 => match q18 with
    | .ret r => some r
    | .done () =>
    some false

/- pointsman/pointsmanref26.Idle -/
def ref26_Idle_b1 (a0 : (List api_Row)) (a1 : Int) (i3 : Int) : Unit → Option (Br Unit Bool)
  | () =>
  (gat a0 i3).bind fun x9 =>
    (gat a0 a1).bind fun x10 =>
    (ref09_Covers x9 x10).bind fun r11 =>
    (if r11 then some (Br.ret true) else some (.next ()))

def ref26_Idle_b2 (a0 : (List api_Row)) (a1 : Int) (i13 : Int) : Unit → Option (Br Unit Bool)
  | () =>
  ((gat a0 i13).bind fun x19 =>
    (gat a0 a1).bind fun x20 =>
    (ref26_same x19 x20).bind fun r21 =>
    (if (!r21) then (ref26_Apart x19 x20).bind fun r23 =>
    (if (!r23) then some (Sum.inr (Br.ret false)) else some (.inl ())) else (ref09_Covers x19 x20).bind fun r25 =>
    (if r25 then some (Sum.inr (Br.ret true)) else some (.inl ())))).bind fun q27 => match q27 with
    | .inr r => some r
    | .inl () =>
    some (.next ())

def ref26_Idle (a0 : (List api_Row)) (a1 : Int) : Option Bool :=
  (if ((decide (a1 < 0)) || (decide (a1 ≥ (a0.length : Int)))) then some false else (forR (ref26_Idle_b1 a0 a1) (irange 0 a1) ()).bind fun q30 => match q30 with
    | .ret r => some r
    | .done () =>
    (forR (ref26_Idle_b2 a0 a1) (irange (IntKind.i64.wrap (a1 + 1)) (a0.length : Int)) ()).bind fun q28 => match q28 with
    | .ret r => some r
    | .done () =>
    some false)

/- pointsman/pointsmanref26.Slim -/
def ref26_Slim_b1 (a0 : (List api_Row)) (self : (List api_Row) → Option (List api_Row)) (i1 : Int) : Unit → Option (Br Unit (List api_Row))
  | () =>
  (ref26_Idle a0 i1).bind fun r7 =>
    (if r7 then (gcut a0 0 i1).bind fun l9 =>
    (gapp [] l9).bind fun l10 =>
    (gcut a0 (IntKind.i64.wrap (i1 + 1)) (a0.length : Int)).bind fun l11 =>
    (gapp l10 l11).bind fun l12 =>
    (self l12).bind fun r13 =>
    some (Br.ret r13) else some (.next ()))

def ref26_Slim_s (self : (List api_Row) → Option (List api_Row)) (a0 : (List api_Row)) : Option (List api_Row) :=
  (forR (ref26_Slim_b1 a0 self) (drange (IntKind.i64.wrap ((a0.length : Int) - 1)) (-1)) ()).bind fun q14 => match q14 with
    | .ret r => some r
    | .done () =>
    some a0

def ref26_Slim_f : Nat → (List api_Row) → Option (List api_Row)
  | 0 => fun _ => none
  | k + 1 => ref26_Slim_s (ref26_Slim_f k)

def ref26_Slim (a0 : (List api_Row)) : Option (List api_Row) := ref26_Slim_f FUEL a0

/- pointsman/pointsmanlaw26.SlimTells -/
def law26_SlimTells_b1 (a0 : (List api_Row)) : Int → Option (Br Int Bool)
  | i10 =>
  (if decide (i10 ≤ (a0.length : Int)) then (slim_Idle a0 i10).bind fun r13 =>
    (ref26_Idle a0 i10).bind fun r14 =>
    (if (!(r13 == r14)) then some (Br.ret false) else some (.next (IntKind.i64.wrap (i10 + 1)))) else some (.brk i10))

def law26_SlimTells_b3 (a0 : (List api_Row)) (x23 : api_Row) (i24 : Int) : Unit → Option (Br Unit (Br Unit Bool))
  | () =>
  (gat a0 i24).bind fun x30 =>
    (slim_Apart x23 x30).bind fun r31 =>
    (ref26_Apart x23 x30).bind fun r32 =>
    (if (!(r31 == r32)) then some (Br.ret (Br.ret false)) else some (.next ()))

def law26_SlimTells_b2 (a0 : (List api_Row)) (i17 : Int) : Unit → Option (Br Unit Bool)
  | () =>
  (gat a0 i17).bind fun x23 =>
    (forR (law26_SlimTells_b3 a0 x23) (irange 0 (a0.length : Int)) ()).bind fun q34 => match q34 with
    | .ret r => some r
    | .done () =>
    some (.next ())

def law26_SlimTells (a0 : (List api_Row)) : Option Bool :=
  (law26_awake).bind fun r1 =>
    (if (!r1) then some false else ((if decide ((a0.length : Int) > 14) then some true else (law09_Few a0).bind fun r4 =>
    (if (!r4) then some true else (ref09_Right a0).bind fun r6 =>
    some (!r6)))).bind fun y7 =>
    (if y7 then some true else (whR (law26_SlimTells_b1 a0) FUEL (-1)).bind fun q39 => match q39 with
    | .ret r => some r
    | .done z16 =>
    (forR (law26_SlimTells_b2 a0) (irange 0 (a0.length : Int)) ()).bind fun q38 => match q38 with
    | .ret r => some r
    | .done () =>
    (slim_Slim a0).bind fun r35 =>
    (ref26_Slim a0).bind fun r36 =>
    (ref09_Same r35 r36).bind fun r37 =>
    some r37))

/- pointsman/pointsmanref01.Has -/
def ref01_Has_b1 (a0 : (A8 Int)) (a1 : (List api_Pair)) (i1 : Int) : Unit → Option (Br Unit Bool)
  | () =>
  (gat a1 i1).bind fun x7 =>
    ((if decide (x7.F < 0) then some true else (if decide (x7.F > 7) then some true else (a0.get x7.F).bind fun x10 =>
    some (x10 != x7.N)))).bind fun y11 =>
    (if y11 then some (Br.ret false) else some (.next ()))

def ref01_Has (a0 : (A8 Int)) (a1 : (List api_Pair)) : Option Bool :=
  (forR (ref01_Has_b1 a0 a1) (irange 0 (a1.length : Int)) ()).bind fun q14 => match q14 with
    | .ret r => some r
    | .done () =>
    some true

/- pointsman/pointsmanref01.With -/
def ref01_With (a0 : (A8 Int)) (a1 : Int) (a2 : Int) : Option (A8 Int) :=
  ((if ((decide (a1 ≥ 0)) && (decide (a1 < 8))) then (a0.get a1).bind fun x3 =>
    (a0.put a1 a2).bind fun x4 =>
    some x4 else some a0)).bind fun y5 =>
    some y5

/- pointsman/pointsmanref01.Do -/
def ref01_Do_b1 (a1 : (List api_Pair)) (i1 : Int) : (A8 Int) → Option (A8 Int)
  | y2 =>
  (gat a1 i1).bind fun x8 =>
    (ref01_With y2 x8.F x8.N).bind fun r9 =>
    some r9

def ref01_Do (a0 : (A8 Int)) (a1 : (List api_Pair)) : Option (A8 Int) :=
  (forO (ref01_Do_b1 a1) (irange 0 (a1.length : Int)) a0).bind fun z10 =>
    some z10

/- pointsman/pointsmanref01.Compare -/
def ref01_Compare_b1 (a0 : (A8 Int)) (a1 : (A8 Int)) (i1 : Int) : Unit → Option (Br Unit Int)
  | () =>
  (a0.get i1).bind fun x7 =>
    (a1.get i1).bind fun x8 =>
    (if decide (x7 < x8) then some (Br.ret (-1)) else (if decide (x7 > x8) then some (Br.ret 1) else some (.next ())))

def ref01_Compare (a0 : (A8 Int)) (a1 : (A8 Int)) : Option Int :=
  (forR (ref01_Compare_b1 a0 a1) (irange 0 8) ()).bind fun q11 => match q11 with
    | .ret r => some r
    | .done () =>
    some 0

/- pointsman/pointsmanref01.Add -/
def ref01_Add_b1 (a0 : (List (A8 Int))) (a1 : (A8 Int)) (i3 : Int) : ((List (A8 Int)) × Bool) → Option ((List (A8 Int)) × Bool)
  | (l1, y2) =>
  ((gat a0 i3).bind fun x9 =>
    (ref01_Compare a1 x9).bind fun r10 =>
    ((if ((!y2) && (decide (r10 ≤ 0))) then (gapp l1 ([a1] : List (A8 Int))).bind fun l13 =>
    some (l13, true) else some (l1, y2))).bind fun (l14, y15) =>
    (if (r10 != 0) then (gapp l14 ([x9] : List (A8 Int))).bind fun l18 =>
    some (l18, y15) else some (l14, y15))).bind fun (l19, y20) =>
    some (l19, y20)

def ref01_Add (a0 : (List (A8 Int))) (a1 : (A8 Int)) : Option (List (A8 Int)) :=
  (forO (ref01_Add_b1 a0 a1) (irange 0 (a0.length : Int)) (([] : List (A8 Int)), false)).bind fun (z22, z23) =>
    ((if (!z23) then (gapp z22 ([a1] : List (A8 Int))).bind fun l25 =>
    some l25 else some z22)).bind fun l26 =>
    some l26

/- pointsman/pointsmanref08.Rows -/
def ref08_Rows_b2 (a1 : (A8 Int)) (x7 : api_Row) (i11 : Int) : (List (A8 Int)) → Option (List (A8 Int))
  | y10 =>
  (gat x7.Acts i11).bind fun x17 =>
    (ref01_Do a1 x17).bind fun r18 =>
    (ref01_Add y10 r18).bind fun r19 =>
    some r19

def ref08_Rows_b1 (a0 : (List api_Row)) (a1 : (A8 Int)) (i1 : Int) : Unit → Option (Br Unit ((List (A8 Int)) × Bool))
  | () =>
  (gat a0 i1).bind fun x7 =>
    (ref01_Has a1 x7.Match).bind fun r8 =>
    (if r8 then (forO (ref08_Rows_b2 a1 x7) (irange 0 (x7.Acts.length : Int)) ([] : List (A8 Int))).bind fun z20 =>
    some (Br.ret (z20, true)) else some (.next ()))

def ref08_Rows (a0 : (List api_Row)) (a1 : (A8 Int)) : Option ((List (A8 Int)) × Bool) :=
  (forR (ref08_Rows_b1 a0 a1) (irange 0 (a0.length : Int)) ()).bind fun q22 => match q22 with
    | .ret r => some r
    | .done () =>
    some (([] : List (A8 Int)), false)

/- pointsman/pointsmanref09.Lookup -/
def ref09_Lookup_b1 (a0 : (List api_Row)) (a1 : (A8 Int)) (i1 : Int) : Unit → Option (Br Unit ((List (A8 Int)) × Int))
  | () =>
  (gat a0 i1).bind fun x7 =>
    (ref01_Has a1 x7.Match).bind fun r8 =>
    (if r8 then (gcut a0 i1 (i1 + 1)).bind fun l10 =>
    (ref08_Rows l10 a1).bind fun r11 =>
    some (Br.ret (r11.1, i1)) else some (.next ()))

def ref09_Lookup (a0 : (List api_Row)) (a1 : (A8 Int)) : Option ((List (A8 Int)) × Int) :=
  (forR (ref09_Lookup_b1 a0 a1) (irange 0 (a0.length : Int)) ()).bind fun q12 => match q12 with
    | .ret r => some r
    | .done () =>
    some (([] : List (A8 Int)), (-1))

/- pointsman/pointsmanref01.Same -/
def ref01_Same_b1 (a0 : (List (A8 Int))) (a1 : (List (A8 Int))) (i2 : Int) : Unit → Option (Br Unit Bool)
  | () =>
  (gat a0 i2).bind fun x8 =>
    (gat a1 i2).bind fun x9 =>
    (if (!(x8 == x9)) then some (Br.ret false) else some (.next ()))

def ref01_Same (a0 : (List (A8 Int))) (a1 : (List (A8 Int))) : Option Bool :=
  (if ((a0.length : Int) != (a1.length : Int)) then some false else (forR (ref01_Same_b1 a0 a1) (irange 0 (a0.length : Int)) ()).bind fun q11 => match q11 with
    | .ret r => some r
    | .done () =>
    some true)

/- pointsman/pointsmanlaw26.SlimKeeps -/
def law26_SlimKeeps_b1 (a0 : (List api_Row)) (r12 : (List api_Row)) (i22 : Int) : Int → Option Int
  | i21 =>
  ((gat a0 i22).bind fun x28 =>
    ((if decide (i21 < (r12.length : Int)) then (gcut r12 i21 (IntKind.i64.wrap (i21 + 1))).bind fun l30 =>
    (ref09_Same ([x28] : List api_Row) l30).bind fun r31 =>
    some r31 else some false)).bind fun y32 =>
    (if y32 then some (IntKind.i64.wrap (i21 + 1)) else some i21)).bind fun y35 =>
    some y35

def law26_SlimKeeps_b2 (r12 : (List api_Row)) (i39 : Int) : Unit → Option (Br Unit Bool)
  | () =>
  (slim_Idle r12 i39).bind fun r45 =>
    (if r45 then some (Br.ret false) else some (.next ()))

def law26_SlimKeeps_b3 (a0 : (List api_Row)) (a1 : (List (A8 Int))) (r12 : (List api_Row)) (i47 : Int) : Unit → Option (Br Unit Bool)
  | () =>
  (gat a1 i47).bind fun x53 =>
    (ref09_Lookup a0 x53).bind fun r54 =>
    (ref09_Lookup r12 x53).bind fun r55 =>
    (ref01_Same r54.1 r55.1).bind fun r56 =>
    (if (!r56) then some (Br.ret false) else some (.next ()))

def law26_SlimKeeps (a0 : (List api_Row)) (a1 : (List (A8 Int))) : Option Bool :=
  (law26_awake).bind fun r1 =>
    (if (!r1) then some false else ((if decide ((a0.length : Int) > 14) then some true else (if decide ((a1.length : Int) > 20) then some true else (law09_Few a0).bind fun r5 =>
    (if (!r5) then some true else (ref09_Right a0).bind fun r7 =>
    some (!r7))))).bind fun y8 =>
    (if y8 then some true else (gapp ([] : List api_Row) a0).bind fun l11 =>
    (slim_Slim a0).bind fun r12 =>
    (ref09_Same l11 a0).bind fun r13 =>
    ((if (!r13) then some true else (if decide ((r12.length : Int) > (a0.length : Int)) then some true else (slim_Slim r12).bind fun r16 =>
    (ref09_Same r16 r12).bind fun r17 =>
    some (!r17)))).bind fun y18 =>
    (if y18 then some false else (forO (law26_SlimKeeps_b1 a0 r12) (irange 0 (a0.length : Int)) 0).bind fun z37 =>
    (if (z37 != (r12.length : Int)) then some false else (forR (law26_SlimKeeps_b2 r12) (irange 0 (r12.length : Int)) ()).bind fun q59 => match q59 with
    | .ret r => some r
    | .done () =>
    (forR (law26_SlimKeeps_b3 a0 a1 r12) (irange 0 (a1.length : Int)) ()).bind fun q58 => match q58 with
    | .ret r => some r
    | .done () =>
    some true))))

end Go.AM
