import Derived.Test.YtfjelgjfbjjopaaAmPre
/-  The program's functions, told outright. -/
set_option linter.unusedVariables false
namespace Go.AM
open Go

structure api_Pair where
  F : Int
  N : Int
  deriving DecidableEq, Inhabited

structure api_Row where
  Match : (List api_Pair)
  Acts : (List (List api_Pair))
  deriving DecidableEq, Inhabited

structure api_Table where
  Which : (List Int)
  Lists : (List (List api_Row))
  deriving DecidableEq, Inhabited

structure api_Edit where
  At : Int
  Out : Bool
  Row : api_Row
  deriving DecidableEq, Inhabited

structure api_Port where
  Sw : Int
  Pt : Int
  deriving DecidableEq, Inhabited

structure api_Topo where
  Switches : (List Int)
  Links : (List (A2 api_Port))
  Hosts : (List api_Port)
  deriving DecidableEq, Inhabited

structure update_grid where
  a : (List Int)
  b : (List Int)
  best : (List (List Int))
  deriving DecidableEq, Inhabited

/- slices.EqualFunc[[]pointsman/api.Row,[]pointsman/api.Row,pointsman/api.Row,pointsman/api.Row] -/
def slices_EqualFunc_api_Row_b1 (a0 : (List api_Row)) (a1 : (List api_Row)) (a2 : (api_Row → api_Row → Option Bool)) (i2 : Int) : Unit → Option (Br Unit Bool)
  | () =>
  (gat a0 i2).bind fun x8 =>
    (gat a1 i2).bind fun x9 =>
    (a2 x8 x9).bind fun x10 =>
    (if (!x10) then some (Br.ret false) else some (.next ()))

def slices_EqualFunc_api_Row (a0 : (List api_Row)) (a1 : (List api_Row)) (a2 : api_Row → api_Row → Option Bool) : Option Bool :=
  (if ((a0.length : Int) != (a1.length : Int)) then some false else (forR (slices_EqualFunc_api_Row_b1 a0 a1 a2) (irange 0 (a0.length : Int)) ()).bind fun q12 => match q12 with
    | .ret r => some r
    | .done () =>
    some true)

/- slices.Equal[[]pointsman/api.Pair,pointsman/api.Pair] -/
def slices_Equal_api_Pair_b1 (a0 : (List api_Pair)) (a1 : (List api_Pair)) (i2 : Int) : Unit → Option (Br Unit Bool)
  | () =>
  (gat a0 i2).bind fun x8 =>
    (gat a1 i2).bind fun x9 =>
    (if (!(x8 == x9)) then some (Br.ret false) else some (.next ()))

def slices_Equal_api_Pair (a0 : (List api_Pair)) (a1 : (List api_Pair)) : Option Bool :=
  (if ((a0.length : Int) != (a1.length : Int)) then some false else (forR (slices_Equal_api_Pair_b1 a0 a1) (irange 0 (a0.length : Int)) ()).bind fun q11 => match q11 with
    | .ret r => some r
    | .done () =>
    some true)

/- slices.EqualFunc[[]pointsman/api.Act,[]pointsman/api.Act,pointsman/api.Act,pointsman/api.Act] -/
def slices_EqualFunc_api_Act_b1 (a0 : (List (List api_Pair))) (a1 : (List (List api_Pair))) (a2 : ((List api_Pair) → (List api_Pair) → Option Bool)) (i2 : Int) : Unit → Option (Br Unit Bool)
  | () =>
  (gat a0 i2).bind fun x8 =>
    (gat a1 i2).bind fun x9 =>
    (a2 x8 x9).bind fun x10 =>
    (if (!x10) then some (Br.ret false) else some (.next ()))

def slices_EqualFunc_api_Act (a0 : (List (List api_Pair))) (a1 : (List (List api_Pair))) (a2 : (List api_Pair) → (List api_Pair) → Option Bool) : Option Bool :=
  (if ((a0.length : Int) != (a1.length : Int)) then some false else (forR (slices_EqualFunc_api_Act_b1 a0 a1 a2) (irange 0 (a0.length : Int)) ()).bind fun q12 => match q12 with
    | .ret r => some r
    | .done () =>
    some true)

/- slices.Equal[pointsman/api.Act,pointsman/api.Pair] -/
def slices_Equal_api_Pair_78_b1 (a0 : (List api_Pair)) (a1 : (List api_Pair)) (i2 : Int) : Unit → Option (Br Unit Bool)
  | () =>
  (gat a0 i2).bind fun x8 =>
    (gat a1 i2).bind fun x9 =>
    (if (!(x8 == x9)) then some (Br.ret false) else some (.next ()))

def slices_Equal_api_Pair_78 (a0 : (List api_Pair)) (a1 : (List api_Pair)) : Option Bool :=
  (if ((a0.length : Int) != (a1.length : Int)) then some false else (forR (slices_Equal_api_Pair_78_b1 a0 a1) (irange 0 (a0.length : Int)) ()).bind fun q11 => match q11 with
    | .ret r => some r
    | .done () =>
    some true)

/- pointsman/table.Same$1 -/
def table_Same_1 (a0 : api_Row) (a1 : api_Row) : Option Bool :=
  (slices_Equal_api_Pair a0.Match a1.Match).bind fun r1 =>
    ((if r1 then (slices_EqualFunc_api_Act a0.Acts a1.Acts (fun y0 y1 => slices_Equal_api_Pair_78 y0 y1)).bind fun r3 =>
    some r3 else some false)).bind fun y4 =>
    some y4

/- pointsman/table.Same -/
def table_Same (a0 : (List api_Row)) (a1 : (List api_Row)) : Option Bool :=
  (slices_EqualFunc_api_Row a0 a1 (fun y0 y1 => table_Same_1 y0 y1)).bind fun r1 =>
    some r1

/- pointsman/merge.Of$1 -/
def merge_Of_1 (a0 : (List api_Row)) (a1 : (List api_Row)) : Option Bool :=
  (table_Same a1 a0).bind fun r1 =>
    some r1

/- slices.IndexFunc[[][]pointsman/api.Row,[]pointsman/api.Row] -/
def slices_IndexFunc_Lapi_Row_b1 (a0 : (List (List api_Row))) (a1 : ((List api_Row) → Option Bool)) (i1 : Int) : Unit → Option (Br Unit Int)
  | () =>
  (gat a0 i1).bind fun x7 =>
    (a1 x7).bind fun x8 =>
    (if x8 then some (Br.ret i1) else some (.next ()))

def slices_IndexFunc_Lapi_Row (a0 : (List (List api_Row))) (a1 : (List api_Row) → Option Bool) : Option Int :=
  (forR (slices_IndexFunc_Lapi_Row_b1 a0 a1) (irange 0 (a0.length : Int)) ()).bind fun q10 => match q10 with
    | .ret r => some r
    | .done () =>
    some (-1)

/- pointsman/merge.Rows -/
def merge_Rows_b1 (a0 : api_Table) (i2 : Int) : Int → Option Int
  | i1 =>
  (gat a0.Lists i2).bind fun x8 =>
    some (IntKind.i64.wrap (i1 + (x8.length : Int)))

def merge_Rows (a0 : api_Table) : Option Int :=
  (forO (merge_Rows_b1 a0) (irange 0 (a0.Lists.length : Int)) 0).bind fun z9 =>
    some z9

/- slices.ContainsFunc[[][]pointsman/api.Row,[]pointsman/api.Row] -/
def slices_ContainsFunc_Lapi_Row (a0 : (List (List api_Row))) (a1 : (List api_Row) → Option Bool) : Option Bool :=
  (slices_IndexFunc_Lapi_Row a0 a1).bind fun r1 =>
    some (decide (r1 ≥ 0))

/- pointsman/table.rising -/
def table_rising_b1 (a0 : (List api_Pair)) (i1 : Int) : Unit → Option (Br Unit Bool)
  | () =>
  (gat a0 i1).bind fun x7 =>
    ((if decide (x7.F < 0) then some true else (if decide (x7.F ≥ 8) then some true else (if decide (i1 > 0) then (gat a0 (IntKind.i64.wrap (i1 - 1))).bind fun x11 =>
    some (decide (x11.F ≥ x7.F)) else some false)))).bind fun y12 =>
    (if y12 then some (Br.ret false) else some (.next ()))

def table_rising (a0 : (List api_Pair)) : Option Bool :=
  (forR (table_rising_b1 a0) (irange 0 (a0.length : Int)) ()).bind fun q15 => match q15 with
    | .ret r => some r
    | .done () =>
    some true

/- slices.IndexFunc[[]pointsman/api.Act,pointsman/api.Act] -/
def slices_IndexFunc_api_Act_b1 (a0 : (List (List api_Pair))) (a1 : ((List api_Pair) → Option Bool)) (i1 : Int) : Unit → Option (Br Unit Int)
  | () =>
  (gat a0 i1).bind fun x7 =>
    (a1 x7).bind fun x8 =>
    (if x8 then some (Br.ret i1) else some (.next ()))

def slices_IndexFunc_api_Act (a0 : (List (List api_Pair))) (a1 : (List api_Pair) → Option Bool) : Option Int :=
  (forR (slices_IndexFunc_api_Act_b1 a0 a1) (irange 0 (a0.length : Int)) ()).bind fun q10 => match q10 with
    | .ret r => some r
    | .done () =>
    some (-1)

/- slices.ContainsFunc[[]pointsman/api.Act,pointsman/api.Act] -/
def slices_ContainsFunc_api_Act (a0 : (List (List api_Pair))) (a1 : (List api_Pair) → Option Bool) : Option Bool :=
  (slices_IndexFunc_api_Act a0 a1).bind fun r1 =>
    some (decide (r1 ≥ 0))

/- pointsman/table.Right$1$1 -/
def table_Right_1_1 (a0 : (List api_Pair)) : Option Bool :=
  (table_rising a0).bind fun r1 =>
    some (!r1)

/- pointsman/table.Right$1 -/
def table_Right_1 (a0 : api_Row) : Option Bool :=
  (table_rising a0.Match).bind fun r1 =>
    ((if (!r1) then some true else (if decide ((a0.Acts.length : Int) > 32) then some true else (slices_ContainsFunc_api_Act a0.Acts (fun y0 => table_Right_1_1 y0)).bind fun r4 =>
    some r4))).bind fun y5 =>
    some y5

/- slices.IndexFunc[[]pointsman/api.Row,pointsman/api.Row] -/
def slices_IndexFunc_api_Row_b1 (a0 : (List api_Row)) (a1 : (api_Row → Option Bool)) (i1 : Int) : Unit → Option (Br Unit Int)
  | () =>
  (gat a0 i1).bind fun x7 =>
    (a1 x7).bind fun x8 =>
    (if x8 then some (Br.ret i1) else some (.next ()))

def slices_IndexFunc_api_Row (a0 : (List api_Row)) (a1 : api_Row → Option Bool) : Option Int :=
  (forR (slices_IndexFunc_api_Row_b1 a0 a1) (irange 0 (a0.length : Int)) ()).bind fun q10 => match q10 with
    | .ret r => some r
    | .done () =>
    some (-1)

/- slices.ContainsFunc[[]pointsman/api.Row,pointsman/api.Row] -/
def slices_ContainsFunc_api_Row (a0 : (List api_Row)) (a1 : api_Row → Option Bool) : Option Bool :=
  (slices_IndexFunc_api_Row a0 a1).bind fun r1 =>
    some (decide (r1 ≥ 0))

/- pointsman/table.Right -/
def table_Right (a0 : (List api_Row)) : Option Bool :=
  ((if decide ((a0.length : Int) ≤ 1000) then (slices_ContainsFunc_api_Row a0 (fun y0 => table_Right_1 y0)).bind fun r2 =>
    some (!r2) else some false)).bind fun y3 =>
    some y3

/- pointsman/merge.Of$2 -/
def merge_Of_2 (a0 : (List api_Row)) : Option Bool :=
  (table_Right a0).bind fun r1 =>
    some (!r1)

/- pointsman/merge.Of -/
def merge_Of_b1 (a0 : (List (List api_Row))) (i3 : Int) : ((List Int) × (List (List api_Row))) → Option ((List Int) × (List (List api_Row)))
  | (l1, l2) =>
  (gat a0 i3).bind fun x9 =>
    (slices_IndexFunc_Lapi_Row l2 (fun y0 => merge_Of_1 y0 x9)).bind fun r10 =>
    ((if decide (r10 < 0) then (gapp l2 ([x9] : List (List api_Row))).bind fun l12 =>
    some (l12, (l2.length : Int)) else some (l2, r10))).bind fun (l13, y14) =>
    (gapp l1 ([y14] : List Int)).bind fun l16 =>
    some (l16, l13)

def merge_Of (a0 : (List (List api_Row))) : Option (api_Table × Int) :=
  (forO (merge_Of_b1 a0) (irange 0 (a0.length : Int)) (([] : List Int), ([] : List (List api_Row)))).bind fun (z17, z18) =>
    (merge_Rows (api_Table.mk z17 z18)).bind fun r19 =>
    (if decide (r19 > 1000) then some ((api_Table.mk [] []), 24) else ((if decide ((a0.length : Int) > 256) then some true else (slices_ContainsFunc_Lapi_Row z18 (fun y0 => merge_Of_2 y0)).bind fun r22 =>
    some r22)).bind fun y23 =>
    (if y23 then some ((api_Table.mk [] []), 1) else some ((api_Table.mk z17 z18), 0)))

/- pointsman/merge.list -/
def merge_list (a0 : api_Table) (a1 : Int) : Option ((List api_Row) × Bool) :=
  (if decide ((IntKind.i64.wrap a1) ≥ (a0.Which.length : Int)) then some (([] : List api_Row), false) else (gat a0.Which a1).bind fun x2 =>
    (if ((decide (x2 < 0)) || (decide (x2 ≥ (a0.Lists.length : Int)))) then some (([] : List api_Row), false) else (gat a0.Lists x2).bind fun x5 =>
    some (x5, true)))

/- pointsman/packet.is -/
def packet_is (a0 : Int) : Option Bool :=
  some ((decide (a0 ≥ 0)) && (decide (a0 < 8)))

/- pointsman/packet.Has$1 -/
def packet_Has_1 (a0 : api_Pair) (a1 : (A8 Int)) : Option Bool :=
  (packet_is a0.F).bind fun r1 =>
    ((if (!r1) then some true else (a1.get a0.F).bind fun x3 =>
    some (x3 != a0.N))).bind fun y4 =>
    some y4

/- slices.IndexFunc[[]pointsman/api.Pair,pointsman/api.Pair] -/
def slices_IndexFunc_api_Pair_b1 (a0 : (List api_Pair)) (a1 : (api_Pair → Option Bool)) (i1 : Int) : Unit → Option (Br Unit Int)
  | () =>
  (gat a0 i1).bind fun x7 =>
    (a1 x7).bind fun x8 =>
    (if x8 then some (Br.ret i1) else some (.next ()))

def slices_IndexFunc_api_Pair (a0 : (List api_Pair)) (a1 : api_Pair → Option Bool) : Option Int :=
  (forR (slices_IndexFunc_api_Pair_b1 a0 a1) (irange 0 (a0.length : Int)) ()).bind fun q10 => match q10 with
    | .ret r => some r
    | .done () =>
    some (-1)

/- slices.ContainsFunc[[]pointsman/api.Pair,pointsman/api.Pair] -/
def slices_ContainsFunc_api_Pair (a0 : (List api_Pair)) (a1 : api_Pair → Option Bool) : Option Bool :=
  (slices_IndexFunc_api_Pair a0 a1).bind fun r1 =>
    some (decide (r1 ≥ 0))

/- pointsman/packet.Has -/
def packet_Has (a0 : (A8 Int)) (a1 : (List api_Pair)) : Option Bool :=
  (slices_ContainsFunc_api_Pair a1 (fun y0 => packet_Has_1 y0 a0)).bind fun r1 =>
    some (!r1)

/- pointsman/table.Lookup$1 -/
def table_Lookup_1 (a0 : api_Row) (a1 : (A8 Int)) : Option Bool :=
  (packet_Has a1 a0.Match).bind fun r1 =>
    some r1

/- pointsman/packet.With -/
def packet_With (a0 : (A8 Int)) (a1 : Int) (a2 : Int) : Option (A8 Int) :=
  ((packet_is a1).bind fun r1 =>
    (if r1 then (a0.get a1).bind fun x3 =>
    (a0.put a1 a2).bind fun x4 =>
    some x4 else some a0)).bind fun y5 =>
    some y5

/- pointsman/packet.Do -/
def packet_Do_b1 (a1 : (List api_Pair)) (i1 : Int) : (A8 Int) → Option (A8 Int)
  | y2 =>
  (gat a1 i1).bind fun x8 =>
    (packet_With y2 x8.F x8.N).bind fun r9 =>
    some r9

def packet_Do (a0 : (A8 Int)) (a1 : (List api_Pair)) : Option (A8 Int) :=
  (forO (packet_Do_b1 a1) (irange 0 (a1.length : Int)) a0).bind fun z10 =>
    some z10

/- slices.Clone[[]pointsman/api.Packet,pointsman/api.Packet] -/
def slices_Clone_api_Packet (a0 : List (A8 Int)) : Option (List (A8 Int)) :=
  (gapp ([] : List (A8 Int)) a0).bind fun l1 => some l1

/- math/bits.Len32 -/
/- math/bits.Len64 -/
def math_bits_Len64 (a0 : Int) : Option Int :=
  ((if decide (a0 ≥ 4294967296) then some ((a0.fdiv (2 ^ 32)), 32) else some (a0, 0))).bind fun (y2, y3) =>
    ((if decide (y2 ≥ 65536) then some ((y2.fdiv (2 ^ 16)), IntKind.i64.wrap (y3 + 16)) else some (y2, y3))).bind fun (y6, y7) =>
    ((if decide (y6 ≥ 256) then some ((y6.fdiv (2 ^ 8)), IntKind.i64.wrap (y7 + 8)) else some (y6, y7))).bind fun (y10, y11) =>
    (bat (⟨#[0, 1, 2, 2, 3, 3, 3, 3, 4, 4, 4, 4, 4, 4, 4, 4, 5, 5, 5, 5, 5, 5, 5, 5, 5, 5, 5, 5, 5, 5, 5, 5, 6, 6, 6, 6, 6, 6, 6, 6, 6, 6, 6, 6, 6, 6, 6, 6, 6, 6, 6, 6, 6, 6, 6, 6, 6, 6, 6, 6, 6, 6, 6, 6, 7, 7, 7, 7, 7, 7, 7, 7, 7, 7, 7, 7, 7, 7, 7, 7, 7, 7, 7, 7, 7, 7, 7, 7, 7, 7, 7, 7, 7, 7, 7, 7, 7, 7, 7, 7, 7, 7, 7, 7, 7, 7, 7, 7, 7, 7, 7, 7, 7, 7, 7, 7, 7, 7, 7, 7, 7, 7, 7, 7, 7, 7, 7, 7, 8, 8, 8, 8, 8, 8, 8, 8, 8, 8, 8, 8, 8, 8, 8, 8, 8, 8, 8, 8, 8, 8, 8, 8, 8, 8, 8, 8, 8, 8, 8, 8, 8, 8, 8, 8, 8, 8, 8, 8, 8, 8, 8, 8, 8, 8, 8, 8, 8, 8, 8, 8, 8, 8, 8, 8, 8, 8, 8, 8, 8, 8, 8, 8, 8, 8, 8, 8, 8, 8, 8, 8, 8, 8, 8, 8, 8, 8, 8, 8, 8, 8, 8, 8, 8, 8, 8, 8, 8, 8, 8, 8, 8, 8, 8, 8, 8, 8, 8, 8, 8, 8, 8, 8, 8, 8, 8, 8, 8, 8, 8, 8, 8, 8, 8, 8, 8, 8, 8, 8, 8, 8, 8, 8, 8, 8, 8, 8]⟩ : ByteArray) (IntKind.u8.wrap y10)).bind fun b13 =>
    some (IntKind.i64.wrap (y11 + (IntKind.i64.wrap b13)))

/- math/bits.Len -/
def math_bits_Len (a0 : Int) : Option Int :=
  (math_bits_Len64 a0).bind fun r1 =>
    some r1

/- slices.insertionSortCmpFunc[pointsman/api.Packet] -/
def slices_insertionSortCmpFunc_api_Packet_b2 (a1 : Int) (a3 : ((A8 Int) → (A8 Int) → Option Int)) : ((List (A8 Int)) × Int) → Option (((List (A8 Int)) × Int) ⊕ ((List (A8 Int)) × Int))
  | (l8, i9) =>
  ((if decide (i9 > a1) then (gat l8 i9).bind fun x12 =>
    (gat l8 (IntKind.i64.wrap (i9 - 1))).bind fun x13 =>
    (a3 x12 x13).bind fun x14 =>
    some (decide (x14 < 0)) else some false)).bind fun y15 =>
    (if y15 then (gat l8 (IntKind.i64.wrap (i9 - 1))).bind fun x18 =>
    (gat l8 i9).bind fun x19 =>
    (gput l8 i9 x18).bind fun l20 =>
    (gat l20 (IntKind.i64.wrap (i9 - 1))).bind fun x21 =>
    (gput l20 (IntKind.i64.wrap (i9 - 1)) x19).bind fun l22 =>
    some (.inl (l22, IntKind.i64.wrap (i9 - 1))) else some (.inr (l8, i9)))

def slices_insertionSortCmpFunc_api_Packet_b1 (a1 : Int) (a3 : ((A8 Int) → (A8 Int) → Option Int)) (i2 : Int) : (List (A8 Int)) → Option (List (A8 Int))
  | l1 =>
  (whK (slices_insertionSortCmpFunc_api_Packet_b2 a1 a3) FUEL (l1, i2)).bind fun (z23, z24) =>
    some z23

def slices_insertionSortCmpFunc_api_Packet (a0 : (List (A8 Int))) (a1 : Int) (a2 : Int) (a3 : ((A8 Int) → (A8 Int) → Option Int)) : Option (List (A8 Int)) :=
  (forO (slices_insertionSortCmpFunc_api_Packet_b1 a1 a3) (irange (IntKind.i64.wrap (a1 + 1)) a2) a0).bind fun z26 =>
    some z26

/- slices.pdqsortCmpFunc[pointsman/api.Packet] -/
def slices_pdqsortCmpFunc_api_Packet_b1 (a0 : (List (A8 Int))) (a1 : Int) (a2 : Int) (a3 : Int) (a4 : ((A8 Int) → (A8 Int) → Option Int)) : Unit → Option (Br Unit (List (A8 Int)))
  | () =>
  (if decide ((IntKind.i64.wrap (a2 - a1)) ≤ 12) then (slices_insertionSortCmpFunc_api_Packet a0 a1 a2 a4).bind fun r3 =>
    some (Br.ret r3) else (if (a3 == 0) then none else ((if (!true) then none else some ())).bind fun _ =>
    none))

def slices_pdqsortCmpFunc_api_Packet (a0 : (List (A8 Int))) (a1 : Int) (a2 : Int) (a3 : Int) (a4 : ((A8 Int) → (A8 Int) → Option Int)) : Option (List (A8 Int)) :=
  (whR (slices_pdqsortCmpFunc_api_Packet_b1 a0 a1 a2 a3 a4) FUEL ()).bind fun q7 => match q7 with
    | .ret r => some r
    | .done () =>
    some a0

/- slices.SortFunc[[]pointsman/api.Packet,pointsman/api.Packet] -/
def slices_SortFunc_api_Packet (a0 : (List (A8 Int))) (a1 : ((A8 Int) → (A8 Int) → Option Int)) : Option (List (A8 Int)) :=
  (math_bits_Len (IntKind.u64.wrap (a0.length : Int))).bind fun r1 =>
    (slices_pdqsortCmpFunc_api_Packet a0 0 (a0.length : Int) r1 a1).bind fun r2 =>
    some r2

/- cmp.isNaN[uint16] -/
def cmp_isNaN_uint16 (a0 : Int) : Option Bool :=
  some (a0 != a0)

/- cmp.Compare[uint16] -/
def cmp_Compare_uint16 (a0 : Int) (a1 : Int) : Option Int :=
  (cmp_isNaN_uint16 a0).bind fun r1 =>
    (cmp_isNaN_uint16 a1).bind fun r2 =>
    (if r1 then (if r2 then some 0 else some (-1)) else (if r2 then some 1 else (if decide (a0 < a1) then some (-1) else (if decide (a0 > a1) then some 1 else some 0))))

/- pointsman/packet.Compare -/
def packet_Compare_b1 (a0 : (A8 Int)) (a1 : (A8 Int)) (i1 : Int) : Unit → Option (Br Unit Int)
  | () =>
  (a0.get i1).bind fun x7 =>
    (a1.get i1).bind fun x8 =>
    (cmp_Compare_uint16 x7 x8).bind fun r9 =>
    (if (r9 != 0) then some (Br.ret r9) else some (.next ()))

def packet_Compare (a0 : (A8 Int)) (a1 : (A8 Int)) : Option Int :=
  (forR (packet_Compare_b1 a0 a1) (irange 0 8) ()).bind fun q11 => match q11 with
    | .ret r => some r
    | .done () =>
    some 0

/- slices.Compact[[]pointsman/api.Packet,pointsman/api.Packet] -/
def slices_Compact_api_Packet_b2 : Unit → Option (Unit ⊕ Unit)
  | () =>
  none

def slices_Compact_api_Packet_b1 (a0 : (List (A8 Int))) (i2 : Int) : Unit → Option (Br Unit (List (A8 Int)))
  | () =>
  (gat a0 i2).bind fun x8 =>
    (gat a0 (IntKind.i64.wrap (i2 - 1))).bind fun x9 =>
    (if (x8 == x9) then (gcut a0 i2 (a0.length : Int)).bind fun l11 =>
    (whK slices_Compact_api_Packet_b2 FUEL ()).bind fun _ =>
    some (Br.ret (a0.take i2.toNat)) else some (.next ()))

def slices_Compact_api_Packet (a0 : (List (A8 Int))) : Option (List (A8 Int)) :=
  (if decide ((a0.length : Int) < 2) then some a0 else (forR (slices_Compact_api_Packet_b1 a0) (irange 1 (a0.length : Int)) ()).bind fun q14 => match q14 with
    | .ret r => some r
    | .done () =>
    some a0)

/- pointsman/packet.Sort -/
def packet_Sort (a0 : (List (A8 Int))) : Option (List (A8 Int)) :=
  (slices_Clone_api_Packet a0).bind fun r1 =>
    (slices_SortFunc_api_Packet r1 (fun y0 y1 => packet_Compare y0 y1)).bind fun r2 =>
    (slices_Compact_api_Packet r2).bind fun r3 =>
    some r3

/- pointsman/table.made -/
def table_made_b1 (a0 : (List (List api_Pair))) (a1 : (A8 Int)) (i2 : Int) : (List (A8 Int)) → Option (List (A8 Int))
  | l1 =>
  (gat a0 i2).bind fun x8 =>
    (packet_Do a1 x8).bind fun r9 =>
    (gapp l1 ([r9] : List (A8 Int))).bind fun l10 =>
    some l10

def table_made (a0 : (List (List api_Pair))) (a1 : (A8 Int)) : Option (List (A8 Int)) :=
  (forO (table_made_b1 a0 a1) (irange 0 (a0.length : Int)) ([] : List (A8 Int))).bind fun z11 =>
    (packet_Sort z11).bind fun r12 =>
    some r12

/- pointsman/table.Lookup -/
def table_Lookup (a0 : (List api_Row)) (a1 : (A8 Int)) : Option ((List (A8 Int)) × Int) :=
  (slices_IndexFunc_api_Row a0 (fun y0 => table_Lookup_1 y0 a1)).bind fun r1 =>
    (if decide (r1 < 0) then some (([] : List (A8 Int)), (-1)) else (gat a0 r1).bind fun x3 =>
    (table_made x3.Acts a1).bind fun r4 =>
    some (r4, r1))

/- pointsman/merge.Lookup -/
def merge_Lookup (a0 : api_Table) (a1 : Int) (a2 : (A8 Int)) : Option ((List (A8 Int)) × Int) :=
  (merge_list a0 a1).bind fun r1 =>
    (if (!r1.2) then some (([] : List (A8 Int)), 31) else (table_Lookup r1.1 a2).bind fun r3 =>
    some (r3.1, 0))

/- slices.Equal[[]int,int] -/
def slices_Equal_int_b1 (a0 : (List Int)) (a1 : (List Int)) (i2 : Int) : Unit → Option (Br Unit Bool)
  | () =>
  (gat a0 i2).bind fun x8 =>
    (gat a1 i2).bind fun x9 =>
    (if (x8 != x9) then some (Br.ret false) else some (.next ()))

def slices_Equal_int (a0 : (List Int)) (a1 : (List Int)) : Option Bool :=
  (if ((a0.length : Int) != (a1.length : Int)) then some false else (forR (slices_Equal_int_b1 a0 a1) (irange 0 (a0.length : Int)) ()).bind fun q11 => match q11 with
    | .ret r => some r
    | .done () =>
    some true)

/- slices.EqualFunc[[][]pointsman/api.Row,[][]pointsman/api.Row,[]pointsman/api.Row,[]pointsman/api.Row] -/
def slices_EqualFunc_Lapi_Row_b1 (a0 : (List (List api_Row))) (a1 : (List (List api_Row))) (a2 : ((List api_Row) → (List api_Row) → Option Bool)) (i2 : Int) : Unit → Option (Br Unit Bool)
  | () =>
  (gat a0 i2).bind fun x8 =>
    (gat a1 i2).bind fun x9 =>
    (a2 x8 x9).bind fun x10 =>
    (if (!x10) then some (Br.ret false) else some (.next ()))

def slices_EqualFunc_Lapi_Row (a0 : (List (List api_Row))) (a1 : (List (List api_Row))) (a2 : (List api_Row) → (List api_Row) → Option Bool) : Option Bool :=
  (if ((a0.length : Int) != (a1.length : Int)) then some false else (forR (slices_EqualFunc_Lapi_Row_b1 a0 a1 a2) (irange 0 (a0.length : Int)) ()).bind fun q12 => match q12 with
    | .ret r => some r
    | .done () =>
    some true)

/- pointsman/merge.Right -/
def merge_Right_b1 (a0 : api_Table) (i2 : Int) : (List (List api_Row)) → Option (Br (List (List api_Row)) Bool)
  | l1 =>
  (merge_list a0 (IntKind.u16.wrap i2)).bind fun r8 =>
    (if ((!r8.2) || (decide (i2 > 256))) then some (Br.ret false) else (gapp l1 ([r8.1] : List (List api_Row))).bind fun l11 =>
    some (.next l11))

def merge_Right (a0 : api_Table) : Option Bool :=
  (forR (merge_Right_b1 a0) (irange 0 (a0.Which.length : Int)) ([] : List (List api_Row))).bind fun q20 => match q20 with
    | .ret r => some r
    | .done z12 =>
    (merge_Of z12).bind fun r13 =>
    ((if (r13.2 == 0) then (slices_Equal_int a0.Which r13.1.Which).bind fun r15 =>
    (if r15 then (slices_EqualFunc_Lapi_Row a0.Lists r13.1.Lists (fun y0 y1 => table_Same y0 y1)).bind fun r17 =>
    some r17 else some false) else some false)).bind fun y18 =>
    some y18

/- pointsman/pointsmanlaw10.awake -/
def law10_awake  : Option Bool :=
  (merge_Of ([([(api_Row.mk [] ([([(api_Pair.mk 1 2)] : List api_Pair)] : List (List api_Pair)))] : List api_Row), ([(api_Row.mk [] [])] : List api_Row), ([(api_Row.mk [] ([([(api_Pair.mk 1 2)] : List api_Pair)] : List (List api_Pair)))] : List api_Row)] : List (List api_Row))).bind fun r1 =>
    (merge_Lookup r1.1 2 (A8.mk 0 0 0 0 0 0 0 0)).bind fun r2 =>
    (merge_Lookup r1.1 3 (A8.mk 0 0 0 0 0 0 0 0)).bind fun r3 =>
    ((if (r1.2 == 0) then (if (r2.2 == 0) then (if (r3.2 == 31) then (if ((r1.1.Lists.length : Int) == 2) then (if ((r1.1.Which.length : Int) == 3) then (gat r1.1.Which 2).bind fun x9 =>
    (if (x9 == 0) then (if ((r2.1.length : Int) == 1) then (gat r2.1 0).bind fun x12 =>
    (if (x12.a1 == 2) then (merge_Rows r1.1).bind fun r14 =>
    (if (r14 == 2) then (merge_Right r1.1).bind fun r16 =>
    some r16 else some false) else some false) else some false) else some false) else some false) else some false) else some false) else some false) else some false)).bind fun y17 =>
    some y17

/- pointsman/pointsmanlaw10.MergeFull -/
def law10_MergeFull_b2 (a1 : Int) : ((List (List api_Row)) × (List api_Row) × Int) → Option (((List (List api_Row)) × (List api_Row) × Int) ⊕ ((List (List api_Row)) × (List api_Row) × Int))
  | (l13, y14, i15) =>
  (if decide (i15 < a1) then (gapp l13 ([y14] : List (List api_Row))).bind fun l18 =>
    some (.inl (l18, y14, IntKind.u8.wrap (i15 + 1))) else some (.inr (l13, y14, i15)))

def law10_MergeFull_b1 (a0 : Int) (a1 : Int) : ((List (List api_Row)) × Int) → Option (((List (List api_Row)) × Int) ⊕ ((List (List api_Row)) × Int))
  | (l6, i7) =>
  (if decide (i7 < a0) then (gmk 100 (api_Row.mk [] [])).bind fun l10 =>
    (gat l10 0).bind fun x11 =>
    (gput l10 0 (api_Row.mk ([(api_Pair.mk 2 (IntKind.u16.wrap i7))] : List api_Pair) x11.Acts)).bind fun l12 =>
    (whK (law10_MergeFull_b2 a1) FUEL (l6, l12, 0)).bind fun (z19, z20, z21) =>
    some (.inl (z19, IntKind.u8.wrap (i7 + 1))) else some (.inr (l6, i7)))

def law10_MergeFull (a0 : Int) (a1 : Int) : Option Bool :=
  (law10_awake).bind fun r1 =>
    (if (!r1) then some false else (if ((decide (a0 > 15)) || ((decide (a1 < 1)) || (decide (a1 > 3)))) then some true else (whK (law10_MergeFull_b1 a0 a1) FUEL (([] : List (List api_Row)), 0)).bind fun (z23, z24) =>
    (merge_Of z23).bind fun r25 =>
    (if decide (a0 > 10) then some ((r25.2 == 24) && ((r25.1.Lists.length : Int) == 0)) else ((if (r25.2 == 0) then (merge_Rows r25.1).bind fun r29 =>
    (if (r29 == (IntKind.i64.wrap (100 * (IntKind.i64.wrap a0)))) then (if ((r25.1.Which.length : Int) == (IntKind.i64.wrap ((IntKind.i64.wrap a0) * (IntKind.i64.wrap a1)))) then some ((r25.1.Lists.length : Int) == (IntKind.i64.wrap a0)) else some false) else some false) else some false)).bind fun y32 =>
    some y32)))

end Go.AM
