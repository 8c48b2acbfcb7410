import Derived.Test.YtkgegocfjalcbaaAmPre
/-  The program's functions, told outright. -/
set_option linter.unusedVariables false
namespace Go.AM
open Go

structure api_Pol where
  Op : Int
  F : Int
  N : Int
  Kids : (List api_Pol)
  deriving Inhabited

structure api_Pair where
  F : Int
  N : Int
  deriving DecidableEq, Inhabited

structure api_Edge where
  From : Int
  Rule : Int
  To : Int
  deriving DecidableEq, Inhabited

structure api_Rule where
  When : (List api_Pair)
  Guard : (List api_Pair)
  Then : (List api_Pair)
  deriving DecidableEq, Inhabited

structure api_Program where
  Init : (List Int)
  Pol : api_Pol
  Rules : (List api_Rule)
  deriving Inhabited

structure api_Space where
  States : (List (List Int))
  Edges : (List api_Edge)
  deriving DecidableEq, Inhabited

structure space_explorer where
  s : api_Space
  at_ : (List (ByteArray × Int))
  deriving DecidableEq, Inhabited

structure api_Deed where
  What : Int
  N : Int
  Back : Bool
  P : (A8 Int)
  Raw : ByteArray
  deriving DecidableEq, Inhabited

structure save_reader where
  s : ByteArray
  bad : Bool
  deriving DecidableEq, Inhabited

structure save_tells where
  packet : Bool
  raw : Bool
  back : Bool
  deriving DecidableEq, Inhabited

structure api_Port where
  Sw : Int
  Pt : Int
  deriving DecidableEq, Inhabited

structure law05_Step where
  What : Int
  F : Int
  N : Int
  K : Int
  deriving DecidableEq, Inhabited

/- pointsman/pointsmanlaw11.rule -/
def law11_rule (a0 : (List api_Pair)) (a1 : (List api_Pair)) : Option api_Rule :=
  some (api_Rule.mk ([(api_Pair.mk 0 1), (api_Pair.mk 1 1)] : List api_Pair) a0 a1)

/- pointsman/syntax.Size -/
def syntax_Size_b1 (a0 : api_Pol) (self : api_Pol → Option Int) (i2 : Int) : Int → Option Int
  | i1 =>
  (gat a0.Kids i2).bind fun x8 =>
    (self x8).bind fun r9 =>
    some (IntKind.i64.wrap (i1 + r9))

def syntax_Size_s (self : api_Pol → Option Int) (a0 : api_Pol) : Option Int :=
  (forO (syntax_Size_b1 a0 self) (irange 0 (a0.Kids.length : Int)) 1).bind fun z10 =>
    some z10

def syntax_Size_f : Nat → api_Pol → Option Int
  | 0 => fun _ => none
  | k + 1 => syntax_Size_s (syntax_Size_f k)

def syntax_Size (a0 : api_Pol) : Option Int := syntax_Size_f FUEL a0

/- pointsman/syntax.Depth -/
def syntax_Depth_b1 (a0 : api_Pol) (self : api_Pol → Option Int) (i2 : Int) : Int → Option Int
  | i1 =>
  (gat a0.Kids i2).bind fun x8 =>
    (self x8).bind fun r9 =>
    some (imax i1 r9)

def syntax_Depth_s (self : api_Pol → Option Int) (a0 : api_Pol) : Option Int :=
  (forO (syntax_Depth_b1 a0 self) (irange 0 (a0.Kids.length : Int)) 0).bind fun z10 =>
    some (IntKind.i64.wrap (z10 + 1))

def syntax_Depth_f : Nat → api_Pol → Option Int
  | 0 => fun _ => none
  | k + 1 => syntax_Depth_s (syntax_Depth_f k)

def syntax_Depth (a0 : api_Pol) : Option Int := syntax_Depth_f FUEL a0

/- slices.IndexFunc[[]pointsman/api.Pol,pointsman/api.Pol] -/
def slices_IndexFunc_api_Pol_b1 (a0 : (List api_Pol)) (a1 : (api_Pol → Option Bool)) (i1 : Int) : Unit → Option (Br Unit Int)
  | () =>
  (gat a0 i1).bind fun x7 =>
    (a1 x7).bind fun x8 =>
    (if x8 then some (Br.ret i1) else some (.next ()))

def slices_IndexFunc_api_Pol (a0 : (List api_Pol)) (a1 : api_Pol → Option Bool) : Option Int :=
  (forR (slices_IndexFunc_api_Pol_b1 a0 a1) (irange 0 (a0.length : Int)) ()).bind fun q10 => match q10 with
    | .ret r => some r
    | .done () =>
    some (-1)

/- slices.ContainsFunc[[]pointsman/api.Pol,pointsman/api.Pol] -/
def slices_ContainsFunc_api_Pol (a0 : (List api_Pol)) (a1 : api_Pol → Option Bool) : Option Bool :=
  (slices_IndexFunc_api_Pol a0 a1).bind fun r1 =>
    some (decide (r1 ≥ 0))

/- pointsman/syntax.Predicate$1 -/
def syntax_Predicate_1 (self : api_Pol → Option Bool) (a0 : api_Pol) : Option Bool :=
  (self a0).bind fun r1 =>
    some (!r1)

/- pointsman/syntax.Predicate -/
def syntax_Predicate_s (self : api_Pol → Option Bool) (a0 : api_Pol) : Option Bool :=
  ((if (a0.Op == 0) then some (a0.Op == 0) else (if (a0.Op == 1) then some (a0.Op == 1) else (if (a0.Op == 2) then some (a0.Op == 2) else (if (a0.Op == 3) then some (a0.Op == 3) else some (a0.Op == 4)))))).bind fun y5 =>
    (if y5 then some true else ((if (a0.Op == 6) then some (a0.Op == 6) else some (a0.Op == 7))).bind fun y9 =>
    (if y9 then (slices_ContainsFunc_api_Pol a0.Kids (fun y0 => syntax_Predicate_1 self y0)).bind fun r12 =>
    some (!r12) else some false))

def syntax_Predicate_f : Nat → api_Pol → Option Bool
  | 0 => fun _ => none
  | k + 1 => syntax_Predicate_s (syntax_Predicate_f k)

def syntax_Predicate (a0 : api_Pol) : Option Bool := syntax_Predicate_f FUEL a0

/- pointsman/syntax.formed$1 -/
def syntax_formed_1 (self : api_Pol → Int → Option Bool) (a0 : api_Pol) (a1 : Int) : Option Bool :=
  (self a0 a1).bind fun r1 =>
    some (!r1)

/- pointsman/syntax.formed -/
def syntax_formed_s (self : api_Pol → Int → Option Bool) (a0 : api_Pol) (a1 : Int) : Option Bool :=
  (((if (a0.Op == 0) then some (a0.Op == 0) else some (a0.Op == 1))).bind fun y3 =>
    (if y3 then some (Sum.inr (((a0.Kids.length : Int) == 0) && ((a0.F == 0) && (a0.N == 0)))) else (if (a0.Op == 4) then ((if ((a0.Kids.length : Int) == 1) then (if ((a0.F == 0) && (a0.N == 0)) then (gat a0.Kids 0).bind fun x10 =>
    (syntax_Predicate x10).bind fun r11 =>
    (if r11 then (self x10 a1).bind fun r13 =>
    some r13 else some false) else some false) else some false)).bind fun y14 =>
    some (Sum.inr y14) else ((if (a0.Op == 6) then some (a0.Op == 6) else some (a0.Op == 7))).bind fun y17 =>
    (if y17 then ((if decide ((a0.Kids.length : Int) ≥ 2) then (if ((a0.F == 0) && (a0.N == 0)) then (slices_ContainsFunc_api_Pol a0.Kids (fun y0 => syntax_formed_1 self y0 a1)).bind fun r22 =>
    some (!r22) else some false) else some false)).bind fun y23 =>
    some (Sum.inr y23) else (if (a0.Op == 2) then some (.inl (0, 8)) else (if (a0.Op == 5) then some (.inl (1, 8)) else (if (a0.Op == 3) then some (.inl (0, a1)) else some (Sum.inr false)))))))).bind fun q30 => match q30 with
    | .inr r => some r
    | .inl (y28, y29) =>
    some (((a0.Kids.length : Int) == 0) && ((decide (a0.F ≥ y28)) && (decide (a0.F < y29))))

def syntax_formed_f : Nat → api_Pol → Int → Option Bool
  | 0 => fun _ _ => none
  | k + 1 => syntax_formed_s (syntax_formed_f k)

def syntax_formed (a0 : api_Pol) (a1 : Int) : Option Bool := syntax_formed_f FUEL a0 a1

/- pointsman/syntax.once -/
def syntax_once_b1 (a0 : (List api_Pair)) (a1 : Int) (i1 : Int) : Unit → Option (Br Unit Bool)
  | () =>
  (gat a0 i1).bind fun x7 =>
    ((if decide (x7.F < 0) then some true else (if decide (x7.F ≥ a1) then some true else (if decide (i1 > 0) then (gat a0 (IntKind.i64.wrap (i1 - 1))).bind fun x11 =>
    some (decide (x11.F ≥ x7.F)) else some false)))).bind fun y12 =>
    (if y12 then some (Br.ret false) else some (.next ()))

def syntax_once (a0 : (List api_Pair)) (a1 : Int) : Option Bool :=
  (forR (syntax_once_b1 a0 a1) (irange 0 (a0.length : Int)) ()).bind fun q15 => match q15 with
    | .ret r => some r
    | .done () =>
    some true

/- pointsman/syntax.Check -/
def syntax_Check_b1 (a0 : api_Program) (i12 : Int) : Unit → Option (Br Unit Int)
  | () =>
  (gat a0.Rules i12).bind fun x18 =>
    ((if decide ((x18.When.length : Int) ≥ 2) then (gat x18.When 0).bind fun x20 =>
    (if (x20.F == 0) then (gat x18.When 1).bind fun x22 =>
    some (x22.F == 1) else some false) else some false)).bind fun y23 =>
    ((if (!y23) then some true else (syntax_once x18.When 8).bind fun r26 =>
    (if (!r26) then some true else (syntax_once x18.Guard (a0.Init.length : Int)).bind fun r28 =>
    (if (!r28) then some true else (syntax_once x18.Then (a0.Init.length : Int)).bind fun r30 =>
    (if (!r30) then some true else some ((x18.Then.length : Int) == 0)))))).bind fun y32 =>
    (if y32 then some (Br.ret 11) else some (.next ()))

def syntax_Check (a0 : api_Program) : Option Int :=
  ((if decide ((a0.Init.length : Int) < 1) then some true else (if decide ((a0.Init.length : Int) > 4) then some true else (syntax_Size a0.Pol).bind fun r3 =>
    (if decide (r3 > 300) then some true else (syntax_Depth a0.Pol).bind fun r5 =>
    (if decide (r5 > 20) then some true else some (decide ((a0.Rules.length : Int) > 24))))))).bind fun y7 =>
    (if y7 then some 2 else (syntax_formed a0.Pol (a0.Init.length : Int)).bind fun r10 =>
    (if (!r10) then some 11 else (forR (syntax_Check_b1 a0) (irange 0 (a0.Rules.length : Int)) ()).bind fun q35 => match q35 with
    | .ret r => some r
    | .done () =>
    some 0))

/- slices.Clone[[]uint16,uint16] -/
def slices_Clone_uint16 (a0 : List Int) : Option (List Int) :=
  (gapp ([] : List Int) a0).bind fun l1 => some l1

/- pointsman/space.key -/
def space_key_b1 (a0 : (List Int)) (i2 : Int) : (List Int) → Option (List Int)
  | l1 =>
  (gat a0 i2).bind fun x8 =>
    (gapp l1 ([IntKind.u8.wrap (x8.fdiv (2 ^ 8)), IntKind.u8.wrap x8] : List Int)).bind fun l9 =>
    some l9

def space_key (a0 : (List Int)) : Option ByteArray :=
  (forO (space_key_b1 a0) (irange 0 (a0.length : Int)) ([] : List Int)).bind fun z10 =>
    some (strOfB z10)

/- (*pointsman/space.explorer).place -/
def space_explorer_place (a0 : space_explorer) (a1 : (List Int)) : Option (Int × space_explorer) :=
  (space_key a1).bind fun r1 =>
    ((if (!((mget a0.at_ r1).isSome)) then (gapp a0.s.States ([a1] : List (List Int))).bind fun l3 =>
    some (l3, (mput a0.at_ r1 (a0.s.States.length : Int)), (a0.s.States.length : Int)) else some (a0.s.States, a0.at_, (mget a0.at_ r1).getD 0))).bind fun (l4, m5, y6) =>
    some (y6, (space_explorer.mk (api_Space.mk l4 a0.s.Edges) m5))

/- pointsman/space.After -/
def space_After_b1 (a0 : api_Rule) (i3 : Int) : (List Int) → Option (List Int)
  | l2 =>
  ((gat a0.Then i3).bind fun x9 =>
    (if ((decide (x9.F ≥ 0)) && (decide (x9.F < (l2.length : Int)))) then (gat l2 x9.F).bind fun x12 =>
    (gput l2 x9.F x9.N).bind fun l13 =>
    some l13 else some l2)).bind fun l14 =>
    some l14

def space_After (a0 : api_Rule) (a1 : (List Int)) : Option (List Int) :=
  (slices_Clone_uint16 a1).bind fun r1 =>
    (forO (space_After_b1 a0) (irange 0 (a0.Then.length : Int)) r1).bind fun z16 =>
    some z16

/- pointsman/space.Goes$1 -/
def space_Goes_1 (a0 : api_Pair) (a1 : (List Int)) : Option Bool :=
  ((if decide (a0.F < 0) then some true else (if decide (a0.F ≥ (a1.length : Int)) then some true else (gat a1 a0.F).bind fun x3 =>
    some (x3 != a0.N)))).bind fun y4 =>
    some y4

/- slices.IndexFunc[[]pointsman/api.Pair,pointsman/api.Pair] -/
def slices_IndexFunc_api_Pair_b1 (a0 : (List api_Pair)) (a1 : (api_Pair → Option Bool)) (i1 : Int) : Unit → Option (Br Unit Int)
  | () =>
  (gat a0 i1).bind fun x7 =>
    (a1 x7).bind fun x8 =>
    (if x8 then some (Br.ret i1) else some (.next ()))

def slices_IndexFunc_api_Pair (a0 : (List api_Pair)) (a1 : api_Pair → Option Bool) : Option Int :=
  (forR (slices_IndexFunc_api_Pair_b1 a0 a1) (irange 0 (a0.length : Int)) ()).bind fun q10 => match q10 with
    | .ret r => some r
    | .done () =>
    some (-1)

/- slices.ContainsFunc[[]pointsman/api.Pair,pointsman/api.Pair] -/
def slices_ContainsFunc_api_Pair (a0 : (List api_Pair)) (a1 : api_Pair → Option Bool) : Option Bool :=
  (slices_IndexFunc_api_Pair a0 a1).bind fun r1 =>
    some (decide (r1 ≥ 0))

/- pointsman/space.Goes -/
def space_Goes (a0 : api_Rule) (a1 : (List Int)) : Option Bool :=
  (slices_ContainsFunc_api_Pair a0.Guard (fun y0 => space_Goes_1 y0 a1)).bind fun r1 =>
    some (!r1)

/- slices.Equal[[]uint16,uint16] -/
def slices_Equal_uint16_b1 (a0 : (List Int)) (a1 : (List Int)) (i2 : Int) : Unit → Option (Br Unit Bool)
  | () =>
  (gat a0 i2).bind fun x8 =>
    (gat a1 i2).bind fun x9 =>
    (if (x8 != x9) then some (Br.ret false) else some (.next ()))

def slices_Equal_uint16 (a0 : (List Int)) (a1 : (List Int)) : Option Bool :=
  (if ((a0.length : Int) != (a1.length : Int)) then some false else (forR (slices_Equal_uint16_b1 a0 a1) (irange 0 (a0.length : Int)) ()).bind fun q11 => match q11 with
    | .ret r => some r
    | .done () =>
    some true)

/- pointsman/space.From -/
def space_From_b1 (a0 : api_Space) (a1 : Int) (i2 : Int) : (List api_Edge) → Option (List api_Edge)
  | l1 =>
  ((gat a0.Edges i2).bind fun x8 =>
    (if (x8.From == a1) then (gapp l1 ([x8] : List api_Edge)).bind fun l10 =>
    some l10 else some l1)).bind fun l11 =>
    some l11

def space_From (a0 : api_Space) (a1 : Int) : Option (List api_Edge) :=
  (forO (space_From_b1 a0 a1) (irange 0 (a0.Edges.length : Int)) ([] : List api_Edge)).bind fun z13 =>
    some z13

/- pointsman/space.comesBack$1 -/
def space_comesBack_1_b1 (a2 : api_Space) (r4 : (List api_Edge)) (self : Int → (List Int) → api_Space → Option (Bool × (List Int))) (i6 : Int) : (List Int) → Option (Br (List Int) (Bool × (List Int)))
  | l5 =>
  (gat r4 i6).bind fun x12 =>
    (self x12.To l5 a2).bind fun r13 =>
    (if r13.1 then some (Br.ret (true, r13.2)) else some (.next r13.2))

def space_comesBack_1_s (self : Int → (List Int) → api_Space → Option (Bool × (List Int))) (a0 : Int) (a1 : (List Int)) (a2 : api_Space) : Option (Bool × (List Int)) :=
  (gat a1 a0).bind fun x1 =>
    (if (x1 != 0) then some ((x1 == 1), a1) else (gput a1 a0 1).bind fun l3 =>
    (space_From a2 a0).bind fun r4 =>
    (forR (space_comesBack_1_b1 a2 r4 self) (irange 0 (r4.length : Int)) l3).bind fun q18 => match q18 with
    | .ret r => some r
    | .done z15 =>
    (gat z15 a0).bind fun x16 =>
    (gput z15 a0 2).bind fun l17 =>
    some (false, l17))

def space_comesBack_1_f : Nat → Int → (List Int) → api_Space → Option (Bool × (List Int))
  | 0 => fun _ _ _ => none
  | k + 1 => space_comesBack_1_s (space_comesBack_1_f k)

def space_comesBack_1 (a0 : Int) (a1 : (List Int)) (a2 : api_Space) : Option (Bool × (List Int)) := space_comesBack_1_f FUEL a0 a1 a2

/- pointsman/space.comesBack -/
def space_comesBack (a0 : api_Space) : Option Bool :=
  (gmk (a0.States.length : Int) 0).bind fun l1 =>
    ((if decide ((l1.length : Int) > 0) then (space_comesBack_1 0 l1 a0).bind fun r3 =>
    some r3.1 else some false)).bind fun y4 =>
    some y4

/- pointsman/space.Explore -/
def space_Explore_b2 (a0 : api_Program) (i8 : Int) (i14 : Int) : ((List (List Int)) × (List api_Edge) × (List (ByteArray × Int))) → Option (Br ((List (List Int)) × (List api_Edge) × (List (ByteArray × Int))) (Br ((List (List Int)) × (List api_Edge) × (List (ByteArray × Int)) × Int) (api_Space × Int)))
  | (l11, l12, m13) =>
  (((gat a0.Rules i14).bind fun x20 =>
    (gat l11 i8).bind fun x21 =>
    (space_After x20 x21).bind fun r22 =>
    (space_Goes x20 x21).bind fun r23 =>
    ((if (!r23) then some true else (slices_Equal_uint16 x21 r22).bind fun r25 =>
    some r25)).bind fun y26 =>
    (if y26 then some (.inl (l11, l12, m13)) else (space_explorer_place (space_explorer.mk (api_Space.mk l11 l12) m13) r22).bind fun r29 =>
    (gapp l12 ([(api_Edge.mk i8 i14 r29.1)] : List api_Edge)).bind fun l30 =>
    (if decide ((r29.2.s.States.length : Int) > 128) then some (Sum.inr (Br.ret (Br.ret ((api_Space.mk [] []), 21)))) else some (.inl (r29.2.s.States, l30, r29.2.at_)))) : Option (((List (List Int)) × (List api_Edge) × (List (ByteArray × Int))) ⊕ (Br ((List (List Int)) × (List api_Edge) × (List (ByteArray × Int))) (Br ((List (List Int)) × (List api_Edge) × (List (ByteArray × Int)) × Int) (api_Space × Int)))))).bind fun q35 => match q35 with
    | .inr r => some r
    | .inl (l32, l33, m34) =>
    some (.next (l32, l33, m34))

def space_Explore_b1 (a0 : api_Program) : ((List (List Int)) × (List api_Edge) × (List (ByteArray × Int)) × Int) → Option (Br ((List (List Int)) × (List api_Edge) × (List (ByteArray × Int)) × Int) (api_Space × Int))
  | (l5, l6, m7, i8) =>
  (if decide (i8 < (l5.length : Int)) then (forR (space_Explore_b2 a0 i8) (irange 0 (a0.Rules.length : Int)) (l5, l6, m7)).bind fun q39 => match q39 with
    | .ret r => some r
    | .done (z36, z37, z38) =>
    some (.next (z36, z37, z38, IntKind.i64.wrap (i8 + 1))) else some (.brk (l5, l6, m7, i8)))

def space_Explore (a0 : api_Program) : Option (api_Space × Int) :=
  (syntax_Check a0).bind fun r1 =>
    (if (r1 != 0) then some ((api_Space.mk [] []), r1) else (slices_Clone_uint16 a0.Init).bind fun r3 =>
    (space_explorer_place (space_explorer.mk (api_Space.mk ([] : List (List Int)) ([] : List api_Edge)) ([] : List (ByteArray × Int))) r3).bind fun r4 =>
    (whR (space_Explore_b1 a0) FUEL (r4.2.s.States, ([] : List api_Edge), r4.2.at_, 0)).bind fun q46 => match q46 with
    | .ret r => some r
    | .done (z40, z41, z42, z43) =>
    (space_comesBack (api_Space.mk z40 z41)).bind fun r44 =>
    (if r44 then some ((api_Space.mk [] []), 20) else some ((api_Space.mk z40 z41), 0)))

/- pointsman/space.Ends -/
def space_Ends_b1 (a0 : api_Space) (i2 : Int) : (List Int) → Option (List Int)
  | l1 =>
  ((space_From a0 i2).bind fun r8 =>
    (if ((r8.length : Int) == 0) then (gapp l1 ([i2] : List Int)).bind fun l10 =>
    some l10 else some l1)).bind fun l11 =>
    some l11

def space_Ends (a0 : api_Space) : Option (List Int) :=
  (forO (space_Ends_b1 a0) (irange 0 (a0.States.length : Int)) ([] : List Int)).bind fun z13 =>
    some z13

/- pointsman/pointsmanlaw11.awake -/
def law11_awake  : Option Bool :=
  (law11_rule ([(api_Pair.mk 0 0)] : List api_Pair) ([(api_Pair.mk 0 1)] : List api_Pair)).bind fun r1 =>
    (law11_rule ([(api_Pair.mk 0 1)] : List api_Pair) ([(api_Pair.mk 0 2)] : List api_Pair)).bind fun r2 =>
    (space_Explore (api_Program.mk ([0] : List Int) (api_Pol.mk 0 0 0 []) ([r1, r2] : List api_Rule))).bind fun r3 =>
    (law11_rule ([(api_Pair.mk 0 2)] : List api_Pair) ([(api_Pair.mk 0 0)] : List api_Pair)).bind fun r4 =>
    (gapp ([r1, r2] : List api_Rule) ([r4] : List api_Rule)).bind fun l5 =>
    (space_Explore (api_Program.mk ([0] : List Int) (api_Pol.mk 0 0 0 []) l5)).bind fun r6 =>
    ((if (r3.2 == 0) then (if (r6.2 == 20) then (if ((r3.1.States.length : Int) == 3) then (if ((r3.1.Edges.length : Int) == 2) then (gat r3.1.Edges 1).bind fun x11 =>
    (if (x11 == (api_Edge.mk 1 1 2)) then (space_Ends r3.1).bind fun r13 =>
    (if ((r13.length : Int) == 1) then (gat l5 0).bind fun x15 =>
    (space_Goes x15 ([0] : List Int)).bind fun r16 =>
    some r16 else some false) else some false) else some false) else some false) else some false) else some false)).bind fun y17 =>
    some y17

/- pointsman/pointsmanlaw11.Small -/
def law11_Small_b1 (a0 : api_Program) (i3 : Int) : Unit → Option (Br Unit Bool)
  | () =>
  (gat a0.Rules i3).bind fun x9 =>
    (if ((decide ((x9.When.length : Int) > 8)) || ((decide ((x9.Guard.length : Int) > 6)) || (decide ((x9.Then.length : Int) > 6)))) then some (Br.ret false) else some (.next ()))

def law11_Small (a0 : api_Program) : Option Bool :=
  (if ((decide ((a0.Init.length : Int) > 5)) || (decide ((a0.Rules.length : Int) > 26))) then some false else (forR (law11_Small_b1 a0) (irange 0 (a0.Rules.length : Int)) ()).bind fun q13 => match q13 with
    | .ret r => some r
    | .done () =>
    some true)

/- pointsman/pointsmanref05.Size -/
def ref05_Size_b1 (a0 : api_Pol) (self : api_Pol → Option Int) (i2 : Int) : Int → Option Int
  | i1 =>
  (gat a0.Kids i2).bind fun x8 =>
    (self x8).bind fun r9 =>
    some (IntKind.i64.wrap (i1 + r9))

def ref05_Size_s (self : api_Pol → Option Int) (a0 : api_Pol) : Option Int :=
  (forO (ref05_Size_b1 a0 self) (irange 0 (a0.Kids.length : Int)) 1).bind fun z10 =>
    some z10

def ref05_Size_f : Nat → api_Pol → Option Int
  | 0 => fun _ => none
  | k + 1 => ref05_Size_s (ref05_Size_f k)

def ref05_Size (a0 : api_Pol) : Option Int := ref05_Size_f FUEL a0

/- pointsman/pointsmanref05.Depth -/
def ref05_Depth_b1 (a0 : api_Pol) (self : api_Pol → Option Int) (i2 : Int) : Int → Option Int
  | i1 =>
  (gat a0.Kids i2).bind fun x8 =>
    (self x8).bind fun r9 =>
    some (imax i1 r9)

def ref05_Depth_s (self : api_Pol → Option Int) (a0 : api_Pol) : Option Int :=
  (forO (ref05_Depth_b1 a0 self) (irange 0 (a0.Kids.length : Int)) 0).bind fun z10 =>
    some (IntKind.i64.wrap (z10 + 1))

def ref05_Depth_f : Nat → api_Pol → Option Int
  | 0 => fun _ => none
  | k + 1 => ref05_Depth_s (ref05_Depth_f k)

def ref05_Depth (a0 : api_Pol) : Option Int := ref05_Depth_f FUEL a0

/- pointsman/pointsmanref05.Predicate -/
def ref05_Predicate_b1 (a0 : api_Pol) (self : api_Pol → Option Bool) (i6 : Int) : Unit → Option (Br Unit (Unit ⊕ Bool))
  | () =>
  (gat a0.Kids i6).bind fun x12 =>
    (self x12).bind fun r13 =>
    (if (!r13) then some (Br.ret (Sum.inr false)) else some (.next ()))

def ref05_Predicate_s (self : api_Pol → Option Bool) (a0 : api_Pol) : Option Bool :=
  (if ((a0.Op == 5) || ((decide (a0.Op < 0)) || (decide (a0.Op > 7)))) then some false else ((if ((a0.Op == 6) || (a0.Op == 7)) then (forR (ref05_Predicate_b1 a0 self) (irange 0 (a0.Kids.length : Int)) ()).bind fun q15 => match q15 with
    | .ret r => some r
    | .done () =>
    some (.inl ()) else some (.inl ()))).bind fun q16 => match q16 with
    | .inr r => some r
    | .inl () =>
    some true)

def ref05_Predicate_f : Nat → api_Pol → Option Bool
  | 0 => fun _ => none
  | k + 1 => ref05_Predicate_s (ref05_Predicate_f k)

def ref05_Predicate (a0 : api_Pol) : Option Bool := ref05_Predicate_f FUEL a0

/- pointsman/pointsmanref05.formed -/
def ref05_formed_b1 (a0 : api_Pol) (a1 : Int) (self : api_Pol → Int → Option Bool) (i33 : Int) : Unit → Option (Br Unit Bool)
  | () =>
  (gat a0.Kids i33).bind fun x39 =>
    (self x39 a1).bind fun r40 =>
    (if (!r40) then some (Br.ret false) else some (.next ()))

def ref05_formed_s (self : api_Pol → Int → Option Bool) (a0 : api_Pol) (a1 : Int) : Option Bool :=
  ((if (a0.Op == 0) then some (a0.Op == 0) else some (a0.Op == 1))).bind fun y2 =>
    (if y2 then some (((a0.Kids.length : Int) == 0) && ((a0.F == 0) && (a0.N == 0))) else (if (a0.Op == 2) then some (((a0.Kids.length : Int) == 0) && ((decide (a0.F ≥ 0)) && (decide (a0.F < 8)))) else (if (a0.Op == 3) then some (((a0.Kids.length : Int) == 0) && ((decide (a0.F ≥ 0)) && (decide (a0.F < a1)))) else (if (a0.Op == 5) then some (((a0.Kids.length : Int) == 0) && ((decide (a0.F ≥ 1)) && (decide (a0.F < 8)))) else (if (a0.Op == 4) then ((if ((a0.Kids.length : Int) == 1) then (if (a0.F == 0) then (if (a0.N == 0) then (gat a0.Kids 0).bind fun x20 =>
    (ref05_Predicate x20).bind fun r21 =>
    (if r21 then (self x20 a1).bind fun r23 =>
    some r23 else some false) else some false) else some false) else some false)).bind fun y24 =>
    some y24 else ((if (a0.Op == 6) then some (a0.Op == 6) else some (a0.Op == 7))).bind fun y27 =>
    (if y27 then (if ((decide ((a0.Kids.length : Int) < 2)) || ((a0.F != 0) || (a0.N != 0))) then some false else (forR (ref05_formed_b1 a0 a1 self) (irange 0 (a0.Kids.length : Int)) ()).bind fun q42 => match q42 with
    | .ret r => some r
    | .done () =>
    some true) else some false))))))

def ref05_formed_f : Nat → api_Pol → Int → Option Bool
  | 0 => fun _ _ => none
  | k + 1 => ref05_formed_s (ref05_formed_f k)

def ref05_formed (a0 : api_Pol) (a1 : Int) : Option Bool := ref05_formed_f FUEL a0 a1

/- pointsman/pointsmanref05.rising -/
def ref05_rising_b1 (a0 : (List api_Pair)) (a1 : Int) (i1 : Int) : Unit → Option (Br Unit Bool)
  | () =>
  (gat a0 i1).bind fun x7 =>
    ((if decide (x7.F < 0) then some true else (if decide (x7.F ≥ a1) then some true else (if decide (i1 > 0) then (gat a0 (IntKind.i64.wrap (i1 - 1))).bind fun x11 =>
    some (decide (x11.F ≥ x7.F)) else some false)))).bind fun y12 =>
    (if y12 then some (Br.ret false) else some (.next ()))

def ref05_rising (a0 : (List api_Pair)) (a1 : Int) : Option Bool :=
  (forR (ref05_rising_b1 a0 a1) (irange 0 (a0.length : Int)) ()).bind fun q15 => match q15 with
    | .ret r => some r
    | .done () =>
    some true

/- pointsman/pointsmanref05.Check -/
def ref05_Check_b1 (a0 : api_Program) (i12 : Int) : Unit → Option (Br Unit Int)
  | () =>
  (gat a0.Rules i12).bind fun x18 =>
    ((if decide ((x18.When.length : Int) < 2) then some true else (gat x18.When 0).bind fun x20 =>
    (if (x20.F != 0) then some true else (gat x18.When 1).bind fun x22 =>
    (if (x22.F != 1) then some true else (ref05_rising x18.When 8).bind fun r24 =>
    (if (!r24) then some true else (ref05_rising x18.Guard (a0.Init.length : Int)).bind fun r26 =>
    (if (!r26) then some true else (ref05_rising x18.Then (a0.Init.length : Int)).bind fun r28 =>
    (if (!r28) then some true else some ((x18.Then.length : Int) == 0)))))))).bind fun y30 =>
    (if y30 then some (Br.ret 11) else some (.next ()))

def ref05_Check (a0 : api_Program) : Option Int :=
  ((if decide ((a0.Init.length : Int) < 1) then some true else (if decide ((a0.Init.length : Int) > 4) then some true else (ref05_Size a0.Pol).bind fun r3 =>
    (if decide (r3 > 300) then some true else (ref05_Depth a0.Pol).bind fun r5 =>
    (if decide (r5 > 20) then some true else some (decide ((a0.Rules.length : Int) > 24))))))).bind fun y7 =>
    (if y7 then some 2 else (ref05_formed a0.Pol (a0.Init.length : Int)).bind fun r10 =>
    (if (!r10) then some 11 else (forR (ref05_Check_b1 a0) (irange 0 (a0.Rules.length : Int)) ()).bind fun q33 => match q33 with
    | .ret r => some r
    | .done () =>
    some 0))

/- pointsman/pointsmanref11.Goes -/
def ref11_Goes_b1 (a0 : api_Rule) (a1 : (List Int)) (i1 : Int) : Unit → Option (Br Unit Bool)
  | () =>
  (gat a0.Guard i1).bind fun x7 =>
    ((if decide (x7.F < 0) then some true else (if decide (x7.F ≥ (a1.length : Int)) then some true else (gat a1 x7.F).bind fun x10 =>
    some (x10 != x7.N)))).bind fun y11 =>
    (if y11 then some (Br.ret false) else some (.next ()))

def ref11_Goes (a0 : api_Rule) (a1 : (List Int)) : Option Bool :=
  (forR (ref11_Goes_b1 a0 a1) (irange 0 (a0.Guard.length : Int)) ()).bind fun q14 => match q14 with
    | .ret r => some r
    | .done () =>
    some true

/- pointsman/pointsmanref11.After -/
def ref11_After_b1 (a0 : api_Rule) (i3 : Int) : (List Int) → Option (List Int)
  | l2 =>
  ((gat a0.Then i3).bind fun x9 =>
    (if ((decide (x9.F ≥ 0)) && (decide (x9.F < (l2.length : Int)))) then (gat l2 x9.F).bind fun x12 =>
    (gput l2 x9.F x9.N).bind fun l13 =>
    some l13 else some l2)).bind fun l14 =>
    some l14

def ref11_After (a0 : api_Rule) (a1 : (List Int)) : Option (List Int) :=
  (gapp ([] : List Int) a1).bind fun l1 =>
    (forO (ref11_After_b1 a0) (irange 0 (a0.Then.length : Int)) l1).bind fun z16 =>
    some z16

/- pointsman/pointsmanref11.Same -/
def ref11_Same_b1 (a0 : (List Int)) (a1 : (List Int)) (i2 : Int) : Unit → Option (Br Unit Bool)
  | () =>
  (gat a0 i2).bind fun x8 =>
    (gat a1 i2).bind fun x9 =>
    (if (x8 != x9) then some (Br.ret false) else some (.next ()))

def ref11_Same (a0 : (List Int)) (a1 : (List Int)) : Option Bool :=
  (if ((a0.length : Int) != (a1.length : Int)) then some false else (forR (ref11_Same_b1 a0 a1) (irange 0 (a0.length : Int)) ()).bind fun q11 => match q11 with
    | .ret r => some r
    | .done () =>
    some true)

/- pointsman/pointsmanref11.Find -/
def ref11_Find_b1 (a0 : (List (List Int))) (a1 : (List Int)) (i1 : Int) : Unit → Option (Br Unit Int)
  | () =>
  (gat a0 i1).bind fun x7 =>
    (ref11_Same x7 a1).bind fun r8 =>
    (if r8 then some (Br.ret i1) else some (.next ()))

def ref11_Find (a0 : (List (List Int))) (a1 : (List Int)) : Option Int :=
  (forR (ref11_Find_b1 a0 a1) (irange 0 (a0.length : Int)) ()).bind fun q10 => match q10 with
    | .ret r => some r
    | .done () =>
    some (-1)

/- pointsman/pointsmanref11.round -/
def ref11_round_b3 (a0 : api_Space) (l9 : (List Bool)) (i10 : Int) (i17 : Int) : Bool → Option Bool
  | y16 =>
  ((gat a0.Edges i17).bind fun x23 =>
    ((if (x23.From == i10) then (gat l9 x23.To).bind fun x25 =>
    some (!x25) else some false)).bind fun y26 =>
    (if y26 then some false else some y16)).bind fun y29 =>
    some y29

def ref11_round_b2 (a0 : api_Space) (i10 : Int) : (List Bool) → Option (List Bool)
  | l9 =>
  (forO (ref11_round_b3 a0 l9 i10) (irange 0 (a0.Edges.length : Int)) true).bind fun z31 =>
    (gat l9 i10).bind fun x32 =>
    ((if x32 then (gput l9 i10 true).bind fun l34 =>
    some l34 else (gput l9 i10 z31).bind fun l35 =>
    some l35)).bind fun l36 =>
    some l36

def ref11_round_b1 (a0 : api_Space) (i3 : Int) : (List Bool) → Option (List Bool)
  | l2 =>
  (forO (ref11_round_b2 a0) (irange 0 (a0.States.length : Int)) l2).bind fun z39 =>
    some z39

def ref11_round_b4 (z41 : (List Bool)) (i42 : Int) : Unit → Option (Br Unit Bool)
  | () =>
  (gat z41 i42).bind fun x48 =>
    (if (!x48) then some (Br.ret true) else some (.next ()))

def ref11_round (a0 : api_Space) : Option Bool :=
  (gmk (a0.States.length : Int) false).bind fun l1 =>
    (forO (ref11_round_b1 a0) (irange 0 (a0.States.length : Int)) l1).bind fun z41 =>
    (forR (ref11_round_b4 z41) (irange 0 (z41.length : Int)) ()).bind fun q50 => match q50 with
    | .ret r => some r
    | .done () =>
    some false

/- pointsman/pointsmanref11.Explore -/
def ref11_Explore_b2 (a0 : api_Program) (i6 : Int) (i11 : Int) : ((List (List Int)) × (List api_Edge)) → Option (Br ((List (List Int)) × (List api_Edge)) (Br ((List (List Int)) × (List api_Edge) × Int) (api_Space × Int)))
  | (l9, l10) =>
  (((gat a0.Rules i11).bind fun x17 =>
    (gat l9 i6).bind fun x18 =>
    (ref11_Goes x17 x18).bind fun r19 =>
    (if (!r19) then some (.inl (l9, l10)) else (ref11_After x17 x18).bind fun r21 =>
    (ref11_Same r21 x18).bind fun r22 =>
    (if r22 then some (.inl (l9, l10)) else (ref11_Find l9 r21).bind fun r24 =>
    ((if decide (r24 < 0) then (gapp l9 ([r21] : List (List Int))).bind fun l26 =>
    some (l26, (l9.length : Int)) else some (l9, r24))).bind fun (l27, y28) =>
    (if decide ((l27.length : Int) > 128) then some (Sum.inr (Br.ret (Br.ret ((api_Space.mk [] []), 21)))) else (gapp l10 ([(api_Edge.mk i6 i11 y28)] : List api_Edge)).bind fun l31 =>
    some (.inl (l27, l31))))) : Option (((List (List Int)) × (List api_Edge)) ⊕ (Br ((List (List Int)) × (List api_Edge)) (Br ((List (List Int)) × (List api_Edge) × Int) (api_Space × Int)))))).bind fun q34 => match q34 with
    | .inr r => some r
    | .inl (l32, l33) =>
    some (.next (l32, l33))

def ref11_Explore_b1 (a0 : api_Program) : ((List (List Int)) × (List api_Edge) × Int) → Option (Br ((List (List Int)) × (List api_Edge) × Int) (api_Space × Int))
  | (l4, l5, i6) =>
  (if decide (i6 < (l4.length : Int)) then (forR (ref11_Explore_b2 a0 i6) (irange 0 (a0.Rules.length : Int)) (l4, l5)).bind fun q37 => match q37 with
    | .ret r => some r
    | .done (z35, z36) =>
    some (.next (z35, z36, IntKind.i64.wrap (i6 + 1))) else some (.brk (l4, l5, i6)))

def ref11_Explore (a0 : api_Program) : Option (api_Space × Int) :=
  (ref05_Check a0).bind fun r1 =>
    (if (r1 != 0) then some ((api_Space.mk [] []), r1) else (gapp ([] : List Int) a0.Init).bind fun l3 =>
    (whR (ref11_Explore_b1 a0) FUEL (([l3] : List (List Int)), ([] : List api_Edge), 0)).bind fun q43 => match q43 with
    | .ret r => some r
    | .done (z38, z39, z40) =>
    (ref11_round (api_Space.mk z38 z39)).bind fun r41 =>
    (if r41 then some ((api_Space.mk [] []), 20) else some ((api_Space.mk z38 z39), 0)))

/- pointsman/pointsmanlaw11.Same -/
/- pointsman/pointsmanlaw11.SpaceExplores -/
/- pointsman/pointsmanlaw11.SpaceRules -/
/- pointsman/pointsmanlaw11.SpaceEnds -/
def law11_SpaceEnds_b1 (r9 : (List Int)) (i11 : Int) : (List (Int × Bool)) → Option (List (Int × Bool))
  | m10 =>
  (gat r9 i11).bind fun x17 =>
    some (mput m10 x17 true)

def law11_SpaceEnds_b3 (a0 : api_Program) (r5 : (api_Space × Int)) (i21 : Int) (x27 : (List Int)) (r28 : (List api_Edge)) (i32 : Int) : ((List Bool) × Int) → Option (Br ((List Bool) × Int) (Br ((List Bool) × Int) Bool))
  | (l30, i31) =>
  (((gat a0.Rules i32).bind fun x38 =>
    (ref11_After x38 x27).bind fun r39 =>
    (ref11_Goes x38 x27).bind fun r40 =>
    ((if (!r40) then some true else (ref11_Same r39 x27).bind fun r42 =>
    some r42)).bind fun y43 =>
    (if y43 then some (.inl (l30, i31)) else ((if decide (i31 ≥ (r28.length : Int)) then some true else (gat r28 i31).bind fun x47 =>
    (if (x47.From != i21) then some true else (if (x47.Rule != i32) then some true else (gat r5.1.States x47.To).bind fun x50 =>
    (ref11_Same x50 r39).bind fun r51 =>
    some (!r51))))).bind fun y52 =>
    (if y52 then some (Sum.inr (Br.ret (Br.ret false))) else (gat r28 i31).bind fun x55 =>
    (gat l30 x55.To).bind fun x56 =>
    (gput l30 x55.To true).bind fun l57 =>
    some (.inl (l57, IntKind.i64.wrap (i31 + 1))))) : Option (((List Bool) × Int) ⊕ (Br ((List Bool) × Int) (Br ((List Bool) × Int) Bool))))).bind fun q60 => match q60 with
    | .inr r => some r
    | .inl (l58, y59) =>
    some (.next (l58, y59))

def law11_SpaceEnds_b2 (a0 : api_Program) (r5 : (api_Space × Int)) (z18 : (List (Int × Bool))) (i21 : Int) : ((List Bool) × Int) → Option (Br ((List Bool) × Int) Bool)
  | (l19, i20) =>
  (gat r5.1.States i21).bind fun x27 =>
    (space_From r5.1 i21).bind fun r28 =>
    (if (!(((r28.length : Int) == 0) == ((mget z18 i21).getD false))) then some (Br.ret false) else (forR (law11_SpaceEnds_b3 a0 r5 i21 x27 r28) (irange 0 (a0.Rules.length : Int)) (l19, 0)).bind fun q64 => match q64 with
    | .ret r => some r
    | .done (z61, z62) =>
    (if (z62 != (r28.length : Int)) then some (Br.ret false) else some (.next (z61, IntKind.i64.wrap (i20 + (r28.length : Int))))))

def law11_SpaceEnds_b4 (z65 : (List Bool)) (i67 : Int) : Unit → Option (Br Unit Bool)
  | () =>
  (gat z65 i67).bind fun x73 =>
    (if (!(x73 == (decide (i67 > 0)))) then some (Br.ret false) else some (.next ()))

def law11_SpaceEnds (a0 : api_Program) : Option Bool :=
  (law11_awake).bind fun r1 =>
    (if (!r1) then some false else (law11_Small (api_Program.mk a0.Init (api_Pol.mk 0 0 0 []) a0.Rules)).bind fun r3 =>
    (if (!r3) then some true else (space_Explore (api_Program.mk a0.Init (api_Pol.mk 0 0 0 []) a0.Rules)).bind fun r5 =>
    (if (r5.2 != 0) then some (((r5.1.States.length : Int) == 0) && ((r5.1.Edges.length : Int) == 0)) else (gmk (r5.1.States.length : Int) false).bind fun l8 =>
    (space_Ends r5.1).bind fun r9 =>
    (forO (law11_SpaceEnds_b1 r9) (irange 0 (r9.length : Int)) ([] : List (Int × Bool))).bind fun z18 =>
    (forR (law11_SpaceEnds_b2 a0 r5 z18) (irange 0 (r5.1.States.length : Int)) (l8, 0)).bind fun q80 => match q80 with
    | .ret r => some r
    | .done (z65, z66) =>
    (forR (law11_SpaceEnds_b4 z65) (irange 0 (z65.length : Int)) ()).bind fun q79 => match q79 with
    | .ret r => some r
    | .done () =>
    ((if (z66 == (r5.1.Edges.length : Int)) then (glen z18).bind fun n76 =>
    some (decide (n76 > 0)) else some false)).bind fun y77 =>
    some y77)))

end Go.AM
