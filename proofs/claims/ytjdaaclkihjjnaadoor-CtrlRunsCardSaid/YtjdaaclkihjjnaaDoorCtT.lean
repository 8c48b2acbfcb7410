import Derived.Test.YtjdaaclkihjjnaaDoorAmPre
/-  The program's functions, told outright. -/
set_option linter.unusedVariables false
namespace Go.AM
open Go

def gtab0 : List Int := [0, 1, 56, 2, 57, 49, 28, 3, 61, 58, 42, 50, 38, 29, 17, 4, 62, 47, 59, 36, 45, 43, 51, 22, 53, 39, 33, 30, 24, 18, 12, 5, 63, 55, 48, 27, 60, 41, 37, 16, 46, 35, 44, 21, 52, 32, 23, 11, 54, 26, 40, 15, 34, 20, 31, 10, 25, 14, 19, 9, 13, 8, 7, 6]

structure api_Pol where
  Op : Int
  F : Int
  N : Int
  Kids : (List api_Pol)
  deriving Inhabited

structure api_Pair where
  F : Int
  N : Int
  deriving DecidableEq, Inhabited

structure api_Rule where
  When : (List api_Pair)
  Guard : (List api_Pair)
  Then : (List api_Pair)
  deriving DecidableEq, Inhabited

structure api_Program where
  Init : (List Int)
  Pol : api_Pol
  Rules : (List api_Rule)
  deriving Inhabited

structure api_Event where
  Rule : Int
  Count : Int
  deriving DecidableEq, Inhabited

structure api_Nes where
  Events : (List api_Event)
  Sets : (List Int)
  States : (List (List Int))
  deriving DecidableEq, Inhabited

structure ref18_Ctrl where
  N : api_Nes
  Known : Int
  Heard : (List Int)
  Told : (List Int)
  Order : (List Int)
  deriving DecidableEq, Inhabited

structure law18_Act where
  What : Int
  I : Int
  N : Int
  S : Int
  deriving DecidableEq, Inhabited

structure ctrl_peer where
  heard : Int
  told : Int
  deriving DecidableEq, Inhabited

structure ctrl_Ctrl where
  n_ : api_Nes
  known : Int
  peers : (List ctrl_peer)
  order : (List Int)
  deriving DecidableEq, Inhabited

structure api_Edge where
  From : Int
  Rule : Int
  To : Int
  deriving DecidableEq, Inhabited

structure api_Space where
  States : (List (List Int))
  Edges : (List api_Edge)
  deriving DecidableEq, Inhabited

/- pointsman/ctrl.New -/
def ctrl_New (a0 : api_Nes) (a1 : Int) : Option ctrl_Ctrl :=
  (gmk (imin (imax a1 0) 12) (ctrl_peer.mk 0 0)).bind fun l1 =>
    some (ctrl_Ctrl.mk a0 0 l1 ([] : List Int))

/- (*pointsman/ctrl.Ctrl).has -/
def ctrl_Ctrl_has (a0 : ctrl_Ctrl) (a1 : Int) : Option Bool :=
  some ((decide (a1 ≥ 0)) && (decide (a1 < (a0.peers.length : Int))))

/- slices.Index[[]pointsman/api.Set,pointsman/api.Set] -/
def slices_Index_api_Set_b1 (a0 : (List Int)) (a1 : Int) (i1 : Int) : Unit → Option (Br Unit Int)
  | () =>
  (gat a0 i1).bind fun x7 =>
    (if (a1 == x7) then some (Br.ret i1) else some (.next ()))

def slices_Index_api_Set (a0 : (List Int)) (a1 : Int) : Option Int :=
  (forR (slices_Index_api_Set_b1 a0 a1) (irange 0 (a0.length : Int)) ()).bind fun q9 => match q9 with
    | .ret r => some r
    | .done () =>
    some (-1)

/- pointsman/nes.Tag -/
def nes_Tag (a0 : api_Nes) (a1 : Int) : Option (Int × Bool) :=
  (slices_Index_api_Set a0.Sets a1).bind fun r1 =>
    some (IntKind.u16.wrap (imax r1 0), decide (r1 ≥ 0))

/- (*pointsman/ctrl.Ctrl).fits -/
def ctrl_Ctrl_fits (a0 : ctrl_Ctrl) (a1 : Int) : Option Bool :=
  (nes_Tag a0.n_ a1).bind fun r1 =>
    some r1.2

/- math/bits.TrailingZeros64 -/
def math_bits_TrailingZeros64 (a0 : Int) : Option Int :=
  (if (a0 == 0) then some 64 else (gat gtab0 ((IntKind.u64.wrap ((andI .u64 a0 (IntKind.u64.wrap (0 - a0))) * 285870213051353865)).fdiv (2 ^ 58))).bind fun b2 =>
    some (IntKind.i64.wrap b2))

/- pointsman/events.First -/
def events_First (a0 : Int) : Option (Int × Bool) :=
  (if (a0 == 0) then some (0, false) else (math_bits_TrailingZeros64 a0).bind fun r2 =>
    some (r2, true))

/- pointsman/events.bit -/
def events_bit (a0 : Int) : Option Int :=
  (if ((decide (a0 < 0)) || (decide (a0 ≥ 64))) then some 0 else (shlI .u64 1 a0).bind fun q3 =>
    some q3)

/- pointsman/events.Without -/
def events_Without (a0 : Int) (a1 : Int) : Option Int :=
  (events_bit a1).bind fun r1 =>
    some (andNotI .u64 a0 r1)

/- pointsman/events.List -/
def events_List_b1 : (Int × (List Int) × Int × Bool) → Option ((Int × (List Int) × Int × Bool) ⊕ (Int × (List Int) × Int × Bool))
  | (i2, l3, i4, y5) =>
  (if y5 then (gapp l3 ([i4] : List Int)).bind fun l8 =>
    (events_Without i2 i4).bind fun r9 =>
    (events_First r9).bind fun r10 =>
    some (.inl (r9, l8, r10.1, r10.2)) else some (.inr (i2, l3, i4, y5)))

def events_List (a0 : Int) : Option (List Int) :=
  (events_First a0).bind fun r1 =>
    (whK events_List_b1 FUEL (a0, ([] : List Int), r1.1, r1.2)).bind fun (z11, z12, z13, z14) =>
    some z12

/- (*pointsman/ctrl.Ctrl).Hear -/
def ctrl_Ctrl_Hear (a0 : ctrl_Ctrl) (a1 : Int) (a2 : Int) : Option (Int × ctrl_Ctrl) :=
  (ctrl_Ctrl_has a0 a1).bind fun r1 =>
    (if (!r1) then some (1, a0) else ((ctrl_Ctrl_fits a0 a2).bind fun r3 =>
    (if (!r3) then some (!r3) else (ctrl_Ctrl_fits a0 (orI .u64 a0.known a2)).bind fun r5 =>
    some (!r5))).bind fun y6 =>
    (if y6 then some (31, a0) else (events_List (andNotI .u64 a2 a0.known)).bind fun r9 =>
    (gapp a0.order r9).bind fun l10 =>
    (gat a0.peers a1).bind fun x11 =>
    (gput a0.peers a1 (ctrl_peer.mk a2 x11.told)).bind fun l12 =>
    some (0, (ctrl_Ctrl.mk a0.n_ (orI .u64 a0.known a2) l12 l10))))

/- (*pointsman/ctrl.Ctrl).Tell -/
def ctrl_Ctrl_Tell (a0 : ctrl_Ctrl) (a1 : Int) : Option (Int × Int × ctrl_Ctrl) :=
  (ctrl_Ctrl_has a0 a1).bind fun r1 =>
    (if (!r1) then some (0, 1, a0) else (gat a0.peers a1).bind fun x3 =>
    (gput a0.peers a1 (ctrl_peer.mk x3.heard a0.known)).bind fun l4 =>
    some (a0.known, 0, (ctrl_Ctrl.mk a0.n_ a0.known l4 a0.order)))

/- (*pointsman/ctrl.Ctrl).Known -/
def ctrl_Ctrl_Known (a0 : ctrl_Ctrl) : Option Int :=
  some a0.known

/- (*pointsman/ctrl.Ctrl).Tag -/
def ctrl_Ctrl_Tag (a0 : ctrl_Ctrl) : Option Int :=
  (nes_Tag a0.n_ a0.known).bind fun r1 =>
    some r1.1

/- slices.Clone[[]int,int] -/
def slices_Clone_int (a0 : List Int) : Option (List Int) :=
  (gapp ([] : List Int) a0).bind fun l1 => some l1

/- (*pointsman/ctrl.Ctrl).Order -/
def ctrl_Ctrl_Order (a0 : ctrl_Ctrl) : Option ((List Int) × ctrl_Ctrl) :=
  (slices_Clone_int a0.order).bind fun r1 =>
    some (r1, a0)

/- pointsman/pointsmanlaw18.awake -/
def law18_awake  : Option Bool :=
  (ctrl_New (api_Nes.mk ([(api_Event.mk 0 0)] : List api_Event) ([0, 1] : List Int) ([([0] : List Int), ([1] : List Int)] : List (List Int))) 2).bind fun r1 =>
    (ctrl_Ctrl_Hear r1 0 1).bind fun r2 =>
    (ctrl_Ctrl_Hear r2.2 0 2).bind fun r3 =>
    (ctrl_Ctrl_Tell r3.2 1).bind fun r4 =>
    ((if (r2.1 == 0) then (if (r3.1 == 31) then (if (r4.2.1 == 0) then (if (r4.1 == 1) then (ctrl_Ctrl_Known r4.2.2).bind fun r9 =>
    (if (r9 == 1) then (ctrl_Ctrl_Tag r4.2.2).bind fun r11 =>
    (if (r11 == 1) then (ctrl_Ctrl_Order r4.2.2).bind fun r13 =>
    some ((r13.1.length : Int) == 1) else some false) else some false) else some false) else some false) else some false) else some false)).bind fun y14 =>
    some y14

/- pointsman/pointsmanlaw11.Small -/
def law11_Small_b1 (a0 : api_Program) (i3 : Int) : Unit → Option (Br Unit Bool)
  | () =>
  (gat a0.Rules i3).bind fun x9 =>
    (if ((decide ((x9.When.length : Int) > 8)) || ((decide ((x9.Guard.length : Int) > 6)) || (decide ((x9.Then.length : Int) > 6)))) then some (Br.ret false) else some (.next ()))

def law11_Small (a0 : api_Program) : Option Bool :=
  (if ((decide ((a0.Init.length : Int) > 5)) || (decide ((a0.Rules.length : Int) > 26))) then some false else (forR (law11_Small_b1 a0) (irange 0 (a0.Rules.length : Int)) ()).bind fun q13 => match q13 with
    | .ret r => some r
    | .done () =>
    some true)

/- pointsman/pointsmanref05.Size -/
def ref05_Size_b1 (a0 : api_Pol) (self : api_Pol → Option Int) (i2 : Int) : Int → Option Int
  | i1 =>
  (gat a0.Kids i2).bind fun x8 =>
    (self x8).bind fun r9 =>
    some (IntKind.i64.wrap (i1 + r9))

def ref05_Size_s (self : api_Pol → Option Int) (a0 : api_Pol) : Option Int :=
  (forO (ref05_Size_b1 a0 self) (irange 0 (a0.Kids.length : Int)) 1).bind fun z10 =>
    some z10

def ref05_Size_f : Nat → api_Pol → Option Int
  | 0 => fun _ => none
  | k + 1 => ref05_Size_s (ref05_Size_f k)

def ref05_Size (a0 : api_Pol) : Option Int := ref05_Size_f FUEL a0

/- pointsman/pointsmanref05.Depth -/
def ref05_Depth_b1 (a0 : api_Pol) (self : api_Pol → Option Int) (i2 : Int) : Int → Option Int
  | i1 =>
  (gat a0.Kids i2).bind fun x8 =>
    (self x8).bind fun r9 =>
    some (imax i1 r9)

def ref05_Depth_s (self : api_Pol → Option Int) (a0 : api_Pol) : Option Int :=
  (forO (ref05_Depth_b1 a0 self) (irange 0 (a0.Kids.length : Int)) 0).bind fun z10 =>
    some (IntKind.i64.wrap (z10 + 1))

def ref05_Depth_f : Nat → api_Pol → Option Int
  | 0 => fun _ => none
  | k + 1 => ref05_Depth_s (ref05_Depth_f k)

def ref05_Depth (a0 : api_Pol) : Option Int := ref05_Depth_f FUEL a0

/- pointsman/pointsmanref05.Predicate -/
def ref05_Predicate_b1 (a0 : api_Pol) (self : api_Pol → Option Bool) (i6 : Int) : Unit → Option (Br Unit (Unit ⊕ Bool))
  | () =>
  (gat a0.Kids i6).bind fun x12 =>
    (self x12).bind fun r13 =>
    (if (!r13) then some (Br.ret (Sum.inr false)) else some (.next ()))

def ref05_Predicate_s (self : api_Pol → Option Bool) (a0 : api_Pol) : Option Bool :=
  (if ((a0.Op == 5) || ((decide (a0.Op < 0)) || (decide (a0.Op > 7)))) then some false else ((if ((a0.Op == 6) || (a0.Op == 7)) then (forR (ref05_Predicate_b1 a0 self) (irange 0 (a0.Kids.length : Int)) ()).bind fun q15 => match q15 with
    | .ret r => some r
    | .done () =>
    some (.inl ()) else some (.inl ()))).bind fun q16 => match q16 with
    | .inr r => some r
    | .inl () =>
    some true)

def ref05_Predicate_f : Nat → api_Pol → Option Bool
  | 0 => fun _ => none
  | k + 1 => ref05_Predicate_s (ref05_Predicate_f k)

def ref05_Predicate (a0 : api_Pol) : Option Bool := ref05_Predicate_f FUEL a0

/- pointsman/pointsmanref05.formed -/
def ref05_formed_b1 (a0 : api_Pol) (a1 : Int) (self : api_Pol → Int → Option Bool) (i33 : Int) : Unit → Option (Br Unit Bool)
  | () =>
  (gat a0.Kids i33).bind fun x39 =>
    (self x39 a1).bind fun r40 =>
    (if (!r40) then some (Br.ret false) else some (.next ()))

def ref05_formed_s (self : api_Pol → Int → Option Bool) (a0 : api_Pol) (a1 : Int) : Option Bool :=
  ((if (a0.Op == 0) then some (a0.Op == 0) else some (a0.Op == 1))).bind fun y2 =>
    (if y2 then some (((a0.Kids.length : Int) == 0) && ((a0.F == 0) && (a0.N == 0))) else (if (a0.Op == 2) then some (((a0.Kids.length : Int) == 0) && ((decide (a0.F ≥ 0)) && (decide (a0.F < 8)))) else (if (a0.Op == 3) then some (((a0.Kids.length : Int) == 0) && ((decide (a0.F ≥ 0)) && (decide (a0.F < a1)))) else (if (a0.Op == 5) then some (((a0.Kids.length : Int) == 0) && ((decide (a0.F ≥ 1)) && (decide (a0.F < 8)))) else (if (a0.Op == 4) then ((if ((a0.Kids.length : Int) == 1) then (if (a0.F == 0) then (if (a0.N == 0) then (gat a0.Kids 0).bind fun x20 =>
    (ref05_Predicate x20).bind fun r21 =>
    (if r21 then (self x20 a1).bind fun r23 =>
    some r23 else some false) else some false) else some false) else some false)).bind fun y24 =>
    some y24 else ((if (a0.Op == 6) then some (a0.Op == 6) else some (a0.Op == 7))).bind fun y27 =>
    (if y27 then (if ((decide ((a0.Kids.length : Int) < 2)) || ((a0.F != 0) || (a0.N != 0))) then some false else (forR (ref05_formed_b1 a0 a1 self) (irange 0 (a0.Kids.length : Int)) ()).bind fun q42 => match q42 with
    | .ret r => some r
    | .done () =>
    some true) else some false))))))

def ref05_formed_f : Nat → api_Pol → Int → Option Bool
  | 0 => fun _ _ => none
  | k + 1 => ref05_formed_s (ref05_formed_f k)

def ref05_formed (a0 : api_Pol) (a1 : Int) : Option Bool := ref05_formed_f FUEL a0 a1

/- pointsman/pointsmanref05.rising -/
def ref05_rising_b1 (a0 : (List api_Pair)) (a1 : Int) (i1 : Int) : Unit → Option (Br Unit Bool)
  | () =>
  (gat a0 i1).bind fun x7 =>
    ((if decide (x7.F < 0) then some true else (if decide (x7.F ≥ a1) then some true else (if decide (i1 > 0) then (gat a0 (IntKind.i64.wrap (i1 - 1))).bind fun x11 =>
    some (decide (x11.F ≥ x7.F)) else some false)))).bind fun y12 =>
    (if y12 then some (Br.ret false) else some (.next ()))

def ref05_rising (a0 : (List api_Pair)) (a1 : Int) : Option Bool :=
  (forR (ref05_rising_b1 a0 a1) (irange 0 (a0.length : Int)) ()).bind fun q15 => match q15 with
    | .ret r => some r
    | .done () =>
    some true

/- pointsman/pointsmanref05.Check -/
def ref05_Check_b1 (a0 : api_Program) (i12 : Int) : Unit → Option (Br Unit Int)
  | () =>
  (gat a0.Rules i12).bind fun x18 =>
    ((if decide ((x18.When.length : Int) < 2) then some true else (gat x18.When 0).bind fun x20 =>
    (if (x20.F != 0) then some true else (gat x18.When 1).bind fun x22 =>
    (if (x22.F != 1) then some true else (ref05_rising x18.When 8).bind fun r24 =>
    (if (!r24) then some true else (ref05_rising x18.Guard (a0.Init.length : Int)).bind fun r26 =>
    (if (!r26) then some true else (ref05_rising x18.Then (a0.Init.length : Int)).bind fun r28 =>
    (if (!r28) then some true else some ((x18.Then.length : Int) == 0)))))))).bind fun y30 =>
    (if y30 then some (Br.ret 11) else some (.next ()))

def ref05_Check (a0 : api_Program) : Option Int :=
  ((if decide ((a0.Init.length : Int) < 1) then some true else (if decide ((a0.Init.length : Int) > 4) then some true else (ref05_Size a0.Pol).bind fun r3 =>
    (if decide (r3 > 300) then some true else (ref05_Depth a0.Pol).bind fun r5 =>
    (if decide (r5 > 20) then some true else some (decide ((a0.Rules.length : Int) > 24))))))).bind fun y7 =>
    (if y7 then some 2 else (ref05_formed a0.Pol (a0.Init.length : Int)).bind fun r10 =>
    (if (!r10) then some 11 else (forR (ref05_Check_b1 a0) (irange 0 (a0.Rules.length : Int)) ()).bind fun q33 => match q33 with
    | .ret r => some r
    | .done () =>
    some 0))

/- pointsman/pointsmanref11.Goes -/
def ref11_Goes_b1 (a0 : api_Rule) (a1 : (List Int)) (i1 : Int) : Unit → Option (Br Unit Bool)
  | () =>
  (gat a0.Guard i1).bind fun x7 =>
    ((if decide (x7.F < 0) then some true else (if decide (x7.F ≥ (a1.length : Int)) then some true else (gat a1 x7.F).bind fun x10 =>
    some (x10 != x7.N)))).bind fun y11 =>
    (if y11 then some (Br.ret false) else some (.next ()))

def ref11_Goes (a0 : api_Rule) (a1 : (List Int)) : Option Bool :=
  (forR (ref11_Goes_b1 a0 a1) (irange 0 (a0.Guard.length : Int)) ()).bind fun q14 => match q14 with
    | .ret r => some r
    | .done () =>
    some true

/- pointsman/pointsmanref11.After -/
def ref11_After_b1 (a0 : api_Rule) (i3 : Int) : (List Int) → Option (List Int)
  | l2 =>
  ((gat a0.Then i3).bind fun x9 =>
    (if ((decide (x9.F ≥ 0)) && (decide (x9.F < (l2.length : Int)))) then (gat l2 x9.F).bind fun x12 =>
    (gput l2 x9.F x9.N).bind fun l13 =>
    some l13 else some l2)).bind fun l14 =>
    some l14

def ref11_After (a0 : api_Rule) (a1 : (List Int)) : Option (List Int) :=
  (gapp ([] : List Int) a1).bind fun l1 =>
    (forO (ref11_After_b1 a0) (irange 0 (a0.Then.length : Int)) l1).bind fun z16 =>
    some z16

/- pointsman/pointsmanref11.Same -/
def ref11_Same_b1 (a0 : (List Int)) (a1 : (List Int)) (i2 : Int) : Unit → Option (Br Unit Bool)
  | () =>
  (gat a0 i2).bind fun x8 =>
    (gat a1 i2).bind fun x9 =>
    (if (x8 != x9) then some (Br.ret false) else some (.next ()))

def ref11_Same (a0 : (List Int)) (a1 : (List Int)) : Option Bool :=
  (if ((a0.length : Int) != (a1.length : Int)) then some false else (forR (ref11_Same_b1 a0 a1) (irange 0 (a0.length : Int)) ()).bind fun q11 => match q11 with
    | .ret r => some r
    | .done () =>
    some true)

/- pointsman/pointsmanref11.Find -/
def ref11_Find_b1 (a0 : (List (List Int))) (a1 : (List Int)) (i1 : Int) : Unit → Option (Br Unit Int)
  | () =>
  (gat a0 i1).bind fun x7 =>
    (ref11_Same x7 a1).bind fun r8 =>
    (if r8 then some (Br.ret i1) else some (.next ()))

def ref11_Find (a0 : (List (List Int))) (a1 : (List Int)) : Option Int :=
  (forR (ref11_Find_b1 a0 a1) (irange 0 (a0.length : Int)) ()).bind fun q10 => match q10 with
    | .ret r => some r
    | .done () =>
    some (-1)

/- pointsman/pointsmanref11.round -/
def ref11_round_b3 (a0 : api_Space) (l9 : (List Bool)) (i10 : Int) (i17 : Int) : Bool → Option Bool
  | y16 =>
  ((gat a0.Edges i17).bind fun x23 =>
    ((if (x23.From == i10) then (gat l9 x23.To).bind fun x25 =>
    some (!x25) else some false)).bind fun y26 =>
    (if y26 then some false else some y16)).bind fun y29 =>
    some y29

def ref11_round_b2 (a0 : api_Space) (i10 : Int) : (List Bool) → Option (List Bool)
  | l9 =>
  (forO (ref11_round_b3 a0 l9 i10) (irange 0 (a0.Edges.length : Int)) true).bind fun z31 =>
    (gat l9 i10).bind fun x32 =>
    ((if x32 then (gput l9 i10 true).bind fun l34 =>
    some l34 else (gput l9 i10 z31).bind fun l35 =>
    some l35)).bind fun l36 =>
    some l36

def ref11_round_b1 (a0 : api_Space) (i3 : Int) : (List Bool) → Option (List Bool)
  | l2 =>
  (forO (ref11_round_b2 a0) (irange 0 (a0.States.length : Int)) l2).bind fun z39 =>
    some z39

def ref11_round_b4 (z41 : (List Bool)) (i42 : Int) : Unit → Option (Br Unit Bool)
  | () =>
  (gat z41 i42).bind fun x48 =>
    (if (!x48) then some (Br.ret true) else some (.next ()))

def ref11_round (a0 : api_Space) : Option Bool :=
  (gmk (a0.States.length : Int) false).bind fun l1 =>
    (forO (ref11_round_b1 a0) (irange 0 (a0.States.length : Int)) l1).bind fun z41 =>
    (forR (ref11_round_b4 z41) (irange 0 (z41.length : Int)) ()).bind fun q50 => match q50 with
    | .ret r => some r
    | .done () =>
    some false

/- pointsman/pointsmanref11.Explore -/
def ref11_Explore_b2 (a0 : api_Program) (i6 : Int) (i11 : Int) : ((List (List Int)) × (List api_Edge)) → Option (Br ((List (List Int)) × (List api_Edge)) (Br ((List (List Int)) × (List api_Edge) × Int) (api_Space × Int)))
  | (l9, l10) =>
  (((gat a0.Rules i11).bind fun x17 =>
    (gat l9 i6).bind fun x18 =>
    (ref11_Goes x17 x18).bind fun r19 =>
    (if (!r19) then some (.inl (l9, l10)) else (ref11_After x17 x18).bind fun r21 =>
    (ref11_Same r21 x18).bind fun r22 =>
    (if r22 then some (.inl (l9, l10)) else (ref11_Find l9 r21).bind fun r24 =>
    ((if decide (r24 < 0) then (gapp l9 ([r21] : List (List Int))).bind fun l26 =>
    some (l26, (l9.length : Int)) else some (l9, r24))).bind fun (l27, y28) =>
    (if decide ((l27.length : Int) > 128) then some (Sum.inr (Br.ret (Br.ret ((api_Space.mk [] []), 21)))) else (gapp l10 ([(api_Edge.mk i6 i11 y28)] : List api_Edge)).bind fun l31 =>
    some (.inl (l27, l31))))) : Option (((List (List Int)) × (List api_Edge)) ⊕ (Br ((List (List Int)) × (List api_Edge)) (Br ((List (List Int)) × (List api_Edge) × Int) (api_Space × Int)))))).bind fun q34 => match q34 with
    | .inr r => some r
    | .inl (l32, l33) =>
    some (.next (l32, l33))

def ref11_Explore_b1 (a0 : api_Program) : ((List (List Int)) × (List api_Edge) × Int) → Option (Br ((List (List Int)) × (List api_Edge) × Int) (api_Space × Int))
  | (l4, l5, i6) =>
  (if decide (i6 < (l4.length : Int)) then (forR (ref11_Explore_b2 a0 i6) (irange 0 (a0.Rules.length : Int)) (l4, l5)).bind fun q37 => match q37 with
    | .ret r => some r
    | .done (z35, z36) =>
    some (.next (z35, z36, IntKind.i64.wrap (i6 + 1))) else some (.brk (l4, l5, i6)))

def ref11_Explore (a0 : api_Program) : Option (api_Space × Int) :=
  (ref05_Check a0).bind fun r1 =>
    (if (r1 != 0) then some ((api_Space.mk [] []), r1) else (gapp ([] : List Int) a0.Init).bind fun l3 =>
    (whR (ref11_Explore_b1 a0) FUEL (([l3] : List (List Int)), ([] : List api_Edge), 0)).bind fun q43 => match q43 with
    | .ret r => some r
    | .done (z38, z39, z40) =>
    (ref11_round (api_Space.mk z38 z39)).bind fun r41 =>
    (if r41 then some ((api_Space.mk [] []), 20) else some ((api_Space.mk z38 z39), 0)))

/- pointsman/pointsmanref02.pow -/
def ref02_pow_b1 (i2 : Int) : Int → Option Int
  | i1 =>
  some (IntKind.u64.wrap (2 * i1))

def ref02_pow (a0 : Int) : Option Int :=
  (forO ref02_pow_b1 (irange 0 a0) 1).bind fun z8 =>
    some z8

/- pointsman/pointsmanref02.Has -/
def ref02_Has (a0 : Int) (a1 : Int) : Option Bool :=
  ((if decide (a1 ≥ 0) then (if decide (a1 < 64) then (ref02_pow a1).bind fun r3 =>
    (quoI .u64 a0 r3).bind fun q4 =>
    some ((q4.tmod 2) == 1) else some false) else some false)).bind fun y5 =>
    some y5

/- pointsman/pointsmanref12.times -/
def ref12_times_b1 (a0 : api_Nes) (a1 : Int) (a2 : Int) (i2 : Int) : Int → Option Int
  | i1 =>
  ((gat a0.Events i2).bind fun x8 =>
    ((if (x8.Rule == a2) then (ref02_Has a1 i2).bind fun r10 =>
    some r10 else some false)).bind fun y11 =>
    (if y11 then some (IntKind.i64.wrap (i1 + 1)) else some i1)).bind fun y14 =>
    some y14

def ref12_times (a0 : api_Nes) (a1 : Int) (a2 : Int) : Option Int :=
  (forO (ref12_times_b1 a0 a1 a2) (irange 0 (a0.Events.length : Int)) 0).bind fun z16 =>
    some z16

/- pointsman/pointsmanref12.find -/
def ref12_find_b1 (a0 : (List api_Event)) (a1 : api_Event) (i1 : Int) : Unit → Option (Br Unit Int)
  | () =>
  (gat a0 i1).bind fun x7 =>
    (if (x7 == a1) then some (Br.ret i1) else some (.next ()))

def ref12_find (a0 : (List api_Event)) (a1 : api_Event) : Option Int :=
  (forR (ref12_find_b1 a0 a1) (irange 0 (a0.length : Int)) ()).bind fun q9 => match q9 with
    | .ret r => some r
    | .done () =>
    some (-1)

/- pointsman/pointsmanref02.With -/
def ref02_With (a0 : Int) (a1 : Int) : Option Int :=
  ((if decide (a1 < 0) then some true else (if decide (a1 > 63) then some true else (ref02_Has a0 a1).bind fun r3 =>
    some r3))).bind fun y4 =>
    (if y4 then some a0 else (ref02_pow a1).bind fun r7 =>
    some (IntKind.u64.wrap (a0 + r7)))

/- pointsman/pointsmanref12.Tag -/
def ref12_Tag_b1 (a0 : api_Nes) (a1 : Int) (i1 : Int) : Unit → Option (Br Unit Int)
  | () =>
  (gat a0.Sets i1).bind fun x7 =>
    (if (x7 == a1) then some (Br.ret i1) else some (.next ()))

def ref12_Tag (a0 : api_Nes) (a1 : Int) : Option Int :=
  (forR (ref12_Tag_b1 a0 a1) (irange 0 (a0.Sets.length : Int)) ()).bind fun q9 => match q9 with
    | .ret r => some r
    | .done () =>
    some (-1)

/- pointsman/pointsmanref12.sets -/
def ref12_sets_b2 (a1 : api_Space) (i5 : Int) (r9 : Int) (i13 : Int) : ((List api_Event) × (List Int) × (List (List Int))) → Option (Br ((List api_Event) × (List Int) × (List (List Int))) (Br ((List api_Event) × (List Int) × (List (List Int)) × Int) (api_Nes × Int)))
  | (l10, l11, l12) =>
  (((gat a1.Edges i13).bind fun x19 =>
    (if (x19.From != r9) then some (.inl (l10, l11, l12)) else (gat l11 i5).bind fun x21 =>
    (ref12_times (api_Nes.mk l10 l11 l12) x21 x19.Rule).bind fun r22 =>
    (ref12_find l10 (api_Event.mk x19.Rule r22)).bind fun r23 =>
    ((if decide (r23 < 0) then (gapp l10 ([(api_Event.mk x19.Rule r22)] : List api_Event)).bind fun l25 =>
    some (l25, (l10.length : Int)) else some (l10, r23))).bind fun (l26, y27) =>
    (if decide (y27 > 63) then some (Sum.inr (Br.ret (Br.ret ((api_Nes.mk [] [] []), 21)))) else (ref02_With x21 y27).bind fun r30 =>
    (ref12_Tag (api_Nes.mk l26 l11 l12) r30).bind fun r31 =>
    (if decide (r31 ≥ 0) then (gat l12 r31).bind fun x33 =>
    (gat a1.States x19.To).bind fun x34 =>
    (ref11_Same x33 x34).bind fun r35 =>
    (if (!r35) then some (Sum.inr (Br.ret (Br.ret ((api_Nes.mk [] [] []), 22)))) else some (.inl (l26, l11, l12))) else (gapp l11 ([r30] : List Int)).bind fun l37 =>
    (gat a1.States x19.To).bind fun x38 =>
    (gapp l12 ([x38] : List (List Int))).bind fun l39 =>
    (if decide ((l37.length : Int) > 256) then some (Sum.inr (Br.ret (Br.ret ((api_Nes.mk [] [] []), 21)))) else some (.inl (l26, l37, l39)))))) : Option (((List api_Event) × (List Int) × (List (List Int))) ⊕ (Br ((List api_Event) × (List Int) × (List (List Int))) (Br ((List api_Event) × (List Int) × (List (List Int)) × Int) (api_Nes × Int)))))).bind fun q44 => match q44 with
    | .inr r => some r
    | .inl (l41, l42, l43) =>
    some (.next (l41, l42, l43))

def ref12_sets_b1 (a1 : api_Space) : ((List api_Event) × (List Int) × (List (List Int)) × Int) → Option (Br ((List api_Event) × (List Int) × (List (List Int)) × Int) (api_Nes × Int))
  | (l2, l3, l4, i5) =>
  (if decide (i5 < (l3.length : Int)) then (gat l4 i5).bind fun x8 =>
    (ref11_Find a1.States x8).bind fun r9 =>
    (forR (ref12_sets_b2 a1 i5 r9) (irange 0 (a1.Edges.length : Int)) (l2, l3, l4)).bind fun q48 => match q48 with
    | .ret r => some r
    | .done (z45, z46, z47) =>
    some (.next (z45, z46, z47, IntKind.i64.wrap (i5 + 1))) else some (.brk (l2, l3, l4, i5)))

def ref12_sets (a0 : api_Program) (a1 : api_Space) : Option (api_Nes × Int) :=
  (gat a1.States 0).bind fun x1 =>
    (whR (ref12_sets_b1 a1) FUEL (([] : List api_Event), ([0] : List Int), ([x1] : List (List Int)), 0)).bind fun q53 => match q53 with
    | .ret r => some r
    | .done (z49, z50, z51, z52) =>
    some ((api_Nes.mk z49 z50 z51), 0)

/- pointsman/pointsmanref12.leads -/
def ref12_leads_b1 (a0 : api_Space) (a1 : Int) (a2 : (List Int)) (a3 : (List Int)) (i1 : Int) : Unit → Option (Br Unit Bool)
  | () =>
  (gat a0.Edges i1).bind fun x7 =>
    ((if (x7.Rule == a1) then (gat a0.States x7.From).bind fun x9 =>
    (ref11_Same x9 a2).bind fun r10 =>
    (if r10 then (gat a0.States x7.To).bind fun x12 =>
    (ref11_Same x12 a3).bind fun r13 =>
    some r13 else some false) else some false)).bind fun y14 =>
    (if y14 then some (Br.ret true) else some (.next ()))

def ref12_leads (a0 : api_Space) (a1 : Int) (a2 : (List Int)) (a3 : (List Int)) : Option Bool :=
  (forR (ref12_leads_b1 a0 a1 a2 a3) (irange 0 (a0.Edges.length : Int)) ()).bind fun q17 => match q17 with
    | .ret r => some r
    | .done () =>
    some false

/- pointsman/pointsmanref12.Consistent -/
def ref12_Consistent_b1 (a0 : api_Nes) (a1 : Int) (i1 : Int) : Unit → Option (Br Unit Bool)
  | () =>
  (gat a0.Sets i1).bind fun x7 =>
    (if ((andI .u64 a1 x7) == a1) then some (Br.ret true) else some (.next ()))

def ref12_Consistent (a0 : api_Nes) (a1 : Int) : Option Bool :=
  (forR (ref12_Consistent_b1 a0 a1) (irange 0 (a0.Sets.length : Int)) ()).bind fun q9 => match q9 with
    | .ret r => some r
    | .done () =>
    some false

/- pointsman/pointsmanref12.family -/
def ref12_family_b2 (a0 : api_Nes) (a1 : api_Space) (i1 : Int) (i7 : Int) : Unit → Option (Br Unit (Br Unit Bool))
  | () =>
  (gat a0.Sets i1).bind fun x13 =>
    (ref02_With x13 i7).bind fun r14 =>
    (ref12_Tag a0 r14).bind fun r15 =>
    ((if decide (r15 ≥ 0) then (if (r15 != i1) then (gat a0.Events i7).bind fun x18 =>
    (gat a0.States i1).bind fun x19 =>
    (gat a0.States r15).bind fun x20 =>
    (ref12_leads a1 x18.Rule x19 x20).bind fun r21 =>
    some (!r21) else some false) else some false)).bind fun y22 =>
    (if y22 then some (Br.ret (Br.ret false)) else some (.next ()))

def ref12_family_b3 (a0 : api_Nes) (i1 : Int) (i25 : Int) : Unit → Option (Br Unit (Br Unit Bool))
  | () =>
  (gat a0.Sets i1).bind fun x31 =>
    (gat a0.Sets i25).bind fun x32 =>
    (ref12_Tag a0 (orI .u64 x31 x32)).bind fun r33 =>
    ((if decide (r33 < 0) then (ref12_Consistent a0 (orI .u64 x31 x32)).bind fun r35 =>
    some r35 else some false)).bind fun y36 =>
    (if y36 then some (Br.ret (Br.ret false)) else some (.next ()))

def ref12_family_b1 (a0 : api_Nes) (a1 : api_Space) (i1 : Int) : Unit → Option (Br Unit Bool)
  | () =>
  (forR (ref12_family_b2 a0 a1 i1) (irange 0 (a0.Events.length : Int)) ()).bind fun q40 => match q40 with
    | .ret r => some r
    | .done () =>
    (forR (ref12_family_b3 a0 i1) (irange 0 i1) ()).bind fun q39 => match q39 with
    | .ret r => some r
    | .done () =>
    some (.next ())

def ref12_family (a0 : api_Nes) (a1 : api_Space) : Option Bool :=
  (forR (ref12_family_b1 a0 a1) (irange 0 (a0.Sets.length : Int)) ()).bind fun q41 => match q41 with
    | .ret r => some r
    | .done () =>
    some true

/- pointsman/pointsmanref12.Switch -/
def ref12_Switch_b1 (x9 : api_Rule) (i10 : Int) : Unit → Option (Br Unit Int)
  | () =>
  (gat x9.When i10).bind fun x16 =>
    (if (x16.F == 0) then some (Br.ret (IntKind.i64.wrap x16.N)) else some (.next ()))

def ref12_Switch (a0 : api_Program) (a1 : api_Nes) (a2 : Int) : Option Int :=
  ((if decide (a2 < 0) then some true else (if decide (a2 ≥ (a1.Events.length : Int)) then some true else (gat a1.Events a2).bind fun x3 =>
    (if decide (x3.Rule < 0) then some true else some (decide (x3.Rule ≥ (a0.Rules.length : Int))))))).bind fun y5 =>
    (if y5 then some (-1) else (gat a1.Events a2).bind fun x8 =>
    (gat a0.Rules x8.Rule).bind fun x9 =>
    (forR (ref12_Switch_b1 x9) (irange 0 (x9.When.length : Int)) ()).bind fun q18 => match q18 with
    | .ret r => some r
    | .done () =>
    some (-1))

/- pointsman/pointsmanref12.add -/
def ref12_add_b1 (a0 : (List Int)) (a1 : Int) (i1 : Int) : Unit → Option (Br Unit (List Int))
  | () =>
  (gat a0 i1).bind fun x7 =>
    (if (x7 == a1) then some (Br.ret a0) else some (.next ()))

def ref12_add (a0 : (List Int)) (a1 : Int) : Option (List Int) :=
  (forR (ref12_add_b1 a0 a1) (irange 0 (a0.length : Int)) ()).bind fun q10 => match q10 with
    | .ret r => some r
    | .done () =>
    (gapp a0 ([a1] : List Int)).bind fun l9 =>
    some l9

/- pointsman/pointsmanref12.parts -/
def ref12_parts_b2 (l1 : (List Int)) (r9 : Int) : Int → Option (Int ⊕ Int)
  | i10 =>
  ((if decide (i10 < (l1.length : Int)) then (gat l1 i10).bind fun x13 =>
    some (x13 != r9) else some false)).bind fun y14 =>
    (if y14 then some (.inl (IntKind.i64.wrap (i10 + 1))) else some (.inr i10))

def ref12_parts_b1 (a0 : api_Program) (a1 : api_Nes) (i3 : Int) : ((List Int) × (List Int)) → Option ((List Int) × (List Int))
  | (l1, l2) =>
  (ref12_Switch a0 a1 i3).bind fun r9 =>
    (whK (ref12_parts_b2 l1 r9) FUEL 0).bind fun z17 =>
    ((if (z17 == (l1.length : Int)) then (gapp l1 ([r9] : List Int)).bind fun l19 =>
    (gapp l2 ([0] : List Int)).bind fun l20 =>
    some (l19, l20) else some (l1, l2))).bind fun (l21, l22) =>
    (gat l22 z17).bind fun x24 =>
    (ref02_With x24 i3).bind fun r25 =>
    (gput l22 z17 r25).bind fun l26 =>
    some (l21, l26)

def ref12_parts_b5 (a1 : api_Nes) (i38 : Int) (i45 : Int) : Bool → Option Bool
  | y44 =>
  ((if y44 then (if (i45 == i38) then some true else (gat a1.Sets i38).bind fun x53 =>
    (gat a1.Sets i45).bind fun x54 =>
    some ((andI .u64 x53 x54) != x53)) else some false)).bind fun y55 =>
    some y55

def ref12_parts_b4 (a1 : api_Nes) (z29 : (List Int)) (i31 : Int) (i38 : Int) : (List Int) → Option (List Int)
  | l37 =>
  ((forO (ref12_parts_b5 a1 i38) (irange 0 (a1.Sets.length : Int)) true).bind fun z57 =>
    (if z57 then (gat a1.Sets i38).bind fun x59 =>
    (gat z29 i31).bind fun x60 =>
    (ref12_add l37 (andI .u64 x59 x60)).bind fun r61 =>
    some r61 else some l37)).bind fun l63 =>
    some l63

def ref12_parts_b3 (a1 : api_Nes) (z29 : (List Int)) (i31 : Int) : (List (List Int)) → Option (List (List Int))
  | l30 =>
  (forO (ref12_parts_b4 a1 z29 i31) (irange 0 (a1.Sets.length : Int)) ([] : List Int)).bind fun z65 =>
    (gapp l30 ([z65] : List (List Int))).bind fun l66 =>
    some l66

def ref12_parts (a0 : api_Program) (a1 : api_Nes) : Option (List (List Int)) :=
  (forO (ref12_parts_b1 a0 a1) (irange 0 (a1.Events.length : Int)) (([] : List Int), ([] : List Int))).bind fun (z28, z29) =>
    (forO (ref12_parts_b3 a1 z29) (irange 0 (z29.length : Int)) ([] : List (List Int))).bind fun z68 =>
    some z68

/- pointsman/pointsmanref12.local -/
def ref12_local_b1 (r1 : (List (List Int))) (i3 : Int) : Int → Option Int
  | i2 =>
  (gat r1 i3).bind fun x9 =>
    some (imin (IntKind.i64.wrap (i2 * (x9.length : Int))) 20001)

def ref12_local_b4 (y12 : (List Int)) (i20 : Int) (x28 : (List Int)) (i27 : Int) : (List Int) → Option (List Int)
  | l26 =>
  (gat y12 i20).bind fun x34 =>
    (gat x28 i27).bind fun x35 =>
    (gapp l26 ([orI .u64 x34 x35] : List Int)).bind fun l36 =>
    some l36

def ref12_local_b3 (r1 : (List (List Int))) (y12 : (List Int)) (i13 : Int) (i20 : Int) : (List Int) → Option (List Int)
  | l19 =>
  (gat r1 i13).bind fun x28 =>
    (forO (ref12_local_b4 y12 i20 x28) (irange 0 (x28.length : Int)) l19).bind fun z37 =>
    some z37

def ref12_local_b2 (r1 : (List (List Int))) (i13 : Int) : (List Int) → Option (List Int)
  | y12 =>
  (forO (ref12_local_b3 r1 y12 i13) (irange 0 (y12.length : Int)) ([] : List Int)).bind fun z39 =>
    some z39

def ref12_local_b5 (a1 : api_Nes) (z41 : (List Int)) (i42 : Int) : Unit → Option (Br Unit Int)
  | () =>
  (gat z41 i42).bind fun x48 =>
    (ref12_Consistent a1 x48).bind fun r49 =>
    (if (!r49) then some (Br.ret 23) else some (.next ()))

def ref12_local (a0 : api_Program) (a1 : api_Nes) : Option Int :=
  (ref12_parts a0 a1).bind fun r1 =>
    (forO (ref12_local_b1 r1) (irange 0 (r1.length : Int)) 1).bind fun z10 =>
    (if decide (z10 > 20000) then some 21 else (forO (ref12_local_b2 r1) (irange 0 (r1.length : Int)) ([0] : List Int)).bind fun z41 =>
    (forR (ref12_local_b5 a1 z41) (irange 0 (z41.length : Int)) ()).bind fun q51 => match q51 with
    | .ret r => some r
    | .done () =>
    some 0)

/- pointsman/pointsmanref12.Of -/
def ref12_Of (a0 : api_Program) : Option (api_Nes × Int) :=
  (ref11_Explore a0).bind fun r1 =>
    (if (r1.2 != 0) then some ((api_Nes.mk [] [] []), r1.2) else (ref12_sets a0 r1.1).bind fun r3 =>
    (if (r3.2 != 0) then some ((api_Nes.mk [] [] []), r3.2) else (ref12_family r3.1 r1.1).bind fun r5 =>
    (if (!r5) then some ((api_Nes.mk [] [] []), 22) else (ref12_local a0 r3.1).bind fun r7 =>
    (if (r7 != 0) then some ((api_Nes.mk [] [] []), r7) else some (r3.1, 0)))))

/- pointsman/pointsmanref18.New -/
def ref18_New (a0 : api_Nes) (a1 : Int) : Option ref18_Ctrl :=
  (gmk (imin (imax a1 0) 12) 0).bind fun l1 =>
    some (ref18_Ctrl.mk a0 0 l1 l1 [])

/- (pointsman/pointsmanref18.Ctrl).Tell -/
def ref18_Ctrl_Tell (a0 : ref18_Ctrl) (a1 : Int) : Option (ref18_Ctrl × Int × Int) :=
  (if ((decide (a1 < 0)) || (decide (a1 ≥ (a0.Told.length : Int)))) then some (a0, 0, 1) else (gapp ([] : List Int) a0.Told).bind fun l3 =>
    (gat l3 a1).bind fun x4 =>
    (gput l3 a1 a0.Known).bind fun l5 =>
    some ((ref18_Ctrl.mk a0.N a0.Known a0.Heard l5 a0.Order), a0.Known, 0))

/- (pointsman/pointsmanref18.Ctrl).Hear -/
def ref18_Ctrl_Hear_b1 (a0 : ref18_Ctrl) (a2 : Int) (i11 : Int) : (List Int) → Option (List Int)
  | l10 =>
  ((ref02_Has a2 i11).bind fun r17 =>
    ((if r17 then (ref02_Has a0.Known i11).bind fun r19 =>
    some (!r19) else some false)).bind fun y20 =>
    (if y20 then (gapp l10 ([i11] : List Int)).bind fun l23 =>
    some l23 else some l10)).bind fun l24 =>
    some l24

def ref18_Ctrl_Hear (a0 : ref18_Ctrl) (a1 : Int) (a2 : Int) : Option (ref18_Ctrl × Int) :=
  (if ((decide (a1 < 0)) || (decide (a1 ≥ (a0.Heard.length : Int)))) then some (a0, 1) else (ref12_Tag a0.N a2).bind fun r3 =>
    ((if decide (r3 < 0) then some true else (ref12_Tag a0.N (orI .u64 a0.Known a2)).bind fun r5 =>
    some (decide (r5 < 0)))).bind fun y6 =>
    (if y6 then some (a0, 31) else (gapp ([] : List Int) a0.Order).bind fun l9 =>
    (forO (ref18_Ctrl_Hear_b1 a0 a2) (irange 0 64) l9).bind fun z26 =>
    (gapp ([] : List Int) a0.Heard).bind fun l27 =>
    (gat l27 a1).bind fun x28 =>
    (gput l27 a1 a2).bind fun l29 =>
    some ((ref18_Ctrl.mk a0.N (orI .u64 a0.Known a2) l29 a0.Told z26), 0)))

/- pointsman/events.In -/
def events_In (a0 : Int) (a1 : Int) : Option Bool :=
  some ((andNotI .u64 a0 a1) == 0)

/- (*pointsman/ctrl.Ctrl).Owes -/
def ctrl_Ctrl_Owes (a0 : ctrl_Ctrl) (a1 : Int) : Option Bool :=
  (ctrl_Ctrl_has a0 a1).bind fun r1 =>
    ((if r1 then (gat a0.peers a1).bind fun x3 =>
    (events_In a0.known (orI .u64 x3.told x3.heard)).bind fun r4 =>
    some (!r4) else some false)).bind fun y5 =>
    some y5

/- (pointsman/pointsmanref18.Ctrl).Owes -/
def ref18_Ctrl_Owes (a0 : ref18_Ctrl) (a1 : Int) : Option Bool :=
  ((if decide (a1 ≥ 0) then (if decide (a1 < (a0.Told.length : Int)) then (gat a0.Told a1).bind fun x3 =>
    (gat a0.Heard a1).bind fun x4 =>
    some ((andI .u64 a0.Known (orI .u64 x3 x4)) != a0.Known) else some false) else some false)).bind fun y5 =>
    some y5

/- pointsman/pointsmanlaw18.CtrlRuns -/
def law18_CtrlRuns_b2 (y44 : ref18_Ctrl) (r46 : ((List Int) × ctrl_Ctrl)) (i55 : Int) : Unit → Option (Br Unit (Br ((List api_Event) × (List Int) × (List (List Int)) × Int × (List ctrl_peer) × (List Int) × ref18_Ctrl) Bool))
  | () =>
  (gat r46.1 i55).bind fun x61 =>
    (gat y44.Order i55).bind fun x62 =>
    (if (x61 != x62) then some (Br.ret (Br.ret false)) else some (.next ()))

def law18_CtrlRuns_b3 (y44 : ref18_Ctrl) (r46 : ((List Int) × ctrl_Ctrl)) : Int → Option (Br Int (Br ((List api_Event) × (List Int) × (List (List Int)) × Int × (List ctrl_peer) × (List Int) × ref18_Ctrl) Bool))
  | i64 =>
  (if decide (i64 ≤ (y44.Told.length : Int)) then (ctrl_Ctrl_Owes r46.2 i64).bind fun r67 =>
    (ref18_Ctrl_Owes y44 i64).bind fun r68 =>
    (if (!(r67 == r68)) then some (Br.ret (Br.ret false)) else some (.next (IntKind.i64.wrap (i64 + 1)))) else some (.brk i64))

def law18_CtrlRuns_b1 (a2 : (List law18_Act)) (r6 : (api_Nes × Int)) (i16 : Int) : ((List api_Event) × (List Int) × (List (List Int)) × Int × (List ctrl_peer) × (List Int) × ref18_Ctrl) → Option (Br ((List api_Event) × (List Int) × (List (List Int)) × Int × (List ctrl_peer) × (List Int) × ref18_Ctrl) Bool)
  | (y10, y11, y12, i13, l14, l15, y17) =>
  (gat a2 i16).bind fun x23 =>
    ((if (x23.What == 0) then (remI x23.N (r6.1.Sets.length : Int)).bind fun q25 =>
    (remI (IntKind.i64.wrap (q25 + (r6.1.Sets.length : Int))) (r6.1.Sets.length : Int)).bind fun q26 =>
    (gat r6.1.Sets q26).bind fun x27 =>
    some (law18_Act.mk x23.What x23.I x23.N x27) else some x23)).bind fun y28 =>
    (((if (y28.What == 2) then (ref18_Ctrl_Tell y17 y28.I).bind fun r31 =>
    (ctrl_Ctrl_Tell (ctrl_Ctrl.mk (api_Nes.mk y10 y11 y12) i13 l14 l15) y28.I).bind fun r32 =>
    (if ((r32.2.1 != r31.2.2) || (r31.2.1 != r32.1)) then some (Sum.inr (Br.ret false)) else some (.inl (r32.2.2.n_.Events, r32.2.2.n_.Sets, r32.2.2.n_.States, r32.2.2.known, r32.2.2.peers, r32.2.2.order, r31.1))) else (ref18_Ctrl_Hear y17 y28.I y28.S).bind fun r35 =>
    (ctrl_Ctrl_Hear (ctrl_Ctrl.mk (api_Nes.mk y10 y11 y12) i13 l14 l15) y28.I y28.S).bind fun r36 =>
    (if (r36.1 != r35.2) then some (Sum.inr (Br.ret false)) else some (.inl (r36.2.n_.Events, r36.2.n_.Sets, r36.2.n_.States, r36.2.known, r36.2.peers, r36.2.order, r35.1)))) : Option (((List api_Event) × (List Int) × (List (List Int)) × Int × (List ctrl_peer) × (List Int) × ref18_Ctrl) ⊕ (Br ((List api_Event) × (List Int) × (List (List Int)) × Int × (List ctrl_peer) × (List Int) × ref18_Ctrl) Bool)))).bind fun q45 => match q45 with
    | .inr r => some r
    | .inl (y38, y39, y40, y41, l42, l43, y44) =>
    (ctrl_Ctrl_Order (ctrl_Ctrl.mk (api_Nes.mk y38 y39 y40) y41 l42 l43)).bind fun r46 =>
    (ctrl_Ctrl_Known r46.2).bind fun r47 =>
    ((if (r47 != y44.Known) then some true else (if ((r46.1.length : Int) != (y44.Order.length : Int)) then some true else (ctrl_Ctrl_Tag r46.2).bind fun r50 =>
    (ref12_Tag r6.1 y44.Known).bind fun r51 =>
    some ((IntKind.i64.wrap r50) != r51)))).bind fun y52 =>
    (if y52 then some (Br.ret false) else (forR (law18_CtrlRuns_b2 y44 r46) (irange 0 (r46.1.length : Int)) ()).bind fun q72 => match q72 with
    | .ret r => some r
    | .done () =>
    (whR (law18_CtrlRuns_b3 y44 r46) FUEL (-1)).bind fun q71 => match q71 with
    | .ret r => some r
    | .done z70 =>
    some (.next (r46.2.n_.Events, r46.2.n_.Sets, r46.2.n_.States, r46.2.known, r46.2.peers, r46.2.order, y44)))

def law18_CtrlRuns (a0 : api_Program) (a1 : Int) (a2 : (List law18_Act)) : Option Bool :=
  (law18_awake).bind fun r1 =>
    (if (!r1) then some false else (law11_Small (api_Program.mk a0.Init (api_Pol.mk 0 0 0 []) a0.Rules)).bind fun r3 =>
    (if ((!r3) || (decide ((a2.length : Int) > 60))) then some true else (ref12_Of (api_Program.mk a0.Init (api_Pol.mk 0 0 0 []) a0.Rules)).bind fun r6 =>
    (if (r6.2 != 0) then some true else (ctrl_New r6.1 a1).bind fun r8 =>
    (ref18_New r6.1 a1).bind fun r9 =>
    (forR (law18_CtrlRuns_b1 a2 r6) (irange 0 (a2.length : Int)) (r8.n_.Events, r8.n_.Sets, r8.n_.States, r8.known, r8.peers, r8.order, r9)).bind fun q80 => match q80 with
    | .ret r => some r
    | .done (z73, z74, z75, z76, z77, z78, z79) =>
    some true)))

/- pointsman/pointsmanref02.List -/
/- pointsman/pointsmanlaw18.CtrlGrows -/
end Go.AM
