import Derived.Test.YtkgegocfjalcbaaDoorAmPre
/-  The program's functions, told outright. -/
set_option linter.unusedVariables false
namespace Go.AM
open Go

def gtab0 : List Int := [0, 1, 56, 2, 57, 49, 28, 3, 61, 58, 42, 50, 38, 29, 17, 4, 62, 47, 59, 36, 45, 43, 51, 22, 53, 39, 33, 30, 24, 18, 12, 5, 63, 55, 48, 27, 60, 41, 37, 16, 46, 35, 44, 21, 52, 32, 23, 11, 54, 26, 40, 15, 34, 20, 31, 10, 25, 14, 19, 9, 13, 8, 7, 6]

structure api_Hop where
  In : (A8 Int)
  Fresh : Bool
  Tag : Int
  Was : Int
  Now : Int
  New : Int
  Out : (List (A8 Int))
  Err : Int
  deriving DecidableEq, Inhabited

structure api_Step where
  What : Int
  Switch : Int
  Hop : api_Hop
  Path : Int
  deriving DecidableEq, Inhabited

structure api_Path where
  L : (List (A8 Int))
  Tag : Int
  Born : Int
  End : Int
  Of : Int
  At : Int
  deriving DecidableEq, Inhabited

structure cause_looker where
  paths : (List api_Path)
  h : (List api_Step)
  switches : (List (List Int))
  ctrl : (List Int)
  ahead : (List (List Int))
  last : (List (Int × Int))
  deriving DecidableEq, Inhabited

/- (*pointsman/cause.looker).from -/
def cause_looker_from (a0 : cause_looker) (a1 : Int) : Option (Int × Bool × Bool × cause_looker) :=
  (gat a0.h a1).bind fun x1 =>
    (if decide (x1.Path < 0) then some (0, false, true, a0) else (if (mget a0.last x1.Path).isSome then some ((mget a0.last x1.Path).getD 0, true, true, a0) else (gat a0.paths x1.Path).bind fun x4 =>
    (if decide (x4.Of < 0) then some (0, false, true, a0) else some (x4.At, true, ((decide (x4.At ≥ 0)) && (decide (x4.At < a1))), a0))))

/- slices.Clone[pointsman/cause.steps,uint64] -/
def slices_Clone_uint64 (a0 : List Int) : Option (List Int) :=
  (gapp ([] : List Int) a0).bind fun l1 => some l1

/- (pointsman/cause.steps).with -/
def cause_steps_with_b1 (a1 : (List Int)) : (List Int) → Option ((List Int) ⊕ (List Int))
  | l2 =>
  (if decide ((l2.length : Int) < (a1.length : Int)) then (gapp l2 ([0] : List Int)).bind fun l5 =>
    some (.inl l5) else some (.inr l2))

def cause_steps_with_b2 (a1 : (List Int)) (i8 : Int) : (List Int) → Option (List Int)
  | l7 =>
  (gat a1 i8).bind fun x14 =>
    (gat l7 i8).bind fun x15 =>
    (gput l7 i8 (orI .u64 x15 x14)).bind fun l16 =>
    some l16

def cause_steps_with (a0 : (List Int)) (a1 : (List Int)) : Option (List Int) :=
  (slices_Clone_uint64 a0).bind fun r1 =>
    (whK (cause_steps_with_b1 a1) FUEL r1).bind fun z6 =>
    (forO (cause_steps_with_b2 a1) (irange 0 (a1.length : Int)) z6).bind fun z17 =>
    some z17

/- (pointsman/cause.steps).and -/
def cause_steps_and (a0 : (List Int)) (a1 : Int) : Option (List Int) :=
  (gmk (IntKind.i64.wrap ((IntKind.i64.wrap (a1.tdiv 64)) + 1)) 0).bind fun l1 =>
    (shlI .u64 1 (a1.tmod 64)).bind fun q2 =>
    (gat l1 (IntKind.i64.wrap (a1.tdiv 64))).bind fun x3 =>
    (gput l1 (IntKind.i64.wrap (a1.tdiv 64)) q2).bind fun l4 =>
    (cause_steps_with a0 l4).bind fun r5 =>
    some r5

/- (*pointsman/cause.looker).step -/
def cause_looker_step (a0 : cause_looker) (a1 : Int) : Option (Bool × cause_looker) :=
  (gat a0.h a1).bind fun x1 =>
    (gat a0.switches x1.Switch).bind fun x2 =>
    (cause_looker_from a0 a1).bind fun r3 =>
    (if (!r3.2.2.1) then some (false, (cause_looker.mk r3.2.2.2.paths r3.2.2.2.h a0.switches r3.2.2.2.ctrl a0.ahead a0.last)) else ((if (r3.2.1 && (x1.Hop.Err == 0)) then (gat a0.ahead r3.1).bind fun x7 =>
    (cause_steps_with x2 x7).bind fun r8 =>
    (cause_steps_and r8 r3.1).bind fun r9 =>
    some r9 else some x2)).bind fun y10 =>
    (gapp a0.ahead ([y10] : List (List Int))).bind fun l12 =>
    (cause_steps_and y10 a1).bind fun r13 =>
    (gput a0.switches x1.Switch r13).bind fun l14 =>
    ((if decide (x1.Path ≥ 0) then some (mput a0.last x1.Path a1) else some a0.last)).bind fun m16 =>
    some (true, (cause_looker.mk r3.2.2.2.paths r3.2.2.2.h l14 r3.2.2.2.ctrl l12 m16)))

/- (*pointsman/cause.looker).one -/
def cause_looker_one (a0 : cause_looker) (a1 : Int) : Option (Bool × cause_looker) :=
  (gat a0.h a1).bind fun x1 =>
    (if ((decide (x1.Switch < 0)) || ((decide (x1.Switch ≥ (a0.switches.length : Int))) || ((decide (x1.Path < (-1))) || (decide (x1.Path ≥ (a0.paths.length : Int)))))) then some (false, a0) else ((if (x1.What == 2) then (cause_looker_step a0 a1).bind fun r7 =>
    some (Sum.inr (r7.1, r7.2)) else (if (x1.What == 5) then (gat a0.switches x1.Switch).bind fun x9 =>
    (cause_steps_with a0.ctrl x9).bind fun r10 =>
    some (.inl (a0.switches, r10)) else (if (x1.What == 6) then (gat a0.switches x1.Switch).bind fun x12 =>
    (cause_steps_with x12 a0.ctrl).bind fun r13 =>
    (gput a0.switches x1.Switch r13).bind fun l14 =>
    some (.inl (l14, a0.ctrl)) else some (Sum.inr (false, a0)))))).bind fun q17 => match q17 with
    | .inr r => some r
    | .inl (l15, y16) =>
    (gapp a0.ahead ([[]] : List (List Int))).bind fun l18 =>
    some (true, (cause_looker.mk a0.paths a0.h l15 y16 l18 a0.last)))

/- pointsman/cause.look -/
def cause_look_b1 (i8 : Int) : ((List api_Path) × (List api_Step) × (List (List Int)) × (List Int) × (List (List Int)) × (List (Int × Int))) → Option (Br ((List api_Path) × (List api_Step) × (List (List Int)) × (List Int) × (List (List Int)) × (List (Int × Int))) ((List (List Int)) × Bool))
  | (y2, y3, l4, y5, l6, m7) =>
  (cause_looker_one (cause_looker.mk y2 y3 l4 y5 l6 m7) i8).bind fun r14 =>
    (if (!r14.1) then some (Br.ret (([] : List (List Int)), false)) else some (.next (r14.2.paths, r14.2.h, r14.2.switches, r14.2.ctrl, r14.2.ahead, r14.2.last)))

def cause_look (a0 : (List api_Path)) (a1 : (List api_Step)) (a2 : Int) : Option ((List (List Int)) × Bool) :=
  (gmk (imin (imax a2 0) 100) []).bind fun l1 =>
    (forR cause_look_b1 (irange 0 (a1.length : Int)) (a0, a1, l1, [], ([] : List (List Int)), ([] : List (Int × Int)))).bind fun q22 => match q22 with
    | .ret r => some r
    | .done (z16, z17, z18, z19, z20, z21) =>
    some (z20, true)

/- math/bits.TrailingZeros64 -/
def math_bits_TrailingZeros64 (a0 : Int) : Option Int :=
  (if (a0 == 0) then some 64 else (gat gtab0 ((IntKind.u64.wrap ((andI .u64 a0 (IntKind.u64.wrap (0 - a0))) * 285870213051353865)).fdiv (2 ^ 58))).bind fun b2 =>
    some (IntKind.i64.wrap b2))

/- (pointsman/cause.steps).list -/
def cause_steps_list_b2 (i2 : Int) : ((List Int) × Int) → Option (((List Int) × Int) ⊕ ((List Int) × Int))
  | (l9, i10) =>
  (if (i10 != 0) then (math_bits_TrailingZeros64 i10).bind fun r13 =>
    (gapp l9 ([IntKind.i64.wrap ((IntKind.i64.wrap (64 * i2)) + r13)] : List Int)).bind fun l14 =>
    some (.inl (l14, andI .u64 i10 (IntKind.u64.wrap (i10 - 1)))) else some (.inr (l9, i10)))

def cause_steps_list_b1 (a0 : (List Int)) (i2 : Int) : (List Int) → Option (List Int)
  | l1 =>
  (gat a0 i2).bind fun x8 =>
    (whK (cause_steps_list_b2 i2) FUEL (l1, x8)).bind fun (z15, z16) =>
    some z15

def cause_steps_list (a0 : (List Int)) : Option (List Int) :=
  (forO (cause_steps_list_b1 a0) (irange 0 (a0.length : Int)) ([] : List Int)).bind fun z18 =>
    some z18

/- pointsman/cause.Ahead -/
def cause_Ahead_b1 (r1 : ((List (List Int)) × Bool)) (i5 : Int) : (List (List Int)) → Option (List (List Int))
  | l4 =>
  (gat r1.1 i5).bind fun x11 =>
    (cause_steps_list x11).bind fun r12 =>
    (gat l4 i5).bind fun x13 =>
    (gput l4 i5 r12).bind fun l14 =>
    some l14

def cause_Ahead (a0 : (List api_Path)) (a1 : (List api_Step)) (a2 : Int) : Option ((List (List Int)) × Bool) :=
  (cause_look a0 a1 a2).bind fun r1 =>
    (if (!r1.2) then some (([] : List (List Int)), false) else (gmk (r1.1.length : Int) []).bind fun l3 =>
    (forO (cause_Ahead_b1 r1) (irange 0 (r1.1.length : Int)) l3).bind fun z15 =>
    some (z15, true))

/- pointsman/cause.Known -/
def cause_Known_b2 (a1 : (List api_Step)) (i5 : Int) (r12 : (List Int)) (i14 : Int) : (List Int) → Option (List Int)
  | l13 =>
  (gat r12 i14).bind fun x20 =>
    (gat l13 i5).bind fun x21 =>
    (gat a1 x20).bind fun x22 =>
    (gput l13 i5 (orI .u64 x21 x22.Hop.New)).bind fun l23 =>
    some l23

def cause_Known_b1 (a1 : (List api_Step)) (r1 : ((List (List Int)) × Bool)) (i5 : Int) : (List Int) → Option (List Int)
  | l4 =>
  (gat r1.1 i5).bind fun x11 =>
    (cause_steps_list x11).bind fun r12 =>
    (forO (cause_Known_b2 a1 i5 r12) (irange 0 (r12.length : Int)) l4).bind fun z24 =>
    some z24

def cause_Known (a0 : (List api_Path)) (a1 : (List api_Step)) (a2 : Int) : Option ((List Int) × Bool) :=
  (cause_look a0 a1 a2).bind fun r1 =>
    (if (!r1.2) then some (([] : List Int), false) else (gmk (r1.1.length : Int) 0).bind fun l3 =>
    (forO (cause_Known_b1 a1 r1) (irange 0 (r1.1.length : Int)) l3).bind fun z26 =>
    some (z26, true))

/- pointsman/events.bit -/
def events_bit (a0 : Int) : Option Int :=
  (if ((decide (a0 < 0)) || (decide (a0 ≥ 64))) then some 0 else (shlI .u64 1 a0).bind fun q3 =>
    some q3)

/- pointsman/events.Has -/
def events_Has (a0 : Int) (a1 : Int) : Option Bool :=
  (events_bit a1).bind fun r1 =>
    some ((andI .u64 a0 r1) != 0)

/- pointsman/cause.First$1 -/
def cause_First_1 (a0 : api_Step) (a1 : Int) : Option Bool :=
  (events_Has a0.Hop.New a1).bind fun r1 =>
    some r1

/- slices.IndexFunc[[]pointsman/api.Step,pointsman/api.Step] -/
def slices_IndexFunc_api_Step_b1 (a0 : (List api_Step)) (a1 : (api_Step → Option Bool)) (i1 : Int) : Unit → Option (Br Unit Int)
  | () =>
  (gat a0 i1).bind fun x7 =>
    (a1 x7).bind fun x8 =>
    (if x8 then some (Br.ret i1) else some (.next ()))

def slices_IndexFunc_api_Step (a0 : (List api_Step)) (a1 : api_Step → Option Bool) : Option Int :=
  (forR (slices_IndexFunc_api_Step_b1 a0 a1) (irange 0 (a0.length : Int)) ()).bind fun q10 => match q10 with
    | .ret r => some r
    | .done () =>
    some (-1)

/- pointsman/cause.First -/
def cause_First (a0 : (List api_Step)) (a1 : Int) : Option Int :=
  (slices_IndexFunc_api_Step a0 (fun y0 => cause_First_1 y0 a1)).bind fun r1 =>
    some r1

/- pointsman/pointsmanlaw21.awake -/
def law21_awake  : Option Bool :=
  (cause_Ahead [] ([(api_Step.mk 2 0 (api_Hop.mk (A8.mk 0 0 0 0 0 0 0 0) false 0 0 0 4 [] 0) (-1)), (api_Step.mk 5 0 (api_Hop.mk (A8.mk 0 0 0 0 0 0 0 0) false 0 0 0 0 [] 0) (-1)), (api_Step.mk 6 1 (api_Hop.mk (A8.mk 0 0 0 0 0 0 0 0) false 0 0 0 0 [] 0) (-1)), (api_Step.mk 2 1 (api_Hop.mk (A8.mk 0 0 0 0 0 0 0 0) false 0 0 0 0 [] 0) (-1))] : List api_Step) 2).bind fun r1 =>
    (cause_Known [] ([(api_Step.mk 2 0 (api_Hop.mk (A8.mk 0 0 0 0 0 0 0 0) false 0 0 0 4 [] 0) (-1)), (api_Step.mk 5 0 (api_Hop.mk (A8.mk 0 0 0 0 0 0 0 0) false 0 0 0 0 [] 0) (-1)), (api_Step.mk 6 1 (api_Hop.mk (A8.mk 0 0 0 0 0 0 0 0) false 0 0 0 0 [] 0) (-1)), (api_Step.mk 2 1 (api_Hop.mk (A8.mk 0 0 0 0 0 0 0 0) false 0 0 0 0 [] 0) (-1))] : List api_Step) 2).bind fun r2 =>
    ((if r1.2 then (if r2.2 then (if ((r1.1.length : Int) == 4) then (gat r1.1 3).bind fun x6 =>
    (if ((x6.length : Int) == 1) then (gat x6 0).bind fun x8 =>
    (if (x8 == 0) then (gat r2.1 3).bind fun x10 =>
    (if (x10 == 4) then (gat r2.1 0).bind fun x12 =>
    (if (x12 == 0) then (cause_First ([(api_Step.mk 2 0 (api_Hop.mk (A8.mk 0 0 0 0 0 0 0 0) false 0 0 0 4 [] 0) (-1)), (api_Step.mk 5 0 (api_Hop.mk (A8.mk 0 0 0 0 0 0 0 0) false 0 0 0 0 [] 0) (-1)), (api_Step.mk 6 1 (api_Hop.mk (A8.mk 0 0 0 0 0 0 0 0) false 0 0 0 0 [] 0) (-1)), (api_Step.mk 2 1 (api_Hop.mk (A8.mk 0 0 0 0 0 0 0 0) false 0 0 0 0 [] 0) (-1))] : List api_Step) 2).bind fun r14 =>
    (if (r14 == 0) then (cause_First ([(api_Step.mk 2 0 (api_Hop.mk (A8.mk 0 0 0 0 0 0 0 0) false 0 0 0 4 [] 0) (-1)), (api_Step.mk 5 0 (api_Hop.mk (A8.mk 0 0 0 0 0 0 0 0) false 0 0 0 0 [] 0) (-1)), (api_Step.mk 6 1 (api_Hop.mk (A8.mk 0 0 0 0 0 0 0 0) false 0 0 0 0 [] 0) (-1)), (api_Step.mk 2 1 (api_Hop.mk (A8.mk 0 0 0 0 0 0 0 0) false 0 0 0 0 [] 0) (-1))] : List api_Step) 1).bind fun r16 =>
    some (r16 == (-1)) else some false) else some false) else some false) else some false) else some false) else some false) else some false) else some false)).bind fun y17 =>
    some y17

/- pointsman/pointsmanref02.pow -/
def ref02_pow_b1 (i2 : Int) : Int → Option Int
  | i1 =>
  some (IntKind.u64.wrap (2 * i1))

def ref02_pow (a0 : Int) : Option Int :=
  (forO ref02_pow_b1 (irange 0 a0) 1).bind fun z8 =>
    some z8

/- pointsman/pointsmanref02.Has -/
def ref02_Has (a0 : Int) (a1 : Int) : Option Bool :=
  ((if decide (a1 ≥ 0) then (if decide (a1 < 64) then (ref02_pow a1).bind fun r3 =>
    (quoI .u64 a0 r3).bind fun q4 =>
    some ((q4.tmod 2) == 1) else some false) else some false)).bind fun y5 =>
    some y5

/- pointsman/pointsmanref21.union -/
def ref21_union_b1 (a0 : (List Bool)) (a1 : (List Bool)) (i3 : Int) : (List Bool) → Option (List Bool)
  | l2 =>
  (gat a0 i3).bind fun x9 =>
    ((if x9 then (gat l2 i3).bind fun x11 =>
    (gput l2 i3 true).bind fun l12 =>
    some l12 else (gat a1 i3).bind fun x13 =>
    (gat l2 i3).bind fun x14 =>
    (gput l2 i3 x13).bind fun l15 =>
    some l15)).bind fun l16 =>
    some l16

def ref21_union (a0 : (List Bool)) (a1 : (List Bool)) : Option (List Bool) :=
  (gmk (a0.length : Int) false).bind fun l1 =>
    (forO (ref21_union_b1 a0 a1) (irange 0 (a0.length : Int)) l1).bind fun z18 =>
    some z18

/- pointsman/pointsmanref21.earlier -/
def ref21_earlier_b1 (a1 : (List api_Step)) (x1 : api_Step) (i3 : Int) : Unit → Option (Br Unit (Int × Bool))
  | () =>
  (gat a1 i3).bind fun x9 =>
    (if ((x9.What == 2) && (x9.Path == x1.Path)) then some (Br.ret (i3, true)) else some (.next ()))

def ref21_earlier (a0 : (List api_Path)) (a1 : (List api_Step)) (a2 : Int) : Option (Int × Bool) :=
  (gat a1 a2).bind fun x1 =>
    (if decide (x1.Path < 0) then some ((-1), true) else (forR (ref21_earlier_b1 a1 x1) (drange (IntKind.i64.wrap (a2 - 1)) (-1)) ()).bind fun q15 => match q15 with
    | .ret r => some r
    | .done () =>
    (gat a0 x1.Path).bind fun x12 =>
    (if decide (x12.Of ≥ 0) then some (x12.At, ((decide (x12.At ≥ 0)) && (decide (x12.At < a2)))) else some ((-1), true)))

/- pointsman/pointsmanref21.Ahead -/
def ref21_Ahead_b1 (a2 : Int) (l1 : (List Bool)) : ((List (List Bool)) × Int) → Option (((List (List Bool)) × Int) ⊕ ((List (List Bool)) × Int))
  | (l2, i3) =>
  (if ((decide (i3 < a2)) && (decide (i3 < 100))) then (gapp l2 ([l1] : List (List Bool))).bind fun l7 =>
    some (.inl (l7, IntKind.i64.wrap (i3 + 1))) else some (.inr (l2, i3)))

def ref21_Ahead_b2 (a0 : (List api_Path)) (a1 : (List api_Step)) (l1 : (List Bool)) (i13 : Int) : ((List (List Bool)) × (List Bool) × (List (List Bool))) → Option (Br ((List (List Bool)) × (List Bool) × (List (List Bool))) ((List (List Bool)) × Bool))
  | (l10, y11, l12) =>
  (((gat a1 i13).bind fun x19 =>
    (if ((decide (x19.Switch < 0)) || ((decide (x19.Switch ≥ (l10.length : Int))) || ((decide (x19.Path < (-1))) || (decide (x19.Path ≥ (a0.length : Int)))))) then some (Sum.inr (Br.ret (([] : List (List Bool)), false))) else (if (x19.What == 5) then (gat l10 x19.Switch).bind fun x25 =>
    (ref21_union y11 x25).bind fun r26 =>
    (gapp l12 ([l1] : List (List Bool))).bind fun l27 =>
    some (.inl (l10, r26, l27)) else (if (x19.What == 6) then (gat l10 x19.Switch).bind fun x29 =>
    (ref21_union x29 y11).bind fun r30 =>
    (gput l10 x19.Switch r30).bind fun l31 =>
    (gapp l12 ([l1] : List (List Bool))).bind fun l32 =>
    some (.inl (l31, y11, l32)) else (if (x19.What == 2) then (gat l10 x19.Switch).bind fun x34 =>
    (ref21_earlier a0 a1 i13).bind fun r35 =>
    (if (!r35.2) then some (Sum.inr (Br.ret (([] : List (List Bool)), false))) else ((if ((decide (r35.1 ≥ 0)) && (x19.Hop.Err == 0)) then (gat l12 r35.1).bind fun x39 =>
    (ref21_union x34 x39).bind fun r40 =>
    (gat r40 r35.1).bind fun x41 =>
    (gput r40 r35.1 true).bind fun l42 =>
    some l42 else some x34)).bind fun y43 =>
    (gapp l12 ([y43] : List (List Bool))).bind fun l45 =>
    (ref21_union y43 l1).bind fun r46 =>
    (gat r46 i13).bind fun x47 =>
    (gput r46 i13 true).bind fun l48 =>
    (gput l10 x19.Switch l48).bind fun l49 =>
    some (.inl (l49, y11, l45))) else some (Sum.inr (Br.ret (([] : List (List Bool)), false))))))) : Option (((List (List Bool)) × (List Bool) × (List (List Bool))) ⊕ (Br ((List (List Bool)) × (List Bool) × (List (List Bool))) ((List (List Bool)) × Bool))))).bind fun q53 => match q53 with
    | .inr r => some r
    | .inl (l50, y51, l52) =>
    some (.next (l50, y51, l52))

def ref21_Ahead (a0 : (List api_Path)) (a1 : (List api_Step)) (a2 : Int) : Option ((List (List Bool)) × Bool) :=
  (gmk (a1.length : Int) false).bind fun l1 =>
    (whK (ref21_Ahead_b1 a2 l1) FUEL (([] : List (List Bool)), 0)).bind fun (z8, z9) =>
    (forR (ref21_Ahead_b2 a0 a1 l1) (irange 0 (a1.length : Int)) (z8, l1, ([] : List (List Bool)))).bind fun q57 => match q57 with
    | .ret r => some r
    | .done (z54, z55, z56) =>
    some (z56, true)

/- pointsman/pointsmanref21.Known -/
def ref21_Known_b1 (a0 : (List api_Step)) (a1 : (List Bool)) (i2 : Int) : Int → Option Int
  | i1 =>
  ((gat a1 i2).bind fun x8 =>
    (if x8 then (gat a0 i2).bind fun x10 =>
    some (orI .u64 i1 x10.Hop.New) else some i1)).bind fun y11 =>
    some y11

def ref21_Known (a0 : (List api_Step)) (a1 : (List Bool)) : Option Int :=
  (forO (ref21_Known_b1 a0 a1) (irange 0 (a1.length : Int)) 0).bind fun z13 =>
    some z13

/- pointsman/pointsmanlaw21.same -/
def law21_same_b2 (r1 : ((List (List Int)) × Bool)) (i8 : Int) (x14 : (List Bool)) (i16 : Int) : Int → Option (Br Int (Br Unit Bool))
  | i15 =>
  (((gat x14 i16).bind fun x22 =>
    (if (!x22) then some (.inl i15) else (gat r1.1 i8).bind fun x24 =>
    ((if decide (i15 ≥ (x24.length : Int)) then some true else (gat x24 i15).bind fun x26 =>
    some (x26 != i16))).bind fun y27 =>
    (if y27 then some (Sum.inr (Br.ret (Br.ret false))) else some (.inl (IntKind.i64.wrap (i15 + 1))))) : Option (Int ⊕ (Br Int (Br Unit Bool))))).bind fun q31 => match q31 with
    | .inr r => some r
    | .inl y30 =>
    some (.next y30)

def law21_same_b1 (a1 : (List api_Step)) (r1 : ((List (List Int)) × Bool)) (r2 : ((List Int) × Bool)) (r3 : ((List (List Bool)) × Bool)) (i8 : Int) : Unit → Option (Br Unit Bool)
  | () =>
  (gat r3.1 i8).bind fun x14 =>
    (forR (law21_same_b2 r1 i8 x14) (irange 0 (x14.length : Int)) 0).bind fun q40 => match q40 with
    | .ret r => some r
    | .done z32 =>
    (gat r1.1 i8).bind fun x33 =>
    ((if (z32 != (x33.length : Int)) then some true else (gat r2.1 i8).bind fun x35 =>
    (ref21_Known a1 x14).bind fun r36 =>
    some (x35 != r36))).bind fun y37 =>
    (if y37 then some (Br.ret false) else some (.next ()))

def law21_same (a0 : (List api_Path)) (a1 : (List api_Step)) (a2 : Int) : Option Bool :=
  (cause_Ahead a0 a1 a2).bind fun r1 =>
    (cause_Known a0 a1 a2).bind fun r2 =>
    (ref21_Ahead a0 a1 a2).bind fun r3 =>
    (if ((!(r1.2 == r3.2)) || ((!(r2.2 == r3.2)) || (((r1.1.length : Int) != (r3.1.length : Int)) || ((r2.1.length : Int) != (r3.1.length : Int))))) then some false else (forR (law21_same_b1 a1 r1 r2 r3) (irange 0 (r3.1.length : Int)) ()).bind fun q41 => match q41 with
    | .ret r => some r
    | .done () =>
    some true)

/- pointsman/pointsmanlaw21.CauseRaw -/
def law21_CauseRaw_b2 (a1 : (List api_Step)) (i5 : Int) (i12 : Int) : Int → Option Int
  | i11 =>
  ((gat a1 i12).bind fun x18 =>
    (ref02_Has x18.Hop.New i5).bind fun r19 =>
    (if r19 then some i12 else some i11)).bind fun y21 =>
    some y21

def law21_CauseRaw_b1 (a1 : (List api_Step)) (i5 : Int) : Unit → Option (Br Unit Bool)
  | () =>
  (forO (law21_CauseRaw_b2 a1 i5) (drange (IntKind.i64.wrap ((a1.length : Int) - 1)) (-1)) (-1)).bind fun z23 =>
    (cause_First a1 i5).bind fun r24 =>
    (if (r24 != z23) then some (Br.ret false) else some (.next ()))

def law21_CauseRaw (a0 : (List api_Path)) (a1 : (List api_Step)) (a2 : Int) : Option Bool :=
  (law21_awake).bind fun r1 =>
    (if (!r1) then some false else (if ((decide ((a0.length : Int) > 8)) || (decide ((a1.length : Int) > 20))) then some true else (forR (law21_CauseRaw_b1 a1) (irange 0 8) ()).bind fun q29 => match q29 with
    | .ret r => some r
    | .done () =>
    (law21_same a0 a1 a2).bind fun r28 =>
    some r28))

end Go.AM
