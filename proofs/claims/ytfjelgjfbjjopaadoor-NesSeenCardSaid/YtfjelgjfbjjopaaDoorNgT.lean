import Derived.Test.YtfjelgjfbjjopaaDoorAmPre
set_option linter.unusedVariables false
namespace Go.AM
open Go
def gtab0 : List Int := [0, 1, 56, 2, 57, 49, 28, 3, 61, 58, 42, 50, 38, 29, 17, 4, 62, 47, 59, 36, 45, 43, 51, 22, 53, 39, 33, 30, 24, 18, 12, 5, 63, 55, 48, 27, 60, 41, 37, 16, 46, 35, 44, 21, 52, 32, 23, 11, 54, 26, 40, 15, 34, 20, 31, 10, 25, 14, 19, 9, 13, 8, 7, 6]
structure api_Pair where
  F : Int
  N : Int
  deriving DecidableEq, Inhabited
structure az where
  From : Int
  Rule : Int
  To : Int
  deriving DecidableEq, Inhabited
structure api_Pol where
  Op : Int
  F : Int
  N : Int
  Kids : (List api_Pol)
  deriving Inhabited
structure api_Rule where
  When : (List api_Pair)
  Guard : (List api_Pair)
  Then : (List api_Pair)
  deriving DecidableEq, Inhabited
structure api_Program where
  Init : (List Int)
  Pol : api_Pol
  Rules : (List api_Rule)
  deriving Inhabited
structure aV where
  Rule : Int
  Count : Int
  deriving DecidableEq, Inhabited
structure aK where
  Events : (List aV)
  Sets : (List Int)
  States : (List (List Int))
  deriving DecidableEq, Inhabited
structure bd where
  States : (List (List Int))
  Edges : (List az)
  deriving DecidableEq, Inhabited
structure ca where
  n_ : aK
  at_ : (List Int)
  events : (List (aV × Int))
  sets : (List (Int × Int))
  deriving DecidableEq, Inhabited
structure iA where
  s : bd
  at_ : (List (ByteArray × Int))
  deriving DecidableEq, Inhabited
def lN (a0 : Int) (a1 : Int) (a2 : Int) (a3 : Int) : Option api_Rule :=
  some (api_Rule.mk ([(api_Pair.mk 0 a0), (api_Pair.mk 1 1)] : List api_Pair) ([(api_Pair.mk a1 a2)] : List api_Pair) ([(api_Pair.mk a1 a3)] : List api_Pair))
def zw (a0 : api_Pol) (self : api_Pol → Option Int) (i2 : Int) : Int → Option Int
  | i1 =>
  (aL a0.Kids i2).bind fun x8 =>
    (self x8).bind fun r9 =>
    some (IntKind.i64.wrap (i1 + r9))
def tW (self : api_Pol → Option Int) (a0 : api_Pol) : Option Int :=
  (cy (zw a0 self) (aS 0 (a0.Kids.length : Int)) 1).bind fun z10 =>
    some z10
def pR : Nat → api_Pol → Option Int
  | 0 => fun _ => none
  | k + 1 => tW (pR k)
def nt (a0 : api_Pol) : Option Int := pR cr a0
def zy (a0 : api_Pol) (self : api_Pol → Option Int) (i2 : Int) : Int → Option Int
  | i1 =>
  (aL a0.Kids i2).bind fun x8 =>
    (self x8).bind fun r9 =>
    some (kr i1 r9)
def tX (self : api_Pol → Option Int) (a0 : api_Pol) : Option Int :=
  (cy (zy a0 self) (aS 0 (a0.Kids.length : Int)) 0).bind fun z10 =>
    some (IntKind.i64.wrap (z10 + 1))
def pS : Nat → api_Pol → Option Int
  | 0 => fun _ => none
  | k + 1 => tX (pS k)
def nu (a0 : api_Pol) : Option Int := pS cr a0
def zA (a0 : (List api_Pol)) (a1 : (api_Pol → Option Bool)) (i1 : Int) : Unit → Option (Br Unit Int)
  | () =>
  (aL a0 i1).bind fun x7 =>
    (a1 x7).bind fun x8 =>
    (if x8 then some (Br.ret i1) else some (.next ()))
def tY (a0 : (List api_Pol)) (a1 : api_Pol → Option Bool) : Option Int :=
  (bE (zA a0 a1) (aS 0 (a0.length : Int)) ()).bind fun q10 => match q10 with
    | .ret r => some r
    | .done () =>
    some (-1)
def pT (a0 : (List api_Pol)) (a1 : api_Pol → Option Bool) : Option Bool :=
  (tY a0 a1).bind fun r1 =>
    some (decide (r1 ≥ 0))
def tZ (self : api_Pol → Option Bool) (a0 : api_Pol) : Option Bool :=
  (self a0).bind fun r1 =>
    some (!r1)
def t6 (self : api_Pol → Option Bool) (a0 : api_Pol) : Option Bool :=
  ((if (a0.Op == 0) then some (a0.Op == 0) else (if (a0.Op == 1) then some (a0.Op == 1) else (if (a0.Op == 2) then some (a0.Op == 2) else (if (a0.Op == 3) then some (a0.Op == 3) else some (a0.Op == 4)))))).bind fun y5 =>
    (if y5 then some true else ((if (a0.Op == 6) then some (a0.Op == 6) else some (a0.Op == 7))).bind fun y9 =>
    (if y9 then (pT a0.Kids (fun y0 => tZ self y0)).bind fun r12 =>
    some (!r12) else some false))
def pU : Nat → api_Pol → Option Bool
  | 0 => fun _ => none
  | k + 1 => t6 (pU k)
def t7 (a0 : api_Pol) : Option Bool := pU cr a0
def t8 (self : api_Pol → Int → Option Bool) (a0 : api_Pol) (a1 : Int) : Option Bool :=
  (self a0 a1).bind fun r1 =>
    some (!r1)
def t9 (self : api_Pol → Int → Option Bool) (a0 : api_Pol) (a1 : Int) : Option Bool :=
  (((if (a0.Op == 0) then some (a0.Op == 0) else some (a0.Op == 1))).bind fun y3 =>
    (if y3 then some (Sum.inr (((a0.Kids.length : Int) == 0) && ((a0.F == 0) && (a0.N == 0)))) else (if (a0.Op == 4) then ((if ((a0.Kids.length : Int) == 1) then (if ((a0.F == 0) && (a0.N == 0)) then (aL a0.Kids 0).bind fun x10 =>
    (t7 x10).bind fun r11 =>
    (if r11 then (self x10 a1).bind fun r13 =>
    some r13 else some false) else some false) else some false)).bind fun y14 =>
    some (Sum.inr y14) else ((if (a0.Op == 6) then some (a0.Op == 6) else some (a0.Op == 7))).bind fun y17 =>
    (if y17 then ((if decide ((a0.Kids.length : Int) ≥ 2) then (if ((a0.F == 0) && (a0.N == 0)) then (pT a0.Kids (fun y0 => t8 self y0 a1)).bind fun r22 =>
    some (!r22) else some false) else some false)).bind fun y23 =>
    some (Sum.inr y23) else (if (a0.Op == 2) then some (.inl (0, 8)) else (if (a0.Op == 5) then some (.inl (1, 8)) else (if (a0.Op == 3) then some (.inl (0, a1)) else some (Sum.inr false)))))))).bind fun q30 => match q30 with
    | .inr r => some r
    | .inl (y28, y29) =>
    some (((a0.Kids.length : Int) == 0) && ((decide (a0.F ≥ y28)) && (decide (a0.F < y29))))
def pV : Nat → api_Pol → Int → Option Bool
  | 0 => fun _ _ => none
  | k + 1 => t9 (pV k)
def nv (a0 : api_Pol) (a1 : Int) : Option Bool := pV cr a0 a1
def zB (a0 : (List api_Pair)) (a1 : Int) (i1 : Int) : Unit → Option (Br Unit Bool)
  | () =>
  (aL a0 i1).bind fun x7 =>
    ((if decide (x7.F < 0) then some true else (if decide (x7.F ≥ a1) then some true else (if decide (i1 > 0) then (aL a0 (IntKind.i64.wrap (i1 - 1))).bind fun x11 =>
    some (decide (x11.F ≥ x7.F)) else some false)))).bind fun y12 =>
    (if y12 then some (Br.ret false) else some (.next ()))
def lO (a0 : (List api_Pair)) (a1 : Int) : Option Bool :=
  (bE (zB a0 a1) (aS 0 (a0.length : Int)) ()).bind fun q15 => match q15 with
    | .ret r => some r
    | .done () =>
    some true
def ua (a0 : api_Program) (i12 : Int) : Unit → Option (Br Unit Int)
  | () =>
  (aL a0.Rules i12).bind fun x18 =>
    ((if decide ((x18.When.length : Int) ≥ 2) then (aL x18.When 0).bind fun x20 =>
    (if (x20.F == 0) then (aL x18.When 1).bind fun x22 =>
    some (x22.F == 1) else some false) else some false)).bind fun y23 =>
    ((if (!y23) then some true else (lO x18.When 8).bind fun r26 =>
    (if (!r26) then some true else (lO x18.Guard (a0.Init.length : Int)).bind fun r28 =>
    (if (!r28) then some true else (lO x18.Then (a0.Init.length : Int)).bind fun r30 =>
    (if (!r30) then some true else some ((x18.Then.length : Int) == 0)))))).bind fun y32 =>
    (if y32 then some (Br.ret 11) else some (.next ()))
def nw (a0 : api_Program) : Option Int :=
  ((if decide ((a0.Init.length : Int) < 1) then some true else (if decide ((a0.Init.length : Int) > 4) then some true else (nt a0.Pol).bind fun r3 =>
    (if decide (r3 > 300) then some true else (nu a0.Pol).bind fun r5 =>
    (if decide (r5 > 20) then some true else some (decide ((a0.Rules.length : Int) > 24))))))).bind fun y7 =>
    (if y7 then some 2 else (nv a0.Pol (a0.Init.length : Int)).bind fun r10 =>
    (if (!r10) then some 11 else (bE (ua a0) (aS 0 (a0.Rules.length : Int)) ()).bind fun q35 => match q35 with
    | .ret r => some r
    | .done () =>
    some 0))
def iB (a0 : List Int) : Option (List Int) :=
  (cR ([] : List Int) a0).bind fun l1 => some l1
def pW (a0 : (List Int)) (i2 : Int) : (List Int) → Option (List Int)
  | l1 =>
  (aL a0 i2).bind fun x8 =>
    (cR l1 ([IntKind.u8.wrap (x8.fdiv (2 ^ 8)), IntKind.u8.wrap x8] : List Int)).bind fun l9 =>
    some l9
def ny (a0 : (List Int)) : Option ByteArray :=
  (cy (pW a0) (aS 0 (a0.length : Int)) ([] : List Int)).bind fun z10 =>
    some (iv z10)
def lP (a0 : iA) (a1 : (List Int)) : Option (Int × iA) :=
  (ny a1).bind fun r1 =>
    ((if (!((mget a0.at_ r1).isSome)) then (cR a0.s.States ([a1] : List (List Int))).bind fun l3 =>
    some (l3, (cS a0.at_ r1 (a0.s.States.length : Int)), (a0.s.States.length : Int)) else some (a0.s.States, a0.at_, (mget a0.at_ r1).getD 0))).bind fun (l4, m5, y6) =>
    some (y6, (iA.mk (bd.mk l4 a0.s.Edges) m5))
def zC (a0 : api_Rule) (i3 : Int) : (List Int) → Option (List Int)
  | l2 =>
  ((aL a0.Then i3).bind fun x9 =>
    (if ((decide (x9.F ≥ 0)) && (decide (x9.F < (l2.length : Int)))) then (aL l2 x9.F).bind fun x12 =>
    (dD l2 x9.F x9.N).bind fun l13 =>
    some l13 else some l2)).bind fun l14 =>
    some l14
def nz (a0 : api_Rule) (a1 : (List Int)) : Option (List Int) :=
  (iB a1).bind fun r1 =>
    (cy (zC a0) (aS 0 (a0.Then.length : Int)) r1).bind fun z16 =>
    some z16
def pX (a0 : api_Pair) (a1 : (List Int)) : Option Bool :=
  ((if decide (a0.F < 0) then some true else (if decide (a0.F ≥ (a1.length : Int)) then some true else (aL a1 a0.F).bind fun x3 =>
    some (x3 != a0.N)))).bind fun y4 =>
    some y4
def pY (a0 : (List api_Pair)) (a1 : (api_Pair → Option Bool)) (i1 : Int) : Unit → Option (Br Unit Int)
  | () =>
  (aL a0 i1).bind fun x7 =>
    (a1 x7).bind fun x8 =>
    (if x8 then some (Br.ret i1) else some (.next ()))
def kw (a0 : (List api_Pair)) (a1 : api_Pair → Option Bool) : Option Int :=
  (bE (pY a0 a1) (aS 0 (a0.length : Int)) ()).bind fun q10 => match q10 with
    | .ret r => some r
    | .done () =>
    some (-1)
def lQ (a0 : (List api_Pair)) (a1 : api_Pair → Option Bool) : Option Bool :=
  (kw a0 a1).bind fun r1 =>
    some (decide (r1 ≥ 0))
def nA (a0 : api_Rule) (a1 : (List Int)) : Option Bool :=
  (lQ a0.Guard (fun y0 => pX y0 a1)).bind fun r1 =>
    some (!r1)
def ub (a0 : (List Int)) (a1 : (List Int)) (i2 : Int) : Unit → Option (Br Unit Bool)
  | () =>
  (aL a0 i2).bind fun x8 =>
    (aL a1 i2).bind fun x9 =>
    (if (x8 != x9) then some (Br.ret false) else some (.next ()))
def nB (a0 : (List Int)) (a1 : (List Int)) : Option Bool :=
  (if ((a0.length : Int) != (a1.length : Int)) then some false else (bE (ub a0 a1) (aS 0 (a0.length : Int)) ()).bind fun q11 => match q11 with
    | .ret r => some r
    | .done () =>
    some true)
def pZ (a0 : bd) (a1 : Int) (i2 : Int) : (List az) → Option (List az)
  | l1 =>
  ((aL a0.Edges i2).bind fun x8 =>
    (if (x8.From == a1) then (cR l1 ([x8] : List az)).bind fun l10 =>
    some l10 else some l1)).bind fun l11 =>
    some l11
def lR (a0 : bd) (a1 : Int) : Option (List az) :=
  (cy (pZ a0 a1) (aS 0 (a0.Edges.length : Int)) ([] : List az)).bind fun z13 =>
    some z13
def p5 (a2 : bd) (r4 : (List az)) (self : Int → (List Int) → bd → Option (Bool × (List Int))) (i6 : Int) : (List Int) → Option (Br (List Int) (Bool × (List Int)))
  | l5 =>
  (aL r4 i6).bind fun x12 =>
    (self x12.To l5 a2).bind fun r13 =>
    (if r13.1 then some (Br.ret (true, r13.2)) else some (.next r13.2))
def nC (self : Int → (List Int) → bd → Option (Bool × (List Int))) (a0 : Int) (a1 : (List Int)) (a2 : bd) : Option (Bool × (List Int)) :=
  (aL a1 a0).bind fun x1 =>
    (if (x1 != 0) then some ((x1 == 1), a1) else (dD a1 a0 1).bind fun l3 =>
    (lR a2 a0).bind fun r4 =>
    (bE (p5 a2 r4 self) (aS 0 (r4.length : Int)) l3).bind fun q18 => match q18 with
    | .ret r => some r
    | .done z15 =>
    (aL z15 a0).bind fun x16 =>
    (dD z15 a0 2).bind fun l17 =>
    some (false, l17))
def jJ : Nat → Int → (List Int) → bd → Option (Bool × (List Int))
  | 0 => fun _ _ _ => none
  | k + 1 => nC (jJ k)
def p6 (a0 : Int) (a1 : (List Int)) (a2 : bd) : Option (Bool × (List Int)) := jJ cr a0 a1 a2
def nD (a0 : bd) : Option Bool :=
  (gZ (a0.States.length : Int) 0).bind fun l1 =>
    ((if decide ((l1.length : Int) > 0) then (p6 0 l1 a0).bind fun r3 =>
    some r3.1 else some false)).bind fun y4 =>
    some y4
def kx (a0 : api_Program) (i8 : Int) (i14 : Int) : ((List (List Int)) × (List az) × (List (ByteArray × Int))) → Option (Br ((List (List Int)) × (List az) × (List (ByteArray × Int))) (Br ((List (List Int)) × (List az) × (List (ByteArray × Int)) × Int) (bd × Int)))
  | (l11, l12, m13) =>
  (((aL a0.Rules i14).bind fun x20 =>
    (aL l11 i8).bind fun x21 =>
    (nz x20 x21).bind fun r22 =>
    (nA x20 x21).bind fun r23 =>
    ((if (!r23) then some true else (nB x21 r22).bind fun r25 =>
    some r25)).bind fun y26 =>
    (if y26 then some (.inl (l11, l12, m13)) else (lP (iA.mk (bd.mk l11 l12) m13) r22).bind fun r29 =>
    (cR l12 ([(az.mk i8 i14 r29.1)] : List az)).bind fun l30 =>
    (if decide ((r29.2.s.States.length : Int) > 128) then some (Sum.inr (Br.ret (Br.ret ((bd.mk [] []), 21)))) else some (.inl (r29.2.s.States, l30, r29.2.at_)))) : Option (((List (List Int)) × (List az) × (List (ByteArray × Int))) ⊕ (Br ((List (List Int)) × (List az) × (List (ByteArray × Int))) (Br ((List (List Int)) × (List az) × (List (ByteArray × Int)) × Int) (bd × Int)))))).bind fun q35 => match q35 with
    | .inr r => some r
    | .inl (l32, l33, m34) =>
    some (.next (l32, l33, m34))
def ky (a0 : api_Program) : ((List (List Int)) × (List az) × (List (ByteArray × Int)) × Int) → Option (Br ((List (List Int)) × (List az) × (List (ByteArray × Int)) × Int) (bd × Int))
  | (l5, l6, m7, i8) =>
  (if decide (i8 < (l5.length : Int)) then (bE (kx a0 i8) (aS 0 (a0.Rules.length : Int)) (l5, l6, m7)).bind fun q39 => match q39 with
    | .ret r => some r
    | .done (z36, z37, z38) =>
    some (.next (z36, z37, z38, IntKind.i64.wrap (i8 + 1))) else some (.brk (l5, l6, m7, i8)))
def jK (a0 : api_Program) : Option (bd × Int) :=
  (nw a0).bind fun r1 =>
    (if (r1 != 0) then some ((bd.mk [] []), r1) else (iB a0.Init).bind fun r3 =>
    (lP (iA.mk (bd.mk ([] : List (List Int)) ([] : List az)) ([] : List (ByteArray × Int))) r3).bind fun r4 =>
    (dk (ky a0) cr (r4.2.s.States, ([] : List az), r4.2.at_, 0)).bind fun q46 => match q46 with
    | .ret r => some r
    | .done (z40, z41, z42, z43) =>
    (nD (bd.mk z40 z41)).bind fun r44 =>
    (if r44 then some ((bd.mk [] []), 20) else some ((bd.mk z40 z41), 0)))
def kz (a0 : ca) (a1 : Int) (a2 : Int) (a3 : bd) : Option (Int × ca) :=
  (if (mget a0.sets a1).isSome then (aL a0.at_ ((mget a0.sets a1).getD 0)).bind fun x2 =>
    (if (x2 != a2) then some (22, a0) else some (0, a0)) else (cR a0.n_.Sets ([a1] : List Int)).bind fun l4 =>
    (aL a3.States a2).bind fun x5 =>
    (iB x5).bind fun r6 =>
    (cR a0.n_.States ([r6] : List (List Int))).bind fun l7 =>
    (cR a0.at_ ([a2] : List Int)).bind fun l8 =>
    (if decide ((l4.length : Int) > 256) then some (21, (ca.mk (aK.mk a0.n_.Events l4 l7) l8 a0.events (cS a0.sets a1 (a0.n_.Sets.length : Int)))) else some (0, (ca.mk (aK.mk a0.n_.Events l4 l7) l8 a0.events (cS a0.sets a1 (a0.n_.Sets.length : Int))))))
def nE (a0 : Int) : Option Int :=
  (if (a0 == 0) then some 64 else (aL gtab0 ((IntKind.u64.wrap ((ax .u64 a0 (IntKind.u64.wrap (0 - a0))) * 285870213051353865)).fdiv (2 ^ 58))).bind fun b2 =>
    some (IntKind.i64.wrap b2))
def lS (a0 : Int) : Option (Int × Bool) :=
  (if (a0 == 0) then some (0, false) else (nE a0).bind fun r2 =>
    some (r2, true))
def jL (a0 : Int) : Option Int :=
  (if ((decide (a0 < 0)) || (decide (a0 ≥ 64))) then some 0 else (jA .u64 1 a0).bind fun q3 =>
    some q3)
def nF (a0 : Int) (a1 : Int) : Option Int :=
  (jL a1).bind fun r1 =>
    some (iU .u64 a0 r1)
def nG : (Int × (List Int) × Int × Bool) → Option ((Int × (List Int) × Int × Bool) ⊕ (Int × (List Int) × Int × Bool))
  | (i2, l3, i4, y5) =>
  (if y5 then (cR l3 ([i4] : List Int)).bind fun l8 =>
    (nF i2 i4).bind fun r9 =>
    (lS r9).bind fun r10 =>
    some (.inl (r9, l8, r10.1, r10.2)) else some (.inr (i2, l3, i4, y5)))
def kA (a0 : Int) : Option (List Int) :=
  (lS a0).bind fun r1 =>
    (iV nG cr (a0, ([] : List Int), r1.1, r1.2)).bind fun (z11, z12, z13, z14) =>
    some z12
def p7 (a0 : ca) (a2 : Int) (r1 : (List Int)) (i3 : Int) : Int → Option Int
  | i2 =>
  ((aL r1 i3).bind fun x9 =>
    (aL a0.n_.Events x9).bind fun x10 =>
    (if (x10.Rule == a2) then some (IntKind.i64.wrap (i2 + 1)) else some i2)).bind fun y12 =>
    some y12
def nH (a0 : ca) (a1 : Int) (a2 : Int) : Option (Int × ca) :=
  (kA a1).bind fun r1 =>
    (cy (p7 a0 a2 r1) (aS 0 (r1.length : Int)) 0).bind fun z14 =>
    some (z14, a0)
def nJ (a0 : ca) (a1 : aV) : Option (Int × Bool × ca) :=
  ((if (!((mget a0.events a1).isSome)) then (cR a0.n_.Events ([a1] : List aV)).bind fun l2 =>
    some (l2, (cS a0.events a1 (a0.n_.Events.length : Int)), (a0.n_.Events.length : Int)) else some (a0.n_.Events, a0.events, (mget a0.events a1).getD 0))).bind fun (l3, m4, y5) =>
    some (y5, decide (y5 < 64), (ca.mk (aK.mk l3 a0.n_.Sets a0.n_.States) a0.at_ m4 a0.sets))
def jM (a0 : Int) (a1 : Int) : Option Int :=
  (jL a1).bind fun r1 =>
    some (cw .u64 a0 r1)
def lT (a1 : bd) (x11 : Int) (r13 : (List az)) (i20 : Int) : ((List aV) × (List Int) × (List (List Int)) × (List Int) × (List (aV × Int)) × (List (Int × Int))) → Option (Br ((List aV) × (List Int) × (List (List Int)) × (List Int) × (List (aV × Int)) × (List (Int × Int))) (Br ((List aV) × (List Int) × (List (List Int)) × (List Int) × (List (aV × Int)) × (List (Int × Int)) × Int) (Int × ca)))
  | (l14, l15, l16, l17, m18, m19) =>
  (aL r13 i20).bind fun x26 =>
    (nH (ca.mk (aK.mk l14 l15 l16) l17 m18 m19) x11 x26.Rule).bind fun r27 =>
    (nJ (ca.mk (aK.mk l14 l15 l16) l17 m18 m19) (aV.mk x26.Rule r27.1)).bind fun r28 =>
    (if (!r28.2.1) then some (Br.ret (Br.ret (21, (ca.mk (aK.mk r28.2.2.n_.Events l15 l16) l17 r28.2.2.events m19)))) else (jM x11 r28.1).bind fun r30 =>
    (kz (ca.mk (aK.mk r28.2.2.n_.Events l15 l16) l17 r28.2.2.events m19) r30 x26.To a1).bind fun r31 =>
    (if (r31.1 != 0) then some (Br.ret (Br.ret (r31.1, (ca.mk (aK.mk r28.2.2.n_.Events r31.2.n_.Sets r31.2.n_.States) r31.2.at_ r28.2.2.events r31.2.sets)))) else some (.next (r28.2.2.n_.Events, r31.2.n_.Sets, r31.2.n_.States, r31.2.at_, r28.2.2.events, r31.2.sets))))
def iC (a1 : bd) : ((List aV) × (List Int) × (List (List Int)) × (List Int) × (List (aV × Int)) × (List (Int × Int)) × Int) → Option (Br ((List aV) × (List Int) × (List (List Int)) × (List Int) × (List (aV × Int)) × (List (Int × Int)) × Int) (Int × ca))
  | (l2, l3, l4, l5, m6, m7, i8) =>
  (if decide (i8 < (l3.length : Int)) then (aL l3 i8).bind fun x11 =>
    (aL l5 i8).bind fun x12 =>
    (lR a1 x12).bind fun r13 =>
    (bE (lT a1 x11 r13) (aS 0 (r13.length : Int)) (l2, l3, l4, l5, m6, m7)).bind fun q39 => match q39 with
    | .ret r => some r
    | .done (z33, z34, z35, z36, z37, z38) =>
    some (.next (z33, z34, z35, z36, z37, z38, IntKind.i64.wrap (i8 + 1))) else some (.brk (l2, l3, l4, l5, m6, m7, i8)))
def lU (a0 : ca) (a1 : bd) : Option (Int × ca) :=
  (kz a0 0 0 a1).bind fun r1 =>
    (dk (iC a1) cr (a0.n_.Events, r1.2.n_.Sets, r1.2.n_.States, r1.2.at_, a0.events, r1.2.sets, 0)).bind fun q47 => match q47 with
    | .ret r => some r
    | .done (z40, z41, z42, z43, z44, z45, z46) =>
    some (0, (ca.mk (aK.mk z40 z41 z42) z43 z44 z45))
def uc (a0 : (List Int)) (a1 : Int) (i1 : Int) : Unit → Option (Br Unit Int)
  | () =>
  (aL a0 i1).bind fun x7 =>
    (if (a1 == x7) then some (Br.ret i1) else some (.next ()))
def jN (a0 : (List Int)) (a1 : Int) : Option Int :=
  (bE (uc a0 a1) (aS 0 (a0.length : Int)) ()).bind fun q9 => match q9 with
    | .ret r => some r
    | .done () =>
    some (-1)
def jO (a0 : aK) (a1 : Int) : Option (Int × Bool) :=
  (jN a0.Sets a1).bind fun r1 =>
    some (IntKind.u16.wrap (kr r1 0), decide (r1 ≥ 0))
def jP (a0 : Int) (a1 : Int) : Option Bool :=
  some ((iU .u64 a0 a1) == 0)
def nK (a0 : Int) : Option Int :=
  some (ax .i64 (IntKind.i64.wrap (IntKind.u64.wrap ((IntKind.u64.wrap ((IntKind.u64.wrap ((ax .u64 (IntKind.u64.wrap (((IntKind.u64.wrap ((ax .u64 ((IntKind.u64.wrap ((ax .u64 (a0.fdiv (2 ^ 1)) 6148914691236517205) + (ax .u64 a0 6148914691236517205))).fdiv (2 ^ 2)) 3689348814741910323) + (ax .u64 (IntKind.u64.wrap ((ax .u64 (a0.fdiv (2 ^ 1)) 6148914691236517205) + (ax .u64 a0 6148914691236517205))) 3689348814741910323))).fdiv (2 ^ 4)) + (IntKind.u64.wrap ((ax .u64 ((IntKind.u64.wrap ((ax .u64 (a0.fdiv (2 ^ 1)) 6148914691236517205) + (ax .u64 a0 6148914691236517205))).fdiv (2 ^ 2)) 3689348814741910323) + (ax .u64 (IntKind.u64.wrap ((ax .u64 (a0.fdiv (2 ^ 1)) 6148914691236517205) + (ax .u64 a0 6148914691236517205))) 3689348814741910323))))) 1085102592571150095) + ((ax .u64 (IntKind.u64.wrap (((IntKind.u64.wrap ((ax .u64 ((IntKind.u64.wrap ((ax .u64 (a0.fdiv (2 ^ 1)) 6148914691236517205) + (ax .u64 a0 6148914691236517205))).fdiv (2 ^ 2)) 3689348814741910323) + (ax .u64 (IntKind.u64.wrap ((ax .u64 (a0.fdiv (2 ^ 1)) 6148914691236517205) + (ax .u64 a0 6148914691236517205))) 3689348814741910323))).fdiv (2 ^ 4)) + (IntKind.u64.wrap ((ax .u64 ((IntKind.u64.wrap ((ax .u64 (a0.fdiv (2 ^ 1)) 6148914691236517205) + (ax .u64 a0 6148914691236517205))).fdiv (2 ^ 2)) 3689348814741910323) + (ax .u64 (IntKind.u64.wrap ((ax .u64 (a0.fdiv (2 ^ 1)) 6148914691236517205) + (ax .u64 a0 6148914691236517205))) 3689348814741910323))))) 1085102592571150095).fdiv (2 ^ 8)))) + ((IntKind.u64.wrap ((ax .u64 (IntKind.u64.wrap (((IntKind.u64.wrap ((ax .u64 ((IntKind.u64.wrap ((ax .u64 (a0.fdiv (2 ^ 1)) 6148914691236517205) + (ax .u64 a0 6148914691236517205))).fdiv (2 ^ 2)) 3689348814741910323) + (ax .u64 (IntKind.u64.wrap ((ax .u64 (a0.fdiv (2 ^ 1)) 6148914691236517205) + (ax .u64 a0 6148914691236517205))) 3689348814741910323))).fdiv (2 ^ 4)) + (IntKind.u64.wrap ((ax .u64 ((IntKind.u64.wrap ((ax .u64 (a0.fdiv (2 ^ 1)) 6148914691236517205) + (ax .u64 a0 6148914691236517205))).fdiv (2 ^ 2)) 3689348814741910323) + (ax .u64 (IntKind.u64.wrap ((ax .u64 (a0.fdiv (2 ^ 1)) 6148914691236517205) + (ax .u64 a0 6148914691236517205))) 3689348814741910323))))) 1085102592571150095) + ((ax .u64 (IntKind.u64.wrap (((IntKind.u64.wrap ((ax .u64 ((IntKind.u64.wrap ((ax .u64 (a0.fdiv (2 ^ 1)) 6148914691236517205) + (ax .u64 a0 6148914691236517205))).fdiv (2 ^ 2)) 3689348814741910323) + (ax .u64 (IntKind.u64.wrap ((ax .u64 (a0.fdiv (2 ^ 1)) 6148914691236517205) + (ax .u64 a0 6148914691236517205))) 3689348814741910323))).fdiv (2 ^ 4)) + (IntKind.u64.wrap ((ax .u64 ((IntKind.u64.wrap ((ax .u64 (a0.fdiv (2 ^ 1)) 6148914691236517205) + (ax .u64 a0 6148914691236517205))).fdiv (2 ^ 2)) 3689348814741910323) + (ax .u64 (IntKind.u64.wrap ((ax .u64 (a0.fdiv (2 ^ 1)) 6148914691236517205) + (ax .u64 a0 6148914691236517205))) 3689348814741910323))))) 1085102592571150095).fdiv (2 ^ 8)))).fdiv (2 ^ 16)))) + ((IntKind.u64.wrap ((IntKind.u64.wrap ((ax .u64 (IntKind.u64.wrap (((IntKind.u64.wrap ((ax .u64 ((IntKind.u64.wrap ((ax .u64 (a0.fdiv (2 ^ 1)) 6148914691236517205) + (ax .u64 a0 6148914691236517205))).fdiv (2 ^ 2)) 3689348814741910323) + (ax .u64 (IntKind.u64.wrap ((ax .u64 (a0.fdiv (2 ^ 1)) 6148914691236517205) + (ax .u64 a0 6148914691236517205))) 3689348814741910323))).fdiv (2 ^ 4)) + (IntKind.u64.wrap ((ax .u64 ((IntKind.u64.wrap ((ax .u64 (a0.fdiv (2 ^ 1)) 6148914691236517205) + (ax .u64 a0 6148914691236517205))).fdiv (2 ^ 2)) 3689348814741910323) + (ax .u64 (IntKind.u64.wrap ((ax .u64 (a0.fdiv (2 ^ 1)) 6148914691236517205) + (ax .u64 a0 6148914691236517205))) 3689348814741910323))))) 1085102592571150095) + ((ax .u64 (IntKind.u64.wrap (((IntKind.u64.wrap ((ax .u64 ((IntKind.u64.wrap ((ax .u64 (a0.fdiv (2 ^ 1)) 6148914691236517205) + (ax .u64 a0 6148914691236517205))).fdiv (2 ^ 2)) 3689348814741910323) + (ax .u64 (IntKind.u64.wrap ((ax .u64 (a0.fdiv (2 ^ 1)) 6148914691236517205) + (ax .u64 a0 6148914691236517205))) 3689348814741910323))).fdiv (2 ^ 4)) + (IntKind.u64.wrap ((ax .u64 ((IntKind.u64.wrap ((ax .u64 (a0.fdiv (2 ^ 1)) 6148914691236517205) + (ax .u64 a0 6148914691236517205))).fdiv (2 ^ 2)) 3689348814741910323) + (ax .u64 (IntKind.u64.wrap ((ax .u64 (a0.fdiv (2 ^ 1)) 6148914691236517205) + (ax .u64 a0 6148914691236517205))) 3689348814741910323))))) 1085102592571150095).fdiv (2 ^ 8)))) + ((IntKind.u64.wrap ((ax .u64 (IntKind.u64.wrap (((IntKind.u64.wrap ((ax .u64 ((IntKind.u64.wrap ((ax .u64 (a0.fdiv (2 ^ 1)) 6148914691236517205) + (ax .u64 a0 6148914691236517205))).fdiv (2 ^ 2)) 3689348814741910323) + (ax .u64 (IntKind.u64.wrap ((ax .u64 (a0.fdiv (2 ^ 1)) 6148914691236517205) + (ax .u64 a0 6148914691236517205))) 3689348814741910323))).fdiv (2 ^ 4)) + (IntKind.u64.wrap ((ax .u64 ((IntKind.u64.wrap ((ax .u64 (a0.fdiv (2 ^ 1)) 6148914691236517205) + (ax .u64 a0 6148914691236517205))).fdiv (2 ^ 2)) 3689348814741910323) + (ax .u64 (IntKind.u64.wrap ((ax .u64 (a0.fdiv (2 ^ 1)) 6148914691236517205) + (ax .u64 a0 6148914691236517205))) 3689348814741910323))))) 1085102592571150095) + ((ax .u64 (IntKind.u64.wrap (((IntKind.u64.wrap ((ax .u64 ((IntKind.u64.wrap ((ax .u64 (a0.fdiv (2 ^ 1)) 6148914691236517205) + (ax .u64 a0 6148914691236517205))).fdiv (2 ^ 2)) 3689348814741910323) + (ax .u64 (IntKind.u64.wrap ((ax .u64 (a0.fdiv (2 ^ 1)) 6148914691236517205) + (ax .u64 a0 6148914691236517205))) 3689348814741910323))).fdiv (2 ^ 4)) + (IntKind.u64.wrap ((ax .u64 ((IntKind.u64.wrap ((ax .u64 (a0.fdiv (2 ^ 1)) 6148914691236517205) + (ax .u64 a0 6148914691236517205))).fdiv (2 ^ 2)) 3689348814741910323) + (ax .u64 (IntKind.u64.wrap ((ax .u64 (a0.fdiv (2 ^ 1)) 6148914691236517205) + (ax .u64 a0 6148914691236517205))) 3689348814741910323))))) 1085102592571150095).fdiv (2 ^ 8)))).fdiv (2 ^ 16)))).fdiv (2 ^ 32))))) 127)
def nL (a0 : Int) : Option Int :=
  (nK a0).bind fun r1 =>
    some r1
def p8 (a0 : aK) (a1 : Int) (i4 : Int) : Int → Option Int
  | i3 =>
  ((aL a0.Sets i4).bind fun x10 =>
    (jP a1 x10).bind fun r11 =>
    ((if r11 then (nL (iU .u64 x10 a1)).bind fun r13 =>
    some (r13 == 1) else some false)).bind fun y14 =>
    (if y14 then some (cw .u64 i3 (iU .u64 x10 a1)) else some i3)).bind fun y17 =>
    some y17
def kB (a0 : aK) (a1 : Int) : Option Int :=
  (jO a0 a1).bind fun r1 =>
    (if (!r1.2) then some 0 else (cy (p8 a0 a1) (aS 0 (a0.Sets.length : Int)) 0).bind fun z19 =>
    ((if decide ((a0.Events.length : Int) < 64) then (jA .u64 1 (a0.Events.length : Int)).bind fun q21 =>
    some (ax .u64 z19 (IntKind.u64.wrap (q21 - 1))) else some z19)).bind fun y22 =>
    some y22)
def p9 (a0 : Int) (a1 : Int) : Option Bool :=
  (jP a1 a0).bind fun r1 =>
    some r1
def ud (a0 : (List Int)) (a1 : (Int → Option Bool)) (i1 : Int) : Unit → Option (Br Unit Int)
  | () =>
  (aL a0 i1).bind fun x7 =>
    (a1 x7).bind fun x8 =>
    (if x8 then some (Br.ret i1) else some (.next ()))
def qa (a0 : (List Int)) (a1 : Int → Option Bool) : Option Int :=
  (bE (ud a0 a1) (aS 0 (a0.length : Int)) ()).bind fun q10 => match q10 with
    | .ret r => some r
    | .done () =>
    some (-1)
def lV (a0 : (List Int)) (a1 : Int → Option Bool) : Option Bool :=
  (qa a0 a1).bind fun r1 =>
    some (decide (r1 ≥ 0))
def iD (a0 : aK) (a1 : Int) : Option Bool :=
  (lV a0.Sets (fun y0 => p9 y0 a1)).bind fun r1 =>
    some r1
def nM (a1 : bd) (i2 : Int) : (List (az × Bool)) → Option (List (az × Bool))
  | m1 =>
  (aL a1.Edges i2).bind fun x8 =>
    some (cS m1 x8 true)
def ue (a0 : ca) (z9 : (List (az × Bool))) (i10 : Int) (x16 : Int) (r18 : (List Int)) (i19 : Int) : Unit → Option (Br Unit (Br Unit (Bool × ca)))
  | () =>
  (aL r18 i19).bind fun x25 =>
    (jM x16 x25).bind fun r26 =>
    (aL a0.at_ ((mget a0.sets r26).getD 0)).bind fun x27 =>
    (aL a0.at_ i10).bind fun x28 =>
    (aL a0.n_.Events x25).bind fun x29 =>
    (if (!((mget z9 (az.mk x28 x29.Rule x27)).getD false)) then some (Br.ret (Br.ret (false, a0))) else some (.next ()))
def uf (a0 : ca) (x16 : Int) (l31 : (List Int)) (i32 : Int) : Unit → Option (Br Unit (Br Unit (Bool × ca)))
  | () =>
  (aL l31 i32).bind fun x38 =>
    ((if (!((mget a0.sets (cw .u64 x16 x38)).isSome)) then (iD a0.n_ (cw .u64 x16 x38)).bind fun r40 =>
    some r40 else some false)).bind fun y41 =>
    (if y41 then some (Br.ret (Br.ret (false, a0))) else some (.next ()))
def qb (a0 : ca) (z9 : (List (az × Bool))) (i10 : Int) : Unit → Option (Br Unit (Bool × ca))
  | () =>
  (aL a0.n_.Sets i10).bind fun x16 =>
    (kB a0.n_ x16).bind fun r17 =>
    (kA r17).bind fun r18 =>
    (bE (ue a0 z9 i10 x16 r18) (aS 0 (r18.length : Int)) ()).bind fun q45 => match q45 with
    | .ret r => some r
    | .done () =>
    (gY a0.n_.Sets 0 i10).bind fun l31 =>
    (bE (uf a0 x16 l31) (aS 0 (l31.length : Int)) ()).bind fun q44 => match q44 with
    | .ret r => some r
    | .done () =>
    some (.next ())
def nN (a0 : ca) (a1 : bd) : Option (Bool × ca) :=
  (cy (nM a1) (aS 0 (a1.Edges.length : Int)) ([] : List (az × Bool))).bind fun z9 =>
    (bE (qb a0 z9) (aS 0 (a0.n_.Sets.length : Int)) ()).bind fun q46 => match q46 with
    | .ret r => some r
    | .done () =>
    some (true, a0)
def lW (a0 : api_Program) (a1 : aK) (a2 : Int) : Option (api_Rule × Bool) :=
  (if ((decide (a2 < 0)) || (decide (a2 ≥ (a1.Events.length : Int)))) then some ((api_Rule.mk [] [] []), false) else (aL a1.Events a2).bind fun x3 =>
    (if ((decide (x3.Rule < 0)) || (decide (x3.Rule ≥ (a0.Rules.length : Int)))) then some ((api_Rule.mk [] [] []), false) else (aL a0.Rules x3.Rule).bind fun x6 =>
    some (x6, true)))
def qc (a0 : api_Pair) : Option Bool :=
  some (a0.F == 0)
def nP (a0 : api_Program) (a1 : aK) (a2 : Int) : Option (Int × Bool) :=
  (lW a0 a1 a2).bind fun r1 =>
    (kw r1.1.When (fun y0 => qc y0)).bind fun r2 =>
    (if ((!r1.2) || (decide (r2 < 0))) then some (0, false) else (aL r1.1.When r2).bind fun x5 =>
    some (x5.N, true))
def nQ (a0 : api_Program) (a1 : aK) (i3 : Int) : ((List (Int × Int)) × (List Int)) → Option ((List (Int × Int)) × (List Int))
  | (m1, l2) =>
  (nP a0 a1 i3).bind fun r9 =>
    ((if (!((mget m1 r9.1).isSome)) then (cR l2 ([0] : List Int)).bind fun l11 =>
    some ((cS m1 r9.1 (l2.length : Int)), l11, (l2.length : Int)) else some (m1, l2, (mget m1 r9.1).getD 0))).bind fun (m12, l13, y14) =>
    (aL l13 y14).bind fun x16 =>
    (jM x16 i3).bind fun r17 =>
    (dD l13 y14 r17).bind fun l18 =>
    some (m12, l18)
def nS (a0 : api_Program) (a1 : aK) : Option (List Int) :=
  (cy (nQ a0 a1) (aS 0 (a1.Events.length : Int)) (([] : List (Int × Int)), ([] : List Int))).bind fun (z19, z20) =>
    some z20
def nU (a0 : Int) (a1 : Int) : Option Bool :=
  ((if (a0 != a1) then (jP a1 a0).bind fun r2 =>
    some r2 else some false)).bind fun y3 =>
    some y3
def qd (a0 : aK) (i2 : Int) : (List Int) → Option (List Int)
  | l1 =>
  ((aL a0.Sets i2).bind fun x8 =>
    (lV a0.Sets (fun y0 => nU y0 x8)).bind fun r9 =>
    (if (!r9) then (cR l1 ([x8] : List Int)).bind fun l11 =>
    some l11 else some l1)).bind fun l12 =>
    some l12
def nV (a0 : aK) : Option (List Int) :=
  (cy (qd a0) (aS 0 (a0.Sets.length : Int)) ([] : List Int)).bind fun z14 =>
    some z14
def nW (a0 : (List Int)) (a1 : Int) : Option Bool :=
  (jN a0 a1).bind fun r1 =>
    some (decide (r1 ≥ 0))
def nX {τ : Type} (a0 : List Int) (f : Int → τ → Option (Bool × τ)) (i1 : Int) : τ → Option (Br τ (Int × τ))
  | s => (aL a0 i1).bind fun x7 => (f x7 s).bind fun x8 => (if x8.1 then some (Br.ret (i1, x8.2)) else some (.next x8.2))
def nY {τ : Type} (a0 : List Int) (f : Int → τ → Option (Bool × τ)) (s : τ) : Option (Int × τ) :=
  (bE (nX a0 f) (aS 0 (a0.length : Int)) s).bind fun q => match q with
    | .ret r => some r
    | .done s => some (-1, s)
def lX {τ : Type} (a0 : List Int) (f : Int → τ → Option (Bool × τ)) (s : τ) : Option (Bool × τ) :=
  (nY a0 f s).bind fun r => some (decide (r.1 ≥ 0), r.2)
def nZ (self : Int → Int → (List (List Int)) → (List (Int × Bool)) → aK → Option (Bool × (List (List Int)) × (List (Int × Bool)))) (a0 : Int) (a1 : Int) (a2 : (List (List Int))) (a3 : (List (Int × Bool))) (a4 : aK) : Option (Bool × (List (List Int)) × (List (Int × Bool))) :=
  (if (a0 == (a2.length : Int)) then ((if (!((mget a3 a1).isSome)) then (iD a4 a1).bind fun r3 =>
    some ((cS a3 a1 r3), r3) else some (a3, (mget a3 a1).getD false))).bind fun (m4, y5) =>
    some (y5, a2, m4) else (aL a2 a0).bind fun x7 =>
    (lX x7 (fun t s => (self (IntKind.i64.wrap (a0 + 1)) (cw .u64 a1 t) s.1 s.2 a4).bind fun r => some ((!r.1), r.2)) (a2, a3)).bind fun r7 =>
    some ((!r7.1), r7.2.1, r7.2.2))
def jQ : Nat → Int → Int → (List (List Int)) → (List (Int × Bool)) → aK → Option (Bool × (List (List Int)) × (List (Int × Bool)))
  | 0 => fun _ _ _ _ _ => none
  | k + 1 => nZ (jQ k)
def qe (a0 : Int) (a1 : Int) (a2 : (List (List Int))) (a3 : (List (Int × Bool))) (a4 : aK) : Option (Bool × (List (List Int)) × (List (Int × Bool))) := jQ cr a0 a1 a2 a3 a4
def n5 (x10 : Int) (r11 : (List Int)) (i13 : Int) : (List Int) → Option (List Int)
  | l12 =>
  ((aL r11 i13).bind fun x19 =>
    (nW l12 (ax .u64 x19 x10)).bind fun r20 =>
    (if (!r20) then (cR l12 ([ax .u64 x19 x10] : List Int)).bind fun l22 =>
    some l22 else some l12)).bind fun l23 =>
    some l23
def qf (a1 : aK) (r1 : (List Int)) (i4 : Int) : ((List (List Int)) × Int) → Option (Br ((List (List Int)) × Int) Int)
  | (l2, i3) =>
  (aL r1 i4).bind fun x10 =>
    (nV a1).bind fun r11 =>
    (cy (n5 x10 r11) (aS 0 (r11.length : Int)) ([] : List Int)).bind fun z25 =>
    (cR l2 ([z25] : List (List Int))).bind fun l26 =>
    (if decide ((IntKind.i64.wrap (i3 * (z25.length : Int))) > 20000) then some (Br.ret 21) else some (.next (l26, IntKind.i64.wrap (i3 * (z25.length : Int)))))
def n6 (a0 : api_Program) (a1 : aK) : Option Int :=
  (nS a0 a1).bind fun r1 =>
    (bE (qf a1 r1) (aS 0 (r1.length : Int)) (([] : List (List Int)), 1)).bind fun q33 => match q33 with
    | .ret r => some r
    | .done (z29, z30) =>
    (qe 0 0 z29 ([] : List (Int × Bool)) a1).bind fun r31 =>
    (if (!r31.1) then some 23 else some 0)
def jR (a0 : api_Program) : Option (aK × Int) :=
  (jK a0).bind fun r1 =>
    (if (r1.2 != 0) then some ((aK.mk [] [] []), r1.2) else ((lU (ca.mk (aK.mk ([] : List aV) ([] : List Int) ([] : List (List Int))) ([] : List Int) ([] : List (aV × Int)) ([] : List (Int × Int))) r1.1).bind fun r3 =>
    ((if (r3.1 == 0) then (nN r3.2 r1.1).bind fun r5 =>
    some (!r5.1) else some false)).bind fun y6 =>
    (if y6 then some (22, r3.2.n_.Events, r3.2.n_.Sets, r3.2.n_.States, r3.2.at_, r3.2.events, r3.2.sets) else some (r3.1, r3.2.n_.Events, r3.2.n_.Sets, r3.2.n_.States, r3.2.at_, r3.2.events, r3.2.sets))).bind fun (y9, l10, l11, l12, l13, m14, m15) =>
    ((if (y9 == 0) then (n6 a0 (aK.mk l10 l11 l12)).bind fun r18 =>
    some r18 else some y9)).bind fun y19 =>
    (if (y19 != 0) then some ((aK.mk [] [] []), y19) else some ((aK.mk l10 l11 l12), 0)))
def zD (a0 : (List Int)) (i2 : Int) : Int → Option Int
  | i1 =>
  (aL a0 i2).bind fun x8 =>
    (jL x8).bind fun r9 =>
    some (cw .u64 i1 r9)
def qg (a0 : (List Int)) : Option Int :=
  (cy (zD a0) (aS 0 (a0.length : Int)) 0).bind fun z10 =>
    some z10
def qh (a0 : Int) (a1 : aK) : Option Bool :=
  (qg ([a0] : List Int)).bind fun r1 =>
    ((if (r1 != 0) then (iD a1 r1).bind fun r3 =>
    some r3 else some false)).bind fun y4 =>
    some y4
def ug (a0 : aK) (a1 : Int) (a2 : Int) : Option Bool :=
  ((if (a1 != a2) then (qh a1 a0).bind fun r2 =>
    (if r2 then (qh a2 a0).bind fun r4 =>
    (if r4 then (qg ([a1, a2] : List Int)).bind fun r6 =>
    (iD a0 r6).bind fun r7 =>
    some (!r7) else some false) else some false) else some false)).bind fun y8 =>
    some y8
def qi  : Option Bool :=
  (lN 1 0 0 1).bind fun r1 =>
    (lN 2 1 0 1).bind fun r2 =>
    (jR (api_Program.mk ([0, 0] : List Int) (api_Pol.mk 0 0 0 []) ([r1, r2] : List api_Rule))).bind fun r3 =>
    (lN 1 0 0 2).bind fun r4 =>
    (jR (api_Program.mk ([0] : List Int) (api_Pol.mk 0 0 0 []) ([r1, r4] : List api_Rule))).bind fun r5 =>
    (lN 2 0 0 2).bind fun r6 =>
    (jR (api_Program.mk ([0] : List Int) (api_Pol.mk 0 0 0 []) ([r1, r6] : List api_Rule))).bind fun r7 =>
    ((if (r3.2 == 0) then (if (r5.2 == 0) then (if (r7.2 == 23) then (if ((r3.1.Sets.length : Int) == 4) then (if ((r5.1.Sets.length : Int) == 3) then (ug r5.1 0 1).bind fun r13 =>
    (if r13 then (kB r3.1 0).bind fun r15 =>
    (if (r15 == 3) then (iD r3.1 3).bind fun r17 =>
    some r17 else some false) else some false) else some false) else some false) else some false) else some false) else some false)).bind fun y18 =>
    some y18
def uh (a0 : api_Program) (i3 : Int) : Unit → Option (Br Unit Bool)
  | () =>
  (aL a0.Rules i3).bind fun x9 =>
    (if ((decide ((x9.When.length : Int) > 8)) || ((decide ((x9.Guard.length : Int) > 6)) || (decide ((x9.Then.length : Int) > 6)))) then some (Br.ret false) else some (.next ()))
def n7 (a0 : api_Program) : Option Bool :=
  (if ((decide ((a0.Init.length : Int) > 5)) || (decide ((a0.Rules.length : Int) > 26))) then some false else (bE (uh a0) (aS 0 (a0.Rules.length : Int)) ()).bind fun q13 => match q13 with
    | .ret r => some r
    | .done () =>
    some true)
def zE (a0 : api_Pol) (self : api_Pol → Option Int) (i2 : Int) : Int → Option Int
  | i1 =>
  (aL a0.Kids i2).bind fun x8 =>
    (self x8).bind fun r9 =>
    some (IntKind.i64.wrap (i1 + r9))
def zF (self : api_Pol → Option Int) (a0 : api_Pol) : Option Int :=
  (cy (zE a0 self) (aS 0 (a0.Kids.length : Int)) 1).bind fun z10 =>
    some z10
def ui : Nat → api_Pol → Option Int
  | 0 => fun _ => none
  | k + 1 => zF (ui k)
def qj (a0 : api_Pol) : Option Int := ui cr a0
def zG (a0 : api_Pol) (self : api_Pol → Option Int) (i2 : Int) : Int → Option Int
  | i1 =>
  (aL a0.Kids i2).bind fun x8 =>
    (self x8).bind fun r9 =>
    some (kr i1 r9)
def zH (self : api_Pol → Option Int) (a0 : api_Pol) : Option Int :=
  (cy (zG a0 self) (aS 0 (a0.Kids.length : Int)) 0).bind fun z10 =>
    some (IntKind.i64.wrap (z10 + 1))
def uj : Nat → api_Pol → Option Int
  | 0 => fun _ => none
  | k + 1 => zH (uj k)
def qk (a0 : api_Pol) : Option Int := uj cr a0
def zI (a0 : api_Pol) (self : api_Pol → Option Bool) (i6 : Int) : Unit → Option (Br Unit (Unit ⊕ Bool))
  | () =>
  (aL a0.Kids i6).bind fun x12 =>
    (self x12).bind fun r13 =>
    (if (!r13) then some (Br.ret (Sum.inr false)) else some (.next ()))
def zJ (self : api_Pol → Option Bool) (a0 : api_Pol) : Option Bool :=
  (if ((a0.Op == 5) || ((decide (a0.Op < 0)) || (decide (a0.Op > 7)))) then some false else ((if ((a0.Op == 6) || (a0.Op == 7)) then (bE (zI a0 self) (aS 0 (a0.Kids.length : Int)) ()).bind fun q15 => match q15 with
    | .ret r => some r
    | .done () =>
    some (.inl ()) else some (.inl ()))).bind fun q16 => match q16 with
    | .inr r => some r
    | .inl () =>
    some true)
def uk : Nat → api_Pol → Option Bool
  | 0 => fun _ => none
  | k + 1 => zJ (uk k)
def zK (a0 : api_Pol) : Option Bool := uk cr a0
def zL (a0 : api_Pol) (a1 : Int) (self : api_Pol → Int → Option Bool) (i33 : Int) : Unit → Option (Br Unit Bool)
  | () =>
  (aL a0.Kids i33).bind fun x39 =>
    (self x39 a1).bind fun r40 =>
    (if (!r40) then some (Br.ret false) else some (.next ()))
def zM (self : api_Pol → Int → Option Bool) (a0 : api_Pol) (a1 : Int) : Option Bool :=
  ((if (a0.Op == 0) then some (a0.Op == 0) else some (a0.Op == 1))).bind fun y2 =>
    (if y2 then some (((a0.Kids.length : Int) == 0) && ((a0.F == 0) && (a0.N == 0))) else (if (a0.Op == 2) then some (((a0.Kids.length : Int) == 0) && ((decide (a0.F ≥ 0)) && (decide (a0.F < 8)))) else (if (a0.Op == 3) then some (((a0.Kids.length : Int) == 0) && ((decide (a0.F ≥ 0)) && (decide (a0.F < a1)))) else (if (a0.Op == 5) then some (((a0.Kids.length : Int) == 0) && ((decide (a0.F ≥ 1)) && (decide (a0.F < 8)))) else (if (a0.Op == 4) then ((if ((a0.Kids.length : Int) == 1) then (if (a0.F == 0) then (if (a0.N == 0) then (aL a0.Kids 0).bind fun x20 =>
    (zK x20).bind fun r21 =>
    (if r21 then (self x20 a1).bind fun r23 =>
    some r23 else some false) else some false) else some false) else some false)).bind fun y24 =>
    some y24 else ((if (a0.Op == 6) then some (a0.Op == 6) else some (a0.Op == 7))).bind fun y27 =>
    (if y27 then (if ((decide ((a0.Kids.length : Int) < 2)) || ((a0.F != 0) || (a0.N != 0))) then some false else (bE (zL a0 a1 self) (aS 0 (a0.Kids.length : Int)) ()).bind fun q42 => match q42 with
    | .ret r => some r
    | .done () =>
    some true) else some false))))))
def ul : Nat → api_Pol → Int → Option Bool
  | 0 => fun _ _ => none
  | k + 1 => zM (ul k)
def ql (a0 : api_Pol) (a1 : Int) : Option Bool := ul cr a0 a1
def um (a0 : (List api_Pair)) (a1 : Int) (i1 : Int) : Unit → Option (Br Unit Bool)
  | () =>
  (aL a0 i1).bind fun x7 =>
    ((if decide (x7.F < 0) then some true else (if decide (x7.F ≥ a1) then some true else (if decide (i1 > 0) then (aL a0 (IntKind.i64.wrap (i1 - 1))).bind fun x11 =>
    some (decide (x11.F ≥ x7.F)) else some false)))).bind fun y12 =>
    (if y12 then some (Br.ret false) else some (.next ()))
def kC (a0 : (List api_Pair)) (a1 : Int) : Option Bool :=
  (bE (um a0 a1) (aS 0 (a0.length : Int)) ()).bind fun q15 => match q15 with
    | .ret r => some r
    | .done () =>
    some true
def uo (a0 : api_Program) (i12 : Int) : Unit → Option (Br Unit Int)
  | () =>
  (aL a0.Rules i12).bind fun x18 =>
    ((if decide ((x18.When.length : Int) < 2) then some true else (aL x18.When 0).bind fun x20 =>
    (if (x20.F != 0) then some true else (aL x18.When 1).bind fun x22 =>
    (if (x22.F != 1) then some true else (kC x18.When 8).bind fun r24 =>
    (if (!r24) then some true else (kC x18.Guard (a0.Init.length : Int)).bind fun r26 =>
    (if (!r26) then some true else (kC x18.Then (a0.Init.length : Int)).bind fun r28 =>
    (if (!r28) then some true else some ((x18.Then.length : Int) == 0)))))))).bind fun y30 =>
    (if y30 then some (Br.ret 11) else some (.next ()))
def qm (a0 : api_Program) : Option Int :=
  ((if decide ((a0.Init.length : Int) < 1) then some true else (if decide ((a0.Init.length : Int) > 4) then some true else (qj a0.Pol).bind fun r3 =>
    (if decide (r3 > 300) then some true else (qk a0.Pol).bind fun r5 =>
    (if decide (r5 > 20) then some true else some (decide ((a0.Rules.length : Int) > 24))))))).bind fun y7 =>
    (if y7 then some 2 else (ql a0.Pol (a0.Init.length : Int)).bind fun r10 =>
    (if (!r10) then some 11 else (bE (uo a0) (aS 0 (a0.Rules.length : Int)) ()).bind fun q33 => match q33 with
    | .ret r => some r
    | .done () =>
    some 0))
def ur (a0 : api_Rule) (a1 : (List Int)) (i1 : Int) : Unit → Option (Br Unit Bool)
  | () =>
  (aL a0.Guard i1).bind fun x7 =>
    ((if decide (x7.F < 0) then some true else (if decide (x7.F ≥ (a1.length : Int)) then some true else (aL a1 x7.F).bind fun x10 =>
    some (x10 != x7.N)))).bind fun y11 =>
    (if y11 then some (Br.ret false) else some (.next ()))
def qn (a0 : api_Rule) (a1 : (List Int)) : Option Bool :=
  (bE (ur a0 a1) (aS 0 (a0.Guard.length : Int)) ()).bind fun q14 => match q14 with
    | .ret r => some r
    | .done () =>
    some true
def qo (a0 : api_Rule) (i3 : Int) : (List Int) → Option (List Int)
  | l2 =>
  ((aL a0.Then i3).bind fun x9 =>
    (if ((decide (x9.F ≥ 0)) && (decide (x9.F < (l2.length : Int)))) then (aL l2 x9.F).bind fun x12 =>
    (dD l2 x9.F x9.N).bind fun l13 =>
    some l13 else some l2)).bind fun l14 =>
    some l14
def n8 (a0 : api_Rule) (a1 : (List Int)) : Option (List Int) :=
  (cR ([] : List Int) a1).bind fun l1 =>
    (cy (qo a0) (aS 0 (a0.Then.length : Int)) l1).bind fun z16 =>
    some z16
def ut (a0 : (List Int)) (a1 : (List Int)) (i2 : Int) : Unit → Option (Br Unit Bool)
  | () =>
  (aL a0 i2).bind fun x8 =>
    (aL a1 i2).bind fun x9 =>
    (if (x8 != x9) then some (Br.ret false) else some (.next ()))
def jS (a0 : (List Int)) (a1 : (List Int)) : Option Bool :=
  (if ((a0.length : Int) != (a1.length : Int)) then some false else (bE (ut a0 a1) (aS 0 (a0.length : Int)) ()).bind fun q11 => match q11 with
    | .ret r => some r
    | .done () =>
    some true)
def uv (a0 : (List (List Int))) (a1 : (List Int)) (i1 : Int) : Unit → Option (Br Unit Int)
  | () =>
  (aL a0 i1).bind fun x7 =>
    (jS x7 a1).bind fun r8 =>
    (if r8 then some (Br.ret i1) else some (.next ()))
def n9 (a0 : (List (List Int))) (a1 : (List Int)) : Option Int :=
  (bE (uv a0 a1) (aS 0 (a0.length : Int)) ()).bind fun q10 => match q10 with
    | .ret r => some r
    | .done () =>
    some (-1)
def oa (a0 : bd) (l9 : (List Bool)) (i10 : Int) (i17 : Int) : Bool → Option Bool
  | y16 =>
  ((aL a0.Edges i17).bind fun x23 =>
    ((if (x23.From == i10) then (aL l9 x23.To).bind fun x25 =>
    some (!x25) else some false)).bind fun y26 =>
    (if y26 then some false else some y16)).bind fun y29 =>
    some y29
def ob (a0 : bd) (i10 : Int) : (List Bool) → Option (List Bool)
  | l9 =>
  (cy (oa a0 l9 i10) (aS 0 (a0.Edges.length : Int)) true).bind fun z31 =>
    (aL l9 i10).bind fun x32 =>
    ((if x32 then (dD l9 i10 true).bind fun l34 =>
    some l34 else (dD l9 i10 z31).bind fun l35 =>
    some l35)).bind fun l36 =>
    some l36
def oc (a0 : bd) (i3 : Int) : (List Bool) → Option (List Bool)
  | l2 =>
  (cy (ob a0) (aS 0 (a0.States.length : Int)) l2).bind fun z39 =>
    some z39
def uw (z41 : (List Bool)) (i42 : Int) : Unit → Option (Br Unit Bool)
  | () =>
  (aL z41 i42).bind fun x48 =>
    (if (!x48) then some (Br.ret true) else some (.next ()))
def lY (a0 : bd) : Option Bool :=
  (gZ (a0.States.length : Int) false).bind fun l1 =>
    (cy (oc a0) (aS 0 (a0.States.length : Int)) l1).bind fun z41 =>
    (bE (uw z41) (aS 0 (z41.length : Int)) ()).bind fun q50 => match q50 with
    | .ret r => some r
    | .done () =>
    some false
def iX (a0 : api_Program) (i6 : Int) (i11 : Int) : ((List (List Int)) × (List az)) → Option (Br ((List (List Int)) × (List az)) (Br ((List (List Int)) × (List az) × Int) (bd × Int)))
  | (l9, l10) =>
  (((aL a0.Rules i11).bind fun x17 =>
    (aL l9 i6).bind fun x18 =>
    (qn x17 x18).bind fun r19 =>
    (if (!r19) then some (.inl (l9, l10)) else (n8 x17 x18).bind fun r21 =>
    (jS r21 x18).bind fun r22 =>
    (if r22 then some (.inl (l9, l10)) else (n9 l9 r21).bind fun r24 =>
    ((if decide (r24 < 0) then (cR l9 ([r21] : List (List Int))).bind fun l26 =>
    some (l26, (l9.length : Int)) else some (l9, r24))).bind fun (l27, y28) =>
    (if decide ((l27.length : Int) > 128) then some (Sum.inr (Br.ret (Br.ret ((bd.mk [] []), 21)))) else (cR l10 ([(az.mk i6 i11 y28)] : List az)).bind fun l31 =>
    some (.inl (l27, l31))))) : Option (((List (List Int)) × (List az)) ⊕ (Br ((List (List Int)) × (List az)) (Br ((List (List Int)) × (List az) × Int) (bd × Int)))))).bind fun q34 => match q34 with
    | .inr r => some r
    | .inl (l32, l33) =>
    some (.next (l32, l33))
def hG (a0 : api_Program) : ((List (List Int)) × (List az) × Int) → Option (Br ((List (List Int)) × (List az) × Int) (bd × Int))
  | (l4, l5, i6) =>
  (if decide (i6 < (l4.length : Int)) then (bE (iX a0 i6) (aS 0 (a0.Rules.length : Int)) (l4, l5)).bind fun q37 => match q37 with
    | .ret r => some r
    | .done (z35, z36) =>
    some (.next (z35, z36, IntKind.i64.wrap (i6 + 1))) else some (.brk (l4, l5, i6)))
def od (a0 : api_Program) : Option (bd × Int) :=
  (qm a0).bind fun r1 =>
    (if (r1 != 0) then some ((bd.mk [] []), r1) else (cR ([] : List Int) a0.Init).bind fun l3 =>
    (dk (hG a0) cr (([l3] : List (List Int)), ([] : List az), 0)).bind fun q43 => match q43 with
    | .ret r => some r
    | .done (z38, z39, z40) =>
    (lY (bd.mk z38 z39)).bind fun r41 =>
    (if r41 then some ((bd.mk [] []), 20) else some ((bd.mk z38 z39), 0)))
def uz (i2 : Int) : Int → Option Int
  | i1 =>
  some (IntKind.u64.wrap (2 * i1))
def kD (a0 : Int) : Option Int :=
  (cy uz (aS 0 a0) 1).bind fun z8 =>
    some z8
def lZ (a0 : Int) (a1 : Int) : Option Bool :=
  ((if decide (a1 ≥ 0) then (if decide (a1 < 64) then (kD a1).bind fun r3 =>
    (kq .u64 a0 r3).bind fun q4 =>
    some ((q4.tmod 2) == 1) else some false) else some false)).bind fun y5 =>
    some y5
def qp (a0 : aK) (a1 : Int) (a2 : Int) (i2 : Int) : Int → Option Int
  | i1 =>
  ((aL a0.Events i2).bind fun x8 =>
    ((if (x8.Rule == a2) then (lZ a1 i2).bind fun r10 =>
    some r10 else some false)).bind fun y11 =>
    (if y11 then some (IntKind.i64.wrap (i1 + 1)) else some i1)).bind fun y14 =>
    some y14
def qr (a0 : aK) (a1 : Int) (a2 : Int) : Option Int :=
  (cy (qp a0 a1 a2) (aS 0 (a0.Events.length : Int)) 0).bind fun z16 =>
    some z16
def uA (a0 : (List aV)) (a1 : aV) (i1 : Int) : Unit → Option (Br Unit Int)
  | () =>
  (aL a0 i1).bind fun x7 =>
    (if (x7 == a1) then some (Br.ret i1) else some (.next ()))
def qt (a0 : (List aV)) (a1 : aV) : Option Int :=
  (bE (uA a0 a1) (aS 0 (a0.length : Int)) ()).bind fun q9 => match q9 with
    | .ret r => some r
    | .done () =>
    some (-1)
def kE (a0 : Int) (a1 : Int) : Option Int :=
  ((if decide (a1 < 0) then some true else (if decide (a1 > 63) then some true else (lZ a0 a1).bind fun r3 =>
    some r3))).bind fun y4 =>
    (if y4 then some a0 else (kD a1).bind fun r7 =>
    some (IntKind.u64.wrap (a0 + r7)))
def uB (a0 : aK) (a1 : Int) (i1 : Int) : Unit → Option (Br Unit Int)
  | () =>
  (aL a0.Sets i1).bind fun x7 =>
    (if (x7 == a1) then some (Br.ret i1) else some (.next ()))
def ma (a0 : aK) (a1 : Int) : Option Int :=
  (bE (uB a0 a1) (aS 0 (a0.Sets.length : Int)) ()).bind fun q9 => match q9 with
    | .ret r => some r
    | .done () =>
    some (-1)
def mb (a1 : bd) (i5 : Int) (r9 : Int) (i13 : Int) : ((List aV) × (List Int) × (List (List Int))) → Option (Br ((List aV) × (List Int) × (List (List Int))) (Br ((List aV) × (List Int) × (List (List Int)) × Int) (aK × Int)))
  | (l10, l11, l12) =>
  (((aL a1.Edges i13).bind fun x19 =>
    (if (x19.From != r9) then some (.inl (l10, l11, l12)) else (aL l11 i5).bind fun x21 =>
    (qr (aK.mk l10 l11 l12) x21 x19.Rule).bind fun r22 =>
    (qt l10 (aV.mk x19.Rule r22)).bind fun r23 =>
    ((if decide (r23 < 0) then (cR l10 ([(aV.mk x19.Rule r22)] : List aV)).bind fun l25 =>
    some (l25, (l10.length : Int)) else some (l10, r23))).bind fun (l26, y27) =>
    (if decide (y27 > 63) then some (Sum.inr (Br.ret (Br.ret ((aK.mk [] [] []), 21)))) else (kE x21 y27).bind fun r30 =>
    (ma (aK.mk l26 l11 l12) r30).bind fun r31 =>
    (if decide (r31 ≥ 0) then (aL l12 r31).bind fun x33 =>
    (aL a1.States x19.To).bind fun x34 =>
    (jS x33 x34).bind fun r35 =>
    (if (!r35) then some (Sum.inr (Br.ret (Br.ret ((aK.mk [] [] []), 22)))) else some (.inl (l26, l11, l12))) else (cR l11 ([r30] : List Int)).bind fun l37 =>
    (aL a1.States x19.To).bind fun x38 =>
    (cR l12 ([x38] : List (List Int))).bind fun l39 =>
    (if decide ((l37.length : Int) > 256) then some (Sum.inr (Br.ret (Br.ret ((aK.mk [] [] []), 21)))) else some (.inl (l26, l37, l39)))))) : Option (((List aV) × (List Int) × (List (List Int))) ⊕ (Br ((List aV) × (List Int) × (List (List Int))) (Br ((List aV) × (List Int) × (List (List Int)) × Int) (aK × Int)))))).bind fun q44 => match q44 with
    | .inr r => some r
    | .inl (l41, l42, l43) =>
    some (.next (l41, l42, l43))
def jT (a1 : bd) : ((List aV) × (List Int) × (List (List Int)) × Int) → Option (Br ((List aV) × (List Int) × (List (List Int)) × Int) (aK × Int))
  | (l2, l3, l4, i5) =>
  (if decide (i5 < (l3.length : Int)) then (aL l4 i5).bind fun x8 =>
    (n9 a1.States x8).bind fun r9 =>
    (bE (mb a1 i5 r9) (aS 0 (a1.Edges.length : Int)) (l2, l3, l4)).bind fun q48 => match q48 with
    | .ret r => some r
    | .done (z45, z46, z47) =>
    some (.next (z45, z46, z47, IntKind.i64.wrap (i5 + 1))) else some (.brk (l2, l3, l4, i5)))
def oe (a0 : api_Program) (a1 : bd) : Option (aK × Int) :=
  (aL a1.States 0).bind fun x1 =>
    (dk (jT a1) cr (([] : List aV), ([0] : List Int), ([x1] : List (List Int)), 0)).bind fun q53 => match q53 with
    | .ret r => some r
    | .done (z49, z50, z51, z52) =>
    some ((aK.mk z49 z50 z51), 0)
def uC (a0 : bd) (a1 : Int) (a2 : (List Int)) (a3 : (List Int)) (i1 : Int) : Unit → Option (Br Unit Bool)
  | () =>
  (aL a0.Edges i1).bind fun x7 =>
    ((if (x7.Rule == a1) then (aL a0.States x7.From).bind fun x9 =>
    (jS x9 a2).bind fun r10 =>
    (if r10 then (aL a0.States x7.To).bind fun x12 =>
    (jS x12 a3).bind fun r13 =>
    some r13 else some false) else some false)).bind fun y14 =>
    (if y14 then some (Br.ret true) else some (.next ()))
def qu (a0 : bd) (a1 : Int) (a2 : (List Int)) (a3 : (List Int)) : Option Bool :=
  (bE (uC a0 a1 a2 a3) (aS 0 (a0.Edges.length : Int)) ()).bind fun q17 => match q17 with
    | .ret r => some r
    | .done () =>
    some false
def uD (a0 : aK) (a1 : Int) (i1 : Int) : Unit → Option (Br Unit Bool)
  | () =>
  (aL a0.Sets i1).bind fun x7 =>
    (if ((ax .u64 a1 x7) == a1) then some (Br.ret true) else some (.next ()))
def og (a0 : aK) (a1 : Int) : Option Bool :=
  (bE (uD a0 a1) (aS 0 (a0.Sets.length : Int)) ()).bind fun q9 => match q9 with
    | .ret r => some r
    | .done () =>
    some false
def uE (a0 : aK) (a1 : bd) (i1 : Int) (i7 : Int) : Unit → Option (Br Unit (Br Unit Bool))
  | () =>
  (aL a0.Sets i1).bind fun x13 =>
    (kE x13 i7).bind fun r14 =>
    (ma a0 r14).bind fun r15 =>
    ((if decide (r15 ≥ 0) then (if (r15 != i1) then (aL a0.Events i7).bind fun x18 =>
    (aL a0.States i1).bind fun x19 =>
    (aL a0.States r15).bind fun x20 =>
    (qu a1 x18.Rule x19 x20).bind fun r21 =>
    some (!r21) else some false) else some false)).bind fun y22 =>
    (if y22 then some (Br.ret (Br.ret false)) else some (.next ()))
def qv (a0 : aK) (i1 : Int) (i25 : Int) : Unit → Option (Br Unit (Br Unit Bool))
  | () =>
  (aL a0.Sets i1).bind fun x31 =>
    (aL a0.Sets i25).bind fun x32 =>
    (ma a0 (cw .u64 x31 x32)).bind fun r33 =>
    ((if decide (r33 < 0) then (og a0 (cw .u64 x31 x32)).bind fun r35 =>
    some r35 else some false)).bind fun y36 =>
    (if y36 then some (Br.ret (Br.ret false)) else some (.next ()))
def uF (a0 : aK) (a1 : bd) (i1 : Int) : Unit → Option (Br Unit Bool)
  | () =>
  (bE (uE a0 a1 i1) (aS 0 (a0.Events.length : Int)) ()).bind fun q40 => match q40 with
    | .ret r => some r
    | .done () =>
    (bE (qv a0 i1) (aS 0 i1) ()).bind fun q39 => match q39 with
    | .ret r => some r
    | .done () =>
    some (.next ())
def qw (a0 : aK) (a1 : bd) : Option Bool :=
  (bE (uF a0 a1) (aS 0 (a0.Sets.length : Int)) ()).bind fun q41 => match q41 with
    | .ret r => some r
    | .done () =>
    some true
def qx (x9 : api_Rule) (i10 : Int) : Unit → Option (Br Unit Int)
  | () =>
  (aL x9.When i10).bind fun x16 =>
    (if (x16.F == 0) then some (Br.ret (IntKind.i64.wrap x16.N)) else some (.next ()))
def qy (a0 : api_Program) (a1 : aK) (a2 : Int) : Option Int :=
  ((if decide (a2 < 0) then some true else (if decide (a2 ≥ (a1.Events.length : Int)) then some true else (aL a1.Events a2).bind fun x3 =>
    (if decide (x3.Rule < 0) then some true else some (decide (x3.Rule ≥ (a0.Rules.length : Int))))))).bind fun y5 =>
    (if y5 then some (-1) else (aL a1.Events a2).bind fun x8 =>
    (aL a0.Rules x8.Rule).bind fun x9 =>
    (bE (qx x9) (aS 0 (x9.When.length : Int)) ()).bind fun q18 => match q18 with
    | .ret r => some r
    | .done () =>
    some (-1))
def uG (a0 : (List Int)) (a1 : Int) (i1 : Int) : Unit → Option (Br Unit (List Int))
  | () =>
  (aL a0 i1).bind fun x7 =>
    (if (x7 == a1) then some (Br.ret a0) else some (.next ()))
def qz (a0 : (List Int)) (a1 : Int) : Option (List Int) :=
  (bE (uG a0 a1) (aS 0 (a0.length : Int)) ()).bind fun q10 => match q10 with
    | .ret r => some r
    | .done () =>
    (cR a0 ([a1] : List Int)).bind fun l9 =>
    some l9
def qA (l1 : (List Int)) (r9 : Int) : Int → Option (Int ⊕ Int)
  | i10 =>
  ((if decide (i10 < (l1.length : Int)) then (aL l1 i10).bind fun x13 =>
    some (x13 != r9) else some false)).bind fun y14 =>
    (if y14 then some (.inl (IntKind.i64.wrap (i10 + 1))) else some (.inr i10))
def mc (a0 : api_Program) (a1 : aK) (i3 : Int) : ((List Int) × (List Int)) → Option ((List Int) × (List Int))
  | (l1, l2) =>
  (qy a0 a1 i3).bind fun r9 =>
    (iV (qA l1 r9) cr 0).bind fun z17 =>
    ((if (z17 == (l1.length : Int)) then (cR l1 ([r9] : List Int)).bind fun l19 =>
    (cR l2 ([0] : List Int)).bind fun l20 =>
    some (l19, l20) else some (l1, l2))).bind fun (l21, l22) =>
    (aL l22 z17).bind fun x24 =>
    (kE x24 i3).bind fun r25 =>
    (dD l22 z17 r25).bind fun l26 =>
    some (l21, l26)
def qB (a1 : aK) (i38 : Int) (i45 : Int) : Bool → Option Bool
  | y44 =>
  ((if y44 then (if (i45 == i38) then some true else (aL a1.Sets i38).bind fun x53 =>
    (aL a1.Sets i45).bind fun x54 =>
    some ((ax .u64 x53 x54) != x53)) else some false)).bind fun y55 =>
    some y55
def oh (a1 : aK) (z29 : (List Int)) (i31 : Int) (i38 : Int) : (List Int) → Option (List Int)
  | l37 =>
  ((cy (qB a1 i38) (aS 0 (a1.Sets.length : Int)) true).bind fun z57 =>
    (if z57 then (aL a1.Sets i38).bind fun x59 =>
    (aL z29 i31).bind fun x60 =>
    (qz l37 (ax .u64 x59 x60)).bind fun r61 =>
    some r61 else some l37)).bind fun l63 =>
    some l63
def qC (a1 : aK) (z29 : (List Int)) (i31 : Int) : (List (List Int)) → Option (List (List Int))
  | l30 =>
  (cy (oh a1 z29 i31) (aS 0 (a1.Sets.length : Int)) ([] : List Int)).bind fun z65 =>
    (cR l30 ([z65] : List (List Int))).bind fun l66 =>
    some l66
def qD (a0 : api_Program) (a1 : aK) : Option (List (List Int)) :=
  (cy (mc a0 a1) (aS 0 (a1.Events.length : Int)) (([] : List Int), ([] : List Int))).bind fun (z28, z29) =>
    (cy (qC a1 z29) (aS 0 (z29.length : Int)) ([] : List (List Int))).bind fun z68 =>
    some z68
def qE (r1 : (List (List Int))) (i3 : Int) : Int → Option Int
  | i2 =>
  (aL r1 i3).bind fun x9 =>
    some (pF (IntKind.i64.wrap (i2 * (x9.length : Int))) 20001)
def qF (y12 : (List Int)) (i20 : Int) (x28 : (List Int)) (i27 : Int) : (List Int) → Option (List Int)
  | l26 =>
  (aL y12 i20).bind fun x34 =>
    (aL x28 i27).bind fun x35 =>
    (cR l26 ([cw .u64 x34 x35] : List Int)).bind fun l36 =>
    some l36
def qH (r1 : (List (List Int))) (y12 : (List Int)) (i13 : Int) (i20 : Int) : (List Int) → Option (List Int)
  | l19 =>
  (aL r1 i13).bind fun x28 =>
    (cy (qF y12 i20 x28) (aS 0 (x28.length : Int)) l19).bind fun z37 =>
    some z37
def qI (r1 : (List (List Int))) (i13 : Int) : (List Int) → Option (List Int)
  | y12 =>
  (cy (qH r1 y12 i13) (aS 0 (y12.length : Int)) ([] : List Int)).bind fun z39 =>
    some z39
def uH (a1 : aK) (z41 : (List Int)) (i42 : Int) : Unit → Option (Br Unit Int)
  | () =>
  (aL z41 i42).bind fun x48 =>
    (og a1 x48).bind fun r49 =>
    (if (!r49) then some (Br.ret 23) else some (.next ()))
def qJ (a0 : api_Program) (a1 : aK) : Option Int :=
  (qD a0 a1).bind fun r1 =>
    (cy (qE r1) (aS 0 (r1.length : Int)) 1).bind fun z10 =>
    (if decide (z10 > 20000) then some 21 else (cy (qI r1) (aS 0 (r1.length : Int)) ([0] : List Int)).bind fun z41 =>
    (bE (uH a1 z41) (aS 0 (z41.length : Int)) ()).bind fun q51 => match q51 with
    | .ret r => some r
    | .done () =>
    some 0)
def uI (a0 : api_Program) : Option (aK × Int) :=
  (od a0).bind fun r1 =>
    (if (r1.2 != 0) then some ((aK.mk [] [] []), r1.2) else (oe a0 r1.1).bind fun r3 =>
    (if (r3.2 != 0) then some ((aK.mk [] [] []), r3.2) else (qw r3.1 r1.1).bind fun r5 =>
    (if (!r5) then some ((aK.mk [] [] []), 22) else (qJ a0 r3.1).bind fun r7 =>
    (if (r7 != 0) then some ((aK.mk [] [] []), r7) else some (r3.1, 0)))))
def qK (a0 : Int) (i2 : Int) : (List Int) → Option (List Int)
  | l1 =>
  ((kD i2).bind fun r8 =>
    (kq .u64 a0 r8).bind fun q9 =>
    (if ((q9.tmod 2) == 1) then (cR l1 ([i2] : List Int)).bind fun l11 =>
    some l11 else some l1)).bind fun l12 =>
    some l12
def oi (a0 : Int) : Option (List Int) :=
  (cy (qK a0) (aS 0 64) ([] : List Int)).bind fun z14 =>
    some z14
def qL (a0 : Int) : Option Bool :=
  some ((decide (a0 ≥ 0)) && (decide (a0 < 8)))
def ol (a0 : api_Pair) (a1 : (A8 Int)) : Option Bool :=
  (qL a0.F).bind fun r1 =>
    ((if (!r1) then some true else (a1.get a0.F).bind fun x3 =>
    some (x3 != a0.N))).bind fun y4 =>
    some y4
def om (a0 : (A8 Int)) (a1 : (List api_Pair)) : Option Bool :=
  (lQ a1 (fun y0 => ol y0 a0)).bind fun r1 =>
    some (!r1)
def qM (a0 : api_Program) (a1 : aK) (a3 : (A8 Int)) (r2 : (List Int)) (i4 : Int) : Int → Option Int
  | i3 =>
  ((aL r2 i4).bind fun x10 =>
    (lW a0 a1 x10).bind fun r11 =>
    ((if (!r11.2) then some true else (om a3 r11.1.When).bind fun r13 =>
    some (!r13))).bind fun y14 =>
    (if y14 then some i3 else (jM i3 x10).bind fun r17 =>
    (jO a1 r17).bind fun r18 =>
    (if r18.2 then some r17 else some i3))).bind fun y20 =>
    some y20
def md (a0 : api_Program) (a1 : aK) (a2 : Int) (a3 : (A8 Int)) : Option Int :=
  (kB a1 a2).bind fun r1 =>
    (kA r1).bind fun r2 =>
    (cy (qM a0 a1 a3 r2) (aS 0 (r2.length : Int)) a2).bind fun z22 =>
    some z22
def uJ (a0 : (A8 Int)) (a1 : (List api_Pair)) (i1 : Int) : Unit → Option (Br Unit Bool)
  | () =>
  (aL a1 i1).bind fun x7 =>
    ((if decide (x7.F < 0) then some true else (if decide (x7.F > 7) then some true else (a0.get x7.F).bind fun x10 =>
    some (x10 != x7.N)))).bind fun y11 =>
    (if y11 then some (Br.ret false) else some (.next ()))
def me (a0 : (A8 Int)) (a1 : (List api_Pair)) : Option Bool :=
  (bE (uJ a0 a1) (aS 0 (a1.length : Int)) ()).bind fun q14 => match q14 with
    | .ret r => some r
    | .done () =>
    some true
def uK (a0 : api_Program) (a2 : (A8 Int)) (r5 : (aK × Int)) (r13 : (List Int)) (i14 : Int) : Unit → Option (Br Unit Bool)
  | () =>
  (aL r13 i14).bind fun x20 =>
    (aL r5.1.Events x20).bind fun x21 =>
    (aL a0.Rules x21.Rule).bind fun x22 =>
    (me a2 x22.When).bind fun r23 =>
    (if (!r23) then some (Br.ret false) else some (.next ()))
def uL (a0 : api_Program) (a1 : Int) (a2 : (A8 Int)) (i25 : Int) : Unit → Option (Br Unit Bool)
  | () =>
  (aL a0.Rules i25).bind fun x31 =>
    (me (A8.mk (IntKind.u16.wrap (a2.a0 + 100)) a2.a1 a2.a2 a2.a3 a2.a4 a2.a5 a2.a6 a2.a7) x31.When).bind fun r32 =>
    (if r32 then some (Br.ret true) else some (.next ()))
def law12_NesSeen (a0 : api_Program) (a1 : Int) (a2 : (A8 Int)) : Option Bool :=
  (qi).bind fun r1 =>
    (if (!r1) then some false else (n7 (api_Program.mk a0.Init (api_Pol.mk 0 0 0 []) a0.Rules)).bind fun r3 =>
    (if (!r3) then some true else (jR (api_Program.mk a0.Init (api_Pol.mk 0 0 0 []) a0.Rules)).bind fun r5 =>
    (if (r5.2 != 0) then some true else (lI (IntKind.i64.wrap a1) (r5.1.Sets.length : Int)).bind fun q7 =>
    (aL r5.1.Sets q7).bind fun x8 =>
    (md (api_Program.mk a0.Init (api_Pol.mk 0 0 0 []) a0.Rules) r5.1 x8 a2).bind fun r9 =>
    (jO r5.1 r9).bind fun r10 =>
    (if ((!r10.2) || ((ax .u64 r9 x8) != x8)) then some false else (oi (iU .u64 r9 x8)).bind fun r13 =>
    (bE (uK a0 a2 r5 r13) (aS 0 (r13.length : Int)) ()).bind fun q36 => match q36 with
    | .ret r => some r
    | .done () =>
    (bE (uL a0 a1 a2) (aS 0 (a0.Rules.length : Int)) ()).bind fun q35 => match q35 with
    | .ret r => some r
    | .done () =>
    (md (api_Program.mk a0.Init (api_Pol.mk 0 0 0 []) a0.Rules) r5.1 x8 (A8.mk (IntKind.u16.wrap (a2.a0 + 100)) a2.a1 a2.a2 a2.a3 a2.a4 a2.a5 a2.a6 a2.a7)).bind fun r34 =>
    some (r34 == x8)))))
end Go.AM
