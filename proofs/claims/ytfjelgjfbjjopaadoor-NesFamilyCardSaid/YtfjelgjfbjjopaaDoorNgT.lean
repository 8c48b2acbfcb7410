import Derived.Test.YtfjelgjfbjjopaaDoorAmPre
set_option linter.unusedVariables false
namespace Go.AM
open Go
def gtab0 : List Int := [0, 1, 56, 2, 57, 49, 28, 3, 61, 58, 42, 50, 38, 29, 17, 4, 62, 47, 59, 36, 45, 43, 51, 22, 53, 39, 33, 30, 24, 18, 12, 5, 63, 55, 48, 27, 60, 41, 37, 16, 46, 35, 44, 21, 52, 32, 23, 11, 54, 26, 40, 15, 34, 20, 31, 10, 25, 14, 19, 9, 13, 8, 7, 6]
structure api_Pair where
  F : Int
  N : Int
  deriving DecidableEq, Inhabited
structure az where
  From : Int
  Rule : Int
  To : Int
  deriving DecidableEq, Inhabited
structure api_Pol where
  Op : Int
  F : Int
  N : Int
  Kids : (List api_Pol)
  deriving Inhabited
structure api_Rule where
  When : (List api_Pair)
  Guard : (List api_Pair)
  Then : (List api_Pair)
  deriving DecidableEq, Inhabited
structure api_Program where
  Init : (List Int)
  Pol : api_Pol
  Rules : (List api_Rule)
  deriving Inhabited
structure aZ where
  Rule : Int
  Count : Int
  deriving DecidableEq, Inhabited
structure aL where
  Events : (List aZ)
  Sets : (List Int)
  States : (List (List Int))
  deriving DecidableEq, Inhabited
structure ba where
  States : (List (List Int))
  Edges : (List az)
  deriving DecidableEq, Inhabited
structure co where
  n_ : aL
  at_ : (List Int)
  events : (List (aZ × Int))
  sets : (List (Int × Int))
  deriving DecidableEq, Inhabited
structure iR where
  s : ba
  at_ : (List (ByteArray × Int))
  deriving DecidableEq, Inhabited
def md (a0 : Int) (a1 : Int) (a2 : Int) (a3 : Int) : Option api_Rule :=
  some (api_Rule.mk ([(api_Pair.mk 0 a0), (api_Pair.mk 1 1)] : List api_Pair) ([(api_Pair.mk a1 a2)] : List api_Pair) ([(api_Pair.mk a1 a3)] : List api_Pair))
def zE (a0 : api_Pol) (self : api_Pol → Option Int) (i2 : Int) : Int → Option Int
  | i1 =>
  (aN a0.Kids i2).bind fun x8 =>
    (self x8).bind fun r9 =>
    some (IntKind.i64.wrap (i1 + r9))
def ud (self : api_Pol → Option Int) (a0 : api_Pol) : Option Int :=
  (cB (zE a0 self) (aW 0 (a0.Kids.length : Int)) 1).bind fun z10 =>
    some z10
def p6 : Nat → api_Pol → Option Int
  | 0 => fun _ => none
  | k + 1 => ud (p6 k)
def nK (a0 : api_Pol) : Option Int := p6 cy a0
def zF (a0 : api_Pol) (self : api_Pol → Option Int) (i2 : Int) : Int → Option Int
  | i1 =>
  (aN a0.Kids i2).bind fun x8 =>
    (self x8).bind fun r9 =>
    some (kH i1 r9)
def ue (self : api_Pol → Option Int) (a0 : api_Pol) : Option Int :=
  (cB (zF a0 self) (aW 0 (a0.Kids.length : Int)) 0).bind fun z10 =>
    some (IntKind.i64.wrap (z10 + 1))
def p7 : Nat → api_Pol → Option Int
  | 0 => fun _ => none
  | k + 1 => ue (p7 k)
def nL (a0 : api_Pol) : Option Int := p7 cy a0
def zG (a0 : (List api_Pol)) (a1 : (api_Pol → Option Bool)) (i1 : Int) : Unit → Option (Br Unit Int)
  | () =>
  (aN a0 i1).bind fun x7 =>
    (a1 x7).bind fun x8 =>
    (if x8 then some (Br.ret i1) else some (.next ()))
def uf (a0 : (List api_Pol)) (a1 : api_Pol → Option Bool) : Option Int :=
  (bI (zG a0 a1) (aW 0 (a0.length : Int)) ()).bind fun q10 => match q10 with
    | .ret r => some r
    | .done () =>
    some (-1)
def p8 (a0 : (List api_Pol)) (a1 : api_Pol → Option Bool) : Option Bool :=
  (uf a0 a1).bind fun r1 =>
    some (decide (r1 ≥ 0))
def ug (self : api_Pol → Option Bool) (a0 : api_Pol) : Option Bool :=
  (self a0).bind fun r1 =>
    some (!r1)
def uh (self : api_Pol → Option Bool) (a0 : api_Pol) : Option Bool :=
  ((if (a0.Op == 0) then some (a0.Op == 0) else (if (a0.Op == 1) then some (a0.Op == 1) else (if (a0.Op == 2) then some (a0.Op == 2) else (if (a0.Op == 3) then some (a0.Op == 3) else some (a0.Op == 4)))))).bind fun y5 =>
    (if y5 then some true else ((if (a0.Op == 6) then some (a0.Op == 6) else some (a0.Op == 7))).bind fun y9 =>
    (if y9 then (p8 a0.Kids (fun y0 => ug self y0)).bind fun r12 =>
    some (!r12) else some false))
def p9 : Nat → api_Pol → Option Bool
  | 0 => fun _ => none
  | k + 1 => uh (p9 k)
def ui (a0 : api_Pol) : Option Bool := p9 cy a0
def uj (self : api_Pol → Int → Option Bool) (a0 : api_Pol) (a1 : Int) : Option Bool :=
  (self a0 a1).bind fun r1 =>
    some (!r1)
def uk (self : api_Pol → Int → Option Bool) (a0 : api_Pol) (a1 : Int) : Option Bool :=
  (((if (a0.Op == 0) then some (a0.Op == 0) else some (a0.Op == 1))).bind fun y3 =>
    (if y3 then some (Sum.inr (((a0.Kids.length : Int) == 0) && ((a0.F == 0) && (a0.N == 0)))) else (if (a0.Op == 4) then ((if ((a0.Kids.length : Int) == 1) then (if ((a0.F == 0) && (a0.N == 0)) then (aN a0.Kids 0).bind fun x10 =>
    (ui x10).bind fun r11 =>
    (if r11 then (self x10 a1).bind fun r13 =>
    some r13 else some false) else some false) else some false)).bind fun y14 =>
    some (Sum.inr y14) else ((if (a0.Op == 6) then some (a0.Op == 6) else some (a0.Op == 7))).bind fun y17 =>
    (if y17 then ((if decide ((a0.Kids.length : Int) ≥ 2) then (if ((a0.F == 0) && (a0.N == 0)) then (p8 a0.Kids (fun y0 => uj self y0 a1)).bind fun r22 =>
    some (!r22) else some false) else some false)).bind fun y23 =>
    some (Sum.inr y23) else (if (a0.Op == 2) then some (.inl (0, 8)) else (if (a0.Op == 5) then some (.inl (1, 8)) else (if (a0.Op == 3) then some (.inl (0, a1)) else some (Sum.inr false)))))))).bind fun q30 => match q30 with
    | .inr r => some r
    | .inl (y28, y29) =>
    some (((a0.Kids.length : Int) == 0) && ((decide (a0.F ≥ y28)) && (decide (a0.F < y29))))
def qa : Nat → api_Pol → Int → Option Bool
  | 0 => fun _ _ => none
  | k + 1 => uk (qa k)
def nM (a0 : api_Pol) (a1 : Int) : Option Bool := qa cy a0 a1
def zH (a0 : (List api_Pair)) (a1 : Int) (i1 : Int) : Unit → Option (Br Unit Bool)
  | () =>
  (aN a0 i1).bind fun x7 =>
    ((if decide (x7.F < 0) then some true else (if decide (x7.F ≥ a1) then some true else (if decide (i1 > 0) then (aN a0 (IntKind.i64.wrap (i1 - 1))).bind fun x11 =>
    some (decide (x11.F ≥ x7.F)) else some false)))).bind fun y12 =>
    (if y12 then some (Br.ret false) else some (.next ()))
def me (a0 : (List api_Pair)) (a1 : Int) : Option Bool :=
  (bI (zH a0 a1) (aW 0 (a0.length : Int)) ()).bind fun q15 => match q15 with
    | .ret r => some r
    | .done () =>
    some true
def ul (a0 : api_Program) (i12 : Int) : Unit → Option (Br Unit Int)
  | () =>
  (aN a0.Rules i12).bind fun x18 =>
    ((if decide ((x18.When.length : Int) ≥ 2) then (aN x18.When 0).bind fun x20 =>
    (if (x20.F == 0) then (aN x18.When 1).bind fun x22 =>
    some (x22.F == 1) else some false) else some false)).bind fun y23 =>
    ((if (!y23) then some true else (me x18.When 8).bind fun r26 =>
    (if (!r26) then some true else (me x18.Guard (a0.Init.length : Int)).bind fun r28 =>
    (if (!r28) then some true else (me x18.Then (a0.Init.length : Int)).bind fun r30 =>
    (if (!r30) then some true else some ((x18.Then.length : Int) == 0)))))).bind fun y32 =>
    (if y32 then some (Br.ret 11) else some (.next ()))
def nN (a0 : api_Program) : Option Int :=
  ((if decide ((a0.Init.length : Int) < 1) then some true else (if decide ((a0.Init.length : Int) > 4) then some true else (nK a0.Pol).bind fun r3 =>
    (if decide (r3 > 300) then some true else (nL a0.Pol).bind fun r5 =>
    (if decide (r5 > 20) then some true else some (decide ((a0.Rules.length : Int) > 24))))))).bind fun y7 =>
    (if y7 then some 2 else (nM a0.Pol (a0.Init.length : Int)).bind fun r10 =>
    (if (!r10) then some 11 else (bI (ul a0) (aW 0 (a0.Rules.length : Int)) ()).bind fun q35 => match q35 with
    | .ret r => some r
    | .done () =>
    some 0))
def iS (a0 : List Int) : Option (List Int) :=
  (cX ([] : List Int) a0).bind fun l1 => some l1
def qb (a0 : (List Int)) (i2 : Int) : (List Int) → Option (List Int)
  | l1 =>
  (aN a0 i2).bind fun x8 =>
    (cX l1 ([IntKind.u8.wrap (x8.fdiv (2 ^ 8)), IntKind.u8.wrap x8] : List Int)).bind fun l9 =>
    some l9
def nP (a0 : (List Int)) : Option ByteArray :=
  (cB (qb a0) (aW 0 (a0.length : Int)) ([] : List Int)).bind fun z10 =>
    some (iL z10)
def mf (a0 : iR) (a1 : (List Int)) : Option (Int × iR) :=
  (nP a1).bind fun r1 =>
    ((if (!((mget a0.at_ r1).isSome)) then (cX a0.s.States ([a1] : List (List Int))).bind fun l3 =>
    some (l3, (cY a0.at_ r1 (a0.s.States.length : Int)), (a0.s.States.length : Int)) else some (a0.s.States, a0.at_, (mget a0.at_ r1).getD 0))).bind fun (l4, m5, y6) =>
    some (y6, (iR.mk (ba.mk l4 a0.s.Edges) m5))
def zI (a0 : api_Rule) (i3 : Int) : (List Int) → Option (List Int)
  | l2 =>
  ((aN a0.Then i3).bind fun x9 =>
    (if ((decide (x9.F ≥ 0)) && (decide (x9.F < (l2.length : Int)))) then (aN l2 x9.F).bind fun x12 =>
    (dO l2 x9.F x9.N).bind fun l13 =>
    some l13 else some l2)).bind fun l14 =>
    some l14
def nQ (a0 : api_Rule) (a1 : (List Int)) : Option (List Int) :=
  (iS a1).bind fun r1 =>
    (cB (zI a0) (aW 0 (a0.Then.length : Int)) r1).bind fun z16 =>
    some z16
def qc (a0 : api_Pair) (a1 : (List Int)) : Option Bool :=
  ((if decide (a0.F < 0) then some true else (if decide (a0.F ≥ (a1.length : Int)) then some true else (aN a1 a0.F).bind fun x3 =>
    some (x3 != a0.N)))).bind fun y4 =>
    some y4
def qd (a0 : (List api_Pair)) (a1 : (api_Pair → Option Bool)) (i1 : Int) : Unit → Option (Br Unit Int)
  | () =>
  (aN a0 i1).bind fun x7 =>
    (a1 x7).bind fun x8 =>
    (if x8 then some (Br.ret i1) else some (.next ()))
def kK (a0 : (List api_Pair)) (a1 : api_Pair → Option Bool) : Option Int :=
  (bI (qd a0 a1) (aW 0 (a0.length : Int)) ()).bind fun q10 => match q10 with
    | .ret r => some r
    | .done () =>
    some (-1)
def nS (a0 : (List api_Pair)) (a1 : api_Pair → Option Bool) : Option Bool :=
  (kK a0 a1).bind fun r1 =>
    some (decide (r1 ≥ 0))
def nU (a0 : api_Rule) (a1 : (List Int)) : Option Bool :=
  (nS a0.Guard (fun y0 => qc y0 a1)).bind fun r1 =>
    some (!r1)
def um (a0 : (List Int)) (a1 : (List Int)) (i2 : Int) : Unit → Option (Br Unit Bool)
  | () =>
  (aN a0 i2).bind fun x8 =>
    (aN a1 i2).bind fun x9 =>
    (if (x8 != x9) then some (Br.ret false) else some (.next ()))
def nV (a0 : (List Int)) (a1 : (List Int)) : Option Bool :=
  (if ((a0.length : Int) != (a1.length : Int)) then some false else (bI (um a0 a1) (aW 0 (a0.length : Int)) ()).bind fun q11 => match q11 with
    | .ret r => some r
    | .done () =>
    some true)
def qe (a0 : ba) (a1 : Int) (i2 : Int) : (List az) → Option (List az)
  | l1 =>
  ((aN a0.Edges i2).bind fun x8 =>
    (if (x8.From == a1) then (cX l1 ([x8] : List az)).bind fun l10 =>
    some l10 else some l1)).bind fun l11 =>
    some l11
def mg (a0 : ba) (a1 : Int) : Option (List az) :=
  (cB (qe a0 a1) (aW 0 (a0.Edges.length : Int)) ([] : List az)).bind fun z13 =>
    some z13
def qf (a2 : ba) (r4 : (List az)) (self : Int → (List Int) → ba → Option (Bool × (List Int))) (i6 : Int) : (List Int) → Option (Br (List Int) (Bool × (List Int)))
  | l5 =>
  (aN r4 i6).bind fun x12 =>
    (self x12.To l5 a2).bind fun r13 =>
    (if r13.1 then some (Br.ret (true, r13.2)) else some (.next r13.2))
def nW (self : Int → (List Int) → ba → Option (Bool × (List Int))) (a0 : Int) (a1 : (List Int)) (a2 : ba) : Option (Bool × (List Int)) :=
  (aN a1 a0).bind fun x1 =>
    (if (x1 != 0) then some ((x1 == 1), a1) else (dO a1 a0 1).bind fun l3 =>
    (mg a2 a0).bind fun r4 =>
    (bI (qf a2 r4 self) (aW 0 (r4.length : Int)) l3).bind fun q18 => match q18 with
    | .ret r => some r
    | .done z15 =>
    (aN z15 a0).bind fun x16 =>
    (dO z15 a0 2).bind fun l17 =>
    some (false, l17))
def jX : Nat → Int → (List Int) → ba → Option (Bool × (List Int))
  | 0 => fun _ _ _ => none
  | k + 1 => nW (jX k)
def qg (a0 : Int) (a1 : (List Int)) (a2 : ba) : Option (Bool × (List Int)) := jX cy a0 a1 a2
def nX (a0 : ba) : Option Bool :=
  (ic (a0.States.length : Int) 0).bind fun l1 =>
    ((if decide ((l1.length : Int) > 0) then (qg 0 l1 a0).bind fun r3 =>
    some r3.1 else some false)).bind fun y4 =>
    some y4
def kL (a0 : api_Program) (i8 : Int) (i14 : Int) : ((List (List Int)) × (List az) × (List (ByteArray × Int))) → Option (Br ((List (List Int)) × (List az) × (List (ByteArray × Int))) (Br ((List (List Int)) × (List az) × (List (ByteArray × Int)) × Int) (ba × Int)))
  | (l11, l12, m13) =>
  (((aN a0.Rules i14).bind fun x20 =>
    (aN l11 i8).bind fun x21 =>
    (nQ x20 x21).bind fun r22 =>
    (nU x20 x21).bind fun r23 =>
    ((if (!r23) then some true else (nV x21 r22).bind fun r25 =>
    some r25)).bind fun y26 =>
    (if y26 then some (.inl (l11, l12, m13)) else (mf (iR.mk (ba.mk l11 l12) m13) r22).bind fun r29 =>
    (cX l12 ([(az.mk i8 i14 r29.1)] : List az)).bind fun l30 =>
    (if decide ((r29.2.s.States.length : Int) > 128) then some (Sum.inr (Br.ret (Br.ret ((ba.mk [] []), 21)))) else some (.inl (r29.2.s.States, l30, r29.2.at_)))) : Option (((List (List Int)) × (List az) × (List (ByteArray × Int))) ⊕ (Br ((List (List Int)) × (List az) × (List (ByteArray × Int))) (Br ((List (List Int)) × (List az) × (List (ByteArray × Int)) × Int) (ba × Int)))))).bind fun q35 => match q35 with
    | .inr r => some r
    | .inl (l32, l33, m34) =>
    some (.next (l32, l33, m34))
def kM (a0 : api_Program) : ((List (List Int)) × (List az) × (List (ByteArray × Int)) × Int) → Option (Br ((List (List Int)) × (List az) × (List (ByteArray × Int)) × Int) (ba × Int))
  | (l5, l6, m7, i8) =>
  (if decide (i8 < (l5.length : Int)) then (bI (kL a0 i8) (aW 0 (a0.Rules.length : Int)) (l5, l6, m7)).bind fun q39 => match q39 with
    | .ret r => some r
    | .done (z36, z37, z38) =>
    some (.next (z36, z37, z38, IntKind.i64.wrap (i8 + 1))) else some (.brk (l5, l6, m7, i8)))
def jY (a0 : api_Program) : Option (ba × Int) :=
  (nN a0).bind fun r1 =>
    (if (r1 != 0) then some ((ba.mk [] []), r1) else (iS a0.Init).bind fun r3 =>
    (mf (iR.mk (ba.mk ([] : List (List Int)) ([] : List az)) ([] : List (ByteArray × Int))) r3).bind fun r4 =>
    (dC (kM a0) cy (r4.2.s.States, ([] : List az), r4.2.at_, 0)).bind fun q46 => match q46 with
    | .ret r => some r
    | .done (z40, z41, z42, z43) =>
    (nX (ba.mk z40 z41)).bind fun r44 =>
    (if r44 then some ((ba.mk [] []), 20) else some ((ba.mk z40 z41), 0)))
def kN (a0 : co) (a1 : Int) (a2 : Int) (a3 : ba) : Option (Int × co) :=
  (if (mget a0.sets a1).isSome then (aN a0.at_ ((mget a0.sets a1).getD 0)).bind fun x2 =>
    (if (x2 != a2) then some (22, a0) else some (0, a0)) else (cX a0.n_.Sets ([a1] : List Int)).bind fun l4 =>
    (aN a3.States a2).bind fun x5 =>
    (iS x5).bind fun r6 =>
    (cX a0.n_.States ([r6] : List (List Int))).bind fun l7 =>
    (cX a0.at_ ([a2] : List Int)).bind fun l8 =>
    (if decide ((l4.length : Int) > 256) then some (21, (co.mk (aL.mk a0.n_.Events l4 l7) l8 a0.events (cY a0.sets a1 (a0.n_.Sets.length : Int)))) else some (0, (co.mk (aL.mk a0.n_.Events l4 l7) l8 a0.events (cY a0.sets a1 (a0.n_.Sets.length : Int))))))
def nY (a0 : Int) : Option Int :=
  (if (a0 == 0) then some 64 else (aN gtab0 ((IntKind.u64.wrap ((aA .u64 a0 (IntKind.u64.wrap (0 - a0))) * 285870213051353865)).fdiv (2 ^ 58))).bind fun b2 =>
    some (IntKind.i64.wrap b2))
def mh (a0 : Int) : Option (Int × Bool) :=
  (if (a0 == 0) then some (0, false) else (nY a0).bind fun r2 =>
    some (r2, true))
def jZ (a0 : Int) : Option Int :=
  (if ((decide (a0 < 0)) || (decide (a0 ≥ 64))) then some 0 else (jR .u64 1 a0).bind fun q3 =>
    some q3)
def nZ (a0 : Int) (a1 : Int) : Option Int :=
  (jZ a1).bind fun r1 =>
    some (fm .u64 a0 r1)
def n5 : (Int × (List Int) × Int × Bool) → Option ((Int × (List Int) × Int × Bool) ⊕ (Int × (List Int) × Int × Bool))
  | (i2, l3, i4, y5) =>
  (if y5 then (cX l3 ([i4] : List Int)).bind fun l8 =>
    (nZ i2 i4).bind fun r9 =>
    (mh r9).bind fun r10 =>
    some (.inl (r9, l8, r10.1, r10.2)) else some (.inr (i2, l3, i4, y5)))
def mi (a0 : Int) : Option (List Int) :=
  (mh a0).bind fun r1 =>
    (jk n5 cy (a0, ([] : List Int), r1.1, r1.2)).bind fun (z11, z12, z13, z14) =>
    some z12
def qh (a0 : co) (a2 : Int) (r1 : (List Int)) (i3 : Int) : Int → Option Int
  | i2 =>
  ((aN r1 i3).bind fun x9 =>
    (aN a0.n_.Events x9).bind fun x10 =>
    (if (x10.Rule == a2) then some (IntKind.i64.wrap (i2 + 1)) else some i2)).bind fun y12 =>
    some y12
def n6 (a0 : co) (a1 : Int) (a2 : Int) : Option (Int × co) :=
  (mi a1).bind fun r1 =>
    (cB (qh a0 a2 r1) (aW 0 (r1.length : Int)) 0).bind fun z14 =>
    some (z14, a0)
def n7 (a0 : co) (a1 : aZ) : Option (Int × Bool × co) :=
  ((if (!((mget a0.events a1).isSome)) then (cX a0.n_.Events ([a1] : List aZ)).bind fun l2 =>
    some (l2, (cY a0.events a1 (a0.n_.Events.length : Int)), (a0.n_.Events.length : Int)) else some (a0.n_.Events, a0.events, (mget a0.events a1).getD 0))).bind fun (l3, m4, y5) =>
    some (y5, decide (y5 < 64), (co.mk (aL.mk l3 a0.n_.Sets a0.n_.States) a0.at_ m4 a0.sets))
def kO (a0 : Int) (a1 : Int) : Option Int :=
  (jZ a1).bind fun r1 =>
    some (ct .u64 a0 r1)
def mj (a1 : ba) (x11 : Int) (r13 : (List az)) (i20 : Int) : ((List aZ) × (List Int) × (List (List Int)) × (List Int) × (List (aZ × Int)) × (List (Int × Int))) → Option (Br ((List aZ) × (List Int) × (List (List Int)) × (List Int) × (List (aZ × Int)) × (List (Int × Int))) (Br ((List aZ) × (List Int) × (List (List Int)) × (List Int) × (List (aZ × Int)) × (List (Int × Int)) × Int) (Int × co)))
  | (l14, l15, l16, l17, m18, m19) =>
  (aN r13 i20).bind fun x26 =>
    (n6 (co.mk (aL.mk l14 l15 l16) l17 m18 m19) x11 x26.Rule).bind fun r27 =>
    (n7 (co.mk (aL.mk l14 l15 l16) l17 m18 m19) (aZ.mk x26.Rule r27.1)).bind fun r28 =>
    (if (!r28.2.1) then some (Br.ret (Br.ret (21, (co.mk (aL.mk r28.2.2.n_.Events l15 l16) l17 r28.2.2.events m19)))) else (kO x11 r28.1).bind fun r30 =>
    (kN (co.mk (aL.mk r28.2.2.n_.Events l15 l16) l17 r28.2.2.events m19) r30 x26.To a1).bind fun r31 =>
    (if (r31.1 != 0) then some (Br.ret (Br.ret (r31.1, (co.mk (aL.mk r28.2.2.n_.Events r31.2.n_.Sets r31.2.n_.States) r31.2.at_ r28.2.2.events r31.2.sets)))) else some (.next (r28.2.2.n_.Events, r31.2.n_.Sets, r31.2.n_.States, r31.2.at_, r28.2.2.events, r31.2.sets))))
def iT (a1 : ba) : ((List aZ) × (List Int) × (List (List Int)) × (List Int) × (List (aZ × Int)) × (List (Int × Int)) × Int) → Option (Br ((List aZ) × (List Int) × (List (List Int)) × (List Int) × (List (aZ × Int)) × (List (Int × Int)) × Int) (Int × co))
  | (l2, l3, l4, l5, m6, m7, i8) =>
  (if decide (i8 < (l3.length : Int)) then (aN l3 i8).bind fun x11 =>
    (aN l5 i8).bind fun x12 =>
    (mg a1 x12).bind fun r13 =>
    (bI (mj a1 x11 r13) (aW 0 (r13.length : Int)) (l2, l3, l4, l5, m6, m7)).bind fun q39 => match q39 with
    | .ret r => some r
    | .done (z33, z34, z35, z36, z37, z38) =>
    some (.next (z33, z34, z35, z36, z37, z38, IntKind.i64.wrap (i8 + 1))) else some (.brk (l2, l3, l4, l5, m6, m7, i8)))
def ml (a0 : co) (a1 : ba) : Option (Int × co) :=
  (kN a0 0 0 a1).bind fun r1 =>
    (dC (iT a1) cy (a0.n_.Events, r1.2.n_.Sets, r1.2.n_.States, r1.2.at_, a0.events, r1.2.sets, 0)).bind fun q47 => match q47 with
    | .ret r => some r
    | .done (z40, z41, z42, z43, z44, z45, z46) =>
    some (0, (co.mk (aL.mk z40 z41 z42) z43 z44 z45))
def uo (a0 : (List Int)) (a1 : Int) (i1 : Int) : Unit → Option (Br Unit Int)
  | () =>
  (aN a0 i1).bind fun x7 =>
    (if (a1 == x7) then some (Br.ret i1) else some (.next ()))
def j0 (a0 : (List Int)) (a1 : Int) : Option Int :=
  (bI (uo a0 a1) (aW 0 (a0.length : Int)) ()).bind fun q9 => match q9 with
    | .ret r => some r
    | .done () =>
    some (-1)
def kP (a0 : aL) (a1 : Int) : Option (Int × Bool) :=
  (j0 a0.Sets a1).bind fun r1 =>
    some (IntKind.u16.wrap (kH r1 0), decide (r1 ≥ 0))
def j1 (a0 : Int) (a1 : Int) : Option Bool :=
  some ((fm .u64 a0 a1) == 0)
def n8 (a0 : Int) : Option Int :=
  some (aA .i64 (IntKind.i64.wrap (IntKind.u64.wrap ((IntKind.u64.wrap ((IntKind.u64.wrap ((aA .u64 (IntKind.u64.wrap (((IntKind.u64.wrap ((aA .u64 ((IntKind.u64.wrap ((aA .u64 (a0.fdiv (2 ^ 1)) 6148914691236517205) + (aA .u64 a0 6148914691236517205))).fdiv (2 ^ 2)) 3689348814741910323) + (aA .u64 (IntKind.u64.wrap ((aA .u64 (a0.fdiv (2 ^ 1)) 6148914691236517205) + (aA .u64 a0 6148914691236517205))) 3689348814741910323))).fdiv (2 ^ 4)) + (IntKind.u64.wrap ((aA .u64 ((IntKind.u64.wrap ((aA .u64 (a0.fdiv (2 ^ 1)) 6148914691236517205) + (aA .u64 a0 6148914691236517205))).fdiv (2 ^ 2)) 3689348814741910323) + (aA .u64 (IntKind.u64.wrap ((aA .u64 (a0.fdiv (2 ^ 1)) 6148914691236517205) + (aA .u64 a0 6148914691236517205))) 3689348814741910323))))) 1085102592571150095) + ((aA .u64 (IntKind.u64.wrap (((IntKind.u64.wrap ((aA .u64 ((IntKind.u64.wrap ((aA .u64 (a0.fdiv (2 ^ 1)) 6148914691236517205) + (aA .u64 a0 6148914691236517205))).fdiv (2 ^ 2)) 3689348814741910323) + (aA .u64 (IntKind.u64.wrap ((aA .u64 (a0.fdiv (2 ^ 1)) 6148914691236517205) + (aA .u64 a0 6148914691236517205))) 3689348814741910323))).fdiv (2 ^ 4)) + (IntKind.u64.wrap ((aA .u64 ((IntKind.u64.wrap ((aA .u64 (a0.fdiv (2 ^ 1)) 6148914691236517205) + (aA .u64 a0 6148914691236517205))).fdiv (2 ^ 2)) 3689348814741910323) + (aA .u64 (IntKind.u64.wrap ((aA .u64 (a0.fdiv (2 ^ 1)) 6148914691236517205) + (aA .u64 a0 6148914691236517205))) 3689348814741910323))))) 1085102592571150095).fdiv (2 ^ 8)))) + ((IntKind.u64.wrap ((aA .u64 (IntKind.u64.wrap (((IntKind.u64.wrap ((aA .u64 ((IntKind.u64.wrap ((aA .u64 (a0.fdiv (2 ^ 1)) 6148914691236517205) + (aA .u64 a0 6148914691236517205))).fdiv (2 ^ 2)) 3689348814741910323) + (aA .u64 (IntKind.u64.wrap ((aA .u64 (a0.fdiv (2 ^ 1)) 6148914691236517205) + (aA .u64 a0 6148914691236517205))) 3689348814741910323))).fdiv (2 ^ 4)) + (IntKind.u64.wrap ((aA .u64 ((IntKind.u64.wrap ((aA .u64 (a0.fdiv (2 ^ 1)) 6148914691236517205) + (aA .u64 a0 6148914691236517205))).fdiv (2 ^ 2)) 3689348814741910323) + (aA .u64 (IntKind.u64.wrap ((aA .u64 (a0.fdiv (2 ^ 1)) 6148914691236517205) + (aA .u64 a0 6148914691236517205))) 3689348814741910323))))) 1085102592571150095) + ((aA .u64 (IntKind.u64.wrap (((IntKind.u64.wrap ((aA .u64 ((IntKind.u64.wrap ((aA .u64 (a0.fdiv (2 ^ 1)) 6148914691236517205) + (aA .u64 a0 6148914691236517205))).fdiv (2 ^ 2)) 3689348814741910323) + (aA .u64 (IntKind.u64.wrap ((aA .u64 (a0.fdiv (2 ^ 1)) 6148914691236517205) + (aA .u64 a0 6148914691236517205))) 3689348814741910323))).fdiv (2 ^ 4)) + (IntKind.u64.wrap ((aA .u64 ((IntKind.u64.wrap ((aA .u64 (a0.fdiv (2 ^ 1)) 6148914691236517205) + (aA .u64 a0 6148914691236517205))).fdiv (2 ^ 2)) 3689348814741910323) + (aA .u64 (IntKind.u64.wrap ((aA .u64 (a0.fdiv (2 ^ 1)) 6148914691236517205) + (aA .u64 a0 6148914691236517205))) 3689348814741910323))))) 1085102592571150095).fdiv (2 ^ 8)))).fdiv (2 ^ 16)))) + ((IntKind.u64.wrap ((IntKind.u64.wrap ((aA .u64 (IntKind.u64.wrap (((IntKind.u64.wrap ((aA .u64 ((IntKind.u64.wrap ((aA .u64 (a0.fdiv (2 ^ 1)) 6148914691236517205) + (aA .u64 a0 6148914691236517205))).fdiv (2 ^ 2)) 3689348814741910323) + (aA .u64 (IntKind.u64.wrap ((aA .u64 (a0.fdiv (2 ^ 1)) 6148914691236517205) + (aA .u64 a0 6148914691236517205))) 3689348814741910323))).fdiv (2 ^ 4)) + (IntKind.u64.wrap ((aA .u64 ((IntKind.u64.wrap ((aA .u64 (a0.fdiv (2 ^ 1)) 6148914691236517205) + (aA .u64 a0 6148914691236517205))).fdiv (2 ^ 2)) 3689348814741910323) + (aA .u64 (IntKind.u64.wrap ((aA .u64 (a0.fdiv (2 ^ 1)) 6148914691236517205) + (aA .u64 a0 6148914691236517205))) 3689348814741910323))))) 1085102592571150095) + ((aA .u64 (IntKind.u64.wrap (((IntKind.u64.wrap ((aA .u64 ((IntKind.u64.wrap ((aA .u64 (a0.fdiv (2 ^ 1)) 6148914691236517205) + (aA .u64 a0 6148914691236517205))).fdiv (2 ^ 2)) 3689348814741910323) + (aA .u64 (IntKind.u64.wrap ((aA .u64 (a0.fdiv (2 ^ 1)) 6148914691236517205) + (aA .u64 a0 6148914691236517205))) 3689348814741910323))).fdiv (2 ^ 4)) + (IntKind.u64.wrap ((aA .u64 ((IntKind.u64.wrap ((aA .u64 (a0.fdiv (2 ^ 1)) 6148914691236517205) + (aA .u64 a0 6148914691236517205))).fdiv (2 ^ 2)) 3689348814741910323) + (aA .u64 (IntKind.u64.wrap ((aA .u64 (a0.fdiv (2 ^ 1)) 6148914691236517205) + (aA .u64 a0 6148914691236517205))) 3689348814741910323))))) 1085102592571150095).fdiv (2 ^ 8)))) + ((IntKind.u64.wrap ((aA .u64 (IntKind.u64.wrap (((IntKind.u64.wrap ((aA .u64 ((IntKind.u64.wrap ((aA .u64 (a0.fdiv (2 ^ 1)) 6148914691236517205) + (aA .u64 a0 6148914691236517205))).fdiv (2 ^ 2)) 3689348814741910323) + (aA .u64 (IntKind.u64.wrap ((aA .u64 (a0.fdiv (2 ^ 1)) 6148914691236517205) + (aA .u64 a0 6148914691236517205))) 3689348814741910323))).fdiv (2 ^ 4)) + (IntKind.u64.wrap ((aA .u64 ((IntKind.u64.wrap ((aA .u64 (a0.fdiv (2 ^ 1)) 6148914691236517205) + (aA .u64 a0 6148914691236517205))).fdiv (2 ^ 2)) 3689348814741910323) + (aA .u64 (IntKind.u64.wrap ((aA .u64 (a0.fdiv (2 ^ 1)) 6148914691236517205) + (aA .u64 a0 6148914691236517205))) 3689348814741910323))))) 1085102592571150095) + ((aA .u64 (IntKind.u64.wrap (((IntKind.u64.wrap ((aA .u64 ((IntKind.u64.wrap ((aA .u64 (a0.fdiv (2 ^ 1)) 6148914691236517205) + (aA .u64 a0 6148914691236517205))).fdiv (2 ^ 2)) 3689348814741910323) + (aA .u64 (IntKind.u64.wrap ((aA .u64 (a0.fdiv (2 ^ 1)) 6148914691236517205) + (aA .u64 a0 6148914691236517205))) 3689348814741910323))).fdiv (2 ^ 4)) + (IntKind.u64.wrap ((aA .u64 ((IntKind.u64.wrap ((aA .u64 (a0.fdiv (2 ^ 1)) 6148914691236517205) + (aA .u64 a0 6148914691236517205))).fdiv (2 ^ 2)) 3689348814741910323) + (aA .u64 (IntKind.u64.wrap ((aA .u64 (a0.fdiv (2 ^ 1)) 6148914691236517205) + (aA .u64 a0 6148914691236517205))) 3689348814741910323))))) 1085102592571150095).fdiv (2 ^ 8)))).fdiv (2 ^ 16)))).fdiv (2 ^ 32))))) 127)
def n9 (a0 : Int) : Option Int :=
  (n8 a0).bind fun r1 =>
    some r1
def qi (a0 : aL) (a1 : Int) (i4 : Int) : Int → Option Int
  | i3 =>
  ((aN a0.Sets i4).bind fun x10 =>
    (j1 a1 x10).bind fun r11 =>
    ((if r11 then (n9 (fm .u64 x10 a1)).bind fun r13 =>
    some (r13 == 1) else some false)).bind fun y14 =>
    (if y14 then some (ct .u64 i3 (fm .u64 x10 a1)) else some i3)).bind fun y17 =>
    some y17
def j3 (a0 : aL) (a1 : Int) : Option Int :=
  (kP a0 a1).bind fun r1 =>
    (if (!r1.2) then some 0 else (cB (qi a0 a1) (aW 0 (a0.Sets.length : Int)) 0).bind fun z19 =>
    ((if decide ((a0.Events.length : Int) < 64) then (jR .u64 1 (a0.Events.length : Int)).bind fun q21 =>
    some (aA .u64 z19 (IntKind.u64.wrap (q21 - 1))) else some z19)).bind fun y22 =>
    some y22)
def qj (a0 : Int) (a1 : Int) : Option Bool :=
  (j1 a1 a0).bind fun r1 =>
    some r1
def ur (a0 : (List Int)) (a1 : (Int → Option Bool)) (i1 : Int) : Unit → Option (Br Unit Int)
  | () =>
  (aN a0 i1).bind fun x7 =>
    (a1 x7).bind fun x8 =>
    (if x8 then some (Br.ret i1) else some (.next ()))
def qk (a0 : (List Int)) (a1 : Int → Option Bool) : Option Int :=
  (bI (ur a0 a1) (aW 0 (a0.length : Int)) ()).bind fun q10 => match q10 with
    | .ret r => some r
    | .done () =>
    some (-1)
def mm (a0 : (List Int)) (a1 : Int → Option Bool) : Option Bool :=
  (qk a0 a1).bind fun r1 =>
    some (decide (r1 ≥ 0))
def im (a0 : aL) (a1 : Int) : Option Bool :=
  (mm a0.Sets (fun y0 => qj y0 a1)).bind fun r1 =>
    some r1
def oa (a1 : ba) (i2 : Int) : (List (az × Bool)) → Option (List (az × Bool))
  | m1 =>
  (aN a1.Edges i2).bind fun x8 =>
    some (cY m1 x8 true)
def ut (a0 : co) (z9 : (List (az × Bool))) (i10 : Int) (x16 : Int) (r18 : (List Int)) (i19 : Int) : Unit → Option (Br Unit (Br Unit (Bool × co)))
  | () =>
  (aN r18 i19).bind fun x25 =>
    (kO x16 x25).bind fun r26 =>
    (aN a0.at_ ((mget a0.sets r26).getD 0)).bind fun x27 =>
    (aN a0.at_ i10).bind fun x28 =>
    (aN a0.n_.Events x25).bind fun x29 =>
    (if (!((mget z9 (az.mk x28 x29.Rule x27)).getD false)) then some (Br.ret (Br.ret (false, a0))) else some (.next ()))
def uv (a0 : co) (x16 : Int) (l31 : (List Int)) (i32 : Int) : Unit → Option (Br Unit (Br Unit (Bool × co)))
  | () =>
  (aN l31 i32).bind fun x38 =>
    ((if (!((mget a0.sets (ct .u64 x16 x38)).isSome)) then (im a0.n_ (ct .u64 x16 x38)).bind fun r40 =>
    some r40 else some false)).bind fun y41 =>
    (if y41 then some (Br.ret (Br.ret (false, a0))) else some (.next ()))
def ql (a0 : co) (z9 : (List (az × Bool))) (i10 : Int) : Unit → Option (Br Unit (Bool × co))
  | () =>
  (aN a0.n_.Sets i10).bind fun x16 =>
    (j3 a0.n_ x16).bind fun r17 =>
    (mi r17).bind fun r18 =>
    (bI (ut a0 z9 i10 x16 r18) (aW 0 (r18.length : Int)) ()).bind fun q45 => match q45 with
    | .ret r => some r
    | .done () =>
    (fC a0.n_.Sets 0 i10).bind fun l31 =>
    (bI (uv a0 x16 l31) (aW 0 (l31.length : Int)) ()).bind fun q44 => match q44 with
    | .ret r => some r
    | .done () =>
    some (.next ())
def ob (a0 : co) (a1 : ba) : Option (Bool × co) :=
  (cB (oa a1) (aW 0 (a1.Edges.length : Int)) ([] : List (az × Bool))).bind fun z9 =>
    (bI (ql a0 z9) (aW 0 (a0.n_.Sets.length : Int)) ()).bind fun q46 => match q46 with
    | .ret r => some r
    | .done () =>
    some (true, a0)
def oc (a0 : api_Program) (a1 : aL) (a2 : Int) : Option (api_Rule × Bool) :=
  (if ((decide (a2 < 0)) || (decide (a2 ≥ (a1.Events.length : Int)))) then some ((api_Rule.mk [] [] []), false) else (aN a1.Events a2).bind fun x3 =>
    (if ((decide (x3.Rule < 0)) || (decide (x3.Rule ≥ (a0.Rules.length : Int)))) then some ((api_Rule.mk [] [] []), false) else (aN a0.Rules x3.Rule).bind fun x6 =>
    some (x6, true)))
def qm (a0 : api_Pair) : Option Bool :=
  some (a0.F == 0)
def kQ (a0 : api_Program) (a1 : aL) (a2 : Int) : Option (Int × Bool) :=
  (oc a0 a1 a2).bind fun r1 =>
    (kK r1.1.When (fun y0 => qm y0)).bind fun r2 =>
    (if ((!r1.2) || (decide (r2 < 0))) then some (0, false) else (aN r1.1.When r2).bind fun x5 =>
    some (x5.N, true))
def od (a0 : api_Program) (a1 : aL) (i3 : Int) : ((List (Int × Int)) × (List Int)) → Option ((List (Int × Int)) × (List Int))
  | (m1, l2) =>
  (kQ a0 a1 i3).bind fun r9 =>
    ((if (!((mget m1 r9.1).isSome)) then (cX l2 ([0] : List Int)).bind fun l11 =>
    some ((cY m1 r9.1 (l2.length : Int)), l11, (l2.length : Int)) else some (m1, l2, (mget m1 r9.1).getD 0))).bind fun (m12, l13, y14) =>
    (aN l13 y14).bind fun x16 =>
    (kO x16 i3).bind fun r17 =>
    (dO l13 y14 r17).bind fun l18 =>
    some (m12, l18)
def oe (a0 : api_Program) (a1 : aL) : Option (List Int) :=
  (cB (od a0 a1) (aW 0 (a1.Events.length : Int)) (([] : List (Int × Int)), ([] : List Int))).bind fun (z19, z20) =>
    some z20
def og (a0 : Int) (a1 : Int) : Option Bool :=
  ((if (a0 != a1) then (j1 a1 a0).bind fun r2 =>
    some r2 else some false)).bind fun y3 =>
    some y3
def qn (a0 : aL) (i2 : Int) : (List Int) → Option (List Int)
  | l1 =>
  ((aN a0.Sets i2).bind fun x8 =>
    (mm a0.Sets (fun y0 => og y0 x8)).bind fun r9 =>
    (if (!r9) then (cX l1 ([x8] : List Int)).bind fun l11 =>
    some l11 else some l1)).bind fun l12 =>
    some l12
def oh (a0 : aL) : Option (List Int) :=
  (cB (qn a0) (aW 0 (a0.Sets.length : Int)) ([] : List Int)).bind fun z14 =>
    some z14
def oi (a0 : (List Int)) (a1 : Int) : Option Bool :=
  (j0 a0 a1).bind fun r1 =>
    some (decide (r1 ≥ 0))
def ol {τ : Type} (a0 : List Int) (f : Int → τ → Option (Bool × τ)) (i1 : Int) : τ → Option (Br τ (Int × τ))
  | s => (aN a0 i1).bind fun x7 => (f x7 s).bind fun x8 => (if x8.1 then some (Br.ret (i1, x8.2)) else some (.next x8.2))
def om {τ : Type} (a0 : List Int) (f : Int → τ → Option (Bool × τ)) (s : τ) : Option (Int × τ) :=
  (bI (ol a0 f) (aW 0 (a0.length : Int)) s).bind fun q => match q with
    | .ret r => some r
    | .done s => some (-1, s)
def mn {τ : Type} (a0 : List Int) (f : Int → τ → Option (Bool × τ)) (s : τ) : Option (Bool × τ) :=
  (om a0 f s).bind fun r => some (decide (r.1 ≥ 0), r.2)
def ot (self : Int → Int → (List (List Int)) → (List (Int × Bool)) → aL → Option (Bool × (List (List Int)) × (List (Int × Bool)))) (a0 : Int) (a1 : Int) (a2 : (List (List Int))) (a3 : (List (Int × Bool))) (a4 : aL) : Option (Bool × (List (List Int)) × (List (Int × Bool))) :=
  (if (a0 == (a2.length : Int)) then ((if (!((mget a3 a1).isSome)) then (im a4 a1).bind fun r3 =>
    some ((cY a3 a1 r3), r3) else some (a3, (mget a3 a1).getD false))).bind fun (m4, y5) =>
    some (y5, a2, m4) else (aN a2 a0).bind fun x7 =>
    (mn x7 (fun t s => (self (IntKind.i64.wrap (a0 + 1)) (ct .u64 a1 t) s.1 s.2 a4).bind fun r => some ((!r.1), r.2)) (a2, a3)).bind fun r7 =>
    some ((!r7.1), r7.2.1, r7.2.2))
def j4 : Nat → Int → Int → (List (List Int)) → (List (Int × Bool)) → aL → Option (Bool × (List (List Int)) × (List (Int × Bool)))
  | 0 => fun _ _ _ _ _ => none
  | k + 1 => ot (j4 k)
def qo (a0 : Int) (a1 : Int) (a2 : (List (List Int))) (a3 : (List (Int × Bool))) (a4 : aL) : Option (Bool × (List (List Int)) × (List (Int × Bool))) := j4 cy a0 a1 a2 a3 a4
def ou (x10 : Int) (r11 : (List Int)) (i13 : Int) : (List Int) → Option (List Int)
  | l12 =>
  ((aN r11 i13).bind fun x19 =>
    (oi l12 (aA .u64 x19 x10)).bind fun r20 =>
    (if (!r20) then (cX l12 ([aA .u64 x19 x10] : List Int)).bind fun l22 =>
    some l22 else some l12)).bind fun l23 =>
    some l23
def qp (a1 : aL) (r1 : (List Int)) (i4 : Int) : ((List (List Int)) × Int) → Option (Br ((List (List Int)) × Int) Int)
  | (l2, i3) =>
  (aN r1 i4).bind fun x10 =>
    (oh a1).bind fun r11 =>
    (cB (ou x10 r11) (aW 0 (r11.length : Int)) ([] : List Int)).bind fun z25 =>
    (cX l2 ([z25] : List (List Int))).bind fun l26 =>
    (if decide ((IntKind.i64.wrap (i3 * (z25.length : Int))) > 20000) then some (Br.ret 21) else some (.next (l26, IntKind.i64.wrap (i3 * (z25.length : Int)))))
def ov (a0 : api_Program) (a1 : aL) : Option Int :=
  (oe a0 a1).bind fun r1 =>
    (bI (qp a1 r1) (aW 0 (r1.length : Int)) (([] : List (List Int)), 1)).bind fun q33 => match q33 with
    | .ret r => some r
    | .done (z29, z30) =>
    (qo 0 0 z29 ([] : List (Int × Bool)) a1).bind fun r31 =>
    (if (!r31.1) then some 23 else some 0)
def j5 (a0 : api_Program) : Option (aL × Int) :=
  (jY a0).bind fun r1 =>
    (if (r1.2 != 0) then some ((aL.mk [] [] []), r1.2) else ((ml (co.mk (aL.mk ([] : List aZ) ([] : List Int) ([] : List (List Int))) ([] : List Int) ([] : List (aZ × Int)) ([] : List (Int × Int))) r1.1).bind fun r3 =>
    ((if (r3.1 == 0) then (ob r3.2 r1.1).bind fun r5 =>
    some (!r5.1) else some false)).bind fun y6 =>
    (if y6 then some (22, r3.2.n_.Events, r3.2.n_.Sets, r3.2.n_.States, r3.2.at_, r3.2.events, r3.2.sets) else some (r3.1, r3.2.n_.Events, r3.2.n_.Sets, r3.2.n_.States, r3.2.at_, r3.2.events, r3.2.sets))).bind fun (y9, l10, l11, l12, l13, m14, m15) =>
    ((if (y9 == 0) then (ov a0 (aL.mk l10 l11 l12)).bind fun r18 =>
    some r18 else some y9)).bind fun y19 =>
    (if (y19 != 0) then some ((aL.mk [] [] []), y19) else some ((aL.mk l10 l11 l12), 0)))
def ow (a0 : (List Int)) (i2 : Int) : Int → Option Int
  | i1 =>
  (aN a0 i2).bind fun x8 =>
    (jZ x8).bind fun r9 =>
    some (ct .u64 i1 r9)
def j6 (a0 : (List Int)) : Option Int :=
  (cB (ow a0) (aW 0 (a0.length : Int)) 0).bind fun z10 =>
    some z10
def mo (a0 : Int) (a1 : aL) : Option Bool :=
  (j6 ([a0] : List Int)).bind fun r1 =>
    ((if (r1 != 0) then (im a1 r1).bind fun r3 =>
    some r3 else some false)).bind fun y4 =>
    some y4
def mq (a0 : aL) (a1 : Int) (a2 : Int) : Option Bool :=
  ((if (a1 != a2) then (mo a1 a0).bind fun r2 =>
    (if r2 then (mo a2 a0).bind fun r4 =>
    (if r4 then (j6 ([a1, a2] : List Int)).bind fun r6 =>
    (im a0 r6).bind fun r7 =>
    some (!r7) else some false) else some false) else some false)).bind fun y8 =>
    some y8
def qr  : Option Bool :=
  (md 1 0 0 1).bind fun r1 =>
    (md 2 1 0 1).bind fun r2 =>
    (j5 (api_Program.mk ([0, 0] : List Int) (api_Pol.mk 0 0 0 []) ([r1, r2] : List api_Rule))).bind fun r3 =>
    (md 1 0 0 2).bind fun r4 =>
    (j5 (api_Program.mk ([0] : List Int) (api_Pol.mk 0 0 0 []) ([r1, r4] : List api_Rule))).bind fun r5 =>
    (md 2 0 0 2).bind fun r6 =>
    (j5 (api_Program.mk ([0] : List Int) (api_Pol.mk 0 0 0 []) ([r1, r6] : List api_Rule))).bind fun r7 =>
    ((if (r3.2 == 0) then (if (r5.2 == 0) then (if (r7.2 == 23) then (if ((r3.1.Sets.length : Int) == 4) then (if ((r5.1.Sets.length : Int) == 3) then (mq r5.1 0 1).bind fun r13 =>
    (if r13 then (j3 r3.1 0).bind fun r15 =>
    (if (r15 == 3) then (im r3.1 3).bind fun r17 =>
    some r17 else some false) else some false) else some false) else some false) else some false) else some false) else some false)).bind fun y18 =>
    some y18
def uw (a0 : api_Program) (i3 : Int) : Unit → Option (Br Unit Bool)
  | () =>
  (aN a0.Rules i3).bind fun x9 =>
    (if ((decide ((x9.When.length : Int) > 8)) || ((decide ((x9.Guard.length : Int) > 6)) || (decide ((x9.Then.length : Int) > 6)))) then some (Br.ret false) else some (.next ()))
def ox (a0 : api_Program) : Option Bool :=
  (if ((decide ((a0.Init.length : Int) > 5)) || (decide ((a0.Rules.length : Int) > 26))) then some false else (bI (uw a0) (aW 0 (a0.Rules.length : Int)) ()).bind fun q13 => match q13 with
    | .ret r => some r
    | .done () =>
    some true)
def zJ (a0 : api_Pol) (self : api_Pol → Option Int) (i2 : Int) : Int → Option Int
  | i1 =>
  (aN a0.Kids i2).bind fun x8 =>
    (self x8).bind fun r9 =>
    some (IntKind.i64.wrap (i1 + r9))
def zK (self : api_Pol → Option Int) (a0 : api_Pol) : Option Int :=
  (cB (zJ a0 self) (aW 0 (a0.Kids.length : Int)) 1).bind fun z10 =>
    some z10
def uz : Nat → api_Pol → Option Int
  | 0 => fun _ => none
  | k + 1 => zK (uz k)
def qt (a0 : api_Pol) : Option Int := uz cy a0
def zL (a0 : api_Pol) (self : api_Pol → Option Int) (i2 : Int) : Int → Option Int
  | i1 =>
  (aN a0.Kids i2).bind fun x8 =>
    (self x8).bind fun r9 =>
    some (kH i1 r9)
def zM (self : api_Pol → Option Int) (a0 : api_Pol) : Option Int :=
  (cB (zL a0 self) (aW 0 (a0.Kids.length : Int)) 0).bind fun z10 =>
    some (IntKind.i64.wrap (z10 + 1))
def uA : Nat → api_Pol → Option Int
  | 0 => fun _ => none
  | k + 1 => zM (uA k)
def qu (a0 : api_Pol) : Option Int := uA cy a0
def zN (a0 : api_Pol) (self : api_Pol → Option Bool) (i6 : Int) : Unit → Option (Br Unit (Unit ⊕ Bool))
  | () =>
  (aN a0.Kids i6).bind fun x12 =>
    (self x12).bind fun r13 =>
    (if (!r13) then some (Br.ret (Sum.inr false)) else some (.next ()))
def zO (self : api_Pol → Option Bool) (a0 : api_Pol) : Option Bool :=
  (if ((a0.Op == 5) || ((decide (a0.Op < 0)) || (decide (a0.Op > 7)))) then some false else ((if ((a0.Op == 6) || (a0.Op == 7)) then (bI (zN a0 self) (aW 0 (a0.Kids.length : Int)) ()).bind fun q15 => match q15 with
    | .ret r => some r
    | .done () =>
    some (.inl ()) else some (.inl ()))).bind fun q16 => match q16 with
    | .inr r => some r
    | .inl () =>
    some true)
def uB : Nat → api_Pol → Option Bool
  | 0 => fun _ => none
  | k + 1 => zO (uB k)
def zP (a0 : api_Pol) : Option Bool := uB cy a0
def zQ (a0 : api_Pol) (a1 : Int) (self : api_Pol → Int → Option Bool) (i33 : Int) : Unit → Option (Br Unit Bool)
  | () =>
  (aN a0.Kids i33).bind fun x39 =>
    (self x39 a1).bind fun r40 =>
    (if (!r40) then some (Br.ret false) else some (.next ()))
def zR (self : api_Pol → Int → Option Bool) (a0 : api_Pol) (a1 : Int) : Option Bool :=
  ((if (a0.Op == 0) then some (a0.Op == 0) else some (a0.Op == 1))).bind fun y2 =>
    (if y2 then some (((a0.Kids.length : Int) == 0) && ((a0.F == 0) && (a0.N == 0))) else (if (a0.Op == 2) then some (((a0.Kids.length : Int) == 0) && ((decide (a0.F ≥ 0)) && (decide (a0.F < 8)))) else (if (a0.Op == 3) then some (((a0.Kids.length : Int) == 0) && ((decide (a0.F ≥ 0)) && (decide (a0.F < a1)))) else (if (a0.Op == 5) then some (((a0.Kids.length : Int) == 0) && ((decide (a0.F ≥ 1)) && (decide (a0.F < 8)))) else (if (a0.Op == 4) then ((if ((a0.Kids.length : Int) == 1) then (if (a0.F == 0) then (if (a0.N == 0) then (aN a0.Kids 0).bind fun x20 =>
    (zP x20).bind fun r21 =>
    (if r21 then (self x20 a1).bind fun r23 =>
    some r23 else some false) else some false) else some false) else some false)).bind fun y24 =>
    some y24 else ((if (a0.Op == 6) then some (a0.Op == 6) else some (a0.Op == 7))).bind fun y27 =>
    (if y27 then (if ((decide ((a0.Kids.length : Int) < 2)) || ((a0.F != 0) || (a0.N != 0))) then some false else (bI (zQ a0 a1 self) (aW 0 (a0.Kids.length : Int)) ()).bind fun q42 => match q42 with
    | .ret r => some r
    | .done () =>
    some true) else some false))))))
def uC : Nat → api_Pol → Int → Option Bool
  | 0 => fun _ _ => none
  | k + 1 => zR (uC k)
def qv (a0 : api_Pol) (a1 : Int) : Option Bool := uC cy a0 a1
def uD (a0 : (List api_Pair)) (a1 : Int) (i1 : Int) : Unit → Option (Br Unit Bool)
  | () =>
  (aN a0 i1).bind fun x7 =>
    ((if decide (x7.F < 0) then some true else (if decide (x7.F ≥ a1) then some true else (if decide (i1 > 0) then (aN a0 (IntKind.i64.wrap (i1 - 1))).bind fun x11 =>
    some (decide (x11.F ≥ x7.F)) else some false)))).bind fun y12 =>
    (if y12 then some (Br.ret false) else some (.next ()))
def kR (a0 : (List api_Pair)) (a1 : Int) : Option Bool :=
  (bI (uD a0 a1) (aW 0 (a0.length : Int)) ()).bind fun q15 => match q15 with
    | .ret r => some r
    | .done () =>
    some true
def uE (a0 : api_Program) (i12 : Int) : Unit → Option (Br Unit Int)
  | () =>
  (aN a0.Rules i12).bind fun x18 =>
    ((if decide ((x18.When.length : Int) < 2) then some true else (aN x18.When 0).bind fun x20 =>
    (if (x20.F != 0) then some true else (aN x18.When 1).bind fun x22 =>
    (if (x22.F != 1) then some true else (kR x18.When 8).bind fun r24 =>
    (if (!r24) then some true else (kR x18.Guard (a0.Init.length : Int)).bind fun r26 =>
    (if (!r26) then some true else (kR x18.Then (a0.Init.length : Int)).bind fun r28 =>
    (if (!r28) then some true else some ((x18.Then.length : Int) == 0)))))))).bind fun y30 =>
    (if y30 then some (Br.ret 11) else some (.next ()))
def qw (a0 : api_Program) : Option Int :=
  ((if decide ((a0.Init.length : Int) < 1) then some true else (if decide ((a0.Init.length : Int) > 4) then some true else (qt a0.Pol).bind fun r3 =>
    (if decide (r3 > 300) then some true else (qu a0.Pol).bind fun r5 =>
    (if decide (r5 > 20) then some true else some (decide ((a0.Rules.length : Int) > 24))))))).bind fun y7 =>
    (if y7 then some 2 else (qv a0.Pol (a0.Init.length : Int)).bind fun r10 =>
    (if (!r10) then some 11 else (bI (uE a0) (aW 0 (a0.Rules.length : Int)) ()).bind fun q33 => match q33 with
    | .ret r => some r
    | .done () =>
    some 0))
def uF (a0 : api_Rule) (a1 : (List Int)) (i1 : Int) : Unit → Option (Br Unit Bool)
  | () =>
  (aN a0.Guard i1).bind fun x7 =>
    ((if decide (x7.F < 0) then some true else (if decide (x7.F ≥ (a1.length : Int)) then some true else (aN a1 x7.F).bind fun x10 =>
    some (x10 != x7.N)))).bind fun y11 =>
    (if y11 then some (Br.ret false) else some (.next ()))
def qx (a0 : api_Rule) (a1 : (List Int)) : Option Bool :=
  (bI (uF a0 a1) (aW 0 (a0.Guard.length : Int)) ()).bind fun q14 => match q14 with
    | .ret r => some r
    | .done () =>
    some true
def qy (a0 : api_Rule) (i3 : Int) : (List Int) → Option (List Int)
  | l2 =>
  ((aN a0.Then i3).bind fun x9 =>
    (if ((decide (x9.F ≥ 0)) && (decide (x9.F < (l2.length : Int)))) then (aN l2 x9.F).bind fun x12 =>
    (dO l2 x9.F x9.N).bind fun l13 =>
    some l13 else some l2)).bind fun l14 =>
    some l14
def oy (a0 : api_Rule) (a1 : (List Int)) : Option (List Int) :=
  (cX ([] : List Int) a1).bind fun l1 =>
    (cB (qy a0) (aW 0 (a0.Then.length : Int)) l1).bind fun z16 =>
    some z16
def uG (a0 : (List Int)) (a1 : (List Int)) (i2 : Int) : Unit → Option (Br Unit Bool)
  | () =>
  (aN a0 i2).bind fun x8 =>
    (aN a1 i2).bind fun x9 =>
    (if (x8 != x9) then some (Br.ret false) else some (.next ()))
def j7 (a0 : (List Int)) (a1 : (List Int)) : Option Bool :=
  (if ((a0.length : Int) != (a1.length : Int)) then some false else (bI (uG a0 a1) (aW 0 (a0.length : Int)) ()).bind fun q11 => match q11 with
    | .ret r => some r
    | .done () =>
    some true)
def uH (a0 : (List (List Int))) (a1 : (List Int)) (i1 : Int) : Unit → Option (Br Unit Int)
  | () =>
  (aN a0 i1).bind fun x7 =>
    (j7 x7 a1).bind fun r8 =>
    (if r8 then some (Br.ret i1) else some (.next ()))
def oz (a0 : (List (List Int))) (a1 : (List Int)) : Option Int :=
  (bI (uH a0 a1) (aW 0 (a0.length : Int)) ()).bind fun q10 => match q10 with
    | .ret r => some r
    | .done () =>
    some (-1)
def oA (a0 : ba) (l9 : (List Bool)) (i10 : Int) (i17 : Int) : Bool → Option Bool
  | y16 =>
  ((aN a0.Edges i17).bind fun x23 =>
    ((if (x23.From == i10) then (aN l9 x23.To).bind fun x25 =>
    some (!x25) else some false)).bind fun y26 =>
    (if y26 then some false else some y16)).bind fun y29 =>
    some y29
def oB (a0 : ba) (i10 : Int) : (List Bool) → Option (List Bool)
  | l9 =>
  (cB (oA a0 l9 i10) (aW 0 (a0.Edges.length : Int)) true).bind fun z31 =>
    (aN l9 i10).bind fun x32 =>
    ((if x32 then (dO l9 i10 true).bind fun l34 =>
    some l34 else (dO l9 i10 z31).bind fun l35 =>
    some l35)).bind fun l36 =>
    some l36
def oC (a0 : ba) (i3 : Int) : (List Bool) → Option (List Bool)
  | l2 =>
  (cB (oB a0) (aW 0 (a0.States.length : Int)) l2).bind fun z39 =>
    some z39
def uI (z41 : (List Bool)) (i42 : Int) : Unit → Option (Br Unit Bool)
  | () =>
  (aN z41 i42).bind fun x48 =>
    (if (!x48) then some (Br.ret true) else some (.next ()))
def mr (a0 : ba) : Option Bool :=
  (ic (a0.States.length : Int) false).bind fun l1 =>
    (cB (oC a0) (aW 0 (a0.States.length : Int)) l1).bind fun z41 =>
    (bI (uI z41) (aW 0 (z41.length : Int)) ()).bind fun q50 => match q50 with
    | .ret r => some r
    | .done () =>
    some false
def jm (a0 : api_Program) (i6 : Int) (i11 : Int) : ((List (List Int)) × (List az)) → Option (Br ((List (List Int)) × (List az)) (Br ((List (List Int)) × (List az) × Int) (ba × Int)))
  | (l9, l10) =>
  (((aN a0.Rules i11).bind fun x17 =>
    (aN l9 i6).bind fun x18 =>
    (qx x17 x18).bind fun r19 =>
    (if (!r19) then some (.inl (l9, l10)) else (oy x17 x18).bind fun r21 =>
    (j7 r21 x18).bind fun r22 =>
    (if r22 then some (.inl (l9, l10)) else (oz l9 r21).bind fun r24 =>
    ((if decide (r24 < 0) then (cX l9 ([r21] : List (List Int))).bind fun l26 =>
    some (l26, (l9.length : Int)) else some (l9, r24))).bind fun (l27, y28) =>
    (if decide ((l27.length : Int) > 128) then some (Sum.inr (Br.ret (Br.ret ((ba.mk [] []), 21)))) else (cX l10 ([(az.mk i6 i11 y28)] : List az)).bind fun l31 =>
    some (.inl (l27, l31))))) : Option (((List (List Int)) × (List az)) ⊕ (Br ((List (List Int)) × (List az)) (Br ((List (List Int)) × (List az) × Int) (ba × Int)))))).bind fun q34 => match q34 with
    | .inr r => some r
    | .inl (l32, l33) =>
    some (.next (l32, l33))
def io (a0 : api_Program) : ((List (List Int)) × (List az) × Int) → Option (Br ((List (List Int)) × (List az) × Int) (ba × Int))
  | (l4, l5, i6) =>
  (if decide (i6 < (l4.length : Int)) then (bI (jm a0 i6) (aW 0 (a0.Rules.length : Int)) (l4, l5)).bind fun q37 => match q37 with
    | .ret r => some r
    | .done (z35, z36) =>
    some (.next (z35, z36, IntKind.i64.wrap (i6 + 1))) else some (.brk (l4, l5, i6)))
def oD (a0 : api_Program) : Option (ba × Int) :=
  (qw a0).bind fun r1 =>
    (if (r1 != 0) then some ((ba.mk [] []), r1) else (cX ([] : List Int) a0.Init).bind fun l3 =>
    (dC (io a0) cy (([l3] : List (List Int)), ([] : List az), 0)).bind fun q43 => match q43 with
    | .ret r => some r
    | .done (z38, z39, z40) =>
    (mr (ba.mk z38 z39)).bind fun r41 =>
    (if r41 then some ((ba.mk [] []), 20) else some ((ba.mk z38 z39), 0)))
def uJ (i2 : Int) : Int → Option Int
  | i1 =>
  some (IntKind.u64.wrap (2 * i1))
def kS (a0 : Int) : Option Int :=
  (cB uJ (aW 0 a0) 1).bind fun z8 =>
    some z8
def ms (a0 : Int) (a1 : Int) : Option Bool :=
  ((if decide (a1 ≥ 0) then (if decide (a1 < 64) then (kS a1).bind fun r3 =>
    (kG .u64 a0 r3).bind fun q4 =>
    some ((q4.tmod 2) == 1) else some false) else some false)).bind fun y5 =>
    some y5
def qz (a0 : aL) (a1 : Int) (a2 : Int) (i2 : Int) : Int → Option Int
  | i1 =>
  ((aN a0.Events i2).bind fun x8 =>
    ((if (x8.Rule == a2) then (ms a1 i2).bind fun r10 =>
    some r10 else some false)).bind fun y11 =>
    (if y11 then some (IntKind.i64.wrap (i1 + 1)) else some i1)).bind fun y14 =>
    some y14
def qA (a0 : aL) (a1 : Int) (a2 : Int) : Option Int :=
  (cB (qz a0 a1 a2) (aW 0 (a0.Events.length : Int)) 0).bind fun z16 =>
    some z16
def uK (a0 : (List aZ)) (a1 : aZ) (i1 : Int) : Unit → Option (Br Unit Int)
  | () =>
  (aN a0 i1).bind fun x7 =>
    (if (x7 == a1) then some (Br.ret i1) else some (.next ()))
def qB (a0 : (List aZ)) (a1 : aZ) : Option Int :=
  (bI (uK a0 a1) (aW 0 (a0.length : Int)) ()).bind fun q9 => match q9 with
    | .ret r => some r
    | .done () =>
    some (-1)
def kT (a0 : Int) (a1 : Int) : Option Int :=
  ((if decide (a1 < 0) then some true else (if decide (a1 > 63) then some true else (ms a0 a1).bind fun r3 =>
    some r3))).bind fun y4 =>
    (if y4 then some a0 else (kS a1).bind fun r7 =>
    some (IntKind.u64.wrap (a0 + r7)))
def uL (a0 : aL) (a1 : Int) (i1 : Int) : Unit → Option (Br Unit Int)
  | () =>
  (aN a0.Sets i1).bind fun x7 =>
    (if (x7 == a1) then some (Br.ret i1) else some (.next ()))
def mt (a0 : aL) (a1 : Int) : Option Int :=
  (bI (uL a0 a1) (aW 0 (a0.Sets.length : Int)) ()).bind fun q9 => match q9 with
    | .ret r => some r
    | .done () =>
    some (-1)
def mu (a1 : ba) (i5 : Int) (r9 : Int) (i13 : Int) : ((List aZ) × (List Int) × (List (List Int))) → Option (Br ((List aZ) × (List Int) × (List (List Int))) (Br ((List aZ) × (List Int) × (List (List Int)) × Int) (aL × Int)))
  | (l10, l11, l12) =>
  (((aN a1.Edges i13).bind fun x19 =>
    (if (x19.From != r9) then some (.inl (l10, l11, l12)) else (aN l11 i5).bind fun x21 =>
    (qA (aL.mk l10 l11 l12) x21 x19.Rule).bind fun r22 =>
    (qB l10 (aZ.mk x19.Rule r22)).bind fun r23 =>
    ((if decide (r23 < 0) then (cX l10 ([(aZ.mk x19.Rule r22)] : List aZ)).bind fun l25 =>
    some (l25, (l10.length : Int)) else some (l10, r23))).bind fun (l26, y27) =>
    (if decide (y27 > 63) then some (Sum.inr (Br.ret (Br.ret ((aL.mk [] [] []), 21)))) else (kT x21 y27).bind fun r30 =>
    (mt (aL.mk l26 l11 l12) r30).bind fun r31 =>
    (if decide (r31 ≥ 0) then (aN l12 r31).bind fun x33 =>
    (aN a1.States x19.To).bind fun x34 =>
    (j7 x33 x34).bind fun r35 =>
    (if (!r35) then some (Sum.inr (Br.ret (Br.ret ((aL.mk [] [] []), 22)))) else some (.inl (l26, l11, l12))) else (cX l11 ([r30] : List Int)).bind fun l37 =>
    (aN a1.States x19.To).bind fun x38 =>
    (cX l12 ([x38] : List (List Int))).bind fun l39 =>
    (if decide ((l37.length : Int) > 256) then some (Sum.inr (Br.ret (Br.ret ((aL.mk [] [] []), 21)))) else some (.inl (l26, l37, l39)))))) : Option (((List aZ) × (List Int) × (List (List Int))) ⊕ (Br ((List aZ) × (List Int) × (List (List Int))) (Br ((List aZ) × (List Int) × (List (List Int)) × Int) (aL × Int)))))).bind fun q44 => match q44 with
    | .inr r => some r
    | .inl (l41, l42, l43) =>
    some (.next (l41, l42, l43))
def j8 (a1 : ba) : ((List aZ) × (List Int) × (List (List Int)) × Int) → Option (Br ((List aZ) × (List Int) × (List (List Int)) × Int) (aL × Int))
  | (l2, l3, l4, i5) =>
  (if decide (i5 < (l3.length : Int)) then (aN l4 i5).bind fun x8 =>
    (oz a1.States x8).bind fun r9 =>
    (bI (mu a1 i5 r9) (aW 0 (a1.Edges.length : Int)) (l2, l3, l4)).bind fun q48 => match q48 with
    | .ret r => some r
    | .done (z45, z46, z47) =>
    some (.next (z45, z46, z47, IntKind.i64.wrap (i5 + 1))) else some (.brk (l2, l3, l4, i5)))
def oE (a0 : api_Program) (a1 : ba) : Option (aL × Int) :=
  (aN a1.States 0).bind fun x1 =>
    (dC (j8 a1) cy (([] : List aZ), ([0] : List Int), ([x1] : List (List Int)), 0)).bind fun q53 => match q53 with
    | .ret r => some r
    | .done (z49, z50, z51, z52) =>
    some ((aL.mk z49 z50 z51), 0)
def uM (a0 : ba) (a1 : Int) (a2 : (List Int)) (a3 : (List Int)) (i1 : Int) : Unit → Option (Br Unit Bool)
  | () =>
  (aN a0.Edges i1).bind fun x7 =>
    ((if (x7.Rule == a1) then (aN a0.States x7.From).bind fun x9 =>
    (j7 x9 a2).bind fun r10 =>
    (if r10 then (aN a0.States x7.To).bind fun x12 =>
    (j7 x12 a3).bind fun r13 =>
    some r13 else some false) else some false)).bind fun y14 =>
    (if y14 then some (Br.ret true) else some (.next ()))
def qC (a0 : ba) (a1 : Int) (a2 : (List Int)) (a3 : (List Int)) : Option Bool :=
  (bI (uM a0 a1 a2 a3) (aW 0 (a0.Edges.length : Int)) ()).bind fun q17 => match q17 with
    | .ret r => some r
    | .done () =>
    some false
def uN (a0 : aL) (a1 : Int) (i1 : Int) : Unit → Option (Br Unit Bool)
  | () =>
  (aN a0.Sets i1).bind fun x7 =>
    (if ((aA .u64 a1 x7) == a1) then some (Br.ret true) else some (.next ()))
def oF (a0 : aL) (a1 : Int) : Option Bool :=
  (bI (uN a0 a1) (aW 0 (a0.Sets.length : Int)) ()).bind fun q9 => match q9 with
    | .ret r => some r
    | .done () =>
    some false
def uO (a0 : aL) (a1 : ba) (i1 : Int) (i7 : Int) : Unit → Option (Br Unit (Br Unit Bool))
  | () =>
  (aN a0.Sets i1).bind fun x13 =>
    (kT x13 i7).bind fun r14 =>
    (mt a0 r14).bind fun r15 =>
    ((if decide (r15 ≥ 0) then (if (r15 != i1) then (aN a0.Events i7).bind fun x18 =>
    (aN a0.States i1).bind fun x19 =>
    (aN a0.States r15).bind fun x20 =>
    (qC a1 x18.Rule x19 x20).bind fun r21 =>
    some (!r21) else some false) else some false)).bind fun y22 =>
    (if y22 then some (Br.ret (Br.ret false)) else some (.next ()))
def qD (a0 : aL) (i1 : Int) (i25 : Int) : Unit → Option (Br Unit (Br Unit Bool))
  | () =>
  (aN a0.Sets i1).bind fun x31 =>
    (aN a0.Sets i25).bind fun x32 =>
    (mt a0 (ct .u64 x31 x32)).bind fun r33 =>
    ((if decide (r33 < 0) then (oF a0 (ct .u64 x31 x32)).bind fun r35 =>
    some r35 else some false)).bind fun y36 =>
    (if y36 then some (Br.ret (Br.ret false)) else some (.next ()))
def uP (a0 : aL) (a1 : ba) (i1 : Int) : Unit → Option (Br Unit Bool)
  | () =>
  (bI (uO a0 a1 i1) (aW 0 (a0.Events.length : Int)) ()).bind fun q40 => match q40 with
    | .ret r => some r
    | .done () =>
    (bI (qD a0 i1) (aW 0 i1) ()).bind fun q39 => match q39 with
    | .ret r => some r
    | .done () =>
    some (.next ())
def qE (a0 : aL) (a1 : ba) : Option Bool :=
  (bI (uP a0 a1) (aW 0 (a0.Sets.length : Int)) ()).bind fun q41 => match q41 with
    | .ret r => some r
    | .done () =>
    some true
def qF (x9 : api_Rule) (i10 : Int) : Unit → Option (Br Unit Int)
  | () =>
  (aN x9.When i10).bind fun x16 =>
    (if (x16.F == 0) then some (Br.ret (IntKind.i64.wrap x16.N)) else some (.next ()))
def qH (a0 : api_Program) (a1 : aL) (a2 : Int) : Option Int :=
  ((if decide (a2 < 0) then some true else (if decide (a2 ≥ (a1.Events.length : Int)) then some true else (aN a1.Events a2).bind fun x3 =>
    (if decide (x3.Rule < 0) then some true else some (decide (x3.Rule ≥ (a0.Rules.length : Int))))))).bind fun y5 =>
    (if y5 then some (-1) else (aN a1.Events a2).bind fun x8 =>
    (aN a0.Rules x8.Rule).bind fun x9 =>
    (bI (qF x9) (aW 0 (x9.When.length : Int)) ()).bind fun q18 => match q18 with
    | .ret r => some r
    | .done () =>
    some (-1))
def uQ (a0 : (List Int)) (a1 : Int) (i1 : Int) : Unit → Option (Br Unit (List Int))
  | () =>
  (aN a0 i1).bind fun x7 =>
    (if (x7 == a1) then some (Br.ret a0) else some (.next ()))
def qI (a0 : (List Int)) (a1 : Int) : Option (List Int) :=
  (bI (uQ a0 a1) (aW 0 (a0.length : Int)) ()).bind fun q10 => match q10 with
    | .ret r => some r
    | .done () =>
    (cX a0 ([a1] : List Int)).bind fun l9 =>
    some l9
def qJ (l1 : (List Int)) (r9 : Int) : Int → Option (Int ⊕ Int)
  | i10 =>
  ((if decide (i10 < (l1.length : Int)) then (aN l1 i10).bind fun x13 =>
    some (x13 != r9) else some false)).bind fun y14 =>
    (if y14 then some (.inl (IntKind.i64.wrap (i10 + 1))) else some (.inr i10))
def mw (a0 : api_Program) (a1 : aL) (i3 : Int) : ((List Int) × (List Int)) → Option ((List Int) × (List Int))
  | (l1, l2) =>
  (qH a0 a1 i3).bind fun r9 =>
    (jk (qJ l1 r9) cy 0).bind fun z17 =>
    ((if (z17 == (l1.length : Int)) then (cX l1 ([r9] : List Int)).bind fun l19 =>
    (cX l2 ([0] : List Int)).bind fun l20 =>
    some (l19, l20) else some (l1, l2))).bind fun (l21, l22) =>
    (aN l22 z17).bind fun x24 =>
    (kT x24 i3).bind fun r25 =>
    (dO l22 z17 r25).bind fun l26 =>
    some (l21, l26)
def qK (a1 : aL) (i38 : Int) (i45 : Int) : Bool → Option Bool
  | y44 =>
  ((if y44 then (if (i45 == i38) then some true else (aN a1.Sets i38).bind fun x53 =>
    (aN a1.Sets i45).bind fun x54 =>
    some ((aA .u64 x53 x54) != x53)) else some false)).bind fun y55 =>
    some y55
def oG (a1 : aL) (z29 : (List Int)) (i31 : Int) (i38 : Int) : (List Int) → Option (List Int)
  | l37 =>
  ((cB (qK a1 i38) (aW 0 (a1.Sets.length : Int)) true).bind fun z57 =>
    (if z57 then (aN a1.Sets i38).bind fun x59 =>
    (aN z29 i31).bind fun x60 =>
    (qI l37 (aA .u64 x59 x60)).bind fun r61 =>
    some r61 else some l37)).bind fun l63 =>
    some l63
def qL (a1 : aL) (z29 : (List Int)) (i31 : Int) : (List (List Int)) → Option (List (List Int))
  | l30 =>
  (cB (oG a1 z29 i31) (aW 0 (a1.Sets.length : Int)) ([] : List Int)).bind fun z65 =>
    (cX l30 ([z65] : List (List Int))).bind fun l66 =>
    some l66
def qM (a0 : api_Program) (a1 : aL) : Option (List (List Int)) :=
  (cB (mw a0 a1) (aW 0 (a1.Events.length : Int)) (([] : List Int), ([] : List Int))).bind fun (z28, z29) =>
    (cB (qL a1 z29) (aW 0 (z29.length : Int)) ([] : List (List Int))).bind fun z68 =>
    some z68
def qN (r1 : (List (List Int))) (i3 : Int) : Int → Option Int
  | i2 =>
  (aN r1 i3).bind fun x9 =>
    some (pR (IntKind.i64.wrap (i2 * (x9.length : Int))) 20001)
def qO (y12 : (List Int)) (i20 : Int) (x28 : (List Int)) (i27 : Int) : (List Int) → Option (List Int)
  | l26 =>
  (aN y12 i20).bind fun x34 =>
    (aN x28 i27).bind fun x35 =>
    (cX l26 ([ct .u64 x34 x35] : List Int)).bind fun l36 =>
    some l36
def qP (r1 : (List (List Int))) (y12 : (List Int)) (i13 : Int) (i20 : Int) : (List Int) → Option (List Int)
  | l19 =>
  (aN r1 i13).bind fun x28 =>
    (cB (qO y12 i20 x28) (aW 0 (x28.length : Int)) l19).bind fun z37 =>
    some z37
def qQ (r1 : (List (List Int))) (i13 : Int) : (List Int) → Option (List Int)
  | y12 =>
  (cB (qP r1 y12 i13) (aW 0 (y12.length : Int)) ([] : List Int)).bind fun z39 =>
    some z39
def uR (a1 : aL) (z41 : (List Int)) (i42 : Int) : Unit → Option (Br Unit Int)
  | () =>
  (aN z41 i42).bind fun x48 =>
    (oF a1 x48).bind fun r49 =>
    (if (!r49) then some (Br.ret 23) else some (.next ()))
def qR (a0 : api_Program) (a1 : aL) : Option Int :=
  (qM a0 a1).bind fun r1 =>
    (cB (qN r1) (aW 0 (r1.length : Int)) 1).bind fun z10 =>
    (if decide (z10 > 20000) then some 21 else (cB (qQ r1) (aW 0 (r1.length : Int)) ([0] : List Int)).bind fun z41 =>
    (bI (uR a1 z41) (aW 0 (z41.length : Int)) ()).bind fun q51 => match q51 with
    | .ret r => some r
    | .done () =>
    some 0)
def uS (a0 : api_Program) : Option (aL × Int) :=
  (oD a0).bind fun r1 =>
    (if (r1.2 != 0) then some ((aL.mk [] [] []), r1.2) else (oE a0 r1.1).bind fun r3 =>
    (if (r3.2 != 0) then some ((aL.mk [] [] []), r3.2) else (qE r3.1 r1.1).bind fun r5 =>
    (if (!r5) then some ((aL.mk [] [] []), 22) else (qR a0 r3.1).bind fun r7 =>
    (if (r7 != 0) then some ((aL.mk [] [] []), r7) else some (r3.1, 0)))))
def qS (a0 : Int) (i2 : Int) : (List Int) → Option (List Int)
  | l1 =>
  ((kS i2).bind fun r8 =>
    (kG .u64 a0 r8).bind fun q9 =>
    (if ((q9.tmod 2) == 1) then (cX l1 ([i2] : List Int)).bind fun l11 =>
    some l11 else some l1)).bind fun l12 =>
    some l12
def mx (a0 : Int) : Option (List Int) :=
  (cB (qS a0) (aW 0 64) ([] : List Int)).bind fun z14 =>
    some z14
def qT (r5 : (aL × Int)) (x23 : Int) (l24 : (List Int)) (i26 : Int) : Bool → Option (Br Bool (Br Unit Bool))
  | y25 =>
  (aN l24 i26).bind fun x32 =>
    ((if y25 then some true else (if ((fm .u64 x32 x23) == 0) then (mx (fm .u64 x23 x32)).bind fun r35 =>
    (if ((r35.length : Int) == 1) then (j3 r5.1 x32).bind fun r37 =>
    some ((aA .u64 r37 (fm .u64 x23 x32)) == (fm .u64 x23 x32)) else some false) else some false))).bind fun y38 =>
    (kP r5.1 (ct .u64 x23 x32)).bind fun r40 =>
    (im r5.1 (ct .u64 x23 x32)).bind fun r41 =>
    (if (!(r40.2 == r41)) then some (Br.ret (Br.ret false)) else some (.next y38))
def qU (r5 : (aL × Int)) (i17 : Int) : Unit → Option (Br Unit Bool)
  | () =>
  (aN r5.1.Sets i17).bind fun x23 =>
    (fC r5.1.Sets 0 i17).bind fun l24 =>
    (bI (qT r5 x23 l24) (aW 0 (l24.length : Int)) (i17 == 0)).bind fun q45 => match q45 with
    | .ret r => some r
    | .done z43 =>
    (if (!z43) then some (Br.ret false) else some (.next ()))
def uT (a0 : api_Program) (r5 : (aL × Int)) (i46 : Int) (i52 : Int) : Unit → Option (Br Unit (Br Unit Bool))
  | () =>
  (kQ (api_Program.mk a0.Init (api_Pol.mk 0 0 0 []) a0.Rules) r5.1 i46).bind fun r58 =>
    (kQ (api_Program.mk a0.Init (api_Pol.mk 0 0 0 []) a0.Rules) r5.1 i52).bind fun r59 =>
    ((if (!r58.2) then some true else (if (!r59.2) then some true else (mq r5.1 i46 i52).bind fun r62 =>
    (if r62 then some (r58.1 != r59.1) else some false)))).bind fun y64 =>
    (if y64 then some (Br.ret (Br.ret false)) else some (.next ()))
def uU (a0 : api_Program) (r5 : (aL × Int)) (i46 : Int) : Unit → Option (Br Unit Bool)
  | () =>
  (bI (uT a0 r5 i46) (aW 0 (r5.1.Events.length : Int)) ()).bind fun q67 => match q67 with
    | .ret r => some r
    | .done () =>
    some (.next ())
def law12_NesFamily (a0 : api_Program) : Option Bool :=
  (qr).bind fun r1 =>
    (if (!r1) then some false else (ox (api_Program.mk a0.Init (api_Pol.mk 0 0 0 []) a0.Rules)).bind fun r3 =>
    (if (!r3) then some true else (j5 (api_Program.mk a0.Init (api_Pol.mk 0 0 0 []) a0.Rules)).bind fun r5 =>
    (if (r5.2 != 0) then some (((r5.1.Sets.length : Int) == 0) && (((r5.1.Events.length : Int) == 0) && ((r5.1.States.length : Int) == 0))) else ((if ((r5.1.Sets.length : Int) == 0) then some true else (aN r5.1.Sets 0).bind fun x10 =>
    (if (x10 != 0) then some true else (if ((r5.1.Sets.length : Int) != (r5.1.States.length : Int)) then some true else (if decide ((r5.1.Sets.length : Int) > 256) then some true else some (decide ((r5.1.Events.length : Int) > 64))))))).bind fun y14 =>
    (if y14 then some false else (bI (qU r5) (aW 0 (r5.1.Sets.length : Int)) ()).bind fun q69 => match q69 with
    | .ret r => some r
    | .done () =>
    (bI (uU a0 r5) (aW 0 (r5.1.Events.length : Int)) ()).bind fun q68 => match q68 with
    | .ret r => some r
    | .done () =>
    some true))))
end Go.AM
