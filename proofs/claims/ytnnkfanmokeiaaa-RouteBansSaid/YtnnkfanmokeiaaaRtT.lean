import Derived.Test.YtnnkfanmokeiaaaAmPv
import Derived.Test.YtnnkfanmokeiaaaAmN4
set_option linter.unusedVariables false
namespace Go.AM
open Go
structure aj where
  Op : Int
  F : Int
  N : Int
  Kids : (List aj)
  deriving Inhabited
structure api_Pair where
  F : Int
  N : Int
  deriving DecidableEq, Inhabited
structure api_Port where
  Sw : Int
  Pt : Int
  deriving DecidableEq, Inhabited
structure api_Topo where
  Switches : (List Int)
  Links : (List (A2 api_Port))
  Hosts : (List api_Port)
  deriving DecidableEq, Inhabited
structure api_Want where
  From : Int
  To : Int
  Match : (List api_Pair)
  Ban : Bool
  deriving DecidableEq, Inhabited
structure tX where
  When : (List api_Pair)
  Guard : (List api_Pair)
  Then : (List api_Pair)
  deriving DecidableEq, Inhabited
structure jU where
  Init : (List Int)
  Pol : aj
  Rules : (List tX)
  deriving Inhabited
structure ze where
  What : Int
  F : Int
  N : Int
  K : Int
  deriving DecidableEq, Inhabited
structure EC where
  T : api_Topo
  L : (List ze)
  State : (List Int)
  deriving DecidableEq, Inhabited
structure ED where
  t : api_Topo
  p : aj
  state : (List Int)
  found : (List (List (A8 Int)))
  deriving Inhabited
def lW (a0 : List api_Port) : Option (List api_Port) :=
  (c6 ([] : List api_Port) a0).bind fun l1 => some l1
def pZ (a0 : api_Topo) (i5 : Int) : (List (Int × Bool)) → Option (List (Int × Bool))
  | m4 =>
  (bd a0.Switches i5).bind fun x11 =>
    some (dT m4 x11 true)
def p4 (a0 : api_Topo) (i15 : Int) : (List api_Port) → Option (List api_Port)
  | l14 =>
  (bd a0.Links i15).bind fun x21 =>
    (c6 l14 [x21.a0, x21.a1]).bind fun l22 =>
    some l22
def p5 (z12 : (List (Int × Bool))) (z23 : (List api_Port)) (i25 : Int) : (List (api_Port × Bool)) → Option (Br (List (api_Port × Bool)) Int)
  | m24 =>
  (bd z23 i25).bind fun x31 =>
    (if (!((mget z12 x31.Sw).getD false)) then some (Br.ret 12) else some (.next (dT m24 x31 true)))
def nz (a0 : api_Topo) : Option Int :=
  (if ((decide ((a0.Switches.length : Int) > 12)) || ((decide ((a0.Links.length : Int) > 24)) || (decide ((a0.Hosts.length : Int) > 24)))) then some 2 else (cW (pZ a0) (bx 0 (a0.Switches.length : Int)) ([] : List (Int × Bool))).bind fun z12 =>
    (lW a0.Hosts).bind fun r13 =>
    (cW (p4 a0) (bx 0 (a0.Links.length : Int)) r13).bind fun z23 =>
    (bS (p5 z12 z23) (bx 0 (z23.length : Int)) ([] : List (api_Port × Bool))).bind fun q38 => match q38 with
    | .ret r => some r
    | .done z33 =>
    (i4 z12).bind fun n34 =>
    (if decide (n34 < (a0.Switches.length : Int)) then some 12 else (i4 z33).bind fun n36 =>
    (if decide (n36 < (z23.length : Int)) then some 11 else some 0)))
def nA (a0 : Int) (a1 : api_Topo) : Option Bool :=
  some ((decide (a0 ≥ 0)) && (decide (a0 < (a1.Hosts.length : Int))))
def tY (a0 : (List Int)) (a1 : Int) (i1 : Int) : Unit → Option (Br Unit Int)
  | () =>
  (bd a0 i1).bind fun x7 =>
    (if (a1 == x7) then some (Br.ret i1) else some (.next ()))
def nB (a0 : (List Int)) (a1 : Int) : Option Int :=
  (bS (tY a0 a1) (bx 0 (a0.length : Int)) ()).bind fun q9 => match q9 with
    | .ret r => some r
    | .done () =>
    some (-1)
def jV (a0 : api_Topo) (a1 : Int) : Option (Int × Bool) :=
  (nB a0.Switches a1).bind fun r1 =>
    some (fM r1 0, decide (r1 ≥ 0))
def nC (a0 : (List Int)) (i2 : Int) (i14 : Int) : ((List Int) × Int) → Option ((List Int) × Int)
  | (l12, i13) =>
  ((iI l12 i2 (a0.length : Int) i14).bind fun x20 =>
    (bd l12 (i2 + i14)).bind fun x21 =>
    (iI l12 i2 (a0.length : Int) (IntKind.i64.wrap (i14 - 1))).bind fun x22 =>
    (bd l12 (i2 + (IntKind.i64.wrap (i14 - 1)))).bind fun x23 =>
    (if (x21 != x23) then (bd l12 i13).bind fun x25 =>
    (dc l12 i13 x21).bind fun l26 =>
    some (l26, IntKind.i64.wrap (i13 + 1)) else some (l12, i13))).bind fun (l27, y28) =>
    some (l27, y28)
def lX (a0 : (List Int)) (i2 : Int) : Unit → Option (Br Unit (List Int))
  | () =>
  (bd a0 i2).bind fun x8 =>
    (bd a0 (IntKind.i64.wrap (i2 - 1))).bind fun x9 =>
    (if (x8 == x9) then (d8 a0 i2 (a0.length : Int)).bind fun l11 =>
    (cW (nC a0 i2) (bx 1 (l11.length : Int)) (a0, i2)).bind fun (z30, z31) =>
    (d8 z30 z31 (z30.length : Int)).bind fun l32 =>
    some (Br.ret (z30.take z31.toNat)) else some (.next ()))
def lY (a0 : (List Int)) : Option (List Int) :=
  (if decide ((a0.length : Int) < 2) then some a0 else (bS (lX a0) (bx 1 (a0.length : Int)) ()).bind fun q34 => match q34 with
    | .ret r => some r
    | .done () =>
    some a0)
def jW (x : Int) : List Int → List Int
  | [] => [x]
  | y :: l => if x ≤ y then x :: y :: l else y :: jW x l
def cZ : List Int → List Int
  | [] => []
  | x :: l => jW x (cZ l)
def nD (a0 : api_Topo) (a1 : Int) (i2 : Int) : (List (List Int)) → Option (List (List Int))
  | g =>
  (bd a0.Links i2).bind fun x =>
    (jV a0 x.a0.Sw).bind fun r1 =>
    (jV a0 x.a1.Sw).bind fun r2 =>
    (if ((!r1.2) || ((!r2.2) || ((r1.1 == r2.1) || (i2 == a1)))) then some g else (bd g r1.1).bind fun la =>
    (c6 la ([r2.1] : List Int)).bind fun la2 =>
    (bd g r2.1).bind fun lb =>
    (c6 lb ([r1.1] : List Int)).bind fun lb2 =>
    (dc g r1.1 la2).bind fun g2 => dc g2 r2.1 lb2)
def p6 (i2 : Int) : (List (List Int)) → Option (List (List Int))
  | g =>
  (bd g i2).bind fun l =>
    (if l.length ≤ 4294967296 then (lY (cZ l)).bind fun r => dc g i2 r else none)
def nE (a0 : api_Topo) (a1 : Int) : Option (List (List Int)) :=
  (eX (a0.Switches.length : Int) ([] : List Int)).bind fun g0 =>
    (cW (nD a0 a1) (bx 0 (a0.Links.length : Int)) g0).bind fun z1 =>
    (cW p6 (bx 0 (z1.length : Int)) z1).bind fun z2 =>
    some z2
def jd (a0 : (List (List Int))) (a1 : Int) : Option Bool :=
  some ((decide (a1 ≥ 0)) && (decide (a1 < (a0.length : Int))))
def p7 (i : Int) : (List Int) → Option (List Int)
  | l6 =>
  (bd l6 i).bind fun x13 =>
    (dc l6 i (-1)).bind fun l14 =>
    some l14
def p8 (l : List Int) (x : Int) (i : Int) : ((List Int) × (List Int)) → Option ((List Int) × (List Int))
  | (d, q) =>
  (bd l i).bind fun k =>
    (bd d k).bind fun dk =>
    (if decide (dk < 0) then (bd d x).bind fun dx =>
    (dc d k (IntKind.i64.wrap (dx + 1))).bind fun d2 =>
    (c6 q ([k] : List Int)).bind fun q2 =>
    some (d2, q2) else some (d, q))
def nF (a0 : (List (List Int))) : ((List Int) × (List Int)) → Option (((List Int) × (List Int)) ⊕ ((List Int) × (List Int)))
  | (d, q) =>
  (if decide ((q.length : Int) > 0) then (bd q 0).bind fun x =>
    (bd a0 x).bind fun l =>
    (cW (p8 l x) (bx 0 (l.length : Int)) (d, q)).bind fun (d2, q2) =>
    (d8 q2 1 (q2.length : Int)).bind fun q3 =>
    some (.inl (d2, q3)) else some (.inr (d, q)))
def nG (a0 : (List (List Int))) (a1 : Int) : Option (List Int) :=
  (eX (a0.length : Int) (0 : Int)).bind fun l5 =>
    (cW p7 (bx 0 (l5.length : Int)) l5).bind fun z15 =>
    (jd a0 a1).bind fun r2 =>
    (if (!r2) then some z15 else (bd z15 a1).bind fun x16 =>
    (dc z15 a1 0).bind fun l17 =>
    (ig (nF a0) cX (l17, ([a1] : List Int))).bind fun (z, zq) =>
    some z)
def nH (a0 : Int) (a1 : (List Int)) (a2 : Int) : Option Bool :=
  (bd a1 a0).bind fun x1 =>
    (bd a1 a2).bind fun x2 =>
    some (x1 == (IntKind.i64.wrap (x2 - 1)))
def tZ (a0 : (List Int)) (a1 : (Int → Option Bool)) (i1 : Int) : Unit → Option (Br Unit Int)
  | () =>
  (bd a0 i1).bind fun x7 =>
    (a1 x7).bind fun x8 =>
    (if x8 then some (Br.ret i1) else some (.next ()))
def nJ (a0 : (List Int)) (a1 : Int → Option Bool) : Option Int :=
  (bS (tZ a0 a1) (bx 0 (a0.length : Int)) ()).bind fun q10 => match q10 with
    | .ret r => some r
    | .done () =>
    some (-1)
def lZ (a2 : Int) (r1 : (List (List Int))) (r8 : (List Int)) : ((List Int) × Int) → Option (((List Int) × Int) ⊕ ((List Int) × Int))
  | (l11, i12) =>
  (if (i12 != a2) then (bd r1 i12).bind fun x15 =>
    (nJ x15 (fun y0 => nH y0 r8 i12)).bind fun r16 =>
    (bd x15 r16).bind fun x17 =>
    (c6 l11 ([x17] : List Int)).bind fun l18 =>
    some (.inl (l18, x17)) else some (.inr (l11, i12)))
def jX (a0 : api_Topo) (a1 : Int) (a2 : Int) : Option ((List Int) × Bool) :=
  (nE a0 (-1)).bind fun r1 =>
    (jd r1 a1).bind fun r2 =>
    ((if (!r2) then some true else (jd r1 a2).bind fun r4 =>
    some (!r4))).bind fun y5 =>
    (if y5 then some (([] : List Int), false) else (nG r1 a2).bind fun r8 =>
    (bd r8 a1).bind fun x9 =>
    (if decide (x9 < 0) then some (([] : List Int), false) else (ig (lZ a2 r1 r8) cX (([a1] : List Int), a1)).bind fun (z19, z20) =>
    some (z19, true)))
def jY (a0 : api_Topo) (a1 : Int) (a2 : Int) : Option ((List Int) × Bool) :=
  (bd a0.Hosts a1).bind fun x1 =>
    (jV a0 x1.Sw).bind fun r2 =>
    (bd a0.Hosts a2).bind fun x3 =>
    (jV a0 x3.Sw).bind fun r4 =>
    (if ((!r2.2) || (!r4.2)) then some (([] : List Int), false) else (jX a0 r2.1 r4.1).bind fun r7 =>
    some (r7.1, r7.2))
def p9 (a1 : api_Want) (i8 : Int) : Unit → Option (Br Unit Int)
  | () =>
  (bd a1.Match i8).bind fun x14 =>
    ((if decide (x14.F < 4) then some true else (if decide (x14.F > 7) then some true else (if decide (i8 > 0) then (bd a1.Match (IntKind.i64.wrap (i8 - 1))).bind fun x18 =>
    some (decide (x18.F ≥ x14.F)) else some false)))).bind fun y19 =>
    (if y19 then some (Br.ret 1) else some (.next ()))
def kN (a0 : api_Topo) (a1 : api_Want) : Option Int :=
  (nA a1.From a0).bind fun r1 =>
    ((if (!r1) then some true else (nA a1.To a0).bind fun r3 =>
    (if (!r3) then some true else some (a1.From == a1.To)))).bind fun y5 =>
    (if y5 then some 1 else (bS (p9 a1) (bx 0 (a1.Match.length : Int)) ()).bind fun q24 => match q24 with
    | .ret r => some r
    | .done () =>
    (jY a0 a1.From a1.To).bind fun r22 =>
    (if (!r22.2) then some 33 else some 0))
def l7 (a0 : Int) : Option Int :=
  some (IntKind.u16.wrap (IntKind.i64.wrap (a0 + 1)))
def je (a0 : Int) (a1 : Int) : Option aj :=
  some (aj.mk 2 a0 a1 [])
def qa (a0 : api_Want) (i7 : Int) : (List aj) → Option (List aj)
  | l6 =>
  (bd a0.Match i7).bind fun x13 =>
    (je x13.F x13.N).bind fun r14 =>
    (c6 l6 ([r14] : List aj)).bind fun l15 =>
    some l15
def l9 (a0 : api_Want) (a1 : (List aj)) : Option (List aj) :=
  (l7 a0.From).bind fun r1 =>
    (je 2 r1).bind fun r2 =>
    (l7 a0.To).bind fun r3 =>
    (je 3 r3).bind fun r4 =>
    (c6 a1 ([r2, r4] : List aj)).bind fun l5 =>
    (cW (qa a0) (bx 0 (a0.Match.length : Int)) l5).bind fun z16 =>
    some z16
def t6 (a0 : api_Topo) (a1 : Int) (x6 : Int) (x7 : Int) (i8 : Int) : Unit → Option (Br Unit (Int × Bool))
  | () =>
  (bd a0.Links i8).bind fun x14 =>
    (if ((x14.a0.Sw == x6) && (x14.a1.Sw == x7)) then some (Br.ret (x14.a0.Pt, true)) else (if ((x14.a1.Sw == x6) && (x14.a0.Sw == x7)) then some (Br.ret (x14.a1.Pt, true)) else some (.next ())))
def kO (a0 : api_Topo) (a1 : Int) (a2 : Int) : Option (Int × Bool) :=
  (if ((decide (a1 < 0)) || ((decide (a1 ≥ (a0.Switches.length : Int))) || ((decide (a2 < 0)) || ((decide (a2 ≥ (a0.Switches.length : Int))) || (a1 == a2))))) then some (0, false) else (bd a0.Switches a1).bind fun x6 =>
    (bd a0.Switches a2).bind fun x7 =>
    (bS (t6 a0 a1 x6 x7) (bx 0 (a0.Links.length : Int)) ()).bind fun q19 => match q19 with
    | .ret r => some r
    | .done () =>
    some (0, false))
def qb (a0 : api_Topo) (a1 : api_Want) (r1 : ((List Int) × Bool)) (i3 : Int) : (List aj) → Option (List aj)
  | l2 =>
  (bd r1.1 i3).bind fun x9 =>
    (bd a0.Hosts a1.To).bind fun x10 =>
    ((if decide ((i3 + 1) < (r1.1.length : Int)) then (bd r1.1 (i3 + 1)).bind fun x12 =>
    (kO a0 x9 x12).bind fun r13 =>
    some r13.1 else some x10.Pt)).bind fun y14 =>
    (bd a0.Switches x9).bind fun x16 =>
    (je 0 x16).bind fun r17 =>
    (l9 a1 ([r17] : List aj)).bind fun r18 =>
    (c6 r18 ([(aj.mk 5 1 y14 [])] : List aj)).bind fun l19 =>
    (c6 l2 ([(aj.mk 6 0 0 l19)] : List aj)).bind fun l20 =>
    some l20
def nK (a0 : api_Topo) (a1 : api_Want) : Option (List aj) :=
  (jY a0 a1.From a1.To).bind fun r1 =>
    (cW (qb a0 a1 r1) (bx 0 (r1.1.length : Int)) ([] : List aj)).bind fun z21 =>
    some z21
def ma (a0 : (List aj)) : Option aj :=
  (if ((a0.length : Int) == 0) then some (aj.mk 0 0 0 []) else (if ((a0.length : Int) == 1) then (bd a0 0).bind fun x3 =>
    some x3 else some (aj.mk 7 0 0 a0)))
def qc (a0 : aj) (self : aj → Option Int) (i2 : Int) : Int → Option Int
  | i1 =>
  (bd a0.Kids i2).bind fun x8 =>
    (self x8).bind fun r9 =>
    some (IntKind.i64.wrap (i1 + r9))
def mb (self : aj → Option Int) (a0 : aj) : Option Int :=
  (cW (qc a0 self) (bx 0 (a0.Kids.length : Int)) 1).bind fun z10 =>
    some z10
def jf : Nat → aj → Option Int
  | 0 => fun _ => none
  | k + 1 => mb (jf k)
def qe (a0 : aj) : Option Int := jf cX a0
def qf (a0 : aj) (self : aj → Option Int) (i2 : Int) : Int → Option Int
  | i1 =>
  (bd a0.Kids i2).bind fun x8 =>
    (self x8).bind fun r9 =>
    some (fM i1 r9)
def mc (self : aj → Option Int) (a0 : aj) : Option Int :=
  (cW (qf a0 self) (bx 0 (a0.Kids.length : Int)) 0).bind fun z10 =>
    some (IntKind.i64.wrap (z10 + 1))
def jg : Nat → aj → Option Int
  | 0 => fun _ => none
  | k + 1 => mc (jg k)
def qg (a0 : aj) : Option Int := jg cX a0
def qh (a0 : api_Topo) (a1 : (List api_Want)) (i5 : Int) : ((List aj) × (List aj)) → Option (Br ((List aj) × (List aj)) (aj × Int))
  | (l3, l4) =>
  (((bd a1 i5).bind fun x11 =>
    (kN a0 x11).bind fun r12 =>
    (if (r12 != 0) then some (Sum.inr (Br.ret ((aj.mk 0 0 0 []), r12))) else (if x11.Ban then (l9 x11 []).bind fun r15 =>
    (c6 l4 ([(aj.mk 6 0 0 r15)] : List aj)).bind fun l16 =>
    some (.inl (l3, l16)) else (nK a0 x11).bind fun r17 =>
    (c6 l3 r17).bind fun l18 =>
    some (.inl (l18, l4)))) : Option (((List aj) × (List aj)) ⊕ (Br ((List aj) × (List aj)) (aj × Int))))).bind fun q21 => match q21 with
    | .inr r => some r
    | .inl (l19, l20) =>
    some (.next (l19, l20))
def kP (a0 : api_Topo) (a1 : (List api_Want)) : Option (aj × Int) :=
  (nz a0).bind fun r1 =>
    (if (r1 != 0) then some ((aj.mk 0 0 0 []), r1) else (bS (qh a0 a1) (bx 0 (a1.length : Int)) (([] : List aj), ([] : List aj))).bind fun q35 => match q35 with
    | .ret r => some r
    | .done (z22, z23) =>
    (ma z22).bind fun r24 =>
    ((if decide ((z23.length : Int) > 0) then (ma z23).bind fun r26 =>
    some (aj.mk 6 0 0 ([(aj.mk 4 0 0 ([r26] : List aj)), r24] : List aj)) else some r24)).bind fun y27 =>
    (qe y27).bind fun r29 =>
    ((if decide (r29 > 300) then some true else (qg y27).bind fun r31 =>
    some (decide (r31 > 20)))).bind fun y32 =>
    (if y32 then some ((aj.mk 0 0 0 []), 2) else some (y27, 0)))
def t7 (a0 : Int) : Option Bool :=
  some ((decide (a0 ≥ 0)) && (decide (a0 < 8)))
def t8 (a0 : api_Pair) (a1 : (A8 Int)) : Option Bool :=
  (t7 a0.F).bind fun r1 =>
    ((if (!r1) then some true else (a1.get a0.F).bind fun x3 =>
    some (x3 != a0.N))).bind fun y4 =>
    some y4
def zf (a0 : (List api_Pair)) (a1 : (api_Pair → Option Bool)) (i1 : Int) : Unit → Option (Br Unit Int)
  | () =>
  (bd a0 i1).bind fun x7 =>
    (a1 x7).bind fun x8 =>
    (if x8 then some (Br.ret i1) else some (.next ()))
def ua (a0 : (List api_Pair)) (a1 : api_Pair → Option Bool) : Option Int :=
  (bS (zf a0 a1) (bx 0 (a0.length : Int)) ()).bind fun q10 => match q10 with
    | .ret r => some r
    | .done () =>
    some (-1)
def ub (a0 : (List api_Pair)) (a1 : api_Pair → Option Bool) : Option Bool :=
  (ua a0 a1).bind fun r1 =>
    some (decide (r1 ≥ 0))
def uc (a0 : (A8 Int)) (a1 : (List api_Pair)) : Option Bool :=
  (ub a1 (fun y0 => t8 y0 a0)).bind fun r1 =>
    some (!r1)
def ud (a0 : api_Want) (a1 : Int) (a2 : (A8 Int)) : Option Bool :=
  ((if (a0.From == a1) then (if ((IntKind.i64.wrap ((IntKind.i64.wrap a2.a2) - 1)) == a0.From) then (if ((IntKind.i64.wrap ((IntKind.i64.wrap a2.a3) - 1)) == a0.To) then (uc a2 a0.Match).bind fun r4 =>
    some r4 else some false) else some false) else some false)).bind fun y5 =>
    some y5
def zg (a1 : (List api_Want)) (a2 : Int) (a3 : (A8 Int)) (i3 : Int) : (Int × Bool) → Option (Br (Int × Bool) (Int × Bool))
  | (i1, y2) =>
  (((bd a1 i3).bind fun x9 =>
    (ud x9 a2 a3).bind fun r10 =>
    (if (!r10) then some (.inl (i1, y2)) else (if x9.Ban then some (Sum.inr (Br.ret (0, false))) else some (.inl (x9.To, true)))) : Option ((Int × Bool) ⊕ (Br (Int × Bool) (Int × Bool))))).bind fun q15 => match q15 with
    | .inr r => some r
    | .inl (y13, y14) =>
    some (.next (y13, y14))
def ue (a0 : api_Topo) (a1 : (List api_Want)) (a2 : Int) (a3 : (A8 Int)) : Option (Int × Bool) :=
  (bS (zg a1 a2 a3) (bx 0 (a1.length : Int)) (0, false)).bind fun q18 => match q18 with
    | .ret r => some r
    | .done (z16, z17) =>
    some (z16, z17)
def qi  : Option Bool :=
  (kP (api_Topo.mk ([1] : List Int) [] ([(api_Port.mk 1 1), (api_Port.mk 1 2)] : List api_Port)) ([(api_Want.mk 0 1 [] false)] : List api_Want)).bind fun r1 =>
    (ue (api_Topo.mk ([1] : List Int) [] ([(api_Port.mk 1 1), (api_Port.mk 1 2)] : List api_Port)) ([(api_Want.mk 0 1 [] false)] : List api_Want) 0 (A8.mk 0 0 1 2 0 0 0 0)).bind fun r2 =>
    ((if (r1.2 == 0) then (if (r1.1.Op == 6) then (if ((r1.1.Kids.length : Int) == 4) then (bd r1.1.Kids 3).bind fun x6 =>
    (if (x6.N == 2) then (if r2.2 then some (r2.1 == 1) else some false) else some false) else some false) else some false) else some false)).bind fun y9 =>
    some y9
def qj (a0 : (List api_Want)) (i2 : Int) : Unit → Option (Br Unit Bool)
  | () =>
  (bd a0 i2).bind fun x8 =>
    (if decide ((x8.Match.length : Int) > 8) then some (Br.ret false) else some (.next ()))
def nL (a0 : (List api_Want)) : Option Bool :=
  (if decide ((a0.length : Int) > 30) then some false else (bS (qj a0) (bx 0 (a0.length : Int)) ()).bind fun q10 => match q10 with
    | .ret r => some r
    | .done () =>
    some true)
def zh (a0 : aj) (self : aj → Option Int) (i2 : Int) : Int → Option Int
  | i1 =>
  (bd a0.Kids i2).bind fun x8 =>
    (self x8).bind fun r9 =>
    some (IntKind.i64.wrap (i1 + r9))
def qk (self : aj → Option Int) (a0 : aj) : Option Int :=
  (cW (zh a0 self) (bx 0 (a0.Kids.length : Int)) 1).bind fun z10 =>
    some z10
def md : Nat → aj → Option Int
  | 0 => fun _ => none
  | k + 1 => qk (md k)
def nM (a0 : aj) : Option Int := md cX a0
def zj (a0 : aj) (self : aj → Option Int) (i2 : Int) : Int → Option Int
  | i1 =>
  (bd a0.Kids i2).bind fun x8 =>
    (self x8).bind fun r9 =>
    some (fM i1 r9)
def ql (self : aj → Option Int) (a0 : aj) : Option Int :=
  (cW (zj a0 self) (bx 0 (a0.Kids.length : Int)) 0).bind fun z10 =>
    some (IntKind.i64.wrap (z10 + 1))
def mf : Nat → aj → Option Int
  | 0 => fun _ => none
  | k + 1 => ql (mf k)
def nN (a0 : aj) : Option Int := mf cX a0
def qm (a0 : aj) (self : aj → Option Bool) (i6 : Int) : Unit → Option (Br Unit (Unit ⊕ Bool))
  | () =>
  (bd a0.Kids i6).bind fun x12 =>
    (self x12).bind fun r13 =>
    (if (!r13) then some (Br.ret (Sum.inr false)) else some (.next ()))
def nP (self : aj → Option Bool) (a0 : aj) : Option Bool :=
  (if ((a0.Op == 5) || ((decide (a0.Op < 0)) || (decide (a0.Op > 7)))) then some false else ((if ((a0.Op == 6) || (a0.Op == 7)) then (bS (qm a0 self) (bx 0 (a0.Kids.length : Int)) ()).bind fun q15 => match q15 with
    | .ret r => some r
    | .done () =>
    some (.inl ()) else some (.inl ()))).bind fun q16 => match q16 with
    | .inr r => some r
    | .inl () =>
    some true)
def kQ : Nat → aj → Option Bool
  | 0 => fun _ => none
  | k + 1 => nP (kQ k)
def qo (a0 : aj) : Option Bool := kQ cX a0
def qp (a0 : aj) (a1 : Int) (self : aj → Int → Option Bool) (i33 : Int) : Unit → Option (Br Unit Bool)
  | () =>
  (bd a0.Kids i33).bind fun x39 =>
    (self x39 a1).bind fun r40 =>
    (if (!r40) then some (Br.ret false) else some (.next ()))
def nQ (self : aj → Int → Option Bool) (a0 : aj) (a1 : Int) : Option Bool :=
  ((if (a0.Op == 0) then some (a0.Op == 0) else some (a0.Op == 1))).bind fun y2 =>
    (if y2 then some (((a0.Kids.length : Int) == 0) && ((a0.F == 0) && (a0.N == 0))) else (if (a0.Op == 2) then some (((a0.Kids.length : Int) == 0) && ((decide (a0.F ≥ 0)) && (decide (a0.F < 8)))) else (if (a0.Op == 3) then some (((a0.Kids.length : Int) == 0) && ((decide (a0.F ≥ 0)) && (decide (a0.F < a1)))) else (if (a0.Op == 5) then some (((a0.Kids.length : Int) == 0) && ((decide (a0.F ≥ 1)) && (decide (a0.F < 8)))) else (if (a0.Op == 4) then ((if ((a0.Kids.length : Int) == 1) then (if (a0.F == 0) then (if (a0.N == 0) then (bd a0.Kids 0).bind fun x20 =>
    (qo x20).bind fun r21 =>
    (if r21 then (self x20 a1).bind fun r23 =>
    some r23 else some false) else some false) else some false) else some false)).bind fun y24 =>
    some y24 else ((if (a0.Op == 6) then some (a0.Op == 6) else some (a0.Op == 7))).bind fun y27 =>
    (if y27 then (if ((decide ((a0.Kids.length : Int) < 2)) || ((a0.F != 0) || (a0.N != 0))) then some false else (bS (qp a0 a1 self) (bx 0 (a0.Kids.length : Int)) ()).bind fun q42 => match q42 with
    | .ret r => some r
    | .done () =>
    some true) else some false))))))
def kR : Nat → aj → Int → Option Bool
  | 0 => fun _ _ => none
  | k + 1 => nQ (kR k)
def qr (a0 : aj) (a1 : Int) : Option Bool := kR cX a0 a1
def zk (a0 : (List api_Pair)) (a1 : Int) (i1 : Int) : Unit → Option (Br Unit Bool)
  | () =>
  (bd a0 i1).bind fun x7 =>
    ((if decide (x7.F < 0) then some true else (if decide (x7.F ≥ a1) then some true else (if decide (i1 > 0) then (bd a0 (IntKind.i64.wrap (i1 - 1))).bind fun x11 =>
    some (decide (x11.F ≥ x7.F)) else some false)))).bind fun y12 =>
    (if y12 then some (Br.ret false) else some (.next ()))
def nS (a0 : (List api_Pair)) (a1 : Int) : Option Bool :=
  (bS (zk a0 a1) (bx 0 (a0.length : Int)) ()).bind fun q15 => match q15 with
    | .ret r => some r
    | .done () =>
    some true
def zl (a0 : jU) (i12 : Int) : Unit → Option (Br Unit Int)
  | () =>
  (bd a0.Rules i12).bind fun x18 =>
    ((if decide ((x18.When.length : Int) < 2) then some true else (bd x18.When 0).bind fun x20 =>
    (if (x20.F != 0) then some true else (bd x18.When 1).bind fun x22 =>
    (if (x22.F != 1) then some true else (nS x18.When 8).bind fun r24 =>
    (if (!r24) then some true else (nS x18.Guard (a0.Init.length : Int)).bind fun r26 =>
    (if (!r26) then some true else (nS x18.Then (a0.Init.length : Int)).bind fun r28 =>
    (if (!r28) then some true else some ((x18.Then.length : Int) == 0)))))))).bind fun y30 =>
    (if y30 then some (Br.ret 11) else some (.next ()))
def nU (a0 : jU) : Option Int :=
  ((if decide ((a0.Init.length : Int) < 1) then some true else (if decide ((a0.Init.length : Int) > 4) then some true else (nM a0.Pol).bind fun r3 =>
    (if decide (r3 > 300) then some true else (nN a0.Pol).bind fun r5 =>
    (if decide (r5 > 20) then some true else some (decide ((a0.Rules.length : Int) > 24))))))).bind fun y7 =>
    (if y7 then some 2 else (qr a0.Pol (a0.Init.length : Int)).bind fun r10 =>
    (if (!r10) then some 11 else (bS (zl a0) (bx 0 (a0.Rules.length : Int)) ()).bind fun q33 => match q33 with
    | .ret r => some r
    | .done () =>
    some 0))
def nV (a0 : aj) : Option Bool :=
  (eX 4 0).bind fun l1 =>
    (nU (jU.mk l1 a0 [])).bind fun r2 =>
    some (r2 == 0)
def nW (a0 : (A8 Int)) (a1 : Int) (a2 : Int) : Option (A8 Int) :=
  ((if ((decide (a1 ≥ 0)) && (decide (a1 < 8))) then (a0.get a1).bind fun x3 =>
    (a0.put a1 a2).bind fun x4 =>
    some x4 else some a0)).bind fun y5 =>
    some y5
def qt (a0 : (A8 Int)) (a1 : (A8 Int)) (i1 : Int) : Unit → Option (Br Unit Int)
  | () =>
  (a0.get i1).bind fun x7 =>
    (a1.get i1).bind fun x8 =>
    (if decide (x7 < x8) then some (Br.ret (-1)) else (if decide (x7 > x8) then some (Br.ret 1) else some (.next ())))
def nX (a0 : (A8 Int)) (a1 : (A8 Int)) : Option Int :=
  (bS (qt a0 a1) (bx 0 8) ()).bind fun q11 => match q11 with
    | .ret r => some r
    | .done () =>
    some 0
def nY (a0 : (List (A8 Int))) (a1 : (A8 Int)) (i3 : Int) : ((List (A8 Int)) × Bool) → Option ((List (A8 Int)) × Bool)
  | (l1, y2) =>
  ((bd a0 i3).bind fun x9 =>
    (nX a1 x9).bind fun r10 =>
    ((if ((!y2) && (decide (r10 ≤ 0))) then (c6 l1 ([a1] : List (A8 Int))).bind fun l13 =>
    some (l13, true) else some (l1, y2))).bind fun (l14, y15) =>
    (if (r10 != 0) then (c6 l14 ([x9] : List (A8 Int))).bind fun l18 =>
    some (l18, y15) else some (l14, y15))).bind fun (l19, y20) =>
    some (l19, y20)
def nZ (a0 : (List (A8 Int))) (a1 : (A8 Int)) : Option (List (A8 Int)) :=
  (cW (nY a0 a1) (bx 0 (a0.length : Int)) (([] : List (A8 Int)), false)).bind fun (z22, z23) =>
    ((if (!z23) then (c6 z22 ([a1] : List (A8 Int))).bind fun l25 =>
    some l25 else some z22)).bind fun l26 =>
    some l26
def qu (a1 : (List (A8 Int))) (i2 : Int) : (List (A8 Int)) → Option (List (A8 Int))
  | y1 =>
  (bd a1 i2).bind fun x8 =>
    (nZ y1 x8).bind fun r9 =>
    some r9
def kS (a0 : (List (A8 Int))) (a1 : (List (A8 Int))) : Option (List (A8 Int)) :=
  (cW (qu a1) (bx 0 (a1.length : Int)) a0).bind fun z10 =>
    some z10
def n5 (a0 : aj) (a1 : (List Int)) (y21 : (List (A8 Int))) (i22 : Int) (self : aj → (List Int) → (A8 Int) → Option ((List (A8 Int)) × Bool)) (i29 : Int) : (List (A8 Int)) → Option (Br (List (A8 Int)) (Br (List (A8 Int)) ((List (A8 Int)) × Bool)))
  | y28 =>
  (bd a0.Kids i22).bind fun x35 =>
    (bd y21 i29).bind fun x36 =>
    (self x35 a1 x36).bind fun r37 =>
    (if (!r37.2) then some (Br.ret (Br.ret (([] : List (A8 Int)), false))) else (kS y28 r37.1).bind fun r39 =>
    some (.next r39))
def qv (a0 : aj) (a1 : (List Int)) (self : aj → (List Int) → (A8 Int) → Option ((List (A8 Int)) × Bool)) (i22 : Int) : (List (A8 Int)) → Option (Br (List (A8 Int)) ((List (A8 Int)) × Bool))
  | y21 =>
  (bS (n5 a0 a1 y21 i22 self) (bx 0 (y21.length : Int)) ([] : List (A8 Int))).bind fun q42 => match q42 with
    | .ret r => some r
    | .done z40 =>
    (if decide ((z40.length : Int) > 64) then some (Br.ret (([] : List (A8 Int)), false)) else some (.next z40))
def qw (a0 : aj) (a1 : (List Int)) (a2 : (A8 Int)) (self : aj → (List Int) → (A8 Int) → Option ((List (A8 Int)) × Bool)) (i46 : Int) : (List (A8 Int)) → Option (Br (List (A8 Int)) ((List (A8 Int)) × Bool))
  | y45 =>
  (bd a0.Kids i46).bind fun x52 =>
    (self x52 a1 a2).bind fun r53 =>
    (if (!r53.2) then some (Br.ret (([] : List (A8 Int)), false)) else (kS y45 r53.1).bind fun r55 =>
    (if decide ((r55.length : Int) > 64) then some (Br.ret (([] : List (A8 Int)), false)) else some (.next r55)))
def n6 (self : aj → (List Int) → (A8 Int) → Option ((List (A8 Int)) × Bool)) (a0 : aj) (a1 : (List Int)) (a2 : (A8 Int)) : Option ((List (A8 Int)) × Bool) :=
  (if (a0.Op == 0) then some (([] : List (A8 Int)), true) else (if (a0.Op == 1) then some (([a2] : List (A8 Int)), true) else (if (a0.Op == 2) then (a2.get a0.F).bind fun x4 =>
    (if (x4 == a0.N) then some (([a2] : List (A8 Int)), true) else some (([] : List (A8 Int)), true)) else (if (a0.Op == 3) then ((if decide (a0.F < (a1.length : Int)) then (bd a1 a0.F).bind fun x8 =>
    some (x8 == a0.N) else some false)).bind fun y9 =>
    (if y9 then some (([a2] : List (A8 Int)), true) else some (([] : List (A8 Int)), true)) else (if (a0.Op == 4) then (bd a0.Kids 0).bind fun x13 =>
    (self x13 a1 a2).bind fun r14 =>
    ((if decide ((r14.1.length : Int) > 0) then some ([] : List (A8 Int)) else some ([a2] : List (A8 Int)))).bind fun y16 =>
    some (y16, r14.2) else (if (a0.Op == 5) then (nW a2 a0.F a0.N).bind fun r19 =>
    some (([r19] : List (A8 Int)), true) else (if (a0.Op == 6) then (bS (qv a0 a1 self) (bx 0 (a0.Kids.length : Int)) ([a2] : List (A8 Int))).bind fun q44 => match q44 with
    | .ret r => some r
    | .done z43 =>
    some (z43, true) else (bS (qw a0 a1 a2 self) (bx 0 (a0.Kids.length : Int)) ([] : List (A8 Int))).bind fun q58 => match q58 with
    | .ret r => some r
    | .done z57 =>
    some (z57, true))))))))
def gP : Nat → aj → (List Int) → (A8 Int) → Option ((List (A8 Int)) × Bool)
  | 0 => fun _ _ _ => none
  | k + 1 => n6 (gP k)
def qx (a0 : aj) (a1 : (List Int)) (a2 : (A8 Int)) : Option ((List (A8 Int)) × Bool) := gP cX a0 a1 a2
def fi (a0 : aj) (a1 : (List Int)) (a2 : (A8 Int)) : Option ((List (A8 Int)) × Int) :=
  (nV a0).bind fun r1 =>
    (if (!r1) then some (([] : List (A8 Int)), 11) else (qx a0 a1 a2).bind fun r3 =>
    (if (!r3.2) then some (([] : List (A8 Int)), 24) else some (r3.1, 0)))
def n7 (a0 : api_Topo) (a1 : api_Port) (i1 : Int) : Unit → Option (Br Unit (api_Port × Bool))
  | () =>
  (bd a0.Links i1).bind fun x7 =>
    (if (x7.a0 == a1) then some (Br.ret (x7.a1, true)) else (if (x7.a1 == a1) then some (Br.ret (x7.a0, true)) else some (.next ())))
def gQ (a0 : api_Topo) (a1 : api_Port) : Option (api_Port × Bool) :=
  (bS (n7 a0 a1) (bx 0 (a0.Links.length : Int)) ()).bind fun q10 => match q10 with
    | .ret r => some r
    | .done () =>
    some ((api_Port.mk 0 0), false)
def qy (a0 : api_Topo) (a1 : api_Port) (i1 : Int) : Unit → Option (Br Unit Bool)
  | () =>
  (bd a0.Hosts i1).bind fun x7 =>
    (if (x7 == a1) then some (Br.ret true) else some (.next ()))
def jZ (a0 : api_Topo) (a1 : api_Port) : Option Bool :=
  (bS (qy a0 a1) (bx 0 (a0.Hosts.length : Int)) ()).bind fun q9 => match q9 with
    | .ret r => some r
    | .done () =>
    some false
def io (a0 : api_Topo) (a1 : (A8 Int)) : Option ((A8 Int) × Int) :=
  (gQ a0 (api_Port.mk a1.a0 a1.a1)).bind fun r1 =>
    (if r1.2 then some ((A8.mk r1.1.Sw r1.1.Pt a1.a2 a1.a3 a1.a4 a1.a5 a1.a6 a1.a7), 0) else (jZ a0 (api_Port.mk a1.a0 a1.a1)).bind fun r3 =>
    (if r3 then some (a1, 1) else some (a1, 2)))
def uf (a3 : (A8 Int)) (x11 : (A8 Int)) (r16 : ((List (List (A8 Int))) × Int)) (i19 : Int) : (List (List (A8 Int))) → Option (List (List (A8 Int)))
  | l18 =>
  (bd r16.1 i19).bind fun x25 =>
    (c6 ([a3, x11] : List (A8 Int)) x25).bind fun l26 =>
    (c6 l18 ([l26] : List (List (A8 Int)))).bind fun l27 =>
    some l27
def n8 (a0 : api_Topo) (a1 : aj) (a2 : (List Int)) (a3 : (A8 Int)) (a4 : Int) (r1 : ((List (A8 Int)) × Int)) (self : api_Topo → aj → (List Int) → (A8 Int) → Int → Option ((List (List (A8 Int))) × Int)) (i5 : Int) : (List (List (A8 Int))) → Option (Br (List (List (A8 Int))) ((List (List (A8 Int))) × Int))
  | l4 =>
  (bd r1.1 i5).bind fun x11 =>
    (io a0 x11).bind fun r12 =>
    (((if ((r12.2 != 0) || (a4 == 1)) then (c6 l4 ([([a3, x11] : List (A8 Int))] : List (List (A8 Int)))).bind fun l15 =>
    some (.inl l15) else (self a0 a1 a2 r12.1 (IntKind.i64.wrap (a4 - 1))).bind fun r16 =>
    (if (r16.2 != 0) then some (Sum.inr (Br.ret (([] : List (List (A8 Int))), r16.2))) else (cW (uf a3 x11 r16) (bx 0 (r16.1.length : Int)) l4).bind fun z28 =>
    some (.inl z28))) : Option ((List (List (A8 Int))) ⊕ (Br (List (List (A8 Int))) ((List (List (A8 Int))) × Int))))).bind fun q31 => match q31 with
    | .inr r => some r
    | .inl l30 =>
    (if decide ((l30.length : Int) > 200) then some (Br.ret (([] : List (List (A8 Int))), 24)) else some (.next l30))
def gR (self : api_Topo → aj → (List Int) → (A8 Int) → Int → Option ((List (List (A8 Int))) × Int)) (a0 : api_Topo) (a1 : aj) (a2 : (List Int)) (a3 : (A8 Int)) (a4 : Int) : Option ((List (List (A8 Int))) × Int) :=
  (fi a1 a2 a3).bind fun r1 =>
    (if (r1.2 != 0) then some (([] : List (List (A8 Int))), r1.2) else (if ((r1.1.length : Int) == 0) then some (([([a3] : List (A8 Int))] : List (List (A8 Int))), 0) else (bS (n8 a0 a1 a2 a3 a4 r1 self) (bx 0 (r1.1.length : Int)) ([] : List (List (A8 Int)))).bind fun q34 => match q34 with
    | .ret r => some r
    | .done z33 =>
    some (z33, 0)))
def gE : Nat → api_Topo → aj → (List Int) → (A8 Int) → Int → Option ((List (List (A8 Int))) × Int)
  | 0 => fun _ _ _ _ _ => none
  | k + 1 => gR (gE k)
def ip (a0 : api_Topo) (a1 : aj) (a2 : (List Int)) (a3 : (A8 Int)) (a4 : Int) : Option ((List (List (A8 Int))) × Int) := gE cX a0 a1 a2 a3 a4
def qz (a0 : (List (A8 Int))) (a1 : (List (A8 Int))) (i2 : Int) : Unit → Option (Br Unit Bool)
  | () =>
  (bd a0 i2).bind fun x8 =>
    (bd a1 i2).bind fun x9 =>
    (if (!(x8 == x9)) then some (Br.ret false) else some (.next ()))
def n9 (a0 : (List (A8 Int))) (a1 : (List (A8 Int))) : Option Bool :=
  (if ((a0.length : Int) != (a1.length : Int)) then some false else (bS (qz a0 a1) (bx 0 (a0.length : Int)) ()).bind fun q11 => match q11 with
    | .ret r => some r
    | .done () =>
    some true)
def ug (a0 : (List (List (A8 Int)))) (a1 : (List (List (A8 Int)))) (i2 : Int) : Unit → Option (Br Unit Bool)
  | () =>
  (bd a0 i2).bind fun x8 =>
    (bd a1 i2).bind fun x9 =>
    (n9 x8 x9).bind fun r10 =>
    (if (!r10) then some (Br.ret false) else some (.next ()))
def oa (a0 : (List (List (A8 Int)))) (a1 : (List (List (A8 Int)))) : Option Bool :=
  (if ((a0.length : Int) != (a1.length : Int)) then some false else (bS (ug a0 a1) (bx 0 (a0.length : Int)) ()).bind fun q12 => match q12 with
    | .ret r => some r
    | .done () =>
    some true)
def ob (a0 : api_Topo) (q9 : Int) (q10 : Int) (r11 : (aj × Int)) (r14 : (aj × Int)) (i17 : Int) (i23 : Int) : Unit → Option (Br Unit (Br Unit Bool))
  | () =>
  (((bd a0.Hosts i17).bind fun x29 =>
    (ip a0 r11.1 [] (A8.mk x29.Sw x29.Pt (IntKind.u16.wrap (i17 + 1)) (IntKind.u16.wrap (i23 + 1)) 0 0 0 0) 12).bind fun r30 =>
    (ip a0 r14.1 [] (A8.mk x29.Sw x29.Pt (IntKind.u16.wrap (i17 + 1)) (IntKind.u16.wrap (i23 + 1)) 0 0 0 0) 12).bind fun r31 =>
    (if ((r30.2 != 0) || (r31.2 != 0)) then some (Sum.inr (Br.ret (Br.ret false))) else (if ((i17 == q9) && (i23 == q10)) then ((if ((r31.1.length : Int) != 1) then some true else (bd r31.1 0).bind fun x37 =>
    some ((x37.length : Int) != 1))).bind fun y38 =>
    (if y38 then some (Sum.inr (Br.ret (Br.ret false))) else some (.inl ())) else (oa r30.1 r31.1).bind fun r41 =>
    (if (!r41) then some (Sum.inr (Br.ret (Br.ret false))) else some (.inl ())))) : Option (Unit ⊕ (Br Unit (Br Unit Bool))))).bind fun q43 => match q43 with
    | .inr r => some r
    | .inl () =>
    some (.next ())
def mg (a0 : api_Topo) (q9 : Int) (q10 : Int) (r11 : (aj × Int)) (r14 : (aj × Int)) (i17 : Int) : Unit → Option (Br Unit Bool)
  | () =>
  (bS (ob a0 q9 q10 r11 r14 i17) (bx 0 (a0.Hosts.length : Int)) ()).bind fun q44 => match q44 with
    | .ret r => some r
    | .done () =>
    some (.next ())
def law30_RouteBans (a0 : api_Topo) (a1 : (List api_Want)) (a2 : (A2 Int)) : Option Bool :=
  (qi).bind fun r1 =>
    (if (!r1) then some false else ((if decide ((a0.Hosts.length : Int) < 2) then some true else (if decide ((a0.Hosts.length : Int) > 12) then some true else (nL a1).bind fun r5 =>
    some (!r5)))).bind fun y6 =>
    (if y6 then some true else (kH (IntKind.i64.wrap a2.a0) (a0.Hosts.length : Int)).bind fun q9 =>
    (kH (IntKind.i64.wrap a2.a1) (a0.Hosts.length : Int)).bind fun q10 =>
    (kP a0 a1).bind fun r11 =>
    (c6 ([] : List api_Want) a1).bind fun l12 =>
    (c6 l12 ([(api_Want.mk q9 q10 [] true)] : List api_Want)).bind fun l13 =>
    (kP a0 l13).bind fun r14 =>
    (if ((r11.2 != 0) || (r14.2 != 0)) then some true else (bS (mg a0 q9 q10 r11 r14) (bx 0 (a0.Hosts.length : Int)) ()).bind fun q45 => match q45 with
    | .ret r => some r
    | .done () =>
    some true)))
def uh (a0 : api_Topo) (a1 : Int) (i1 : Int) : Unit → Option (Br Unit Int)
  | () =>
  (bd a0.Switches i1).bind fun x7 =>
    (if (x7 == a1) then some (Br.ret i1) else some (.next ()))
def oc (a0 : api_Topo) (a1 : Int) : Option Int :=
  (bS (uh a0 a1) (bx 0 (a0.Switches.length : Int)) ()).bind fun q9 => match q9 with
    | .ret r => some r
    | .done () =>
    some (-1)
def qA (a0 : api_Topo) (a1 : Int) : Option (Int × Int) :=
  (bd a0.Links a1).bind fun x1 =>
    (oc a0 x1.a0.Sw).bind fun r2 =>
    (oc a0 x1.a1.Sw).bind fun r3 =>
    some (r2, r3)
def ui (a0 : api_Topo) (a1 : Int) (a2 : Int) (a3 : Int) (i1 : Int) : Unit → Option (Br Unit Bool)
  | () =>
  (qA a0 i1).bind fun r7 =>
    (if ((i1 != a3) && ((a1 != a2) && (if (r7.1 == a1) then ((r7.2 == a2) || ((r7.1 == a2) && (r7.2 == a1))) else ((r7.1 == a2) && (r7.2 == a1))))) then some (Br.ret true) else some (.next ()))
def od (a0 : api_Topo) (a1 : Int) (a2 : Int) (a3 : Int) : Option Bool :=
  (bS (ui a0 a1 a2 a3) (bx 0 (a0.Links.length : Int)) ()).bind fun q15 => match q15 with
    | .ret r => some r
    | .done () =>
    some false
def qB (i7 : Int) : (List Int) → Option (List Int)
  | l6 =>
  (bd l6 i7).bind fun x13 =>
    (dc l6 i7 (-1)).bind fun l14 =>
    some l14
def oe (a0 : api_Topo) (a3 : Int) (i19 : Int) (i26 : Int) (i33 : Int) : (List Int) → Option (List Int)
  | l32 =>
  ((bd l32 i26).bind fun x39 =>
    ((if (x39 == i19) then (bd l32 i33).bind fun x41 =>
    (if decide (x41 < 0) then (od a0 i26 i33 a3).bind fun r43 =>
    some r43 else some false) else some false)).bind fun y44 =>
    (if y44 then (bd l32 i33).bind fun x47 =>
    (dc l32 i33 (i19 + 1)).bind fun l48 =>
    some l48 else some l32)).bind fun l49 =>
    some l49
def qC (a0 : api_Topo) (a3 : Int) (i19 : Int) (i26 : Int) : (List Int) → Option (List Int)
  | l25 =>
  (cW (oe a0 a3 i19 i26) (bx 0 (a0.Switches.length : Int)) l25).bind fun z51 =>
    some z51
def og (a0 : api_Topo) (a3 : Int) (i19 : Int) : (List Int) → Option (List Int)
  | l18 =>
  (cW (qC a0 a3 i19) (bx 0 (a0.Switches.length : Int)) l18).bind fun z53 =>
    some z53
def mh (a0 : api_Topo) (a1 : Int) (a2 : Int) (a3 : Int) : Option Int :=
  (if ((decide (a1 < 0)) || ((decide (a1 ≥ (a0.Switches.length : Int))) || ((decide (a2 < 0)) || (decide (a2 ≥ (a0.Switches.length : Int)))))) then some (-1) else (eX (a0.Switches.length : Int) 0).bind fun l5 =>
    (cW qB (bx 0 (a0.Switches.length : Int)) l5).bind fun z15 =>
    (bd z15 a1).bind fun x16 =>
    (dc z15 a1 0).bind fun l17 =>
    (cW (og a0 a3) (bx 0 (a0.Switches.length : Int)) l17).bind fun z55 =>
    (bd z55 a2).bind fun x56 =>
    some x56)
def oh (a0 : api_Topo) (a2 : Int) (i3 : Int) (i10 : Int) : ((List Int) × Int) → Option (((List Int) × Int) ⊕ ((List Int) × Int))
  | (l8, i9) =>
  (od a0 i9 i10 (-1)).bind fun r16 =>
    ((if r16 then (mh a0 i10 a2 (-1)).bind fun r18 =>
    some (r18 == (IntKind.i64.wrap (i3 - 1))) else some false)).bind fun y19 =>
    (if y19 then (c6 l8 ([i10] : List Int)).bind fun l22 =>
    some (.inr (l22, i10)) else some (.inl (l8, i9)))
def mj (a0 : api_Topo) (a2 : Int) : (Int × (List Int) × Int) → Option ((Int × (List Int) × Int) ⊕ (Int × (List Int) × Int))
  | (i3, l4, i5) =>
  (if (i5 != a2) then (lM (oh a0 a2 i3) (bx 0 (a0.Switches.length : Int)) (l4, i5)).bind fun (z23, z24) =>
    some (.inl (IntKind.i64.wrap (i3 - 1), z23, z24)) else some (.inr (i3, l4, i5)))
def qD (a0 : api_Topo) (a1 : Int) (a2 : Int) : Option ((List Int) × Bool) :=
  (mh a0 a1 a2 (-1)).bind fun r1 =>
    (if decide (r1 < 0) then some (([] : List Int), false) else (ig (mj a0 a2) cX (r1, ([a1] : List Int), a1)).bind fun (z26, z27, z28) =>
    some (z27, true))
end Go.AM
