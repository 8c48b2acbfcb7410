import Derived.Test.YtnnkfanmokeiaaaAmPv
import Derived.Test.YtnnkfanmokeiaaaAmN4
set_option linter.unusedVariables false
namespace Go.AM
open Go
structure ak where
  Op : Int
  F : Int
  N : Int
  Kids : (List ak)
  deriving Inhabited
structure api_Pair where
  F : Int
  N : Int
  deriving DecidableEq, Inhabited
structure api_Port where
  Sw : Int
  Pt : Int
  deriving DecidableEq, Inhabited
structure api_Topo where
  Switches : (List Int)
  Links : (List (A2 api_Port))
  Hosts : (List api_Port)
  deriving DecidableEq, Inhabited
structure api_Want where
  From : Int
  To : Int
  Match : (List api_Pair)
  Ban : Bool
  deriving DecidableEq, Inhabited
structure tT where
  When : (List api_Pair)
  Guard : (List api_Pair)
  Then : (List api_Pair)
  deriving DecidableEq, Inhabited
structure jR where
  Init : (List Int)
  Pol : ak
  Rules : (List tT)
  deriving Inhabited
structure yX where
  What : Int
  F : Int
  N : Int
  K : Int
  deriving DecidableEq, Inhabited
structure Eg where
  T : api_Topo
  L : (List yX)
  State : (List Int)
  deriving DecidableEq, Inhabited
structure Eh where
  t : api_Topo
  p : ak
  state : (List Int)
  found : (List (List (A8 Int)))
  deriving Inhabited
def lQ (a0 : List api_Port) : Option (List api_Port) :=
  (dc ([] : List api_Port) a0).bind fun l1 => some l1
def pV (a0 : api_Topo) (i5 : Int) : (List (Int × Bool)) → Option (List (Int × Bool))
  | m4 =>
  (aW a0.Switches i5).bind fun x11 =>
    some (dN m4 x11 true)
def pW (a0 : api_Topo) (i15 : Int) : (List api_Port) → Option (List api_Port)
  | l14 =>
  (aW a0.Links i15).bind fun x21 =>
    (dc l14 [x21.a0, x21.a1]).bind fun l22 =>
    some l22
def pX (z12 : (List (Int × Bool))) (z23 : (List api_Port)) (i25 : Int) : (List (api_Port × Bool)) → Option (Br (List (api_Port × Bool)) Int)
  | m24 =>
  (aW z23 i25).bind fun x31 =>
    (if (!((mget z12 x31.Sw).getD false)) then some (Br.ret 12) else some (.next (dN m24 x31 true)))
def nu (a0 : api_Topo) : Option Int :=
  (if ((decide ((a0.Switches.length : Int) > 12)) || ((decide ((a0.Links.length : Int) > 24)) || (decide ((a0.Hosts.length : Int) > 24)))) then some 2 else (cT (pV a0) (bu 0 (a0.Switches.length : Int)) ([] : List (Int × Bool))).bind fun z12 =>
    (lQ a0.Hosts).bind fun r13 =>
    (cT (pW a0) (bu 0 (a0.Links.length : Int)) r13).bind fun z23 =>
    (bV (pX z12 z23) (bu 0 (z23.length : Int)) ([] : List (api_Port × Bool))).bind fun q38 => match q38 with
    | .ret r => some r
    | .done z33 =>
    (iU z12).bind fun n34 =>
    (if decide (n34 < (a0.Switches.length : Int)) then some 12 else (iU z33).bind fun n36 =>
    (if decide (n36 < (z23.length : Int)) then some 11 else some 0)))
def nv (a0 : Int) (a1 : api_Topo) : Option Bool :=
  some ((decide (a0 ≥ 0)) && (decide (a0 < (a1.Hosts.length : Int))))
def tU (a0 : (List Int)) (a1 : Int) (i1 : Int) : Unit → Option (Br Unit Int)
  | () =>
  (aW a0 i1).bind fun x7 =>
    (if (a1 == x7) then some (Br.ret i1) else some (.next ()))
def nw (a0 : (List Int)) (a1 : Int) : Option Int :=
  (bV (tU a0 a1) (bu 0 (a0.length : Int)) ()).bind fun q9 => match q9 with
    | .ret r => some r
    | .done () =>
    some (-1)
def jS (a0 : api_Topo) (a1 : Int) : Option (Int × Bool) :=
  (nw a0.Switches a1).bind fun r1 =>
    some (fI r1 0, decide (r1 ≥ 0))
def ny (a0 : (List Int)) (i2 : Int) (i14 : Int) : ((List Int) × Int) → Option ((List Int) × Int)
  | (l12, i13) =>
  ((iC l12 i2 (a0.length : Int) i14).bind fun x20 =>
    (aW l12 (i2 + i14)).bind fun x21 =>
    (iC l12 i2 (a0.length : Int) (IntKind.i64.wrap (i14 - 1))).bind fun x22 =>
    (aW l12 (i2 + (IntKind.i64.wrap (i14 - 1)))).bind fun x23 =>
    (if (x21 != x23) then (aW l12 i13).bind fun x25 =>
    (c7 l12 i13 x21).bind fun l26 =>
    some (l26, IntKind.i64.wrap (i13 + 1)) else some (l12, i13))).bind fun (l27, y28) =>
    some (l27, y28)
def lR (a0 : (List Int)) (i2 : Int) : Unit → Option (Br Unit (List Int))
  | () =>
  (aW a0 i2).bind fun x8 =>
    (aW a0 (IntKind.i64.wrap (i2 - 1))).bind fun x9 =>
    (if (x8 == x9) then (dY a0 i2 (a0.length : Int)).bind fun l11 =>
    (cT (ny a0 i2) (bu 1 (l11.length : Int)) (a0, i2)).bind fun (z30, z31) =>
    (dY z30 z31 (z30.length : Int)).bind fun l32 =>
    some (Br.ret (z30.take z31.toNat)) else some (.next ()))
def lS (a0 : (List Int)) : Option (List Int) :=
  (if decide ((a0.length : Int) < 2) then some a0 else (bV (lR a0) (bu 1 (a0.length : Int)) ()).bind fun q34 => match q34 with
    | .ret r => some r
    | .done () =>
    some a0)
def jT (x : Int) : List Int → List Int
  | [] => [x]
  | y :: l => if x ≤ y then x :: y :: l else y :: jT x l
def cX : List Int → List Int
  | [] => []
  | x :: l => jT x (cX l)
def nz (a0 : api_Topo) (a1 : Int) (i2 : Int) : (List (List Int)) → Option (List (List Int))
  | g =>
  (aW a0.Links i2).bind fun x =>
    (jS a0 x.a0.Sw).bind fun r1 =>
    (jS a0 x.a1.Sw).bind fun r2 =>
    (if ((!r1.2) || ((!r2.2) || ((r1.1 == r2.1) || (i2 == a1)))) then some g else (aW g r1.1).bind fun la =>
    (dc la ([r2.1] : List Int)).bind fun la2 =>
    (aW g r2.1).bind fun lb =>
    (dc lb ([r1.1] : List Int)).bind fun lb2 =>
    (c7 g r1.1 la2).bind fun g2 => c7 g2 r2.1 lb2)
def pY (i2 : Int) : (List (List Int)) → Option (List (List Int))
  | g =>
  (aW g i2).bind fun l =>
    (if l.length ≤ 4294967296 then (lS (cX l)).bind fun r => c7 g i2 r else none)
def nA (a0 : api_Topo) (a1 : Int) : Option (List (List Int)) :=
  (eR (a0.Switches.length : Int) ([] : List Int)).bind fun g0 =>
    (cT (nz a0 a1) (bu 0 (a0.Links.length : Int)) g0).bind fun z1 =>
    (cT pY (bu 0 (z1.length : Int)) z1).bind fun z2 =>
    some z2
def iY (a0 : (List (List Int))) (a1 : Int) : Option Bool :=
  some ((decide (a1 ≥ 0)) && (decide (a1 < (a0.length : Int))))
def pZ (i : Int) : (List Int) → Option (List Int)
  | l6 =>
  (aW l6 i).bind fun x13 =>
    (c7 l6 i (-1)).bind fun l14 =>
    some l14
def p4 (l : List Int) (x : Int) (i : Int) : ((List Int) × (List Int)) → Option ((List Int) × (List Int))
  | (d, q) =>
  (aW l i).bind fun k =>
    (aW d k).bind fun dk =>
    (if decide (dk < 0) then (aW d x).bind fun dx =>
    (c7 d k (IntKind.i64.wrap (dx + 1))).bind fun d2 =>
    (dc q ([k] : List Int)).bind fun q2 =>
    some (d2, q2) else some (d, q))
def nB (a0 : (List (List Int))) : ((List Int) × (List Int)) → Option (((List Int) × (List Int)) ⊕ ((List Int) × (List Int)))
  | (d, q) =>
  (if decide ((q.length : Int) > 0) then (aW q 0).bind fun x =>
    (aW a0 x).bind fun l =>
    (cT (p4 l x) (bu 0 (l.length : Int)) (d, q)).bind fun (d2, q2) =>
    (dY q2 1 (q2.length : Int)).bind fun q3 =>
    some (.inl (d2, q3)) else some (.inr (d, q)))
def nC (a0 : (List (List Int))) (a1 : Int) : Option (List Int) :=
  (eR (a0.length : Int) (0 : Int)).bind fun l5 =>
    (cT pZ (bu 0 (l5.length : Int)) l5).bind fun z15 =>
    (iY a0 a1).bind fun r2 =>
    (if (!r2) then some z15 else (aW z15 a1).bind fun x16 =>
    (c7 z15 a1 0).bind fun l17 =>
    (hU (nB a0) cW (l17, ([a1] : List Int))).bind fun (z, zq) =>
    some z)
def nD (a0 : Int) (a1 : (List Int)) (a2 : Int) : Option Bool :=
  (aW a1 a0).bind fun x1 =>
    (aW a1 a2).bind fun x2 =>
    some (x1 == (IntKind.i64.wrap (x2 - 1)))
def tV (a0 : (List Int)) (a1 : (Int → Option Bool)) (i1 : Int) : Unit → Option (Br Unit Int)
  | () =>
  (aW a0 i1).bind fun x7 =>
    (a1 x7).bind fun x8 =>
    (if x8 then some (Br.ret i1) else some (.next ()))
def nE (a0 : (List Int)) (a1 : Int → Option Bool) : Option Int :=
  (bV (tV a0 a1) (bu 0 (a0.length : Int)) ()).bind fun q10 => match q10 with
    | .ret r => some r
    | .done () =>
    some (-1)
def lT (a2 : Int) (r1 : (List (List Int))) (r8 : (List Int)) : ((List Int) × Int) → Option (((List Int) × Int) ⊕ ((List Int) × Int))
  | (l11, i12) =>
  (if (i12 != a2) then (aW r1 i12).bind fun x15 =>
    (nE x15 (fun y0 => nD y0 r8 i12)).bind fun r16 =>
    (aW x15 r16).bind fun x17 =>
    (dc l11 ([x17] : List Int)).bind fun l18 =>
    some (.inl (l18, x17)) else some (.inr (l11, i12)))
def jU (a0 : api_Topo) (a1 : Int) (a2 : Int) : Option ((List Int) × Bool) :=
  (nA a0 (-1)).bind fun r1 =>
    (iY r1 a1).bind fun r2 =>
    ((if (!r2) then some true else (iY r1 a2).bind fun r4 =>
    some (!r4))).bind fun y5 =>
    (if y5 then some (([] : List Int), false) else (nC r1 a2).bind fun r8 =>
    (aW r8 a1).bind fun x9 =>
    (if decide (x9 < 0) then some (([] : List Int), false) else (hU (lT a2 r1 r8) cW (([a1] : List Int), a1)).bind fun (z19, z20) =>
    some (z19, true)))
def jV (a0 : api_Topo) (a1 : Int) (a2 : Int) : Option ((List Int) × Bool) :=
  (aW a0.Hosts a1).bind fun x1 =>
    (jS a0 x1.Sw).bind fun r2 =>
    (aW a0.Hosts a2).bind fun x3 =>
    (jS a0 x3.Sw).bind fun r4 =>
    (if ((!r2.2) || (!r4.2)) then some (([] : List Int), false) else (jU a0 r2.1 r4.1).bind fun r7 =>
    some (r7.1, r7.2))
def p5 (a1 : api_Want) (i8 : Int) : Unit → Option (Br Unit Int)
  | () =>
  (aW a1.Match i8).bind fun x14 =>
    ((if decide (x14.F < 4) then some true else (if decide (x14.F > 7) then some true else (if decide (i8 > 0) then (aW a1.Match (IntKind.i64.wrap (i8 - 1))).bind fun x18 =>
    some (decide (x18.F ≥ x14.F)) else some false)))).bind fun y19 =>
    (if y19 then some (Br.ret 1) else some (.next ()))
def kJ (a0 : api_Topo) (a1 : api_Want) : Option Int :=
  (nv a1.From a0).bind fun r1 =>
    ((if (!r1) then some true else (nv a1.To a0).bind fun r3 =>
    (if (!r3) then some true else some (a1.From == a1.To)))).bind fun y5 =>
    (if y5 then some 1 else (bV (p5 a1) (bu 0 (a1.Match.length : Int)) ()).bind fun q24 => match q24 with
    | .ret r => some r
    | .done () =>
    (jV a0 a1.From a1.To).bind fun r22 =>
    (if (!r22.2) then some 33 else some 0))
def lU (a0 : Int) : Option Int :=
  some (IntKind.u16.wrap (IntKind.i64.wrap (a0 + 1)))
def iZ (a0 : Int) (a1 : Int) : Option ak :=
  some (ak.mk 2 a0 a1 [])
def p6 (a0 : api_Want) (i7 : Int) : (List ak) → Option (List ak)
  | l6 =>
  (aW a0.Match i7).bind fun x13 =>
    (iZ x13.F x13.N).bind fun r14 =>
    (dc l6 ([r14] : List ak)).bind fun l15 =>
    some l15
def lV (a0 : api_Want) (a1 : (List ak)) : Option (List ak) :=
  (lU a0.From).bind fun r1 =>
    (iZ 2 r1).bind fun r2 =>
    (lU a0.To).bind fun r3 =>
    (iZ 3 r3).bind fun r4 =>
    (dc a1 ([r2, r4] : List ak)).bind fun l5 =>
    (cT (p6 a0) (bu 0 (a0.Match.length : Int)) l5).bind fun z16 =>
    some z16
def tW (a0 : api_Topo) (a1 : Int) (x6 : Int) (x7 : Int) (i8 : Int) : Unit → Option (Br Unit (Int × Bool))
  | () =>
  (aW a0.Links i8).bind fun x14 =>
    (if ((x14.a0.Sw == x6) && (x14.a1.Sw == x7)) then some (Br.ret (x14.a0.Pt, true)) else (if ((x14.a1.Sw == x6) && (x14.a0.Sw == x7)) then some (Br.ret (x14.a1.Pt, true)) else some (.next ())))
def kK (a0 : api_Topo) (a1 : Int) (a2 : Int) : Option (Int × Bool) :=
  (if ((decide (a1 < 0)) || ((decide (a1 ≥ (a0.Switches.length : Int))) || ((decide (a2 < 0)) || ((decide (a2 ≥ (a0.Switches.length : Int))) || (a1 == a2))))) then some (0, false) else (aW a0.Switches a1).bind fun x6 =>
    (aW a0.Switches a2).bind fun x7 =>
    (bV (tW a0 a1 x6 x7) (bu 0 (a0.Links.length : Int)) ()).bind fun q19 => match q19 with
    | .ret r => some r
    | .done () =>
    some (0, false))
def p7 (a0 : api_Topo) (a1 : api_Want) (r1 : ((List Int) × Bool)) (i3 : Int) : (List ak) → Option (List ak)
  | l2 =>
  (aW r1.1 i3).bind fun x9 =>
    (aW a0.Hosts a1.To).bind fun x10 =>
    ((if decide ((i3 + 1) < (r1.1.length : Int)) then (aW r1.1 (i3 + 1)).bind fun x12 =>
    (kK a0 x9 x12).bind fun r13 =>
    some r13.1 else some x10.Pt)).bind fun y14 =>
    (aW a0.Switches x9).bind fun x16 =>
    (iZ 0 x16).bind fun r17 =>
    (lV a1 ([r17] : List ak)).bind fun r18 =>
    (dc r18 ([(ak.mk 5 1 y14 [])] : List ak)).bind fun l19 =>
    (dc l2 ([(ak.mk 6 0 0 l19)] : List ak)).bind fun l20 =>
    some l20
def nF (a0 : api_Topo) (a1 : api_Want) : Option (List ak) :=
  (jV a0 a1.From a1.To).bind fun r1 =>
    (cT (p7 a0 a1 r1) (bu 0 (r1.1.length : Int)) ([] : List ak)).bind fun z21 =>
    some z21
def lW (a0 : (List ak)) : Option ak :=
  (if ((a0.length : Int) == 0) then some (ak.mk 0 0 0 []) else (if ((a0.length : Int) == 1) then (aW a0 0).bind fun x3 =>
    some x3 else some (ak.mk 7 0 0 a0)))
def p8 (a0 : ak) (self : ak → Option Int) (i2 : Int) : Int → Option Int
  | i1 =>
  (aW a0.Kids i2).bind fun x8 =>
    (self x8).bind fun r9 =>
    some (IntKind.i64.wrap (i1 + r9))
def lX (self : ak → Option Int) (a0 : ak) : Option Int :=
  (cT (p8 a0 self) (bu 0 (a0.Kids.length : Int)) 1).bind fun z10 =>
    some z10
def i4 : Nat → ak → Option Int
  | 0 => fun _ => none
  | k + 1 => lX (i4 k)
def p9 (a0 : ak) : Option Int := i4 cW a0
def qa (a0 : ak) (self : ak → Option Int) (i2 : Int) : Int → Option Int
  | i1 =>
  (aW a0.Kids i2).bind fun x8 =>
    (self x8).bind fun r9 =>
    some (fI i1 r9)
def lY (self : ak → Option Int) (a0 : ak) : Option Int :=
  (cT (qa a0 self) (bu 0 (a0.Kids.length : Int)) 0).bind fun z10 =>
    some (IntKind.i64.wrap (z10 + 1))
def ja : Nat → ak → Option Int
  | 0 => fun _ => none
  | k + 1 => lY (ja k)
def qb (a0 : ak) : Option Int := ja cW a0
def qc (a0 : api_Topo) (a1 : (List api_Want)) (i5 : Int) : ((List ak) × (List ak)) → Option (Br ((List ak) × (List ak)) (ak × Int))
  | (l3, l4) =>
  (((aW a1 i5).bind fun x11 =>
    (kJ a0 x11).bind fun r12 =>
    (if (r12 != 0) then some (Sum.inr (Br.ret ((ak.mk 0 0 0 []), r12))) else (if x11.Ban then (lV x11 []).bind fun r15 =>
    (dc l4 ([(ak.mk 6 0 0 r15)] : List ak)).bind fun l16 =>
    some (.inl (l3, l16)) else (nF a0 x11).bind fun r17 =>
    (dc l3 r17).bind fun l18 =>
    some (.inl (l18, l4)))) : Option (((List ak) × (List ak)) ⊕ (Br ((List ak) × (List ak)) (ak × Int))))).bind fun q21 => match q21 with
    | .inr r => some r
    | .inl (l19, l20) =>
    some (.next (l19, l20))
def lZ (a0 : api_Topo) (a1 : (List api_Want)) : Option (ak × Int) :=
  (nu a0).bind fun r1 =>
    (if (r1 != 0) then some ((ak.mk 0 0 0 []), r1) else (bV (qc a0 a1) (bu 0 (a1.length : Int)) (([] : List ak), ([] : List ak))).bind fun q35 => match q35 with
    | .ret r => some r
    | .done (z22, z23) =>
    (lW z22).bind fun r24 =>
    ((if decide ((z23.length : Int) > 0) then (lW z23).bind fun r26 =>
    some (ak.mk 6 0 0 ([(ak.mk 4 0 0 ([r26] : List ak)), r24] : List ak)) else some r24)).bind fun y27 =>
    (p9 y27).bind fun r29 =>
    ((if decide (r29 > 300) then some true else (qb y27).bind fun r31 =>
    some (decide (r31 > 20)))).bind fun y32 =>
    (if y32 then some ((ak.mk 0 0 0 []), 2) else some (y27, 0)))
def qe (a0 : Int) : Option Bool :=
  some ((decide (a0 ≥ 0)) && (decide (a0 < 8)))
def qf (a0 : api_Pair) (a1 : (A8 Int)) : Option Bool :=
  (qe a0.F).bind fun r1 =>
    ((if (!r1) then some true else (a1.get a0.F).bind fun x3 =>
    some (x3 != a0.N))).bind fun y4 =>
    some y4
def qg (a0 : (List api_Pair)) (a1 : (api_Pair → Option Bool)) (i1 : Int) : Unit → Option (Br Unit Int)
  | () =>
  (aW a0 i1).bind fun x7 =>
    (a1 x7).bind fun x8 =>
    (if x8 then some (Br.ret i1) else some (.next ()))
def qh (a0 : (List api_Pair)) (a1 : api_Pair → Option Bool) : Option Int :=
  (bV (qg a0 a1) (bu 0 (a0.length : Int)) ()).bind fun q10 => match q10 with
    | .ret r => some r
    | .done () =>
    some (-1)
def nG (a0 : (List api_Pair)) (a1 : api_Pair → Option Bool) : Option Bool :=
  (qh a0 a1).bind fun r1 =>
    some (decide (r1 ≥ 0))
def nH (a0 : (A8 Int)) (a1 : (List api_Pair)) : Option Bool :=
  (nG a1 (fun y0 => qf y0 a0)).bind fun r1 =>
    some (!r1)
def nJ (a0 : api_Want) (a1 : Int) (a2 : (A8 Int)) : Option Bool :=
  ((if (a0.From == a1) then (if ((IntKind.i64.wrap ((IntKind.i64.wrap a2.a2) - 1)) == a0.From) then (if ((IntKind.i64.wrap ((IntKind.i64.wrap a2.a3) - 1)) == a0.To) then (nH a2 a0.Match).bind fun r4 =>
    some r4 else some false) else some false) else some false)).bind fun y5 =>
    some y5
def qi (a1 : (List api_Want)) (a2 : Int) (a3 : (A8 Int)) (i3 : Int) : (Int × Bool) → Option (Br (Int × Bool) (Int × Bool))
  | (i1, y2) =>
  (((aW a1 i3).bind fun x9 =>
    (nJ x9 a2 a3).bind fun r10 =>
    (if (!r10) then some (.inl (i1, y2)) else (if x9.Ban then some (Sum.inr (Br.ret (0, false))) else some (.inl (x9.To, true)))) : Option ((Int × Bool) ⊕ (Br (Int × Bool) (Int × Bool))))).bind fun q15 => match q15 with
    | .inr r => some r
    | .inl (y13, y14) =>
    some (.next (y13, y14))
def l7 (a0 : api_Topo) (a1 : (List api_Want)) (a2 : Int) (a3 : (A8 Int)) : Option (Int × Bool) :=
  (bV (qi a1 a2 a3) (bu 0 (a1.length : Int)) (0, false)).bind fun q18 => match q18 with
    | .ret r => some r
    | .done (z16, z17) =>
    some (z16, z17)
def qj  : Option Bool :=
  (lZ (api_Topo.mk ([1] : List Int) [] ([(api_Port.mk 1 1), (api_Port.mk 1 2)] : List api_Port)) ([(api_Want.mk 0 1 [] false)] : List api_Want)).bind fun r1 =>
    (l7 (api_Topo.mk ([1] : List Int) [] ([(api_Port.mk 1 1), (api_Port.mk 1 2)] : List api_Port)) ([(api_Want.mk 0 1 [] false)] : List api_Want) 0 (A8.mk 0 0 1 2 0 0 0 0)).bind fun r2 =>
    ((if (r1.2 == 0) then (if (r1.1.Op == 6) then (if ((r1.1.Kids.length : Int) == 4) then (aW r1.1.Kids 3).bind fun x6 =>
    (if (x6.N == 2) then (if r2.2 then some (r2.1 == 1) else some false) else some false) else some false) else some false) else some false)).bind fun y9 =>
    some y9
def qk (a0 : (List api_Want)) (i2 : Int) : Unit → Option (Br Unit Bool)
  | () =>
  (aW a0 i2).bind fun x8 =>
    (if decide ((x8.Match.length : Int) > 8) then some (Br.ret false) else some (.next ()))
def nK (a0 : (List api_Want)) : Option Bool :=
  (if decide ((a0.length : Int) > 30) then some false else (bV (qk a0) (bu 0 (a0.length : Int)) ()).bind fun q10 => match q10 with
    | .ret r => some r
    | .done () =>
    some true)
def yY (a0 : ak) (self : ak → Option Int) (i2 : Int) : Int → Option Int
  | i1 =>
  (aW a0.Kids i2).bind fun x8 =>
    (self x8).bind fun r9 =>
    some (IntKind.i64.wrap (i1 + r9))
def ql (self : ak → Option Int) (a0 : ak) : Option Int :=
  (cT (yY a0 self) (bu 0 (a0.Kids.length : Int)) 1).bind fun z10 =>
    some z10
def l9 : Nat → ak → Option Int
  | 0 => fun _ => none
  | k + 1 => ql (l9 k)
def nL (a0 : ak) : Option Int := l9 cW a0
def yZ (a0 : ak) (self : ak → Option Int) (i2 : Int) : Int → Option Int
  | i1 =>
  (aW a0.Kids i2).bind fun x8 =>
    (self x8).bind fun r9 =>
    some (fI i1 r9)
def qm (self : ak → Option Int) (a0 : ak) : Option Int :=
  (cT (yZ a0 self) (bu 0 (a0.Kids.length : Int)) 0).bind fun z10 =>
    some (IntKind.i64.wrap (z10 + 1))
def ma : Nat → ak → Option Int
  | 0 => fun _ => none
  | k + 1 => qm (ma k)
def nM (a0 : ak) : Option Int := ma cW a0
def qo (a0 : ak) (self : ak → Option Bool) (i6 : Int) : Unit → Option (Br Unit (Unit ⊕ Bool))
  | () =>
  (aW a0.Kids i6).bind fun x12 =>
    (self x12).bind fun r13 =>
    (if (!r13) then some (Br.ret (Sum.inr false)) else some (.next ()))
def nN (self : ak → Option Bool) (a0 : ak) : Option Bool :=
  (if ((a0.Op == 5) || ((decide (a0.Op < 0)) || (decide (a0.Op > 7)))) then some false else ((if ((a0.Op == 6) || (a0.Op == 7)) then (bV (qo a0 self) (bu 0 (a0.Kids.length : Int)) ()).bind fun q15 => match q15 with
    | .ret r => some r
    | .done () =>
    some (.inl ()) else some (.inl ()))).bind fun q16 => match q16 with
    | .inr r => some r
    | .inl () =>
    some true)
def kL : Nat → ak → Option Bool
  | 0 => fun _ => none
  | k + 1 => nN (kL k)
def qp (a0 : ak) : Option Bool := kL cW a0
def qr (a0 : ak) (a1 : Int) (self : ak → Int → Option Bool) (i33 : Int) : Unit → Option (Br Unit Bool)
  | () =>
  (aW a0.Kids i33).bind fun x39 =>
    (self x39 a1).bind fun r40 =>
    (if (!r40) then some (Br.ret false) else some (.next ()))
def nP (self : ak → Int → Option Bool) (a0 : ak) (a1 : Int) : Option Bool :=
  ((if (a0.Op == 0) then some (a0.Op == 0) else some (a0.Op == 1))).bind fun y2 =>
    (if y2 then some (((a0.Kids.length : Int) == 0) && ((a0.F == 0) && (a0.N == 0))) else (if (a0.Op == 2) then some (((a0.Kids.length : Int) == 0) && ((decide (a0.F ≥ 0)) && (decide (a0.F < 8)))) else (if (a0.Op == 3) then some (((a0.Kids.length : Int) == 0) && ((decide (a0.F ≥ 0)) && (decide (a0.F < a1)))) else (if (a0.Op == 5) then some (((a0.Kids.length : Int) == 0) && ((decide (a0.F ≥ 1)) && (decide (a0.F < 8)))) else (if (a0.Op == 4) then ((if ((a0.Kids.length : Int) == 1) then (if (a0.F == 0) then (if (a0.N == 0) then (aW a0.Kids 0).bind fun x20 =>
    (qp x20).bind fun r21 =>
    (if r21 then (self x20 a1).bind fun r23 =>
    some r23 else some false) else some false) else some false) else some false)).bind fun y24 =>
    some y24 else ((if (a0.Op == 6) then some (a0.Op == 6) else some (a0.Op == 7))).bind fun y27 =>
    (if y27 then (if ((decide ((a0.Kids.length : Int) < 2)) || ((a0.F != 0) || (a0.N != 0))) then some false else (bV (qr a0 a1 self) (bu 0 (a0.Kids.length : Int)) ()).bind fun q42 => match q42 with
    | .ret r => some r
    | .done () =>
    some true) else some false))))))
def kM : Nat → ak → Int → Option Bool
  | 0 => fun _ _ => none
  | k + 1 => nP (kM k)
def qt (a0 : ak) (a1 : Int) : Option Bool := kM cW a0 a1
def y8 (a0 : (List api_Pair)) (a1 : Int) (i1 : Int) : Unit → Option (Br Unit Bool)
  | () =>
  (aW a0 i1).bind fun x7 =>
    ((if decide (x7.F < 0) then some true else (if decide (x7.F ≥ a1) then some true else (if decide (i1 > 0) then (aW a0 (IntKind.i64.wrap (i1 - 1))).bind fun x11 =>
    some (decide (x11.F ≥ x7.F)) else some false)))).bind fun y12 =>
    (if y12 then some (Br.ret false) else some (.next ()))
def nQ (a0 : (List api_Pair)) (a1 : Int) : Option Bool :=
  (bV (y8 a0 a1) (bu 0 (a0.length : Int)) ()).bind fun q15 => match q15 with
    | .ret r => some r
    | .done () =>
    some true
def za (a0 : jR) (i12 : Int) : Unit → Option (Br Unit Int)
  | () =>
  (aW a0.Rules i12).bind fun x18 =>
    ((if decide ((x18.When.length : Int) < 2) then some true else (aW x18.When 0).bind fun x20 =>
    (if (x20.F != 0) then some true else (aW x18.When 1).bind fun x22 =>
    (if (x22.F != 1) then some true else (nQ x18.When 8).bind fun r24 =>
    (if (!r24) then some true else (nQ x18.Guard (a0.Init.length : Int)).bind fun r26 =>
    (if (!r26) then some true else (nQ x18.Then (a0.Init.length : Int)).bind fun r28 =>
    (if (!r28) then some true else some ((x18.Then.length : Int) == 0)))))))).bind fun y30 =>
    (if y30 then some (Br.ret 11) else some (.next ()))
def nS (a0 : jR) : Option Int :=
  ((if decide ((a0.Init.length : Int) < 1) then some true else (if decide ((a0.Init.length : Int) > 4) then some true else (nL a0.Pol).bind fun r3 =>
    (if decide (r3 > 300) then some true else (nM a0.Pol).bind fun r5 =>
    (if decide (r5 > 20) then some true else some (decide ((a0.Rules.length : Int) > 24))))))).bind fun y7 =>
    (if y7 then some 2 else (qt a0.Pol (a0.Init.length : Int)).bind fun r10 =>
    (if (!r10) then some 11 else (bV (za a0) (bu 0 (a0.Rules.length : Int)) ()).bind fun q33 => match q33 with
    | .ret r => some r
    | .done () =>
    some 0))
def nU (a0 : ak) : Option Bool :=
  (eR 4 0).bind fun l1 =>
    (nS (jR.mk l1 a0 [])).bind fun r2 =>
    some (r2 == 0)
def nV (a0 : (A8 Int)) (a1 : Int) (a2 : Int) : Option (A8 Int) :=
  ((if ((decide (a1 ≥ 0)) && (decide (a1 < 8))) then (a0.get a1).bind fun x3 =>
    (a0.put a1 a2).bind fun x4 =>
    some x4 else some a0)).bind fun y5 =>
    some y5
def qu (a0 : (A8 Int)) (a1 : (A8 Int)) (i1 : Int) : Unit → Option (Br Unit Int)
  | () =>
  (a0.get i1).bind fun x7 =>
    (a1.get i1).bind fun x8 =>
    (if decide (x7 < x8) then some (Br.ret (-1)) else (if decide (x7 > x8) then some (Br.ret 1) else some (.next ())))
def nW (a0 : (A8 Int)) (a1 : (A8 Int)) : Option Int :=
  (bV (qu a0 a1) (bu 0 8) ()).bind fun q11 => match q11 with
    | .ret r => some r
    | .done () =>
    some 0
def nX (a0 : (List (A8 Int))) (a1 : (A8 Int)) (i3 : Int) : ((List (A8 Int)) × Bool) → Option ((List (A8 Int)) × Bool)
  | (l1, y2) =>
  ((aW a0 i3).bind fun x9 =>
    (nW a1 x9).bind fun r10 =>
    ((if ((!y2) && (decide (r10 ≤ 0))) then (dc l1 ([a1] : List (A8 Int))).bind fun l13 =>
    some (l13, true) else some (l1, y2))).bind fun (l14, y15) =>
    (if (r10 != 0) then (dc l14 ([x9] : List (A8 Int))).bind fun l18 =>
    some (l18, y15) else some (l14, y15))).bind fun (l19, y20) =>
    some (l19, y20)
def nY (a0 : (List (A8 Int))) (a1 : (A8 Int)) : Option (List (A8 Int)) :=
  (cT (nX a0 a1) (bu 0 (a0.length : Int)) (([] : List (A8 Int)), false)).bind fun (z22, z23) =>
    ((if (!z23) then (dc z22 ([a1] : List (A8 Int))).bind fun l25 =>
    some l25 else some z22)).bind fun l26 =>
    some l26
def qv (a1 : (List (A8 Int))) (i2 : Int) : (List (A8 Int)) → Option (List (A8 Int))
  | y1 =>
  (aW a1 i2).bind fun x8 =>
    (nY y1 x8).bind fun r9 =>
    some r9
def kN (a0 : (List (A8 Int))) (a1 : (List (A8 Int))) : Option (List (A8 Int)) :=
  (cT (qv a1) (bu 0 (a1.length : Int)) a0).bind fun z10 =>
    some z10
def nZ (a0 : ak) (a1 : (List Int)) (y21 : (List (A8 Int))) (i22 : Int) (self : ak → (List Int) → (A8 Int) → Option ((List (A8 Int)) × Bool)) (i29 : Int) : (List (A8 Int)) → Option (Br (List (A8 Int)) (Br (List (A8 Int)) ((List (A8 Int)) × Bool)))
  | y28 =>
  (aW a0.Kids i22).bind fun x35 =>
    (aW y21 i29).bind fun x36 =>
    (self x35 a1 x36).bind fun r37 =>
    (if (!r37.2) then some (Br.ret (Br.ret (([] : List (A8 Int)), false))) else (kN y28 r37.1).bind fun r39 =>
    some (.next r39))
def qw (a0 : ak) (a1 : (List Int)) (self : ak → (List Int) → (A8 Int) → Option ((List (A8 Int)) × Bool)) (i22 : Int) : (List (A8 Int)) → Option (Br (List (A8 Int)) ((List (A8 Int)) × Bool))
  | y21 =>
  (bV (nZ a0 a1 y21 i22 self) (bu 0 (y21.length : Int)) ([] : List (A8 Int))).bind fun q42 => match q42 with
    | .ret r => some r
    | .done z40 =>
    (if decide ((z40.length : Int) > 64) then some (Br.ret (([] : List (A8 Int)), false)) else some (.next z40))
def qx (a0 : ak) (a1 : (List Int)) (a2 : (A8 Int)) (self : ak → (List Int) → (A8 Int) → Option ((List (A8 Int)) × Bool)) (i46 : Int) : (List (A8 Int)) → Option (Br (List (A8 Int)) ((List (A8 Int)) × Bool))
  | y45 =>
  (aW a0.Kids i46).bind fun x52 =>
    (self x52 a1 a2).bind fun r53 =>
    (if (!r53.2) then some (Br.ret (([] : List (A8 Int)), false)) else (kN y45 r53.1).bind fun r55 =>
    (if decide ((r55.length : Int) > 64) then some (Br.ret (([] : List (A8 Int)), false)) else some (.next r55)))
def n5 (self : ak → (List Int) → (A8 Int) → Option ((List (A8 Int)) × Bool)) (a0 : ak) (a1 : (List Int)) (a2 : (A8 Int)) : Option ((List (A8 Int)) × Bool) :=
  (if (a0.Op == 0) then some (([] : List (A8 Int)), true) else (if (a0.Op == 1) then some (([a2] : List (A8 Int)), true) else (if (a0.Op == 2) then (a2.get a0.F).bind fun x4 =>
    (if (x4 == a0.N) then some (([a2] : List (A8 Int)), true) else some (([] : List (A8 Int)), true)) else (if (a0.Op == 3) then ((if decide (a0.F < (a1.length : Int)) then (aW a1 a0.F).bind fun x8 =>
    some (x8 == a0.N) else some false)).bind fun y9 =>
    (if y9 then some (([a2] : List (A8 Int)), true) else some (([] : List (A8 Int)), true)) else (if (a0.Op == 4) then (aW a0.Kids 0).bind fun x13 =>
    (self x13 a1 a2).bind fun r14 =>
    ((if decide ((r14.1.length : Int) > 0) then some ([] : List (A8 Int)) else some ([a2] : List (A8 Int)))).bind fun y16 =>
    some (y16, r14.2) else (if (a0.Op == 5) then (nV a2 a0.F a0.N).bind fun r19 =>
    some (([r19] : List (A8 Int)), true) else (if (a0.Op == 6) then (bV (qw a0 a1 self) (bu 0 (a0.Kids.length : Int)) ([a2] : List (A8 Int))).bind fun q44 => match q44 with
    | .ret r => some r
    | .done z43 =>
    some (z43, true) else (bV (qx a0 a1 a2 self) (bu 0 (a0.Kids.length : Int)) ([] : List (A8 Int))).bind fun q58 => match q58 with
    | .ret r => some r
    | .done z57 =>
    some (z57, true))))))))
def gL : Nat → ak → (List Int) → (A8 Int) → Option ((List (A8 Int)) × Bool)
  | 0 => fun _ _ _ => none
  | k + 1 => n5 (gL k)
def qy (a0 : ak) (a1 : (List Int)) (a2 : (A8 Int)) : Option ((List (A8 Int)) × Bool) := gL cW a0 a1 a2
def jW (a0 : ak) (a1 : (List Int)) (a2 : (A8 Int)) : Option ((List (A8 Int)) × Int) :=
  (nU a0).bind fun r1 =>
    (if (!r1) then some (([] : List (A8 Int)), 11) else (qy a0 a1 a2).bind fun r3 =>
    (if (!r3.2) then some (([] : List (A8 Int)), 24) else some (r3.1, 0)))
def n6 (a0 : api_Topo) (a1 : api_Port) (i1 : Int) : Unit → Option (Br Unit (api_Port × Bool))
  | () =>
  (aW a0.Links i1).bind fun x7 =>
    (if (x7.a0 == a1) then some (Br.ret (x7.a1, true)) else (if (x7.a1 == a1) then some (Br.ret (x7.a0, true)) else some (.next ())))
def ic (a0 : api_Topo) (a1 : api_Port) : Option (api_Port × Bool) :=
  (bV (n6 a0 a1) (bu 0 (a0.Links.length : Int)) ()).bind fun q10 => match q10 with
    | .ret r => some r
    | .done () =>
    some ((api_Port.mk 0 0), false)
def qz (a0 : api_Topo) (a1 : api_Port) (i1 : Int) : Unit → Option (Br Unit Bool)
  | () =>
  (aW a0.Hosts i1).bind fun x7 =>
    (if (x7 == a1) then some (Br.ret true) else some (.next ()))
def kO (a0 : api_Topo) (a1 : api_Port) : Option Bool :=
  (bV (qz a0 a1) (bu 0 (a0.Hosts.length : Int)) ()).bind fun q9 => match q9 with
    | .ret r => some r
    | .done () =>
    some false
def iD (a0 : api_Topo) (a1 : (A8 Int)) : Option ((A8 Int) × Int) :=
  (ic a0 (api_Port.mk a1.a0 a1.a1)).bind fun r1 =>
    (if r1.2 then some ((A8.mk r1.1.Sw r1.1.Pt a1.a2 a1.a3 a1.a4 a1.a5 a1.a6 a1.a7), 0) else (kO a0 (api_Port.mk a1.a0 a1.a1)).bind fun r3 =>
    (if r3 then some (a1, 1) else some (a1, 2)))
def tX (a3 : (A8 Int)) (x11 : (A8 Int)) (r16 : ((List (List (A8 Int))) × Int)) (i19 : Int) : (List (List (A8 Int))) → Option (List (List (A8 Int)))
  | l18 =>
  (aW r16.1 i19).bind fun x25 =>
    (dc ([a3, x11] : List (A8 Int)) x25).bind fun l26 =>
    (dc l18 ([l26] : List (List (A8 Int)))).bind fun l27 =>
    some l27
def qA (a0 : api_Topo) (a1 : ak) (a2 : (List Int)) (a3 : (A8 Int)) (a4 : Int) (r1 : ((List (A8 Int)) × Int)) (self : api_Topo → ak → (List Int) → (A8 Int) → Int → Option ((List (List (A8 Int))) × Int)) (i5 : Int) : (List (List (A8 Int))) → Option (Br (List (List (A8 Int))) ((List (List (A8 Int))) × Int))
  | l4 =>
  (aW r1.1 i5).bind fun x11 =>
    (iD a0 x11).bind fun r12 =>
    (((if ((r12.2 != 0) || (a4 == 1)) then (dc l4 ([([a3, x11] : List (A8 Int))] : List (List (A8 Int)))).bind fun l15 =>
    some (.inl l15) else (self a0 a1 a2 r12.1 (IntKind.i64.wrap (a4 - 1))).bind fun r16 =>
    (if (r16.2 != 0) then some (Sum.inr (Br.ret (([] : List (List (A8 Int))), r16.2))) else (cT (tX a3 x11 r16) (bu 0 (r16.1.length : Int)) l4).bind fun z28 =>
    some (.inl z28))) : Option ((List (List (A8 Int))) ⊕ (Br (List (List (A8 Int))) ((List (List (A8 Int))) × Int))))).bind fun q31 => match q31 with
    | .inr r => some r
    | .inl l30 =>
    (if decide ((l30.length : Int) > 200) then some (Br.ret (([] : List (List (A8 Int))), 24)) else some (.next l30))
def jb (self : api_Topo → ak → (List Int) → (A8 Int) → Int → Option ((List (List (A8 Int))) × Int)) (a0 : api_Topo) (a1 : ak) (a2 : (List Int)) (a3 : (A8 Int)) (a4 : Int) : Option ((List (List (A8 Int))) × Int) :=
  (jW a1 a2 a3).bind fun r1 =>
    (if (r1.2 != 0) then some (([] : List (List (A8 Int))), r1.2) else (if ((r1.1.length : Int) == 0) then some (([([a3] : List (A8 Int))] : List (List (A8 Int))), 0) else (bV (qA a0 a1 a2 a3 a4 r1 self) (bu 0 (r1.1.length : Int)) ([] : List (List (A8 Int)))).bind fun q34 => match q34 with
    | .ret r => some r
    | .done z33 =>
    some (z33, 0)))
def jc : Nat → api_Topo → ak → (List Int) → (A8 Int) → Int → Option ((List (List (A8 Int))) × Int)
  | 0 => fun _ _ _ _ _ => none
  | k + 1 => jb (jc k)
def mb (a0 : api_Topo) (a1 : ak) (a2 : (List Int)) (a3 : (A8 Int)) (a4 : Int) : Option ((List (List (A8 Int))) × Int) := jc cW a0 a1 a2 a3 a4
def n7 (a0 : api_Topo) (a1 : (List api_Want)) (a2 : (A8 Int)) (r8 : (ak × Int)) (i10 : Int) : (A8 Int) → Option (Br (A8 Int) Bool)
  | y11 =>
  (aW a0.Hosts i10).bind fun x17 =>
    (mb a0 r8.1 [] (A8.mk x17.Sw x17.Pt y11.a2 y11.a3 y11.a4 y11.a5 y11.a6 y11.a7) 12).bind fun r18 =>
    (if ((r18.2 != 0) || ((r18.1.length : Int) != 1)) then some (Br.ret false) else (l7 a0 a1 i10 (A8.mk x17.Sw x17.Pt y11.a2 y11.a3 y11.a4 y11.a5 y11.a6 y11.a7)).bind fun r21 =>
    (aW r18.1 0).bind fun x22 =>
    (aW x22 (IntKind.i64.wrap ((x22.length : Int) - 1))).bind fun x23 =>
    (iD a0 x23).bind fun r24 =>
    ((if r21.2 then (if (!((((x22.length : Int).tmod 2) == 0) && (r24.2 == 1))) then some true else (aW a0.Hosts r21.1).bind fun x28 =>
    (if (x23.a0 != x28.Sw) then some true else (if (x23.a1 != x28.Pt) then some true else (if (!r21.2) then (if ((((x22.length : Int).tmod 2) == 0) && (r24.2 == 1)) then some ((IntKind.i64.wrap y11.a2) == (i10 + 1)) else some false) else some false)))) else (if (!r21.2) then (if ((((x22.length : Int).tmod 2) == 0) && (r24.2 == 1)) then some ((IntKind.i64.wrap y11.a2) == (i10 + 1)) else some false) else some false))).bind fun y35 =>
    (if y35 then some (Br.ret false) else some (.next (A8.mk x17.Sw x17.Pt y11.a2 y11.a3 y11.a4 y11.a5 y11.a6 y11.a7))))
def law30_RouteComes (a0 : api_Topo) (a1 : (List api_Want)) (a2 : (A8 Int)) : Option Bool :=
  (qj).bind fun r1 =>
    (if (!r1) then some false else ((if decide ((a0.Hosts.length : Int) > 12) then some true else (nK a1).bind fun r4 =>
    some (!r4))).bind fun y5 =>
    (if y5 then some true else (lZ a0 a1).bind fun r8 =>
    (if (r8.2 != 0) then some true else (bV (n7 a0 a1 a2 r8) (bu 0 (a0.Hosts.length : Int)) a2).bind fun q39 => match q39 with
    | .ret r => some r
    | .done z38 =>
    some true)))
def tY (a0 : api_Topo) (a1 : Int) (i1 : Int) : Unit → Option (Br Unit Int)
  | () =>
  (aW a0.Switches i1).bind fun x7 =>
    (if (x7 == a1) then some (Br.ret i1) else some (.next ()))
def n8 (a0 : api_Topo) (a1 : Int) : Option Int :=
  (bV (tY a0 a1) (bu 0 (a0.Switches.length : Int)) ()).bind fun q9 => match q9 with
    | .ret r => some r
    | .done () =>
    some (-1)
def qB (a0 : api_Topo) (a1 : Int) : Option (Int × Int) :=
  (aW a0.Links a1).bind fun x1 =>
    (n8 a0 x1.a0.Sw).bind fun r2 =>
    (n8 a0 x1.a1.Sw).bind fun r3 =>
    some (r2, r3)
def tZ (a0 : api_Topo) (a1 : Int) (a2 : Int) (a3 : Int) (i1 : Int) : Unit → Option (Br Unit Bool)
  | () =>
  (qB a0 i1).bind fun r7 =>
    (if ((i1 != a3) && ((a1 != a2) && (if (r7.1 == a1) then ((r7.2 == a2) || ((r7.1 == a2) && (r7.2 == a1))) else ((r7.1 == a2) && (r7.2 == a1))))) then some (Br.ret true) else some (.next ()))
def n9 (a0 : api_Topo) (a1 : Int) (a2 : Int) (a3 : Int) : Option Bool :=
  (bV (tZ a0 a1 a2 a3) (bu 0 (a0.Links.length : Int)) ()).bind fun q15 => match q15 with
    | .ret r => some r
    | .done () =>
    some false
def qC (i7 : Int) : (List Int) → Option (List Int)
  | l6 =>
  (aW l6 i7).bind fun x13 =>
    (c7 l6 i7 (-1)).bind fun l14 =>
    some l14
def oa (a0 : api_Topo) (a3 : Int) (i19 : Int) (i26 : Int) (i33 : Int) : (List Int) → Option (List Int)
  | l32 =>
  ((aW l32 i26).bind fun x39 =>
    ((if (x39 == i19) then (aW l32 i33).bind fun x41 =>
    (if decide (x41 < 0) then (n9 a0 i26 i33 a3).bind fun r43 =>
    some r43 else some false) else some false)).bind fun y44 =>
    (if y44 then (aW l32 i33).bind fun x47 =>
    (c7 l32 i33 (i19 + 1)).bind fun l48 =>
    some l48 else some l32)).bind fun l49 =>
    some l49
def qD (a0 : api_Topo) (a3 : Int) (i19 : Int) (i26 : Int) : (List Int) → Option (List Int)
  | l25 =>
  (cT (oa a0 a3 i19 i26) (bu 0 (a0.Switches.length : Int)) l25).bind fun z51 =>
    some z51
def ob (a0 : api_Topo) (a3 : Int) (i19 : Int) : (List Int) → Option (List Int)
  | l18 =>
  (cT (qD a0 a3 i19) (bu 0 (a0.Switches.length : Int)) l18).bind fun z53 =>
    some z53
def mc (a0 : api_Topo) (a1 : Int) (a2 : Int) (a3 : Int) : Option Int :=
  (if ((decide (a1 < 0)) || ((decide (a1 ≥ (a0.Switches.length : Int))) || ((decide (a2 < 0)) || (decide (a2 ≥ (a0.Switches.length : Int)))))) then some (-1) else (eR (a0.Switches.length : Int) 0).bind fun l5 =>
    (cT qC (bu 0 (a0.Switches.length : Int)) l5).bind fun z15 =>
    (aW z15 a1).bind fun x16 =>
    (c7 z15 a1 0).bind fun l17 =>
    (cT (ob a0 a3) (bu 0 (a0.Switches.length : Int)) l17).bind fun z55 =>
    (aW z55 a2).bind fun x56 =>
    some x56)
def oc (a0 : api_Topo) (a2 : Int) (i3 : Int) (i10 : Int) : ((List Int) × Int) → Option (((List Int) × Int) ⊕ ((List Int) × Int))
  | (l8, i9) =>
  (n9 a0 i9 i10 (-1)).bind fun r16 =>
    ((if r16 then (mc a0 i10 a2 (-1)).bind fun r18 =>
    some (r18 == (IntKind.i64.wrap (i3 - 1))) else some false)).bind fun y19 =>
    (if y19 then (dc l8 ([i10] : List Int)).bind fun l22 =>
    some (.inr (l22, i10)) else some (.inl (l8, i9)))
def md (a0 : api_Topo) (a2 : Int) : (Int × (List Int) × Int) → Option ((Int × (List Int) × Int) ⊕ (Int × (List Int) × Int))
  | (i3, l4, i5) =>
  (if (i5 != a2) then (lJ (oc a0 a2 i3) (bu 0 (a0.Switches.length : Int)) (l4, i5)).bind fun (z23, z24) =>
    some (.inl (IntKind.i64.wrap (i3 - 1), z23, z24)) else some (.inr (i3, l4, i5)))
def qE (a0 : api_Topo) (a1 : Int) (a2 : Int) : Option ((List Int) × Bool) :=
  (mc a0 a1 a2 (-1)).bind fun r1 =>
    (if decide (r1 < 0) then some (([] : List Int), false) else (hU (md a0 a2) cW (r1, ([a1] : List Int), a1)).bind fun (z26, z27, z28) =>
    some (z27, true))
end Go.AM
