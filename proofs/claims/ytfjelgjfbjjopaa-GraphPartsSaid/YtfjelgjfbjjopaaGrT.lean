import Derived.Test.YtfjelgjfbjjopaaAmPv
set_option linter.unusedVariables false
namespace Go.AM
open Go
structure mP where
  F : Int
  N : Int
  deriving DecidableEq, Inhabited
structure mQ where
  Match : (List mP)
  Acts : (List (List mP))
  deriving DecidableEq, Inhabited
structure api_Port where
  Sw : Int
  Pt : Int
  deriving DecidableEq, Inhabited
structure api_Topo where
  Switches : (List Int)
  Links : (List (A2 api_Port))
  Hosts : (List api_Port)
  deriving DecidableEq, Inhabited
structure vX where
  At : Int
  Out : Bool
  Row : mQ
  deriving DecidableEq, Inhabited
structure vY where
  Which : (List Int)
  Lists : (List (List mQ))
  deriving DecidableEq, Inhabited
def mR (a0 : (List Int)) (a1 : Int) (i1 : Int) : Unit → Option (Br Unit Int)
  | () =>
  (aQ a0 i1).bind fun x7 =>
    (if (a1 == x7) then some (Br.ret i1) else some (.next ()))
def jt (a0 : (List Int)) (a1 : Int) : Option Int :=
  (cw (mR a0 a1) (bm 0 (a0.length : Int)) ()).bind fun q9 => match q9 with
    | .ret r => some r
    | .done () =>
    some (-1)
def f7 (a0 : api_Topo) (a1 : Int) : Option (Int × Bool) :=
  (jt a0.Switches a1).bind fun r1 =>
    some (bO r1 0, decide (r1 ≥ 0))
def ju (a0 : (List Int)) (i2 : Int) (i14 : Int) : ((List Int) × Int) → Option ((List Int) × Int)
  | (l12, i13) =>
  ((fu l12 i2 (a0.length : Int) i14).bind fun x20 =>
    (aQ l12 (i2 + i14)).bind fun x21 =>
    (fu l12 i2 (a0.length : Int) (IntKind.i64.wrap (i14 - 1))).bind fun x22 =>
    (aQ l12 (i2 + (IntKind.i64.wrap (i14 - 1)))).bind fun x23 =>
    (if (x21 != x23) then (aQ l12 i13).bind fun x25 =>
    (b4 l12 i13 x21).bind fun l26 =>
    some (l26, IntKind.i64.wrap (i13 + 1)) else some (l12, i13))).bind fun (l27, y28) =>
    some (l27, y28)
def iB (a0 : (List Int)) (i2 : Int) : Unit → Option (Br Unit (List Int))
  | () =>
  (aQ a0 i2).bind fun x8 =>
    (aQ a0 (IntKind.i64.wrap (i2 - 1))).bind fun x9 =>
    (if (x8 == x9) then (cN a0 i2 (a0.length : Int)).bind fun l11 =>
    (bS (ju a0 i2) (bm 1 (l11.length : Int)) (a0, i2)).bind fun (z30, z31) =>
    (cN z30 z31 (z30.length : Int)).bind fun l32 =>
    some (Br.ret (z30.take z31.toNat)) else some (.next ()))
def iC (a0 : (List Int)) : Option (List Int) :=
  (if decide ((a0.length : Int) < 2) then some a0 else (cw (iB a0) (bm 1 (a0.length : Int)) ()).bind fun q34 => match q34 with
    | .ret r => some r
    | .done () =>
    some a0)
def f8 (x : Int) : List Int → List Int
  | [] => [x]
  | y :: l => if x ≤ y then x :: y :: l else y :: f8 x l
def cn : List Int → List Int
  | [] => []
  | x :: l => f8 x (cn l)
def jv (a0 : api_Topo) (a1 : Int) (i2 : Int) : (List (List Int)) → Option (List (List Int))
  | g =>
  (aQ a0.Links i2).bind fun x =>
    (f7 a0 x.a0.Sw).bind fun r1 =>
    (f7 a0 x.a1.Sw).bind fun r2 =>
    (if ((!r1.2) || ((!r2.2) || ((r1.1 == r2.1) || (i2 == a1)))) then some g else (aQ g r1.1).bind fun la =>
    (cJ la ([r2.1] : List Int)).bind fun la2 =>
    (aQ g r2.1).bind fun lb =>
    (cJ lb ([r1.1] : List Int)).bind fun lb2 =>
    (b4 g r1.1 la2).bind fun g2 => b4 g2 r2.1 lb2)
def kI (i2 : Int) : (List (List Int)) → Option (List (List Int))
  | g =>
  (aQ g i2).bind fun l =>
    (if l.length ≤ 4294967296 then (iC (cn l)).bind fun r => b4 g i2 r else none)
def ff (a0 : api_Topo) (a1 : Int) : Option (List (List Int)) :=
  (cT (a0.Switches.length : Int) ([] : List Int)).bind fun g0 =>
    (bS (jv a0 a1) (bm 0 (a0.Links.length : Int)) g0).bind fun z1 =>
    (bS kI (bm 0 (z1.length : Int)) z1).bind fun z2 =>
    some z2
def d8 (a0 : (List (List Int))) (a1 : Int) : Option Bool :=
  some ((decide (a1 ≥ 0)) && (decide (a1 < (a0.length : Int))))
def kJ (i : Int) : (List Int) → Option (List Int)
  | l6 =>
  (aQ l6 i).bind fun x13 =>
    (b4 l6 i (-1)).bind fun l14 =>
    some l14
def kK (l : List Int) (x : Int) (i : Int) : ((List Int) × (List Int)) → Option ((List Int) × (List Int))
  | (d, q) =>
  (aQ l i).bind fun k =>
    (aQ d k).bind fun dk =>
    (if decide (dk < 0) then (aQ d x).bind fun dx =>
    (b4 d k (IntKind.i64.wrap (dx + 1))).bind fun d2 =>
    (cJ q ([k] : List Int)).bind fun q2 =>
    some (d2, q2) else some (d, q))
def jw (a0 : (List (List Int))) : ((List Int) × (List Int)) → Option (((List Int) × (List Int)) ⊕ ((List Int) × (List Int)))
  | (d, q) =>
  (if decide ((q.length : Int) > 0) then (aQ q 0).bind fun x =>
    (aQ a0 x).bind fun l =>
    (bS (kK l x) (bm 0 (l.length : Int)) (d, q)).bind fun (d2, q2) =>
    (cN q2 1 (q2.length : Int)).bind fun q3 =>
    some (.inl (d2, q3)) else some (.inr (d, q)))
def fI (a0 : (List (List Int))) (a1 : Int) : Option (List Int) :=
  (cT (a0.length : Int) (0 : Int)).bind fun l5 =>
    (bS kJ (bm 0 (l5.length : Int)) l5).bind fun z15 =>
    (d8 a0 a1).bind fun r2 =>
    (if (!r2) then some z15 else (aQ z15 a1).bind fun x16 =>
    (b4 z15 a1 0).bind fun l17 =>
    (ew (jw a0) dD (l17, ([a1] : List Int))).bind fun (z, zq) =>
    some z)
def jx (a0 : Int) (a1 : (List Int)) (a2 : Int) : Option Bool :=
  (aQ a1 a0).bind fun x1 =>
    (aQ a1 a2).bind fun x2 =>
    some (x1 == (IntKind.i64.wrap (x2 - 1)))
def mS (a0 : (List Int)) (a1 : (Int → Option Bool)) (i1 : Int) : Unit → Option (Br Unit Int)
  | () =>
  (aQ a0 i1).bind fun x7 =>
    (a1 x7).bind fun x8 =>
    (if x8 then some (Br.ret i1) else some (.next ()))
def jy (a0 : (List Int)) (a1 : Int → Option Bool) : Option Int :=
  (cw (mS a0 a1) (bm 0 (a0.length : Int)) ()).bind fun q10 => match q10 with
    | .ret r => some r
    | .done () =>
    some (-1)
def iD (a2 : Int) (r1 : (List (List Int))) (r8 : (List Int)) : ((List Int) × Int) → Option (((List Int) × Int) ⊕ ((List Int) × Int))
  | (l11, i12) =>
  (if (i12 != a2) then (aQ r1 i12).bind fun x15 =>
    (jy x15 (fun y0 => jx y0 r8 i12)).bind fun r16 =>
    (aQ x15 r16).bind fun x17 =>
    (cJ l11 ([x17] : List Int)).bind fun l18 =>
    some (.inl (l18, x17)) else some (.inr (l11, i12)))
def fv (a0 : api_Topo) (a1 : Int) (a2 : Int) : Option ((List Int) × Bool) :=
  (ff a0 (-1)).bind fun r1 =>
    (d8 r1 a1).bind fun r2 =>
    ((if (!r2) then some true else (d8 r1 a2).bind fun r4 =>
    some (!r4))).bind fun y5 =>
    (if y5 then some (([] : List Int), false) else (fI r1 a2).bind fun r8 =>
    (aQ r8 a1).bind fun x9 =>
    (if decide (x9 < 0) then some (([] : List Int), false) else (ew (iD a2 r1 r8) dD (([a1] : List Int), a1)).bind fun (z19, z20) =>
    some (z19, true)))
def pL (a0 : api_Topo) (a1 : Int) (x6 : Int) (x7 : Int) (i8 : Int) : Unit → Option (Br Unit (Int × Bool))
  | () =>
  (aQ a0.Links i8).bind fun x14 =>
    (if ((x14.a0.Sw == x6) && (x14.a1.Sw == x7)) then some (Br.ret (x14.a0.Pt, true)) else (if ((x14.a1.Sw == x6) && (x14.a0.Sw == x7)) then some (Br.ret (x14.a1.Pt, true)) else some (.next ())))
def mT (a0 : api_Topo) (a1 : Int) (a2 : Int) : Option (Int × Bool) :=
  (if ((decide (a1 < 0)) || ((decide (a1 ≥ (a0.Switches.length : Int))) || ((decide (a2 < 0)) || ((decide (a2 ≥ (a0.Switches.length : Int))) || (a1 == a2))))) then some (0, false) else (aQ a0.Switches a1).bind fun x6 =>
    (aQ a0.Switches a2).bind fun x7 =>
    (cw (pL a0 a1 x6 x7) (bm 0 (a0.Links.length : Int)) ()).bind fun q19 => match q19 with
    | .ret r => some r
    | .done () =>
    some (0, false))
def mU (a0 : (List Int)) (a1 : (List Int)) (i2 : Int) : Unit → Option (Br Unit Bool)
  | () =>
  (aQ a0 i2).bind fun x8 =>
    (aQ a1 i2).bind fun x9 =>
    (if (x8 != x9) then some (Br.ret false) else some (.next ()))
def gU (a0 : (List Int)) (a1 : (List Int)) : Option Bool :=
  (if ((a0.length : Int) != (a1.length : Int)) then some false else (cw (mU a0 a1) (bm 0 (a0.length : Int)) ()).bind fun q11 => match q11 with
    | .ret r => some r
    | .done () =>
    some true)
def mV (a0 : api_Topo) (a1 : Int) (a2 : Int) : Option Int :=
  (ff a0 (-1)).bind fun r1 =>
    (d8 r1 a1).bind fun r2 =>
    ((if (!r2) then some true else (d8 r1 a2).bind fun r4 =>
    some (!r4))).bind fun y5 =>
    (if y5 then some (-1) else (fI r1 a1).bind fun r8 =>
    (aQ r8 a2).bind fun x9 =>
    some x9)
def jz (a0 : api_Topo) (i2 : Int) : (List Int) → Option (List Int)
  | l1 =>
  ((aQ a0.Links i2).bind fun x8 =>
    (f7 a0 x8.a0.Sw).bind fun r9 =>
    (f7 a0 x8.a1.Sw).bind fun r10 =>
    ((if (r9.1 != r10.1) then (ff a0 i2).bind fun r12 =>
    (fI r12 r9.1).bind fun r13 =>
    (aQ r13 r10.1).bind fun x14 =>
    some (decide (x14 < 0)) else some false)).bind fun y15 =>
    (if y15 then (cJ l1 ([i2] : List Int)).bind fun l18 =>
    some l18 else some l1)).bind fun l19 =>
    some l19
def iE (a0 : api_Topo) : Option (List Int) :=
  (bS (jz a0) (bm 0 (a0.Links.length : Int)) ([] : List Int)).bind fun z21 =>
    some z21
def kL  : Option Bool :=
  (fv (api_Topo.mk ([5, 6, 7] : List Int) ([(A2.mk (api_Port.mk 5 1) (api_Port.mk 6 1)), (A2.mk (api_Port.mk 7 1) (api_Port.mk 6 2))] : List (A2 api_Port)) []) 0 2).bind fun r1 =>
    (mT (api_Topo.mk ([5, 6, 7] : List Int) ([(A2.mk (api_Port.mk 5 1) (api_Port.mk 6 1)), (A2.mk (api_Port.mk 7 1) (api_Port.mk 6 2))] : List (A2 api_Port)) []) 1 2).bind fun r2 =>
    ((if r1.2 then (if r2.2 then (gU r1.1 ([0, 1, 2] : List Int)).bind fun r5 =>
    (if r5 then (if (r2.1 == 2) then (mV (api_Topo.mk ([5, 6, 7] : List Int) ([(A2.mk (api_Port.mk 5 1) (api_Port.mk 6 1)), (A2.mk (api_Port.mk 7 1) (api_Port.mk 6 2))] : List (A2 api_Port)) []) 2 0).bind fun r8 =>
    (if (r8 == 2) then (iE (api_Topo.mk ([5, 6, 7] : List Int) ([(A2.mk (api_Port.mk 5 1) (api_Port.mk 6 1)), (A2.mk (api_Port.mk 7 1) (api_Port.mk 6 2))] : List (A2 api_Port)) [])).bind fun r10 =>
    some ((r10.length : Int) == 2) else some false) else some false) else some false) else some false) else some false)).bind fun y11 =>
    some y11
def mW (a0 : api_Topo) (a1 : Int) (i1 : Int) : Unit → Option (Br Unit Int)
  | () =>
  (aQ a0.Switches i1).bind fun x7 =>
    (if (x7 == a1) then some (Br.ret i1) else some (.next ()))
def ga (a0 : api_Topo) (a1 : Int) : Option Int :=
  (cw (mW a0 a1) (bm 0 (a0.Switches.length : Int)) ()).bind fun q9 => match q9 with
    | .ret r => some r
    | .done () =>
    some (-1)
def kM (a0 : api_Topo) (i2 : Int) : (List api_Port) → Option (List api_Port)
  | l1 =>
  (aQ a0.Links i2).bind fun x8 =>
    (cJ l1 ([x8.a0, x8.a1] : List api_Port)).bind fun l9 =>
    some l9
def jA (a0 : api_Topo) : Option (List api_Port) :=
  (bS (kM a0) (bm 0 (a0.Links.length : Int)) ([] : List api_Port)).bind fun z10 =>
    (cJ z10 a0.Hosts).bind fun l11 =>
    some l11
def mX (a0 : api_Topo) (i4 : Int) : Unit → Option (Br Unit Int)
  | () =>
  (aQ a0.Switches i4).bind fun x10 =>
    (ga a0 x10).bind fun r11 =>
    (if (r11 != i4) then some (Br.ret 12) else some (.next ()))
def mY (a0 : api_Topo) (r13 : (List api_Port)) (i14 : Int) : Unit → Option (Br Unit Int)
  | () =>
  (aQ r13 i14).bind fun x20 =>
    (ga a0 x20.Sw).bind fun r21 =>
    (if decide (r21 < 0) then some (Br.ret 12) else some (.next ()))
def mZ (r13 : (List api_Port)) (i23 : Int) (i29 : Int) : Unit → Option (Br Unit (Br Unit Int))
  | () =>
  (aQ r13 i23).bind fun x35 =>
    (aQ r13 i29).bind fun x36 =>
    (if (x35 == x36) then some (Br.ret (Br.ret 11)) else some (.next ()))
def m0 (r13 : (List api_Port)) (i23 : Int) : Unit → Option (Br Unit Int)
  | () =>
  (cw (mZ r13 i23) (bm 0 i23) ()).bind fun q38 => match q38 with
    | .ret r => some r
    | .done () =>
    some (.next ())
def jB (a0 : api_Topo) : Option Int :=
  (if ((decide ((a0.Switches.length : Int) > 12)) || ((decide ((a0.Links.length : Int) > 24)) || (decide ((a0.Hosts.length : Int) > 24)))) then some 2 else (cw (mX a0) (bm 0 (a0.Switches.length : Int)) ()).bind fun q41 => match q41 with
    | .ret r => some r
    | .done () =>
    (jA a0).bind fun r13 =>
    (cw (mY a0 r13) (bm 0 (r13.length : Int)) ()).bind fun q40 => match q40 with
    | .ret r => some r
    | .done () =>
    (cw (m0 r13) (bm 0 (r13.length : Int)) ()).bind fun q39 => match q39 with
    | .ret r => some r
    | .done () =>
    some 0)
def iF (a0 : api_Topo) (a1 : Int) : Option (Int × Int) :=
  (aQ a0.Links a1).bind fun x1 =>
    (ga a0 x1.a0.Sw).bind fun r2 =>
    (ga a0 x1.a1.Sw).bind fun r3 =>
    some (r2, r3)
def m6 (a0 : api_Topo) (a1 : Int) (a2 : Int) (a3 : Int) (i1 : Int) : Unit → Option (Br Unit Bool)
  | () =>
  (iF a0 i1).bind fun r7 =>
    (if ((i1 != a3) && ((a1 != a2) && (if (r7.1 == a1) then ((r7.2 == a2) || ((r7.1 == a2) && (r7.2 == a1))) else ((r7.1 == a2) && (r7.2 == a1))))) then some (Br.ret true) else some (.next ()))
def gV (a0 : api_Topo) (a1 : Int) (a2 : Int) (a3 : Int) : Option Bool :=
  (cw (m6 a0 a1 a2 a3) (bm 0 (a0.Links.length : Int)) ()).bind fun q15 => match q15 with
    | .ret r => some r
    | .done () =>
    some false
def kN (i7 : Int) : (List Int) → Option (List Int)
  | l6 =>
  (aQ l6 i7).bind fun x13 =>
    (b4 l6 i7 (-1)).bind fun l14 =>
    some l14
def jC (a0 : api_Topo) (a3 : Int) (i19 : Int) (i26 : Int) (i33 : Int) : (List Int) → Option (List Int)
  | l32 =>
  ((aQ l32 i26).bind fun x39 =>
    ((if (x39 == i19) then (aQ l32 i33).bind fun x41 =>
    (if decide (x41 < 0) then (gV a0 i26 i33 a3).bind fun r43 =>
    some r43 else some false) else some false)).bind fun y44 =>
    (if y44 then (aQ l32 i33).bind fun x47 =>
    (b4 l32 i33 (i19 + 1)).bind fun l48 =>
    some l48 else some l32)).bind fun l49 =>
    some l49
def kO (a0 : api_Topo) (a3 : Int) (i19 : Int) (i26 : Int) : (List Int) → Option (List Int)
  | l25 =>
  (bS (jC a0 a3 i19 i26) (bm 0 (a0.Switches.length : Int)) l25).bind fun z51 =>
    some z51
def jD (a0 : api_Topo) (a3 : Int) (i19 : Int) : (List Int) → Option (List Int)
  | l18 =>
  (bS (kO a0 a3 i19) (bm 0 (a0.Switches.length : Int)) l18).bind fun z53 =>
    some z53
def eN (a0 : api_Topo) (a1 : Int) (a2 : Int) (a3 : Int) : Option Int :=
  (if ((decide (a1 < 0)) || ((decide (a1 ≥ (a0.Switches.length : Int))) || ((decide (a2 < 0)) || (decide (a2 ≥ (a0.Switches.length : Int)))))) then some (-1) else (cT (a0.Switches.length : Int) 0).bind fun l5 =>
    (bS kN (bm 0 (a0.Switches.length : Int)) l5).bind fun z15 =>
    (aQ z15 a1).bind fun x16 =>
    (b4 z15 a1 0).bind fun l17 =>
    (bS (jD a0 a3) (bm 0 (a0.Switches.length : Int)) l17).bind fun z55 =>
    (aQ z55 a2).bind fun x56 =>
    some x56)
def jE (a0 : api_Topo) (a2 : Int) (i3 : Int) (i10 : Int) : ((List Int) × Int) → Option (((List Int) × Int) ⊕ ((List Int) × Int))
  | (l8, i9) =>
  (gV a0 i9 i10 (-1)).bind fun r16 =>
    ((if r16 then (eN a0 i10 a2 (-1)).bind fun r18 =>
    some (r18 == (IntKind.i64.wrap (i3 - 1))) else some false)).bind fun y19 =>
    (if y19 then (cJ l8 ([i10] : List Int)).bind fun l22 =>
    some (.inr (l22, i10)) else some (.inl (l8, i9)))
def iG (a0 : api_Topo) (a2 : Int) : (Int × (List Int) × Int) → Option ((Int × (List Int) × Int) ⊕ (Int × (List Int) × Int))
  | (i3, l4, i5) =>
  (if (i5 != a2) then (f6 (jE a0 a2 i3) (bm 0 (a0.Switches.length : Int)) (l4, i5)).bind fun (z23, z24) =>
    some (.inl (IntKind.i64.wrap (i3 - 1), z23, z24)) else some (.inr (i3, l4, i5)))
def eO (a0 : api_Topo) (a1 : Int) (a2 : Int) : Option ((List Int) × Bool) :=
  (eN a0 a1 a2 (-1)).bind fun r1 =>
    (if decide (r1 < 0) then some (([] : List Int), false) else (ew (iG a0 a2) dD (r1, ([a1] : List Int), a1)).bind fun (z26, z27, z28) =>
    some (z27, true))
def gb (a0 : api_Topo) (a1 : Int) : Option (List Int) :=
  (ff a0 (-1)).bind fun r1 =>
    (d8 r1 a1).bind fun r2 =>
    (if (!r2) then some ([] : List Int) else (aQ r1 a1).bind fun x4 =>
    some x4)
def kP (i4 : Int) : (List Int) → Option (List Int)
  | l3 =>
  (aQ l3 i4).bind fun x10 =>
    (b4 l3 i4 (-1)).bind fun l11 =>
    some l11
def kQ (i14 : Int) (r22 : (List Int)) (i24 : Int) : (List Int) → Option (List Int)
  | l23 =>
  ((aQ r22 i24).bind fun x30 =>
    (if decide (x30 ≥ 0) then (aQ l23 i24).bind fun x32 =>
    (b4 l23 i24 i14).bind fun l33 =>
    some l33 else some l23)).bind fun l34 =>
    some l34
def kR (r1 : (List (List Int))) (i14 : Int) : (List Int) → Option (List Int)
  | l13 =>
  ((aQ l13 i14).bind fun x20 =>
    (if decide (x20 ≥ 0) then some l13 else (fI r1 i14).bind fun r22 =>
    (bS (kQ i14 r22) (bm 0 (r22.length : Int)) l13).bind fun z36 =>
    some z36)).bind fun l38 =>
    some l38
def jF (a0 : api_Topo) : Option (List Int) :=
  (ff a0 (-1)).bind fun r1 =>
    (cT (r1.length : Int) 0).bind fun l2 =>
    (bS kP (bm 0 (l2.length : Int)) l2).bind fun z12 =>
    (bS (kR r1) (bm 0 (r1.length : Int)) z12).bind fun z40 =>
    some z40
def kS (a0 : api_Topo) (a1 : Int) (i4 : Int) : (List Int) → Option (List Int)
  | l3 =>
  ((aQ l3 i4).bind fun x10 =>
    (b4 l3 i4 (-1)).bind fun l11 =>
    (fv a0 a1 i4).bind fun r12 =>
    (if (r12.2 && (decide ((r12.1.length : Int) > 1))) then (aQ r12.1 (IntKind.i64.wrap ((r12.1.length : Int) - 2))).bind fun x15 =>
    (aQ l11 i4).bind fun x16 =>
    (b4 l11 i4 x15).bind fun l17 =>
    some l17 else some l11)).bind fun l18 =>
    some l18
def jG (a0 : api_Topo) (a1 : Int) : Option (List Int) :=
  (ff a0 (-1)).bind fun r1 =>
    (cT (r1.length : Int) 0).bind fun l2 =>
    (bS (kS a0 a1) (bm 0 (l2.length : Int)) l2).bind fun z20 =>
    some z20
def jH (a0 : (List Int)) (i4 : Int) : Int → Option Int
  | i3 =>
  (aQ a0 i4).bind fun x10 =>
    some (bO i3 x10)
def jI (a0 : (List Int)) : Option Int :=
  (if decide ((a0.length : Int) < 1) then none else (aQ a0 0).bind fun x2 =>
    (bS (jH a0) (bm 1 (a0.length : Int)) x2).bind fun z11 =>
    some z11)
def kT (r1 : (List (List Int))) (i3 : Int) : Int → Option Int
  | i2 =>
  (fI r1 i3).bind fun r9 =>
    (jI r9).bind fun r10 =>
    some (bO i2 r10)
def jJ (a0 : api_Topo) : Option Int :=
  (ff a0 (-1)).bind fun r1 =>
    (bS (kT r1) (bm 0 (r1.length : Int)) 0).bind fun z11 =>
    some z11
def gf (a0 : api_Topo) (a1 : Int) (i6 : Int) : (List Int) → Option (List Int)
  | l5 =>
  (((if decide (a1 ≥ 0) then (if decide (a1 < (a0.Switches.length : Int)) then (gV a0 a1 i6 (-1)).bind fun r14 =>
    some r14 else some false) else some false)).bind fun y15 =>
    (if y15 then (cJ l5 ([i6] : List Int)).bind fun l18 =>
    some l18 else some l5)).bind fun l19 =>
    some l19
def jK (a0 : api_Topo) (i30 : Int) (i45 : Int) : Int → Option Int
  | i44 =>
  (eN a0 i30 i45 (-1)).bind fun r51 =>
    some (bO i44 r51)
def jL (a0 : api_Topo) (i30 : Int) : Int → Option (Int ⊕ Int)
  | i53 =>
  (eN a0 i30 i53 (-1)).bind fun r55 =>
    (if decide (r55 < 0) then some (.inl (IntKind.i64.wrap (i53 + 1))) else some (.inr i53))
def jM (a0 : api_Topo) (a1 : Int) (r22 : (List Int)) (r23 : (List Int)) (i30 : Int) : Int → Option (Br Int Bool)
  | i29 =>
  ((eO a0 a1 i30).bind fun r36 =>
    (if (r36.2 && (decide ((r36.1.length : Int) > 1))) then (aQ r36.1 (IntKind.i64.wrap ((r36.1.length : Int) - 2))).bind fun x39 =>
    some x39 else some (-1))).bind fun y40 =>
    (aQ r23 i30).bind fun x42 =>
    (if (x42 != y40) then some (Br.ret false) else (bS (jK a0 i30) (bm 0 (a0.Switches.length : Int)) i29).bind fun z52 =>
    (ew (jL a0 i30) dD 0).bind fun z57 =>
    (aQ r22 i30).bind fun x58 =>
    (if (x58 != z57) then some (Br.ret false) else some (.next z52)))
def fJ (a0 : api_Topo) (i64 : Int) : (List Int) → Option (List Int)
  | l63 =>
  ((iF a0 i64).bind fun r70 =>
    ((if (r70.1 != r70.2) then (eN a0 r70.1 r70.2 i64).bind fun r72 =>
    some (decide (r72 < 0)) else some false)).bind fun y73 =>
    (if y73 then (cJ l63 ([i64] : List Int)).bind fun l76 =>
    some l76 else some l63)).bind fun l77 =>
    some l77
def law29_GraphParts (a0 : api_Topo) (a1 : Int) : Option Bool :=
  (kL).bind fun r1 =>
    (if (!r1) then some false else (jB a0).bind fun r3 =>
    (if (r3 != 0) then some true else (bS (gf a0 a1) (bm 0 (a0.Switches.length : Int)) ([] : List Int)).bind fun z21 =>
    (jF a0).bind fun r22 =>
    (jG a0 a1).bind fun r23 =>
    (gb a0 a1).bind fun r24 =>
    (gU r24 z21).bind fun r25 =>
    (if ((!r25) || (((r22.length : Int) != (a0.Switches.length : Int)) || ((r23.length : Int) != (a0.Switches.length : Int)))) then some false else (cw (jM a0 a1 r22 r23) (bm 0 (a0.Switches.length : Int)) 0).bind fun q87 => match q87 with
    | .ret r => some r
    | .done z62 =>
    (bS (fJ a0) (bm 0 (a0.Links.length : Int)) ([] : List Int)).bind fun z79 =>
    (iE a0).bind fun r80 =>
    (gU r80 z79).bind fun r81 =>
    ((if r81 then (jJ a0).bind fun r83 =>
    some (r83 == z62) else some false)).bind fun y84 =>
    some y84)))
end Go.AM
