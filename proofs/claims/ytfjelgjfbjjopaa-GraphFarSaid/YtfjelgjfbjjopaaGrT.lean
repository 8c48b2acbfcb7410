import Derived.Test.YtfjelgjfbjjopaaAmPv
set_option linter.unusedVariables false
namespace Go.AM
open Go
structure mw where
  F : Int
  N : Int
  deriving DecidableEq, Inhabited
structure mx where
  Match : (List mw)
  Acts : (List (List mw))
  deriving DecidableEq, Inhabited
structure api_Port where
  Sw : Int
  Pt : Int
  deriving DecidableEq, Inhabited
structure api_Topo where
  Switches : (List Int)
  Links : (List (A2 api_Port))
  Hosts : (List api_Port)
  deriving DecidableEq, Inhabited
structure u6 where
  At : Int
  Out : Bool
  Row : mx
  deriving DecidableEq, Inhabited
structure u7 where
  Which : (List Int)
  Lists : (List (List mx))
  deriving DecidableEq, Inhabited
def my (a0 : (List Int)) (a1 : Int) (i1 : Int) : Unit → Option (Br Unit Int)
  | () =>
  (aQ a0 i1).bind fun x7 =>
    (if (a1 == x7) then some (Br.ret i1) else some (.next ()))
def ji (a0 : (List Int)) (a1 : Int) : Option Int :=
  (cd (my a0 a1) (be 0 (a0.length : Int)) ()).bind fun q9 => match q9 with
    | .ret r => some r
    | .done () =>
    some (-1)
def fX (a0 : api_Topo) (a1 : Int) : Option (Int × Bool) :=
  (ji a0.Switches a1).bind fun r1 =>
    some (fD r1 0, decide (r1 ≥ 0))
def jk (a0 : (List Int)) (i2 : Int) (i14 : Int) : ((List Int) × Int) → Option ((List Int) × Int)
  | (l12, i13) =>
  ((fj l12 i2 (a0.length : Int) i14).bind fun x20 =>
    (aQ l12 (i2 + i14)).bind fun x21 =>
    (fj l12 i2 (a0.length : Int) (IntKind.i64.wrap (i14 - 1))).bind fun x22 =>
    (aQ l12 (i2 + (IntKind.i64.wrap (i14 - 1)))).bind fun x23 =>
    (if (x21 != x23) then (aQ l12 i13).bind fun x25 =>
    (bY l12 i13 x21).bind fun l26 =>
    some (l26, IntKind.i64.wrap (i13 + 1)) else some (l12, i13))).bind fun (l27, y28) =>
    some (l27, y28)
def iu (a0 : (List Int)) (i2 : Int) : Unit → Option (Br Unit (List Int))
  | () =>
  (aQ a0 i2).bind fun x8 =>
    (aQ a0 (IntKind.i64.wrap (i2 - 1))).bind fun x9 =>
    (if (x8 == x9) then (cL a0 i2 (a0.length : Int)).bind fun l11 =>
    (cm (jk a0 i2) (be 1 (l11.length : Int)) (a0, i2)).bind fun (z30, z31) =>
    (cL z30 z31 (z30.length : Int)).bind fun l32 =>
    some (Br.ret (z30.take z31.toNat)) else some (.next ()))
def iv (a0 : (List Int)) : Option (List Int) :=
  (if decide ((a0.length : Int) < 2) then some a0 else (cd (iu a0) (be 1 (a0.length : Int)) ()).bind fun q34 => match q34 with
    | .ret r => some r
    | .done () =>
    some a0)
def fY (x : Int) : List Int → List Int
  | [] => [x]
  | y :: l => if x ≤ y then x :: y :: l else y :: fY x l
def b6 : List Int → List Int
  | [] => []
  | x :: l => fY x (b6 l)
def jl (a0 : api_Topo) (a1 : Int) (i2 : Int) : (List (List Int)) → Option (List (List Int))
  | g =>
  (aQ a0.Links i2).bind fun x =>
    (fX a0 x.a0.Sw).bind fun r1 =>
    (fX a0 x.a1.Sw).bind fun r2 =>
    (if ((!r1.2) || ((!r2.2) || ((r1.1 == r2.1) || (i2 == a1)))) then some g else (aQ g r1.1).bind fun la =>
    (c8 la ([r2.1] : List Int)).bind fun la2 =>
    (aQ g r2.1).bind fun lb =>
    (c8 lb ([r1.1] : List Int)).bind fun lb2 =>
    (bY g r1.1 la2).bind fun g2 => bY g2 r2.1 lb2)
def kq (i2 : Int) : (List (List Int)) → Option (List (List Int))
  | g =>
  (aQ g i2).bind fun l =>
    (if l.length ≤ 4294967296 then (iv (b6 l)).bind fun r => bY g i2 r else none)
def fE (a0 : api_Topo) (a1 : Int) : Option (List (List Int)) :=
  (dg (a0.Switches.length : Int) ([] : List Int)).bind fun g0 =>
    (cm (jl a0 a1) (be 0 (a0.Links.length : Int)) g0).bind fun z1 =>
    (cm kq (be 0 (z1.length : Int)) z1).bind fun z2 =>
    some z2
def eJ (a0 : (List (List Int))) (a1 : Int) : Option Bool :=
  some ((decide (a1 ≥ 0)) && (decide (a1 < (a0.length : Int))))
def kr (i : Int) : (List Int) → Option (List Int)
  | l6 =>
  (aQ l6 i).bind fun x13 =>
    (bY l6 i (-1)).bind fun l14 =>
    some l14
def ku (l : List Int) (x : Int) (i : Int) : ((List Int) × (List Int)) → Option ((List Int) × (List Int))
  | (d, q) =>
  (aQ l i).bind fun k =>
    (aQ d k).bind fun dk =>
    (if decide (dk < 0) then (aQ d x).bind fun dx =>
    (bY d k (IntKind.i64.wrap (dx + 1))).bind fun d2 =>
    (c8 q ([k] : List Int)).bind fun q2 =>
    some (d2, q2) else some (d, q))
def jm (a0 : (List (List Int))) : ((List Int) × (List Int)) → Option (((List Int) × (List Int)) ⊕ ((List Int) × (List Int)))
  | (d, q) =>
  (if decide ((q.length : Int) > 0) then (aQ q 0).bind fun x =>
    (aQ a0 x).bind fun l =>
    (cm (ku l x) (be 0 (l.length : Int)) (d, q)).bind fun (d2, q2) =>
    (cL q2 1 (q2.length : Int)).bind fun q3 =>
    some (.inl (d2, q3)) else some (.inr (d, q)))
def fZ (a0 : (List (List Int))) (a1 : Int) : Option (List Int) :=
  (dg (a0.length : Int) (0 : Int)).bind fun l5 =>
    (cm kr (be 0 (l5.length : Int)) l5).bind fun z15 =>
    (eJ a0 a1).bind fun r2 =>
    (if (!r2) then some z15 else (aQ z15 a1).bind fun x16 =>
    (bY z15 a1 0).bind fun l17 =>
    (eX (jm a0) eb (l17, ([a1] : List Int))).bind fun (z, zq) =>
    some z)
def jn (a0 : Int) (a1 : (List Int)) (a2 : Int) : Option Bool :=
  (aQ a1 a0).bind fun x1 =>
    (aQ a1 a2).bind fun x2 =>
    some (x1 == (IntKind.i64.wrap (x2 - 1)))
def mz (a0 : (List Int)) (a1 : (Int → Option Bool)) (i1 : Int) : Unit → Option (Br Unit Int)
  | () =>
  (aQ a0 i1).bind fun x7 =>
    (a1 x7).bind fun x8 =>
    (if x8 then some (Br.ret i1) else some (.next ()))
def jo (a0 : (List Int)) (a1 : Int → Option Bool) : Option Int :=
  (cd (mz a0 a1) (be 0 (a0.length : Int)) ()).bind fun q10 => match q10 with
    | .ret r => some r
    | .done () =>
    some (-1)
def iw (a2 : Int) (r1 : (List (List Int))) (r8 : (List Int)) : ((List Int) × Int) → Option (((List Int) × Int) ⊕ ((List Int) × Int))
  | (l11, i12) =>
  (if (i12 != a2) then (aQ r1 i12).bind fun x15 =>
    (jo x15 (fun y0 => jn y0 r8 i12)).bind fun r16 =>
    (aQ x15 r16).bind fun x17 =>
    (c8 l11 ([x17] : List Int)).bind fun l18 =>
    some (.inl (l18, x17)) else some (.inr (l11, i12)))
def gJ (a0 : api_Topo) (a1 : Int) (a2 : Int) : Option ((List Int) × Bool) :=
  (fE a0 (-1)).bind fun r1 =>
    (eJ r1 a1).bind fun r2 =>
    ((if (!r2) then some true else (eJ r1 a2).bind fun r4 =>
    some (!r4))).bind fun y5 =>
    (if y5 then some (([] : List Int), false) else (fZ r1 a2).bind fun r8 =>
    (aQ r8 a1).bind fun x9 =>
    (if decide (x9 < 0) then some (([] : List Int), false) else (eX (iw a2 r1 r8) eb (([a1] : List Int), a1)).bind fun (z19, z20) =>
    some (z19, true)))
def po (a0 : api_Topo) (a1 : Int) (x6 : Int) (x7 : Int) (i8 : Int) : Unit → Option (Br Unit (Int × Bool))
  | () =>
  (aQ a0.Links i8).bind fun x14 =>
    (if ((x14.a0.Sw == x6) && (x14.a1.Sw == x7)) then some (Br.ret (x14.a0.Pt, true)) else (if ((x14.a1.Sw == x6) && (x14.a0.Sw == x7)) then some (Br.ret (x14.a1.Pt, true)) else some (.next ())))
def mA (a0 : api_Topo) (a1 : Int) (a2 : Int) : Option (Int × Bool) :=
  (if ((decide (a1 < 0)) || ((decide (a1 ≥ (a0.Switches.length : Int))) || ((decide (a2 < 0)) || ((decide (a2 ≥ (a0.Switches.length : Int))) || (a1 == a2))))) then some (0, false) else (aQ a0.Switches a1).bind fun x6 =>
    (aQ a0.Switches a2).bind fun x7 =>
    (cd (po a0 a1 x6 x7) (be 0 (a0.Links.length : Int)) ()).bind fun q19 => match q19 with
    | .ret r => some r
    | .done () =>
    some (0, false))
def pp (a0 : (List Int)) (a1 : (List Int)) (i2 : Int) : Unit → Option (Br Unit Bool)
  | () =>
  (aQ a0 i2).bind fun x8 =>
    (aQ a1 i2).bind fun x9 =>
    (if (x8 != x9) then some (Br.ret false) else some (.next ()))
def mB (a0 : (List Int)) (a1 : (List Int)) : Option Bool :=
  (if ((a0.length : Int) != (a1.length : Int)) then some false else (cd (pp a0 a1) (be 0 (a0.length : Int)) ()).bind fun q11 => match q11 with
    | .ret r => some r
    | .done () =>
    some true)
def fk (a0 : api_Topo) (a1 : Int) (a2 : Int) : Option Int :=
  (fE a0 (-1)).bind fun r1 =>
    (eJ r1 a1).bind fun r2 =>
    ((if (!r2) then some true else (eJ r1 a2).bind fun r4 =>
    some (!r4))).bind fun y5 =>
    (if y5 then some (-1) else (fZ r1 a1).bind fun r8 =>
    (aQ r8 a2).bind fun x9 =>
    some x9)
def pr (a0 : api_Topo) (i2 : Int) : (List Int) → Option (List Int)
  | l1 =>
  ((aQ a0.Links i2).bind fun x8 =>
    (fX a0 x8.a0.Sw).bind fun r9 =>
    (fX a0 x8.a1.Sw).bind fun r10 =>
    ((if (r9.1 != r10.1) then (fE a0 i2).bind fun r12 =>
    (fZ r12 r9.1).bind fun r13 =>
    (aQ r13 r10.1).bind fun x14 =>
    some (decide (x14 < 0)) else some false)).bind fun y15 =>
    (if y15 then (c8 l1 ([i2] : List Int)).bind fun l18 =>
    some l18 else some l1)).bind fun l19 =>
    some l19
def mC (a0 : api_Topo) : Option (List Int) :=
  (cm (pr a0) (be 0 (a0.Links.length : Int)) ([] : List Int)).bind fun z21 =>
    some z21
def kv  : Option Bool :=
  (gJ (api_Topo.mk ([5, 6, 7] : List Int) ([(A2.mk (api_Port.mk 5 1) (api_Port.mk 6 1)), (A2.mk (api_Port.mk 7 1) (api_Port.mk 6 2))] : List (A2 api_Port)) []) 0 2).bind fun r1 =>
    (mA (api_Topo.mk ([5, 6, 7] : List Int) ([(A2.mk (api_Port.mk 5 1) (api_Port.mk 6 1)), (A2.mk (api_Port.mk 7 1) (api_Port.mk 6 2))] : List (A2 api_Port)) []) 1 2).bind fun r2 =>
    ((if r1.2 then (if r2.2 then (mB r1.1 ([0, 1, 2] : List Int)).bind fun r5 =>
    (if r5 then (if (r2.1 == 2) then (fk (api_Topo.mk ([5, 6, 7] : List Int) ([(A2.mk (api_Port.mk 5 1) (api_Port.mk 6 1)), (A2.mk (api_Port.mk 7 1) (api_Port.mk 6 2))] : List (A2 api_Port)) []) 2 0).bind fun r8 =>
    (if (r8 == 2) then (mC (api_Topo.mk ([5, 6, 7] : List Int) ([(A2.mk (api_Port.mk 5 1) (api_Port.mk 6 1)), (A2.mk (api_Port.mk 7 1) (api_Port.mk 6 2))] : List (A2 api_Port)) [])).bind fun r10 =>
    some ((r10.length : Int) == 2) else some false) else some false) else some false) else some false) else some false)).bind fun y11 =>
    some y11
def mD (a0 : api_Topo) (a1 : Int) (i1 : Int) : Unit → Option (Br Unit Int)
  | () =>
  (aQ a0.Switches i1).bind fun x7 =>
    (if (x7 == a1) then some (Br.ret i1) else some (.next ()))
def f4 (a0 : api_Topo) (a1 : Int) : Option Int :=
  (cd (mD a0 a1) (be 0 (a0.Switches.length : Int)) ()).bind fun q9 => match q9 with
    | .ret r => some r
    | .done () =>
    some (-1)
def kw (a0 : api_Topo) (i2 : Int) : (List api_Port) → Option (List api_Port)
  | l1 =>
  (aQ a0.Links i2).bind fun x8 =>
    (c8 l1 ([x8.a0, x8.a1] : List api_Port)).bind fun l9 =>
    some l9
def jp (a0 : api_Topo) : Option (List api_Port) :=
  (cm (kw a0) (be 0 (a0.Links.length : Int)) ([] : List api_Port)).bind fun z10 =>
    (c8 z10 a0.Hosts).bind fun l11 =>
    some l11
def mE (a0 : api_Topo) (i4 : Int) : Unit → Option (Br Unit Int)
  | () =>
  (aQ a0.Switches i4).bind fun x10 =>
    (f4 a0 x10).bind fun r11 =>
    (if (r11 != i4) then some (Br.ret 12) else some (.next ()))
def mF (a0 : api_Topo) (r13 : (List api_Port)) (i14 : Int) : Unit → Option (Br Unit Int)
  | () =>
  (aQ r13 i14).bind fun x20 =>
    (f4 a0 x20.Sw).bind fun r21 =>
    (if decide (r21 < 0) then some (Br.ret 12) else some (.next ()))
def mG (r13 : (List api_Port)) (i23 : Int) (i29 : Int) : Unit → Option (Br Unit (Br Unit Int))
  | () =>
  (aQ r13 i23).bind fun x35 =>
    (aQ r13 i29).bind fun x36 =>
    (if (x35 == x36) then some (Br.ret (Br.ret 11)) else some (.next ()))
def mH (r13 : (List api_Port)) (i23 : Int) : Unit → Option (Br Unit Int)
  | () =>
  (cd (mG r13 i23) (be 0 i23) ()).bind fun q38 => match q38 with
    | .ret r => some r
    | .done () =>
    some (.next ())
def jq (a0 : api_Topo) : Option Int :=
  (if ((decide ((a0.Switches.length : Int) > 12)) || ((decide ((a0.Links.length : Int) > 24)) || (decide ((a0.Hosts.length : Int) > 24)))) then some 2 else (cd (mE a0) (be 0 (a0.Switches.length : Int)) ()).bind fun q41 => match q41 with
    | .ret r => some r
    | .done () =>
    (jp a0).bind fun r13 =>
    (cd (mF a0 r13) (be 0 (r13.length : Int)) ()).bind fun q40 => match q40 with
    | .ret r => some r
    | .done () =>
    (cd (mH r13) (be 0 (r13.length : Int)) ()).bind fun q39 => match q39 with
    | .ret r => some r
    | .done () =>
    some 0)
def ky (a0 : api_Topo) (a1 : Int) : Option (Int × Int) :=
  (aQ a0.Links a1).bind fun x1 =>
    (f4 a0 x1.a0.Sw).bind fun r2 =>
    (f4 a0 x1.a1.Sw).bind fun r3 =>
    some (r2, r3)
def mI (a0 : api_Topo) (a1 : Int) (a2 : Int) (a3 : Int) (i1 : Int) : Unit → Option (Br Unit Bool)
  | () =>
  (ky a0 i1).bind fun r7 =>
    (if ((i1 != a3) && ((a1 != a2) && (if (r7.1 == a1) then ((r7.2 == a2) || ((r7.1 == a2) && (r7.2 == a1))) else ((r7.1 == a2) && (r7.2 == a1))))) then some (Br.ret true) else some (.next ()))
def jr (a0 : api_Topo) (a1 : Int) (a2 : Int) (a3 : Int) : Option Bool :=
  (cd (mI a0 a1 a2 a3) (be 0 (a0.Links.length : Int)) ()).bind fun q15 => match q15 with
    | .ret r => some r
    | .done () =>
    some false
def kz (i7 : Int) : (List Int) → Option (List Int)
  | l6 =>
  (aQ l6 i7).bind fun x13 =>
    (bY l6 i7 (-1)).bind fun l14 =>
    some l14
def js (a0 : api_Topo) (a3 : Int) (i19 : Int) (i26 : Int) (i33 : Int) : (List Int) → Option (List Int)
  | l32 =>
  ((aQ l32 i26).bind fun x39 =>
    ((if (x39 == i19) then (aQ l32 i33).bind fun x41 =>
    (if decide (x41 < 0) then (jr a0 i26 i33 a3).bind fun r43 =>
    some r43 else some false) else some false)).bind fun y44 =>
    (if y44 then (aQ l32 i33).bind fun x47 =>
    (bY l32 i33 (i19 + 1)).bind fun l48 =>
    some l48 else some l32)).bind fun l49 =>
    some l49
def kA (a0 : api_Topo) (a3 : Int) (i19 : Int) (i26 : Int) : (List Int) → Option (List Int)
  | l25 =>
  (cm (js a0 a3 i19 i26) (be 0 (a0.Switches.length : Int)) l25).bind fun z51 =>
    some z51
def jt (a0 : api_Topo) (a3 : Int) (i19 : Int) : (List Int) → Option (List Int)
  | l18 =>
  (cm (kA a0 a3 i19) (be 0 (a0.Switches.length : Int)) l18).bind fun z53 =>
    some z53
def iy (a0 : api_Topo) (a1 : Int) (a2 : Int) (a3 : Int) : Option Int :=
  (if ((decide (a1 < 0)) || ((decide (a1 ≥ (a0.Switches.length : Int))) || ((decide (a2 < 0)) || (decide (a2 ≥ (a0.Switches.length : Int)))))) then some (-1) else (dg (a0.Switches.length : Int) 0).bind fun l5 =>
    (cm kz (be 0 (a0.Switches.length : Int)) l5).bind fun z15 =>
    (aQ z15 a1).bind fun x16 =>
    (bY z15 a1 0).bind fun l17 =>
    (cm (jt a0 a3) (be 0 (a0.Switches.length : Int)) l17).bind fun z55 =>
    (aQ z55 a2).bind fun x56 =>
    some x56)
def ju (a0 : api_Topo) (a2 : Int) (i3 : Int) (i10 : Int) : ((List Int) × Int) → Option (((List Int) × Int) ⊕ ((List Int) × Int))
  | (l8, i9) =>
  (jr a0 i9 i10 (-1)).bind fun r16 =>
    ((if r16 then (iy a0 i10 a2 (-1)).bind fun r18 =>
    some (r18 == (IntKind.i64.wrap (i3 - 1))) else some false)).bind fun y19 =>
    (if y19 then (c8 l8 ([i10] : List Int)).bind fun l22 =>
    some (.inr (l22, i10)) else some (.inl (l8, i9)))
def iz (a0 : api_Topo) (a2 : Int) : (Int × (List Int) × Int) → Option ((Int × (List Int) × Int) ⊕ (Int × (List Int) × Int))
  | (i3, l4, i5) =>
  (if (i5 != a2) then (ir (ju a0 a2 i3) (be 0 (a0.Switches.length : Int)) (l4, i5)).bind fun (z23, z24) =>
    some (.inl (IntKind.i64.wrap (i3 - 1), z23, z24)) else some (.inr (i3, l4, i5)))
def kB (a0 : api_Topo) (a1 : Int) (a2 : Int) : Option ((List Int) × Bool) :=
  (iy a0 a1 a2 (-1)).bind fun r1 =>
    (if decide (r1 < 0) then some (([] : List Int), false) else (eX (iz a0 a2) eb (r1, ([a1] : List Int), a1)).bind fun (z26, z27, z28) =>
    some (z27, true))
def jv (a0 : api_Topo) (a1 : Int) : Option (List Int) :=
  (fE a0 (-1)).bind fun r1 =>
    (eJ r1 a1).bind fun r2 =>
    (if (!r2) then some ([] : List Int) else (aQ r1 a1).bind fun x4 =>
    some x4)
def kC (i4 : Int) : (List Int) → Option (List Int)
  | l3 =>
  (aQ l3 i4).bind fun x10 =>
    (bY l3 i4 (-1)).bind fun l11 =>
    some l11
def kD (i14 : Int) (r22 : (List Int)) (i24 : Int) : (List Int) → Option (List Int)
  | l23 =>
  ((aQ r22 i24).bind fun x30 =>
    (if decide (x30 ≥ 0) then (aQ l23 i24).bind fun x32 =>
    (bY l23 i24 i14).bind fun l33 =>
    some l33 else some l23)).bind fun l34 =>
    some l34
def kE (r1 : (List (List Int))) (i14 : Int) : (List Int) → Option (List Int)
  | l13 =>
  ((aQ l13 i14).bind fun x20 =>
    (if decide (x20 ≥ 0) then some l13 else (fZ r1 i14).bind fun r22 =>
    (cm (kD i14 r22) (be 0 (r22.length : Int)) l13).bind fun z36 =>
    some z36)).bind fun l38 =>
    some l38
def jw (a0 : api_Topo) : Option (List Int) :=
  (fE a0 (-1)).bind fun r1 =>
    (dg (r1.length : Int) 0).bind fun l2 =>
    (cm kC (be 0 (l2.length : Int)) l2).bind fun z12 =>
    (cm (kE r1) (be 0 (r1.length : Int)) z12).bind fun z40 =>
    some z40
def jx (r19 : ((List Int) × Bool)) (i23 : Int) (r30 : (List Int)) (i32 : Int) : Bool → Option Bool
  | y31 =>
  (aQ r30 i32).bind fun x38 =>
    ((if y31 then some true else (aQ r19.1 i23).bind fun x40 =>
    some (x38 == x40))).bind fun y41 =>
    some y41
def jy (a0 : api_Topo) (q6 : Int) (r19 : ((List Int) × Bool)) (i23 : Int) : Unit → Option (Br Unit Bool)
  | () =>
  (aQ r19.1 (IntKind.i64.wrap (i23 - 1))).bind fun x29 =>
    (jv a0 x29).bind fun r30 =>
    (cm (jx r19 i23 r30) (be 0 (r30.length : Int)) false).bind fun z43 =>
    ((if (!z43) then some true else (aQ r19.1 i23).bind fun x45 =>
    (fk a0 q6 x45).bind fun r46 =>
    some (r46 != i23))).bind fun y47 =>
    (if y47 then some (Br.ret false) else some (.next ()))
def law29_GraphFar (a0 : api_Topo) (a1 : (A3 Int)) : Option Bool :=
  (kv).bind fun r1 =>
    (if (!r1) then some false else (jq a0).bind fun r3 =>
    (if ((r3 != 0) || ((a0.Switches.length : Int) == 0)) then some true else (fW (IntKind.i64.wrap a1.a0) (a0.Switches.length : Int)).bind fun q6 =>
    (fW (IntKind.i64.wrap a1.a1) (a0.Switches.length : Int)).bind fun q7 =>
    (fW (IntKind.i64.wrap a1.a2) (a0.Switches.length : Int)).bind fun q8 =>
    (fk a0 q6 q7).bind fun r9 =>
    (fk a0 q7 q8).bind fun r10 =>
    (fk a0 q6 q8).bind fun r11 =>
    (fk a0 q7 q6).bind fun r12 =>
    (if ((r9 != r12) || (if decide (r9 ≥ 0) then (if decide (r10 ≥ 0) then ((decide (r11 < 0)) || ((decide (r11 > (IntKind.i64.wrap (r9 + r10)))) || (!((r9 == 0) == (q6 == q7))))) else (!((r9 == 0) == (q6 == q7)))) else (!((r9 == 0) == (q6 == q7))))) then some false else (gJ a0 q6 q7).bind fun r19 =>
    (if ((!(r19.2 == (decide (r9 ≥ 0)))) || (r19.2 && ((r19.1.length : Int) != (IntKind.i64.wrap (r9 + 1))))) then some false else (cd (jy a0 q6 r19) (be 1 (r19.1.length : Int)) ()).bind fun q57 => match q57 with
    | .ret r => some r
    | .done () =>
    (jw a0).bind fun r51 =>
    ((if ((r51.length : Int) == (a0.Switches.length : Int)) then (aQ r51 q6).bind fun x53 =>
    (aQ r51 q7).bind fun x54 =>
    some ((x53 == x54) == (decide (r9 ≥ 0))) else some false)).bind fun y55 =>
    some y55))))
end Go.AM
