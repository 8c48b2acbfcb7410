import Derived.Test.YtfjelgjfbjjopaaAmPv
/-  Several texts in one. -/
section
set_option linter.unusedVariables false
namespace Go.AM
open Go
structure mf where
  F : Int
  N : Int
  deriving DecidableEq, Inhabited
structure mg where
  Match : (List mf)
  Acts : (List (List mf))
  deriving DecidableEq, Inhabited
structure api_Port where
  Sw : Int
  Pt : Int
  deriving DecidableEq, Inhabited
structure api_Topo where
  Switches : (List Int)
  Links : (List (A2 api_Port))
  Hosts : (List api_Port)
  deriving DecidableEq, Inhabited
structure uX where
  At : Int
  Out : Bool
  Row : mg
  deriving DecidableEq, Inhabited
structure uY where
  Which : (List Int)
  Lists : (List (List mg))
  deriving DecidableEq, Inhabited
def mh (a0 : (List Int)) (a1 : Int) (i1 : Int) : Unit → Option (Br Unit Int)
  | () =>
  (aW a0 i1).bind fun x7 =>
    (if (a1 == x7) then some (Br.ret i1) else some (.next ()))
def jf (a0 : (List Int)) (a1 : Int) : Option Int :=
  (cf (mh a0 a1) (bx 0 (a0.length : Int)) ()).bind fun q9 => match q9 with
    | .ret r => some r
    | .done () =>
    some (-1)
def fR (a0 : api_Topo) (a1 : Int) : Option (Int × Bool) :=
  (jf a0.Switches a1).bind fun r1 =>
    some (fB r1 0, decide (r1 ≥ 0))
def jg (a0 : (List Int)) (i2 : Int) (i14 : Int) : ((List Int) × Int) → Option ((List Int) × Int)
  | (l12, i13) =>
  ((fe l12 i2 (a0.length : Int) i14).bind fun x20 =>
    (aW l12 (i2 + i14)).bind fun x21 =>
    (fe l12 i2 (a0.length : Int) (IntKind.i64.wrap (i14 - 1))).bind fun x22 =>
    (aW l12 (i2 + (IntKind.i64.wrap (i14 - 1)))).bind fun x23 =>
    (if (x21 != x23) then (aW l12 i13).bind fun x25 =>
    (b7 l12 i13 x21).bind fun l26 =>
    some (l26, IntKind.i64.wrap (i13 + 1)) else some (l12, i13))).bind fun (l27, y28) =>
    some (l27, y28)
def ie (a0 : (List Int)) (i2 : Int) : Unit → Option (Br Unit (List Int))
  | () =>
  (aW a0 i2).bind fun x8 =>
    (aW a0 (IntKind.i64.wrap (i2 - 1))).bind fun x9 =>
    (if (x8 == x9) then (cJ a0 i2 (a0.length : Int)).bind fun l11 =>
    (cF (jg a0 i2) (bx 1 (l11.length : Int)) (a0, i2)).bind fun (z30, z31) =>
    (cJ z30 z31 (z30.length : Int)).bind fun l32 =>
    some (Br.ret (z30.take z31.toNat)) else some (.next ()))
def ig (a0 : (List Int)) : Option (List Int) :=
  (if decide ((a0.length : Int) < 2) then some a0 else (cf (ie a0) (bx 1 (a0.length : Int)) ()).bind fun q34 => match q34 with
    | .ret r => some r
    | .done () =>
    some a0)
def fT (x : Int) : List Int → List Int
  | [] => [x]
  | y :: l => if x ≤ y then x :: y :: l else y :: fT x l
def b4 : List Int → List Int
  | [] => []
  | x :: l => fT x (b4 l)
def jh (a0 : api_Topo) (a1 : Int) (i2 : Int) : (List (List Int)) → Option (List (List Int))
  | g =>
  (aW a0.Links i2).bind fun x =>
    (fR a0 x.a0.Sw).bind fun r1 =>
    (fR a0 x.a1.Sw).bind fun r2 =>
    (if ((!r1.2) || ((!r2.2) || ((r1.1 == r2.1) || (i2 == a1)))) then some g else (aW g r1.1).bind fun la =>
    (c8 la ([r2.1] : List Int)).bind fun la2 =>
    (aW g r2.1).bind fun lb =>
    (c8 lb ([r1.1] : List Int)).bind fun lb2 =>
    (b7 g r1.1 la2).bind fun g2 => b7 g2 r2.1 lb2)
def ke (i2 : Int) : (List (List Int)) → Option (List (List Int))
  | g =>
  (aW g i2).bind fun l =>
    (if l.length ≤ 4294967296 then (ig (b4 l)).bind fun r => b7 g i2 r else none)
def gH (a0 : api_Topo) (a1 : Int) : Option (List (List Int)) :=
  (dG (a0.Switches.length : Int) ([] : List Int)).bind fun g0 =>
    (cF (jh a0 a1) (bx 0 (a0.Links.length : Int)) g0).bind fun z1 =>
    (cF ke (bx 0 (z1.length : Int)) z1).bind fun z2 =>
    some z2
def eg (a0 : (List (List Int))) (a1 : Int) : Option Bool :=
  some ((decide (a1 ≥ 0)) && (decide (a1 < (a0.length : Int))))
def kf (i : Int) : (List Int) → Option (List Int)
  | l6 =>
  (aW l6 i).bind fun x13 =>
    (b7 l6 i (-1)).bind fun l14 =>
    some l14
def kg (l : List Int) (x : Int) (i : Int) : ((List Int) × (List Int)) → Option ((List Int) × (List Int))
  | (d, q) =>
  (aW l i).bind fun k =>
    (aW d k).bind fun dk =>
    (if decide (dk < 0) then (aW d x).bind fun dx =>
    (b7 d k (IntKind.i64.wrap (dx + 1))).bind fun d2 =>
    (c8 q ([k] : List Int)).bind fun q2 =>
    some (d2, q2) else some (d, q))
def ji (a0 : (List (List Int))) : ((List Int) × (List Int)) → Option (((List Int) × (List Int)) ⊕ ((List Int) × (List Int)))
  | (d, q) =>
  (if decide ((q.length : Int) > 0) then (aW q 0).bind fun x =>
    (aW a0 x).bind fun l =>
    (cF (kg l x) (bx 0 (l.length : Int)) (d, q)).bind fun (d2, q2) =>
    (cJ q2 1 (q2.length : Int)).bind fun q3 =>
    some (.inl (d2, q3)) else some (.inr (d, q)))
def gI (a0 : (List (List Int))) (a1 : Int) : Option (List Int) :=
  (dG (a0.length : Int) (0 : Int)).bind fun l5 =>
    (cF kf (bx 0 (l5.length : Int)) l5).bind fun z15 =>
    (eg a0 a1).bind fun r2 =>
    (if (!r2) then some z15 else (aW z15 a1).bind fun x16 =>
    (b7 z15 a1 0).bind fun l17 =>
    (eQ (ji a0) ef (l17, ([a1] : List Int))).bind fun (z, zq) =>
    some z)
def jk (a0 : Int) (a1 : (List Int)) (a2 : Int) : Option Bool :=
  (aW a1 a0).bind fun x1 =>
    (aW a1 a2).bind fun x2 =>
    some (x1 == (IntKind.i64.wrap (x2 - 1)))
def mj (a0 : (List Int)) (a1 : (Int → Option Bool)) (i1 : Int) : Unit → Option (Br Unit Int)
  | () =>
  (aW a0 i1).bind fun x7 =>
    (a1 x7).bind fun x8 =>
    (if x8 then some (Br.ret i1) else some (.next ()))
def jl (a0 : (List Int)) (a1 : Int → Option Bool) : Option Int :=
  (cf (mj a0 a1) (bx 0 (a0.length : Int)) ()).bind fun q10 => match q10 with
    | .ret r => some r
    | .done () =>
    some (-1)
def ik (a2 : Int) (r1 : (List (List Int))) (r8 : (List Int)) : ((List Int) × Int) → Option (((List Int) × Int) ⊕ ((List Int) × Int))
  | (l11, i12) =>
  (if (i12 != a2) then (aW r1 i12).bind fun x15 =>
    (jl x15 (fun y0 => jk y0 r8 i12)).bind fun r16 =>
    (aW x15 r16).bind fun x17 =>
    (c8 l11 ([x17] : List Int)).bind fun l18 =>
    some (.inl (l18, x17)) else some (.inr (l11, i12)))
def ff (a0 : api_Topo) (a1 : Int) (a2 : Int) : Option ((List Int) × Bool) :=
  (gH a0 (-1)).bind fun r1 =>
    (eg r1 a1).bind fun r2 =>
    ((if (!r2) then some true else (eg r1 a2).bind fun r4 =>
    some (!r4))).bind fun y5 =>
    (if y5 then some (([] : List Int), false) else (gI r1 a2).bind fun r8 =>
    (aW r8 a1).bind fun x9 =>
    (if decide (x9 < 0) then some (([] : List Int), false) else (eQ (ik a2 r1 r8) ef (([a1] : List Int), a1)).bind fun (z19, z20) =>
    some (z19, true)))
def ml (a0 : api_Topo) (a1 : Int) (x6 : Int) (x7 : Int) (i8 : Int) : Unit → Option (Br Unit (Int × Bool))
  | () =>
  (aW a0.Links i8).bind fun x14 =>
    (if ((x14.a0.Sw == x6) && (x14.a1.Sw == x7)) then some (Br.ret (x14.a0.Pt, true)) else (if ((x14.a1.Sw == x6) && (x14.a0.Sw == x7)) then some (Br.ret (x14.a1.Pt, true)) else some (.next ())))
def fU (a0 : api_Topo) (a1 : Int) (a2 : Int) : Option (Int × Bool) :=
  (if ((decide (a1 < 0)) || ((decide (a1 ≥ (a0.Switches.length : Int))) || ((decide (a2 < 0)) || ((decide (a2 ≥ (a0.Switches.length : Int))) || (a1 == a2))))) then some (0, false) else (aW a0.Switches a1).bind fun x6 =>
    (aW a0.Switches a2).bind fun x7 =>
    (cf (ml a0 a1 x6 x7) (bx 0 (a0.Links.length : Int)) ()).bind fun q19 => match q19 with
    | .ret r => some r
    | .done () =>
    some (0, false))
def mm (a0 : (List Int)) (a1 : (List Int)) (i2 : Int) : Unit → Option (Br Unit Bool)
  | () =>
  (aW a0 i2).bind fun x8 =>
    (aW a1 i2).bind fun x9 =>
    (if (x8 != x9) then some (Br.ret false) else some (.next ()))
def il (a0 : (List Int)) (a1 : (List Int)) : Option Bool :=
  (if ((a0.length : Int) != (a1.length : Int)) then some false else (cf (mm a0 a1) (bx 0 (a0.length : Int)) ()).bind fun q11 => match q11 with
    | .ret r => some r
    | .done () =>
    some true)
def fV (a0 : api_Topo) (a1 : Int) (a2 : Int) : Option Int :=
  (gH a0 (-1)).bind fun r1 =>
    (eg r1 a1).bind fun r2 =>
    ((if (!r2) then some true else (eg r1 a2).bind fun r4 =>
    some (!r4))).bind fun y5 =>
    (if y5 then some (-1) else (gI r1 a1).bind fun r8 =>
    (aW r8 a2).bind fun x9 =>
    some x9)
def pi (a0 : api_Topo) (i2 : Int) : (List Int) → Option (List Int)
  | l1 =>
  ((aW a0.Links i2).bind fun x8 =>
    (fR a0 x8.a0.Sw).bind fun r9 =>
    (fR a0 x8.a1.Sw).bind fun r10 =>
    ((if (r9.1 != r10.1) then (gH a0 i2).bind fun r12 =>
    (gI r12 r9.1).bind fun r13 =>
    (aW r13 r10.1).bind fun x14 =>
    some (decide (x14 < 0)) else some false)).bind fun y15 =>
    (if y15 then (c8 l1 ([i2] : List Int)).bind fun l18 =>
    some l18 else some l1)).bind fun l19 =>
    some l19
def mn (a0 : api_Topo) : Option (List Int) :=
  (cF (pi a0) (bx 0 (a0.Links.length : Int)) ([] : List Int)).bind fun z21 =>
    some z21
def kh  : Option Bool :=
  (ff (api_Topo.mk ([5, 6, 7] : List Int) ([(A2.mk (api_Port.mk 5 1) (api_Port.mk 6 1)), (A2.mk (api_Port.mk 7 1) (api_Port.mk 6 2))] : List (A2 api_Port)) []) 0 2).bind fun r1 =>
    (fU (api_Topo.mk ([5, 6, 7] : List Int) ([(A2.mk (api_Port.mk 5 1) (api_Port.mk 6 1)), (A2.mk (api_Port.mk 7 1) (api_Port.mk 6 2))] : List (A2 api_Port)) []) 1 2).bind fun r2 =>
    ((if r1.2 then (if r2.2 then (il r1.1 ([0, 1, 2] : List Int)).bind fun r5 =>
    (if r5 then (if (r2.1 == 2) then (fV (api_Topo.mk ([5, 6, 7] : List Int) ([(A2.mk (api_Port.mk 5 1) (api_Port.mk 6 1)), (A2.mk (api_Port.mk 7 1) (api_Port.mk 6 2))] : List (A2 api_Port)) []) 2 0).bind fun r8 =>
    (if (r8 == 2) then (mn (api_Topo.mk ([5, 6, 7] : List Int) ([(A2.mk (api_Port.mk 5 1) (api_Port.mk 6 1)), (A2.mk (api_Port.mk 7 1) (api_Port.mk 6 2))] : List (A2 api_Port)) [])).bind fun r10 =>
    some ((r10.length : Int) == 2) else some false) else some false) else some false) else some false) else some false)).bind fun y11 =>
    some y11
def mo (a0 : api_Topo) (a1 : Int) (i1 : Int) : Unit → Option (Br Unit Int)
  | () =>
  (aW a0.Switches i1).bind fun x7 =>
    (if (x7 == a1) then some (Br.ret i1) else some (.next ()))
def fW (a0 : api_Topo) (a1 : Int) : Option Int :=
  (cf (mo a0 a1) (bx 0 (a0.Switches.length : Int)) ()).bind fun q9 => match q9 with
    | .ret r => some r
    | .done () =>
    some (-1)
def ki (a0 : api_Topo) (i2 : Int) : (List api_Port) → Option (List api_Port)
  | l1 =>
  (aW a0.Links i2).bind fun x8 =>
    (c8 l1 ([x8.a0, x8.a1] : List api_Port)).bind fun l9 =>
    some l9
def jm (a0 : api_Topo) : Option (List api_Port) :=
  (cF (ki a0) (bx 0 (a0.Links.length : Int)) ([] : List api_Port)).bind fun z10 =>
    (c8 z10 a0.Hosts).bind fun l11 =>
    some l11
def mq (a0 : api_Topo) (i4 : Int) : Unit → Option (Br Unit Int)
  | () =>
  (aW a0.Switches i4).bind fun x10 =>
    (fW a0 x10).bind fun r11 =>
    (if (r11 != i4) then some (Br.ret 12) else some (.next ()))
def mr (a0 : api_Topo) (r13 : (List api_Port)) (i14 : Int) : Unit → Option (Br Unit Int)
  | () =>
  (aW r13 i14).bind fun x20 =>
    (fW a0 x20.Sw).bind fun r21 =>
    (if decide (r21 < 0) then some (Br.ret 12) else some (.next ()))
def ms (r13 : (List api_Port)) (i23 : Int) (i29 : Int) : Unit → Option (Br Unit (Br Unit Int))
  | () =>
  (aW r13 i23).bind fun x35 =>
    (aW r13 i29).bind fun x36 =>
    (if (x35 == x36) then some (Br.ret (Br.ret 11)) else some (.next ()))
def mt (r13 : (List api_Port)) (i23 : Int) : Unit → Option (Br Unit Int)
  | () =>
  (cf (ms r13 i23) (bx 0 i23) ()).bind fun q38 => match q38 with
    | .ret r => some r
    | .done () =>
    some (.next ())
def jn (a0 : api_Topo) : Option Int :=
  (if ((decide ((a0.Switches.length : Int) > 12)) || ((decide ((a0.Links.length : Int) > 24)) || (decide ((a0.Hosts.length : Int) > 24)))) then some 2 else (cf (mq a0) (bx 0 (a0.Switches.length : Int)) ()).bind fun q41 => match q41 with
    | .ret r => some r
    | .done () =>
    (jm a0).bind fun r13 =>
    (cf (mr a0 r13) (bx 0 (r13.length : Int)) ()).bind fun q40 => match q40 with
    | .ret r => some r
    | .done () =>
    (cf (mt r13) (bx 0 (r13.length : Int)) ()).bind fun q39 => match q39 with
    | .ret r => some r
    | .done () =>
    some 0)
def jo (a0 : api_Topo) (a1 : Int) : Option (Int × Int) :=
  (aW a0.Links a1).bind fun x1 =>
    (fW a0 x1.a0.Sw).bind fun r2 =>
    (fW a0 x1.a1.Sw).bind fun r3 =>
    some (r2, r3)
def mu (a0 : api_Topo) (a1 : Int) (a2 : Int) (a3 : Int) (i1 : Int) : Unit → Option (Br Unit Bool)
  | () =>
  (jo a0 i1).bind fun r7 =>
    (if ((i1 != a3) && ((a1 != a2) && (if (r7.1 == a1) then ((r7.2 == a2) || ((r7.1 == a2) && (r7.2 == a1))) else ((r7.1 == a2) && (r7.2 == a1))))) then some (Br.ret true) else some (.next ()))
def gJ (a0 : api_Topo) (a1 : Int) (a2 : Int) (a3 : Int) : Option Bool :=
  (cf (mu a0 a1 a2 a3) (bx 0 (a0.Links.length : Int)) ()).bind fun q15 => match q15 with
    | .ret r => some r
    | .done () =>
    some false
def kl (i7 : Int) : (List Int) → Option (List Int)
  | l6 =>
  (aW l6 i7).bind fun x13 =>
    (b7 l6 i7 (-1)).bind fun l14 =>
    some l14
def jp (a0 : api_Topo) (a3 : Int) (i19 : Int) (i26 : Int) (i33 : Int) : (List Int) → Option (List Int)
  | l32 =>
  ((aW l32 i26).bind fun x39 =>
    ((if (x39 == i19) then (aW l32 i33).bind fun x41 =>
    (if decide (x41 < 0) then (gJ a0 i26 i33 a3).bind fun r43 =>
    some r43 else some false) else some false)).bind fun y44 =>
    (if y44 then (aW l32 i33).bind fun x47 =>
    (b7 l32 i33 (i19 + 1)).bind fun l48 =>
    some l48 else some l32)).bind fun l49 =>
    some l49
def km (a0 : api_Topo) (a3 : Int) (i19 : Int) (i26 : Int) : (List Int) → Option (List Int)
  | l25 =>
  (cF (jp a0 a3 i19 i26) (bx 0 (a0.Switches.length : Int)) l25).bind fun z51 =>
    some z51
def jq (a0 : api_Topo) (a3 : Int) (i19 : Int) : (List Int) → Option (List Int)
  | l18 =>
  (cF (km a0 a3 i19) (bx 0 (a0.Switches.length : Int)) l18).bind fun z53 =>
    some z53
def fg (a0 : api_Topo) (a1 : Int) (a2 : Int) (a3 : Int) : Option Int :=
  (if ((decide (a1 < 0)) || ((decide (a1 ≥ (a0.Switches.length : Int))) || ((decide (a2 < 0)) || (decide (a2 ≥ (a0.Switches.length : Int)))))) then some (-1) else (dG (a0.Switches.length : Int) 0).bind fun l5 =>
    (cF kl (bx 0 (a0.Switches.length : Int)) l5).bind fun z15 =>
    (aW z15 a1).bind fun x16 =>
    (b7 z15 a1 0).bind fun l17 =>
    (cF (jq a0 a3) (bx 0 (a0.Switches.length : Int)) l17).bind fun z55 =>
    (aW z55 a2).bind fun x56 =>
    some x56)
def jr (a0 : api_Topo) (a2 : Int) (i3 : Int) (i10 : Int) : ((List Int) × Int) → Option (((List Int) × Int) ⊕ ((List Int) × Int))
  | (l8, i9) =>
  (gJ a0 i9 i10 (-1)).bind fun r16 =>
    ((if r16 then (fg a0 i10 a2 (-1)).bind fun r18 =>
    some (r18 == (IntKind.i64.wrap (i3 - 1))) else some false)).bind fun y19 =>
    (if y19 then (c8 l8 ([i10] : List Int)).bind fun l22 =>
    some (.inr (l22, i10)) else some (.inl (l8, i9)))
def im (a0 : api_Topo) (a2 : Int) : (Int × (List Int) × Int) → Option ((Int × (List Int) × Int) ⊕ (Int × (List Int) × Int))
  | (i3, l4, i5) =>
  (if (i5 != a2) then (fQ (jr a0 a2 i3) (bx 0 (a0.Switches.length : Int)) (l4, i5)).bind fun (z23, z24) =>
    some (.inl (IntKind.i64.wrap (i3 - 1), z23, z24)) else some (.inr (i3, l4, i5)))
def fC (a0 : api_Topo) (a1 : Int) (a2 : Int) : Option ((List Int) × Bool) :=
  (fg a0 a1 a2 (-1)).bind fun r1 =>
    (if decide (r1 < 0) then some (([] : List Int), false) else (eQ (im a0 a2) ef (r1, ([a1] : List Int), a1)).bind fun (z26, z27, z28) =>
    some (z27, true))
def mw (a0 : api_Topo) (a1 : api_Port) (i1 : Int) : Unit → Option (Br Unit (api_Port × Bool))
  | () =>
  (aW a0.Links i1).bind fun x7 =>
    (if (x7.a0 == a1) then some (Br.ret (x7.a1, true)) else (if (x7.a1 == a1) then some (Br.ret (x7.a0, true)) else some (.next ())))
def io (a0 : api_Topo) (a1 : api_Port) : Option (api_Port × Bool) :=
  (cf (mw a0 a1) (bx 0 (a0.Links.length : Int)) ()).bind fun q10 => match q10 with
    | .ret r => some r
    | .done () =>
    some ((api_Port.mk 0 0), false)
def law29_GraphWays (a0 : api_Topo) (a1 : Int) (a2 : Int) : Option Bool :=
  (kh).bind fun r1 =>
    (if (!r1) then some false else (jn a0).bind fun r3 =>
    (if (r3 != 0) then some true else (ff a0 a1 a2).bind fun r5 =>
    (fC a0 a1 a2).bind fun r6 =>
    ((if (!(r5.2 == r6.2)) then some true else (il r5.1 r6.1).bind fun r8 =>
    (if (!r8) then some true else (fV a0 a1 a2).bind fun r10 =>
    (fg a0 a1 a2 (-1)).bind fun r11 =>
    some (r10 != r11)))).bind fun y12 =>
    (if y12 then some false else (fU a0 a1 a2).bind fun r15 =>
    ((if decide (a1 < 0) then some true else (if decide (a1 ≥ (a0.Switches.length : Int)) then some true else (if decide (a2 < 0) then some true else (if decide (a2 ≥ (a0.Switches.length : Int)) then some true else (gJ a0 a1 a2 (-1)).bind fun r20 =>
    some (!r20)))))).bind fun y21 =>
    (if y21 then some ((!r15.2) && (r15.1 == 0)) else (aW a0.Switches a1).bind fun x25 =>
    (io a0 (api_Port.mk x25 r15.1)).bind fun r26 =>
    ((if r15.2 then (if r26.2 then (aW a0.Switches a2).bind fun x29 =>
    some (r26.1.Sw == x29) else some false) else some false)).bind fun y30 =>
    some y30))))
end Go.AM
end
section
set_option linter.unusedVariables false
namespace Go.AM
open Go
theorem kn (x : Int) : ∀ l : List Int, (fT x l).Perm (x :: l)
  | [] => List.Perm.refl _
  | y :: l => by
    unfold fT
    split
    · exact List.Perm.refl _
    · exact (List.Perm.cons y (kn x l)).trans (List.Perm.swap x y l)
theorem fX : ∀ l : List Int, (b4 l).Perm l
  | [] => List.Perm.refl _
  | x :: l => (kn x _).trans (List.Perm.cons x (fX l))
theorem mx (x : Int) : ∀ l : List Int, l.Pairwise (· ≤ ·) → (fT x l).Pairwise (· ≤ ·)
  | [], _ => by simp [fT]
  | y :: l, h => by
    unfold fT
    rw [List.pairwise_cons] at h
    split
    · rename_i hxy
      refine List.pairwise_cons.2 ⟨fun z hz => ?_, List.pairwise_cons.2 h⟩
      rcases List.mem_cons.1 hz with rfl | hz
      · exact hxy
      · have := h.1 z hz; omega
    · rename_i hxy
      refine List.pairwise_cons.2 ⟨fun z hz => ?_, mx x l h.2⟩
      rcases List.mem_cons.1 ((kn x l).mem_iff.1 hz) with rfl | hz
      · omega
      · exact h.1 z hz
theorem js : ∀ l : List Int, (b4 l).Pairwise (· ≤ ·)
  | [] => List.Pairwise.nil
  | x :: l => mx x _ (js l)
theorem pj (l : List Int) : (l.mergeSort fun x y => decide (x ≤ y)) = b4 l := by
  have h1 := List.pairwise_mergeSort (le := fun x y : Int => decide (x ≤ y)) (fun a b c h k => by simp at h k ⊢; omega) (fun a b => by simp; omega) l
  exact List.Perm.eq_of_pairwise (le := fun a b : Int => a ≤ b) (fun a b _ _ h k => by omega) (h1.imp fun h => by simpa using h) (js l) ((List.mergeSort_perm _ _).trans (fX l).symm)
end Go.AM
end
