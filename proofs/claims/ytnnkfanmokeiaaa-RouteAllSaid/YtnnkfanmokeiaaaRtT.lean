import Derived.Test.YtnnkfanmokeiaaaAmPv
import Derived.Test.YtnnkfanmokeiaaaAmN4
set_option linter.unusedVariables false
namespace Go.AM
open Go
structure al where
  Op : Int
  F : Int
  N : Int
  Kids : (List al)
  deriving Inhabited
structure c5 where
  F : Int
  N : Int
  deriving DecidableEq, Inhabited
structure api_Port where
  Sw : Int
  Pt : Int
  deriving DecidableEq, Inhabited
structure api_Topo where
  Switches : (List Int)
  Links : (List (A2 api_Port))
  Hosts : (List api_Port)
  deriving DecidableEq, Inhabited
structure bK where
  From : Int
  To : Int
  Match : (List c5)
  Ban : Bool
  deriving DecidableEq, Inhabited
structure uk where
  When : (List c5)
  Guard : (List c5)
  Then : (List c5)
  deriving DecidableEq, Inhabited
structure kg where
  Init : (List Int)
  Pol : al
  Rules : (List uk)
  deriving Inhabited
structure zU where
  What : Int
  F : Int
  N : Int
  K : Int
  deriving DecidableEq, Inhabited
structure Fu where
  T : api_Topo
  L : (List zU)
  State : (List Int)
  deriving DecidableEq, Inhabited
structure Fv where
  t : api_Topo
  p : al
  state : (List Int)
  found : (List (List (A8 Int)))
  deriving Inhabited
def mt (a0 : List api_Port) : Option (List api_Port) :=
  (cY ([] : List api_Port) a0).bind fun l1 => some l1
def qp (a0 : api_Topo) (i5 : Int) : (List (Int × Bool)) → Option (List (Int × Bool))
  | m4 =>
  (be a0.Switches i5).bind fun x11 =>
    some (en m4 x11 true)
def qr (a0 : api_Topo) (i15 : Int) : (List api_Port) → Option (List api_Port)
  | l14 =>
  (be a0.Links i15).bind fun x21 =>
    (cY l14 [x21.a0, x21.a1]).bind fun l22 =>
    some l22
def qt (z12 : (List (Int × Bool))) (z23 : (List api_Port)) (i25 : Int) : (List (api_Port × Bool)) → Option (Br (List (api_Port × Bool)) Int)
  | m24 =>
  (be z23 i25).bind fun x31 =>
    (if (!((mget z12 x31.Sw).getD false)) then some (Br.ret 12) else some (.next (en m24 x31 true)))
def mu (a0 : api_Topo) : Option Int :=
  (if ((decide ((a0.Switches.length : Int) > 12)) || ((decide ((a0.Links.length : Int) > 24)) || (decide ((a0.Hosts.length : Int) > 24)))) then some 2 else (cQ (qp a0) (bA 0 (a0.Switches.length : Int)) ([] : List (Int × Bool))).bind fun z12 =>
    (mt a0.Hosts).bind fun r13 =>
    (cQ (qr a0) (bA 0 (a0.Links.length : Int)) r13).bind fun z23 =>
    (b6 (qt z12 z23) (bA 0 (z23.length : Int)) ([] : List (api_Port × Bool))).bind fun q38 => match q38 with
    | .ret r => some r
    | .done z33 =>
    (jm z12).bind fun n34 =>
    (if decide (n34 < (a0.Switches.length : Int)) then some 12 else (jm z33).bind fun n36 =>
    (if decide (n36 < (z23.length : Int)) then some 11 else some 0)))
def mw (a0 : Int) (a1 : api_Topo) : Option Bool :=
  some ((decide (a0 ≥ 0)) && (decide (a0 < (a1.Hosts.length : Int))))
def um (a0 : (List Int)) (a1 : Int) (i1 : Int) : Unit → Option (Br Unit Int)
  | () =>
  (be a0 i1).bind fun x7 =>
    (if (a1 == x7) then some (Br.ret i1) else some (.next ()))
def n8 (a0 : (List Int)) (a1 : Int) : Option Int :=
  (b6 (um a0 a1) (bA 0 (a0.length : Int)) ()).bind fun q9 => match q9 with
    | .ret r => some r
    | .done () =>
    some (-1)
def kh (a0 : api_Topo) (a1 : Int) : Option (Int × Bool) :=
  (n8 a0.Switches a1).bind fun r1 =>
    some (fX r1 0, decide (r1 ≥ 0))
def n9 (a0 : (List Int)) (i2 : Int) (i14 : Int) : ((List Int) × Int) → Option ((List Int) × Int)
  | (l12, i13) =>
  ((iT l12 i2 (a0.length : Int) i14).bind fun x20 =>
    (be l12 (i2 + i14)).bind fun x21 =>
    (iT l12 i2 (a0.length : Int) (IntKind.i64.wrap (i14 - 1))).bind fun x22 =>
    (be l12 (i2 + (IntKind.i64.wrap (i14 - 1)))).bind fun x23 =>
    (if (x21 != x23) then (be l12 i13).bind fun x25 =>
    (di l12 i13 x21).bind fun l26 =>
    some (l26, IntKind.i64.wrap (i13 + 1)) else some (l12, i13))).bind fun (l27, y28) =>
    some (l27, y28)
def mx (a0 : (List Int)) (i2 : Int) : Unit → Option (Br Unit (List Int))
  | () =>
  (be a0 i2).bind fun x8 =>
    (be a0 (IntKind.i64.wrap (i2 - 1))).bind fun x9 =>
    (if (x8 == x9) then (eF a0 i2 (a0.length : Int)).bind fun l11 =>
    (cQ (n9 a0 i2) (bA 1 (l11.length : Int)) (a0, i2)).bind fun (z30, z31) =>
    (eF z30 z31 (z30.length : Int)).bind fun l32 =>
    some (Br.ret (z30.take z31.toNat)) else some (.next ()))
def my (a0 : (List Int)) : Option (List Int) :=
  (if decide ((a0.length : Int) < 2) then some a0 else (b6 (mx a0) (bA 1 (a0.length : Int)) ()).bind fun q34 => match q34 with
    | .ret r => some r
    | .done () =>
    some a0)
def ki (x : Int) : List Int → List Int
  | [] => [x]
  | y :: l => if x ≤ y then x :: y :: l else y :: ki x l
def db : List Int → List Int
  | [] => []
  | x :: l => ki x (db l)
def oa (a0 : api_Topo) (a1 : Int) (i2 : Int) : (List (List Int)) → Option (List (List Int))
  | g =>
  (be a0.Links i2).bind fun x =>
    (kh a0 x.a0.Sw).bind fun r1 =>
    (kh a0 x.a1.Sw).bind fun r2 =>
    (if ((!r1.2) || ((!r2.2) || ((r1.1 == r2.1) || (i2 == a1)))) then some g else (be g r1.1).bind fun la =>
    (cY la ([r2.1] : List Int)).bind fun la2 =>
    (be g r2.1).bind fun lb =>
    (cY lb ([r1.1] : List Int)).bind fun lb2 =>
    (di g r1.1 la2).bind fun g2 => di g2 r2.1 lb2)
def qu (i2 : Int) : (List (List Int)) → Option (List (List Int))
  | g =>
  (be g i2).bind fun l =>
    (if l.length ≤ 4294967296 then (my (db l)).bind fun r => di g i2 r else none)
def ob (a0 : api_Topo) (a1 : Int) : Option (List (List Int)) :=
  (fj (a0.Switches.length : Int) ([] : List Int)).bind fun g0 =>
    (cQ (oa a0 a1) (bA 0 (a0.Links.length : Int)) g0).bind fun z1 =>
    (cQ qu (bA 0 (z1.length : Int)) z1).bind fun z2 =>
    some z2
def iD (a0 : (List (List Int))) (a1 : Int) : Option Bool :=
  some ((decide (a1 ≥ 0)) && (decide (a1 < (a0.length : Int))))
def qv (i : Int) : (List Int) → Option (List Int)
  | l6 =>
  (be l6 i).bind fun x13 =>
    (di l6 i (-1)).bind fun l14 =>
    some l14
def qw (l : List Int) (x : Int) (i : Int) : ((List Int) × (List Int)) → Option ((List Int) × (List Int))
  | (d, q) =>
  (be l i).bind fun k =>
    (be d k).bind fun dk =>
    (if decide (dk < 0) then (be d x).bind fun dx =>
    (di d k (IntKind.i64.wrap (dx + 1))).bind fun d2 =>
    (cY q ([k] : List Int)).bind fun q2 =>
    some (d2, q2) else some (d, q))
def oc (a0 : (List (List Int))) : ((List Int) × (List Int)) → Option (((List Int) × (List Int)) ⊕ ((List Int) × (List Int)))
  | (d, q) =>
  (if decide ((q.length : Int) > 0) then (be q 0).bind fun x =>
    (be a0 x).bind fun l =>
    (cQ (qw l x) (bA 0 (l.length : Int)) (d, q)).bind fun (d2, q2) =>
    (eF q2 1 (q2.length : Int)).bind fun q3 =>
    some (.inl (d2, q3)) else some (.inr (d, q)))
def od (a0 : (List (List Int))) (a1 : Int) : Option (List Int) :=
  (fj (a0.length : Int) (0 : Int)).bind fun l5 =>
    (cQ qv (bA 0 (l5.length : Int)) l5).bind fun z15 =>
    (iD a0 a1).bind fun r2 =>
    (if (!r2) then some z15 else (be z15 a1).bind fun x16 =>
    (di z15 a1 0).bind fun l17 =>
    (iz (oc a0) c9 (l17, ([a1] : List Int))).bind fun (z, zq) =>
    some z)
def oe (a0 : Int) (a1 : (List Int)) (a2 : Int) : Option Bool :=
  (be a1 a0).bind fun x1 =>
    (be a1 a2).bind fun x2 =>
    some (x1 == (IntKind.i64.wrap (x2 - 1)))
def uo (a0 : (List Int)) (a1 : (Int → Option Bool)) (i1 : Int) : Unit → Option (Br Unit Int)
  | () =>
  (be a0 i1).bind fun x7 =>
    (a1 x7).bind fun x8 =>
    (if x8 then some (Br.ret i1) else some (.next ()))
def og (a0 : (List Int)) (a1 : Int → Option Bool) : Option Int :=
  (b6 (uo a0 a1) (bA 0 (a0.length : Int)) ()).bind fun q10 => match q10 with
    | .ret r => some r
    | .done () =>
    some (-1)
def mz (a2 : Int) (r1 : (List (List Int))) (r8 : (List Int)) : ((List Int) × Int) → Option (((List Int) × Int) ⊕ ((List Int) × Int))
  | (l11, i12) =>
  (if (i12 != a2) then (be r1 i12).bind fun x15 =>
    (og x15 (fun y0 => oe y0 r8 i12)).bind fun r16 =>
    (be x15 r16).bind fun x17 =>
    (cY l11 ([x17] : List Int)).bind fun l18 =>
    some (.inl (l18, x17)) else some (.inr (l11, i12)))
def iE (a0 : api_Topo) (a1 : Int) (a2 : Int) : Option ((List Int) × Bool) :=
  (ob a0 (-1)).bind fun r1 =>
    (iD r1 a1).bind fun r2 =>
    ((if (!r2) then some true else (iD r1 a2).bind fun r4 =>
    some (!r4))).bind fun y5 =>
    (if y5 then some (([] : List Int), false) else (od r1 a2).bind fun r8 =>
    (be r8 a1).bind fun x9 =>
    (if decide (x9 < 0) then some (([] : List Int), false) else (iz (mz a2 r1 r8) c9 (([a1] : List Int), a1)).bind fun (z19, z20) =>
    some (z19, true)))
def km (a0 : api_Topo) (a1 : Int) (a2 : Int) : Option ((List Int) × Bool) :=
  (be a0.Hosts a1).bind fun x1 =>
    (kh a0 x1.Sw).bind fun r2 =>
    (be a0.Hosts a2).bind fun x3 =>
    (kh a0 x3.Sw).bind fun r4 =>
    (if ((!r2.2) || (!r4.2)) then some (([] : List Int), false) else (iE a0 r2.1 r4.1).bind fun r7 =>
    some (r7.1, r7.2))
def qx (a1 : bK) (i8 : Int) : Unit → Option (Br Unit Int)
  | () =>
  (be a1.Match i8).bind fun x14 =>
    ((if decide (x14.F < 4) then some true else (if decide (x14.F > 7) then some true else (if decide (i8 > 0) then (be a1.Match (IntKind.i64.wrap (i8 - 1))).bind fun x18 =>
    some (decide (x18.F ≥ x14.F)) else some false)))).bind fun y19 =>
    (if y19 then some (Br.ret 1) else some (.next ()))
def gR (a0 : api_Topo) (a1 : bK) : Option Int :=
  (mw a1.From a0).bind fun r1 =>
    ((if (!r1) then some true else (mw a1.To a0).bind fun r3 =>
    (if (!r3) then some true else some (a1.From == a1.To)))).bind fun y5 =>
    (if y5 then some 1 else (b6 (qx a1) (bA 0 (a1.Match.length : Int)) ()).bind fun q24 => match q24 with
    | .ret r => some r
    | .done () =>
    (km a0 a1.From a1.To).bind fun r22 =>
    (if (!r22.2) then some 33 else some 0))
def mA (a0 : Int) : Option Int :=
  some (IntKind.u16.wrap (IntKind.i64.wrap (a0 + 1)))
def jr (a0 : Int) (a1 : Int) : Option al :=
  some (al.mk 2 a0 a1 [])
def qy (a0 : bK) (i7 : Int) : (List al) → Option (List al)
  | l6 =>
  (be a0.Match i7).bind fun x13 =>
    (jr x13.F x13.N).bind fun r14 =>
    (cY l6 ([r14] : List al)).bind fun l15 =>
    some l15
def mB (a0 : bK) (a1 : (List al)) : Option (List al) :=
  (mA a0.From).bind fun r1 =>
    (jr 2 r1).bind fun r2 =>
    (mA a0.To).bind fun r3 =>
    (jr 3 r3).bind fun r4 =>
    (cY a1 ([r2, r4] : List al)).bind fun l5 =>
    (cQ (qy a0) (bA 0 (a0.Match.length : Int)) l5).bind fun z16 =>
    some z16
def ur (a0 : api_Topo) (a1 : Int) (x6 : Int) (x7 : Int) (i8 : Int) : Unit → Option (Br Unit (Int × Bool))
  | () =>
  (be a0.Links i8).bind fun x14 =>
    (if ((x14.a0.Sw == x6) && (x14.a1.Sw == x7)) then some (Br.ret (x14.a0.Pt, true)) else (if ((x14.a1.Sw == x6) && (x14.a0.Sw == x7)) then some (Br.ret (x14.a1.Pt, true)) else some (.next ())))
def k9 (a0 : api_Topo) (a1 : Int) (a2 : Int) : Option (Int × Bool) :=
  (if ((decide (a1 < 0)) || ((decide (a1 ≥ (a0.Switches.length : Int))) || ((decide (a2 < 0)) || ((decide (a2 ≥ (a0.Switches.length : Int))) || (a1 == a2))))) then some (0, false) else (be a0.Switches a1).bind fun x6 =>
    (be a0.Switches a2).bind fun x7 =>
    (b6 (ur a0 a1 x6 x7) (bA 0 (a0.Links.length : Int)) ()).bind fun q19 => match q19 with
    | .ret r => some r
    | .done () =>
    some (0, false))
def qz (a0 : api_Topo) (a1 : bK) (r1 : ((List Int) × Bool)) (i3 : Int) : (List al) → Option (List al)
  | l2 =>
  (be r1.1 i3).bind fun x9 =>
    (be a0.Hosts a1.To).bind fun x10 =>
    ((if decide ((i3 + 1) < (r1.1.length : Int)) then (be r1.1 (i3 + 1)).bind fun x12 =>
    (k9 a0 x9 x12).bind fun r13 =>
    some r13.1 else some x10.Pt)).bind fun y14 =>
    (be a0.Switches x9).bind fun x16 =>
    (jr 0 x16).bind fun r17 =>
    (mB a1 ([r17] : List al)).bind fun r18 =>
    (cY r18 ([(al.mk 5 1 y14 [])] : List al)).bind fun l19 =>
    (cY l2 ([(al.mk 6 0 0 l19)] : List al)).bind fun l20 =>
    some l20
def oh (a0 : api_Topo) (a1 : bK) : Option (List al) :=
  (km a0 a1.From a1.To).bind fun r1 =>
    (cQ (qz a0 a1 r1) (bA 0 (r1.1.length : Int)) ([] : List al)).bind fun z21 =>
    some z21
def mC (a0 : (List al)) : Option al :=
  (if ((a0.length : Int) == 0) then some (al.mk 0 0 0 []) else (if ((a0.length : Int) == 1) then (be a0 0).bind fun x3 =>
    some x3 else some (al.mk 7 0 0 a0)))
def qA (a0 : al) (self : al → Option Int) (i2 : Int) : Int → Option Int
  | i1 =>
  (be a0.Kids i2).bind fun x8 =>
    (self x8).bind fun r9 =>
    some (IntKind.i64.wrap (i1 + r9))
def mD (self : al → Option Int) (a0 : al) : Option Int :=
  (cQ (qA a0 self) (bA 0 (a0.Kids.length : Int)) 1).bind fun z10 =>
    some z10
def js : Nat → al → Option Int
  | 0 => fun _ => none
  | k + 1 => mD (js k)
def qB (a0 : al) : Option Int := js c9 a0
def qC (a0 : al) (self : al → Option Int) (i2 : Int) : Int → Option Int
  | i1 =>
  (be a0.Kids i2).bind fun x8 =>
    (self x8).bind fun r9 =>
    some (fX i1 r9)
def mE (self : al → Option Int) (a0 : al) : Option Int :=
  (cQ (qC a0 self) (bA 0 (a0.Kids.length : Int)) 0).bind fun z10 =>
    some (IntKind.i64.wrap (z10 + 1))
def jt : Nat → al → Option Int
  | 0 => fun _ => none
  | k + 1 => mE (jt k)
def qD (a0 : al) : Option Int := jt c9 a0
def qE (a0 : api_Topo) (a1 : (List bK)) (i5 : Int) : ((List al) × (List al)) → Option (Br ((List al) × (List al)) (al × Int))
  | (l3, l4) =>
  (((be a1 i5).bind fun x11 =>
    (gR a0 x11).bind fun r12 =>
    (if (r12 != 0) then some (Sum.inr (Br.ret ((al.mk 0 0 0 []), r12))) else (if x11.Ban then (mB x11 []).bind fun r15 =>
    (cY l4 ([(al.mk 6 0 0 r15)] : List al)).bind fun l16 =>
    some (.inl (l3, l16)) else (oh a0 x11).bind fun r17 =>
    (cY l3 r17).bind fun l18 =>
    some (.inl (l18, l4)))) : Option (((List al) × (List al)) ⊕ (Br ((List al) × (List al)) (al × Int))))).bind fun q21 => match q21 with
    | .inr r => some r
    | .inl (l19, l20) =>
    some (.next (l19, l20))
def mF (a0 : api_Topo) (a1 : (List bK)) : Option (al × Int) :=
  (mu a0).bind fun r1 =>
    (if (r1 != 0) then some ((al.mk 0 0 0 []), r1) else (b6 (qE a0 a1) (bA 0 (a1.length : Int)) (([] : List al), ([] : List al))).bind fun q35 => match q35 with
    | .ret r => some r
    | .done (z22, z23) =>
    (mC z22).bind fun r24 =>
    ((if decide ((z23.length : Int) > 0) then (mC z23).bind fun r26 =>
    some (al.mk 6 0 0 ([(al.mk 4 0 0 ([r26] : List al)), r24] : List al)) else some r24)).bind fun y27 =>
    (qB y27).bind fun r29 =>
    ((if decide (r29 > 300) then some true else (qD y27).bind fun r31 =>
    some (decide (r31 > 20)))).bind fun y32 =>
    (if y32 then some ((al.mk 0 0 0 []), 2) else some (y27, 0)))
def ut (a0 : Int) : Option Bool :=
  some ((decide (a0 ≥ 0)) && (decide (a0 < 8)))
def uv (a0 : c5) (a1 : (A8 Int)) : Option Bool :=
  (ut a0.F).bind fun r1 =>
    ((if (!r1) then some true else (a1.get a0.F).bind fun x3 =>
    some (x3 != a0.N))).bind fun y4 =>
    some y4
def zV (a0 : (List c5)) (a1 : (c5 → Option Bool)) (i1 : Int) : Unit → Option (Br Unit Int)
  | () =>
  (be a0 i1).bind fun x7 =>
    (a1 x7).bind fun x8 =>
    (if x8 then some (Br.ret i1) else some (.next ()))
def uw (a0 : (List c5)) (a1 : c5 → Option Bool) : Option Int :=
  (b6 (zV a0 a1) (bA 0 (a0.length : Int)) ()).bind fun q10 => match q10 with
    | .ret r => some r
    | .done () =>
    some (-1)
def uz (a0 : (List c5)) (a1 : c5 → Option Bool) : Option Bool :=
  (uw a0 a1).bind fun r1 =>
    some (decide (r1 ≥ 0))
def uA (a0 : (A8 Int)) (a1 : (List c5)) : Option Bool :=
  (uz a1 (fun y0 => uv y0 a0)).bind fun r1 =>
    some (!r1)
def uB (a0 : bK) (a1 : Int) (a2 : (A8 Int)) : Option Bool :=
  ((if (a0.From == a1) then (if ((IntKind.i64.wrap ((IntKind.i64.wrap a2.a2) - 1)) == a0.From) then (if ((IntKind.i64.wrap ((IntKind.i64.wrap a2.a3) - 1)) == a0.To) then (uA a2 a0.Match).bind fun r4 =>
    some r4 else some false) else some false) else some false)).bind fun y5 =>
    some y5
def zW (a1 : (List bK)) (a2 : Int) (a3 : (A8 Int)) (i3 : Int) : (Int × Bool) → Option (Br (Int × Bool) (Int × Bool))
  | (i1, y2) =>
  (((be a1 i3).bind fun x9 =>
    (uB x9 a2 a3).bind fun r10 =>
    (if (!r10) then some (.inl (i1, y2)) else (if x9.Ban then some (Sum.inr (Br.ret (0, false))) else some (.inl (x9.To, true)))) : Option ((Int × Bool) ⊕ (Br (Int × Bool) (Int × Bool))))).bind fun q15 => match q15 with
    | .inr r => some r
    | .inl (y13, y14) =>
    some (.next (y13, y14))
def uC (a0 : api_Topo) (a1 : (List bK)) (a2 : Int) (a3 : (A8 Int)) : Option (Int × Bool) :=
  (b6 (zW a1 a2 a3) (bA 0 (a1.length : Int)) (0, false)).bind fun q18 => match q18 with
    | .ret r => some r
    | .done (z16, z17) =>
    some (z16, z17)
def qF  : Option Bool :=
  (mF (api_Topo.mk ([1] : List Int) [] ([(api_Port.mk 1 1), (api_Port.mk 1 2)] : List api_Port)) ([(bK.mk 0 1 [] false)] : List bK)).bind fun r1 =>
    (uC (api_Topo.mk ([1] : List Int) [] ([(api_Port.mk 1 1), (api_Port.mk 1 2)] : List api_Port)) ([(bK.mk 0 1 [] false)] : List bK) 0 (A8.mk 0 0 1 2 0 0 0 0)).bind fun r2 =>
    ((if (r1.2 == 0) then (if (r1.1.Op == 6) then (if ((r1.1.Kids.length : Int) == 4) then (be r1.1.Kids 3).bind fun x6 =>
    (if (x6.N == 2) then (if r2.2 then some (r2.1 == 1) else some false) else some false) else some false) else some false) else some false)).bind fun y9 =>
    some y9
def zX (a0 : al) (self : al → Option Int) (i2 : Int) : Int → Option Int
  | i1 =>
  (be a0.Kids i2).bind fun x8 =>
    (self x8).bind fun r9 =>
    some (IntKind.i64.wrap (i1 + r9))
def qH (self : al → Option Int) (a0 : al) : Option Int :=
  (cQ (zX a0 self) (bA 0 (a0.Kids.length : Int)) 1).bind fun z10 =>
    some z10
def mG : Nat → al → Option Int
  | 0 => fun _ => none
  | k + 1 => qH (mG k)
def oi (a0 : al) : Option Int := mG c9 a0
def zY (a0 : al) (self : al → Option Int) (i2 : Int) : Int → Option Int
  | i1 =>
  (be a0.Kids i2).bind fun x8 =>
    (self x8).bind fun r9 =>
    some (fX i1 r9)
def qI (self : al → Option Int) (a0 : al) : Option Int :=
  (cQ (zY a0 self) (bA 0 (a0.Kids.length : Int)) 0).bind fun z10 =>
    some (IntKind.i64.wrap (z10 + 1))
def mH : Nat → al → Option Int
  | 0 => fun _ => none
  | k + 1 => qI (mH k)
def om (a0 : al) : Option Int := mH c9 a0
def qJ (a0 : al) (self : al → Option Bool) (i6 : Int) : Unit → Option (Br Unit (Unit ⊕ Bool))
  | () =>
  (be a0.Kids i6).bind fun x12 =>
    (self x12).bind fun r13 =>
    (if (!r13) then some (Br.ret (Sum.inr false)) else some (.next ()))
def ot (self : al → Option Bool) (a0 : al) : Option Bool :=
  (if ((a0.Op == 5) || ((decide (a0.Op < 0)) || (decide (a0.Op > 7)))) then some false else ((if ((a0.Op == 6) || (a0.Op == 7)) then (b6 (qJ a0 self) (bA 0 (a0.Kids.length : Int)) ()).bind fun q15 => match q15 with
    | .ret r => some r
    | .done () =>
    some (.inl ()) else some (.inl ()))).bind fun q16 => match q16 with
    | .inr r => some r
    | .inl () =>
    some true)
def lg : Nat → al → Option Bool
  | 0 => fun _ => none
  | k + 1 => ot (lg k)
def qK (a0 : al) : Option Bool := lg c9 a0
def qL (a0 : al) (a1 : Int) (self : al → Int → Option Bool) (i33 : Int) : Unit → Option (Br Unit Bool)
  | () =>
  (be a0.Kids i33).bind fun x39 =>
    (self x39 a1).bind fun r40 =>
    (if (!r40) then some (Br.ret false) else some (.next ()))
def ou (self : al → Int → Option Bool) (a0 : al) (a1 : Int) : Option Bool :=
  ((if (a0.Op == 0) then some (a0.Op == 0) else some (a0.Op == 1))).bind fun y2 =>
    (if y2 then some (((a0.Kids.length : Int) == 0) && ((a0.F == 0) && (a0.N == 0))) else (if (a0.Op == 2) then some (((a0.Kids.length : Int) == 0) && ((decide (a0.F ≥ 0)) && (decide (a0.F < 8)))) else (if (a0.Op == 3) then some (((a0.Kids.length : Int) == 0) && ((decide (a0.F ≥ 0)) && (decide (a0.F < a1)))) else (if (a0.Op == 5) then some (((a0.Kids.length : Int) == 0) && ((decide (a0.F ≥ 1)) && (decide (a0.F < 8)))) else (if (a0.Op == 4) then ((if ((a0.Kids.length : Int) == 1) then (if (a0.F == 0) then (if (a0.N == 0) then (be a0.Kids 0).bind fun x20 =>
    (qK x20).bind fun r21 =>
    (if r21 then (self x20 a1).bind fun r23 =>
    some r23 else some false) else some false) else some false) else some false)).bind fun y24 =>
    some y24 else ((if (a0.Op == 6) then some (a0.Op == 6) else some (a0.Op == 7))).bind fun y27 =>
    (if y27 then (if ((decide ((a0.Kids.length : Int) < 2)) || ((a0.F != 0) || (a0.N != 0))) then some false else (b6 (qL a0 a1 self) (bA 0 (a0.Kids.length : Int)) ()).bind fun q42 => match q42 with
    | .ret r => some r
    | .done () =>
    some true) else some false))))))
def lh : Nat → al → Int → Option Bool
  | 0 => fun _ _ => none
  | k + 1 => ou (lh k)
def qM (a0 : al) (a1 : Int) : Option Bool := lh c9 a0 a1
def zZ (a0 : (List c5)) (a1 : Int) (i1 : Int) : Unit → Option (Br Unit Bool)
  | () =>
  (be a0 i1).bind fun x7 =>
    ((if decide (x7.F < 0) then some true else (if decide (x7.F ≥ a1) then some true else (if decide (i1 > 0) then (be a0 (IntKind.i64.wrap (i1 - 1))).bind fun x11 =>
    some (decide (x11.F ≥ x7.F)) else some false)))).bind fun y12 =>
    (if y12 then some (Br.ret false) else some (.next ()))
def ov (a0 : (List c5)) (a1 : Int) : Option Bool :=
  (b6 (zZ a0 a1) (bA 0 (a0.length : Int)) ()).bind fun q15 => match q15 with
    | .ret r => some r
    | .done () =>
    some true
def z6 (a0 : kg) (i12 : Int) : Unit → Option (Br Unit Int)
  | () =>
  (be a0.Rules i12).bind fun x18 =>
    ((if decide ((x18.When.length : Int) < 2) then some true else (be x18.When 0).bind fun x20 =>
    (if (x20.F != 0) then some true else (be x18.When 1).bind fun x22 =>
    (if (x22.F != 1) then some true else (ov x18.When 8).bind fun r24 =>
    (if (!r24) then some true else (ov x18.Guard (a0.Init.length : Int)).bind fun r26 =>
    (if (!r26) then some true else (ov x18.Then (a0.Init.length : Int)).bind fun r28 =>
    (if (!r28) then some true else some ((x18.Then.length : Int) == 0)))))))).bind fun y30 =>
    (if y30 then some (Br.ret 11) else some (.next ()))
def ow (a0 : kg) : Option Int :=
  ((if decide ((a0.Init.length : Int) < 1) then some true else (if decide ((a0.Init.length : Int) > 4) then some true else (oi a0.Pol).bind fun r3 =>
    (if decide (r3 > 300) then some true else (om a0.Pol).bind fun r5 =>
    (if decide (r5 > 20) then some true else some (decide ((a0.Rules.length : Int) > 24))))))).bind fun y7 =>
    (if y7 then some 2 else (qM a0.Pol (a0.Init.length : Int)).bind fun r10 =>
    (if (!r10) then some 11 else (b6 (z6 a0) (bA 0 (a0.Rules.length : Int)) ()).bind fun q33 => match q33 with
    | .ret r => some r
    | .done () =>
    some 0))
def ox (a0 : al) : Option Bool :=
  (fj 4 0).bind fun l1 =>
    (ow (kg.mk l1 a0 [])).bind fun r2 =>
    some (r2 == 0)
def oy (a0 : (A8 Int)) (a1 : Int) (a2 : Int) : Option (A8 Int) :=
  ((if ((decide (a1 ≥ 0)) && (decide (a1 < 8))) then (a0.get a1).bind fun x3 =>
    (a0.put a1 a2).bind fun x4 =>
    some x4 else some a0)).bind fun y5 =>
    some y5
def qN (a0 : (A8 Int)) (a1 : (A8 Int)) (i1 : Int) : Unit → Option (Br Unit Int)
  | () =>
  (a0.get i1).bind fun x7 =>
    (a1.get i1).bind fun x8 =>
    (if decide (x7 < x8) then some (Br.ret (-1)) else (if decide (x7 > x8) then some (Br.ret 1) else some (.next ())))
def oz (a0 : (A8 Int)) (a1 : (A8 Int)) : Option Int :=
  (b6 (qN a0 a1) (bA 0 8) ()).bind fun q11 => match q11 with
    | .ret r => some r
    | .done () =>
    some 0
def oA (a0 : (List (A8 Int))) (a1 : (A8 Int)) (i3 : Int) : ((List (A8 Int)) × Bool) → Option ((List (A8 Int)) × Bool)
  | (l1, y2) =>
  ((be a0 i3).bind fun x9 =>
    (oz a1 x9).bind fun r10 =>
    ((if ((!y2) && (decide (r10 ≤ 0))) then (cY l1 ([a1] : List (A8 Int))).bind fun l13 =>
    some (l13, true) else some (l1, y2))).bind fun (l14, y15) =>
    (if (r10 != 0) then (cY l14 ([x9] : List (A8 Int))).bind fun l18 =>
    some (l18, y15) else some (l14, y15))).bind fun (l19, y20) =>
    some (l19, y20)
def oB (a0 : (List (A8 Int))) (a1 : (A8 Int)) : Option (List (A8 Int)) :=
  (cQ (oA a0 a1) (bA 0 (a0.length : Int)) (([] : List (A8 Int)), false)).bind fun (z22, z23) =>
    ((if (!z23) then (cY z22 ([a1] : List (A8 Int))).bind fun l25 =>
    some l25 else some z22)).bind fun l26 =>
    some l26
def qO (a1 : (List (A8 Int))) (i2 : Int) : (List (A8 Int)) → Option (List (A8 Int))
  | y1 =>
  (be a1 i2).bind fun x8 =>
    (oB y1 x8).bind fun r9 =>
    some r9
def lk (a0 : (List (A8 Int))) (a1 : (List (A8 Int))) : Option (List (A8 Int)) :=
  (cQ (qO a1) (bA 0 (a1.length : Int)) a0).bind fun z10 =>
    some z10
def oC (a0 : al) (a1 : (List Int)) (y21 : (List (A8 Int))) (i22 : Int) (self : al → (List Int) → (A8 Int) → Option ((List (A8 Int)) × Bool)) (i29 : Int) : (List (A8 Int)) → Option (Br (List (A8 Int)) (Br (List (A8 Int)) ((List (A8 Int)) × Bool)))
  | y28 =>
  (be a0.Kids i22).bind fun x35 =>
    (be y21 i29).bind fun x36 =>
    (self x35 a1 x36).bind fun r37 =>
    (if (!r37.2) then some (Br.ret (Br.ret (([] : List (A8 Int)), false))) else (lk y28 r37.1).bind fun r39 =>
    some (.next r39))
def qP (a0 : al) (a1 : (List Int)) (self : al → (List Int) → (A8 Int) → Option ((List (A8 Int)) × Bool)) (i22 : Int) : (List (A8 Int)) → Option (Br (List (A8 Int)) ((List (A8 Int)) × Bool))
  | y21 =>
  (b6 (oC a0 a1 y21 i22 self) (bA 0 (y21.length : Int)) ([] : List (A8 Int))).bind fun q42 => match q42 with
    | .ret r => some r
    | .done z40 =>
    (if decide ((z40.length : Int) > 64) then some (Br.ret (([] : List (A8 Int)), false)) else some (.next z40))
def qQ (a0 : al) (a1 : (List Int)) (a2 : (A8 Int)) (self : al → (List Int) → (A8 Int) → Option ((List (A8 Int)) × Bool)) (i46 : Int) : (List (A8 Int)) → Option (Br (List (A8 Int)) ((List (A8 Int)) × Bool))
  | y45 =>
  (be a0.Kids i46).bind fun x52 =>
    (self x52 a1 a2).bind fun r53 =>
    (if (!r53.2) then some (Br.ret (([] : List (A8 Int)), false)) else (lk y45 r53.1).bind fun r55 =>
    (if decide ((r55.length : Int) > 64) then some (Br.ret (([] : List (A8 Int)), false)) else some (.next r55)))
def oD (self : al → (List Int) → (A8 Int) → Option ((List (A8 Int)) × Bool)) (a0 : al) (a1 : (List Int)) (a2 : (A8 Int)) : Option ((List (A8 Int)) × Bool) :=
  (if (a0.Op == 0) then some (([] : List (A8 Int)), true) else (if (a0.Op == 1) then some (([a2] : List (A8 Int)), true) else (if (a0.Op == 2) then (a2.get a0.F).bind fun x4 =>
    (if (x4 == a0.N) then some (([a2] : List (A8 Int)), true) else some (([] : List (A8 Int)), true)) else (if (a0.Op == 3) then ((if decide (a0.F < (a1.length : Int)) then (be a1 a0.F).bind fun x8 =>
    some (x8 == a0.N) else some false)).bind fun y9 =>
    (if y9 then some (([a2] : List (A8 Int)), true) else some (([] : List (A8 Int)), true)) else (if (a0.Op == 4) then (be a0.Kids 0).bind fun x13 =>
    (self x13 a1 a2).bind fun r14 =>
    ((if decide ((r14.1.length : Int) > 0) then some ([] : List (A8 Int)) else some ([a2] : List (A8 Int)))).bind fun y16 =>
    some (y16, r14.2) else (if (a0.Op == 5) then (oy a2 a0.F a0.N).bind fun r19 =>
    some (([r19] : List (A8 Int)), true) else (if (a0.Op == 6) then (b6 (qP a0 a1 self) (bA 0 (a0.Kids.length : Int)) ([a2] : List (A8 Int))).bind fun q44 => match q44 with
    | .ret r => some r
    | .done z43 =>
    some (z43, true) else (b6 (qQ a0 a1 a2 self) (bA 0 (a0.Kids.length : Int)) ([] : List (A8 Int))).bind fun q58 => match q58 with
    | .ret r => some r
    | .done z57 =>
    some (z57, true))))))))
def hE : Nat → al → (List Int) → (A8 Int) → Option ((List (A8 Int)) × Bool)
  | 0 => fun _ _ _ => none
  | k + 1 => oD (hE k)
def qR (a0 : al) (a1 : (List Int)) (a2 : (A8 Int)) : Option ((List (A8 Int)) × Bool) := hE c9 a0 a1 a2
def kn (a0 : al) (a1 : (List Int)) (a2 : (A8 Int)) : Option ((List (A8 Int)) × Int) :=
  (ox a0).bind fun r1 =>
    (if (!r1) then some (([] : List (A8 Int)), 11) else (qR a0 a1 a2).bind fun r3 =>
    (if (!r3.2) then some (([] : List (A8 Int)), 24) else some (r3.1, 0)))
def qS (a0 : api_Topo) (a1 : api_Port) (i1 : Int) : Unit → Option (Br Unit (api_Port × Bool))
  | () =>
  (be a0.Links i1).bind fun x7 =>
    (if (x7.a0 == a1) then some (Br.ret (x7.a1, true)) else (if (x7.a1 == a1) then some (Br.ret (x7.a0, true)) else some (.next ())))
def ju (a0 : api_Topo) (a1 : api_Port) : Option (api_Port × Bool) :=
  (b6 (qS a0 a1) (bA 0 (a0.Links.length : Int)) ()).bind fun q10 => match q10 with
    | .ret r => some r
    | .done () =>
    some ((api_Port.mk 0 0), false)
def uD (a0 : api_Topo) (a1 : api_Port) (i1 : Int) : Unit → Option (Br Unit Bool)
  | () =>
  (be a0.Hosts i1).bind fun x7 =>
    (if (x7 == a1) then some (Br.ret true) else some (.next ()))
def oE (a0 : api_Topo) (a1 : api_Port) : Option Bool :=
  (b6 (uD a0 a1) (bA 0 (a0.Hosts.length : Int)) ()).bind fun q9 => match q9 with
    | .ret r => some r
    | .done () =>
    some false
def lm (a0 : api_Topo) (a1 : (A8 Int)) : Option ((A8 Int) × Int) :=
  (ju a0 (api_Port.mk a1.a0 a1.a1)).bind fun r1 =>
    (if r1.2 then some ((A8.mk r1.1.Sw r1.1.Pt a1.a2 a1.a3 a1.a4 a1.a5 a1.a6 a1.a7), 0) else (oE a0 (api_Port.mk a1.a0 a1.a1)).bind fun r3 =>
    (if r3 then some (a1, 1) else some (a1, 2)))
def uE (a3 : (A8 Int)) (x11 : (A8 Int)) (r16 : ((List (List (A8 Int))) × Int)) (i19 : Int) : (List (List (A8 Int))) → Option (List (List (A8 Int)))
  | l18 =>
  (be r16.1 i19).bind fun x25 =>
    (cY ([a3, x11] : List (A8 Int)) x25).bind fun l26 =>
    (cY l18 ([l26] : List (List (A8 Int)))).bind fun l27 =>
    some l27
def qT (a0 : api_Topo) (a1 : al) (a2 : (List Int)) (a3 : (A8 Int)) (a4 : Int) (r1 : ((List (A8 Int)) × Int)) (self : api_Topo → al → (List Int) → (A8 Int) → Int → Option ((List (List (A8 Int))) × Int)) (i5 : Int) : (List (List (A8 Int))) → Option (Br (List (List (A8 Int))) ((List (List (A8 Int))) × Int))
  | l4 =>
  (be r1.1 i5).bind fun x11 =>
    (lm a0 x11).bind fun r12 =>
    (((if ((r12.2 != 0) || (a4 == 1)) then (cY l4 ([([a3, x11] : List (A8 Int))] : List (List (A8 Int)))).bind fun l15 =>
    some (.inl l15) else (self a0 a1 a2 r12.1 (IntKind.i64.wrap (a4 - 1))).bind fun r16 =>
    (if (r16.2 != 0) then some (Sum.inr (Br.ret (([] : List (List (A8 Int))), r16.2))) else (cQ (uE a3 x11 r16) (bA 0 (r16.1.length : Int)) l4).bind fun z28 =>
    some (.inl z28))) : Option ((List (List (A8 Int))) ⊕ (Br (List (List (A8 Int))) ((List (List (A8 Int))) × Int))))).bind fun q31 => match q31 with
    | .inr r => some r
    | .inl l30 =>
    (if decide ((l30.length : Int) > 200) then some (Br.ret (([] : List (List (A8 Int))), 24)) else some (.next l30))
def jv (self : api_Topo → al → (List Int) → (A8 Int) → Int → Option ((List (List (A8 Int))) × Int)) (a0 : api_Topo) (a1 : al) (a2 : (List Int)) (a3 : (A8 Int)) (a4 : Int) : Option ((List (List (A8 Int))) × Int) :=
  (kn a1 a2 a3).bind fun r1 =>
    (if (r1.2 != 0) then some (([] : List (List (A8 Int))), r1.2) else (if ((r1.1.length : Int) == 0) then some (([([a3] : List (A8 Int))] : List (List (A8 Int))), 0) else (b6 (qT a0 a1 a2 a3 a4 r1 self) (bA 0 (r1.1.length : Int)) ([] : List (List (A8 Int)))).bind fun q34 => match q34 with
    | .ret r => some r
    | .done z33 =>
    some (z33, 0)))
def jw : Nat → api_Topo → al → (List Int) → (A8 Int) → Int → Option ((List (List (A8 Int))) × Int)
  | 0 => fun _ _ _ _ _ => none
  | k + 1 => jv (jw k)
def mI (a0 : api_Topo) (a1 : al) (a2 : (List Int)) (a3 : (A8 Int)) (a4 : Int) : Option ((List (List (A8 Int))) × Int) := jw c9 a0 a1 a2 a3 a4
def uF (a0 : api_Topo) (a1 : Int) (i1 : Int) : Unit → Option (Br Unit Int)
  | () =>
  (be a0.Switches i1).bind fun x7 =>
    (if (x7 == a1) then some (Br.ret i1) else some (.next ()))
def iU (a0 : api_Topo) (a1 : Int) : Option Int :=
  (b6 (uF a0 a1) (bA 0 (a0.Switches.length : Int)) ()).bind fun q9 => match q9 with
    | .ret r => some r
    | .done () =>
    some (-1)
def qU (a0 : api_Topo) (i2 : Int) : (List api_Port) → Option (List api_Port)
  | l1 =>
  (be a0.Links i2).bind fun x8 =>
    (cY l1 ([x8.a0, x8.a1] : List api_Port)).bind fun l9 =>
    some l9
def oF (a0 : api_Topo) : Option (List api_Port) :=
  (cQ (qU a0) (bA 0 (a0.Links.length : Int)) ([] : List api_Port)).bind fun z10 =>
    (cY z10 a0.Hosts).bind fun l11 =>
    some l11
def uG (a0 : api_Topo) (i4 : Int) : Unit → Option (Br Unit Int)
  | () =>
  (be a0.Switches i4).bind fun x10 =>
    (iU a0 x10).bind fun r11 =>
    (if (r11 != i4) then some (Br.ret 12) else some (.next ()))
def uH (a0 : api_Topo) (r13 : (List api_Port)) (i14 : Int) : Unit → Option (Br Unit Int)
  | () =>
  (be r13 i14).bind fun x20 =>
    (iU a0 x20.Sw).bind fun r21 =>
    (if decide (r21 < 0) then some (Br.ret 12) else some (.next ()))
def uI (r13 : (List api_Port)) (i23 : Int) (i29 : Int) : Unit → Option (Br Unit (Br Unit Int))
  | () =>
  (be r13 i23).bind fun x35 =>
    (be r13 i29).bind fun x36 =>
    (if (x35 == x36) then some (Br.ret (Br.ret 11)) else some (.next ()))
def uJ (r13 : (List api_Port)) (i23 : Int) : Unit → Option (Br Unit Int)
  | () =>
  (b6 (uI r13 i23) (bA 0 i23) ()).bind fun q38 => match q38 with
    | .ret r => some r
    | .done () =>
    some (.next ())
def oH (a0 : api_Topo) : Option Int :=
  (if ((decide ((a0.Switches.length : Int) > 12)) || ((decide ((a0.Links.length : Int) > 24)) || (decide ((a0.Hosts.length : Int) > 24)))) then some 2 else (b6 (uG a0) (bA 0 (a0.Switches.length : Int)) ()).bind fun q41 => match q41 with
    | .ret r => some r
    | .done () =>
    (oF a0).bind fun r13 =>
    (b6 (uH a0 r13) (bA 0 (r13.length : Int)) ()).bind fun q40 => match q40 with
    | .ret r => some r
    | .done () =>
    (b6 (uJ r13) (bA 0 (r13.length : Int)) ()).bind fun q39 => match q39 with
    | .ret r => some r
    | .done () =>
    some 0)
def oI (a0 : api_Topo) (i4 : Int) (i11 : Int) : (List bK) → Option (List bK)
  | l10 =>
  ((gR a0 (bK.mk i4 i11 [] false)).bind fun r17 =>
    (if (r17 == 0) then (cY l10 ([(bK.mk i4 i11 [] false)] : List bK)).bind fun l19 =>
    some l19 else some l10)).bind fun l20 =>
    some l20
def qV (a0 : api_Topo) (i4 : Int) : (List bK) → Option (List bK)
  | l3 =>
  (cQ (oI a0 i4) (bA 0 (a0.Hosts.length : Int)) l3).bind fun z22 =>
    some z22
def oJ (a0 : api_Topo) : Option ((List bK) × Int) :=
  (mu a0).bind fun r1 =>
    (if (r1 != 0) then some (([] : List bK), r1) else (cQ (qV a0) (bA 0 (a0.Hosts.length : Int)) ([] : List bK)).bind fun z24 =>
    some (z24, 0))
def oK (a0 : api_Topo) (a1 : Int) : Option (Int × Int) :=
  (be a0.Links a1).bind fun x1 =>
    (iU a0 x1.a0.Sw).bind fun r2 =>
    (iU a0 x1.a1.Sw).bind fun r3 =>
    some (r2, r3)
def uK (a0 : api_Topo) (a1 : Int) (a2 : Int) (a3 : Int) (i1 : Int) : Unit → Option (Br Unit Bool)
  | () =>
  (oK a0 i1).bind fun r7 =>
    (if ((i1 != a3) && ((a1 != a2) && (if (r7.1 == a1) then ((r7.2 == a2) || ((r7.1 == a2) && (r7.2 == a1))) else ((r7.1 == a2) && (r7.2 == a1))))) then some (Br.ret true) else some (.next ()))
def mJ (a0 : api_Topo) (a1 : Int) (a2 : Int) (a3 : Int) : Option Bool :=
  (b6 (uK a0 a1 a2 a3) (bA 0 (a0.Links.length : Int)) ()).bind fun q15 => match q15 with
    | .ret r => some r
    | .done () =>
    some false
def qW (i7 : Int) : (List Int) → Option (List Int)
  | l6 =>
  (be l6 i7).bind fun x13 =>
    (di l6 i7 (-1)).bind fun l14 =>
    some l14
def oL (a0 : api_Topo) (a3 : Int) (i19 : Int) (i26 : Int) (i33 : Int) : (List Int) → Option (List Int)
  | l32 =>
  ((be l32 i26).bind fun x39 =>
    ((if (x39 == i19) then (be l32 i33).bind fun x41 =>
    (if decide (x41 < 0) then (mJ a0 i26 i33 a3).bind fun r43 =>
    some r43 else some false) else some false)).bind fun y44 =>
    (if y44 then (be l32 i33).bind fun x47 =>
    (di l32 i33 (i19 + 1)).bind fun l48 =>
    some l48 else some l32)).bind fun l49 =>
    some l49
def qY (a0 : api_Topo) (a3 : Int) (i19 : Int) (i26 : Int) : (List Int) → Option (List Int)
  | l25 =>
  (cQ (oL a0 a3 i19 i26) (bA 0 (a0.Switches.length : Int)) l25).bind fun z51 =>
    some z51
def oM (a0 : api_Topo) (a3 : Int) (i19 : Int) : (List Int) → Option (List Int)
  | l18 =>
  (cQ (qY a0 a3 i19) (bA 0 (a0.Switches.length : Int)) l18).bind fun z53 =>
    some z53
def jx (a0 : api_Topo) (a1 : Int) (a2 : Int) (a3 : Int) : Option Int :=
  (if ((decide (a1 < 0)) || ((decide (a1 ≥ (a0.Switches.length : Int))) || ((decide (a2 < 0)) || (decide (a2 ≥ (a0.Switches.length : Int)))))) then some (-1) else (fj (a0.Switches.length : Int) 0).bind fun l5 =>
    (cQ qW (bA 0 (a0.Switches.length : Int)) l5).bind fun z15 =>
    (be z15 a1).bind fun x16 =>
    (di z15 a1 0).bind fun l17 =>
    (cQ (oM a0 a3) (bA 0 (a0.Switches.length : Int)) l17).bind fun z55 =>
    (be z55 a2).bind fun x56 =>
    some x56)
def oN (a0 : api_Topo) (a2 : Int) (i3 : Int) (i10 : Int) : ((List Int) × Int) → Option (((List Int) × Int) ⊕ ((List Int) × Int))
  | (l8, i9) =>
  (mJ a0 i9 i10 (-1)).bind fun r16 =>
    ((if r16 then (jx a0 i10 a2 (-1)).bind fun r18 =>
    some (r18 == (IntKind.i64.wrap (i3 - 1))) else some false)).bind fun y19 =>
    (if y19 then (cY l8 ([i10] : List Int)).bind fun l22 =>
    some (.inr (l22, i10)) else some (.inl (l8, i9)))
def mK (a0 : api_Topo) (a2 : Int) : (Int × (List Int) × Int) → Option ((Int × (List Int) × Int) ⊕ (Int × (List Int) × Int))
  | (i3, l4, i5) =>
  (if (i5 != a2) then (ka (oN a0 a2 i3) (bA 0 (a0.Switches.length : Int)) (l4, i5)).bind fun (z23, z24) =>
    some (.inl (IntKind.i64.wrap (i3 - 1), z23, z24)) else some (.inr (i3, l4, i5)))
def jy (a0 : api_Topo) (a1 : Int) (a2 : Int) : Option ((List Int) × Bool) :=
  (jx a0 a1 a2 (-1)).bind fun r1 =>
    (if decide (r1 < 0) then some (([] : List Int), false) else (iz (mK a0 a2) c9 (r1, ([a1] : List Int), a1)).bind fun (z26, z27, z28) =>
    some (z27, true))
def z7 (a1 : bK) (i6 : Int) : Unit → Option (Br Unit Int)
  | () =>
  (be a1.Match i6).bind fun x12 =>
    ((if decide (x12.F < 4) then some true else (if decide (x12.F > 7) then some true else (if decide (i6 > 0) then (be a1.Match (IntKind.i64.wrap (i6 - 1))).bind fun x16 =>
    some (decide (x16.F ≥ x12.F)) else some false)))).bind fun y17 =>
    (if y17 then some (Br.ret 1) else some (.next ()))
def mL (a0 : api_Topo) (a1 : bK) : Option Int :=
  (if ((decide (a1.From < 0)) || ((decide (a1.From ≥ (a0.Hosts.length : Int))) || ((decide (a1.To < 0)) || ((decide (a1.To ≥ (a0.Hosts.length : Int))) || (a1.From == a1.To))))) then some 1 else (b6 (z7 a1) (bA 0 (a1.Match.length : Int)) ()).bind fun q26 => match q26 with
    | .ret r => some r
    | .done () =>
    (be a0.Hosts a1.From).bind fun x20 =>
    (iU a0 x20.Sw).bind fun r21 =>
    (be a0.Hosts a1.To).bind fun x22 =>
    (iU a0 x22.Sw).bind fun r23 =>
    (jy a0 r21 r23).bind fun r24 =>
    (if (!r24.2) then some 33 else some 0))
def mM (a0 : api_Topo) (r5 : ((List bK) × Int)) (i8 : Int) (i15 : Int) : Int → Option (Br Int (Br Int Bool))
  | i14 =>
  (((mL a0 (bK.mk i8 i15 [] false)).bind fun r21 =>
    (if (r21 != 0) then some (.inl i14) else ((if decide (i14 ≥ (r5.1.length : Int)) then some true else (be r5.1 i14).bind fun x24 =>
    (if (x24.From != i8) then some true else (if (x24.To != i15) then some true else (if x24.Ban then some true else some ((x24.Match.length : Int) != 0)))))).bind fun y28 =>
    (if y28 then some (Sum.inr (Br.ret (Br.ret false))) else some (.inl (IntKind.i64.wrap (i14 + 1))))) : Option (Int ⊕ (Br Int (Br Int Bool))))).bind fun q32 => match q32 with
    | .inr r => some r
    | .inl y31 =>
    some (.next y31)
def mN (a0 : api_Topo) (r5 : ((List bK) × Int)) (i8 : Int) : Int → Option (Br Int Bool)
  | i7 =>
  (b6 (mM a0 r5 i8) (bA 0 (a0.Hosts.length : Int)) i7).bind fun q34 => match q34 with
    | .ret r => some r
    | .done z33 =>
    some (.next z33)
def law30_RouteAll (a0 : api_Topo) (a1 : (A2 Int)) : Option Bool :=
  (qF).bind fun r1 =>
    (if (!r1) then some false else (oH a0).bind fun r3 =>
    (if (r3 != 0) then some true else (oJ a0).bind fun r5 =>
    (if (r5.2 != 0) then some false else (b6 (mN a0 r5) (bA 0 (a0.Hosts.length : Int)) 0).bind fun q54 => match q54 with
    | .ret r => some r
    | .done z35 =>
    (if (z35 != (r5.1.length : Int)) then some false else (mF a0 r5.1).bind fun r37 =>
    (if ((r37.2 == 2) || (z35 == 0)) then some true else (mg (IntKind.i64.wrap a1.a0) z35).bind fun q40 =>
    (be r5.1 q40).bind fun x41 =>
    (be a0.Hosts x41.From).bind fun x42 =>
    (mI a0 r37.1 [] (A8.mk x42.Sw x42.Pt (IntKind.u16.wrap (IntKind.i64.wrap (x41.From + 1))) (IntKind.u16.wrap (IntKind.i64.wrap (x41.To + 1))) 0 (IntKind.u16.wrap a1.a1) 0 0) 12).bind fun r43 =>
    (if ((r37.2 != 0) || ((r43.2 != 0) || ((r43.1.length : Int) != 1))) then some false else (be r43.1 0).bind fun x47 =>
    (be x47 (IntKind.i64.wrap ((x47.length : Int) - 1))).bind fun x48 =>
    ((if (((x47.length : Int).tmod 2) == 0) then (be a0.Hosts x41.To).bind fun x50 =>
    (if (x48.a0 == x50.Sw) then some (x48.a1 == x50.Pt) else some false) else some false)).bind fun y52 =>
    some y52))))))
end Go.AM
