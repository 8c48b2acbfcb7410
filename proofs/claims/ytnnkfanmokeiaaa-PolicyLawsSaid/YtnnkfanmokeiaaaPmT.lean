import Derived.Test.YtnnkfanmokeiaaaAmOr
import Derived.Test.YtnnkfanmokeiaaaAmN4
set_option linter.unusedVariables false
namespace Go.AM
open Go
structure ah where
  Op : Int
  F : Int
  N : Int
  Kids : (List ah)
  deriving Inhabited
structure eT where
  F : Int
  N : Int
  deriving DecidableEq, Inhabited
structure mP where
  When : (List eT)
  Guard : (List eT)
  Then : (List eT)
  deriving DecidableEq, Inhabited
structure dL where
  Init : (List Int)
  Pol : ah
  Rules : (List mP)
  deriving Inhabited
structure law05_Step where
  What : Int
  F : Int
  N : Int
  K : Int
  deriving DecidableEq, Inhabited
structure qs where
  Sw : Int
  Pt : Int
  deriving DecidableEq, Inhabited
structure qt where
  Switches : (List Int)
  Links : (List (A2 qs))
  Hosts : (List qs)
  deriving DecidableEq, Inhabited
structure yX where
  From : Int
  To : Int
  Match : (List eT)
  Ban : Bool
  deriving DecidableEq, Inhabited
structure yY where
  T : qt
  L : (List law05_Step)
  State : (List Int)
  deriving DecidableEq, Inhabited
structure yZ where
  t : qt
  p : ah
  state : (List Int)
  found : (List (List (A8 Int)))
  deriving Inhabited
def eU (a0 : (List ah)) : Option ah :=
  some (ah.mk 7 0 0 a0)
def eo (a0 : (List ah)) : Option ah :=
  some (ah.mk 6 0 0 a0)
def mQ (a0 : ah) (self : ah → Option Int) (i2 : Int) : Int → Option Int
  | i1 =>
  (bv a0.Kids i2).bind fun x8 =>
    (self x8).bind fun r9 =>
    some (IntKind.i64.wrap (i1 + r9))
def jT (self : ah → Option Int) (a0 : ah) : Option Int :=
  (eP (mQ a0 self) (bJ 0 (a0.Kids.length : Int)) 1).bind fun z10 =>
    some z10
def gS : Nat → ah → Option Int
  | 0 => fun _ => none
  | k + 1 => jT (gS k)
def mR (a0 : ah) : Option Int := gS cL a0
def mS (a0 : ah) (self : ah → Option Int) (i2 : Int) : Int → Option Int
  | i1 =>
  (bv a0.Kids i2).bind fun x8 =>
    (self x8).bind fun r9 =>
    some (ic i1 r9)
def jU (self : ah → Option Int) (a0 : ah) : Option Int :=
  (eP (mS a0 self) (bJ 0 (a0.Kids.length : Int)) 0).bind fun z10 =>
    some (IntKind.i64.wrap (z10 + 1))
def gT : Nat → ah → Option Int
  | 0 => fun _ => none
  | k + 1 => jU (gT k)
def mT (a0 : ah) : Option Int := gT cL a0
def qu (a0 : (List ah)) (a1 : (ah → Option Bool)) (i1 : Int) : Unit → Option (Br Unit Int)
  | () =>
  (bv a0 i1).bind fun x7 =>
    (a1 x7).bind fun x8 =>
    (if x8 then some (Br.ret i1) else some (.next ()))
def kU (a0 : (List ah)) (a1 : ah → Option Bool) : Option Int :=
  (ca (qu a0 a1) (bJ 0 (a0.length : Int)) ()).bind fun q10 => match q10 with
    | .ret r => some r
    | .done () =>
    some (-1)
def il (a0 : (List ah)) (a1 : ah → Option Bool) : Option Bool :=
  (kU a0 a1).bind fun r1 =>
    some (decide (r1 ≥ 0))
def kV (self : ah → Option Bool) (a0 : ah) : Option Bool :=
  (self a0).bind fun r1 =>
    some (!r1)
def kW (self : ah → Option Bool) (a0 : ah) : Option Bool :=
  ((if (a0.Op == 0) then some (a0.Op == 0) else (if (a0.Op == 1) then some (a0.Op == 1) else (if (a0.Op == 2) then some (a0.Op == 2) else (if (a0.Op == 3) then some (a0.Op == 3) else some (a0.Op == 4)))))).bind fun y5 =>
    (if y5 then some true else ((if (a0.Op == 6) then some (a0.Op == 6) else some (a0.Op == 7))).bind fun y9 =>
    (if y9 then (il a0.Kids (fun y0 => kV self y0)).bind fun r12 =>
    some (!r12) else some false))
def iV : Nat → ah → Option Bool
  | 0 => fun _ => none
  | k + 1 => kW (iV k)
def mU (a0 : ah) : Option Bool := iV cL a0
def kX (self : ah → Int → Option Bool) (a0 : ah) (a1 : Int) : Option Bool :=
  (self a0 a1).bind fun r1 =>
    some (!r1)
def kY (self : ah → Int → Option Bool) (a0 : ah) (a1 : Int) : Option Bool :=
  (((if (a0.Op == 0) then some (a0.Op == 0) else some (a0.Op == 1))).bind fun y3 =>
    (if y3 then some (Sum.inr (((a0.Kids.length : Int) == 0) && ((a0.F == 0) && (a0.N == 0)))) else (if (a0.Op == 4) then ((if ((a0.Kids.length : Int) == 1) then (if ((a0.F == 0) && (a0.N == 0)) then (bv a0.Kids 0).bind fun x10 =>
    (mU x10).bind fun r11 =>
    (if r11 then (self x10 a1).bind fun r13 =>
    some r13 else some false) else some false) else some false)).bind fun y14 =>
    some (Sum.inr y14) else ((if (a0.Op == 6) then some (a0.Op == 6) else some (a0.Op == 7))).bind fun y17 =>
    (if y17 then ((if decide ((a0.Kids.length : Int) ≥ 2) then (if ((a0.F == 0) && (a0.N == 0)) then (il a0.Kids (fun y0 => kX self y0 a1)).bind fun r22 =>
    some (!r22) else some false) else some false)).bind fun y23 =>
    some (Sum.inr y23) else (if (a0.Op == 2) then some (.inl (0, 8)) else (if (a0.Op == 5) then some (.inl (1, 8)) else (if (a0.Op == 3) then some (.inl (0, a1)) else some (Sum.inr false)))))))).bind fun q30 => match q30 with
    | .inr r => some r
    | .inl (y28, y29) =>
    some (((a0.Kids.length : Int) == 0) && ((decide (a0.F ≥ y28)) && (decide (a0.F < y29))))
def iW : Nat → ah → Int → Option Bool
  | 0 => fun _ _ => none
  | k + 1 => kY (iW k)
def mV (a0 : ah) (a1 : Int) : Option Bool := iW cL a0 a1
def uF (a0 : (List eT)) (a1 : Int) (i1 : Int) : Unit → Option (Br Unit Bool)
  | () =>
  (bv a0 i1).bind fun x7 =>
    ((if decide (x7.F < 0) then some true else (if decide (x7.F ≥ a1) then some true else (if decide (i1 > 0) then (bv a0 (IntKind.i64.wrap (i1 - 1))).bind fun x11 =>
    some (decide (x11.F ≥ x7.F)) else some false)))).bind fun y12 =>
    (if y12 then some (Br.ret false) else some (.next ()))
def kZ (a0 : (List eT)) (a1 : Int) : Option Bool :=
  (ca (uF a0 a1) (bJ 0 (a0.length : Int)) ()).bind fun q15 => match q15 with
    | .ret r => some r
    | .done () =>
    some true
def uG (a0 : dL) (i12 : Int) : Unit → Option (Br Unit Int)
  | () =>
  (bv a0.Rules i12).bind fun x18 =>
    ((if decide ((x18.When.length : Int) ≥ 2) then (bv x18.When 0).bind fun x20 =>
    (if (x20.F == 0) then (bv x18.When 1).bind fun x22 =>
    some (x22.F == 1) else some false) else some false)).bind fun y23 =>
    ((if (!y23) then some true else (kZ x18.When 8).bind fun r26 =>
    (if (!r26) then some true else (kZ x18.Guard (a0.Init.length : Int)).bind fun r28 =>
    (if (!r28) then some true else (kZ x18.Then (a0.Init.length : Int)).bind fun r30 =>
    (if (!r30) then some true else some ((x18.Then.length : Int) == 0)))))).bind fun y32 =>
    (if y32 then some (Br.ret 11) else some (.next ()))
def gU (a0 : dL) : Option Int :=
  ((if decide ((a0.Init.length : Int) < 1) then some true else (if decide ((a0.Init.length : Int) > 4) then some true else (mR a0.Pol).bind fun r3 =>
    (if decide (r3 > 300) then some true else (mT a0.Pol).bind fun r5 =>
    (if decide (r5 > 20) then some true else some (decide ((a0.Rules.length : Int) > 24))))))).bind fun y7 =>
    (if y7 then some 2 else (mV a0.Pol (a0.Init.length : Int)).bind fun r10 =>
    (if (!r10) then some 11 else (ca (uG a0) (bJ 0 (a0.Rules.length : Int)) ()).bind fun q35 => match q35 with
    | .ret r => some r
    | .done () =>
    some 0))
def gV (a0 : Bool) (a1 : (A8 Int)) : Option (List (A8 Int)) :=
  (if (!a0) then some ([] : List (A8 Int)) else some ([a1] : List (A8 Int)))
def k5 (a0 : (List Int)) (a1 : ah) : Option Bool :=
  ((if decide (a1.F ≥ 0) then (if decide (a1.F < (a0.length : Int)) then (bv a0 a1.F).bind fun x3 =>
    some (x3 == a1.N) else some false) else some false)).bind fun y4 =>
    some y4
def mW (a0 : Int) : Option Bool :=
  some ((decide (a0 ≥ 0)) && (decide (a0 < 8)))
def k8 (a0 : (A8 Int)) (a1 : Int) (a2 : Int) : Option (A8 Int) :=
  ((mW a1).bind fun r1 =>
    (if r1 then (a0.get a1).bind fun x3 =>
    (a0.put a1 a2).bind fun x4 =>
    some x4 else some a0)).bind fun y5 =>
    some y5
def jV (a0 : List (A8 Int)) : Option (List (A8 Int)) :=
  (dq ([] : List (A8 Int)) a0).bind fun l1 => some l1
def mX (a0 : Int) : Option Bool :=
  some (a0 != a0)
def qv (a0 : Int) (a1 : Int) : Option Int :=
  (mX a0).bind fun r1 =>
    (mX a1).bind fun r2 =>
    (if r1 then (if r2 then some 0 else some (-1)) else (if r2 then some 1 else (if decide (a0 < a1) then some (-1) else (if decide (a0 > a1) then some 1 else some 0))))
def uH (a0 : (A8 Int)) (a1 : (A8 Int)) (i1 : Int) : Unit → Option (Br Unit Int)
  | () =>
  (a0.get i1).bind fun x7 =>
    (a1.get i1).bind fun x8 =>
    (qv x7 x8).bind fun r9 =>
    (if (r9 != 0) then some (Br.ret r9) else some (.next ()))
def mY (a0 : (A8 Int)) (a1 : (A8 Int)) : Option Int :=
  (ca (uH a0 a1) (bJ 0 8) ()).bind fun q11 => match q11 with
    | .ret r => some r
    | .done () =>
    some 0
def im (a0 : List (A8 Int)) (a1 : (A8 Int) → (A8 Int) → Option Int) : Option (List (A8 Int)) :=
  if a0.length < 4611686018427387904 then some (db a0) else none
def k9 (a0 : (List (A8 Int))) (i2 : Int) (i14 : Int) : ((List (A8 Int)) × Int) → Option ((List (A8 Int)) × Int)
  | (l12, i13) =>
  ((gy l12 i2 (a0.length : Int) i14).bind fun x20 =>
    (bv l12 (i2 + i14)).bind fun x21 =>
    (gy l12 i2 (a0.length : Int) (IntKind.i64.wrap (i14 - 1))).bind fun x22 =>
    (bv l12 (i2 + (IntKind.i64.wrap (i14 - 1)))).bind fun x23 =>
    (if (!(x21 == x23)) then (bv l12 i13).bind fun x25 =>
    (cK l12 i13 x21).bind fun l26 =>
    some (l26, IntKind.i64.wrap (i13 + 1)) else some (l12, i13))).bind fun (l27, y28) =>
    some (l27, y28)
def jW (a0 : (List (A8 Int))) (i2 : Int) : Unit → Option (Br Unit (List (A8 Int)))
  | () =>
  (bv a0 i2).bind fun x8 =>
    (bv a0 (IntKind.i64.wrap (i2 - 1))).bind fun x9 =>
    (if (x8 == x9) then (cV a0 i2 (a0.length : Int)).bind fun l11 =>
    (eP (k9 a0 i2) (bJ 1 (l11.length : Int)) (a0, i2)).bind fun (z30, z31) =>
    (cV z30 z31 (z30.length : Int)).bind fun l32 =>
    some (Br.ret (z30.take z31.toNat)) else some (.next ()))
def jX (a0 : (List (A8 Int))) : Option (List (A8 Int)) :=
  (if decide ((a0.length : Int) < 2) then some a0 else (ca (jW a0) (bJ 1 (a0.length : Int)) ()).bind fun q34 => match q34 with
    | .ret r => some r
    | .done () =>
    some a0)
def la (a0 : (List (A8 Int))) : Option (List (A8 Int)) :=
  (jV a0).bind fun r1 =>
    (im r1 (fun y0 y1 => mY y0 y1)).bind fun r2 =>
    (jX r2).bind fun r3 =>
    some r3
def io (a0 : (List (A8 Int))) : Option (Option (List (A8 Int))) :=
  (la a0).bind fun r1 =>
    (if decide ((r1.length : Int) > 64) then some none else some (some r1))
def mZ (a0 : ah) (a1 : (List Int)) (a2 : (A8 Int)) (self : ah → (List Int) → (A8 Int) → Option (Option (List (A8 Int)))) (i18 : Int) : (List (A8 Int)) → Option (Br (List (A8 Int)) (Option (List (A8 Int))))
  | l17 =>
  (bv a0.Kids i18).bind fun x24 =>
    fN (self x24 a1 a2) (some (Br.ret none)) fun r25 =>
    (dq l17 r25).bind fun l26 =>
    fN (io l26) (some (Br.ret none)) fun r27 =>
    some (.next r27)
def lb (a1 : (List Int)) (y32 : (List (A8 Int))) (x39 : ah) (self : ah → (List Int) → (A8 Int) → Option (Option (List (A8 Int)))) (i41 : Int) : (List (A8 Int)) → Option (Br (List (A8 Int)) (Br (List (A8 Int)) (Option (List (A8 Int)))))
  | l40 =>
  (bv y32 i41).bind fun x47 =>
    fN (self x39 a1 x47) (some (Br.ret (Br.ret none))) fun r48 =>
    (dq l40 r48).bind fun l49 =>
    some (.next l49)
def m0 (a0 : ah) (a1 : (List Int)) (self : ah → (List Int) → (A8 Int) → Option (Option (List (A8 Int)))) (i33 : Int) : (List (A8 Int)) → Option (Br (List (A8 Int)) (Option (List (A8 Int))))
  | y32 =>
  (bv a0.Kids i33).bind fun x39 =>
    (ca (lb a1 y32 x39 self) (bJ 0 (y32.length : Int)) ([] : List (A8 Int))).bind fun q52 => match q52 with
    | .ret r => some r
    | .done z50 =>
    fN (io z50) (some (Br.ret none)) fun r51 =>
    some (.next r51)
def lf (self : ah → (List Int) → (A8 Int) → Option (Option (List (A8 Int)))) (a0 : ah) (a1 : (List Int)) (a2 : (A8 Int)) : Option (Option (List (A8 Int))) :=
  (if (a0.Op == 1) then (gV true a2).bind fun r2 =>
    some (some r2) else (if (a0.Op == 2) then (a2.get a0.F).bind fun x4 =>
    (gV (x4 == a0.N) a2).bind fun r5 =>
    some (some r5) else (if (a0.Op == 3) then (k5 a1 a0).bind fun r7 =>
    (gV r7 a2).bind fun r8 =>
    some (some r8) else (if (a0.Op == 4) then (bv a0.Kids 0).bind fun x10 =>
    fN (self x10 a1 a2) none fun r11 =>
    (gV ((r11.length : Int) == 0) a2).bind fun r12 =>
    some (some r12) else (if (a0.Op == 5) then (k8 a2 a0.F a0.N).bind fun r14 =>
    (gV true r14).bind fun r15 =>
    some (some r15) else (if (a0.Op == 7) then (ca (mZ a0 a1 a2 self) (bJ 0 (a0.Kids.length : Int)) ([] : List (A8 Int))).bind fun q29 => match q29 with
    | .ret r => some r
    | .done z28 =>
    some (some z28) else (if (a0.Op == 6) then (gV true a2).bind fun r31 =>
    (ca (m0 a0 a1 self) (bJ 0 (a0.Kids.length : Int)) r31).bind fun q54 => match q54 with
    | .ret r => some r
    | .done z53 =>
    some (some z53) else some (some ([] : List (A8 Int))))))))))
def fz : Nat → ah → (List Int) → (A8 Int) → Option (Option (List (A8 Int)))
  | 0 => fun _ _ _ => none
  | k + 1 => lf (fz k)
def lg (a0 : ah) (a1 : (List Int)) (a2 : (A8 Int)) : Option (Option (List (A8 Int))) := fz cL a0 a1 a2
def gW (a0 : ah) (a1 : (List Int)) (a2 : (A8 Int)) : Option ((List (A8 Int)) × Int) :=
  (gU (dL.mk [0, 0, 0, 0] a0 [])).bind fun r2 =>
    (if (r2 != 0) then some (([] : List (A8 Int)), 11) else fN (lg a0 a1 a2) (some (([] : List (A8 Int)), 24)) fun r4 =>
    some (r4, 0))
def qw (a0 : ah) (a1 : (List Int)) (a2 : (A8 Int)) : Option Bool :=
  (gW a0 a1 a2).bind fun r1 =>
    some ((r1.2 == 0) && (decide ((r1.1.length : Int) > 0)))
def m8  : Option Bool :=
  (eU ([(ah.mk 5 1 1 []), (ah.mk 5 1 2 [])] : List ah)).bind fun r1 =>
    (eo ([r1, (ah.mk 3 0 5 [])] : List ah)).bind fun r2 =>
    (gW r2 ([5] : List Int) (A8.mk 9 0 0 0 0 0 0 0)).bind fun r3 =>
    (gW r2 ([6] : List Int) (A8.mk 9 0 0 0 0 0 0 0)).bind fun r4 =>
    ((if (r3.2 == 0) then (if (r4.2 == 0) then (if ((r3.1.length : Int) == 2) then (bv r3.1 1).bind fun x8 =>
    (if (x8 == (A8.mk 9 2 0 0 0 0 0 0)) then (if ((r4.1.length : Int) == 0) then (qw r2 ([5] : List Int) (A8.mk 0 0 0 0 0 0 0 0)).bind fun r11 =>
    some r11 else some false) else some false) else some false) else some false) else some false)).bind fun y12 =>
    some y12
def m9 (a0 : (List law05_Step)) (i3 : Int) : (List ah) → Option (List ah)
  | l2 =>
  ((bv a0 i3).bind fun x9 =>
    (if ((x9.What == 0) || (x9.What == 1)) then (dq l2 ([(ah.mk x9.What 0 0 [])] : List ah)).bind fun l12 =>
    some l12 else (if ((x9.What == 2) || ((x9.What == 3) || (x9.What == 5))) then (dq l2 ([(ah.mk x9.What x9.F x9.N [])] : List ah)).bind fun l16 =>
    some l16 else (if ((x9.What == 4) && (decide ((l2.length : Int) > 0))) then (bv l2 (IntKind.i64.wrap ((l2.length : Int) - 1))).bind fun x19 =>
    (cK l2 (IntKind.i64.wrap ((l2.length : Int) - 1)) (ah.mk 4 0 0 ([x19] : List ah))).bind fun l20 =>
    some l20 else (if ((x9.What == 6) || (x9.What == 7)) then (cV l2 (IntKind.i64.wrap ((l2.length : Int) - (fy (IntKind.i64.wrap x9.K) (l2.length : Int)))) (l2.length : Int)).bind fun l23 =>
    (dq ([] : List ah) l23).bind fun l24 =>
    (cV l2 0 (IntKind.i64.wrap ((l2.length : Int) - (fy (IntKind.i64.wrap x9.K) (l2.length : Int))))).bind fun l25 =>
    (dq l25 ([(ah.mk x9.What 0 0 l24)] : List ah)).bind fun l26 =>
    some l26 else some l2))))).bind fun l27 =>
    some l27
def iX (a0 : (List law05_Step)) : Option (ah × Bool) :=
  (if decide ((a0.length : Int) > 60) then some ((ah.mk 0 0 0 []), false) else (eP (m9 a0) (bJ 0 (a0.length : Int)) ([] : List ah)).bind fun z29 =>
    (if ((z29.length : Int) == 0) then some ((ah.mk 0 0 0 []), false) else (bv z29 (IntKind.i64.wrap ((z29.length : Int) - 1))).bind fun x31 =>
    some (x31, true)))
def uI (a0 : ah) (self : ah → Option Int) (i2 : Int) : Int → Option Int
  | i1 =>
  (bv a0.Kids i2).bind fun x8 =>
    (self x8).bind fun r9 =>
    some (IntKind.i64.wrap (i1 + r9))
def nb (self : ah → Option Int) (a0 : ah) : Option Int :=
  (eP (uI a0 self) (bJ 0 (a0.Kids.length : Int)) 1).bind fun z10 =>
    some z10
def jY : Nat → ah → Option Int
  | 0 => fun _ => none
  | k + 1 => nb (jY k)
def jZ (a0 : ah) : Option Int := jY cL a0
def uJ (a0 : ah) (self : ah → Option Int) (i2 : Int) : Int → Option Int
  | i1 =>
  (bv a0.Kids i2).bind fun x8 =>
    (self x8).bind fun r9 =>
    some (ic i1 r9)
def nc (self : ah → Option Int) (a0 : ah) : Option Int :=
  (eP (uJ a0 self) (bJ 0 (a0.Kids.length : Int)) 0).bind fun z10 =>
    some (IntKind.i64.wrap (z10 + 1))
def j0 : Nat → ah → Option Int
  | 0 => fun _ => none
  | k + 1 => nc (j0 k)
def j1 (a0 : ah) : Option Int := j0 cL a0
def nd (a0 : ah) (self : ah → Option Bool) (i6 : Int) : Unit → Option (Br Unit (Unit ⊕ Bool))
  | () =>
  (bv a0.Kids i6).bind fun x12 =>
    (self x12).bind fun r13 =>
    (if (!r13) then some (Br.ret (Sum.inr false)) else some (.next ()))
def lh (self : ah → Option Bool) (a0 : ah) : Option Bool :=
  (if ((a0.Op == 5) || ((decide (a0.Op < 0)) || (decide (a0.Op > 7)))) then some false else ((if ((a0.Op == 6) || (a0.Op == 7)) then (ca (nd a0 self) (bJ 0 (a0.Kids.length : Int)) ()).bind fun q15 => match q15 with
    | .ret r => some r
    | .done () =>
    some (.inl ()) else some (.inl ()))).bind fun q16 => match q16 with
    | .inr r => some r
    | .inl () =>
    some true)
def iY : Nat → ah → Option Bool
  | 0 => fun _ => none
  | k + 1 => lh (iY k)
def nf (a0 : ah) : Option Bool := iY cL a0
def nh (a0 : ah) (a1 : Int) (self : ah → Int → Option Bool) (i33 : Int) : Unit → Option (Br Unit Bool)
  | () =>
  (bv a0.Kids i33).bind fun x39 =>
    (self x39 a1).bind fun r40 =>
    (if (!r40) then some (Br.ret false) else some (.next ()))
def lj (self : ah → Int → Option Bool) (a0 : ah) (a1 : Int) : Option Bool :=
  ((if (a0.Op == 0) then some (a0.Op == 0) else some (a0.Op == 1))).bind fun y2 =>
    (if y2 then some (((a0.Kids.length : Int) == 0) && ((a0.F == 0) && (a0.N == 0))) else (if (a0.Op == 2) then some (((a0.Kids.length : Int) == 0) && ((decide (a0.F ≥ 0)) && (decide (a0.F < 8)))) else (if (a0.Op == 3) then some (((a0.Kids.length : Int) == 0) && ((decide (a0.F ≥ 0)) && (decide (a0.F < a1)))) else (if (a0.Op == 5) then some (((a0.Kids.length : Int) == 0) && ((decide (a0.F ≥ 1)) && (decide (a0.F < 8)))) else (if (a0.Op == 4) then ((if ((a0.Kids.length : Int) == 1) then (if (a0.F == 0) then (if (a0.N == 0) then (bv a0.Kids 0).bind fun x20 =>
    (nf x20).bind fun r21 =>
    (if r21 then (self x20 a1).bind fun r23 =>
    some r23 else some false) else some false) else some false) else some false)).bind fun y24 =>
    some y24 else ((if (a0.Op == 6) then some (a0.Op == 6) else some (a0.Op == 7))).bind fun y27 =>
    (if y27 then (if ((decide ((a0.Kids.length : Int) < 2)) || ((a0.F != 0) || (a0.N != 0))) then some false else (ca (nh a0 a1 self) (bJ 0 (a0.Kids.length : Int)) ()).bind fun q42 => match q42 with
    | .ret r => some r
    | .done () =>
    some true) else some false))))))
def iZ : Nat → ah → Int → Option Bool
  | 0 => fun _ _ => none
  | k + 1 => lj (iZ k)
def ni (a0 : ah) (a1 : Int) : Option Bool := iZ cL a0 a1
def uK (a0 : (List eT)) (a1 : Int) (i1 : Int) : Unit → Option (Br Unit Bool)
  | () =>
  (bv a0 i1).bind fun x7 =>
    ((if decide (x7.F < 0) then some true else (if decide (x7.F ≥ a1) then some true else (if decide (i1 > 0) then (bv a0 (IntKind.i64.wrap (i1 - 1))).bind fun x11 =>
    some (decide (x11.F ≥ x7.F)) else some false)))).bind fun y12 =>
    (if y12 then some (Br.ret false) else some (.next ()))
def lk (a0 : (List eT)) (a1 : Int) : Option Bool :=
  (ca (uK a0 a1) (bJ 0 (a0.length : Int)) ()).bind fun q15 => match q15 with
    | .ret r => some r
    | .done () =>
    some true
def uL (a0 : dL) (i12 : Int) : Unit → Option (Br Unit Int)
  | () =>
  (bv a0.Rules i12).bind fun x18 =>
    ((if decide ((x18.When.length : Int) < 2) then some true else (bv x18.When 0).bind fun x20 =>
    (if (x20.F != 0) then some true else (bv x18.When 1).bind fun x22 =>
    (if (x22.F != 1) then some true else (lk x18.When 8).bind fun r24 =>
    (if (!r24) then some true else (lk x18.Guard (a0.Init.length : Int)).bind fun r26 =>
    (if (!r26) then some true else (lk x18.Then (a0.Init.length : Int)).bind fun r28 =>
    (if (!r28) then some true else some ((x18.Then.length : Int) == 0)))))))).bind fun y30 =>
    (if y30 then some (Br.ret 11) else some (.next ()))
def lm (a0 : dL) : Option Int :=
  ((if decide ((a0.Init.length : Int) < 1) then some true else (if decide ((a0.Init.length : Int) > 4) then some true else (jZ a0.Pol).bind fun r3 =>
    (if decide (r3 > 300) then some true else (j1 a0.Pol).bind fun r5 =>
    (if decide (r5 > 20) then some true else some (decide ((a0.Rules.length : Int) > 24))))))).bind fun y7 =>
    (if y7 then some 2 else (ni a0.Pol (a0.Init.length : Int)).bind fun r10 =>
    (if (!r10) then some 11 else (ca (uL a0) (bJ 0 (a0.Rules.length : Int)) ()).bind fun q33 => match q33 with
    | .ret r => some r
    | .done () =>
    some 0))
def lr (a0 : ah) : Option Bool :=
  (fM 4 0).bind fun l1 =>
    (lm (dL.mk l1 a0 [])).bind fun r2 =>
    some (r2 == 0)
def nj (a0 : (List (A8 Int))) (a1 : (List (A8 Int))) (i2 : Int) : Unit → Option (Br Unit Bool)
  | () =>
  (bv a0 i2).bind fun x8 =>
    (bv a1 i2).bind fun x9 =>
    (if (!(x8 == x9)) then some (Br.ret false) else some (.next ()))
def ls (a0 : (List (A8 Int))) (a1 : (List (A8 Int))) : Option Bool :=
  (if ((a0.length : Int) != (a1.length : Int)) then some false else (ca (nj a0 a1) (bJ 0 (a0.length : Int)) ()).bind fun q11 => match q11 with
    | .ret r => some r
    | .done () =>
    some true)
def qx (a0 : (List ah)) (i1 : Int) : Unit → Option (Br Unit Bool)
  | () =>
  (bv a0 i1).bind fun x7 =>
    (lr x7).bind fun r8 =>
    ((if (!r8) then some true else (jZ x7).bind fun r10 =>
    (if decide (r10 > 40) then some true else (j1 x7).bind fun r12 =>
    some (decide (r12 > 12))))).bind fun y13 =>
    (if y13 then some (Br.ret false) else some (.next ()))
def i4 (a0 : (List ah)) : Option Bool :=
  (ca (qx a0) (bJ 0 (a0.length : Int)) ()).bind fun q16 => match q16 with
    | .ret r => some r
    | .done () =>
    some true
def nk (a0 : (List Int)) (a1 : (A8 Int)) (a2 : (List ah)) (i2 : Int) : (List (A8 Int)) → Option (Br (List (A8 Int)) Bool)
  | y1 =>
  (bv a2 i2).bind fun x8 =>
    (gW x8 a0 a1).bind fun r9 =>
    (if (r9.2 == 24) then some (Br.ret true) else ((if (r9.2 != 0) then some true else (if decide (i2 > 0) then (ls r9.1 y1).bind fun r13 =>
    some (!r13) else some false))).bind fun y14 =>
    (if y14 then some (Br.ret false) else some (.next r9.1)))
def gA (a0 : (List Int)) (a1 : (A8 Int)) (a2 : (List ah)) : Option Bool :=
  (ca (nk a0 a1 a2) (bJ 0 (a2.length : Int)) ([] : List (A8 Int))).bind fun q18 => match q18 with
    | .ret r => some r
    | .done z17 =>
    some true
def law07_PolicyLaws (a0 : (A3 (List law05_Step))) (a1 : (List Int)) (a2 : (A8 Int)) : Option Bool :=
  (m8).bind fun r1 =>
    (if (!r1) then some false else (if decide ((a1.length : Int) > 6) then some true else (iX a0.a0).bind fun r4 =>
    ((if (!r4.2) then some true else (i4 ([r4.1] : List ah)).bind fun r6 =>
    some (!r6))).bind fun y7 =>
    (if y7 then some true else (iX a0.a1).bind fun r10 =>
    ((if (!r10.2) then some true else (i4 ([r10.1] : List ah)).bind fun r12 =>
    some (!r12))).bind fun y13 =>
    (if y13 then some true else (iX a0.a2).bind fun r16 =>
    ((if (!r16.2) then some true else (i4 ([r16.1] : List ah)).bind fun r18 =>
    some (!r18))).bind fun y19 =>
    (if y19 then some true else (eU ([r10.1, r16.1] : List ah)).bind fun r22 =>
    (eU ([r4.1, r22] : List ah)).bind fun r23 =>
    (eU ([r4.1, r10.1] : List ah)).bind fun r24 =>
    (eU ([r24, r16.1] : List ah)).bind fun r25 =>
    (eU ([r4.1, r10.1, r16.1] : List ah)).bind fun r26 =>
    (eU ([r16.1, r10.1, r4.1] : List ah)).bind fun r27 =>
    (gA a1 a2 ([r23, r25, r26, r27] : List ah)).bind fun r28 =>
    ((if r28 then (eo ([r10.1, r16.1] : List ah)).bind fun r30 =>
    (eo ([r4.1, r30] : List ah)).bind fun r31 =>
    (eo ([r4.1, r10.1] : List ah)).bind fun r32 =>
    (eo ([r32, r16.1] : List ah)).bind fun r33 =>
    (eo ([r4.1, r10.1, r16.1] : List ah)).bind fun r34 =>
    (gA a1 a2 ([r31, r33, r34] : List ah)).bind fun r35 =>
    (if r35 then (eU ([r4.1, r4.1] : List ah)).bind fun r37 =>
    (eU ([r4.1, (ah.mk 0 0 0 [])] : List ah)).bind fun r38 =>
    (eo ([r4.1, (ah.mk 1 0 0 [])] : List ah)).bind fun r39 =>
    (eo ([(ah.mk 1 0 0 []), r4.1] : List ah)).bind fun r40 =>
    (gA a1 a2 ([r37, r4.1, r38, r39, r40] : List ah)).bind fun r41 =>
    (if r41 then (eo ([r4.1, (ah.mk 0 0 0 [])] : List ah)).bind fun r43 =>
    (eo ([(ah.mk 0 0 0 []), r4.1] : List ah)).bind fun r44 =>
    (gA a1 a2 ([r43, r44, (ah.mk 0 0 0 [])] : List ah)).bind fun r45 =>
    (if r45 then (eo ([r4.1, r22] : List ah)).bind fun r47 =>
    (eo ([r4.1, r16.1] : List ah)).bind fun r48 =>
    (eU ([r32, r48] : List ah)).bind fun r49 =>
    (gA a1 a2 ([r47, r49] : List ah)).bind fun r50 =>
    (if r50 then (eo ([r24, r16.1] : List ah)).bind fun r52 =>
    (eU ([r48, r30] : List ah)).bind fun r53 =>
    (gA a1 a2 ([r52, r53] : List ah)).bind fun r54 =>
    some r54 else some false) else some false) else some false) else some false) else some false)).bind fun y55 =>
    some y55)))))
end Go.AM
