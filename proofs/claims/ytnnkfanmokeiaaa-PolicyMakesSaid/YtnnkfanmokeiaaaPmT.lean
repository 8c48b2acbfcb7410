import Derived.Test.YtnnkfanmokeiaaaAmOr
import Derived.Test.YtnnkfanmokeiaaaAmN4
set_option linter.unusedVariables false
namespace Go.AM
open Go
structure aj where
  Op : Int
  F : Int
  N : Int
  Kids : (List aj)
  deriving Inhabited
structure eQ where
  F : Int
  N : Int
  deriving DecidableEq, Inhabited
structure mJ where
  When : (List eQ)
  Guard : (List eQ)
  Then : (List eQ)
  deriving DecidableEq, Inhabited
structure dJ where
  Init : (List Int)
  Pol : aj
  Rules : (List mJ)
  deriving Inhabited
structure law05_Step where
  What : Int
  F : Int
  N : Int
  K : Int
  deriving DecidableEq, Inhabited
structure qh where
  Sw : Int
  Pt : Int
  deriving DecidableEq, Inhabited
structure qi where
  Switches : (List Int)
  Links : (List (A2 qh))
  Hosts : (List qh)
  deriving DecidableEq, Inhabited
structure zw where
  From : Int
  To : Int
  Match : (List eQ)
  Ban : Bool
  deriving DecidableEq, Inhabited
structure zy where
  T : qi
  L : (List law05_Step)
  State : (List Int)
  deriving DecidableEq, Inhabited
structure zA where
  t : qi
  p : aj
  state : (List Int)
  found : (List (List (A8 Int)))
  deriving Inhabited
def qj (a0 : (List aj)) : Option aj :=
  some (aj.mk 7 0 0 a0)
def qk (a0 : (List aj)) : Option aj :=
  some (aj.mk 6 0 0 a0)
def mK (a0 : aj) (self : aj → Option Int) (i2 : Int) : Int → Option Int
  | i1 =>
  (bn a0.Kids i2).bind fun x8 =>
    (self x8).bind fun r9 =>
    some (IntKind.i64.wrap (i1 + r9))
def jI (self : aj → Option Int) (a0 : aj) : Option Int :=
  (d7 (mK a0 self) (bA 0 (a0.Kids.length : Int)) 1).bind fun z10 =>
    some z10
def gI : Nat → aj → Option Int
  | 0 => fun _ => none
  | k + 1 => jI (gI k)
def mL (a0 : aj) : Option Int := gI cA a0
def mM (a0 : aj) (self : aj → Option Int) (i2 : Int) : Int → Option Int
  | i1 =>
  (bn a0.Kids i2).bind fun x8 =>
    (self x8).bind fun r9 =>
    some (hI i1 r9)
def jJ (self : aj → Option Int) (a0 : aj) : Option Int :=
  (d7 (mM a0 self) (bA 0 (a0.Kids.length : Int)) 0).bind fun z10 =>
    some (IntKind.i64.wrap (z10 + 1))
def gJ : Nat → aj → Option Int
  | 0 => fun _ => none
  | k + 1 => jJ (gJ k)
def mN (a0 : aj) : Option Int := gJ cA a0
def ql (a0 : (List aj)) (a1 : (aj → Option Bool)) (i1 : Int) : Unit → Option (Br Unit Int)
  | () =>
  (bn a0 i1).bind fun x7 =>
    (a1 x7).bind fun x8 =>
    (if x8 then some (Br.ret i1) else some (.next ()))
def kI (a0 : (List aj)) (a1 : aj → Option Bool) : Option Int :=
  (bO (ql a0 a1) (bA 0 (a0.length : Int)) ()).bind fun q10 => match q10 with
    | .ret r => some r
    | .done () =>
    some (-1)
def hN (a0 : (List aj)) (a1 : aj → Option Bool) : Option Bool :=
  (kI a0 a1).bind fun r1 =>
    some (decide (r1 ≥ 0))
def kJ (self : aj → Option Bool) (a0 : aj) : Option Bool :=
  (self a0).bind fun r1 =>
    some (!r1)
def kK (self : aj → Option Bool) (a0 : aj) : Option Bool :=
  ((if (a0.Op == 0) then some (a0.Op == 0) else (if (a0.Op == 1) then some (a0.Op == 1) else (if (a0.Op == 2) then some (a0.Op == 2) else (if (a0.Op == 3) then some (a0.Op == 3) else some (a0.Op == 4)))))).bind fun y5 =>
    (if y5 then some true else ((if (a0.Op == 6) then some (a0.Op == 6) else some (a0.Op == 7))).bind fun y9 =>
    (if y9 then (hN a0.Kids (fun y0 => kJ self y0)).bind fun r12 =>
    some (!r12) else some false))
def iI : Nat → aj → Option Bool
  | 0 => fun _ => none
  | k + 1 => kK (iI k)
def mO (a0 : aj) : Option Bool := iI cA a0
def kL (self : aj → Int → Option Bool) (a0 : aj) (a1 : Int) : Option Bool :=
  (self a0 a1).bind fun r1 =>
    some (!r1)
def kM (self : aj → Int → Option Bool) (a0 : aj) (a1 : Int) : Option Bool :=
  (((if (a0.Op == 0) then some (a0.Op == 0) else some (a0.Op == 1))).bind fun y3 =>
    (if y3 then some (Sum.inr (((a0.Kids.length : Int) == 0) && ((a0.F == 0) && (a0.N == 0)))) else (if (a0.Op == 4) then ((if ((a0.Kids.length : Int) == 1) then (if ((a0.F == 0) && (a0.N == 0)) then (bn a0.Kids 0).bind fun x10 =>
    (mO x10).bind fun r11 =>
    (if r11 then (self x10 a1).bind fun r13 =>
    some r13 else some false) else some false) else some false)).bind fun y14 =>
    some (Sum.inr y14) else ((if (a0.Op == 6) then some (a0.Op == 6) else some (a0.Op == 7))).bind fun y17 =>
    (if y17 then ((if decide ((a0.Kids.length : Int) ≥ 2) then (if ((a0.F == 0) && (a0.N == 0)) then (hN a0.Kids (fun y0 => kL self y0 a1)).bind fun r22 =>
    some (!r22) else some false) else some false)).bind fun y23 =>
    some (Sum.inr y23) else (if (a0.Op == 2) then some (.inl (0, 8)) else (if (a0.Op == 5) then some (.inl (1, 8)) else (if (a0.Op == 3) then some (.inl (0, a1)) else some (Sum.inr false)))))))).bind fun q30 => match q30 with
    | .inr r => some r
    | .inl (y28, y29) =>
    some (((a0.Kids.length : Int) == 0) && ((decide (a0.F ≥ y28)) && (decide (a0.F < y29))))
def iJ : Nat → aj → Int → Option Bool
  | 0 => fun _ _ => none
  | k + 1 => kM (iJ k)
def mP (a0 : aj) (a1 : Int) : Option Bool := iJ cA a0 a1
def uv (a0 : (List eQ)) (a1 : Int) (i1 : Int) : Unit → Option (Br Unit Bool)
  | () =>
  (bn a0 i1).bind fun x7 =>
    ((if decide (x7.F < 0) then some true else (if decide (x7.F ≥ a1) then some true else (if decide (i1 > 0) then (bn a0 (IntKind.i64.wrap (i1 - 1))).bind fun x11 =>
    some (decide (x11.F ≥ x7.F)) else some false)))).bind fun y12 =>
    (if y12 then some (Br.ret false) else some (.next ()))
def kN (a0 : (List eQ)) (a1 : Int) : Option Bool :=
  (bO (uv a0 a1) (bA 0 (a0.length : Int)) ()).bind fun q15 => match q15 with
    | .ret r => some r
    | .done () =>
    some true
def uw (a0 : dJ) (i12 : Int) : Unit → Option (Br Unit Int)
  | () =>
  (bn a0.Rules i12).bind fun x18 =>
    ((if decide ((x18.When.length : Int) ≥ 2) then (bn x18.When 0).bind fun x20 =>
    (if (x20.F == 0) then (bn x18.When 1).bind fun x22 =>
    some (x22.F == 1) else some false) else some false)).bind fun y23 =>
    ((if (!y23) then some true else (kN x18.When 8).bind fun r26 =>
    (if (!r26) then some true else (kN x18.Guard (a0.Init.length : Int)).bind fun r28 =>
    (if (!r28) then some true else (kN x18.Then (a0.Init.length : Int)).bind fun r30 =>
    (if (!r30) then some true else some ((x18.Then.length : Int) == 0)))))).bind fun y32 =>
    (if y32 then some (Br.ret 11) else some (.next ()))
def gK (a0 : dJ) : Option Int :=
  ((if decide ((a0.Init.length : Int) < 1) then some true else (if decide ((a0.Init.length : Int) > 4) then some true else (mL a0.Pol).bind fun r3 =>
    (if decide (r3 > 300) then some true else (mN a0.Pol).bind fun r5 =>
    (if decide (r5 > 20) then some true else some (decide ((a0.Rules.length : Int) > 24))))))).bind fun y7 =>
    (if y7 then some 2 else (mP a0.Pol (a0.Init.length : Int)).bind fun r10 =>
    (if (!r10) then some 11 else (bO (uw a0) (bA 0 (a0.Rules.length : Int)) ()).bind fun q35 => match q35 with
    | .ret r => some r
    | .done () =>
    some 0))
def gL (a0 : Bool) (a1 : (A8 Int)) : Option (List (A8 Int)) :=
  (if (!a0) then some ([] : List (A8 Int)) else some ([a1] : List (A8 Int)))
def kO (a0 : (List Int)) (a1 : aj) : Option Bool :=
  ((if decide (a1.F ≥ 0) then (if decide (a1.F < (a0.length : Int)) then (bn a0 a1.F).bind fun x3 =>
    some (x3 == a1.N) else some false) else some false)).bind fun y4 =>
    some y4
def mQ (a0 : Int) : Option Bool :=
  some ((decide (a0 ≥ 0)) && (decide (a0 < 8)))
def kP (a0 : (A8 Int)) (a1 : Int) (a2 : Int) : Option (A8 Int) :=
  ((mQ a1).bind fun r1 =>
    (if r1 then (a0.get a1).bind fun x3 =>
    (a0.put a1 a2).bind fun x4 =>
    some x4 else some a0)).bind fun y5 =>
    some y5
def jK (a0 : List (A8 Int)) : Option (List (A8 Int)) :=
  (cV ([] : List (A8 Int)) a0).bind fun l1 => some l1
def mR (a0 : Int) : Option Bool :=
  some (a0 != a0)
def qm (a0 : Int) (a1 : Int) : Option Int :=
  (mR a0).bind fun r1 =>
    (mR a1).bind fun r2 =>
    (if r1 then (if r2 then some 0 else some (-1)) else (if r2 then some 1 else (if decide (a0 < a1) then some (-1) else (if decide (a0 > a1) then some 1 else some 0))))
def uz (a0 : (A8 Int)) (a1 : (A8 Int)) (i1 : Int) : Unit → Option (Br Unit Int)
  | () =>
  (a0.get i1).bind fun x7 =>
    (a1.get i1).bind fun x8 =>
    (qm x7 x8).bind fun r9 =>
    (if (r9 != 0) then some (Br.ret r9) else some (.next ()))
def mS (a0 : (A8 Int)) (a1 : (A8 Int)) : Option Int :=
  (bO (uz a0 a1) (bA 0 8) ()).bind fun q11 => match q11 with
    | .ret r => some r
    | .done () =>
    some 0
def hO (a0 : List (A8 Int)) (a1 : (A8 Int) → (A8 Int) → Option Int) : Option (List (A8 Int)) :=
  if a0.length < 4611686018427387904 then some (cZ a0) else none
def kQ (a0 : (List (A8 Int))) (i2 : Int) (i14 : Int) : ((List (A8 Int)) × Int) → Option ((List (A8 Int)) × Int)
  | (l12, i13) =>
  ((gl l12 i2 (a0.length : Int) i14).bind fun x20 =>
    (bn l12 (i2 + i14)).bind fun x21 =>
    (gl l12 i2 (a0.length : Int) (IntKind.i64.wrap (i14 - 1))).bind fun x22 =>
    (bn l12 (i2 + (IntKind.i64.wrap (i14 - 1)))).bind fun x23 =>
    (if (!(x21 == x23)) then (bn l12 i13).bind fun x25 =>
    (cO l12 i13 x21).bind fun l26 =>
    some (l26, IntKind.i64.wrap (i13 + 1)) else some (l12, i13))).bind fun (l27, y28) =>
    some (l27, y28)
def jL (a0 : (List (A8 Int))) (i2 : Int) : Unit → Option (Br Unit (List (A8 Int)))
  | () =>
  (bn a0 i2).bind fun x8 =>
    (bn a0 (IntKind.i64.wrap (i2 - 1))).bind fun x9 =>
    (if (x8 == x9) then (cW a0 i2 (a0.length : Int)).bind fun l11 =>
    (d7 (kQ a0 i2) (bA 1 (l11.length : Int)) (a0, i2)).bind fun (z30, z31) =>
    (cW z30 z31 (z30.length : Int)).bind fun l32 =>
    some (Br.ret (z30.take z31.toNat)) else some (.next ()))
def jM (a0 : (List (A8 Int))) : Option (List (A8 Int)) :=
  (if decide ((a0.length : Int) < 2) then some a0 else (bO (jL a0) (bA 1 (a0.length : Int)) ()).bind fun q34 => match q34 with
    | .ret r => some r
    | .done () =>
    some a0)
def kR (a0 : (List (A8 Int))) : Option (List (A8 Int)) :=
  (jK a0).bind fun r1 =>
    (hO r1 (fun y0 y1 => mS y0 y1)).bind fun r2 =>
    (jM r2).bind fun r3 =>
    some r3
def hS (a0 : (List (A8 Int))) : Option (Option (List (A8 Int))) :=
  (kR a0).bind fun r1 =>
    (if decide ((r1.length : Int) > 64) then some none else some (some r1))
def mT (a0 : aj) (a1 : (List Int)) (a2 : (A8 Int)) (self : aj → (List Int) → (A8 Int) → Option (Option (List (A8 Int)))) (i18 : Int) : (List (A8 Int)) → Option (Br (List (A8 Int)) (Option (List (A8 Int))))
  | l17 =>
  (bn a0.Kids i18).bind fun x24 =>
    fP (self x24 a1 a2) (some (Br.ret none)) fun r25 =>
    (cV l17 r25).bind fun l26 =>
    fP (hS l26) (some (Br.ret none)) fun r27 =>
    some (.next r27)
def kS (a1 : (List Int)) (y32 : (List (A8 Int))) (x39 : aj) (self : aj → (List Int) → (A8 Int) → Option (Option (List (A8 Int)))) (i41 : Int) : (List (A8 Int)) → Option (Br (List (A8 Int)) (Br (List (A8 Int)) (Option (List (A8 Int)))))
  | l40 =>
  (bn y32 i41).bind fun x47 =>
    fP (self x39 a1 x47) (some (Br.ret (Br.ret none))) fun r48 =>
    (cV l40 r48).bind fun l49 =>
    some (.next l49)
def mU (a0 : aj) (a1 : (List Int)) (self : aj → (List Int) → (A8 Int) → Option (Option (List (A8 Int)))) (i33 : Int) : (List (A8 Int)) → Option (Br (List (A8 Int)) (Option (List (A8 Int))))
  | y32 =>
  (bn a0.Kids i33).bind fun x39 =>
    (bO (kS a1 y32 x39 self) (bA 0 (y32.length : Int)) ([] : List (A8 Int))).bind fun q52 => match q52 with
    | .ret r => some r
    | .done z50 =>
    fP (hS z50) (some (Br.ret none)) fun r51 =>
    some (.next r51)
def kT (self : aj → (List Int) → (A8 Int) → Option (Option (List (A8 Int)))) (a0 : aj) (a1 : (List Int)) (a2 : (A8 Int)) : Option (Option (List (A8 Int))) :=
  (if (a0.Op == 1) then (gL true a2).bind fun r2 =>
    some (some r2) else (if (a0.Op == 2) then (a2.get a0.F).bind fun x4 =>
    (gL (x4 == a0.N) a2).bind fun r5 =>
    some (some r5) else (if (a0.Op == 3) then (kO a1 a0).bind fun r7 =>
    (gL r7 a2).bind fun r8 =>
    some (some r8) else (if (a0.Op == 4) then (bn a0.Kids 0).bind fun x10 =>
    fP (self x10 a1 a2) none fun r11 =>
    (gL ((r11.length : Int) == 0) a2).bind fun r12 =>
    some (some r12) else (if (a0.Op == 5) then (kP a2 a0.F a0.N).bind fun r14 =>
    (gL true r14).bind fun r15 =>
    some (some r15) else (if (a0.Op == 7) then (bO (mT a0 a1 a2 self) (bA 0 (a0.Kids.length : Int)) ([] : List (A8 Int))).bind fun q29 => match q29 with
    | .ret r => some r
    | .done z28 =>
    some (some z28) else (if (a0.Op == 6) then (gL true a2).bind fun r31 =>
    (bO (mU a0 a1 self) (bA 0 (a0.Kids.length : Int)) r31).bind fun q54 => match q54 with
    | .ret r => some r
    | .done z53 =>
    some (some z53) else some (some ([] : List (A8 Int))))))))))
def fq : Nat → aj → (List Int) → (A8 Int) → Option (Option (List (A8 Int)))
  | 0 => fun _ _ _ => none
  | k + 1 => kT (fq k)
def kU (a0 : aj) (a1 : (List Int)) (a2 : (A8 Int)) : Option (Option (List (A8 Int))) := fq cA a0 a1 a2
def gM (a0 : aj) (a1 : (List Int)) (a2 : (A8 Int)) : Option ((List (A8 Int)) × Int) :=
  (gK (dJ.mk [0, 0, 0, 0] a0 [])).bind fun r2 =>
    (if (r2 != 0) then some (([] : List (A8 Int)), 11) else fP (kU a0 a1 a2) (some (([] : List (A8 Int)), 24)) fun r4 =>
    some (r4, 0))
def kV (a0 : aj) (a1 : (List Int)) (a2 : (A8 Int)) : Option Bool :=
  (gM a0 a1 a2).bind fun r1 =>
    some ((r1.2 == 0) && (decide ((r1.1.length : Int) > 0)))
def mV  : Option Bool :=
  (qj ([(aj.mk 5 1 1 []), (aj.mk 5 1 2 [])] : List aj)).bind fun r1 =>
    (qk ([r1, (aj.mk 3 0 5 [])] : List aj)).bind fun r2 =>
    (gM r2 ([5] : List Int) (A8.mk 9 0 0 0 0 0 0 0)).bind fun r3 =>
    (gM r2 ([6] : List Int) (A8.mk 9 0 0 0 0 0 0 0)).bind fun r4 =>
    ((if (r3.2 == 0) then (if (r4.2 == 0) then (if ((r3.1.length : Int) == 2) then (bn r3.1 1).bind fun x8 =>
    (if (x8 == (A8.mk 9 2 0 0 0 0 0 0)) then (if ((r4.1.length : Int) == 0) then (kV r2 ([5] : List Int) (A8.mk 0 0 0 0 0 0 0 0)).bind fun r11 =>
    some r11 else some false) else some false) else some false) else some false) else some false)).bind fun y12 =>
    some y12
def mW (a0 : (List law05_Step)) (i3 : Int) : (List aj) → Option (List aj)
  | l2 =>
  ((bn a0 i3).bind fun x9 =>
    (if ((x9.What == 0) || (x9.What == 1)) then (cV l2 ([(aj.mk x9.What 0 0 [])] : List aj)).bind fun l12 =>
    some l12 else (if ((x9.What == 2) || ((x9.What == 3) || (x9.What == 5))) then (cV l2 ([(aj.mk x9.What x9.F x9.N [])] : List aj)).bind fun l16 =>
    some l16 else (if ((x9.What == 4) && (decide ((l2.length : Int) > 0))) then (bn l2 (IntKind.i64.wrap ((l2.length : Int) - 1))).bind fun x19 =>
    (cO l2 (IntKind.i64.wrap ((l2.length : Int) - 1)) (aj.mk 4 0 0 ([x19] : List aj))).bind fun l20 =>
    some l20 else (if ((x9.What == 6) || (x9.What == 7)) then (cW l2 (IntKind.i64.wrap ((l2.length : Int) - (fm (IntKind.i64.wrap x9.K) (l2.length : Int)))) (l2.length : Int)).bind fun l23 =>
    (cV ([] : List aj) l23).bind fun l24 =>
    (cW l2 0 (IntKind.i64.wrap ((l2.length : Int) - (fm (IntKind.i64.wrap x9.K) (l2.length : Int))))).bind fun l25 =>
    (cV l25 ([(aj.mk x9.What 0 0 l24)] : List aj)).bind fun l26 =>
    some l26 else some l2))))).bind fun l27 =>
    some l27
def kW (a0 : (List law05_Step)) : Option (aj × Bool) :=
  (if decide ((a0.length : Int) > 60) then some ((aj.mk 0 0 0 []), false) else (d7 (mW a0) (bA 0 (a0.length : Int)) ([] : List aj)).bind fun z29 =>
    (if ((z29.length : Int) == 0) then some ((aj.mk 0 0 0 []), false) else (bn z29 (IntKind.i64.wrap ((z29.length : Int) - 1))).bind fun x31 =>
    some (x31, true)))
def uA (a0 : aj) (self : aj → Option Int) (i2 : Int) : Int → Option Int
  | i1 =>
  (bn a0.Kids i2).bind fun x8 =>
    (self x8).bind fun r9 =>
    some (IntKind.i64.wrap (i1 + r9))
def mX (self : aj → Option Int) (a0 : aj) : Option Int :=
  (d7 (uA a0 self) (bA 0 (a0.Kids.length : Int)) 1).bind fun z10 =>
    some z10
def jN : Nat → aj → Option Int
  | 0 => fun _ => none
  | k + 1 => mX (jN k)
def kX (a0 : aj) : Option Int := jN cA a0
def uB (a0 : aj) (self : aj → Option Int) (i2 : Int) : Int → Option Int
  | i1 =>
  (bn a0.Kids i2).bind fun x8 =>
    (self x8).bind fun r9 =>
    some (hI i1 r9)
def mY (self : aj → Option Int) (a0 : aj) : Option Int :=
  (d7 (uB a0 self) (bA 0 (a0.Kids.length : Int)) 0).bind fun z10 =>
    some (IntKind.i64.wrap (z10 + 1))
def jO : Nat → aj → Option Int
  | 0 => fun _ => none
  | k + 1 => mY (jO k)
def kY (a0 : aj) : Option Int := jO cA a0
def mZ (a0 : aj) (self : aj → Option Bool) (i6 : Int) : Unit → Option (Br Unit (Unit ⊕ Bool))
  | () =>
  (bn a0.Kids i6).bind fun x12 =>
    (self x12).bind fun r13 =>
    (if (!r13) then some (Br.ret (Sum.inr false)) else some (.next ()))
def kZ (self : aj → Option Bool) (a0 : aj) : Option Bool :=
  (if ((a0.Op == 5) || ((decide (a0.Op < 0)) || (decide (a0.Op > 7)))) then some false else ((if ((a0.Op == 6) || (a0.Op == 7)) then (bO (mZ a0 self) (bA 0 (a0.Kids.length : Int)) ()).bind fun q15 => match q15 with
    | .ret r => some r
    | .done () =>
    some (.inl ()) else some (.inl ()))).bind fun q16 => match q16 with
    | .inr r => some r
    | .inl () =>
    some true)
def iK : Nat → aj → Option Bool
  | 0 => fun _ => none
  | k + 1 => kZ (iK k)
def m0 (a0 : aj) : Option Bool := iK cA a0
def m5 (a0 : aj) (a1 : Int) (self : aj → Int → Option Bool) (i33 : Int) : Unit → Option (Br Unit Bool)
  | () =>
  (bn a0.Kids i33).bind fun x39 =>
    (self x39 a1).bind fun r40 =>
    (if (!r40) then some (Br.ret false) else some (.next ()))
def k5 (self : aj → Int → Option Bool) (a0 : aj) (a1 : Int) : Option Bool :=
  ((if (a0.Op == 0) then some (a0.Op == 0) else some (a0.Op == 1))).bind fun y2 =>
    (if y2 then some (((a0.Kids.length : Int) == 0) && ((a0.F == 0) && (a0.N == 0))) else (if (a0.Op == 2) then some (((a0.Kids.length : Int) == 0) && ((decide (a0.F ≥ 0)) && (decide (a0.F < 8)))) else (if (a0.Op == 3) then some (((a0.Kids.length : Int) == 0) && ((decide (a0.F ≥ 0)) && (decide (a0.F < a1)))) else (if (a0.Op == 5) then some (((a0.Kids.length : Int) == 0) && ((decide (a0.F ≥ 1)) && (decide (a0.F < 8)))) else (if (a0.Op == 4) then ((if ((a0.Kids.length : Int) == 1) then (if (a0.F == 0) then (if (a0.N == 0) then (bn a0.Kids 0).bind fun x20 =>
    (m0 x20).bind fun r21 =>
    (if r21 then (self x20 a1).bind fun r23 =>
    some r23 else some false) else some false) else some false) else some false)).bind fun y24 =>
    some y24 else ((if (a0.Op == 6) then some (a0.Op == 6) else some (a0.Op == 7))).bind fun y27 =>
    (if y27 then (if ((decide ((a0.Kids.length : Int) < 2)) || ((a0.F != 0) || (a0.N != 0))) then some false else (bO (m5 a0 a1 self) (bA 0 (a0.Kids.length : Int)) ()).bind fun q42 => match q42 with
    | .ret r => some r
    | .done () =>
    some true) else some false))))))
def iL : Nat → aj → Int → Option Bool
  | 0 => fun _ _ => none
  | k + 1 => k5 (iL k)
def m8 (a0 : aj) (a1 : Int) : Option Bool := iL cA a0 a1
def uC (a0 : (List eQ)) (a1 : Int) (i1 : Int) : Unit → Option (Br Unit Bool)
  | () =>
  (bn a0 i1).bind fun x7 =>
    ((if decide (x7.F < 0) then some true else (if decide (x7.F ≥ a1) then some true else (if decide (i1 > 0) then (bn a0 (IntKind.i64.wrap (i1 - 1))).bind fun x11 =>
    some (decide (x11.F ≥ x7.F)) else some false)))).bind fun y12 =>
    (if y12 then some (Br.ret false) else some (.next ()))
def k8 (a0 : (List eQ)) (a1 : Int) : Option Bool :=
  (bO (uC a0 a1) (bA 0 (a0.length : Int)) ()).bind fun q15 => match q15 with
    | .ret r => some r
    | .done () =>
    some true
def uD (a0 : dJ) (i12 : Int) : Unit → Option (Br Unit Int)
  | () =>
  (bn a0.Rules i12).bind fun x18 =>
    ((if decide ((x18.When.length : Int) < 2) then some true else (bn x18.When 0).bind fun x20 =>
    (if (x20.F != 0) then some true else (bn x18.When 1).bind fun x22 =>
    (if (x22.F != 1) then some true else (k8 x18.When 8).bind fun r24 =>
    (if (!r24) then some true else (k8 x18.Guard (a0.Init.length : Int)).bind fun r26 =>
    (if (!r26) then some true else (k8 x18.Then (a0.Init.length : Int)).bind fun r28 =>
    (if (!r28) then some true else some ((x18.Then.length : Int) == 0)))))))).bind fun y30 =>
    (if y30 then some (Br.ret 11) else some (.next ()))
def k9 (a0 : dJ) : Option Int :=
  ((if decide ((a0.Init.length : Int) < 1) then some true else (if decide ((a0.Init.length : Int) > 4) then some true else (kX a0.Pol).bind fun r3 =>
    (if decide (r3 > 300) then some true else (kY a0.Pol).bind fun r5 =>
    (if decide (r5 > 20) then some true else some (decide ((a0.Rules.length : Int) > 24))))))).bind fun y7 =>
    (if y7 then some 2 else (m8 a0.Pol (a0.Init.length : Int)).bind fun r10 =>
    (if (!r10) then some 11 else (bO (uD a0) (bA 0 (a0.Rules.length : Int)) ()).bind fun q33 => match q33 with
    | .ret r => some r
    | .done () =>
    some 0))
def la (a0 : aj) : Option Bool :=
  (fJ 4 0).bind fun l1 =>
    (k9 (dJ.mk l1 a0 [])).bind fun r2 =>
    some (r2 == 0)
def lb (a0 : (A8 Int)) (a1 : Int) (a2 : Int) : Option (A8 Int) :=
  ((if ((decide (a1 ≥ 0)) && (decide (a1 < 8))) then (a0.get a1).bind fun x3 =>
    (a0.put a1 a2).bind fun x4 =>
    some x4 else some a0)).bind fun y5 =>
    some y5
def m9 (a0 : (A8 Int)) (a1 : (A8 Int)) (i1 : Int) : Unit → Option (Br Unit Int)
  | () =>
  (a0.get i1).bind fun x7 =>
    (a1.get i1).bind fun x8 =>
    (if decide (x7 < x8) then some (Br.ret (-1)) else (if decide (x7 > x8) then some (Br.ret 1) else some (.next ())))
def lf (a0 : (A8 Int)) (a1 : (A8 Int)) : Option Int :=
  (bO (m9 a0 a1) (bA 0 8) ()).bind fun q11 => match q11 with
    | .ret r => some r
    | .done () =>
    some 0
def lg (a0 : (List (A8 Int))) (a1 : (A8 Int)) (i3 : Int) : ((List (A8 Int)) × Bool) → Option ((List (A8 Int)) × Bool)
  | (l1, y2) =>
  ((bn a0 i3).bind fun x9 =>
    (lf a1 x9).bind fun r10 =>
    ((if ((!y2) && (decide (r10 ≤ 0))) then (cV l1 ([a1] : List (A8 Int))).bind fun l13 =>
    some (l13, true) else some (l1, y2))).bind fun (l14, y15) =>
    (if (r10 != 0) then (cV l14 ([x9] : List (A8 Int))).bind fun l18 =>
    some (l18, y15) else some (l14, y15))).bind fun (l19, y20) =>
    some (l19, y20)
def lh (a0 : (List (A8 Int))) (a1 : (A8 Int)) : Option (List (A8 Int)) :=
  (d7 (lg a0 a1) (bA 0 (a0.length : Int)) (([] : List (A8 Int)), false)).bind fun (z22, z23) =>
    ((if (!z23) then (cV z22 ([a1] : List (A8 Int))).bind fun l25 =>
    some l25 else some z22)).bind fun l26 =>
    some l26
def nb (a1 : (List (A8 Int))) (i2 : Int) : (List (A8 Int)) → Option (List (A8 Int))
  | y1 =>
  (bn a1 i2).bind fun x8 =>
    (lh y1 x8).bind fun r9 =>
    some r9
def iM (a0 : (List (A8 Int))) (a1 : (List (A8 Int))) : Option (List (A8 Int)) :=
  (d7 (nb a1) (bA 0 (a1.length : Int)) a0).bind fun z10 =>
    some z10
def lj (a0 : aj) (a1 : (List Int)) (y21 : (List (A8 Int))) (i22 : Int) (self : aj → (List Int) → (A8 Int) → Option ((List (A8 Int)) × Bool)) (i29 : Int) : (List (A8 Int)) → Option (Br (List (A8 Int)) (Br (List (A8 Int)) ((List (A8 Int)) × Bool)))
  | y28 =>
  (bn a0.Kids i22).bind fun x35 =>
    (bn y21 i29).bind fun x36 =>
    (self x35 a1 x36).bind fun r37 =>
    (if (!r37.2) then some (Br.ret (Br.ret (([] : List (A8 Int)), false))) else (iM y28 r37.1).bind fun r39 =>
    some (.next r39))
def nc (a0 : aj) (a1 : (List Int)) (self : aj → (List Int) → (A8 Int) → Option ((List (A8 Int)) × Bool)) (i22 : Int) : (List (A8 Int)) → Option (Br (List (A8 Int)) ((List (A8 Int)) × Bool))
  | y21 =>
  (bO (lj a0 a1 y21 i22 self) (bA 0 (y21.length : Int)) ([] : List (A8 Int))).bind fun q42 => match q42 with
    | .ret r => some r
    | .done z40 =>
    (if decide ((z40.length : Int) > 64) then some (Br.ret (([] : List (A8 Int)), false)) else some (.next z40))
def nd (a0 : aj) (a1 : (List Int)) (a2 : (A8 Int)) (self : aj → (List Int) → (A8 Int) → Option ((List (A8 Int)) × Bool)) (i46 : Int) : (List (A8 Int)) → Option (Br (List (A8 Int)) ((List (A8 Int)) × Bool))
  | y45 =>
  (bn a0.Kids i46).bind fun x52 =>
    (self x52 a1 a2).bind fun r53 =>
    (if (!r53.2) then some (Br.ret (([] : List (A8 Int)), false)) else (iM y45 r53.1).bind fun r55 =>
    (if decide ((r55.length : Int) > 64) then some (Br.ret (([] : List (A8 Int)), false)) else some (.next r55)))
def lk (self : aj → (List Int) → (A8 Int) → Option ((List (A8 Int)) × Bool)) (a0 : aj) (a1 : (List Int)) (a2 : (A8 Int)) : Option ((List (A8 Int)) × Bool) :=
  (if (a0.Op == 0) then some (([] : List (A8 Int)), true) else (if (a0.Op == 1) then some (([a2] : List (A8 Int)), true) else (if (a0.Op == 2) then (a2.get a0.F).bind fun x4 =>
    (if (x4 == a0.N) then some (([a2] : List (A8 Int)), true) else some (([] : List (A8 Int)), true)) else (if (a0.Op == 3) then ((if decide (a0.F < (a1.length : Int)) then (bn a1 a0.F).bind fun x8 =>
    some (x8 == a0.N) else some false)).bind fun y9 =>
    (if y9 then some (([a2] : List (A8 Int)), true) else some (([] : List (A8 Int)), true)) else (if (a0.Op == 4) then (bn a0.Kids 0).bind fun x13 =>
    (self x13 a1 a2).bind fun r14 =>
    ((if decide ((r14.1.length : Int) > 0) then some ([] : List (A8 Int)) else some ([a2] : List (A8 Int)))).bind fun y16 =>
    some (y16, r14.2) else (if (a0.Op == 5) then (lb a2 a0.F a0.N).bind fun r19 =>
    some (([r19] : List (A8 Int)), true) else (if (a0.Op == 6) then (bO (nc a0 a1 self) (bA 0 (a0.Kids.length : Int)) ([a2] : List (A8 Int))).bind fun q44 => match q44 with
    | .ret r => some r
    | .done z43 =>
    some (z43, true) else (bO (nd a0 a1 a2 self) (bA 0 (a0.Kids.length : Int)) ([] : List (A8 Int))).bind fun q58 => match q58 with
    | .ret r => some r
    | .done z57 =>
    some (z57, true))))))))
def ft : Nat → aj → (List Int) → (A8 Int) → Option ((List (A8 Int)) × Bool)
  | 0 => fun _ _ _ => none
  | k + 1 => lk (ft k)
def nf (a0 : aj) (a1 : (List Int)) (a2 : (A8 Int)) : Option ((List (A8 Int)) × Bool) := ft cA a0 a1 a2
def lm (a0 : aj) (a1 : (List Int)) (a2 : (A8 Int)) : Option ((List (A8 Int)) × Int) :=
  (la a0).bind fun r1 =>
    (if (!r1) then some (([] : List (A8 Int)), 11) else (nf a0 a1 a2).bind fun r3 =>
    (if (!r3.2) then some (([] : List (A8 Int)), 24) else some (r3.1, 0)))
def nh (a0 : (List (A8 Int))) (a1 : (List (A8 Int))) (i2 : Int) : Unit → Option (Br Unit Bool)
  | () =>
  (bn a0 i2).bind fun x8 =>
    (bn a1 i2).bind fun x9 =>
    (if (!(x8 == x9)) then some (Br.ret false) else some (.next ()))
def lr (a0 : (List (A8 Int))) (a1 : (List (A8 Int))) : Option Bool :=
  (if ((a0.length : Int) != (a1.length : Int)) then some false else (bO (nh a0 a1) (bA 0 (a0.length : Int)) ()).bind fun q11 => match q11 with
    | .ret r => some r
    | .done () =>
    some true)
def law07_PolicyMakes (a0 : (List law05_Step)) (a1 : (List Int)) (a2 : (A8 Int)) : Option Bool :=
  (mV).bind fun r1 =>
    (if (!r1) then some false else (kW a0).bind fun r3 =>
    (if ((!r3.2) || (decide ((a1.length : Int) > 6))) then some true else (gM r3.1 a1 a2).bind fun r6 =>
    (lm r3.1 a1 a2).bind fun r7 =>
    ((if (r6.2 == r7.2) then (lr r6.1 r7.1).bind fun r9 =>
    (if r9 then (kV r3.1 a1 a2).bind fun r11 =>
    (if (r7.2 == 0) then some (r11 == (decide ((r7.1.length : Int) > 0))) else some (r11 == false)) else some false) else some false)).bind fun y13 =>
    some y13))
end Go.AM
