import Derived.Test.YtnnkfanmokeiaaaAmOr
import Derived.Test.YtnnkfanmokeiaaaAmN4
set_option linter.unusedVariables false
namespace Go.AM
open Go
structure ah where
  Op : Int
  F : Int
  N : Int
  Kids : (List ah)
  deriving Inhabited
structure eO where
  F : Int
  N : Int
  deriving DecidableEq, Inhabited
structure mM where
  When : (List eO)
  Guard : (List eO)
  Then : (List eO)
  deriving DecidableEq, Inhabited
structure dJ where
  Init : (List Int)
  Pol : ah
  Rules : (List mM)
  deriving Inhabited
structure law05_Step where
  What : Int
  F : Int
  N : Int
  K : Int
  deriving DecidableEq, Inhabited
structure qa where
  Sw : Int
  Pt : Int
  deriving DecidableEq, Inhabited
structure qb where
  Switches : (List Int)
  Links : (List (A2 qa))
  Hosts : (List qa)
  deriving DecidableEq, Inhabited
structure zg where
  From : Int
  To : Int
  Match : (List eO)
  Ban : Bool
  deriving DecidableEq, Inhabited
structure zh where
  T : qb
  L : (List law05_Step)
  State : (List Int)
  deriving DecidableEq, Inhabited
structure zj where
  t : qb
  p : ah
  state : (List Int)
  found : (List (List (A8 Int)))
  deriving Inhabited
def qc (a0 : (List ah)) : Option ah :=
  some (ah.mk 7 0 0 a0)
def qd (a0 : (List ah)) : Option ah :=
  some (ah.mk 6 0 0 a0)
def mN (a0 : ah) (self : ah → Option Int) (i2 : Int) : Int → Option Int
  | i1 =>
  (bh a0.Kids i2).bind fun x8 =>
    (self x8).bind fun r9 =>
    some (IntKind.i64.wrap (i1 + r9))
def jH (self : ah → Option Int) (a0 : ah) : Option Int :=
  (dQ (mN a0 self) (bG 0 (a0.Kids.length : Int)) 1).bind fun z10 =>
    some z10
def gG : Nat → ah → Option Int
  | 0 => fun _ => none
  | k + 1 => jH (gG k)
def mO (a0 : ah) : Option Int := gG cn a0
def mP (a0 : ah) (self : ah → Option Int) (i2 : Int) : Int → Option Int
  | i1 =>
  (bh a0.Kids i2).bind fun x8 =>
    (self x8).bind fun r9 =>
    some (hN i1 r9)
def jI (self : ah → Option Int) (a0 : ah) : Option Int :=
  (dQ (mP a0 self) (bG 0 (a0.Kids.length : Int)) 0).bind fun z10 =>
    some (IntKind.i64.wrap (z10 + 1))
def gH : Nat → ah → Option Int
  | 0 => fun _ => none
  | k + 1 => jI (gH k)
def mQ (a0 : ah) : Option Int := gH cn a0
def qe (a0 : (List ah)) (a1 : (ah → Option Bool)) (i1 : Int) : Unit → Option (Br Unit Int)
  | () =>
  (bh a0 i1).bind fun x7 =>
    (a1 x7).bind fun x8 =>
    (if x8 then some (Br.ret i1) else some (.next ()))
def kL (a0 : (List ah)) (a1 : ah → Option Bool) : Option Int :=
  (b9 (qe a0 a1) (bG 0 (a0.length : Int)) ()).bind fun q10 => match q10 with
    | .ret r => some r
    | .done () =>
    some (-1)
def hU (a0 : (List ah)) (a1 : ah → Option Bool) : Option Bool :=
  (kL a0 a1).bind fun r1 =>
    some (decide (r1 ≥ 0))
def kM (self : ah → Option Bool) (a0 : ah) : Option Bool :=
  (self a0).bind fun r1 =>
    some (!r1)
def kN (self : ah → Option Bool) (a0 : ah) : Option Bool :=
  ((if (a0.Op == 0) then some (a0.Op == 0) else (if (a0.Op == 1) then some (a0.Op == 1) else (if (a0.Op == 2) then some (a0.Op == 2) else (if (a0.Op == 3) then some (a0.Op == 3) else some (a0.Op == 4)))))).bind fun y5 =>
    (if y5 then some true else ((if (a0.Op == 6) then some (a0.Op == 6) else some (a0.Op == 7))).bind fun y9 =>
    (if y9 then (hU a0.Kids (fun y0 => kM self y0)).bind fun r12 =>
    some (!r12) else some false))
def iO : Nat → ah → Option Bool
  | 0 => fun _ => none
  | k + 1 => kN (iO k)
def mR (a0 : ah) : Option Bool := iO cn a0
def kO (self : ah → Int → Option Bool) (a0 : ah) (a1 : Int) : Option Bool :=
  (self a0 a1).bind fun r1 =>
    some (!r1)
def kP (self : ah → Int → Option Bool) (a0 : ah) (a1 : Int) : Option Bool :=
  (((if (a0.Op == 0) then some (a0.Op == 0) else some (a0.Op == 1))).bind fun y3 =>
    (if y3 then some (Sum.inr (((a0.Kids.length : Int) == 0) && ((a0.F == 0) && (a0.N == 0)))) else (if (a0.Op == 4) then ((if ((a0.Kids.length : Int) == 1) then (if ((a0.F == 0) && (a0.N == 0)) then (bh a0.Kids 0).bind fun x10 =>
    (mR x10).bind fun r11 =>
    (if r11 then (self x10 a1).bind fun r13 =>
    some r13 else some false) else some false) else some false)).bind fun y14 =>
    some (Sum.inr y14) else ((if (a0.Op == 6) then some (a0.Op == 6) else some (a0.Op == 7))).bind fun y17 =>
    (if y17 then ((if decide ((a0.Kids.length : Int) ≥ 2) then (if ((a0.F == 0) && (a0.N == 0)) then (hU a0.Kids (fun y0 => kO self y0 a1)).bind fun r22 =>
    some (!r22) else some false) else some false)).bind fun y23 =>
    some (Sum.inr y23) else (if (a0.Op == 2) then some (.inl (0, 8)) else (if (a0.Op == 5) then some (.inl (1, 8)) else (if (a0.Op == 3) then some (.inl (0, a1)) else some (Sum.inr false)))))))).bind fun q30 => match q30 with
    | .inr r => some r
    | .inl (y28, y29) =>
    some (((a0.Kids.length : Int) == 0) && ((decide (a0.F ≥ y28)) && (decide (a0.F < y29))))
def iP : Nat → ah → Int → Option Bool
  | 0 => fun _ _ => none
  | k + 1 => kP (iP k)
def mS (a0 : ah) (a1 : Int) : Option Bool := iP cn a0 a1
def uA (a0 : (List eO)) (a1 : Int) (i1 : Int) : Unit → Option (Br Unit Bool)
  | () =>
  (bh a0 i1).bind fun x7 =>
    ((if decide (x7.F < 0) then some true else (if decide (x7.F ≥ a1) then some true else (if decide (i1 > 0) then (bh a0 (IntKind.i64.wrap (i1 - 1))).bind fun x11 =>
    some (decide (x11.F ≥ x7.F)) else some false)))).bind fun y12 =>
    (if y12 then some (Br.ret false) else some (.next ()))
def kQ (a0 : (List eO)) (a1 : Int) : Option Bool :=
  (b9 (uA a0 a1) (bG 0 (a0.length : Int)) ()).bind fun q15 => match q15 with
    | .ret r => some r
    | .done () =>
    some true
def uB (a0 : dJ) (i12 : Int) : Unit → Option (Br Unit Int)
  | () =>
  (bh a0.Rules i12).bind fun x18 =>
    ((if decide ((x18.When.length : Int) ≥ 2) then (bh x18.When 0).bind fun x20 =>
    (if (x20.F == 0) then (bh x18.When 1).bind fun x22 =>
    some (x22.F == 1) else some false) else some false)).bind fun y23 =>
    ((if (!y23) then some true else (kQ x18.When 8).bind fun r26 =>
    (if (!r26) then some true else (kQ x18.Guard (a0.Init.length : Int)).bind fun r28 =>
    (if (!r28) then some true else (kQ x18.Then (a0.Init.length : Int)).bind fun r30 =>
    (if (!r30) then some true else some ((x18.Then.length : Int) == 0)))))).bind fun y32 =>
    (if y32 then some (Br.ret 11) else some (.next ()))
def gI (a0 : dJ) : Option Int :=
  ((if decide ((a0.Init.length : Int) < 1) then some true else (if decide ((a0.Init.length : Int) > 4) then some true else (mO a0.Pol).bind fun r3 =>
    (if decide (r3 > 300) then some true else (mQ a0.Pol).bind fun r5 =>
    (if decide (r5 > 20) then some true else some (decide ((a0.Rules.length : Int) > 24))))))).bind fun y7 =>
    (if y7 then some 2 else (mS a0.Pol (a0.Init.length : Int)).bind fun r10 =>
    (if (!r10) then some 11 else (b9 (uB a0) (bG 0 (a0.Rules.length : Int)) ()).bind fun q35 => match q35 with
    | .ret r => some r
    | .done () =>
    some 0))
def gJ (a0 : Bool) (a1 : (A8 Int)) : Option (List (A8 Int)) :=
  (if (!a0) then some ([] : List (A8 Int)) else some ([a1] : List (A8 Int)))
def gK (a0 : (List Int)) (a1 : ah) : Option Bool :=
  ((if decide (a1.F ≥ 0) then (if decide (a1.F < (a0.length : Int)) then (bh a0 a1.F).bind fun x3 =>
    some (x3 == a1.N) else some false) else some false)).bind fun y4 =>
    some y4
def mT (a0 : Int) : Option Bool :=
  some ((decide (a0 ≥ 0)) && (decide (a0 < 8)))
def kR (a0 : (A8 Int)) (a1 : Int) (a2 : Int) : Option (A8 Int) :=
  ((mT a1).bind fun r1 =>
    (if r1 then (a0.get a1).bind fun x3 =>
    (a0.put a1 a2).bind fun x4 =>
    some x4 else some a0)).bind fun y5 =>
    some y5
def jJ (a0 : List (A8 Int)) : Option (List (A8 Int)) :=
  (cB ([] : List (A8 Int)) a0).bind fun l1 => some l1
def mU (a0 : Int) : Option Bool :=
  some (a0 != a0)
def qf (a0 : Int) (a1 : Int) : Option Int :=
  (mU a0).bind fun r1 =>
    (mU a1).bind fun r2 =>
    (if r1 then (if r2 then some 0 else some (-1)) else (if r2 then some 1 else (if decide (a0 < a1) then some (-1) else (if decide (a0 > a1) then some 1 else some 0))))
def uC (a0 : (A8 Int)) (a1 : (A8 Int)) (i1 : Int) : Unit → Option (Br Unit Int)
  | () =>
  (a0.get i1).bind fun x7 =>
    (a1.get i1).bind fun x8 =>
    (qf x7 x8).bind fun r9 =>
    (if (r9 != 0) then some (Br.ret r9) else some (.next ()))
def mV (a0 : (A8 Int)) (a1 : (A8 Int)) : Option Int :=
  (b9 (uC a0 a1) (bG 0 8) ()).bind fun q11 => match q11 with
    | .ret r => some r
    | .done () =>
    some 0
def hX (a0 : List (A8 Int)) (a1 : (A8 Int) → (A8 Int) → Option Int) : Option (List (A8 Int)) :=
  if a0.length < 4611686018427387904 then some (da a0) else none
def kS (a0 : (List (A8 Int))) (i2 : Int) (i14 : Int) : ((List (A8 Int)) × Int) → Option ((List (A8 Int)) × Int)
  | (l12, i13) =>
  ((gj l12 i2 (a0.length : Int) i14).bind fun x20 =>
    (bh l12 (i2 + i14)).bind fun x21 =>
    (gj l12 i2 (a0.length : Int) (IntKind.i64.wrap (i14 - 1))).bind fun x22 =>
    (bh l12 (i2 + (IntKind.i64.wrap (i14 - 1)))).bind fun x23 =>
    (if (!(x21 == x23)) then (bh l12 i13).bind fun x25 =>
    (cx l12 i13 x21).bind fun l26 =>
    some (l26, IntKind.i64.wrap (i13 + 1)) else some (l12, i13))).bind fun (l27, y28) =>
    some (l27, y28)
def jK (a0 : (List (A8 Int))) (i2 : Int) : Unit → Option (Br Unit (List (A8 Int)))
  | () =>
  (bh a0 i2).bind fun x8 =>
    (bh a0 (IntKind.i64.wrap (i2 - 1))).bind fun x9 =>
    (if (x8 == x9) then (cP a0 i2 (a0.length : Int)).bind fun l11 =>
    (dQ (kS a0 i2) (bG 1 (l11.length : Int)) (a0, i2)).bind fun (z30, z31) =>
    (cP z30 z31 (z30.length : Int)).bind fun l32 =>
    some (Br.ret (z30.take z31.toNat)) else some (.next ()))
def jL (a0 : (List (A8 Int))) : Option (List (A8 Int)) :=
  (if decide ((a0.length : Int) < 2) then some a0 else (b9 (jK a0) (bG 1 (a0.length : Int)) ()).bind fun q34 => match q34 with
    | .ret r => some r
    | .done () =>
    some a0)
def kT (a0 : (List (A8 Int))) : Option (List (A8 Int)) :=
  (jJ a0).bind fun r1 =>
    (hX r1 (fun y0 y1 => mV y0 y1)).bind fun r2 =>
    (jL r2).bind fun r3 =>
    some r3
def hY (a0 : (List (A8 Int))) : Option (Option (List (A8 Int))) :=
  (kT a0).bind fun r1 =>
    (if decide ((r1.length : Int) > 64) then some none else some (some r1))
def mW (a0 : ah) (a1 : (List Int)) (a2 : (A8 Int)) (self : ah → (List Int) → (A8 Int) → Option (Option (List (A8 Int)))) (i18 : Int) : (List (A8 Int)) → Option (Br (List (A8 Int)) (Option (List (A8 Int))))
  | l17 =>
  (bh a0.Kids i18).bind fun x24 =>
    fJ (self x24 a1 a2) (some (Br.ret none)) fun r25 =>
    (cB l17 r25).bind fun l26 =>
    fJ (hY l26) (some (Br.ret none)) fun r27 =>
    some (.next r27)
def kU (a1 : (List Int)) (y32 : (List (A8 Int))) (x39 : ah) (self : ah → (List Int) → (A8 Int) → Option (Option (List (A8 Int)))) (i41 : Int) : (List (A8 Int)) → Option (Br (List (A8 Int)) (Br (List (A8 Int)) (Option (List (A8 Int)))))
  | l40 =>
  (bh y32 i41).bind fun x47 =>
    fJ (self x39 a1 x47) (some (Br.ret (Br.ret none))) fun r48 =>
    (cB l40 r48).bind fun l49 =>
    some (.next l49)
def mX (a0 : ah) (a1 : (List Int)) (self : ah → (List Int) → (A8 Int) → Option (Option (List (A8 Int)))) (i33 : Int) : (List (A8 Int)) → Option (Br (List (A8 Int)) (Option (List (A8 Int))))
  | y32 =>
  (bh a0.Kids i33).bind fun x39 =>
    (b9 (kU a1 y32 x39 self) (bG 0 (y32.length : Int)) ([] : List (A8 Int))).bind fun q52 => match q52 with
    | .ret r => some r
    | .done z50 =>
    fJ (hY z50) (some (Br.ret none)) fun r51 =>
    some (.next r51)
def kV (self : ah → (List Int) → (A8 Int) → Option (Option (List (A8 Int)))) (a0 : ah) (a1 : (List Int)) (a2 : (A8 Int)) : Option (Option (List (A8 Int))) :=
  (if (a0.Op == 1) then (gJ true a2).bind fun r2 =>
    some (some r2) else (if (a0.Op == 2) then (a2.get a0.F).bind fun x4 =>
    (gJ (x4 == a0.N) a2).bind fun r5 =>
    some (some r5) else (if (a0.Op == 3) then (gK a1 a0).bind fun r7 =>
    (gJ r7 a2).bind fun r8 =>
    some (some r8) else (if (a0.Op == 4) then (bh a0.Kids 0).bind fun x10 =>
    fJ (self x10 a1 a2) none fun r11 =>
    (gJ ((r11.length : Int) == 0) a2).bind fun r12 =>
    some (some r12) else (if (a0.Op == 5) then (kR a2 a0.F a0.N).bind fun r14 =>
    (gJ true r14).bind fun r15 =>
    some (some r15) else (if (a0.Op == 7) then (b9 (mW a0 a1 a2 self) (bG 0 (a0.Kids.length : Int)) ([] : List (A8 Int))).bind fun q29 => match q29 with
    | .ret r => some r
    | .done z28 =>
    some (some z28) else (if (a0.Op == 6) then (gJ true a2).bind fun r31 =>
    (b9 (mX a0 a1 self) (bG 0 (a0.Kids.length : Int)) r31).bind fun q54 => match q54 with
    | .ret r => some r
    | .done z53 =>
    some (some z53) else some (some ([] : List (A8 Int))))))))))
def fk : Nat → ah → (List Int) → (A8 Int) → Option (Option (List (A8 Int)))
  | 0 => fun _ _ _ => none
  | k + 1 => kV (fk k)
def kW (a0 : ah) (a1 : (List Int)) (a2 : (A8 Int)) : Option (Option (List (A8 Int))) := fk cn a0 a1 a2
def gm (a0 : ah) (a1 : (List Int)) (a2 : (A8 Int)) : Option ((List (A8 Int)) × Int) :=
  (gI (dJ.mk [0, 0, 0, 0] a0 [])).bind fun r2 =>
    (if (r2 != 0) then some (([] : List (A8 Int)), 11) else fJ (kW a0 a1 a2) (some (([] : List (A8 Int)), 24)) fun r4 =>
    some (r4, 0))
def qg (a0 : ah) (a1 : (List Int)) (a2 : (A8 Int)) : Option Bool :=
  (gm a0 a1 a2).bind fun r1 =>
    some ((r1.2 == 0) && (decide ((r1.1.length : Int) > 0)))
def mY  : Option Bool :=
  (qc ([(ah.mk 5 1 1 []), (ah.mk 5 1 2 [])] : List ah)).bind fun r1 =>
    (qd ([r1, (ah.mk 3 0 5 [])] : List ah)).bind fun r2 =>
    (gm r2 ([5] : List Int) (A8.mk 9 0 0 0 0 0 0 0)).bind fun r3 =>
    (gm r2 ([6] : List Int) (A8.mk 9 0 0 0 0 0 0 0)).bind fun r4 =>
    ((if (r3.2 == 0) then (if (r4.2 == 0) then (if ((r3.1.length : Int) == 2) then (bh r3.1 1).bind fun x8 =>
    (if (x8 == (A8.mk 9 2 0 0 0 0 0 0)) then (if ((r4.1.length : Int) == 0) then (qg r2 ([5] : List Int) (A8.mk 0 0 0 0 0 0 0 0)).bind fun r11 =>
    some r11 else some false) else some false) else some false) else some false) else some false)).bind fun y12 =>
    some y12
def mZ (a0 : (List law05_Step)) (i3 : Int) : (List ah) → Option (List ah)
  | l2 =>
  ((bh a0 i3).bind fun x9 =>
    (if ((x9.What == 0) || (x9.What == 1)) then (cB l2 ([(ah.mk x9.What 0 0 [])] : List ah)).bind fun l12 =>
    some l12 else (if ((x9.What == 2) || ((x9.What == 3) || (x9.What == 5))) then (cB l2 ([(ah.mk x9.What x9.F x9.N [])] : List ah)).bind fun l16 =>
    some l16 else (if ((x9.What == 4) && (decide ((l2.length : Int) > 0))) then (bh l2 (IntKind.i64.wrap ((l2.length : Int) - 1))).bind fun x19 =>
    (cx l2 (IntKind.i64.wrap ((l2.length : Int) - 1)) (ah.mk 4 0 0 ([x19] : List ah))).bind fun l20 =>
    some l20 else (if ((x9.What == 6) || (x9.What == 7)) then (cP l2 (IntKind.i64.wrap ((l2.length : Int) - (fi (IntKind.i64.wrap x9.K) (l2.length : Int)))) (l2.length : Int)).bind fun l23 =>
    (cB ([] : List ah) l23).bind fun l24 =>
    (cP l2 0 (IntKind.i64.wrap ((l2.length : Int) - (fi (IntKind.i64.wrap x9.K) (l2.length : Int))))).bind fun l25 =>
    (cB l25 ([(ah.mk x9.What 0 0 l24)] : List ah)).bind fun l26 =>
    some l26 else some l2))))).bind fun l27 =>
    some l27
def kX (a0 : (List law05_Step)) : Option (ah × Bool) :=
  (if decide ((a0.length : Int) > 60) then some ((ah.mk 0 0 0 []), false) else (dQ (mZ a0) (bG 0 (a0.length : Int)) ([] : List ah)).bind fun z29 =>
    (if ((z29.length : Int) == 0) then some ((ah.mk 0 0 0 []), false) else (bh z29 (IntKind.i64.wrap ((z29.length : Int) - 1))).bind fun x31 =>
    some (x31, true)))
def uD (a0 : ah) (self : ah → Option Int) (i2 : Int) : Int → Option Int
  | i1 =>
  (bh a0.Kids i2).bind fun x8 =>
    (self x8).bind fun r9 =>
    some (IntKind.i64.wrap (i1 + r9))
def m0 (self : ah → Option Int) (a0 : ah) : Option Int :=
  (dQ (uD a0 self) (bG 0 (a0.Kids.length : Int)) 1).bind fun z10 =>
    some z10
def jM : Nat → ah → Option Int
  | 0 => fun _ => none
  | k + 1 => m0 (jM k)
def kY (a0 : ah) : Option Int := jM cn a0
def uE (a0 : ah) (self : ah → Option Int) (i2 : Int) : Int → Option Int
  | i1 =>
  (bh a0.Kids i2).bind fun x8 =>
    (self x8).bind fun r9 =>
    some (hN i1 r9)
def m5 (self : ah → Option Int) (a0 : ah) : Option Int :=
  (dQ (uE a0 self) (bG 0 (a0.Kids.length : Int)) 0).bind fun z10 =>
    some (IntKind.i64.wrap (z10 + 1))
def jN : Nat → ah → Option Int
  | 0 => fun _ => none
  | k + 1 => m5 (jN k)
def kZ (a0 : ah) : Option Int := jN cn a0
def m8 (a0 : ah) (self : ah → Option Bool) (i6 : Int) : Unit → Option (Br Unit (Unit ⊕ Bool))
  | () =>
  (bh a0.Kids i6).bind fun x12 =>
    (self x12).bind fun r13 =>
    (if (!r13) then some (Br.ret (Sum.inr false)) else some (.next ()))
def k5 (self : ah → Option Bool) (a0 : ah) : Option Bool :=
  (if ((a0.Op == 5) || ((decide (a0.Op < 0)) || (decide (a0.Op > 7)))) then some false else ((if ((a0.Op == 6) || (a0.Op == 7)) then (b9 (m8 a0 self) (bG 0 (a0.Kids.length : Int)) ()).bind fun q15 => match q15 with
    | .ret r => some r
    | .done () =>
    some (.inl ()) else some (.inl ()))).bind fun q16 => match q16 with
    | .inr r => some r
    | .inl () =>
    some true)
def iQ : Nat → ah → Option Bool
  | 0 => fun _ => none
  | k + 1 => k5 (iQ k)
def m9 (a0 : ah) : Option Bool := iQ cn a0
def nb (a0 : ah) (a1 : Int) (self : ah → Int → Option Bool) (i33 : Int) : Unit → Option (Br Unit Bool)
  | () =>
  (bh a0.Kids i33).bind fun x39 =>
    (self x39 a1).bind fun r40 =>
    (if (!r40) then some (Br.ret false) else some (.next ()))
def k8 (self : ah → Int → Option Bool) (a0 : ah) (a1 : Int) : Option Bool :=
  ((if (a0.Op == 0) then some (a0.Op == 0) else some (a0.Op == 1))).bind fun y2 =>
    (if y2 then some (((a0.Kids.length : Int) == 0) && ((a0.F == 0) && (a0.N == 0))) else (if (a0.Op == 2) then some (((a0.Kids.length : Int) == 0) && ((decide (a0.F ≥ 0)) && (decide (a0.F < 8)))) else (if (a0.Op == 3) then some (((a0.Kids.length : Int) == 0) && ((decide (a0.F ≥ 0)) && (decide (a0.F < a1)))) else (if (a0.Op == 5) then some (((a0.Kids.length : Int) == 0) && ((decide (a0.F ≥ 1)) && (decide (a0.F < 8)))) else (if (a0.Op == 4) then ((if ((a0.Kids.length : Int) == 1) then (if (a0.F == 0) then (if (a0.N == 0) then (bh a0.Kids 0).bind fun x20 =>
    (m9 x20).bind fun r21 =>
    (if r21 then (self x20 a1).bind fun r23 =>
    some r23 else some false) else some false) else some false) else some false)).bind fun y24 =>
    some y24 else ((if (a0.Op == 6) then some (a0.Op == 6) else some (a0.Op == 7))).bind fun y27 =>
    (if y27 then (if ((decide ((a0.Kids.length : Int) < 2)) || ((a0.F != 0) || (a0.N != 0))) then some false else (b9 (nb a0 a1 self) (bG 0 (a0.Kids.length : Int)) ()).bind fun q42 => match q42 with
    | .ret r => some r
    | .done () =>
    some true) else some false))))))
def iR : Nat → ah → Int → Option Bool
  | 0 => fun _ _ => none
  | k + 1 => k8 (iR k)
def nc (a0 : ah) (a1 : Int) : Option Bool := iR cn a0 a1
def uF (a0 : (List eO)) (a1 : Int) (i1 : Int) : Unit → Option (Br Unit Bool)
  | () =>
  (bh a0 i1).bind fun x7 =>
    ((if decide (x7.F < 0) then some true else (if decide (x7.F ≥ a1) then some true else (if decide (i1 > 0) then (bh a0 (IntKind.i64.wrap (i1 - 1))).bind fun x11 =>
    some (decide (x11.F ≥ x7.F)) else some false)))).bind fun y12 =>
    (if y12 then some (Br.ret false) else some (.next ()))
def k9 (a0 : (List eO)) (a1 : Int) : Option Bool :=
  (b9 (uF a0 a1) (bG 0 (a0.length : Int)) ()).bind fun q15 => match q15 with
    | .ret r => some r
    | .done () =>
    some true
def uG (a0 : dJ) (i12 : Int) : Unit → Option (Br Unit Int)
  | () =>
  (bh a0.Rules i12).bind fun x18 =>
    ((if decide ((x18.When.length : Int) < 2) then some true else (bh x18.When 0).bind fun x20 =>
    (if (x20.F != 0) then some true else (bh x18.When 1).bind fun x22 =>
    (if (x22.F != 1) then some true else (k9 x18.When 8).bind fun r24 =>
    (if (!r24) then some true else (k9 x18.Guard (a0.Init.length : Int)).bind fun r26 =>
    (if (!r26) then some true else (k9 x18.Then (a0.Init.length : Int)).bind fun r28 =>
    (if (!r28) then some true else some ((x18.Then.length : Int) == 0)))))))).bind fun y30 =>
    (if y30 then some (Br.ret 11) else some (.next ()))
def la (a0 : dJ) : Option Int :=
  ((if decide ((a0.Init.length : Int) < 1) then some true else (if decide ((a0.Init.length : Int) > 4) then some true else (kY a0.Pol).bind fun r3 =>
    (if decide (r3 > 300) then some true else (kZ a0.Pol).bind fun r5 =>
    (if decide (r5 > 20) then some true else some (decide ((a0.Rules.length : Int) > 24))))))).bind fun y7 =>
    (if y7 then some 2 else (nc a0.Pol (a0.Init.length : Int)).bind fun r10 =>
    (if (!r10) then some 11 else (b9 (uG a0) (bG 0 (a0.Rules.length : Int)) ()).bind fun q33 => match q33 with
    | .ret r => some r
    | .done () =>
    some 0))
def lb (a0 : ah) : Option Bool :=
  (fE 4 0).bind fun l1 =>
    (la (dJ.mk l1 a0 [])).bind fun r2 =>
    some (r2 == 0)
def nd (a0 : (List (A8 Int))) (a1 : (List (A8 Int))) (i2 : Int) : Unit → Option (Br Unit Bool)
  | () =>
  (bh a0 i2).bind fun x8 =>
    (bh a1 i2).bind fun x9 =>
    (if (!(x8 == x9)) then some (Br.ret false) else some (.next ()))
def lf (a0 : (List (A8 Int))) (a1 : (List (A8 Int))) : Option Bool :=
  (if ((a0.length : Int) != (a1.length : Int)) then some false else (b9 (nd a0 a1) (bG 0 (a0.length : Int)) ()).bind fun q11 => match q11 with
    | .ret r => some r
    | .done () =>
    some true)
def jO (a0 : List ah) : Option (List ah) :=
  (cB ([] : List ah) a0).bind fun l1 => some l1
def lg (a1 : (List Int)) (self : ah → (List Int) → Option ah) (i6 : Int) : (List ah) → Option (List ah)
  | l5 =>
  (bh l5 i6).bind fun x12 =>
    (self x12 a1).bind fun r13 =>
    (cx l5 i6 r13).bind fun l14 =>
    some l14
def lh (self : ah → (List Int) → Option ah) (a0 : ah) (a1 : (List Int)) : Option ah :=
  (if (a0.Op == 3) then (gK a1 a0).bind fun r2 =>
    (if r2 then some (ah.mk 1 0 0 []) else some (ah.mk 0 0 0 [])) else (jO a0.Kids).bind fun r4 =>
    (dQ (lg a1 self) (bG 0 (r4.length : Int)) r4).bind fun z15 =>
    some (ah.mk a0.Op a0.F a0.N z15))
def hZ : Nat → ah → (List Int) → Option ah
  | 0 => fun _ _ => none
  | k + 1 => lh (hZ k)
def nf (a0 : ah) (a1 : (List Int)) : Option ah := hZ cn a0 a1
def nh (a0 : ah) (a1 : (List Int)) (self : ah → (List Int) → Option ah) (i9 : Int) : (List ah) → Option (List ah)
  | l8 =>
  (bh a0.Kids i9).bind fun x15 =>
    (self x15 a1).bind fun r16 =>
    (cB l8 ([r16] : List ah)).bind fun l17 =>
    some l17
def lj (self : ah → (List Int) → Option ah) (a0 : ah) (a1 : (List Int)) : Option ah :=
  (if (a0.Op == 3) then ((if decide (a0.F ≥ 0) then (if decide (a0.F < (a1.length : Int)) then (bh a1 a0.F).bind fun x4 =>
    some (x4 == a0.N) else some false) else some false)).bind fun y5 =>
    (if y5 then some (ah.mk 1 0 0 []) else some (ah.mk 0 0 0 [])) else (dQ (nh a0 a1 self) (bG 0 (a0.Kids.length : Int)) ([] : List ah)).bind fun z18 =>
    some (ah.mk a0.Op a0.F a0.N z18))
def iS : Nat → ah → (List Int) → Option ah
  | 0 => fun _ _ => none
  | k + 1 => lj (iS k)
def ni (a0 : ah) (a1 : (List Int)) : Option ah := iS cn a0 a1
def nj (a0 : ah) (a1 : ah) (self : ah → ah → Option Bool) (i5 : Int) : Unit → Option (Br Unit Bool)
  | () =>
  (bh a0.Kids i5).bind fun x11 =>
    (bh a1.Kids i5).bind fun x12 =>
    (self x11 x12).bind fun r13 =>
    (if (!r13) then some (Br.ret false) else some (.next ()))
def lk (self : ah → ah → Option Bool) (a0 : ah) (a1 : ah) : Option Bool :=
  (if ((a0.Op != a1.Op) || ((a0.F != a1.F) || ((a0.N != a1.N) || ((a0.Kids.length : Int) != (a1.Kids.length : Int))))) then some false else (b9 (nj a0 a1 self) (bG 0 (a0.Kids.length : Int)) ()).bind fun q15 => match q15 with
    | .ret r => some r
    | .done () =>
    some true)
def iT : Nat → ah → ah → Option Bool
  | 0 => fun _ _ => none
  | k + 1 => lk (iT k)
def nk (a0 : ah) (a1 : ah) : Option Bool := iT cn a0 a1
def law07_PolicyAt (a0 : (List law05_Step)) (a1 : (A2 (List Int))) (a2 : (A8 Int)) : Option Bool :=
  (mY).bind fun r1 =>
    (if (!r1) then some false else (kX a0).bind fun r3 =>
    (if ((!r3.2) || ((decide ((a1.a0.length : Int) > 6)) || (decide ((a1.a1.length : Int) > 6)))) then some true else (nf r3.1 a1.a0).bind fun r7 =>
    (ni r3.1 a1.a0).bind fun r8 =>
    (nk r7 r8).bind fun r9 =>
    (if (!r9) then some false else (lb r3.1).bind fun r11 =>
    (if (!r11) then some true else (gm r3.1 a1.a0 a2).bind fun r13 =>
    (gm r7 a1.a1 a2).bind fun r14 =>
    ((if (r13.2 == r14.2) then (lf r13.1 r14.1).bind fun r16 =>
    some r16 else some false)).bind fun y17 =>
    some y17))))
end Go.AM
