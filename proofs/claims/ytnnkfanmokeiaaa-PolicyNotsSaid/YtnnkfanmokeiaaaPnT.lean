import Derived.Test.YtnnkfanmokeiaaaAmPre
set_option linter.unusedVariables false
namespace Go.AM
open Go
structure aj where
  Op : Int
  F : Int
  N : Int
  Kids : (List aj)
  deriving Inhabited
structure dX where
  F : Int
  N : Int
  deriving DecidableEq, Inhabited
structure lm where
  When : (List dX)
  Guard : (List dX)
  Then : (List dX)
  deriving DecidableEq, Inhabited
structure ez where
  Init : (List Int)
  Pol : aj
  Rules : (List lm)
  deriving Inhabited
structure law05_Step where
  What : Int
  F : Int
  N : Int
  K : Int
  deriving DecidableEq, Inhabited
structure og where
  Sw : Int
  Pt : Int
  deriving DecidableEq, Inhabited
structure oh where
  Switches : (List Int)
  Links : (List (A2 og))
  Hosts : (List og)
  deriving DecidableEq, Inhabited
structure wm where
  From : Int
  To : Int
  Match : (List dX)
  Ban : Bool
  deriving DecidableEq, Inhabited
structure wn where
  T : oh
  L : (List law05_Step)
  State : (List Int)
  deriving DecidableEq, Inhabited
structure wo where
  t : oh
  p : aj
  state : (List Int)
  found : (List (List (A8 Int)))
  deriving Inhabited
def gU (a0 : (List aj)) : Option aj :=
  some (aj.mk 7 0 0 a0)
def fF (a0 : (List aj)) : Option aj :=
  some (aj.mk 6 0 0 a0)
def lr (a0 : aj) (self : aj → Option Int) (i2 : Int) : Int → Option Int
  | i1 =>
  (bt a0.Kids i2).bind fun x8 =>
    (self x8).bind fun r9 =>
    some (IntKind.i64.wrap (i1 + r9))
def iP (self : aj → Option Int) (a0 : aj) : Option Int :=
  (cT (lr a0 self) (bF 0 (a0.Kids.length : Int)) 1).bind fun z10 =>
    some z10
def fG : Nat → aj → Option Int
  | 0 => fun _ => none
  | k + 1 => iP (fG k)
def ls (a0 : aj) : Option Int := fG cm a0
def lu (a0 : aj) (self : aj → Option Int) (i2 : Int) : Int → Option Int
  | i1 =>
  (bt a0.Kids i2).bind fun x8 =>
    (self x8).bind fun r9 =>
    some (gf i1 r9)
def iQ (self : aj → Option Int) (a0 : aj) : Option Int :=
  (cT (lu a0 self) (bF 0 (a0.Kids.length : Int)) 0).bind fun z10 =>
    some (IntKind.i64.wrap (z10 + 1))
def fH : Nat → aj → Option Int
  | 0 => fun _ => none
  | k + 1 => iQ (fH k)
def lw (a0 : aj) : Option Int := fH cm a0
def oi (a0 : (List aj)) (a1 : (aj → Option Bool)) (i1 : Int) : Unit → Option (Br Unit Int)
  | () =>
  (bt a0 i1).bind fun x7 =>
    (a1 x7).bind fun x8 =>
    (if x8 then some (Br.ret i1) else some (.next ()))
def jL (a0 : (List aj)) (a1 : aj → Option Bool) : Option Int :=
  (cd (oi a0 a1) (bF 0 (a0.length : Int)) ()).bind fun q10 => match q10 with
    | .ret r => some r
    | .done () =>
    some (-1)
def gp (a0 : (List aj)) (a1 : aj → Option Bool) : Option Bool :=
  (jL a0 a1).bind fun r1 =>
    some (decide (r1 ≥ 0))
def jM (self : aj → Option Bool) (a0 : aj) : Option Bool :=
  (self a0).bind fun r1 =>
    some (!r1)
def jN (self : aj → Option Bool) (a0 : aj) : Option Bool :=
  ((if (a0.Op == 0) then some (a0.Op == 0) else (if (a0.Op == 1) then some (a0.Op == 1) else (if (a0.Op == 2) then some (a0.Op == 2) else (if (a0.Op == 3) then some (a0.Op == 3) else some (a0.Op == 4)))))).bind fun y5 =>
    (if y5 then some true else ((if (a0.Op == 6) then some (a0.Op == 6) else some (a0.Op == 7))).bind fun y9 =>
    (if y9 then (gp a0.Kids (fun y0 => jM self y0)).bind fun r12 =>
    some (!r12) else some false))
def gV : Nat → aj → Option Bool
  | 0 => fun _ => none
  | k + 1 => jN (gV k)
def lz (a0 : aj) : Option Bool := gV cm a0
def jO (self : aj → Int → Option Bool) (a0 : aj) (a1 : Int) : Option Bool :=
  (self a0 a1).bind fun r1 =>
    some (!r1)
def jP (self : aj → Int → Option Bool) (a0 : aj) (a1 : Int) : Option Bool :=
  (((if (a0.Op == 0) then some (a0.Op == 0) else some (a0.Op == 1))).bind fun y3 =>
    (if y3 then some (Sum.inr (((a0.Kids.length : Int) == 0) && ((a0.F == 0) && (a0.N == 0)))) else (if (a0.Op == 4) then ((if ((a0.Kids.length : Int) == 1) then (if ((a0.F == 0) && (a0.N == 0)) then (bt a0.Kids 0).bind fun x10 =>
    (lz x10).bind fun r11 =>
    (if r11 then (self x10 a1).bind fun r13 =>
    some r13 else some false) else some false) else some false)).bind fun y14 =>
    some (Sum.inr y14) else ((if (a0.Op == 6) then some (a0.Op == 6) else some (a0.Op == 7))).bind fun y17 =>
    (if y17 then ((if decide ((a0.Kids.length : Int) ≥ 2) then (if ((a0.F == 0) && (a0.N == 0)) then (gp a0.Kids (fun y0 => jO self y0 a1)).bind fun r22 =>
    some (!r22) else some false) else some false)).bind fun y23 =>
    some (Sum.inr y23) else (if (a0.Op == 2) then some (.inl (0, 8)) else (if (a0.Op == 5) then some (.inl (1, 8)) else (if (a0.Op == 3) then some (.inl (0, a1)) else some (Sum.inr false)))))))).bind fun q30 => match q30 with
    | .inr r => some r
    | .inl (y28, y29) =>
    some (((a0.Kids.length : Int) == 0) && ((decide (a0.F ≥ y28)) && (decide (a0.F < y29))))
def gW : Nat → aj → Int → Option Bool
  | 0 => fun _ _ => none
  | k + 1 => jP (gW k)
def lA (a0 : aj) (a1 : Int) : Option Bool := gW cm a0 a1
def sf (a0 : (List dX)) (a1 : Int) (i1 : Int) : Unit → Option (Br Unit Bool)
  | () =>
  (bt a0 i1).bind fun x7 =>
    ((if decide (x7.F < 0) then some true else (if decide (x7.F ≥ a1) then some true else (if decide (i1 > 0) then (bt a0 (IntKind.i64.wrap (i1 - 1))).bind fun x11 =>
    some (decide (x11.F ≥ x7.F)) else some false)))).bind fun y12 =>
    (if y12 then some (Br.ret false) else some (.next ()))
def jQ (a0 : (List dX)) (a1 : Int) : Option Bool :=
  (cd (sf a0 a1) (bF 0 (a0.length : Int)) ()).bind fun q15 => match q15 with
    | .ret r => some r
    | .done () =>
    some true
def sg (a0 : ez) (i12 : Int) : Unit → Option (Br Unit Int)
  | () =>
  (bt a0.Rules i12).bind fun x18 =>
    ((if decide ((x18.When.length : Int) ≥ 2) then (bt x18.When 0).bind fun x20 =>
    (if (x20.F == 0) then (bt x18.When 1).bind fun x22 =>
    some (x22.F == 1) else some false) else some false)).bind fun y23 =>
    ((if (!y23) then some true else (jQ x18.When 8).bind fun r26 =>
    (if (!r26) then some true else (jQ x18.Guard (a0.Init.length : Int)).bind fun r28 =>
    (if (!r28) then some true else (jQ x18.Then (a0.Init.length : Int)).bind fun r30 =>
    (if (!r30) then some true else some ((x18.Then.length : Int) == 0)))))).bind fun y32 =>
    (if y32 then some (Br.ret 11) else some (.next ()))
def jR (a0 : ez) : Option Int :=
  ((if decide ((a0.Init.length : Int) < 1) then some true else (if decide ((a0.Init.length : Int) > 4) then some true else (ls a0.Pol).bind fun r3 =>
    (if decide (r3 > 300) then some true else (lw a0.Pol).bind fun r5 =>
    (if decide (r5 > 20) then some true else some (decide ((a0.Rules.length : Int) > 24))))))).bind fun y7 =>
    (if y7 then some 2 else (lA a0.Pol (a0.Init.length : Int)).bind fun r10 =>
    (if (!r10) then some 11 else (cd (sg a0) (bF 0 (a0.Rules.length : Int)) ()).bind fun q35 => match q35 with
    | .ret r => some r
    | .done () =>
    some 0))
def fI (a0 : Bool) (a1 : (A8 Int)) : Option (List (A8 Int)) :=
  (if (!a0) then some ([] : List (A8 Int)) else some ([a1] : List (A8 Int)))
def fJ (a0 : (List Int)) (a1 : aj) : Option Bool :=
  ((if decide (a1.F ≥ 0) then (if decide (a1.F < (a0.length : Int)) then (bt a0 a1.F).bind fun x3 =>
    some (x3 == a1.N) else some false) else some false)).bind fun y4 =>
    some y4
def om (a0 : Int) : Option Bool :=
  some ((decide (a0 ≥ 0)) && (decide (a0 < 8)))
def ot (a0 : (A8 Int)) (a1 : Int) (a2 : Int) : Option (A8 Int) :=
  ((om a1).bind fun r1 =>
    (if r1 then (a0.get a1).bind fun x3 =>
    (a0.put a1 a2).bind fun x4 =>
    some x4 else some a0)).bind fun y5 =>
    some y5
def gX (a0 : List (A8 Int)) : Option (List (A8 Int)) :=
  (cS ([] : List (A8 Int)) a0).bind fun l1 => some l1
def ou (a0 : Int) : Option Int :=
  ((if decide (a0 ≥ 4294967296) then some ((a0.fdiv (2 ^ 32)), 32) else some (a0, 0))).bind fun (y2, y3) =>
    ((if decide (y2 ≥ 65536) then some ((y2.fdiv (2 ^ 16)), IntKind.i64.wrap (y3 + 16)) else some (y2, y3))).bind fun (y6, y7) =>
    ((if decide (y6 ≥ 256) then some ((y6.fdiv (2 ^ 8)), IntKind.i64.wrap (y7 + 8)) else some (y6, y7))).bind fun (y10, y11) =>
    (kZ (⟨#[0, 1, 2, 2, 3, 3, 3, 3, 4, 4, 4, 4, 4, 4, 4, 4, 5, 5, 5, 5, 5, 5, 5, 5, 5, 5, 5, 5, 5, 5, 5, 5, 6, 6, 6, 6, 6, 6, 6, 6, 6, 6, 6, 6, 6, 6, 6, 6, 6, 6, 6, 6, 6, 6, 6, 6, 6, 6, 6, 6, 6, 6, 6, 6, 7, 7, 7, 7, 7, 7, 7, 7, 7, 7, 7, 7, 7, 7, 7, 7, 7, 7, 7, 7, 7, 7, 7, 7, 7, 7, 7, 7, 7, 7, 7, 7, 7, 7, 7, 7, 7, 7, 7, 7, 7, 7, 7, 7, 7, 7, 7, 7, 7, 7, 7, 7, 7, 7, 7, 7, 7, 7, 7, 7, 7, 7, 7, 7, 8, 8, 8, 8, 8, 8, 8, 8, 8, 8, 8, 8, 8, 8, 8, 8, 8, 8, 8, 8, 8, 8, 8, 8, 8, 8, 8, 8, 8, 8, 8, 8, 8, 8, 8, 8, 8, 8, 8, 8, 8, 8, 8, 8, 8, 8, 8, 8, 8, 8, 8, 8, 8, 8, 8, 8, 8, 8, 8, 8, 8, 8, 8, 8, 8, 8, 8, 8, 8, 8, 8, 8, 8, 8, 8, 8, 8, 8, 8, 8, 8, 8, 8, 8, 8, 8, 8, 8, 8, 8, 8, 8, 8, 8, 8, 8, 8, 8, 8, 8, 8, 8, 8, 8, 8, 8, 8, 8, 8, 8, 8, 8, 8, 8, 8, 8, 8, 8, 8, 8, 8, 8, 8, 8, 8, 8, 8, 8]⟩ : ByteArray) (IntKind.u8.wrap y10)).bind fun b13 =>
    some (IntKind.i64.wrap (y11 + (IntKind.i64.wrap b13)))
def lB (a0 : Int) : Option Int :=
  (ou a0).bind fun r1 =>
    some r1
def lC (a1 : Int) (a3 : ((A8 Int) → (A8 Int) → Option Int)) : ((List (A8 Int)) × Int) → Option (((List (A8 Int)) × Int) ⊕ ((List (A8 Int)) × Int))
  | (l8, i9) =>
  ((if decide (i9 > a1) then (bt l8 i9).bind fun x12 =>
    (bt l8 (IntKind.i64.wrap (i9 - 1))).bind fun x13 =>
    (a3 x12 x13).bind fun x14 =>
    some (decide (x14 < 0)) else some false)).bind fun y15 =>
    (if y15 then (bt l8 (IntKind.i64.wrap (i9 - 1))).bind fun x18 =>
    (bt l8 i9).bind fun x19 =>
    (cI l8 i9 x18).bind fun l20 =>
    (bt l20 (IntKind.i64.wrap (i9 - 1))).bind fun x21 =>
    (cI l20 (IntKind.i64.wrap (i9 - 1)) x19).bind fun l22 =>
    some (.inl (l22, IntKind.i64.wrap (i9 - 1))) else some (.inr (l8, i9)))
def lD (a1 : Int) (a3 : ((A8 Int) → (A8 Int) → Option Int)) (i2 : Int) : (List (A8 Int)) → Option (List (A8 Int))
  | l1 =>
  (gh (lC a1 a3) cm (l1, i2)).bind fun (z23, z24) =>
    some z23
def gY (a0 : (List (A8 Int))) (a1 : Int) (a2 : Int) (a3 : ((A8 Int) → (A8 Int) → Option Int)) : Option (List (A8 Int)) :=
  (cT (lD a1 a3) (bF (IntKind.i64.wrap (a1 + 1)) a2) a0).bind fun z26 =>
    some z26
def lE (a0 : (List (A8 Int))) (a1 : Int) (a2 : Int) (a3 : Int) (a4 : ((A8 Int) → (A8 Int) → Option Int)) : Unit → Option (Br Unit (List (A8 Int)))
  | () =>
  (if decide ((IntKind.i64.wrap (a2 - a1)) ≤ 12) then (gY a0 a1 a2 a4).bind fun r3 =>
    some (Br.ret r3) else (if (a3 == 0) then none else ((if (!true) then none else some ())).bind fun _ =>
    none))
def gZ (a0 : (List (A8 Int))) (a1 : Int) (a2 : Int) (a3 : Int) (a4 : ((A8 Int) → (A8 Int) → Option Int)) : Option (List (A8 Int)) :=
  (gQ (lE a0 a1 a2 a3 a4) cm ()).bind fun q7 => match q7 with
    | .ret r => some r
    | .done () =>
    some a0
def eW (a0 : (List (A8 Int))) (a1 : ((A8 Int) → (A8 Int) → Option Int)) : Option (List (A8 Int)) :=
  (lB (IntKind.u64.wrap (a0.length : Int))).bind fun r1 =>
    (gZ a0 0 (a0.length : Int) r1 a1).bind fun r2 =>
    some r2
def jS (a0 : Int) : Option Bool :=
  some (a0 != a0)
def jT (a0 : Int) (a1 : Int) : Option Int :=
  (jS a0).bind fun r1 =>
    (jS a1).bind fun r2 =>
    (if r1 then (if r2 then some 0 else some (-1)) else (if r2 then some 1 else (if decide (a0 < a1) then some (-1) else (if decide (a0 > a1) then some 1 else some 0))))
def ov (a0 : (A8 Int)) (a1 : (A8 Int)) (i1 : Int) : Unit → Option (Br Unit Int)
  | () =>
  (a0.get i1).bind fun x7 =>
    (a1.get i1).bind fun x8 =>
    (jT x7 x8).bind fun r9 =>
    (if (r9 != 0) then some (Br.ret r9) else some (.next ()))
def fK (a0 : (A8 Int)) (a1 : (A8 Int)) : Option Int :=
  (cd (ov a0 a1) (bF 0 8) ()).bind fun q11 => match q11 with
    | .ret r => some r
    | .done () =>
    some 0
def ow (l11 : (List (A8 Int))) : Unit → Option (Unit ⊕ Unit)
  | () =>
  (if decide (1 < (l11.length : Int)) then none else some (.inr ()))
def ox (a0 : (List (A8 Int))) (i2 : Int) : Unit → Option (Br Unit (List (A8 Int)))
  | () =>
  (bt a0 i2).bind fun x8 =>
    (bt a0 (IntKind.i64.wrap (i2 - 1))).bind fun x9 =>
    (if (x8 == x9) then (dc a0 i2 (a0.length : Int)).bind fun l11 =>
    (gh (ow l11) cm ()).bind fun _ =>
    some (Br.ret (a0.take i2.toNat)) else some (.next ()))
def g7 (a0 : (List (A8 Int))) : Option (List (A8 Int)) :=
  (if decide ((a0.length : Int) < 2) then some a0 else (cd (ox a0) (bF 1 (a0.length : Int)) ()).bind fun q15 => match q15 with
    | .ret r => some r
    | .done () =>
    some a0)
def iR (a0 : (List (A8 Int))) : Option (List (A8 Int)) :=
  (gX a0).bind fun r1 =>
    (eW r1 (fun y0 y1 => fK y0 y1)).bind fun r2 =>
    (g7 r2).bind fun r3 =>
    some r3
def eX (a0 : (List (A8 Int))) : Option (List (A8 Int)) :=
  (iR a0).bind fun r1 =>
    (if decide ((r1.length : Int) > 64) then none else some r1)
def lF (a0 : aj) (a1 : (List Int)) (a2 : (A8 Int)) (self : aj → (List Int) → (A8 Int) → Option (List (A8 Int))) (i18 : Int) : (List (A8 Int)) → Option (List (A8 Int))
  | l17 =>
  (bt a0.Kids i18).bind fun x24 =>
    (self x24 a1 a2).bind fun r25 =>
    (cS l17 r25).bind fun l26 =>
    (eX l26).bind fun r27 =>
    some r27
def oy (a1 : (List Int)) (y32 : (List (A8 Int))) (x39 : aj) (self : aj → (List Int) → (A8 Int) → Option (List (A8 Int))) (i41 : Int) : (List (A8 Int)) → Option (List (A8 Int))
  | l40 =>
  (bt y32 i41).bind fun x47 =>
    (self x39 a1 x47).bind fun r48 =>
    (cS l40 r48).bind fun l49 =>
    some l49
def lG (a0 : aj) (a1 : (List Int)) (self : aj → (List Int) → (A8 Int) → Option (List (A8 Int))) (i33 : Int) : (List (A8 Int)) → Option (List (A8 Int))
  | y32 =>
  (bt a0.Kids i33).bind fun x39 =>
    (cT (oy a1 y32 x39 self) (bF 0 (y32.length : Int)) ([] : List (A8 Int))).bind fun z50 =>
    (eX z50).bind fun r51 =>
    some r51
def jU (self : aj → (List Int) → (A8 Int) → Option (List (A8 Int))) (a0 : aj) (a1 : (List Int)) (a2 : (A8 Int)) : Option (List (A8 Int)) :=
  (if (a0.Op == 1) then (fI true a2).bind fun r2 =>
    some r2 else (if (a0.Op == 2) then (a2.get a0.F).bind fun x4 =>
    (fI (x4 == a0.N) a2).bind fun r5 =>
    some r5 else (if (a0.Op == 3) then (fJ a1 a0).bind fun r7 =>
    (fI r7 a2).bind fun r8 =>
    some r8 else (if (a0.Op == 4) then (bt a0.Kids 0).bind fun x10 =>
    (self x10 a1 a2).bind fun r11 =>
    (fI ((r11.length : Int) == 0) a2).bind fun r12 =>
    some r12 else (if (a0.Op == 5) then (ot a2 a0.F a0.N).bind fun r14 =>
    (fI true r14).bind fun r15 =>
    some r15 else (if (a0.Op == 7) then (cT (lF a0 a1 a2 self) (bF 0 (a0.Kids.length : Int)) ([] : List (A8 Int))).bind fun z28 =>
    some z28 else (if (a0.Op == 6) then (fI true a2).bind fun r31 =>
    (cT (lG a0 a1 self) (bF 0 (a0.Kids.length : Int)) r31).bind fun z53 =>
    some z53 else some ([] : List (A8 Int)))))))))
def fL : Nat → aj → (List Int) → (A8 Int) → Option (List (A8 Int))
  | 0 => fun _ _ _ => none
  | k + 1 => jU (fL k)
def lH (a0 : aj) (a1 : (List Int)) (a2 : (A8 Int)) : Option (List (A8 Int)) := fL cm a0 a1 a2
def dY (a0 : aj) (a1 : (List Int)) (a2 : (A8 Int)) : Option ((List (A8 Int)) × Int) :=
  (gc 4 0).bind fun l1 =>
    (jR (ez.mk l1 a0 [])).bind fun r2 =>
    (if (r2 != 0) then some (([] : List (A8 Int)), 11) else (lH a0 a1 a2).bind fun r4 =>
    some (r4, 0))
def oz (a0 : aj) (a1 : (List Int)) (a2 : (A8 Int)) : Option Bool :=
  (dY a0 a1 a2).bind fun r1 =>
    some ((r1.2 == 0) && (decide ((r1.1.length : Int) > 0)))
def lI  : Option Bool :=
  (gU ([(aj.mk 5 1 1 []), (aj.mk 5 1 2 [])] : List aj)).bind fun r1 =>
    (fF ([r1, (aj.mk 3 0 5 [])] : List aj)).bind fun r2 =>
    (dY r2 ([5] : List Int) (A8.mk 9 0 0 0 0 0 0 0)).bind fun r3 =>
    (dY r2 ([6] : List Int) (A8.mk 9 0 0 0 0 0 0 0)).bind fun r4 =>
    ((if (r3.2 == 0) then (if (r4.2 == 0) then (if ((r3.1.length : Int) == 2) then (bt r3.1 1).bind fun x8 =>
    (if (x8 == (A8.mk 9 2 0 0 0 0 0 0)) then (if ((r4.1.length : Int) == 0) then (oz r2 ([5] : List Int) (A8.mk 0 0 0 0 0 0 0 0)).bind fun r11 =>
    some r11 else some false) else some false) else some false) else some false) else some false)).bind fun y12 =>
    some y12
def lJ (a0 : (List law05_Step)) (i3 : Int) : (List aj) → Option (List aj)
  | l2 =>
  ((bt a0 i3).bind fun x9 =>
    (if ((x9.What == 0) || (x9.What == 1)) then (cS l2 ([(aj.mk x9.What 0 0 [])] : List aj)).bind fun l12 =>
    some l12 else (if ((x9.What == 2) || ((x9.What == 3) || (x9.What == 5))) then (cS l2 ([(aj.mk x9.What x9.F x9.N [])] : List aj)).bind fun l16 =>
    some l16 else (if ((x9.What == 4) && (decide ((l2.length : Int) > 0))) then (bt l2 (IntKind.i64.wrap ((l2.length : Int) - 1))).bind fun x19 =>
    (cI l2 (IntKind.i64.wrap ((l2.length : Int) - 1)) (aj.mk 4 0 0 ([x19] : List aj))).bind fun l20 =>
    some l20 else (if ((x9.What == 6) || (x9.What == 7)) then (dc l2 (IntKind.i64.wrap ((l2.length : Int) - (eH (IntKind.i64.wrap x9.K) (l2.length : Int)))) (l2.length : Int)).bind fun l23 =>
    (cS ([] : List aj) l23).bind fun l24 =>
    (dc l2 0 (IntKind.i64.wrap ((l2.length : Int) - (eH (IntKind.i64.wrap x9.K) (l2.length : Int))))).bind fun l25 =>
    (cS l25 ([(aj.mk x9.What 0 0 l24)] : List aj)).bind fun l26 =>
    some l26 else some l2))))).bind fun l27 =>
    some l27
def iS (a0 : (List law05_Step)) : Option (aj × Bool) :=
  (if decide ((a0.length : Int) > 60) then some ((aj.mk 0 0 0 []), false) else (cT (lJ a0) (bF 0 (a0.length : Int)) ([] : List aj)).bind fun z29 =>
    (if ((z29.length : Int) == 0) then some ((aj.mk 0 0 0 []), false) else (bt z29 (IntKind.i64.wrap ((z29.length : Int) - 1))).bind fun x31 =>
    some (x31, true)))
def sh (a0 : aj) (self : aj → Option Int) (i2 : Int) : Int → Option Int
  | i1 =>
  (bt a0.Kids i2).bind fun x8 =>
    (self x8).bind fun r9 =>
    some (IntKind.i64.wrap (i1 + r9))
def lK (self : aj → Option Int) (a0 : aj) : Option Int :=
  (cT (sh a0 self) (bF 0 (a0.Kids.length : Int)) 1).bind fun z10 =>
    some z10
def iT : Nat → aj → Option Int
  | 0 => fun _ => none
  | k + 1 => lK (iT k)
def g8 (a0 : aj) : Option Int := iT cm a0
def si (a0 : aj) (self : aj → Option Int) (i2 : Int) : Int → Option Int
  | i1 =>
  (bt a0.Kids i2).bind fun x8 =>
    (self x8).bind fun r9 =>
    some (gf i1 r9)
def lL (self : aj → Option Int) (a0 : aj) : Option Int :=
  (cT (si a0 self) (bF 0 (a0.Kids.length : Int)) 0).bind fun z10 =>
    some (IntKind.i64.wrap (z10 + 1))
def iU : Nat → aj → Option Int
  | 0 => fun _ => none
  | k + 1 => lL (iU k)
def g9 (a0 : aj) : Option Int := iU cm a0
def lM (a0 : aj) (self : aj → Option Bool) (i6 : Int) : Unit → Option (Br Unit (Unit ⊕ Bool))
  | () =>
  (bt a0.Kids i6).bind fun x12 =>
    (self x12).bind fun r13 =>
    (if (!r13) then some (Br.ret (Sum.inr false)) else some (.next ()))
def jV (self : aj → Option Bool) (a0 : aj) : Option Bool :=
  (if ((a0.Op == 5) || ((decide (a0.Op < 0)) || (decide (a0.Op > 7)))) then some false else ((if ((a0.Op == 6) || (a0.Op == 7)) then (cd (lM a0 self) (bF 0 (a0.Kids.length : Int)) ()).bind fun q15 => match q15 with
    | .ret r => some r
    | .done () =>
    some (.inl ()) else some (.inl ()))).bind fun q16 => match q16 with
    | .inr r => some r
    | .inl () =>
    some true)
def hE : Nat → aj → Option Bool
  | 0 => fun _ => none
  | k + 1 => jV (hE k)
def iV (a0 : aj) : Option Bool := hE cm a0
def lN (a0 : aj) (a1 : Int) (self : aj → Int → Option Bool) (i33 : Int) : Unit → Option (Br Unit Bool)
  | () =>
  (bt a0.Kids i33).bind fun x39 =>
    (self x39 a1).bind fun r40 =>
    (if (!r40) then some (Br.ret false) else some (.next ()))
def jW (self : aj → Int → Option Bool) (a0 : aj) (a1 : Int) : Option Bool :=
  ((if (a0.Op == 0) then some (a0.Op == 0) else some (a0.Op == 1))).bind fun y2 =>
    (if y2 then some (((a0.Kids.length : Int) == 0) && ((a0.F == 0) && (a0.N == 0))) else (if (a0.Op == 2) then some (((a0.Kids.length : Int) == 0) && ((decide (a0.F ≥ 0)) && (decide (a0.F < 8)))) else (if (a0.Op == 3) then some (((a0.Kids.length : Int) == 0) && ((decide (a0.F ≥ 0)) && (decide (a0.F < a1)))) else (if (a0.Op == 5) then some (((a0.Kids.length : Int) == 0) && ((decide (a0.F ≥ 1)) && (decide (a0.F < 8)))) else (if (a0.Op == 4) then ((if ((a0.Kids.length : Int) == 1) then (if (a0.F == 0) then (if (a0.N == 0) then (bt a0.Kids 0).bind fun x20 =>
    (iV x20).bind fun r21 =>
    (if r21 then (self x20 a1).bind fun r23 =>
    some r23 else some false) else some false) else some false) else some false)).bind fun y24 =>
    some y24 else ((if (a0.Op == 6) then some (a0.Op == 6) else some (a0.Op == 7))).bind fun y27 =>
    (if y27 then (if ((decide ((a0.Kids.length : Int) < 2)) || ((a0.F != 0) || (a0.N != 0))) then some false else (cd (lN a0 a1 self) (bF 0 (a0.Kids.length : Int)) ()).bind fun q42 => match q42 with
    | .ret r => some r
    | .done () =>
    some true) else some false))))))
def hH : Nat → aj → Int → Option Bool
  | 0 => fun _ _ => none
  | k + 1 => jW (hH k)
def lO (a0 : aj) (a1 : Int) : Option Bool := hH cm a0 a1
def sj (a0 : (List dX)) (a1 : Int) (i1 : Int) : Unit → Option (Br Unit Bool)
  | () =>
  (bt a0 i1).bind fun x7 =>
    ((if decide (x7.F < 0) then some true else (if decide (x7.F ≥ a1) then some true else (if decide (i1 > 0) then (bt a0 (IntKind.i64.wrap (i1 - 1))).bind fun x11 =>
    some (decide (x11.F ≥ x7.F)) else some false)))).bind fun y12 =>
    (if y12 then some (Br.ret false) else some (.next ()))
def jX (a0 : (List dX)) (a1 : Int) : Option Bool :=
  (cd (sj a0 a1) (bF 0 (a0.length : Int)) ()).bind fun q15 => match q15 with
    | .ret r => some r
    | .done () =>
    some true
def sk (a0 : ez) (i12 : Int) : Unit → Option (Br Unit Int)
  | () =>
  (bt a0.Rules i12).bind fun x18 =>
    ((if decide ((x18.When.length : Int) < 2) then some true else (bt x18.When 0).bind fun x20 =>
    (if (x20.F != 0) then some true else (bt x18.When 1).bind fun x22 =>
    (if (x22.F != 1) then some true else (jX x18.When 8).bind fun r24 =>
    (if (!r24) then some true else (jX x18.Guard (a0.Init.length : Int)).bind fun r26 =>
    (if (!r26) then some true else (jX x18.Then (a0.Init.length : Int)).bind fun r28 =>
    (if (!r28) then some true else some ((x18.Then.length : Int) == 0)))))))).bind fun y30 =>
    (if y30 then some (Br.ret 11) else some (.next ()))
def jY (a0 : ez) : Option Int :=
  ((if decide ((a0.Init.length : Int) < 1) then some true else (if decide ((a0.Init.length : Int) > 4) then some true else (g8 a0.Pol).bind fun r3 =>
    (if decide (r3 > 300) then some true else (g9 a0.Pol).bind fun r5 =>
    (if decide (r5 > 20) then some true else some (decide ((a0.Rules.length : Int) > 24))))))).bind fun y7 =>
    (if y7 then some 2 else (lO a0.Pol (a0.Init.length : Int)).bind fun r10 =>
    (if (!r10) then some 11 else (cd (sk a0) (bF 0 (a0.Rules.length : Int)) ()).bind fun q33 => match q33 with
    | .ret r => some r
    | .done () =>
    some 0))
def iW (a0 : aj) : Option Bool :=
  (gc 4 0).bind fun l1 =>
    (jY (ez.mk l1 a0 [])).bind fun r2 =>
    some (r2 == 0)
def oA (a0 : (List aj)) (i1 : Int) : Unit → Option (Br Unit Bool)
  | () =>
  (bt a0 i1).bind fun x7 =>
    (iW x7).bind fun r8 =>
    ((if (!r8) then some true else (g8 x7).bind fun r10 =>
    (if decide (r10 > 40) then some true else (g9 x7).bind fun r12 =>
    some (decide (r12 > 12))))).bind fun y13 =>
    (if y13 then some (Br.ret false) else some (.next ()))
def jZ (a0 : (List aj)) : Option Bool :=
  (cd (oA a0) (bF 0 (a0.length : Int)) ()).bind fun q16 => match q16 with
    | .ret r => some r
    | .done () =>
    some true
def gq (a0 : aj) : Option aj :=
  some (aj.mk 4 0 0 ([a0] : List aj))
def lP (a0 : (List (A8 Int))) (a1 : (List (A8 Int))) (i2 : Int) : Unit → Option (Br Unit Bool)
  | () =>
  (bt a0 i2).bind fun x8 =>
    (bt a1 i2).bind fun x9 =>
    (if (!(x8 == x9)) then some (Br.ret false) else some (.next ()))
def j0 (a0 : (List (A8 Int))) (a1 : (List (A8 Int))) : Option Bool :=
  (if ((a0.length : Int) != (a1.length : Int)) then some false else (cd (lP a0 a1) (bF 0 (a0.length : Int)) ()).bind fun q11 => match q11 with
    | .ret r => some r
    | .done () =>
    some true)
def lQ (a0 : (List Int)) (a1 : (A8 Int)) (a2 : (List aj)) (i2 : Int) : (List (A8 Int)) → Option (Br (List (A8 Int)) Bool)
  | y1 =>
  (bt a2 i2).bind fun x8 =>
    (dY x8 a0 a1).bind fun r9 =>
    (if (r9.2 == 24) then some (Br.ret true) else ((if (r9.2 != 0) then some true else (if decide (i2 > 0) then (j0 r9.1 y1).bind fun r13 =>
    some (!r13) else some false))).bind fun y14 =>
    (if y14 then some (Br.ret false) else some (.next r9.1)))
def eJ (a0 : (List Int)) (a1 : (A8 Int)) (a2 : (List aj)) : Option Bool :=
  (cd (lQ a0 a1 a2) (bF 0 (a2.length : Int)) ([] : List (A8 Int))).bind fun q18 => match q18 with
    | .ret r => some r
    | .done z17 =>
    some true
def law07_PolicyNots (a0 : (A2 (List law05_Step))) (a1 : (List Int)) (a2 : (A8 Int)) : Option Bool :=
  (lI).bind fun r1 =>
    (if (!r1) then some false else (iS a0.a0).bind fun r3 =>
    (iS a0.a1).bind fun r4 =>
    ((if (!r3.2) then some true else (if (!r4.2) then some true else (jZ ([r3.1, r4.1] : List aj)).bind fun r7 =>
    (if (!r7) then some true else (iV r3.1).bind fun r9 =>
    (if (!r9) then some true else (iV r4.1).bind fun r11 =>
    (if (!r11) then some true else some (decide ((a1.length : Int) > 6)))))))).bind fun y13 =>
    (if y13 then some true else (gq r3.1).bind fun r16 =>
    (gU ([r3.1, r16] : List aj)).bind fun r17 =>
    (eJ a1 a2 ([r17, (aj.mk 1 0 0 [])] : List aj)).bind fun r18 =>
    ((if r18 then (fF ([r3.1, r16] : List aj)).bind fun r20 =>
    (eJ a1 a2 ([r20, (aj.mk 0 0 0 [])] : List aj)).bind fun r21 =>
    (if r21 then (gq r16).bind fun r23 =>
    (fF ([r3.1, r3.1] : List aj)).bind fun r24 =>
    (eJ a1 a2 ([r23, r3.1, r24] : List aj)).bind fun r25 =>
    (if r25 then (gU ([r3.1, r4.1] : List aj)).bind fun r27 =>
    (gq r27).bind fun r28 =>
    (gq r4.1).bind fun r29 =>
    (fF ([r16, r29] : List aj)).bind fun r30 =>
    (eJ a1 a2 ([r28, r30] : List aj)).bind fun r31 =>
    (if r31 then (fF ([r3.1, r4.1] : List aj)).bind fun r33 =>
    (gq r33).bind fun r34 =>
    (gU ([r16, r29] : List aj)).bind fun r35 =>
    (eJ a1 a2 ([r34, r35] : List aj)).bind fun r36 =>
    (if r36 then (fF ([r4.1, r3.1] : List aj)).bind fun r38 =>
    (eJ a1 a2 ([r33, r38] : List aj)).bind fun r39 =>
    some r39 else some false) else some false) else some false) else some false) else some false)).bind fun y40 =>
    some y40))
end Go.AM
