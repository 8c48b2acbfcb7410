import Derived.Test.YtnnkfanmokeiaaaAmPre
set_option linter.unusedVariables false
namespace Go.AM
open Go
structure am where
  Op : Int
  F : Int
  N : Int
  Kids : (List am)
  deriving Inhabited
structure ff where
  F : Int
  N : Int
  deriving DecidableEq, Inhabited
structure api_Port where
  Sw : Int
  Pt : Int
  deriving DecidableEq, Inhabited
structure api_Topo where
  Switches : (List Int)
  Links : (List (A2 api_Port))
  Hosts : (List api_Port)
  deriving DecidableEq, Inhabited
structure cb where
  t : api_Topo
  p : am
  state : (List Int)
  found : (List (List (A8 Int)))
  deriving Inhabited
structure j4 where
  When : (List ff)
  Guard : (List ff)
  Then : (List ff)
  deriving DecidableEq, Inhabited
structure gY where
  Init : (List Int)
  Pol : am
  Rules : (List j4)
  deriving Inhabited
structure vf where
  From : Int
  To : Int
  Match : (List ff)
  Ban : Bool
  deriving DecidableEq, Inhabited
structure qJ where
  What : Int
  F : Int
  N : Int
  K : Int
  deriving DecidableEq, Inhabited
structure vg where
  T : api_Topo
  L : (List qJ)
  State : (List Int)
  deriving DecidableEq, Inhabited
def gn (a0 : List (A8 Int)) : Option (List (A8 Int)) :=
  (du ([] : List (A8 Int)) a0).bind fun l1 => some l1
def qK (a0 : am) (self : am → Option Int) (i2 : Int) : Int → Option Int
  | i1 =>
  (bC a0.Kids i2).bind fun x8 =>
    (self x8).bind fun r9 =>
    some (IntKind.i64.wrap (i1 + r9))
def mL (self : am → Option Int) (a0 : am) : Option Int :=
  (dw (qK a0 self) (bS 0 (a0.Kids.length : Int)) 1).bind fun z10 =>
    some z10
def j5 : Nat → am → Option Int
  | 0 => fun _ => none
  | k + 1 => mL (j5 k)
def mM (a0 : am) : Option Int := j5 dj a0
def qL (a0 : am) (self : am → Option Int) (i2 : Int) : Int → Option Int
  | i1 =>
  (bC a0.Kids i2).bind fun x8 =>
    (self x8).bind fun r9 =>
    some (jN i1 r9)
def mN (self : am → Option Int) (a0 : am) : Option Int :=
  (dw (qL a0 self) (bS 0 (a0.Kids.length : Int)) 0).bind fun z10 =>
    some (IntKind.i64.wrap (z10 + 1))
def j6 : Nat → am → Option Int
  | 0 => fun _ => none
  | k + 1 => mN (j6 k)
def mO (a0 : am) : Option Int := j6 dj a0
def qM (a0 : (List am)) (a1 : (am → Option Bool)) (i1 : Int) : Unit → Option (Br Unit Int)
  | () =>
  (bC a0 i1).bind fun x7 =>
    (a1 x7).bind fun x8 =>
    (if x8 then some (Br.ret i1) else some (.next ()))
def mP (a0 : (List am)) (a1 : am → Option Bool) : Option Int :=
  (cl (qM a0 a1) (bS 0 (a0.length : Int)) ()).bind fun q10 => match q10 with
    | .ret r => some r
    | .done () =>
    some (-1)
def j7 (a0 : (List am)) (a1 : am → Option Bool) : Option Bool :=
  (mP a0 a1).bind fun r1 =>
    some (decide (r1 ≥ 0))
def mQ (self : am → Option Bool) (a0 : am) : Option Bool :=
  (self a0).bind fun r1 =>
    some (!r1)
def mR (self : am → Option Bool) (a0 : am) : Option Bool :=
  ((if (a0.Op == 0) then some (a0.Op == 0) else (if (a0.Op == 1) then some (a0.Op == 1) else (if (a0.Op == 2) then some (a0.Op == 2) else (if (a0.Op == 3) then some (a0.Op == 3) else some (a0.Op == 4)))))).bind fun y5 =>
    (if y5 then some true else ((if (a0.Op == 6) then some (a0.Op == 6) else some (a0.Op == 7))).bind fun y9 =>
    (if y9 then (j7 a0.Kids (fun y0 => mQ self y0)).bind fun r12 =>
    some (!r12) else some false))
def j8 : Nat → am → Option Bool
  | 0 => fun _ => none
  | k + 1 => mR (j8 k)
def mS (a0 : am) : Option Bool := j8 dj a0
def mT (self : am → Int → Option Bool) (a0 : am) (a1 : Int) : Option Bool :=
  (self a0 a1).bind fun r1 =>
    some (!r1)
def mU (self : am → Int → Option Bool) (a0 : am) (a1 : Int) : Option Bool :=
  (((if (a0.Op == 0) then some (a0.Op == 0) else some (a0.Op == 1))).bind fun y3 =>
    (if y3 then some (Sum.inr (((a0.Kids.length : Int) == 0) && ((a0.F == 0) && (a0.N == 0)))) else (if (a0.Op == 4) then ((if ((a0.Kids.length : Int) == 1) then (if ((a0.F == 0) && (a0.N == 0)) then (bC a0.Kids 0).bind fun x10 =>
    (mS x10).bind fun r11 =>
    (if r11 then (self x10 a1).bind fun r13 =>
    some r13 else some false) else some false) else some false)).bind fun y14 =>
    some (Sum.inr y14) else ((if (a0.Op == 6) then some (a0.Op == 6) else some (a0.Op == 7))).bind fun y17 =>
    (if y17 then ((if decide ((a0.Kids.length : Int) ≥ 2) then (if ((a0.F == 0) && (a0.N == 0)) then (j7 a0.Kids (fun y0 => mT self y0 a1)).bind fun r22 =>
    some (!r22) else some false) else some false)).bind fun y23 =>
    some (Sum.inr y23) else (if (a0.Op == 2) then some (.inl (0, 8)) else (if (a0.Op == 5) then some (.inl (1, 8)) else (if (a0.Op == 3) then some (.inl (0, a1)) else some (Sum.inr false)))))))).bind fun q30 => match q30 with
    | .inr r => some r
    | .inl (y28, y29) =>
    some (((a0.Kids.length : Int) == 0) && ((decide (a0.F ≥ y28)) && (decide (a0.F < y29))))
def j9 : Nat → am → Int → Option Bool
  | 0 => fun _ _ => none
  | k + 1 => mU (j9 k)
def mV (a0 : am) (a1 : Int) : Option Bool := j9 dj a0 a1
def qN (a0 : (List ff)) (a1 : Int) (i1 : Int) : Unit → Option (Br Unit Bool)
  | () =>
  (bC a0 i1).bind fun x7 =>
    ((if decide (x7.F < 0) then some true else (if decide (x7.F ≥ a1) then some true else (if decide (i1 > 0) then (bC a0 (IntKind.i64.wrap (i1 - 1))).bind fun x11 =>
    some (decide (x11.F ≥ x7.F)) else some false)))).bind fun y12 =>
    (if y12 then some (Br.ret false) else some (.next ()))
def iF (a0 : (List ff)) (a1 : Int) : Option Bool :=
  (cl (qN a0 a1) (bS 0 (a0.length : Int)) ()).bind fun q15 => match q15 with
    | .ret r => some r
    | .done () =>
    some true
def qO (a0 : gY) (i12 : Int) : Unit → Option (Br Unit Int)
  | () =>
  (bC a0.Rules i12).bind fun x18 =>
    ((if decide ((x18.When.length : Int) ≥ 2) then (bC x18.When 0).bind fun x20 =>
    (if (x20.F == 0) then (bC x18.When 1).bind fun x22 =>
    some (x22.F == 1) else some false) else some false)).bind fun y23 =>
    ((if (!y23) then some true else (iF x18.When 8).bind fun r26 =>
    (if (!r26) then some true else (iF x18.Guard (a0.Init.length : Int)).bind fun r28 =>
    (if (!r28) then some true else (iF x18.Then (a0.Init.length : Int)).bind fun r30 =>
    (if (!r30) then some true else some ((x18.Then.length : Int) == 0)))))).bind fun y32 =>
    (if y32 then some (Br.ret 11) else some (.next ()))
def mW (a0 : gY) : Option Int :=
  ((if decide ((a0.Init.length : Int) < 1) then some true else (if decide ((a0.Init.length : Int) > 4) then some true else (mM a0.Pol).bind fun r3 =>
    (if decide (r3 > 300) then some true else (mO a0.Pol).bind fun r5 =>
    (if decide (r5 > 20) then some true else some (decide ((a0.Rules.length : Int) > 24))))))).bind fun y7 =>
    (if y7 then some 2 else (mV a0.Pol (a0.Init.length : Int)).bind fun r10 =>
    (if (!r10) then some 11 else (cl (qO a0) (bS 0 (a0.Rules.length : Int)) ()).bind fun q35 => match q35 with
    | .ret r => some r
    | .done () =>
    some 0))
def fQ (a0 : Bool) (a1 : (A8 Int)) : Option (List (A8 Int)) :=
  (if (!a0) then some ([] : List (A8 Int)) else some ([a1] : List (A8 Int)))
def mX (a0 : (List Int)) (a1 : am) : Option Bool :=
  ((if decide (a1.F ≥ 0) then (if decide (a1.F < (a0.length : Int)) then (bC a0 a1.F).bind fun x3 =>
    some (x3 == a1.N) else some false) else some false)).bind fun y4 =>
    some y4
def mY (a0 : Int) : Option Bool :=
  some ((decide (a0 ≥ 0)) && (decide (a0 < 8)))
def mZ (a0 : (A8 Int)) (a1 : Int) (a2 : Int) : Option (A8 Int) :=
  ((mY a1).bind fun r1 =>
    (if r1 then (a0.get a1).bind fun x3 =>
    (a0.put a1 a2).bind fun x4 =>
    some x4 else some a0)).bind fun y5 =>
    some y5
def m0 (a0 : Int) : Option Int :=
  ((if decide (a0 ≥ 4294967296) then some ((a0.fdiv (2 ^ 32)), 32) else some (a0, 0))).bind fun (y2, y3) =>
    ((if decide (y2 ≥ 65536) then some ((y2.fdiv (2 ^ 16)), IntKind.i64.wrap (y3 + 16)) else some (y2, y3))).bind fun (y6, y7) =>
    ((if decide (y6 ≥ 256) then some ((y6.fdiv (2 ^ 8)), IntKind.i64.wrap (y7 + 8)) else some (y6, y7))).bind fun (y10, y11) =>
    (jM (⟨#[0, 1, 2, 2, 3, 3, 3, 3, 4, 4, 4, 4, 4, 4, 4, 4, 5, 5, 5, 5, 5, 5, 5, 5, 5, 5, 5, 5, 5, 5, 5, 5, 6, 6, 6, 6, 6, 6, 6, 6, 6, 6, 6, 6, 6, 6, 6, 6, 6, 6, 6, 6, 6, 6, 6, 6, 6, 6, 6, 6, 6, 6, 6, 6, 7, 7, 7, 7, 7, 7, 7, 7, 7, 7, 7, 7, 7, 7, 7, 7, 7, 7, 7, 7, 7, 7, 7, 7, 7, 7, 7, 7, 7, 7, 7, 7, 7, 7, 7, 7, 7, 7, 7, 7, 7, 7, 7, 7, 7, 7, 7, 7, 7, 7, 7, 7, 7, 7, 7, 7, 7, 7, 7, 7, 7, 7, 7, 7, 8, 8, 8, 8, 8, 8, 8, 8, 8, 8, 8, 8, 8, 8, 8, 8, 8, 8, 8, 8, 8, 8, 8, 8, 8, 8, 8, 8, 8, 8, 8, 8, 8, 8, 8, 8, 8, 8, 8, 8, 8, 8, 8, 8, 8, 8, 8, 8, 8, 8, 8, 8, 8, 8, 8, 8, 8, 8, 8, 8, 8, 8, 8, 8, 8, 8, 8, 8, 8, 8, 8, 8, 8, 8, 8, 8, 8, 8, 8, 8, 8, 8, 8, 8, 8, 8, 8, 8, 8, 8, 8, 8, 8, 8, 8, 8, 8, 8, 8, 8, 8, 8, 8, 8, 8, 8, 8, 8, 8, 8, 8, 8, 8, 8, 8, 8, 8, 8, 8, 8, 8, 8, 8, 8, 8, 8, 8, 8]⟩ : ByteArray) (IntKind.u8.wrap y10)).bind fun b13 =>
    some (IntKind.i64.wrap (y11 + (IntKind.i64.wrap b13)))
def m4 (a0 : Int) : Option Int :=
  (m0 a0).bind fun r1 =>
    some r1
def m5 (a1 : Int) (a3 : ((A8 Int) → (A8 Int) → Option Int)) : ((List (A8 Int)) × Int) → Option (((List (A8 Int)) × Int) ⊕ ((List (A8 Int)) × Int))
  | (l8, i9) =>
  ((if decide (i9 > a1) then (bC l8 i9).bind fun x12 =>
    (bC l8 (IntKind.i64.wrap (i9 - 1))).bind fun x13 =>
    (a3 x12 x13).bind fun x14 =>
    some (decide (x14 < 0)) else some false)).bind fun y15 =>
    (if y15 then (bC l8 (IntKind.i64.wrap (i9 - 1))).bind fun x18 =>
    (bC l8 i9).bind fun x19 =>
    (de l8 i9 x18).bind fun l20 =>
    (bC l20 (IntKind.i64.wrap (i9 - 1))).bind fun x21 =>
    (de l20 (IntKind.i64.wrap (i9 - 1)) x19).bind fun l22 =>
    some (.inl (l22, IntKind.i64.wrap (i9 - 1))) else some (.inr (l8, i9)))
def m6 (a1 : Int) (a3 : ((A8 Int) → (A8 Int) → Option Int)) (i2 : Int) : (List (A8 Int)) → Option (List (A8 Int))
  | l1 =>
  (fM (m5 a1 a3) dj (l1, i2)).bind fun (z23, z24) =>
    some z23
def iG (a0 : (List (A8 Int))) (a1 : Int) (a2 : Int) (a3 : ((A8 Int) → (A8 Int) → Option Int)) : Option (List (A8 Int)) :=
  (dw (m6 a1 a3) (bS (IntKind.i64.wrap (a1 + 1)) a2) a0).bind fun z26 =>
    some z26
def m7 (a0 : (List (A8 Int))) (a1 : Int) (a2 : Int) (a3 : Int) (a4 : ((A8 Int) → (A8 Int) → Option Int)) : Unit → Option (Br Unit (List (A8 Int)))
  | () =>
  (if decide ((IntKind.i64.wrap (a2 - a1)) ≤ 12) then (iG a0 a1 a2 a4).bind fun r3 =>
    some (Br.ret r3) else (if (a3 == 0) then none else ((if (!true) then none else some ())).bind fun _ =>
    none))
def ka (a0 : (List (A8 Int))) (a1 : Int) (a2 : Int) (a3 : Int) (a4 : ((A8 Int) → (A8 Int) → Option Int)) : Option (List (A8 Int)) :=
  (gh (m7 a0 a1 a2 a3 a4) dj ()).bind fun q7 => match q7 with
    | .ret r => some r
    | .done () =>
    some a0
def iH (a0 : (List (A8 Int))) (a1 : ((A8 Int) → (A8 Int) → Option Int)) : Option (List (A8 Int)) :=
  (m4 (IntKind.u64.wrap (a0.length : Int))).bind fun r1 =>
    (ka a0 0 (a0.length : Int) r1 a1).bind fun r2 =>
    some r2
def kc (a0 : Int) : Option Bool :=
  some (a0 != a0)
def m8 (a0 : Int) (a1 : Int) : Option Int :=
  (kc a0).bind fun r1 =>
    (kc a1).bind fun r2 =>
    (if r1 then (if r2 then some 0 else some (-1)) else (if r2 then some 1 else (if decide (a0 < a1) then some (-1) else (if decide (a0 > a1) then some 1 else some 0))))
def qP (a0 : (A8 Int)) (a1 : (A8 Int)) (i1 : Int) : Unit → Option (Br Unit Int)
  | () =>
  (a0.get i1).bind fun x7 =>
    (a1.get i1).bind fun x8 =>
    (m8 x7 x8).bind fun r9 =>
    (if (r9 != 0) then some (Br.ret r9) else some (.next ()))
def m9 (a0 : (A8 Int)) (a1 : (A8 Int)) : Option Int :=
  (cl (qP a0 a1) (bS 0 8) ()).bind fun q11 => match q11 with
    | .ret r => some r
    | .done () =>
    some 0
def qQ (l11 : (List (A8 Int))) : Unit → Option (Unit ⊕ Unit)
  | () =>
  (if decide (1 < (l11.length : Int)) then none else some (.inr ()))
def qR (a0 : (List (A8 Int))) (i2 : Int) : Unit → Option (Br Unit (List (A8 Int)))
  | () =>
  (bC a0 i2).bind fun x8 =>
    (bC a0 (IntKind.i64.wrap (i2 - 1))).bind fun x9 =>
    (if (x8 == x9) then (eg a0 i2 (a0.length : Int)).bind fun l11 =>
    (fM (qQ l11) dj ()).bind fun _ =>
    some (Br.ret (a0.take i2.toNat)) else some (.next ()))
def nb (a0 : (List (A8 Int))) : Option (List (A8 Int)) :=
  (if decide ((a0.length : Int) < 2) then some a0 else (cl (qR a0) (bS 1 (a0.length : Int)) ()).bind fun q15 => match q15 with
    | .ret r => some r
    | .done () =>
    some a0)
def nc (a0 : (List (A8 Int))) : Option (List (A8 Int)) :=
  (gn a0).bind fun r1 =>
    (iH r1 (fun y0 y1 => m9 y0 y1)).bind fun r2 =>
    (nb r2).bind fun r3 =>
    some r3
def ke (a0 : (List (A8 Int))) : Option (List (A8 Int)) :=
  (nc a0).bind fun r1 =>
    (if decide ((r1.length : Int) > 64) then none else some r1)
def qS (a0 : am) (a1 : (List Int)) (a2 : (A8 Int)) (self : am → (List Int) → (A8 Int) → Option (List (A8 Int))) (i18 : Int) : (List (A8 Int)) → Option (List (A8 Int))
  | l17 =>
  (bC a0.Kids i18).bind fun x24 =>
    (self x24 a1 a2).bind fun r25 =>
    (du l17 r25).bind fun l26 =>
    (ke l26).bind fun r27 =>
    some r27
def qT (a1 : (List Int)) (y32 : (List (A8 Int))) (x39 : am) (self : am → (List Int) → (A8 Int) → Option (List (A8 Int))) (i41 : Int) : (List (A8 Int)) → Option (List (A8 Int))
  | l40 =>
  (bC y32 i41).bind fun x47 =>
    (self x39 a1 x47).bind fun r48 =>
    (du l40 r48).bind fun l49 =>
    some l49
def qU (a0 : am) (a1 : (List Int)) (self : am → (List Int) → (A8 Int) → Option (List (A8 Int))) (i33 : Int) : (List (A8 Int)) → Option (List (A8 Int))
  | y32 =>
  (bC a0.Kids i33).bind fun x39 =>
    (dw (qT a1 y32 x39 self) (bS 0 (y32.length : Int)) ([] : List (A8 Int))).bind fun z50 =>
    (ke z50).bind fun r51 =>
    some r51
def nd (self : am → (List Int) → (A8 Int) → Option (List (A8 Int))) (a0 : am) (a1 : (List Int)) (a2 : (A8 Int)) : Option (List (A8 Int)) :=
  (if (a0.Op == 1) then (fQ true a2).bind fun r2 =>
    some r2 else (if (a0.Op == 2) then (a2.get a0.F).bind fun x4 =>
    (fQ (x4 == a0.N) a2).bind fun r5 =>
    some r5 else (if (a0.Op == 3) then (mX a1 a0).bind fun r7 =>
    (fQ r7 a2).bind fun r8 =>
    some r8 else (if (a0.Op == 4) then (bC a0.Kids 0).bind fun x10 =>
    (self x10 a1 a2).bind fun r11 =>
    (fQ ((r11.length : Int) == 0) a2).bind fun r12 =>
    some r12 else (if (a0.Op == 5) then (mZ a2 a0.F a0.N).bind fun r14 =>
    (fQ true r14).bind fun r15 =>
    some r15 else (if (a0.Op == 7) then (dw (qS a0 a1 a2 self) (bS 0 (a0.Kids.length : Int)) ([] : List (A8 Int))).bind fun z28 =>
    some z28 else (if (a0.Op == 6) then (fQ true a2).bind fun r31 =>
    (dw (qU a0 a1 self) (bS 0 (a0.Kids.length : Int)) r31).bind fun z53 =>
    some z53 else some ([] : List (A8 Int)))))))))
def kf : Nat → am → (List Int) → (A8 Int) → Option (List (A8 Int))
  | 0 => fun _ _ _ => none
  | k + 1 => nd (kf k)
def nf (a0 : am) (a1 : (List Int)) (a2 : (A8 Int)) : Option (List (A8 Int)) := kf dj a0 a1 a2
def nh (a0 : am) (a1 : (List Int)) (a2 : (A8 Int)) : Option ((List (A8 Int)) × Int) :=
  (gT 4 0).bind fun l1 =>
    (mW (gY.mk l1 a0 [])).bind fun r2 =>
    (if (r2 != 0) then some (([] : List (A8 Int)), 11) else (nf a0 a1 a2).bind fun r4 =>
    some (r4, 0))
def iI (a0 : am) (a1 : (List Int)) (a2 : (A8 Int)) : Option ((List (A8 Int)) × Int) :=
  (nh a0 a1 a2).bind fun r1 =>
    some (r1.1, r1.2)
def kg (a0 : cb) (a1 : (List (A8 Int))) : Option (Int × cb) :=
  (if ((a0.found.length : Int) == 200) then some (24, a0) else (du a0.found ([a1] : List (List (A8 Int)))).bind fun l2 =>
    some (0, (cb.mk a0.t a0.p a0.state l2)))
def kh (a0 : (A8 Int)) : Option api_Port :=
  some (api_Port.mk a0.a0 a0.a1)
def iJ (a0 : api_Topo) (a1 : api_Port) (i1 : Int) : Unit → Option (Br Unit (api_Port × Bool))
  | () =>
  (bC a0.Links i1).bind fun x7 =>
    (if (a1 == x7.a0) then some (Br.ret (x7.a1, true)) else (if (a1 == x7.a1) then some (Br.ret (x7.a0, true)) else some (.next ())))
def gp (a0 : api_Topo) (a1 : api_Port) : Option (api_Port × Bool) :=
  (cl (iJ a0 a1) (bS 0 (a0.Links.length : Int)) ()).bind fun q10 => match q10 with
    | .ret r => some r
    | .done () =>
    some ((api_Port.mk 0 0), false)
def ki (a0 : (A8 Int)) (a1 : api_Port) : Option (A8 Int) :=
  some (A8.mk a1.Sw a1.Pt a0.a2 a0.a3 a0.a4 a0.a5 a0.a6 a0.a7)
def ni (a0 : (List api_Port)) (a1 : api_Port) (i1 : Int) : Unit → Option (Br Unit Int)
  | () =>
  (bC a0 i1).bind fun x7 =>
    (if (a1 == x7) then some (Br.ret i1) else some (.next ()))
def kl (a0 : (List api_Port)) (a1 : api_Port) : Option Int :=
  (cl (ni a0 a1) (bS 0 (a0.length : Int)) ()).bind fun q9 => match q9 with
    | .ret r => some r
    | .done () =>
    some (-1)
def km (a0 : (List api_Port)) (a1 : api_Port) : Option Bool :=
  (kl a0 a1).bind fun r1 =>
    some (decide (r1 ≥ 0))
def iK (a0 : api_Topo) (a1 : api_Port) : Option Bool :=
  (km a0.Hosts a1).bind fun r1 =>
    some r1
def ft (a0 : api_Topo) (a1 : (A8 Int)) : Option ((A8 Int) × Int) :=
  (kh a1).bind fun r1 =>
    (gp a0 r1).bind fun r2 =>
    (if r2.2 then (ki a1 r2.1).bind fun r4 =>
    some (r4, 0) else (iK a0 r1).bind fun r5 =>
    (if r5 then some (a1, 1) else some (a1, 2)))
def qV (l2 : (List (A8 Int))) (r3 : ((List (A8 Int)) × Int)) (self : cb → (List (A8 Int)) → (A8 Int) → Option (Int × cb)) (i16 : Int) : ((List Int) × (List (A2 api_Port)) × (List api_Port) × Int × Int × Int × (List am) × (List Int) × (List (List (A8 Int)))) → Option (Br ((List Int) × (List (A2 api_Port)) × (List api_Port) × Int × Int × Int × (List am) × (List Int) × (List (List (A8 Int)))) (Int × cb))
  | (y7, y8, y9, i10, i11, i12, y13, y14, l15) =>
  (bC r3.1 i16).bind fun x22 =>
    (ft (api_Topo.mk y7 y8 y9) x22).bind fun r23 =>
    ((if ((r23.2 == 0) && (decide ((l2.length : Int) < 23))) then (gn l2).bind fun r26 =>
    (du r26 ([x22] : List (A8 Int))).bind fun l27 =>
    (self (cb.mk (api_Topo.mk y7 y8 y9) (am.mk i10 i11 i12 y13) y14 l15) l27 r23.1).bind fun r28 =>
    some (r28.2.t.Switches, r28.2.t.Links, r28.2.t.Hosts, r28.2.p.Op, r28.2.p.F, r28.2.p.N, r28.2.p.Kids, r28.2.state, r28.2.found, r28.1) else (gn l2).bind fun r29 =>
    (du r29 ([x22] : List (A8 Int))).bind fun l30 =>
    (kg (cb.mk (api_Topo.mk y7 y8 y9) (am.mk i10 i11 i12 y13) y14 l15) l30).bind fun r31 =>
    some (r31.2.t.Switches, r31.2.t.Links, r31.2.t.Hosts, r31.2.p.Op, r31.2.p.F, r31.2.p.N, r31.2.p.Kids, r31.2.state, r31.2.found, r31.1))).bind fun (y32, y33, y34, y35, y36, y37, y38, y39, l40, y41) =>
    (if (y41 != 0) then some (Br.ret (y41, (cb.mk (api_Topo.mk y32 y33 y34) (am.mk y35 y36 y37 y38) y39 l40))) else some (.next (y32, y33, y34, y35, y36, y37, y38, y39, l40)))
def nj (self : cb → (List (A8 Int)) → (A8 Int) → Option (Int × cb)) (a0 : cb) (a1 : (List (A8 Int))) (a2 : (A8 Int)) : Option (Int × cb) :=
  (gn a1).bind fun r1 =>
    (du r1 ([a2] : List (A8 Int))).bind fun l2 =>
    (iI a0.p a0.state a2).bind fun r3 =>
    (if (r3.2 != 0) then some (r3.2, a0) else (if ((r3.1.length : Int) == 0) then (kg a0 l2).bind fun r6 =>
    some (r6.1, r6.2) else (cl (qV l2 r3 self) (bS 0 (r3.1.length : Int)) (a0.t.Switches, a0.t.Links, a0.t.Hosts, a0.p.Op, a0.p.F, a0.p.N, a0.p.Kids, a0.state, a0.found)).bind fun q53 => match q53 with
    | .ret r => some r
    | .done (z44, z45, z46, z47, z48, z49, z50, z51, z52) =>
    some (0, (cb.mk (api_Topo.mk z44 z45 z46) (am.mk z47 z48 z49 z50) z51 z52))))
def kn : Nat → cb → (List (A8 Int)) → (A8 Int) → Option (Int × cb)
  | 0 => fun _ _ _ => none
  | k + 1 => nj (kn k)
def nk (a0 : cb) (a1 : (List (A8 Int))) (a2 : (A8 Int)) : Option (Int × cb) := kn dj a0 a1 a2
def nn (a0 : api_Topo) (a1 : am) (a2 : (List Int)) (a3 : (A8 Int)) : Option ((List (List (A8 Int))) × Int) :=
  (nk (cb.mk a0 a1 a2 ([] : List (List (A8 Int)))) [] a3).bind fun r1 =>
    (if (r1.1 != 0) then some (([] : List (List (A8 Int))), r1.1) else some (r1.2.found, 0))
def qW (a0 : (List (A8 Int))) (a1 : (A8 Int)) (i1 : Int) : Unit → Option (Br Unit Int)
  | () =>
  (bC a0 i1).bind fun x7 =>
    (if (a1 == x7) then some (Br.ret i1) else some (.next ()))
def np (a0 : (List (A8 Int))) (a1 : (A8 Int)) : Option Int :=
  (cl (qW a0 a1) (bS 0 (a0.length : Int)) ()).bind fun q9 => match q9 with
    | .ret r => some r
    | .done () =>
    some (-1)
def nq (a0 : (List (A8 Int))) (a1 : (A8 Int)) : Option Bool :=
  (np a0 a1).bind fun r1 =>
    some (decide (r1 ≥ 0))
def qY (a0 : api_Topo) (a1 : am) (a2 : (List Int)) (a3 : (List (A8 Int))) (i1 : Int) : Unit → Option (Br Unit Bool)
  | () =>
  (((if ((i1.tmod 2) == 0) then (bC a3 (IntKind.i64.wrap (i1 - 1))).bind fun x8 =>
    (ft a0 x8).bind fun r9 =>
    ((if (r9.2 != 0) then some true else (bC a3 i1).bind fun x11 =>
    some (!(r9.1 == x11)))).bind fun y12 =>
    (if y12 then some (Sum.inr (Br.ret false)) else some (.inl ())) else (bC a3 (IntKind.i64.wrap (i1 - 1))).bind fun x15 =>
    (iI a1 a2 x15).bind fun r16 =>
    (bC a3 i1).bind fun x17 =>
    (nq r16.1 x17).bind fun r18 =>
    (if (!r18) then some (Sum.inr (Br.ret false)) else some (.inl ()))) : Option (Unit ⊕ (Br Unit Bool)))).bind fun q20 => match q20 with
    | .inr r => some r
    | .inl () =>
    some (.next ())
def ko (a0 : api_Topo) (a1 : am) (a2 : (List Int)) (a3 : (List (A8 Int))) : Option Bool :=
  (cl (qY a0 a1 a2 a3) (bS 1 (a3.length : Int)) ()).bind fun q22 => match q22 with
    | .ret r => some r
    | .done () =>
    some ((decide ((a3.length : Int) > 0)) && (decide ((a3.length : Int) ≤ 24)))
def kq (a0 : api_Topo) (a1 : am) (a2 : (List Int)) (a3 : (List (A8 Int))) : Option Bool :=
  (ko a0 a1 a2 a3).bind fun r1 =>
    (if (!r1) then some false else (bC a3 (IntKind.i64.wrap ((a3.length : Int) - 1))).bind fun x3 =>
    (if (((a3.length : Int).tmod 2) == 1) then (iI a1 a2 x3).bind fun r5 =>
    some ((r5.2 == 0) && ((r5.1.length : Int) == 0)) else (ft a0 x3).bind fun r7 =>
    some ((r7.2 != 0) || ((a3.length : Int) == 24))))
def kr  : Option Bool :=
  (nn (api_Topo.mk ([1, 2] : List Int) ([(A2.mk (api_Port.mk 1 2) (api_Port.mk 2 2))] : List (A2 api_Port)) ([(api_Port.mk 1 1), (api_Port.mk 2 1)] : List api_Port)) (am.mk 7 0 0 ([(am.mk 6 0 0 ([(am.mk 2 0 1 []), (am.mk 5 1 2 [])] : List am)), (am.mk 6 0 0 ([(am.mk 2 0 2 []), (am.mk 5 1 1 [])] : List am))] : List am)) [] (A8.mk 1 1 0 0 0 0 0 0)).bind fun r1 =>
    ((if (r1.2 == 0) then (if ((r1.1.length : Int) == 1) then (bC r1.1 0).bind fun x4 =>
    (if ((x4.length : Int) == 4) then (bC x4 3).bind fun x6 =>
    (if (x6 == (A8.mk 2 1 0 0 0 0 0 0)) then (ko (api_Topo.mk ([1, 2] : List Int) ([(A2.mk (api_Port.mk 1 2) (api_Port.mk 2 2))] : List (A2 api_Port)) ([(api_Port.mk 1 1), (api_Port.mk 2 1)] : List api_Port)) (am.mk 7 0 0 ([(am.mk 6 0 0 ([(am.mk 2 0 1 []), (am.mk 5 1 2 [])] : List am)), (am.mk 6 0 0 ([(am.mk 2 0 2 []), (am.mk 5 1 1 [])] : List am))] : List am)) [] x4).bind fun r8 =>
    (if r8 then (kq (api_Topo.mk ([1, 2] : List Int) ([(A2.mk (api_Port.mk 1 2) (api_Port.mk 2 2))] : List (A2 api_Port)) ([(api_Port.mk 1 1), (api_Port.mk 2 1)] : List api_Port)) (am.mk 7 0 0 ([(am.mk 6 0 0 ([(am.mk 2 0 1 []), (am.mk 5 1 2 [])] : List am)), (am.mk 6 0 0 ([(am.mk 2 0 2 []), (am.mk 5 1 1 [])] : List am))] : List am)) [] x4).bind fun r10 =>
    (if r10 then (eg x4 0 3).bind fun l12 =>
    (kq (api_Topo.mk ([1, 2] : List Int) ([(A2.mk (api_Port.mk 1 2) (api_Port.mk 2 2))] : List (A2 api_Port)) ([(api_Port.mk 1 1), (api_Port.mk 2 1)] : List api_Port)) (am.mk 7 0 0 ([(am.mk 6 0 0 ([(am.mk 2 0 1 []), (am.mk 5 1 2 [])] : List am)), (am.mk 6 0 0 ([(am.mk 2 0 2 []), (am.mk 5 1 1 [])] : List am))] : List am)) [] l12).bind fun r13 =>
    some (!r13) else some false) else some false) else some false) else some false) else some false) else some false)).bind fun y14 =>
    some y14
def nt (a0 : api_Topo) (a1 : Int) (i1 : Int) : Unit → Option (Br Unit Int)
  | () =>
  (bC a0.Switches i1).bind fun x7 =>
    (if (x7 == a1) then some (Br.ret i1) else some (.next ()))
def eS (a0 : api_Topo) (a1 : Int) : Option Int :=
  (cl (nt a0 a1) (bS 0 (a0.Switches.length : Int)) ()).bind fun q9 => match q9 with
    | .ret r => some r
    | .done () =>
    some (-1)
def ku (a0 : api_Topo) (i2 : Int) : (List api_Port) → Option (List api_Port)
  | l1 =>
  (bC a0.Links i2).bind fun x8 =>
    (du l1 ([x8.a0, x8.a1] : List api_Port)).bind fun l9 =>
    some l9
def iL (a0 : api_Topo) : Option (List api_Port) :=
  (dw (ku a0) (bS 0 (a0.Links.length : Int)) ([] : List api_Port)).bind fun z10 =>
    (du z10 a0.Hosts).bind fun l11 =>
    some l11
def nu (a0 : api_Topo) (i4 : Int) : Unit → Option (Br Unit Int)
  | () =>
  (bC a0.Switches i4).bind fun x10 =>
    (eS a0 x10).bind fun r11 =>
    (if (r11 != i4) then some (Br.ret 12) else some (.next ()))
def nv (a0 : api_Topo) (r13 : (List api_Port)) (i14 : Int) : Unit → Option (Br Unit Int)
  | () =>
  (bC r13 i14).bind fun x20 =>
    (eS a0 x20.Sw).bind fun r21 =>
    (if decide (r21 < 0) then some (Br.ret 12) else some (.next ()))
def nw (r13 : (List api_Port)) (i23 : Int) (i29 : Int) : Unit → Option (Br Unit (Br Unit Int))
  | () =>
  (bC r13 i23).bind fun x35 =>
    (bC r13 i29).bind fun x36 =>
    (if (x35 == x36) then some (Br.ret (Br.ret 11)) else some (.next ()))
def ny (r13 : (List api_Port)) (i23 : Int) : Unit → Option (Br Unit Int)
  | () =>
  (cl (nw r13 i23) (bS 0 i23) ()).bind fun q38 => match q38 with
    | .ret r => some r
    | .done () =>
    some (.next ())
def iM (a0 : api_Topo) : Option Int :=
  (if ((decide ((a0.Switches.length : Int) > 12)) || ((decide ((a0.Links.length : Int) > 24)) || (decide ((a0.Hosts.length : Int) > 24)))) then some 2 else (cl (nu a0) (bS 0 (a0.Switches.length : Int)) ()).bind fun q41 => match q41 with
    | .ret r => some r
    | .done () =>
    (iL a0).bind fun r13 =>
    (cl (nv a0 r13) (bS 0 (r13.length : Int)) ()).bind fun q40 => match q40 with
    | .ret r => some r
    | .done () =>
    (cl (ny r13) (bS 0 (r13.length : Int)) ()).bind fun q39 => match q39 with
    | .ret r => some r
    | .done () =>
    some 0)
def nz (a0 : api_Topo) (a1 : api_Port) (i1 : Int) : Unit → Option (Br Unit Bool)
  | () =>
  (bC a0.Hosts i1).bind fun x7 =>
    (if (x7 == a1) then some (Br.ret true) else some (.next ()))
def iN (a0 : api_Topo) (a1 : api_Port) : Option Bool :=
  (cl (nz a0 a1) (bS 0 (a0.Hosts.length : Int)) ()).bind fun q9 => match q9 with
    | .ret r => some r
    | .done () =>
    some false
def kv (a0 : api_Topo) (a1 : api_Port) (i1 : Int) : Unit → Option (Br Unit (api_Port × Bool))
  | () =>
  (bC a0.Links i1).bind fun x7 =>
    (if (x7.a0 == a1) then some (Br.ret (x7.a1, true)) else (if (x7.a1 == a1) then some (Br.ret (x7.a0, true)) else some (.next ())))
def gZ (a0 : api_Topo) (a1 : api_Port) : Option (api_Port × Bool) :=
  (cl (kv a0 a1) (bS 0 (a0.Links.length : Int)) ()).bind fun q10 => match q10 with
    | .ret r => some r
    | .done () =>
    some ((api_Port.mk 0 0), false)
def law14_WalkEnds (a0 : api_Topo) (a1 : (A8 Int)) : Option Bool :=
  (kr).bind fun r1 =>
    (if (!r1) then some false else (iM a0).bind fun r3 =>
    (if (r3 != 0) then some true else (ft a0 a1).bind fun r5 =>
    (if (r5.2 == 0) then (ft a0 r5.1).bind fun r7 =>
    some ((r7.2 == 0) && (r7.1 == a1)) else (if (r5.2 == 1) then ((if (r5.1 == a1) then (iN a0 (api_Port.mk a1.a0 a1.a1)).bind fun r11 =>
    some r11 else some false)).bind fun y12 =>
    some y12 else (gZ a0 (api_Port.mk a1.a0 a1.a1)).bind fun r14 =>
    some ((r5.2 == 2) && ((r5.1 == a1) && (!r14.2)))))))
end Go.AM
