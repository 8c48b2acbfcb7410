import Derived.Test.YtnnkfanmokeiaaaAmOr
import Derived.Test.YtnnkfanmokeiaaaAmN4
set_option linter.unusedVariables false
namespace Go.AM
open Go
structure ai where
  Op : Int
  F : Int
  N : Int
  Kids : (List ai)
  deriving Inhabited
structure f8 where
  F : Int
  N : Int
  deriving DecidableEq, Inhabited
structure nk where
  When : (List f8)
  Guard : (List f8)
  Then : (List f8)
  deriving DecidableEq, Inhabited
structure fC where
  Init : (List Int)
  Pol : ai
  Rules : (List nk)
  deriving Inhabited
structure law05_Step where
  What : Int
  F : Int
  N : Int
  K : Int
  deriving DecidableEq, Inhabited
structure api_Port where
  Sw : Int
  Pt : Int
  deriving DecidableEq, Inhabited
structure api_Topo where
  Switches : (List Int)
  Links : (List (A2 api_Port))
  Hosts : (List api_Port)
  deriving DecidableEq, Inhabited
structure law14_Net where
  T : api_Topo
  L : (List law05_Step)
  State : (List Int)
  deriving DecidableEq, Inhabited
structure cz where
  t : api_Topo
  p : ai
  state : (List Int)
  found : (List (List (A8 Int)))
  deriving Inhabited
structure AA where
  From : Int
  To : Int
  Match : (List f8)
  Ban : Bool
  deriving DecidableEq, Inhabited
def nn (a0 : ai) (self : ai → Option Int) (i2 : Int) : Int → Option Int
  | i1 =>
  (bq a0.Kids i2).bind fun x8 =>
    (self x8).bind fun r9 =>
    some (IntKind.i64.wrap (i1 + r9))
def k8 (self : ai → Option Int) (a0 : ai) : Option Int :=
  (fy (nn a0 self) (bJ 0 (a0.Kids.length : Int)) 1).bind fun z10 =>
    some z10
def i8 : Nat → ai → Option Int
  | 0 => fun _ => none
  | k + 1 => k8 (i8 k)
def np (a0 : ai) : Option Int := i8 dH a0
def nt (a0 : ai) (self : ai → Option Int) (i2 : Int) : Int → Option Int
  | i1 =>
  (bq a0.Kids i2).bind fun x8 =>
    (self x8).bind fun r9 =>
    some (kM i1 r9)
def k9 (self : ai → Option Int) (a0 : ai) : Option Int :=
  (fy (nt a0 self) (bJ 0 (a0.Kids.length : Int)) 0).bind fun z10 =>
    some (IntKind.i64.wrap (z10 + 1))
def i9 : Nat → ai → Option Int
  | 0 => fun _ => none
  | k + 1 => k9 (i9 k)
def nu (a0 : ai) : Option Int := i9 dH a0
def qT (a0 : (List ai)) (a1 : (ai → Option Bool)) (i1 : Int) : Unit → Option (Br Unit Int)
  | () =>
  (bq a0 i1).bind fun x7 =>
    (a1 x7).bind fun x8 =>
    (if x8 then some (Br.ret i1) else some (.next ()))
def la (a0 : (List ai)) (a1 : ai → Option Bool) : Option Int :=
  (bT (qT a0 a1) (bJ 0 (a0.length : Int)) ()).bind fun q10 => match q10 with
    | .ret r => some r
    | .done () =>
    some (-1)
def iw (a0 : (List ai)) (a1 : ai → Option Bool) : Option Bool :=
  (la a0 a1).bind fun r1 =>
    some (decide (r1 ≥ 0))
def lb (self : ai → Option Bool) (a0 : ai) : Option Bool :=
  (self a0).bind fun r1 =>
    some (!r1)
def lf (self : ai → Option Bool) (a0 : ai) : Option Bool :=
  ((if (a0.Op == 0) then some (a0.Op == 0) else (if (a0.Op == 1) then some (a0.Op == 1) else (if (a0.Op == 2) then some (a0.Op == 2) else (if (a0.Op == 3) then some (a0.Op == 3) else some (a0.Op == 4)))))).bind fun y5 =>
    (if y5 then some true else ((if (a0.Op == 6) then some (a0.Op == 6) else some (a0.Op == 7))).bind fun y9 =>
    (if y9 then (iw a0.Kids (fun y0 => lb self y0)).bind fun r12 =>
    some (!r12) else some false))
def ja : Nat → ai → Option Bool
  | 0 => fun _ => none
  | k + 1 => lf (ja k)
def nv (a0 : ai) : Option Bool := ja dH a0
def lg (self : ai → Int → Option Bool) (a0 : ai) (a1 : Int) : Option Bool :=
  (self a0 a1).bind fun r1 =>
    some (!r1)
def lh (self : ai → Int → Option Bool) (a0 : ai) (a1 : Int) : Option Bool :=
  (((if (a0.Op == 0) then some (a0.Op == 0) else some (a0.Op == 1))).bind fun y3 =>
    (if y3 then some (Sum.inr (((a0.Kids.length : Int) == 0) && ((a0.F == 0) && (a0.N == 0)))) else (if (a0.Op == 4) then ((if ((a0.Kids.length : Int) == 1) then (if ((a0.F == 0) && (a0.N == 0)) then (bq a0.Kids 0).bind fun x10 =>
    (nv x10).bind fun r11 =>
    (if r11 then (self x10 a1).bind fun r13 =>
    some r13 else some false) else some false) else some false)).bind fun y14 =>
    some (Sum.inr y14) else ((if (a0.Op == 6) then some (a0.Op == 6) else some (a0.Op == 7))).bind fun y17 =>
    (if y17 then ((if decide ((a0.Kids.length : Int) ≥ 2) then (if ((a0.F == 0) && (a0.N == 0)) then (iw a0.Kids (fun y0 => lg self y0 a1)).bind fun r22 =>
    some (!r22) else some false) else some false)).bind fun y23 =>
    some (Sum.inr y23) else (if (a0.Op == 2) then some (.inl (0, 8)) else (if (a0.Op == 5) then some (.inl (1, 8)) else (if (a0.Op == 3) then some (.inl (0, a1)) else some (Sum.inr false)))))))).bind fun q30 => match q30 with
    | .inr r => some r
    | .inl (y28, y29) =>
    some (((a0.Kids.length : Int) == 0) && ((decide (a0.F ≥ y28)) && (decide (a0.F < y29))))
def jb : Nat → ai → Int → Option Bool
  | 0 => fun _ _ => none
  | k + 1 => lh (jb k)
def nw (a0 : ai) (a1 : Int) : Option Bool := jb dH a0 a1
def vt (a0 : (List f8)) (a1 : Int) (i1 : Int) : Unit → Option (Br Unit Bool)
  | () =>
  (bq a0 i1).bind fun x7 =>
    ((if decide (x7.F < 0) then some true else (if decide (x7.F ≥ a1) then some true else (if decide (i1 > 0) then (bq a0 (IntKind.i64.wrap (i1 - 1))).bind fun x11 =>
    some (decide (x11.F ≥ x7.F)) else some false)))).bind fun y12 =>
    (if y12 then some (Br.ret false) else some (.next ()))
def lj (a0 : (List f8)) (a1 : Int) : Option Bool :=
  (bT (vt a0 a1) (bJ 0 (a0.length : Int)) ()).bind fun q15 => match q15 with
    | .ret r => some r
    | .done () =>
    some true
def vv (a0 : fC) (i12 : Int) : Unit → Option (Br Unit Int)
  | () =>
  (bq a0.Rules i12).bind fun x18 =>
    ((if decide ((x18.When.length : Int) ≥ 2) then (bq x18.When 0).bind fun x20 =>
    (if (x20.F == 0) then (bq x18.When 1).bind fun x22 =>
    some (x22.F == 1) else some false) else some false)).bind fun y23 =>
    ((if (!y23) then some true else (lj x18.When 8).bind fun r26 =>
    (if (!r26) then some true else (lj x18.Guard (a0.Init.length : Int)).bind fun r28 =>
    (if (!r28) then some true else (lj x18.Then (a0.Init.length : Int)).bind fun r30 =>
    (if (!r30) then some true else some ((x18.Then.length : Int) == 0)))))).bind fun y32 =>
    (if y32 then some (Br.ret 11) else some (.next ()))
def gY (a0 : fC) : Option Int :=
  ((if decide ((a0.Init.length : Int) < 1) then some true else (if decide ((a0.Init.length : Int) > 4) then some true else (np a0.Pol).bind fun r3 =>
    (if decide (r3 > 300) then some true else (nu a0.Pol).bind fun r5 =>
    (if decide (r5 > 20) then some true else some (decide ((a0.Rules.length : Int) > 24))))))).bind fun y7 =>
    (if y7 then some 2 else (nw a0.Pol (a0.Init.length : Int)).bind fun r10 =>
    (if (!r10) then some 11 else (bT (vv a0) (bJ 0 (a0.Rules.length : Int)) ()).bind fun q35 => match q35 with
    | .ret r => some r
    | .done () =>
    some 0))
def gZ (a0 : Bool) (a1 : (A8 Int)) : Option (List (A8 Int)) :=
  (if (!a0) then some ([] : List (A8 Int)) else some ([a1] : List (A8 Int)))
def lk (a0 : (List Int)) (a1 : ai) : Option Bool :=
  ((if decide (a1.F ≥ 0) then (if decide (a1.F < (a0.length : Int)) then (bq a0 a1.F).bind fun x3 =>
    some (x3 == a1.N) else some false) else some false)).bind fun y4 =>
    some y4
def ny (a0 : Int) : Option Bool :=
  some ((decide (a0 ≥ 0)) && (decide (a0 < 8)))
def lm (a0 : (A8 Int)) (a1 : Int) (a2 : Int) : Option (A8 Int) :=
  ((ny a1).bind fun r1 =>
    (if r1 then (a0.get a1).bind fun x3 =>
    (a0.put a1 a2).bind fun x4 =>
    some x4 else some a0)).bind fun y5 =>
    some y5
def f9 (a0 : List (A8 Int)) : Option (List (A8 Int)) :=
  (cx ([] : List (A8 Int)) a0).bind fun l1 => some l1
def nz (a0 : Int) : Option Bool :=
  some (a0 != a0)
def qU (a0 : Int) (a1 : Int) : Option Int :=
  (nz a0).bind fun r1 =>
    (nz a1).bind fun r2 =>
    (if r1 then (if r2 then some 0 else some (-1)) else (if r2 then some 1 else (if decide (a0 < a1) then some (-1) else (if decide (a0 > a1) then some 1 else some 0))))
def vy (a0 : (A8 Int)) (a1 : (A8 Int)) (i1 : Int) : Unit → Option (Br Unit Int)
  | () =>
  (a0.get i1).bind fun x7 =>
    (a1.get i1).bind fun x8 =>
    (qU x7 x8).bind fun r9 =>
    (if (r9 != 0) then some (Br.ret r9) else some (.next ()))
def nA (a0 : (A8 Int)) (a1 : (A8 Int)) : Option Int :=
  (bT (vy a0 a1) (bJ 0 8) ()).bind fun q11 => match q11 with
    | .ret r => some r
    | .done () =>
    some 0
def iy (a0 : List (A8 Int)) (a1 : (A8 Int) → (A8 Int) → Option Int) : Option (List (A8 Int)) :=
  if a0.length < 4611686018427387904 then some (du a0) else none
def lr (a0 : (List (A8 Int))) (i2 : Int) (i14 : Int) : ((List (A8 Int)) × Int) → Option ((List (A8 Int)) × Int)
  | (l12, i13) =>
  ((gH l12 i2 (a0.length : Int) i14).bind fun x20 =>
    (bq l12 (i2 + i14)).bind fun x21 =>
    (gH l12 i2 (a0.length : Int) (IntKind.i64.wrap (i14 - 1))).bind fun x22 =>
    (bq l12 (i2 + (IntKind.i64.wrap (i14 - 1)))).bind fun x23 =>
    (if (!(x21 == x23)) then (bq l12 i13).bind fun x25 =>
    (dz l12 i13 x21).bind fun l26 =>
    some (l26, IntKind.i64.wrap (i13 + 1)) else some (l12, i13))).bind fun (l27, y28) =>
    some (l27, y28)
def j1 (a0 : (List (A8 Int))) (i2 : Int) : Unit → Option (Br Unit (List (A8 Int)))
  | () =>
  (bq a0 i2).bind fun x8 =>
    (bq a0 (IntKind.i64.wrap (i2 - 1))).bind fun x9 =>
    (if (x8 == x9) then (cJ a0 i2 (a0.length : Int)).bind fun l11 =>
    (fy (lr a0 i2) (bJ 1 (l11.length : Int)) (a0, i2)).bind fun (z30, z31) =>
    (cJ z30 z31 (z30.length : Int)).bind fun l32 =>
    some (Br.ret (z30.take z31.toNat)) else some (.next ()))
def j3 (a0 : (List (A8 Int))) : Option (List (A8 Int)) :=
  (if decide ((a0.length : Int) < 2) then some a0 else (bT (j1 a0) (bJ 1 (a0.length : Int)) ()).bind fun q34 => match q34 with
    | .ret r => some r
    | .done () =>
    some a0)
def ls (a0 : (List (A8 Int))) : Option (List (A8 Int)) :=
  (f9 a0).bind fun r1 =>
    (iy r1 (fun y0 y1 => nA y0 y1)).bind fun r2 =>
    (j3 r2).bind fun r3 =>
    some r3
def iz (a0 : (List (A8 Int))) : Option (Option (List (A8 Int))) :=
  (ls a0).bind fun r1 =>
    (if decide ((r1.length : Int) > 64) then some none else some (some r1))
def nB (a0 : ai) (a1 : (List Int)) (a2 : (A8 Int)) (self : ai → (List Int) → (A8 Int) → Option (Option (List (A8 Int)))) (i18 : Int) : (List (A8 Int)) → Option (Br (List (A8 Int)) (Option (List (A8 Int))))
  | l17 =>
  (bq a0.Kids i18).bind fun x24 =>
    f5 (self x24 a1 a2) (some (Br.ret none)) fun r25 =>
    (cx l17 r25).bind fun l26 =>
    f5 (iz l26) (some (Br.ret none)) fun r27 =>
    some (.next r27)
def lu (a1 : (List Int)) (y32 : (List (A8 Int))) (x39 : ai) (self : ai → (List Int) → (A8 Int) → Option (Option (List (A8 Int)))) (i41 : Int) : (List (A8 Int)) → Option (Br (List (A8 Int)) (Br (List (A8 Int)) (Option (List (A8 Int)))))
  | l40 =>
  (bq y32 i41).bind fun x47 =>
    f5 (self x39 a1 x47) (some (Br.ret (Br.ret none))) fun r48 =>
    (cx l40 r48).bind fun l49 =>
    some (.next l49)
def nC (a0 : ai) (a1 : (List Int)) (self : ai → (List Int) → (A8 Int) → Option (Option (List (A8 Int)))) (i33 : Int) : (List (A8 Int)) → Option (Br (List (A8 Int)) (Option (List (A8 Int))))
  | y32 =>
  (bq a0.Kids i33).bind fun x39 =>
    (bT (lu a1 y32 x39 self) (bJ 0 (y32.length : Int)) ([] : List (A8 Int))).bind fun q52 => match q52 with
    | .ret r => some r
    | .done z50 =>
    f5 (iz z50) (some (Br.ret none)) fun r51 =>
    some (.next r51)
def lw (self : ai → (List Int) → (A8 Int) → Option (Option (List (A8 Int)))) (a0 : ai) (a1 : (List Int)) (a2 : (A8 Int)) : Option (Option (List (A8 Int))) :=
  (if (a0.Op == 1) then (gZ true a2).bind fun r2 =>
    some (some r2) else (if (a0.Op == 2) then (a2.get a0.F).bind fun x4 =>
    (gZ (x4 == a0.N) a2).bind fun r5 =>
    some (some r5) else (if (a0.Op == 3) then (lk a1 a0).bind fun r7 =>
    (gZ r7 a2).bind fun r8 =>
    some (some r8) else (if (a0.Op == 4) then (bq a0.Kids 0).bind fun x10 =>
    f5 (self x10 a1 a2) none fun r11 =>
    (gZ ((r11.length : Int) == 0) a2).bind fun r12 =>
    some (some r12) else (if (a0.Op == 5) then (lm a2 a0.F a0.N).bind fun r14 =>
    (gZ true r14).bind fun r15 =>
    some (some r15) else (if (a0.Op == 7) then (bT (nB a0 a1 a2 self) (bJ 0 (a0.Kids.length : Int)) ([] : List (A8 Int))).bind fun q29 => match q29 with
    | .ret r => some r
    | .done z28 =>
    some (some z28) else (if (a0.Op == 6) then (gZ true a2).bind fun r31 =>
    (bT (nC a0 a1 self) (bJ 0 (a0.Kids.length : Int)) r31).bind fun q54 => match q54 with
    | .ret r => some r
    | .done z53 =>
    some (some z53) else some (some ([] : List (A8 Int))))))))))
def fN : Nat → ai → (List Int) → (A8 Int) → Option (Option (List (A8 Int)))
  | 0 => fun _ _ _ => none
  | k + 1 => lw (fN k)
def lz (a0 : ai) (a1 : (List Int)) (a2 : (A8 Int)) : Option (Option (List (A8 Int))) := fN dH a0 a1 a2
def j4 (a0 : ai) (a1 : (List Int)) (a2 : (A8 Int)) : Option ((List (A8 Int)) × Int) :=
  (gY (fC.mk [0, 0, 0, 0] a0 [])).bind fun r2 =>
    (if (r2 != 0) then some (([] : List (A8 Int)), 11) else f5 (lz a0 a1 a2) (some (([] : List (A8 Int)), 24)) fun r4 =>
    some (r4, 0))
def nD (a0 : (List law05_Step)) (i3 : Int) : (List ai) → Option (List ai)
  | l2 =>
  ((bq a0 i3).bind fun x9 =>
    (if ((x9.What == 0) || (x9.What == 1)) then (cx l2 ([(ai.mk x9.What 0 0 [])] : List ai)).bind fun l12 =>
    some l12 else (if ((x9.What == 2) || ((x9.What == 3) || (x9.What == 5))) then (cx l2 ([(ai.mk x9.What x9.F x9.N [])] : List ai)).bind fun l16 =>
    some l16 else (if ((x9.What == 4) && (decide ((l2.length : Int) > 0))) then (bq l2 (IntKind.i64.wrap ((l2.length : Int) - 1))).bind fun x19 =>
    (dz l2 (IntKind.i64.wrap ((l2.length : Int) - 1)) (ai.mk 4 0 0 ([x19] : List ai))).bind fun l20 =>
    some l20 else (if ((x9.What == 6) || (x9.What == 7)) then (cJ l2 (IntKind.i64.wrap ((l2.length : Int) - (fK (IntKind.i64.wrap x9.K) (l2.length : Int)))) (l2.length : Int)).bind fun l23 =>
    (cx ([] : List ai) l23).bind fun l24 =>
    (cJ l2 0 (IntKind.i64.wrap ((l2.length : Int) - (fK (IntKind.i64.wrap x9.K) (l2.length : Int))))).bind fun l25 =>
    (cx l25 ([(ai.mk x9.What 0 0 l24)] : List ai)).bind fun l26 =>
    some l26 else some l2))))).bind fun l27 =>
    some l27
def lA (a0 : (List law05_Step)) : Option (ai × Bool) :=
  (if decide ((a0.length : Int) > 60) then some ((ai.mk 0 0 0 []), false) else (fy (nD a0) (bJ 0 (a0.length : Int)) ([] : List ai)).bind fun z29 =>
    (if ((z29.length : Int) == 0) then some ((ai.mk 0 0 0 []), false) else (bq z29 (IntKind.i64.wrap ((z29.length : Int) - 1))).bind fun x31 =>
    some (x31, true)))
def nE (a0 : (A8 Int)) (a1 : (A8 Int)) (i1 : Int) : Unit → Option (Br Unit Int)
  | () =>
  (a0.get i1).bind fun x7 =>
    (a1.get i1).bind fun x8 =>
    (if decide (x7 < x8) then some (Br.ret (-1)) else (if decide (x7 > x8) then some (Br.ret 1) else some (.next ())))
def lB (a0 : (A8 Int)) (a1 : (A8 Int)) : Option Int :=
  (bT (nE a0 a1) (bJ 0 8) ()).bind fun q11 => match q11 with
    | .ret r => some r
    | .done () =>
    some 0
def iA (a0 : ai) (a1 : (List Int)) (a2 : (A8 Int)) : Option ((List (A8 Int)) × Int) :=
  (j4 a0 a1 a2).bind fun r1 =>
    some (r1.1, r1.2)
def j5 (a0 : cz) (a1 : (List (A8 Int))) : Option (Int × cz) :=
  (if ((a0.found.length : Int) == 200) then some (24, a0) else (cx a0.found ([a1] : List (List (A8 Int)))).bind fun l2 =>
    some (0, (cz.mk a0.t a0.p a0.state l2)))
def nF (a0 : (A8 Int)) : Option api_Port :=
  some (api_Port.mk a0.a0 a0.a1)
def qV (a0 : api_Topo) (a1 : api_Port) (i1 : Int) : Unit → Option (Br Unit (api_Port × Bool))
  | () =>
  (bq a0.Links i1).bind fun x7 =>
    (if (a1 == x7.a0) then some (Br.ret (x7.a1, true)) else (if (a1 == x7.a1) then some (Br.ret (x7.a0, true)) else some (.next ())))
def lC (a0 : api_Topo) (a1 : api_Port) : Option (api_Port × Bool) :=
  (bT (qV a0 a1) (bJ 0 (a0.Links.length : Int)) ()).bind fun q10 => match q10 with
    | .ret r => some r
    | .done () =>
    some ((api_Port.mk 0 0), false)
def nG (a0 : (A8 Int)) (a1 : api_Port) : Option (A8 Int) :=
  some (A8.mk a1.Sw a1.Pt a0.a2 a0.a3 a0.a4 a0.a5 a0.a6 a0.a7)
def qW (a0 : (List api_Port)) (a1 : api_Port) (i1 : Int) : Unit → Option (Br Unit Int)
  | () =>
  (bq a0 i1).bind fun x7 =>
    (if (a1 == x7) then some (Br.ret i1) else some (.next ()))
def nH (a0 : (List api_Port)) (a1 : api_Port) : Option Int :=
  (bT (qW a0 a1) (bJ 0 (a0.length : Int)) ()).bind fun q9 => match q9 with
    | .ret r => some r
    | .done () =>
    some (-1)
def nI (a0 : (List api_Port)) (a1 : api_Port) : Option Bool :=
  (nH a0 a1).bind fun r1 =>
    some (decide (r1 ≥ 0))
def lD (a0 : api_Topo) (a1 : api_Port) : Option Bool :=
  (nI a0.Hosts a1).bind fun r1 =>
    some r1
def jc (a0 : api_Topo) (a1 : (A8 Int)) : Option ((A8 Int) × Int) :=
  (nF a1).bind fun r1 =>
    (lC a0 r1).bind fun r2 =>
    (if r2.2 then (nG a1 r2.1).bind fun r4 =>
    some (r4, 0) else (lD a0 r1).bind fun r5 =>
    (if r5 then some (a1, 1) else some (a1, 2)))
def nJ (l2 : (List (A8 Int))) (r3 : ((List (A8 Int)) × Int)) (self : cz → (List (A8 Int)) → (A8 Int) → Option (Int × cz)) (i16 : Int) : ((List Int) × (List (A2 api_Port)) × (List api_Port) × Int × Int × Int × (List ai) × (List Int) × (List (List (A8 Int)))) → Option (Br ((List Int) × (List (A2 api_Port)) × (List api_Port) × Int × Int × Int × (List ai) × (List Int) × (List (List (A8 Int)))) (Int × cz))
  | (y7, y8, y9, i10, i11, i12, y13, y14, l15) =>
  (bq r3.1 i16).bind fun x22 =>
    (jc (api_Topo.mk y7 y8 y9) x22).bind fun r23 =>
    ((if ((r23.2 == 0) && (decide ((l2.length : Int) < 23))) then (f9 l2).bind fun r26 =>
    (cx r26 ([x22] : List (A8 Int))).bind fun l27 =>
    (self (cz.mk (api_Topo.mk y7 y8 y9) (ai.mk i10 i11 i12 y13) y14 l15) l27 r23.1).bind fun r28 =>
    some (r28.2.t.Switches, r28.2.t.Links, r28.2.t.Hosts, r28.2.p.Op, r28.2.p.F, r28.2.p.N, r28.2.p.Kids, r28.2.state, r28.2.found, r28.1) else (f9 l2).bind fun r29 =>
    (cx r29 ([x22] : List (A8 Int))).bind fun l30 =>
    (j5 (cz.mk (api_Topo.mk y7 y8 y9) (ai.mk i10 i11 i12 y13) y14 l15) l30).bind fun r31 =>
    some (r31.2.t.Switches, r31.2.t.Links, r31.2.t.Hosts, r31.2.p.Op, r31.2.p.F, r31.2.p.N, r31.2.p.Kids, r31.2.state, r31.2.found, r31.1))).bind fun (y32, y33, y34, y35, y36, y37, y38, y39, l40, y41) =>
    (if (y41 != 0) then some (Br.ret (y41, (cz.mk (api_Topo.mk y32 y33 y34) (ai.mk y35 y36 y37 y38) y39 l40))) else some (.next (y32, y33, y34, y35, y36, y37, y38, y39, l40)))
def lE (self : cz → (List (A8 Int)) → (A8 Int) → Option (Int × cz)) (a0 : cz) (a1 : (List (A8 Int))) (a2 : (A8 Int)) : Option (Int × cz) :=
  (f9 a1).bind fun r1 =>
    (cx r1 ([a2] : List (A8 Int))).bind fun l2 =>
    (iA a0.p a0.state a2).bind fun r3 =>
    (if (r3.2 != 0) then some (r3.2, a0) else (if ((r3.1.length : Int) == 0) then (j5 a0 l2).bind fun r6 =>
    some (r6.1, r6.2) else (bT (nJ l2 r3 self) (bJ 0 (r3.1.length : Int)) (a0.t.Switches, a0.t.Links, a0.t.Hosts, a0.p.Op, a0.p.F, a0.p.N, a0.p.Kids, a0.state, a0.found)).bind fun q53 => match q53 with
    | .ret r => some r
    | .done (z44, z45, z46, z47, z48, z49, z50, z51, z52) =>
    some (0, (cz.mk (api_Topo.mk z44 z45 z46) (ai.mk z47 z48 z49 z50) z51 z52))))
def jd : Nat → cz → (List (A8 Int)) → (A8 Int) → Option (Int × cz)
  | 0 => fun _ _ _ => none
  | k + 1 => lE (jd k)
def nK (a0 : cz) (a1 : (List (A8 Int))) (a2 : (A8 Int)) : Option (Int × cz) := jd dH a0 a1 a2
def lF (a0 : api_Topo) (a1 : ai) (a2 : (List Int)) (a3 : (A8 Int)) : Option ((List (List (A8 Int))) × Int) :=
  (nK (cz.mk a0 a1 a2 ([] : List (List (A8 Int)))) [] a3).bind fun r1 =>
    (if (r1.1 != 0) then some (([] : List (List (A8 Int))), r1.1) else some (r1.2.found, 0))
def nL (a0 : (List (A8 Int))) (a1 : (A8 Int)) (i1 : Int) : Unit → Option (Br Unit Int)
  | () =>
  (bq a0 i1).bind fun x7 =>
    (if (a1 == x7) then some (Br.ret i1) else some (.next ()))
def nM (a0 : (List (A8 Int))) (a1 : (A8 Int)) : Option Int :=
  (bT (nL a0 a1) (bJ 0 (a0.length : Int)) ()).bind fun q9 => match q9 with
    | .ret r => some r
    | .done () =>
    some (-1)
def lG (a0 : (List (A8 Int))) (a1 : (A8 Int)) : Option Bool :=
  (nM a0 a1).bind fun r1 =>
    some (decide (r1 ≥ 0))
def lH (a0 : api_Topo) (a1 : ai) (a2 : (List Int)) (a3 : (List (A8 Int))) (i1 : Int) : Unit → Option (Br Unit Bool)
  | () =>
  (((if ((i1.tmod 2) == 0) then (bq a3 (IntKind.i64.wrap (i1 - 1))).bind fun x8 =>
    (jc a0 x8).bind fun r9 =>
    ((if (r9.2 != 0) then some true else (bq a3 i1).bind fun x11 =>
    some (!(r9.1 == x11)))).bind fun y12 =>
    (if y12 then some (Sum.inr (Br.ret false)) else some (.inl ())) else (bq a3 (IntKind.i64.wrap (i1 - 1))).bind fun x15 =>
    (iA a1 a2 x15).bind fun r16 =>
    (bq a3 i1).bind fun x17 =>
    (lG r16.1 x17).bind fun r18 =>
    (if (!r18) then some (Sum.inr (Br.ret false)) else some (.inl ()))) : Option (Unit ⊕ (Br Unit Bool)))).bind fun q20 => match q20 with
    | .inr r => some r
    | .inl () =>
    some (.next ())
def je (a0 : api_Topo) (a1 : ai) (a2 : (List Int)) (a3 : (List (A8 Int))) : Option Bool :=
  (bT (lH a0 a1 a2 a3) (bJ 1 (a3.length : Int)) ()).bind fun q22 => match q22 with
    | .ret r => some r
    | .done () =>
    some ((decide ((a3.length : Int) > 0)) && (decide ((a3.length : Int) ≤ 24)))
def jf (a0 : api_Topo) (a1 : ai) (a2 : (List Int)) (a3 : (List (A8 Int))) : Option Bool :=
  (je a0 a1 a2 a3).bind fun r1 =>
    (if (!r1) then some false else (bq a3 (IntKind.i64.wrap ((a3.length : Int) - 1))).bind fun x3 =>
    (if (((a3.length : Int).tmod 2) == 1) then (iA a1 a2 x3).bind fun r5 =>
    some ((r5.2 == 0) && ((r5.1.length : Int) == 0)) else (jc a0 x3).bind fun r7 =>
    some ((r7.2 != 0) || ((a3.length : Int) == 24))))
def nN  : Option Bool :=
  (lF (api_Topo.mk ([1, 2] : List Int) ([(A2.mk (api_Port.mk 1 2) (api_Port.mk 2 2))] : List (A2 api_Port)) ([(api_Port.mk 1 1), (api_Port.mk 2 1)] : List api_Port)) (ai.mk 7 0 0 ([(ai.mk 6 0 0 ([(ai.mk 2 0 1 []), (ai.mk 5 1 2 [])] : List ai)), (ai.mk 6 0 0 ([(ai.mk 2 0 2 []), (ai.mk 5 1 1 [])] : List ai))] : List ai)) [] (A8.mk 1 1 0 0 0 0 0 0)).bind fun r1 =>
    ((if (r1.2 == 0) then (if ((r1.1.length : Int) == 1) then (bq r1.1 0).bind fun x4 =>
    (if ((x4.length : Int) == 4) then (bq x4 3).bind fun x6 =>
    (if (x6 == (A8.mk 2 1 0 0 0 0 0 0)) then (je (api_Topo.mk ([1, 2] : List Int) ([(A2.mk (api_Port.mk 1 2) (api_Port.mk 2 2))] : List (A2 api_Port)) ([(api_Port.mk 1 1), (api_Port.mk 2 1)] : List api_Port)) (ai.mk 7 0 0 ([(ai.mk 6 0 0 ([(ai.mk 2 0 1 []), (ai.mk 5 1 2 [])] : List ai)), (ai.mk 6 0 0 ([(ai.mk 2 0 2 []), (ai.mk 5 1 1 [])] : List ai))] : List ai)) [] x4).bind fun r8 =>
    (if r8 then (jf (api_Topo.mk ([1, 2] : List Int) ([(A2.mk (api_Port.mk 1 2) (api_Port.mk 2 2))] : List (A2 api_Port)) ([(api_Port.mk 1 1), (api_Port.mk 2 1)] : List api_Port)) (ai.mk 7 0 0 ([(ai.mk 6 0 0 ([(ai.mk 2 0 1 []), (ai.mk 5 1 2 [])] : List ai)), (ai.mk 6 0 0 ([(ai.mk 2 0 2 []), (ai.mk 5 1 1 [])] : List ai))] : List ai)) [] x4).bind fun r10 =>
    (if r10 then (cJ x4 0 3).bind fun l12 =>
    (jf (api_Topo.mk ([1, 2] : List Int) ([(A2.mk (api_Port.mk 1 2) (api_Port.mk 2 2))] : List (A2 api_Port)) ([(api_Port.mk 1 1), (api_Port.mk 2 1)] : List api_Port)) (ai.mk 7 0 0 ([(ai.mk 6 0 0 ([(ai.mk 2 0 1 []), (ai.mk 5 1 2 [])] : List ai)), (ai.mk 6 0 0 ([(ai.mk 2 0 2 []), (ai.mk 5 1 1 [])] : List ai))] : List ai)) [] l12).bind fun r13 =>
    some (!r13) else some false) else some false) else some false) else some false) else some false) else some false)).bind fun y14 =>
    some y14
def qY (a0 : api_Topo) (a1 : Int) (i1 : Int) : Unit → Option (Br Unit Int)
  | () =>
  (bq a0.Switches i1).bind fun x7 =>
    (if (x7 == a1) then some (Br.ret i1) else some (.next ()))
def gf (a0 : api_Topo) (a1 : Int) : Option Int :=
  (bT (qY a0 a1) (bJ 0 (a0.Switches.length : Int)) ()).bind fun q9 => match q9 with
    | .ret r => some r
    | .done () =>
    some (-1)
def nO (a0 : api_Topo) (i2 : Int) : (List api_Port) → Option (List api_Port)
  | l1 =>
  (bq a0.Links i2).bind fun x8 =>
    (cx l1 ([x8.a0, x8.a1] : List api_Port)).bind fun l9 =>
    some l9
def lI (a0 : api_Topo) : Option (List api_Port) :=
  (fy (nO a0) (bJ 0 (a0.Links.length : Int)) ([] : List api_Port)).bind fun z10 =>
    (cx z10 a0.Hosts).bind fun l11 =>
    some l11
def qZ (a0 : api_Topo) (i4 : Int) : Unit → Option (Br Unit Int)
  | () =>
  (bq a0.Switches i4).bind fun x10 =>
    (gf a0 x10).bind fun r11 =>
    (if (r11 != i4) then some (Br.ret 12) else some (.next ()))
def q8 (a0 : api_Topo) (r13 : (List api_Port)) (i14 : Int) : Unit → Option (Br Unit Int)
  | () =>
  (bq r13 i14).bind fun x20 =>
    (gf a0 x20.Sw).bind fun r21 =>
    (if decide (r21 < 0) then some (Br.ret 12) else some (.next ()))
def ra (r13 : (List api_Port)) (i23 : Int) (i29 : Int) : Unit → Option (Br Unit (Br Unit Int))
  | () =>
  (bq r13 i23).bind fun x35 =>
    (bq r13 i29).bind fun x36 =>
    (if (x35 == x36) then some (Br.ret (Br.ret 11)) else some (.next ()))
def rb (r13 : (List api_Port)) (i23 : Int) : Unit → Option (Br Unit Int)
  | () =>
  (bT (ra r13 i23) (bJ 0 i23) ()).bind fun q38 => match q38 with
    | .ret r => some r
    | .done () =>
    some (.next ())
def lJ (a0 : api_Topo) : Option Int :=
  (if ((decide ((a0.Switches.length : Int) > 12)) || ((decide ((a0.Links.length : Int) > 24)) || (decide ((a0.Hosts.length : Int) > 24)))) then some 2 else (bT (qZ a0) (bJ 0 (a0.Switches.length : Int)) ()).bind fun q41 => match q41 with
    | .ret r => some r
    | .done () =>
    (lI a0).bind fun r13 =>
    (bT (q8 a0 r13) (bJ 0 (r13.length : Int)) ()).bind fun q40 => match q40 with
    | .ret r => some r
    | .done () =>
    (bT (rb r13) (bJ 0 (r13.length : Int)) ()).bind fun q39 => match q39 with
    | .ret r => some r
    | .done () =>
    some 0)
def lK (a0 : law14_Net) : Option (ai × Bool) :=
  (lA a0.L).bind fun r1 =>
    ((if r1.2 then (if decide ((a0.T.Switches.length : Int) ≤ 30) then (if decide ((a0.T.Links.length : Int) ≤ 30) then (if decide ((a0.T.Hosts.length : Int) ≤ 30) then (if decide ((a0.State.length : Int) ≤ 6) then (lJ a0.T).bind fun r7 =>
    some (r7 == 0) else some false) else some false) else some false) else some false) else some false)).bind fun y8 =>
    some (r1.1, y8)
def lL (a0 : (List (A8 Int))) (a1 : (List (A8 Int))) : Int → Option (Br Int Bool)
  | i1 =>
  (if ((decide (i1 < (a0.length : Int))) && (decide (i1 < (a1.length : Int)))) then (bq a0 i1).bind fun x5 =>
    (bq a1 i1).bind fun x6 =>
    (lB x5 x6).bind fun r7 =>
    (if (r7 != 0) then some (Br.ret (decide (r7 < 0))) else some (.next (IntKind.i64.wrap (i1 + 1)))) else some (.brk i1))
def j6 (a0 : (List (A8 Int))) (a1 : (List (A8 Int))) : Option Bool :=
  (iW (lL a0 a1) dH 0).bind fun q10 => match q10 with
    | .ret r => some r
    | .done z9 =>
    some false
def nP (a0 : law14_Net) (r3 : (ai × Bool)) (x16 : (List (A8 Int))) (i28 : Int) : Unit → Option (Br Unit ((List ((A8 Int) × Bool)) ⊕ (Br (List ((A8 Int) × Bool)) Bool)))
  | () =>
  (cJ x16 0 (i28 + 1)).bind fun l34 =>
    (je a0.T r3.1 a0.State l34).bind fun r35 =>
    (if (!r35) then some (Br.ret (Sum.inr (Br.ret false))) else some (.next ()))
def nQ (a0 : law14_Net) (a1 : (A8 Int)) (r3 : (ai × Bool)) (r5 : ((List (List (A8 Int))) × Int)) (i10 : Int) : (List ((A8 Int) × Bool)) → Option (Br (List ((A8 Int) × Bool)) Bool)
  | m9 =>
  (((bq r5.1 i10).bind fun x16 =>
    ((if ((x16.length : Int) == 0) then some true else (bq x16 0).bind fun x18 =>
    (if (!(x18 == a1)) then some true else (jf a0.T r3.1 a0.State x16).bind fun r20 =>
    (if (!r20) then some true else (if decide (i10 > 0) then (bq r5.1 (IntKind.i64.wrap (i10 - 1))).bind fun x23 =>
    (j6 x23 x16).bind fun r24 =>
    some (!r24) else some false))))).bind fun y25 =>
    (if y25 then some (Sum.inr (Br.ret false)) else (bT (nP a0 r3 x16) (bJ 0 (x16.length : Int)) ()).bind fun q39 => match q39 with
    | .ret r => some r
    | .done () =>
    (if decide ((x16.length : Int) > 1) then (bq x16 1).bind fun x38 =>
    some (.inl (eO m9 x38 true)) else some (.inl m9))) : Option ((List ((A8 Int) × Bool)) ⊕ (Br (List ((A8 Int) × Bool)) Bool)))).bind fun q41 => match q41 with
    | .inr r => some r
    | .inl m40 =>
    some (.next m40)
def law14_WalkTold (a0 : law14_Net) (a1 : (A8 Int)) : Option Bool :=
  (nN).bind fun r1 =>
    (if (!r1) then some false else (lK a0).bind fun r3 =>
    (if (!r3.2) then some true else (lF a0.T r3.1 a0.State a1).bind fun r5 =>
    (if (r5.2 != 0) then some ((r5.1.length : Int) == 0) else (if (((r5.1.length : Int) == 0) || (decide ((r5.1.length : Int) > 200))) then some false else (bT (nQ a0 a1 r3 r5) (bJ 0 (r5.1.length : Int)) ([] : List ((A8 Int) × Bool))).bind fun q45 => match q45 with
    | .ret r => some r
    | .done z42 =>
    (iA r3.1 a0.State a1).bind fun r43 =>
    (jT z42).bind fun n44 =>
    some (n44 == (r43.1.length : Int))))))
end Go.AM
