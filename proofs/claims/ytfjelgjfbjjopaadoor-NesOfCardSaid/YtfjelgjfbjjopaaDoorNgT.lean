import Derived.Test.YtfjelgjfbjjopaaDoorAmPre
set_option linter.unusedVariables false
namespace Go.AM
open Go
def jd : List Int := [0, 1, 56, 2, 57, 49, 28, 3, 61, 58, 42, 50, 38, 29, 17, 4, 62, 47, 59, 36, 45, 43, 51, 22, 53, 39, 33, 30, 24, 18, 12, 5, 63, 55, 48, 27, 60, 41, 37, 16, 46, 35, 44, 21, 52, 32, 23, 11, 54, 26, 40, 15, 34, 20, 31, 10, 25, 14, 19, 9, 13, 8, 7, 6]
structure cm where
  F : Int
  N : Int
  deriving DecidableEq, Inhabited
structure aO where
  From : Int
  Rule : Int
  To : Int
  deriving DecidableEq, Inhabited
structure bx where
  Op : Int
  F : Int
  N : Int
  Kids : (List bx)
  deriving Inhabited
structure cH where
  When : (List cm)
  Guard : (List cm)
  Then : (List cm)
  deriving DecidableEq, Inhabited
structure bO where
  Init : (List Int)
  Pol : bx
  Rules : (List cH)
  deriving Inhabited
structure bu where
  Rule : Int
  Count : Int
  deriving DecidableEq, Inhabited
structure aU where
  Events : (List bu)
  Sets : (List Int)
  States : (List (List Int))
  deriving DecidableEq, Inhabited
structure bC where
  States : (List (List Int))
  Edges : (List aO)
  deriving DecidableEq, Inhabited
structure cN where
  n_ : aU
  at_ : (List Int)
  events : (List (bu × Int))
  sets : (List (Int × Int))
  deriving DecidableEq, Inhabited
structure je where
  s : bC
  at_ : (List (ByteArray × Int))
  deriving DecidableEq, Inhabited
def mH (a0 : Int) (a1 : Int) (a2 : Int) (a3 : Int) : Option cH :=
  some (cH.mk ([(cm.mk 0 a0), (cm.mk 1 1)] : List cm) ([(cm.mk a1 a2)] : List cm) ([(cm.mk a1 a3)] : List cm))
def Ac (a0 : bx) (self : bx → Option Int) (i2 : Int) : Int → Option Int
  | i1 =>
  (bo a0.Kids i2).bind fun x8 =>
    (self x8).bind fun r9 =>
    some (IntKind.i64.wrap (i1 + r9))
def uJ (self : bx → Option Int) (a0 : bx) : Option Int :=
  (da (Ac a0 self) (bF 0 (a0.Kids.length : Int)) 1).bind fun z10 =>
    some z10
def qL : Nat → bx → Option Int
  | 0 => fun _ => none
  | k + 1 => uJ (qL k)
def oi (a0 : bx) : Option Int := qL cP a0
def Ad (a0 : bx) (self : bx → Option Int) (i2 : Int) : Int → Option Int
  | i1 =>
  (bo a0.Kids i2).bind fun x8 =>
    (self x8).bind fun r9 =>
    some (kg i1 r9)
def uK (self : bx → Option Int) (a0 : bx) : Option Int :=
  (da (Ad a0 self) (bF 0 (a0.Kids.length : Int)) 0).bind fun z10 =>
    some (IntKind.i64.wrap (z10 + 1))
def qM : Nat → bx → Option Int
  | 0 => fun _ => none
  | k + 1 => uK (qM k)
def ol (a0 : bx) : Option Int := qM cP a0
def Ae (a0 : (List bx)) (a1 : (bx → Option Bool)) (i1 : Int) : Unit → Option (Br Unit Int)
  | () =>
  (bo a0 i1).bind fun x7 =>
    (a1 x7).bind fun x8 =>
    (if x8 then some (Br.ret i1) else some (.next ()))
def uL (a0 : (List bx)) (a1 : bx → Option Bool) : Option Int :=
  (cd (Ae a0 a1) (bF 0 (a0.length : Int)) ()).bind fun q10 => match q10 with
    | .ret r => some r
    | .done () =>
    some (-1)
def qN (a0 : (List bx)) (a1 : bx → Option Bool) : Option Bool :=
  (uL a0 a1).bind fun r1 =>
    some (decide (r1 ≥ 0))
def uM (self : bx → Option Bool) (a0 : bx) : Option Bool :=
  (self a0).bind fun r1 =>
    some (!r1)
def uN (self : bx → Option Bool) (a0 : bx) : Option Bool :=
  ((if (a0.Op == 0) then some (a0.Op == 0) else (if (a0.Op == 1) then some (a0.Op == 1) else (if (a0.Op == 2) then some (a0.Op == 2) else (if (a0.Op == 3) then some (a0.Op == 3) else some (a0.Op == 4)))))).bind fun y5 =>
    (if y5 then some true else ((if (a0.Op == 6) then some (a0.Op == 6) else some (a0.Op == 7))).bind fun y9 =>
    (if y9 then (qN a0.Kids (fun y0 => uM self y0)).bind fun r12 =>
    some (!r12) else some false))
def qO : Nat → bx → Option Bool
  | 0 => fun _ => none
  | k + 1 => uN (qO k)
def uO (a0 : bx) : Option Bool := qO cP a0
def uP (self : bx → Int → Option Bool) (a0 : bx) (a1 : Int) : Option Bool :=
  (self a0 a1).bind fun r1 =>
    some (!r1)
def uQ (self : bx → Int → Option Bool) (a0 : bx) (a1 : Int) : Option Bool :=
  (((if (a0.Op == 0) then some (a0.Op == 0) else some (a0.Op == 1))).bind fun y3 =>
    (if y3 then some (Sum.inr (((a0.Kids.length : Int) == 0) && ((a0.F == 0) && (a0.N == 0)))) else (if (a0.Op == 4) then ((if ((a0.Kids.length : Int) == 1) then (if ((a0.F == 0) && (a0.N == 0)) then (bo a0.Kids 0).bind fun x10 =>
    (uO x10).bind fun r11 =>
    (if r11 then (self x10 a1).bind fun r13 =>
    some r13 else some false) else some false) else some false)).bind fun y14 =>
    some (Sum.inr y14) else ((if (a0.Op == 6) then some (a0.Op == 6) else some (a0.Op == 7))).bind fun y17 =>
    (if y17 then ((if decide ((a0.Kids.length : Int) ≥ 2) then (if ((a0.F == 0) && (a0.N == 0)) then (qN a0.Kids (fun y0 => uP self y0 a1)).bind fun r22 =>
    some (!r22) else some false) else some false)).bind fun y23 =>
    some (Sum.inr y23) else (if (a0.Op == 2) then some (.inl (0, 8)) else (if (a0.Op == 5) then some (.inl (1, 8)) else (if (a0.Op == 3) then some (.inl (0, a1)) else some (Sum.inr false)))))))).bind fun q30 => match q30 with
    | .inr r => some r
    | .inl (y28, y29) =>
    some (((a0.Kids.length : Int) == 0) && ((decide (a0.F ≥ y28)) && (decide (a0.F < y29))))
def qP : Nat → bx → Int → Option Bool
  | 0 => fun _ _ => none
  | k + 1 => uQ (qP k)
def om (a0 : bx) (a1 : Int) : Option Bool := qP cP a0 a1
def Af (a0 : (List cm)) (a1 : Int) (i1 : Int) : Unit → Option (Br Unit Bool)
  | () =>
  (bo a0 i1).bind fun x7 =>
    ((if decide (x7.F < 0) then some true else (if decide (x7.F ≥ a1) then some true else (if decide (i1 > 0) then (bo a0 (IntKind.i64.wrap (i1 - 1))).bind fun x11 =>
    some (decide (x11.F ≥ x7.F)) else some false)))).bind fun y12 =>
    (if y12 then some (Br.ret false) else some (.next ()))
def mI (a0 : (List cm)) (a1 : Int) : Option Bool :=
  (cd (Af a0 a1) (bF 0 (a0.length : Int)) ()).bind fun q15 => match q15 with
    | .ret r => some r
    | .done () =>
    some true
def uR (a0 : bO) (i12 : Int) : Unit → Option (Br Unit Int)
  | () =>
  (bo a0.Rules i12).bind fun x18 =>
    ((if decide ((x18.When.length : Int) ≥ 2) then (bo x18.When 0).bind fun x20 =>
    (if (x20.F == 0) then (bo x18.When 1).bind fun x22 =>
    some (x22.F == 1) else some false) else some false)).bind fun y23 =>
    ((if (!y23) then some true else (mI x18.When 8).bind fun r26 =>
    (if (!r26) then some true else (mI x18.Guard (a0.Init.length : Int)).bind fun r28 =>
    (if (!r28) then some true else (mI x18.Then (a0.Init.length : Int)).bind fun r30 =>
    (if (!r30) then some true else some ((x18.Then.length : Int) == 0)))))).bind fun y32 =>
    (if y32 then some (Br.ret 11) else some (.next ()))
def ot (a0 : bO) : Option Int :=
  ((if decide ((a0.Init.length : Int) < 1) then some true else (if decide ((a0.Init.length : Int) > 4) then some true else (oi a0.Pol).bind fun r3 =>
    (if decide (r3 > 300) then some true else (ol a0.Pol).bind fun r5 =>
    (if decide (r5 > 20) then some true else some (decide ((a0.Rules.length : Int) > 24))))))).bind fun y7 =>
    (if y7 then some 2 else (om a0.Pol (a0.Init.length : Int)).bind fun r10 =>
    (if (!r10) then some 11 else (cd (uR a0) (bF 0 (a0.Rules.length : Int)) ()).bind fun q35 => match q35 with
    | .ret r => some r
    | .done () =>
    some 0))
def jf (a0 : List Int) : Option (List Int) :=
  (dD ([] : List Int) a0).bind fun l1 => some l1
def qQ (a0 : (List Int)) (i2 : Int) : (List Int) → Option (List Int)
  | l1 =>
  (bo a0 i2).bind fun x8 =>
    (dD l1 ([IntKind.u8.wrap (x8.fdiv (2 ^ 8)), IntKind.u8.wrap x8] : List Int)).bind fun l9 =>
    some l9
def ou (a0 : (List Int)) : Option ByteArray :=
  (da (qQ a0) (bF 0 (a0.length : Int)) ([] : List Int)).bind fun z10 =>
    some (i9 z10)
def mJ (a0 : je) (a1 : (List Int)) : Option (Int × je) :=
  (ou a1).bind fun r1 =>
    ((if (!((mget a0.at_ r1).isSome)) then (dD a0.s.States ([a1] : List (List Int))).bind fun l3 =>
    some (l3, (dB a0.at_ r1 (a0.s.States.length : Int)), (a0.s.States.length : Int)) else some (a0.s.States, a0.at_, (mget a0.at_ r1).getD 0))).bind fun (l4, m5, y6) =>
    some (y6, (je.mk (bC.mk l4 a0.s.Edges) m5))
def Ag (a0 : cH) (i3 : Int) : (List Int) → Option (List Int)
  | l2 =>
  ((bo a0.Then i3).bind fun x9 =>
    (if ((decide (x9.F ≥ 0)) && (decide (x9.F < (l2.length : Int)))) then (bo l2 x9.F).bind fun x12 =>
    (ef l2 x9.F x9.N).bind fun l13 =>
    some l13 else some l2)).bind fun l14 =>
    some l14
def ov (a0 : cH) (a1 : (List Int)) : Option (List Int) :=
  (jf a1).bind fun r1 =>
    (da (Ag a0) (bF 0 (a0.Then.length : Int)) r1).bind fun z16 =>
    some z16
def qR (a0 : cm) (a1 : (List Int)) : Option Bool :=
  ((if decide (a0.F < 0) then some true else (if decide (a0.F ≥ (a1.length : Int)) then some true else (bo a1 a0.F).bind fun x3 =>
    some (x3 != a0.N)))).bind fun y4 =>
    some y4
def qS (a0 : (List cm)) (a1 : (cm → Option Bool)) (i1 : Int) : Unit → Option (Br Unit Int)
  | () =>
  (bo a0 i1).bind fun x7 =>
    (a1 x7).bind fun x8 =>
    (if x8 then some (Br.ret i1) else some (.next ()))
def lm (a0 : (List cm)) (a1 : cm → Option Bool) : Option Int :=
  (cd (qS a0 a1) (bF 0 (a0.length : Int)) ()).bind fun q10 => match q10 with
    | .ret r => some r
    | .done () =>
    some (-1)
def ow (a0 : (List cm)) (a1 : cm → Option Bool) : Option Bool :=
  (lm a0 a1).bind fun r1 =>
    some (decide (r1 ≥ 0))
def ox (a0 : cH) (a1 : (List Int)) : Option Bool :=
  (ow a0.Guard (fun y0 => qR y0 a1)).bind fun r1 =>
    some (!r1)
def uS (a0 : (List Int)) (a1 : (List Int)) (i2 : Int) : Unit → Option (Br Unit Bool)
  | () =>
  (bo a0 i2).bind fun x8 =>
    (bo a1 i2).bind fun x9 =>
    (if (x8 != x9) then some (Br.ret false) else some (.next ()))
def oy (a0 : (List Int)) (a1 : (List Int)) : Option Bool :=
  (if ((a0.length : Int) != (a1.length : Int)) then some false else (cd (uS a0 a1) (bF 0 (a0.length : Int)) ()).bind fun q11 => match q11 with
    | .ret r => some r
    | .done () =>
    some true)
def qT (a0 : bC) (a1 : Int) (i2 : Int) : (List aO) → Option (List aO)
  | l1 =>
  ((bo a0.Edges i2).bind fun x8 =>
    (if (x8.From == a1) then (dD l1 ([x8] : List aO)).bind fun l10 =>
    some l10 else some l1)).bind fun l11 =>
    some l11
def mK (a0 : bC) (a1 : Int) : Option (List aO) :=
  (da (qT a0 a1) (bF 0 (a0.Edges.length : Int)) ([] : List aO)).bind fun z13 =>
    some z13
def qU (a2 : bC) (r4 : (List aO)) (self : Int → (List Int) → bC → Option (Bool × (List Int))) (i6 : Int) : (List Int) → Option (Br (List Int) (Bool × (List Int)))
  | l5 =>
  (bo r4 i6).bind fun x12 =>
    (self x12.To l5 a2).bind fun r13 =>
    (if r13.1 then some (Br.ret (true, r13.2)) else some (.next r13.2))
def oz (self : Int → (List Int) → bC → Option (Bool × (List Int))) (a0 : Int) (a1 : (List Int)) (a2 : bC) : Option (Bool × (List Int)) :=
  (bo a1 a0).bind fun x1 =>
    (if (x1 != 0) then some ((x1 == 1), a1) else (ef a1 a0 1).bind fun l3 =>
    (mK a2 a0).bind fun r4 =>
    (cd (qU a2 r4 self) (bF 0 (r4.length : Int)) l3).bind fun q18 => match q18 with
    | .ret r => some r
    | .done z15 =>
    (bo z15 a0).bind fun x16 =>
    (ef z15 a0 2).bind fun l17 =>
    some (false, l17))
def kr : Nat → Int → (List Int) → bC → Option (Bool × (List Int))
  | 0 => fun _ _ _ => none
  | k + 1 => oz (kr k)
def qV (a0 : Int) (a1 : (List Int)) (a2 : bC) : Option (Bool × (List Int)) := kr cP a0 a1 a2
def oA (a0 : bC) : Option Bool :=
  (iE (a0.States.length : Int) 0).bind fun l1 =>
    ((if decide ((l1.length : Int) > 0) then (qV 0 l1 a0).bind fun r3 =>
    some r3.1 else some false)).bind fun y4 =>
    some y4
def lr (a0 : bO) (i8 : Int) (i14 : Int) : ((List (List Int)) × (List aO) × (List (ByteArray × Int))) → Option (Br ((List (List Int)) × (List aO) × (List (ByteArray × Int))) (Br ((List (List Int)) × (List aO) × (List (ByteArray × Int)) × Int) (bC × Int)))
  | (l11, l12, m13) =>
  (((bo a0.Rules i14).bind fun x20 =>
    (bo l11 i8).bind fun x21 =>
    (ov x20 x21).bind fun r22 =>
    (ox x20 x21).bind fun r23 =>
    ((if (!r23) then some true else (oy x21 r22).bind fun r25 =>
    some r25)).bind fun y26 =>
    (if y26 then some (.inl (l11, l12, m13)) else (mJ (je.mk (bC.mk l11 l12) m13) r22).bind fun r29 =>
    (dD l12 ([(aO.mk i8 i14 r29.1)] : List aO)).bind fun l30 =>
    (if decide ((r29.2.s.States.length : Int) > 128) then some (Sum.inr (Br.ret (Br.ret ((bC.mk [] []), 21)))) else some (.inl (r29.2.s.States, l30, r29.2.at_)))) : Option (((List (List Int)) × (List aO) × (List (ByteArray × Int))) ⊕ (Br ((List (List Int)) × (List aO) × (List (ByteArray × Int))) (Br ((List (List Int)) × (List aO) × (List (ByteArray × Int)) × Int) (bC × Int)))))).bind fun q35 => match q35 with
    | .inr r => some r
    | .inl (l32, l33, m34) =>
    some (.next (l32, l33, m34))
def lu (a0 : bO) : ((List (List Int)) × (List aO) × (List (ByteArray × Int)) × Int) → Option (Br ((List (List Int)) × (List aO) × (List (ByteArray × Int)) × Int) (bC × Int))
  | (l5, l6, m7, i8) =>
  (if decide (i8 < (l5.length : Int)) then (cd (lr a0 i8) (bF 0 (a0.Rules.length : Int)) (l5, l6, m7)).bind fun q39 => match q39 with
    | .ret r => some r
    | .done (z36, z37, z38) =>
    some (.next (z36, z37, z38, IntKind.i64.wrap (i8 + 1))) else some (.brk (l5, l6, m7, i8)))
def ku (a0 : bO) : Option (bC × Int) :=
  (ot a0).bind fun r1 =>
    (if (r1 != 0) then some ((bC.mk [] []), r1) else (jf a0.Init).bind fun r3 =>
    (mJ (je.mk (bC.mk ([] : List (List Int)) ([] : List aO)) ([] : List (ByteArray × Int))) r3).bind fun r4 =>
    (dL (lu a0) cP (r4.2.s.States, ([] : List aO), r4.2.at_, 0)).bind fun q46 => match q46 with
    | .ret r => some r
    | .done (z40, z41, z42, z43) =>
    (oA (bC.mk z40 z41)).bind fun r44 =>
    (if r44 then some ((bC.mk [] []), 20) else some ((bC.mk z40 z41), 0)))
def lw (a0 : cN) (a1 : Int) (a2 : Int) (a3 : bC) : Option (Int × cN) :=
  (if (mget a0.sets a1).isSome then (bo a0.at_ ((mget a0.sets a1).getD 0)).bind fun x2 =>
    (if (x2 != a2) then some (22, a0) else some (0, a0)) else (dD a0.n_.Sets ([a1] : List Int)).bind fun l4 =>
    (bo a3.States a2).bind fun x5 =>
    (jf x5).bind fun r6 =>
    (dD a0.n_.States ([r6] : List (List Int))).bind fun l7 =>
    (dD a0.at_ ([a2] : List Int)).bind fun l8 =>
    (if decide ((l4.length : Int) > 256) then some (21, (cN.mk (aU.mk a0.n_.Events l4 l7) l8 a0.events (dB a0.sets a1 (a0.n_.Sets.length : Int)))) else some (0, (cN.mk (aU.mk a0.n_.Events l4 l7) l8 a0.events (dB a0.sets a1 (a0.n_.Sets.length : Int))))))
def oB (a0 : Int) : Option Int :=
  (if (a0 == 0) then some 64 else (bo jd ((IntKind.u64.wrap ((aQ .u64 a0 (IntKind.u64.wrap (0 - a0))) * 285870213051353865)).fdiv (2 ^ 58))).bind fun b2 =>
    some (IntKind.i64.wrap b2))
def mL (a0 : Int) : Option (Int × Bool) :=
  (if (a0 == 0) then some (0, false) else (oB a0).bind fun r2 =>
    some (r2, true))
def kv (a0 : Int) : Option Int :=
  (if ((decide (a0 < 0)) || (decide (a0 ≥ 64))) then some 0 else (ke .u64 1 a0).bind fun q3 =>
    some q3)
def oC (a0 : Int) (a1 : Int) : Option Int :=
  (kv a1).bind fun r1 =>
    some (kf .u64 a0 r1)
def oD : (Int × (List Int) × Int × Bool) → Option ((Int × (List Int) × Int × Bool) ⊕ (Int × (List Int) × Int × Bool))
  | (i2, l3, i4, y5) =>
  (if y5 then (dD l3 ([i4] : List Int)).bind fun l8 =>
    (oC i2 i4).bind fun r9 =>
    (mL r9).bind fun r10 =>
    some (.inl (r9, l8, r10.1, r10.2)) else some (.inr (i2, l3, i4, y5)))
def mM (a0 : Int) : Option (List Int) :=
  (mL a0).bind fun r1 =>
    (jy oD cP (a0, ([] : List Int), r1.1, r1.2)).bind fun (z11, z12, z13, z14) =>
    some z12
def qW (a0 : cN) (a2 : Int) (r1 : (List Int)) (i3 : Int) : Int → Option Int
  | i2 =>
  ((bo r1 i3).bind fun x9 =>
    (bo a0.n_.Events x9).bind fun x10 =>
    (if (x10.Rule == a2) then some (IntKind.i64.wrap (i2 + 1)) else some i2)).bind fun y12 =>
    some y12
def oE (a0 : cN) (a1 : Int) (a2 : Int) : Option (Int × cN) :=
  (mM a1).bind fun r1 =>
    (da (qW a0 a2 r1) (bF 0 (r1.length : Int)) 0).bind fun z14 =>
    some (z14, a0)
def oF (a0 : cN) (a1 : bu) : Option (Int × Bool × cN) :=
  ((if (!((mget a0.events a1).isSome)) then (dD a0.n_.Events ([a1] : List bu)).bind fun l2 =>
    some (l2, (dB a0.events a1 (a0.n_.Events.length : Int)), (a0.n_.Events.length : Int)) else some (a0.n_.Events, a0.events, (mget a0.events a1).getD 0))).bind fun (l3, m4, y5) =>
    some (y5, decide (y5 < 64), (cN.mk (aU.mk l3 a0.n_.Sets a0.n_.States) a0.at_ m4 a0.sets))
def lz (a0 : Int) (a1 : Int) : Option Int :=
  (kv a1).bind fun r1 =>
    some (cQ .u64 a0 r1)
def mN (a1 : bC) (x11 : Int) (r13 : (List aO)) (i20 : Int) : ((List bu) × (List Int) × (List (List Int)) × (List Int) × (List (bu × Int)) × (List (Int × Int))) → Option (Br ((List bu) × (List Int) × (List (List Int)) × (List Int) × (List (bu × Int)) × (List (Int × Int))) (Br ((List bu) × (List Int) × (List (List Int)) × (List Int) × (List (bu × Int)) × (List (Int × Int)) × Int) (Int × cN)))
  | (l14, l15, l16, l17, m18, m19) =>
  (bo r13 i20).bind fun x26 =>
    (oE (cN.mk (aU.mk l14 l15 l16) l17 m18 m19) x11 x26.Rule).bind fun r27 =>
    (oF (cN.mk (aU.mk l14 l15 l16) l17 m18 m19) (bu.mk x26.Rule r27.1)).bind fun r28 =>
    (if (!r28.2.1) then some (Br.ret (Br.ret (21, (cN.mk (aU.mk r28.2.2.n_.Events l15 l16) l17 r28.2.2.events m19)))) else (lz x11 r28.1).bind fun r30 =>
    (lw (cN.mk (aU.mk r28.2.2.n_.Events l15 l16) l17 r28.2.2.events m19) r30 x26.To a1).bind fun r31 =>
    (if (r31.1 != 0) then some (Br.ret (Br.ret (r31.1, (cN.mk (aU.mk r28.2.2.n_.Events r31.2.n_.Sets r31.2.n_.States) r31.2.at_ r28.2.2.events r31.2.sets)))) else some (.next (r28.2.2.n_.Events, r31.2.n_.Sets, r31.2.n_.States, r31.2.at_, r28.2.2.events, r31.2.sets))))
def jg (a1 : bC) : ((List bu) × (List Int) × (List (List Int)) × (List Int) × (List (bu × Int)) × (List (Int × Int)) × Int) → Option (Br ((List bu) × (List Int) × (List (List Int)) × (List Int) × (List (bu × Int)) × (List (Int × Int)) × Int) (Int × cN))
  | (l2, l3, l4, l5, m6, m7, i8) =>
  (if decide (i8 < (l3.length : Int)) then (bo l3 i8).bind fun x11 =>
    (bo l5 i8).bind fun x12 =>
    (mK a1 x12).bind fun r13 =>
    (cd (mN a1 x11 r13) (bF 0 (r13.length : Int)) (l2, l3, l4, l5, m6, m7)).bind fun q39 => match q39 with
    | .ret r => some r
    | .done (z33, z34, z35, z36, z37, z38) =>
    some (.next (z33, z34, z35, z36, z37, z38, IntKind.i64.wrap (i8 + 1))) else some (.brk (l2, l3, l4, l5, m6, m7, i8)))
def mO (a0 : cN) (a1 : bC) : Option (Int × cN) :=
  (lw a0 0 0 a1).bind fun r1 =>
    (dL (jg a1) cP (a0.n_.Events, r1.2.n_.Sets, r1.2.n_.States, r1.2.at_, a0.events, r1.2.sets, 0)).bind fun q47 => match q47 with
    | .ret r => some r
    | .done (z40, z41, z42, z43, z44, z45, z46) =>
    some (0, (cN.mk (aU.mk z40 z41 z42) z43 z44 z45))
def uT (a0 : (List Int)) (a1 : Int) (i1 : Int) : Unit → Option (Br Unit Int)
  | () =>
  (bo a0 i1).bind fun x7 =>
    (if (a1 == x7) then some (Br.ret i1) else some (.next ()))
def kw (a0 : (List Int)) (a1 : Int) : Option Int :=
  (cd (uT a0 a1) (bF 0 (a0.length : Int)) ()).bind fun q9 => match q9 with
    | .ret r => some r
    | .done () =>
    some (-1)
def mP (a0 : aU) (a1 : Int) : Option (Int × Bool) :=
  (kw a0.Sets a1).bind fun r1 =>
    some (IntKind.u16.wrap (kg r1 0), decide (r1 ≥ 0))
def kx (a0 : Int) (a1 : Int) : Option Bool :=
  some ((kf .u64 a0 a1) == 0)
def oG (a0 : Int) : Option Int :=
  some (aQ .i64 (IntKind.i64.wrap (IntKind.u64.wrap ((IntKind.u64.wrap ((IntKind.u64.wrap ((aQ .u64 (IntKind.u64.wrap (((IntKind.u64.wrap ((aQ .u64 ((IntKind.u64.wrap ((aQ .u64 (a0.fdiv (2 ^ 1)) 6148914691236517205) + (aQ .u64 a0 6148914691236517205))).fdiv (2 ^ 2)) 3689348814741910323) + (aQ .u64 (IntKind.u64.wrap ((aQ .u64 (a0.fdiv (2 ^ 1)) 6148914691236517205) + (aQ .u64 a0 6148914691236517205))) 3689348814741910323))).fdiv (2 ^ 4)) + (IntKind.u64.wrap ((aQ .u64 ((IntKind.u64.wrap ((aQ .u64 (a0.fdiv (2 ^ 1)) 6148914691236517205) + (aQ .u64 a0 6148914691236517205))).fdiv (2 ^ 2)) 3689348814741910323) + (aQ .u64 (IntKind.u64.wrap ((aQ .u64 (a0.fdiv (2 ^ 1)) 6148914691236517205) + (aQ .u64 a0 6148914691236517205))) 3689348814741910323))))) 1085102592571150095) + ((aQ .u64 (IntKind.u64.wrap (((IntKind.u64.wrap ((aQ .u64 ((IntKind.u64.wrap ((aQ .u64 (a0.fdiv (2 ^ 1)) 6148914691236517205) + (aQ .u64 a0 6148914691236517205))).fdiv (2 ^ 2)) 3689348814741910323) + (aQ .u64 (IntKind.u64.wrap ((aQ .u64 (a0.fdiv (2 ^ 1)) 6148914691236517205) + (aQ .u64 a0 6148914691236517205))) 3689348814741910323))).fdiv (2 ^ 4)) + (IntKind.u64.wrap ((aQ .u64 ((IntKind.u64.wrap ((aQ .u64 (a0.fdiv (2 ^ 1)) 6148914691236517205) + (aQ .u64 a0 6148914691236517205))).fdiv (2 ^ 2)) 3689348814741910323) + (aQ .u64 (IntKind.u64.wrap ((aQ .u64 (a0.fdiv (2 ^ 1)) 6148914691236517205) + (aQ .u64 a0 6148914691236517205))) 3689348814741910323))))) 1085102592571150095).fdiv (2 ^ 8)))) + ((IntKind.u64.wrap ((aQ .u64 (IntKind.u64.wrap (((IntKind.u64.wrap ((aQ .u64 ((IntKind.u64.wrap ((aQ .u64 (a0.fdiv (2 ^ 1)) 6148914691236517205) + (aQ .u64 a0 6148914691236517205))).fdiv (2 ^ 2)) 3689348814741910323) + (aQ .u64 (IntKind.u64.wrap ((aQ .u64 (a0.fdiv (2 ^ 1)) 6148914691236517205) + (aQ .u64 a0 6148914691236517205))) 3689348814741910323))).fdiv (2 ^ 4)) + (IntKind.u64.wrap ((aQ .u64 ((IntKind.u64.wrap ((aQ .u64 (a0.fdiv (2 ^ 1)) 6148914691236517205) + (aQ .u64 a0 6148914691236517205))).fdiv (2 ^ 2)) 3689348814741910323) + (aQ .u64 (IntKind.u64.wrap ((aQ .u64 (a0.fdiv (2 ^ 1)) 6148914691236517205) + (aQ .u64 a0 6148914691236517205))) 3689348814741910323))))) 1085102592571150095) + ((aQ .u64 (IntKind.u64.wrap (((IntKind.u64.wrap ((aQ .u64 ((IntKind.u64.wrap ((aQ .u64 (a0.fdiv (2 ^ 1)) 6148914691236517205) + (aQ .u64 a0 6148914691236517205))).fdiv (2 ^ 2)) 3689348814741910323) + (aQ .u64 (IntKind.u64.wrap ((aQ .u64 (a0.fdiv (2 ^ 1)) 6148914691236517205) + (aQ .u64 a0 6148914691236517205))) 3689348814741910323))).fdiv (2 ^ 4)) + (IntKind.u64.wrap ((aQ .u64 ((IntKind.u64.wrap ((aQ .u64 (a0.fdiv (2 ^ 1)) 6148914691236517205) + (aQ .u64 a0 6148914691236517205))).fdiv (2 ^ 2)) 3689348814741910323) + (aQ .u64 (IntKind.u64.wrap ((aQ .u64 (a0.fdiv (2 ^ 1)) 6148914691236517205) + (aQ .u64 a0 6148914691236517205))) 3689348814741910323))))) 1085102592571150095).fdiv (2 ^ 8)))).fdiv (2 ^ 16)))) + ((IntKind.u64.wrap ((IntKind.u64.wrap ((aQ .u64 (IntKind.u64.wrap (((IntKind.u64.wrap ((aQ .u64 ((IntKind.u64.wrap ((aQ .u64 (a0.fdiv (2 ^ 1)) 6148914691236517205) + (aQ .u64 a0 6148914691236517205))).fdiv (2 ^ 2)) 3689348814741910323) + (aQ .u64 (IntKind.u64.wrap ((aQ .u64 (a0.fdiv (2 ^ 1)) 6148914691236517205) + (aQ .u64 a0 6148914691236517205))) 3689348814741910323))).fdiv (2 ^ 4)) + (IntKind.u64.wrap ((aQ .u64 ((IntKind.u64.wrap ((aQ .u64 (a0.fdiv (2 ^ 1)) 6148914691236517205) + (aQ .u64 a0 6148914691236517205))).fdiv (2 ^ 2)) 3689348814741910323) + (aQ .u64 (IntKind.u64.wrap ((aQ .u64 (a0.fdiv (2 ^ 1)) 6148914691236517205) + (aQ .u64 a0 6148914691236517205))) 3689348814741910323))))) 1085102592571150095) + ((aQ .u64 (IntKind.u64.wrap (((IntKind.u64.wrap ((aQ .u64 ((IntKind.u64.wrap ((aQ .u64 (a0.fdiv (2 ^ 1)) 6148914691236517205) + (aQ .u64 a0 6148914691236517205))).fdiv (2 ^ 2)) 3689348814741910323) + (aQ .u64 (IntKind.u64.wrap ((aQ .u64 (a0.fdiv (2 ^ 1)) 6148914691236517205) + (aQ .u64 a0 6148914691236517205))) 3689348814741910323))).fdiv (2 ^ 4)) + (IntKind.u64.wrap ((aQ .u64 ((IntKind.u64.wrap ((aQ .u64 (a0.fdiv (2 ^ 1)) 6148914691236517205) + (aQ .u64 a0 6148914691236517205))).fdiv (2 ^ 2)) 3689348814741910323) + (aQ .u64 (IntKind.u64.wrap ((aQ .u64 (a0.fdiv (2 ^ 1)) 6148914691236517205) + (aQ .u64 a0 6148914691236517205))) 3689348814741910323))))) 1085102592571150095).fdiv (2 ^ 8)))) + ((IntKind.u64.wrap ((aQ .u64 (IntKind.u64.wrap (((IntKind.u64.wrap ((aQ .u64 ((IntKind.u64.wrap ((aQ .u64 (a0.fdiv (2 ^ 1)) 6148914691236517205) + (aQ .u64 a0 6148914691236517205))).fdiv (2 ^ 2)) 3689348814741910323) + (aQ .u64 (IntKind.u64.wrap ((aQ .u64 (a0.fdiv (2 ^ 1)) 6148914691236517205) + (aQ .u64 a0 6148914691236517205))) 3689348814741910323))).fdiv (2 ^ 4)) + (IntKind.u64.wrap ((aQ .u64 ((IntKind.u64.wrap ((aQ .u64 (a0.fdiv (2 ^ 1)) 6148914691236517205) + (aQ .u64 a0 6148914691236517205))).fdiv (2 ^ 2)) 3689348814741910323) + (aQ .u64 (IntKind.u64.wrap ((aQ .u64 (a0.fdiv (2 ^ 1)) 6148914691236517205) + (aQ .u64 a0 6148914691236517205))) 3689348814741910323))))) 1085102592571150095) + ((aQ .u64 (IntKind.u64.wrap (((IntKind.u64.wrap ((aQ .u64 ((IntKind.u64.wrap ((aQ .u64 (a0.fdiv (2 ^ 1)) 6148914691236517205) + (aQ .u64 a0 6148914691236517205))).fdiv (2 ^ 2)) 3689348814741910323) + (aQ .u64 (IntKind.u64.wrap ((aQ .u64 (a0.fdiv (2 ^ 1)) 6148914691236517205) + (aQ .u64 a0 6148914691236517205))) 3689348814741910323))).fdiv (2 ^ 4)) + (IntKind.u64.wrap ((aQ .u64 ((IntKind.u64.wrap ((aQ .u64 (a0.fdiv (2 ^ 1)) 6148914691236517205) + (aQ .u64 a0 6148914691236517205))).fdiv (2 ^ 2)) 3689348814741910323) + (aQ .u64 (IntKind.u64.wrap ((aQ .u64 (a0.fdiv (2 ^ 1)) 6148914691236517205) + (aQ .u64 a0 6148914691236517205))) 3689348814741910323))))) 1085102592571150095).fdiv (2 ^ 8)))).fdiv (2 ^ 16)))).fdiv (2 ^ 32))))) 127)
def oH (a0 : Int) : Option Int :=
  (oG a0).bind fun r1 =>
    some r1
def qY (a0 : aU) (a1 : Int) (i4 : Int) : Int → Option Int
  | i3 =>
  ((bo a0.Sets i4).bind fun x10 =>
    (kx a1 x10).bind fun r11 =>
    ((if r11 then (oH (kf .u64 x10 a1)).bind fun r13 =>
    some (r13 == 1) else some false)).bind fun y14 =>
    (if y14 then some (cQ .u64 i3 (kf .u64 x10 a1)) else some i3)).bind fun y17 =>
    some y17
def mQ (a0 : aU) (a1 : Int) : Option Int :=
  (mP a0 a1).bind fun r1 =>
    (if (!r1.2) then some 0 else (da (qY a0 a1) (bF 0 (a0.Sets.length : Int)) 0).bind fun z19 =>
    ((if decide ((a0.Events.length : Int) < 64) then (ke .u64 1 (a0.Events.length : Int)).bind fun q21 =>
    some (aQ .u64 z19 (IntKind.u64.wrap (q21 - 1))) else some z19)).bind fun y22 =>
    some y22)
def qZ (a0 : Int) (a1 : Int) : Option Bool :=
  (kx a1 a0).bind fun r1 =>
    some r1
def uU (a0 : (List Int)) (a1 : (Int → Option Bool)) (i1 : Int) : Unit → Option (Br Unit Int)
  | () =>
  (bo a0 i1).bind fun x7 =>
    (a1 x7).bind fun x8 =>
    (if x8 then some (Br.ret i1) else some (.next ()))
def q8 (a0 : (List Int)) (a1 : Int → Option Bool) : Option Int :=
  (cd (uU a0 a1) (bF 0 (a0.length : Int)) ()).bind fun q10 => match q10 with
    | .ret r => some r
    | .done () =>
    some (-1)
def mR (a0 : (List Int)) (a1 : Int → Option Bool) : Option Bool :=
  (q8 a0 a1).bind fun r1 =>
    some (decide (r1 ≥ 0))
def jh (a0 : aU) (a1 : Int) : Option Bool :=
  (mR a0.Sets (fun y0 => qZ y0 a1)).bind fun r1 =>
    some r1
def oI (a1 : bC) (i2 : Int) : (List (aO × Bool)) → Option (List (aO × Bool))
  | m1 =>
  (bo a1.Edges i2).bind fun x8 =>
    some (dB m1 x8 true)
def uV (a0 : cN) (z9 : (List (aO × Bool))) (i10 : Int) (x16 : Int) (r18 : (List Int)) (i19 : Int) : Unit → Option (Br Unit (Br Unit (Bool × cN)))
  | () =>
  (bo r18 i19).bind fun x25 =>
    (lz x16 x25).bind fun r26 =>
    (bo a0.at_ ((mget a0.sets r26).getD 0)).bind fun x27 =>
    (bo a0.at_ i10).bind fun x28 =>
    (bo a0.n_.Events x25).bind fun x29 =>
    (if (!((mget z9 (aO.mk x28 x29.Rule x27)).getD false)) then some (Br.ret (Br.ret (false, a0))) else some (.next ()))
def uW (a0 : cN) (x16 : Int) (l31 : (List Int)) (i32 : Int) : Unit → Option (Br Unit (Br Unit (Bool × cN)))
  | () =>
  (bo l31 i32).bind fun x38 =>
    ((if (!((mget a0.sets (cQ .u64 x16 x38)).isSome)) then (jh a0.n_ (cQ .u64 x16 x38)).bind fun r40 =>
    some r40 else some false)).bind fun y41 =>
    (if y41 then some (Br.ret (Br.ret (false, a0))) else some (.next ()))
def ra (a0 : cN) (z9 : (List (aO × Bool))) (i10 : Int) : Unit → Option (Br Unit (Bool × cN))
  | () =>
  (bo a0.n_.Sets i10).bind fun x16 =>
    (mQ a0.n_ x16).bind fun r17 =>
    (mM r17).bind fun r18 =>
    (cd (uV a0 z9 i10 x16 r18) (bF 0 (r18.length : Int)) ()).bind fun q45 => match q45 with
    | .ret r => some r
    | .done () =>
    (iD a0.n_.Sets 0 i10).bind fun l31 =>
    (cd (uW a0 x16 l31) (bF 0 (l31.length : Int)) ()).bind fun q44 => match q44 with
    | .ret r => some r
    | .done () =>
    some (.next ())
def oJ (a0 : cN) (a1 : bC) : Option (Bool × cN) :=
  (da (oI a1) (bF 0 (a1.Edges.length : Int)) ([] : List (aO × Bool))).bind fun z9 =>
    (cd (ra a0 z9) (bF 0 (a0.n_.Sets.length : Int)) ()).bind fun q46 => match q46 with
    | .ret r => some r
    | .done () =>
    some (true, a0)
def oK (a0 : bO) (a1 : aU) (a2 : Int) : Option (cH × Bool) :=
  (if ((decide (a2 < 0)) || (decide (a2 ≥ (a1.Events.length : Int)))) then some ((cH.mk [] [] []), false) else (bo a1.Events a2).bind fun x3 =>
    (if ((decide (x3.Rule < 0)) || (decide (x3.Rule ≥ (a0.Rules.length : Int)))) then some ((cH.mk [] [] []), false) else (bo a0.Rules x3.Rule).bind fun x6 =>
    some (x6, true)))
def rb (a0 : cm) : Option Bool :=
  some (a0.F == 0)
def oL (a0 : bO) (a1 : aU) (a2 : Int) : Option (Int × Bool) :=
  (oK a0 a1 a2).bind fun r1 =>
    (lm r1.1.When (fun y0 => rb y0)).bind fun r2 =>
    (if ((!r1.2) || (decide (r2 < 0))) then some (0, false) else (bo r1.1.When r2).bind fun x5 =>
    some (x5.N, true))
def oM (a0 : bO) (a1 : aU) (i3 : Int) : ((List (Int × Int)) × (List Int)) → Option ((List (Int × Int)) × (List Int))
  | (m1, l2) =>
  (oL a0 a1 i3).bind fun r9 =>
    ((if (!((mget m1 r9.1).isSome)) then (dD l2 ([0] : List Int)).bind fun l11 =>
    some ((dB m1 r9.1 (l2.length : Int)), l11, (l2.length : Int)) else some (m1, l2, (mget m1 r9.1).getD 0))).bind fun (m12, l13, y14) =>
    (bo l13 y14).bind fun x16 =>
    (lz x16 i3).bind fun r17 =>
    (ef l13 y14 r17).bind fun l18 =>
    some (m12, l18)
def oN (a0 : bO) (a1 : aU) : Option (List Int) :=
  (da (oM a0 a1) (bF 0 (a1.Events.length : Int)) (([] : List (Int × Int)), ([] : List Int))).bind fun (z19, z20) =>
    some z20
def oO (a0 : Int) (a1 : Int) : Option Bool :=
  ((if (a0 != a1) then (kx a1 a0).bind fun r2 =>
    some r2 else some false)).bind fun y3 =>
    some y3
def rc (a0 : aU) (i2 : Int) : (List Int) → Option (List Int)
  | l1 =>
  ((bo a0.Sets i2).bind fun x8 =>
    (mR a0.Sets (fun y0 => oO y0 x8)).bind fun r9 =>
    (if (!r9) then (dD l1 ([x8] : List Int)).bind fun l11 =>
    some l11 else some l1)).bind fun l12 =>
    some l12
def oP (a0 : aU) : Option (List Int) :=
  (da (rc a0) (bF 0 (a0.Sets.length : Int)) ([] : List Int)).bind fun z14 =>
    some z14
def oQ (a0 : (List Int)) (a1 : Int) : Option Bool :=
  (kw a0 a1).bind fun r1 =>
    some (decide (r1 ≥ 0))
def oR {τ : Type} (a0 : List Int) (f : Int → τ → Option (Bool × τ)) (i1 : Int) : τ → Option (Br τ (Int × τ))
  | s => (bo a0 i1).bind fun x7 => (f x7 s).bind fun x8 => (if x8.1 then some (Br.ret (i1, x8.2)) else some (.next x8.2))
def oS {τ : Type} (a0 : List Int) (f : Int → τ → Option (Bool × τ)) (s : τ) : Option (Int × τ) :=
  (cd (oR a0 f) (bF 0 (a0.length : Int)) s).bind fun q => match q with
    | .ret r => some r
    | .done s => some (-1, s)
def mT {τ : Type} (a0 : List Int) (f : Int → τ → Option (Bool × τ)) (s : τ) : Option (Bool × τ) :=
  (oS a0 f s).bind fun r => some (decide (r.1 ≥ 0), r.2)
def oT (self : Int → Int → (List (List Int)) → (List (Int × Bool)) → aU → Option (Bool × (List (List Int)) × (List (Int × Bool)))) (a0 : Int) (a1 : Int) (a2 : (List (List Int))) (a3 : (List (Int × Bool))) (a4 : aU) : Option (Bool × (List (List Int)) × (List (Int × Bool))) :=
  (if (a0 == (a2.length : Int)) then ((if (!((mget a3 a1).isSome)) then (jh a4 a1).bind fun r3 =>
    some ((dB a3 a1 r3), r3) else some (a3, (mget a3 a1).getD false))).bind fun (m4, y5) =>
    some (y5, a2, m4) else (bo a2 a0).bind fun x7 =>
    (mT x7 (fun t s => (self (IntKind.i64.wrap (a0 + 1)) (cQ .u64 a1 t) s.1 s.2 a4).bind fun r => some ((!r.1), r.2)) (a2, a3)).bind fun r7 =>
    some ((!r7.1), r7.2.1, r7.2.2))
def ky : Nat → Int → Int → (List (List Int)) → (List (Int × Bool)) → aU → Option (Bool × (List (List Int)) × (List (Int × Bool)))
  | 0 => fun _ _ _ _ _ => none
  | k + 1 => oT (ky k)
def rd (a0 : Int) (a1 : Int) (a2 : (List (List Int))) (a3 : (List (Int × Bool))) (a4 : aU) : Option (Bool × (List (List Int)) × (List (Int × Bool))) := ky cP a0 a1 a2 a3 a4
def oU (x10 : Int) (r11 : (List Int)) (i13 : Int) : (List Int) → Option (List Int)
  | l12 =>
  ((bo r11 i13).bind fun x19 =>
    (oQ l12 (aQ .u64 x19 x10)).bind fun r20 =>
    (if (!r20) then (dD l12 ([aQ .u64 x19 x10] : List Int)).bind fun l22 =>
    some l22 else some l12)).bind fun l23 =>
    some l23
def re (a1 : aU) (r1 : (List Int)) (i4 : Int) : ((List (List Int)) × Int) → Option (Br ((List (List Int)) × Int) Int)
  | (l2, i3) =>
  (bo r1 i4).bind fun x10 =>
    (oP a1).bind fun r11 =>
    (da (oU x10 r11) (bF 0 (r11.length : Int)) ([] : List Int)).bind fun z25 =>
    (dD l2 ([z25] : List (List Int))).bind fun l26 =>
    (if decide ((IntKind.i64.wrap (i3 * (z25.length : Int))) > 20000) then some (Br.ret 21) else some (.next (l26, IntKind.i64.wrap (i3 * (z25.length : Int)))))
def oV (a0 : bO) (a1 : aU) : Option Int :=
  (oN a0 a1).bind fun r1 =>
    (cd (re a1 r1) (bF 0 (r1.length : Int)) (([] : List (List Int)), 1)).bind fun q33 => match q33 with
    | .ret r => some r
    | .done (z29, z30) =>
    (rd 0 0 z29 ([] : List (Int × Bool)) a1).bind fun r31 =>
    (if (!r31.1) then some 23 else some 0)
def kz (a0 : bO) : Option (aU × Int) :=
  (ku a0).bind fun r1 =>
    (if (r1.2 != 0) then some ((aU.mk [] [] []), r1.2) else ((mO (cN.mk (aU.mk ([] : List bu) ([] : List Int) ([] : List (List Int))) ([] : List Int) ([] : List (bu × Int)) ([] : List (Int × Int))) r1.1).bind fun r3 =>
    ((if (r3.1 == 0) then (oJ r3.2 r1.1).bind fun r5 =>
    some (!r5.1) else some false)).bind fun y6 =>
    (if y6 then some (22, r3.2.n_.Events, r3.2.n_.Sets, r3.2.n_.States, r3.2.at_, r3.2.events, r3.2.sets) else some (r3.1, r3.2.n_.Events, r3.2.n_.Sets, r3.2.n_.States, r3.2.at_, r3.2.events, r3.2.sets))).bind fun (y9, l10, l11, l12, l13, m14, m15) =>
    ((if (y9 == 0) then (oV a0 (aU.mk l10 l11 l12)).bind fun r18 =>
    some r18 else some y9)).bind fun y19 =>
    (if (y19 != 0) then some ((aU.mk [] [] []), y19) else some ((aU.mk l10 l11 l12), 0)))
def Ah (a0 : (List Int)) (i2 : Int) : Int → Option Int
  | i1 =>
  (bo a0 i2).bind fun x8 =>
    (kv x8).bind fun r9 =>
    some (cQ .u64 i1 r9)
def rf (a0 : (List Int)) : Option Int :=
  (da (Ah a0) (bF 0 (a0.length : Int)) 0).bind fun z10 =>
    some z10
def rg (a0 : Int) (a1 : aU) : Option Bool :=
  (rf ([a0] : List Int)).bind fun r1 =>
    ((if (r1 != 0) then (jh a1 r1).bind fun r3 =>
    some r3 else some false)).bind fun y4 =>
    some y4
def uX (a0 : aU) (a1 : Int) (a2 : Int) : Option Bool :=
  ((if (a1 != a2) then (rg a1 a0).bind fun r2 =>
    (if r2 then (rg a2 a0).bind fun r4 =>
    (if r4 then (rf ([a1, a2] : List Int)).bind fun r6 =>
    (jh a0 r6).bind fun r7 =>
    some (!r7) else some false) else some false) else some false)).bind fun y8 =>
    some y8
def rh  : Option Bool :=
  (mH 1 0 0 1).bind fun r1 =>
    (mH 2 1 0 1).bind fun r2 =>
    (kz (bO.mk ([0, 0] : List Int) (bx.mk 0 0 0 []) ([r1, r2] : List cH))).bind fun r3 =>
    (mH 1 0 0 2).bind fun r4 =>
    (kz (bO.mk ([0] : List Int) (bx.mk 0 0 0 []) ([r1, r4] : List cH))).bind fun r5 =>
    (mH 2 0 0 2).bind fun r6 =>
    (kz (bO.mk ([0] : List Int) (bx.mk 0 0 0 []) ([r1, r6] : List cH))).bind fun r7 =>
    ((if (r3.2 == 0) then (if (r5.2 == 0) then (if (r7.2 == 23) then (if ((r3.1.Sets.length : Int) == 4) then (if ((r5.1.Sets.length : Int) == 3) then (uX r5.1 0 1).bind fun r13 =>
    (if r13 then (mQ r3.1 0).bind fun r15 =>
    (if (r15 == 3) then (jh r3.1 3).bind fun r17 =>
    some r17 else some false) else some false) else some false) else some false) else some false) else some false) else some false)).bind fun y18 =>
    some y18
def uY (a0 : bO) (i3 : Int) : Unit → Option (Br Unit Bool)
  | () =>
  (bo a0.Rules i3).bind fun x9 =>
    (if ((decide ((x9.When.length : Int) > 8)) || ((decide ((x9.Guard.length : Int) > 6)) || (decide ((x9.Then.length : Int) > 6)))) then some (Br.ret false) else some (.next ()))
def oW (a0 : bO) : Option Bool :=
  (if ((decide ((a0.Init.length : Int) > 5)) || (decide ((a0.Rules.length : Int) > 26))) then some false else (cd (uY a0) (bF 0 (a0.Rules.length : Int)) ()).bind fun q13 => match q13 with
    | .ret r => some r
    | .done () =>
    some true)
def Ai (a0 : bx) (self : bx → Option Int) (i2 : Int) : Int → Option Int
  | i1 =>
  (bo a0.Kids i2).bind fun x8 =>
    (self x8).bind fun r9 =>
    some (IntKind.i64.wrap (i1 + r9))
def uZ (self : bx → Option Int) (a0 : bx) : Option Int :=
  (da (Ai a0 self) (bF 0 (a0.Kids.length : Int)) 1).bind fun z10 =>
    some z10
def rk : Nat → bx → Option Int
  | 0 => fun _ => none
  | k + 1 => uZ (rk k)
def oX (a0 : bx) : Option Int := rk cP a0
def Aj (a0 : bx) (self : bx → Option Int) (i2 : Int) : Int → Option Int
  | i1 =>
  (bo a0.Kids i2).bind fun x8 =>
    (self x8).bind fun r9 =>
    some (kg i1 r9)
def u0 (self : bx → Option Int) (a0 : bx) : Option Int :=
  (da (Aj a0 self) (bF 0 (a0.Kids.length : Int)) 0).bind fun z10 =>
    some (IntKind.i64.wrap (z10 + 1))
def rm : Nat → bx → Option Int
  | 0 => fun _ => none
  | k + 1 => u0 (rm k)
def oY (a0 : bx) : Option Int := rm cP a0
def Ak (a0 : bx) (self : bx → Option Bool) (i6 : Int) : Unit → Option (Br Unit (Unit ⊕ Bool))
  | () =>
  (bo a0.Kids i6).bind fun x12 =>
    (self x12).bind fun r13 =>
    (if (!r13) then some (Br.ret (Sum.inr false)) else some (.next ()))
def u1 (self : bx → Option Bool) (a0 : bx) : Option Bool :=
  (if ((a0.Op == 5) || ((decide (a0.Op < 0)) || (decide (a0.Op > 7)))) then some false else ((if ((a0.Op == 6) || (a0.Op == 7)) then (cd (Ak a0 self) (bF 0 (a0.Kids.length : Int)) ()).bind fun q15 => match q15 with
    | .ret r => some r
    | .done () =>
    some (.inl ()) else some (.inl ()))).bind fun q16 => match q16 with
    | .inr r => some r
    | .inl () =>
    some true)
def ro : Nat → bx → Option Bool
  | 0 => fun _ => none
  | k + 1 => u1 (ro k)
def u3 (a0 : bx) : Option Bool := ro cP a0
def Al (a0 : bx) (a1 : Int) (self : bx → Int → Option Bool) (i33 : Int) : Unit → Option (Br Unit Bool)
  | () =>
  (bo a0.Kids i33).bind fun x39 =>
    (self x39 a1).bind fun r40 =>
    (if (!r40) then some (Br.ret false) else some (.next ()))
def u4 (self : bx → Int → Option Bool) (a0 : bx) (a1 : Int) : Option Bool :=
  ((if (a0.Op == 0) then some (a0.Op == 0) else some (a0.Op == 1))).bind fun y2 =>
    (if y2 then some (((a0.Kids.length : Int) == 0) && ((a0.F == 0) && (a0.N == 0))) else (if (a0.Op == 2) then some (((a0.Kids.length : Int) == 0) && ((decide (a0.F ≥ 0)) && (decide (a0.F < 8)))) else (if (a0.Op == 3) then some (((a0.Kids.length : Int) == 0) && ((decide (a0.F ≥ 0)) && (decide (a0.F < a1)))) else (if (a0.Op == 5) then some (((a0.Kids.length : Int) == 0) && ((decide (a0.F ≥ 1)) && (decide (a0.F < 8)))) else (if (a0.Op == 4) then ((if ((a0.Kids.length : Int) == 1) then (if (a0.F == 0) then (if (a0.N == 0) then (bo a0.Kids 0).bind fun x20 =>
    (u3 x20).bind fun r21 =>
    (if r21 then (self x20 a1).bind fun r23 =>
    some r23 else some false) else some false) else some false) else some false)).bind fun y24 =>
    some y24 else ((if (a0.Op == 6) then some (a0.Op == 6) else some (a0.Op == 7))).bind fun y27 =>
    (if y27 then (if ((decide ((a0.Kids.length : Int) < 2)) || ((a0.F != 0) || (a0.N != 0))) then some false else (cd (Al a0 a1 self) (bF 0 (a0.Kids.length : Int)) ()).bind fun q42 => match q42 with
    | .ret r => some r
    | .done () =>
    some true) else some false))))))
def rp : Nat → bx → Int → Option Bool
  | 0 => fun _ _ => none
  | k + 1 => u4 (rp k)
def oZ (a0 : bx) (a1 : Int) : Option Bool := rp cP a0 a1
def u5 (a0 : (List cm)) (a1 : Int) (i1 : Int) : Unit → Option (Br Unit Bool)
  | () =>
  (bo a0 i1).bind fun x7 =>
    ((if decide (x7.F < 0) then some true else (if decide (x7.F ≥ a1) then some true else (if decide (i1 > 0) then (bo a0 (IntKind.i64.wrap (i1 - 1))).bind fun x11 =>
    some (decide (x11.F ≥ x7.F)) else some false)))).bind fun y12 =>
    (if y12 then some (Br.ret false) else some (.next ()))
def kA (a0 : (List cm)) (a1 : Int) : Option Bool :=
  (cd (u5 a0 a1) (bF 0 (a0.length : Int)) ()).bind fun q15 => match q15 with
    | .ret r => some r
    | .done () =>
    some true
def u6 (a0 : bO) (i12 : Int) : Unit → Option (Br Unit Int)
  | () =>
  (bo a0.Rules i12).bind fun x18 =>
    ((if decide ((x18.When.length : Int) < 2) then some true else (bo x18.When 0).bind fun x20 =>
    (if (x20.F != 0) then some true else (bo x18.When 1).bind fun x22 =>
    (if (x22.F != 1) then some true else (kA x18.When 8).bind fun r24 =>
    (if (!r24) then some true else (kA x18.Guard (a0.Init.length : Int)).bind fun r26 =>
    (if (!r26) then some true else (kA x18.Then (a0.Init.length : Int)).bind fun r28 =>
    (if (!r28) then some true else some ((x18.Then.length : Int) == 0)))))))).bind fun y30 =>
    (if y30 then some (Br.ret 11) else some (.next ()))
def o0 (a0 : bO) : Option Int :=
  ((if decide ((a0.Init.length : Int) < 1) then some true else (if decide ((a0.Init.length : Int) > 4) then some true else (oX a0.Pol).bind fun r3 =>
    (if decide (r3 > 300) then some true else (oY a0.Pol).bind fun r5 =>
    (if decide (r5 > 20) then some true else some (decide ((a0.Rules.length : Int) > 24))))))).bind fun y7 =>
    (if y7 then some 2 else (oZ a0.Pol (a0.Init.length : Int)).bind fun r10 =>
    (if (!r10) then some 11 else (cd (u6 a0) (bF 0 (a0.Rules.length : Int)) ()).bind fun q33 => match q33 with
    | .ret r => some r
    | .done () =>
    some 0))
def u7 (a0 : cH) (a1 : (List Int)) (i1 : Int) : Unit → Option (Br Unit Bool)
  | () =>
  (bo a0.Guard i1).bind fun x7 =>
    ((if decide (x7.F < 0) then some true else (if decide (x7.F ≥ (a1.length : Int)) then some true else (bo a1 x7.F).bind fun x10 =>
    some (x10 != x7.N)))).bind fun y11 =>
    (if y11 then some (Br.ret false) else some (.next ()))
def o1 (a0 : cH) (a1 : (List Int)) : Option Bool :=
  (cd (u7 a0 a1) (bF 0 (a0.Guard.length : Int)) ()).bind fun q14 => match q14 with
    | .ret r => some r
    | .done () =>
    some true
def rq (a0 : cH) (i3 : Int) : (List Int) → Option (List Int)
  | l2 =>
  ((bo a0.Then i3).bind fun x9 =>
    (if ((decide (x9.F ≥ 0)) && (decide (x9.F < (l2.length : Int)))) then (bo l2 x9.F).bind fun x12 =>
    (ef l2 x9.F x9.N).bind fun l13 =>
    some l13 else some l2)).bind fun l14 =>
    some l14
def mU (a0 : cH) (a1 : (List Int)) : Option (List Int) :=
  (dD ([] : List Int) a1).bind fun l1 =>
    (da (rq a0) (bF 0 (a0.Then.length : Int)) l1).bind fun z16 =>
    some z16
def u9 (a0 : (List Int)) (a1 : (List Int)) (i2 : Int) : Unit → Option (Br Unit Bool)
  | () =>
  (bo a0 i2).bind fun x8 =>
    (bo a1 i2).bind fun x9 =>
    (if (x8 != x9) then some (Br.ret false) else some (.next ()))
def ji (a0 : (List Int)) (a1 : (List Int)) : Option Bool :=
  (if ((a0.length : Int) != (a1.length : Int)) then some false else (cd (u9 a0 a1) (bF 0 (a0.length : Int)) ()).bind fun q11 => match q11 with
    | .ret r => some r
    | .done () =>
    some true)
def va (a0 : (List (List Int))) (a1 : (List Int)) (i1 : Int) : Unit → Option (Br Unit Int)
  | () =>
  (bo a0 i1).bind fun x7 =>
    (ji x7 a1).bind fun r8 =>
    (if r8 then some (Br.ret i1) else some (.next ()))
def mW (a0 : (List (List Int))) (a1 : (List Int)) : Option Int :=
  (cd (va a0 a1) (bF 0 (a0.length : Int)) ()).bind fun q10 => match q10 with
    | .ret r => some r
    | .done () =>
    some (-1)
def o5 (a0 : bC) (l9 : (List Bool)) (i10 : Int) (i17 : Int) : Bool → Option Bool
  | y16 =>
  ((bo a0.Edges i17).bind fun x23 =>
    ((if (x23.From == i10) then (bo l9 x23.To).bind fun x25 =>
    some (!x25) else some false)).bind fun y26 =>
    (if y26 then some false else some y16)).bind fun y29 =>
    some y29
def o6 (a0 : bC) (i10 : Int) : (List Bool) → Option (List Bool)
  | l9 =>
  (da (o5 a0 l9 i10) (bF 0 (a0.Edges.length : Int)) true).bind fun z31 =>
    (bo l9 i10).bind fun x32 =>
    ((if x32 then (ef l9 i10 true).bind fun l34 =>
    some l34 else (ef l9 i10 z31).bind fun l35 =>
    some l35)).bind fun l36 =>
    some l36
def o7 (a0 : bC) (i3 : Int) : (List Bool) → Option (List Bool)
  | l2 =>
  (da (o6 a0) (bF 0 (a0.States.length : Int)) l2).bind fun z39 =>
    some z39
def vc (z41 : (List Bool)) (i42 : Int) : Unit → Option (Br Unit Bool)
  | () =>
  (bo z41 i42).bind fun x48 =>
    (if (!x48) then some (Br.ret true) else some (.next ()))
def lA (a0 : bC) : Option Bool :=
  (iE (a0.States.length : Int) false).bind fun l1 =>
    (da (o7 a0) (bF 0 (a0.States.length : Int)) l1).bind fun z41 =>
    (cd (vc z41) (bF 0 (z41.length : Int)) ()).bind fun q50 => match q50 with
    | .ret r => some r
    | .done () =>
    some false
def jB (a0 : bO) (i6 : Int) (i11 : Int) : ((List (List Int)) × (List aO)) → Option (Br ((List (List Int)) × (List aO)) (Br ((List (List Int)) × (List aO) × Int) (bC × Int)))
  | (l9, l10) =>
  (((bo a0.Rules i11).bind fun x17 =>
    (bo l9 i6).bind fun x18 =>
    (o1 x17 x18).bind fun r19 =>
    (if (!r19) then some (.inl (l9, l10)) else (mU x17 x18).bind fun r21 =>
    (ji r21 x18).bind fun r22 =>
    (if r22 then some (.inl (l9, l10)) else (mW l9 r21).bind fun r24 =>
    ((if decide (r24 < 0) then (dD l9 ([r21] : List (List Int))).bind fun l26 =>
    some (l26, (l9.length : Int)) else some (l9, r24))).bind fun (l27, y28) =>
    (if decide ((l27.length : Int) > 128) then some (Sum.inr (Br.ret (Br.ret ((bC.mk [] []), 21)))) else (dD l10 ([(aO.mk i6 i11 y28)] : List aO)).bind fun l31 =>
    some (.inl (l27, l31))))) : Option (((List (List Int)) × (List aO)) ⊕ (Br ((List (List Int)) × (List aO)) (Br ((List (List Int)) × (List aO) × Int) (bC × Int)))))).bind fun q34 => match q34 with
    | .inr r => some r
    | .inl (l32, l33) =>
    some (.next (l32, l33))
def iH (a0 : bO) : ((List (List Int)) × (List aO) × Int) → Option (Br ((List (List Int)) × (List aO) × Int) (bC × Int))
  | (l4, l5, i6) =>
  (if decide (i6 < (l4.length : Int)) then (cd (jB a0 i6) (bF 0 (a0.Rules.length : Int)) (l4, l5)).bind fun q37 => match q37 with
    | .ret r => some r
    | .done (z35, z36) =>
    some (.next (z35, z36, IntKind.i64.wrap (i6 + 1))) else some (.brk (l4, l5, i6)))
def mX (a0 : bO) : Option (bC × Int) :=
  (o0 a0).bind fun r1 =>
    (if (r1 != 0) then some ((bC.mk [] []), r1) else (dD ([] : List Int) a0.Init).bind fun l3 =>
    (dL (iH a0) cP (([l3] : List (List Int)), ([] : List aO), 0)).bind fun q43 => match q43 with
    | .ret r => some r
    | .done (z38, z39, z40) =>
    (lA (bC.mk z38 z39)).bind fun r41 =>
    (if r41 then some ((bC.mk [] []), 20) else some ((bC.mk z38 z39), 0)))
def vd (i2 : Int) : Int → Option Int
  | i1 =>
  some (IntKind.u64.wrap (2 * i1))
def mY (a0 : Int) : Option Int :=
  (da vd (bF 0 a0) 1).bind fun z8 =>
    some z8
def lB (a0 : Int) (a1 : Int) : Option Bool :=
  ((if decide (a1 ≥ 0) then (if decide (a1 < 64) then (mY a1).bind fun r3 =>
    (mA .u64 a0 r3).bind fun q4 =>
    some ((q4.tmod 2) == 1) else some false) else some false)).bind fun y5 =>
    some y5
def rt (a0 : aU) (a1 : Int) (a2 : Int) (i2 : Int) : Int → Option Int
  | i1 =>
  ((bo a0.Events i2).bind fun x8 =>
    ((if (x8.Rule == a2) then (lB a1 i2).bind fun r10 =>
    some r10 else some false)).bind fun y11 =>
    (if y11 then some (IntKind.i64.wrap (i1 + 1)) else some i1)).bind fun y14 =>
    some y14
def o8 (a0 : aU) (a1 : Int) (a2 : Int) : Option Int :=
  (da (rt a0 a1 a2) (bF 0 (a0.Events.length : Int)) 0).bind fun z16 =>
    some z16
def ve (a0 : (List bu)) (a1 : bu) (i1 : Int) : Unit → Option (Br Unit Int)
  | () =>
  (bo a0 i1).bind fun x7 =>
    (if (x7 == a1) then some (Br.ret i1) else some (.next ()))
def o9 (a0 : (List bu)) (a1 : bu) : Option Int :=
  (cd (ve a0 a1) (bF 0 (a0.length : Int)) ()).bind fun q9 => match q9 with
    | .ret r => some r
    | .done () =>
    some (-1)
def kB (a0 : Int) (a1 : Int) : Option Int :=
  ((if decide (a1 < 0) then some true else (if decide (a1 > 63) then some true else (lB a0 a1).bind fun r3 =>
    some r3))).bind fun y4 =>
    (if y4 then some a0 else (mY a1).bind fun r7 =>
    some (IntKind.u64.wrap (a0 + r7)))
def vf (a0 : aU) (a1 : Int) (i1 : Int) : Unit → Option (Br Unit Int)
  | () =>
  (bo a0.Sets i1).bind fun x7 =>
    (if (x7 == a1) then some (Br.ret i1) else some (.next ()))
def lC (a0 : aU) (a1 : Int) : Option Int :=
  (cd (vf a0 a1) (bF 0 (a0.Sets.length : Int)) ()).bind fun q9 => match q9 with
    | .ret r => some r
    | .done () =>
    some (-1)
def mZ (a1 : bC) (i5 : Int) (r9 : Int) (i13 : Int) : ((List bu) × (List Int) × (List (List Int))) → Option (Br ((List bu) × (List Int) × (List (List Int))) (Br ((List bu) × (List Int) × (List (List Int)) × Int) (aU × Int)))
  | (l10, l11, l12) =>
  (((bo a1.Edges i13).bind fun x19 =>
    (if (x19.From != r9) then some (.inl (l10, l11, l12)) else (bo l11 i5).bind fun x21 =>
    (o8 (aU.mk l10 l11 l12) x21 x19.Rule).bind fun r22 =>
    (o9 l10 (bu.mk x19.Rule r22)).bind fun r23 =>
    ((if decide (r23 < 0) then (dD l10 ([(bu.mk x19.Rule r22)] : List bu)).bind fun l25 =>
    some (l25, (l10.length : Int)) else some (l10, r23))).bind fun (l26, y27) =>
    (if decide (y27 > 63) then some (Sum.inr (Br.ret (Br.ret ((aU.mk [] [] []), 21)))) else (kB x21 y27).bind fun r30 =>
    (lC (aU.mk l26 l11 l12) r30).bind fun r31 =>
    (if decide (r31 ≥ 0) then (bo l12 r31).bind fun x33 =>
    (bo a1.States x19.To).bind fun x34 =>
    (ji x33 x34).bind fun r35 =>
    (if (!r35) then some (Sum.inr (Br.ret (Br.ret ((aU.mk [] [] []), 22)))) else some (.inl (l26, l11, l12))) else (dD l11 ([r30] : List Int)).bind fun l37 =>
    (bo a1.States x19.To).bind fun x38 =>
    (dD l12 ([x38] : List (List Int))).bind fun l39 =>
    (if decide ((l37.length : Int) > 256) then some (Sum.inr (Br.ret (Br.ret ((aU.mk [] [] []), 21)))) else some (.inl (l26, l37, l39)))))) : Option (((List bu) × (List Int) × (List (List Int))) ⊕ (Br ((List bu) × (List Int) × (List (List Int))) (Br ((List bu) × (List Int) × (List (List Int)) × Int) (aU × Int)))))).bind fun q44 => match q44 with
    | .inr r => some r
    | .inl (l41, l42, l43) =>
    some (.next (l41, l42, l43))
def kC (a1 : bC) : ((List bu) × (List Int) × (List (List Int)) × Int) → Option (Br ((List bu) × (List Int) × (List (List Int)) × Int) (aU × Int))
  | (l2, l3, l4, i5) =>
  (if decide (i5 < (l3.length : Int)) then (bo l4 i5).bind fun x8 =>
    (mW a1.States x8).bind fun r9 =>
    (cd (mZ a1 i5 r9) (bF 0 (a1.Edges.length : Int)) (l2, l3, l4)).bind fun q48 => match q48 with
    | .ret r => some r
    | .done (z45, z46, z47) =>
    some (.next (z45, z46, z47, IntKind.i64.wrap (i5 + 1))) else some (.brk (l2, l3, l4, i5)))
def m8 (a0 : bO) (a1 : bC) : Option (aU × Int) :=
  (bo a1.States 0).bind fun x1 =>
    (dL (kC a1) cP (([] : List bu), ([0] : List Int), ([x1] : List (List Int)), 0)).bind fun q53 => match q53 with
    | .ret r => some r
    | .done (z49, z50, z51, z52) =>
    some ((aU.mk z49 z50 z51), 0)
def vg (a0 : bC) (a1 : Int) (a2 : (List Int)) (a3 : (List Int)) (i1 : Int) : Unit → Option (Br Unit Bool)
  | () =>
  (bo a0.Edges i1).bind fun x7 =>
    ((if (x7.Rule == a1) then (bo a0.States x7.From).bind fun x9 =>
    (ji x9 a2).bind fun r10 =>
    (if r10 then (bo a0.States x7.To).bind fun x12 =>
    (ji x12 a3).bind fun r13 =>
    some r13 else some false) else some false)).bind fun y14 =>
    (if y14 then some (Br.ret true) else some (.next ()))
def pa (a0 : bC) (a1 : Int) (a2 : (List Int)) (a3 : (List Int)) : Option Bool :=
  (cd (vg a0 a1 a2 a3) (bF 0 (a0.Edges.length : Int)) ()).bind fun q17 => match q17 with
    | .ret r => some r
    | .done () =>
    some false
def vk (a0 : aU) (a1 : Int) (i1 : Int) : Unit → Option (Br Unit Bool)
  | () =>
  (bo a0.Sets i1).bind fun x7 =>
    (if ((aQ .u64 a1 x7) == a1) then some (Br.ret true) else some (.next ()))
def m9 (a0 : aU) (a1 : Int) : Option Bool :=
  (cd (vk a0 a1) (bF 0 (a0.Sets.length : Int)) ()).bind fun q9 => match q9 with
    | .ret r => some r
    | .done () =>
    some false
def vl (a0 : aU) (a1 : bC) (i1 : Int) (i7 : Int) : Unit → Option (Br Unit (Br Unit Bool))
  | () =>
  (bo a0.Sets i1).bind fun x13 =>
    (kB x13 i7).bind fun r14 =>
    (lC a0 r14).bind fun r15 =>
    ((if decide (r15 ≥ 0) then (if (r15 != i1) then (bo a0.Events i7).bind fun x18 =>
    (bo a0.States i1).bind fun x19 =>
    (bo a0.States r15).bind fun x20 =>
    (pa a1 x18.Rule x19 x20).bind fun r21 =>
    some (!r21) else some false) else some false)).bind fun y22 =>
    (if y22 then some (Br.ret (Br.ret false)) else some (.next ()))
def ru (a0 : aU) (i1 : Int) (i25 : Int) : Unit → Option (Br Unit (Br Unit Bool))
  | () =>
  (bo a0.Sets i1).bind fun x31 =>
    (bo a0.Sets i25).bind fun x32 =>
    (lC a0 (cQ .u64 x31 x32)).bind fun r33 =>
    ((if decide (r33 < 0) then (m9 a0 (cQ .u64 x31 x32)).bind fun r35 =>
    some r35 else some false)).bind fun y36 =>
    (if y36 then some (Br.ret (Br.ret false)) else some (.next ()))
def vm (a0 : aU) (a1 : bC) (i1 : Int) : Unit → Option (Br Unit Bool)
  | () =>
  (cd (vl a0 a1 i1) (bF 0 (a0.Events.length : Int)) ()).bind fun q40 => match q40 with
    | .ret r => some r
    | .done () =>
    (cd (ru a0 i1) (bF 0 i1) ()).bind fun q39 => match q39 with
    | .ret r => some r
    | .done () =>
    some (.next ())
def pb (a0 : aU) (a1 : bC) : Option Bool :=
  (cd (vm a0 a1) (bF 0 (a0.Sets.length : Int)) ()).bind fun q41 => match q41 with
    | .ret r => some r
    | .done () =>
    some true
def rv (x9 : cH) (i10 : Int) : Unit → Option (Br Unit Int)
  | () =>
  (bo x9.When i10).bind fun x16 =>
    (if (x16.F == 0) then some (Br.ret (IntKind.i64.wrap x16.N)) else some (.next ()))
def pc (a0 : bO) (a1 : aU) (a2 : Int) : Option Int :=
  ((if decide (a2 < 0) then some true else (if decide (a2 ≥ (a1.Events.length : Int)) then some true else (bo a1.Events a2).bind fun x3 =>
    (if decide (x3.Rule < 0) then some true else some (decide (x3.Rule ≥ (a0.Rules.length : Int))))))).bind fun y5 =>
    (if y5 then some (-1) else (bo a1.Events a2).bind fun x8 =>
    (bo a0.Rules x8.Rule).bind fun x9 =>
    (cd (rv x9) (bF 0 (x9.When.length : Int)) ()).bind fun q18 => match q18 with
    | .ret r => some r
    | .done () =>
    some (-1))
def vn (a0 : (List Int)) (a1 : Int) (i1 : Int) : Unit → Option (Br Unit (List Int))
  | () =>
  (bo a0 i1).bind fun x7 =>
    (if (x7 == a1) then some (Br.ret a0) else some (.next ()))
def pd (a0 : (List Int)) (a1 : Int) : Option (List Int) :=
  (cd (vn a0 a1) (bF 0 (a0.length : Int)) ()).bind fun q10 => match q10 with
    | .ret r => some r
    | .done () =>
    (dD a0 ([a1] : List Int)).bind fun l9 =>
    some l9
def rx (l1 : (List Int)) (r9 : Int) : Int → Option (Int ⊕ Int)
  | i10 =>
  ((if decide (i10 < (l1.length : Int)) then (bo l1 i10).bind fun x13 =>
    some (x13 != r9) else some false)).bind fun y14 =>
    (if y14 then some (.inl (IntKind.i64.wrap (i10 + 1))) else some (.inr i10))
def nb (a0 : bO) (a1 : aU) (i3 : Int) : ((List Int) × (List Int)) → Option ((List Int) × (List Int))
  | (l1, l2) =>
  (pc a0 a1 i3).bind fun r9 =>
    (jy (rx l1 r9) cP 0).bind fun z17 =>
    ((if (z17 == (l1.length : Int)) then (dD l1 ([r9] : List Int)).bind fun l19 =>
    (dD l2 ([0] : List Int)).bind fun l20 =>
    some (l19, l20) else some (l1, l2))).bind fun (l21, l22) =>
    (bo l22 z17).bind fun x24 =>
    (kB x24 i3).bind fun r25 =>
    (ef l22 z17 r25).bind fun l26 =>
    some (l21, l26)
def ry (a1 : aU) (i38 : Int) (i45 : Int) : Bool → Option Bool
  | y44 =>
  ((if y44 then (if (i45 == i38) then some true else (bo a1.Sets i38).bind fun x53 =>
    (bo a1.Sets i45).bind fun x54 =>
    some ((aQ .u64 x53 x54) != x53)) else some false)).bind fun y55 =>
    some y55
def pe (a1 : aU) (z29 : (List Int)) (i31 : Int) (i38 : Int) : (List Int) → Option (List Int)
  | l37 =>
  ((da (ry a1 i38) (bF 0 (a1.Sets.length : Int)) true).bind fun z57 =>
    (if z57 then (bo a1.Sets i38).bind fun x59 =>
    (bo z29 i31).bind fun x60 =>
    (pd l37 (aQ .u64 x59 x60)).bind fun r61 =>
    some r61 else some l37)).bind fun l63 =>
    some l63
def rz (a1 : aU) (z29 : (List Int)) (i31 : Int) : (List (List Int)) → Option (List (List Int))
  | l30 =>
  (da (pe a1 z29 i31) (bF 0 (a1.Sets.length : Int)) ([] : List Int)).bind fun z65 =>
    (dD l30 ([z65] : List (List Int))).bind fun l66 =>
    some l66
def pf (a0 : bO) (a1 : aU) : Option (List (List Int)) :=
  (da (nb a0 a1) (bF 0 (a1.Events.length : Int)) (([] : List Int), ([] : List Int))).bind fun (z28, z29) =>
    (da (rz a1 z29) (bF 0 (z29.length : Int)) ([] : List (List Int))).bind fun z68 =>
    some z68
def rA (r1 : (List (List Int))) (i3 : Int) : Int → Option Int
  | i2 =>
  (bo r1 i3).bind fun x9 =>
    some (n8 (IntKind.i64.wrap (i2 * (x9.length : Int))) 20001)
def rB (y12 : (List Int)) (i20 : Int) (x28 : (List Int)) (i27 : Int) : (List Int) → Option (List Int)
  | l26 =>
  (bo y12 i20).bind fun x34 =>
    (bo x28 i27).bind fun x35 =>
    (dD l26 ([cQ .u64 x34 x35] : List Int)).bind fun l36 =>
    some l36
def rC (r1 : (List (List Int))) (y12 : (List Int)) (i13 : Int) (i20 : Int) : (List Int) → Option (List Int)
  | l19 =>
  (bo r1 i13).bind fun x28 =>
    (da (rB y12 i20 x28) (bF 0 (x28.length : Int)) l19).bind fun z37 =>
    some z37
def rD (r1 : (List (List Int))) (i13 : Int) : (List Int) → Option (List Int)
  | y12 =>
  (da (rC r1 y12 i13) (bF 0 (y12.length : Int)) ([] : List Int)).bind fun z39 =>
    some z39
def vo (a1 : aU) (z41 : (List Int)) (i42 : Int) : Unit → Option (Br Unit Int)
  | () =>
  (bo z41 i42).bind fun x48 =>
    (m9 a1 x48).bind fun r49 =>
    (if (!r49) then some (Br.ret 23) else some (.next ()))
def pg (a0 : bO) (a1 : aU) : Option Int :=
  (pf a0 a1).bind fun r1 =>
    (da (rA r1) (bF 0 (r1.length : Int)) 1).bind fun z10 =>
    (if decide (z10 > 20000) then some 21 else (da (rD r1) (bF 0 (r1.length : Int)) ([0] : List Int)).bind fun z41 =>
    (cd (vo a1 z41) (bF 0 (z41.length : Int)) ()).bind fun q51 => match q51 with
    | .ret r => some r
    | .done () =>
    some 0)
def ph (a0 : bO) : Option (aU × Int) :=
  (mX a0).bind fun r1 =>
    (if (r1.2 != 0) then some ((aU.mk [] [] []), r1.2) else (m8 a0 r1.1).bind fun r3 =>
    (if (r3.2 != 0) then some ((aU.mk [] [] []), r3.2) else (pb r3.1 r1.1).bind fun r5 =>
    (if (!r5) then some ((aU.mk [] [] []), 22) else (pg a0 r3.1).bind fun r7 =>
    (if (r7 != 0) then some ((aU.mk [] [] []), r7) else some (r3.1, 0)))))
def vp (a0 : aU) (a1 : aU) (i4 : Int) : Unit → Option (Br Unit Bool)
  | () =>
  (bo a0.Events i4).bind fun x10 =>
    (bo a1.Events i4).bind fun x11 =>
    (if (!(x10 == x11)) then some (Br.ret false) else some (.next ()))
def vq (a0 : aU) (a1 : aU) (i13 : Int) : Unit → Option (Br Unit Bool)
  | () =>
  (bo a0.Sets i13).bind fun x19 =>
    (bo a1.Sets i13).bind fun x20 =>
    (if (x19 != x20) then some (Br.ret false) else some (.next ()))
def vr (a0 : aU) (a1 : aU) (i22 : Int) : Unit → Option (Br Unit Bool)
  | () =>
  (bo a0.States i22).bind fun x28 =>
    (bo a1.States i22).bind fun x29 =>
    (ji x28 x29).bind fun r30 =>
    (if (!r30) then some (Br.ret false) else some (.next ()))
def pi (a0 : aU) (a1 : aU) : Option Bool :=
  (if (((a0.Events.length : Int) != (a1.Events.length : Int)) || (((a0.Sets.length : Int) != (a1.Sets.length : Int)) || ((a0.States.length : Int) != (a1.States.length : Int)))) then some false else (cd (vp a0 a1) (bF 0 (a0.Events.length : Int)) ()).bind fun q34 => match q34 with
    | .ret r => some r
    | .done () =>
    (cd (vq a0 a1) (bF 0 (a0.Sets.length : Int)) ()).bind fun q33 => match q33 with
    | .ret r => some r
    | .done () =>
    (cd (vr a0 a1) (bF 0 (a0.States.length : Int)) ()).bind fun q32 => match q32 with
    | .ret r => some r
    | .done () =>
    some true)
def pj (a0 : bO) : Option Bool :=
  (rh).bind fun r1 =>
    (if (!r1) then some false else (oW (bO.mk a0.Init (bx.mk 0 0 0 []) a0.Rules)).bind fun r3 =>
    (if (!r3) then some true else (kz (bO.mk a0.Init (bx.mk 0 0 0 []) a0.Rules)).bind fun r5 =>
    (ph (bO.mk a0.Init (bx.mk 0 0 0 []) a0.Rules)).bind fun r6 =>
    ((if (r5.2 == r6.2) then (pi r5.1 r6.1).bind fun r8 =>
    some r8 else some false)).bind fun y9 =>
    some y9))
end Go.AM
