import Derived.Test.YtjdaaclkihjjnaaDoorAmN8
import Derived.Test.YtjdaaclkihjjnaaDoorAmW
import Derived.Test.YtjdaaclkihjjnaaDoorCtT
import Derived.Test.YtjdaaclkihjjnaaDoorProg
/-  What they are in the program: data and code. -/
set_option linter.unusedVariables false
set_option linter.unusedSimpArgs false
namespace Go.AM
open Go Go.RowKit Go.Proofs

instance tabs : Glob := ⟨[(0, gtab0)]⟩
@[reducible] def gp0 : D := .cptr (some 64) (.agg (gtab0.map (D.int .u8))) 0

mutual
def eapi_Pol : api_Pol → D
  | ⟨y0, y1, y2, y3⟩ => .agg [(D.int .i64) y0, (D.int .i64) y1, (D.int .u16) y2, .vec (some 4) (eapi_PolL y3)]
def eapi_PolL : List api_Pol → List D
  | [] => []
  | x :: l => eapi_Pol x :: eapi_PolL l
end

theorem eapi_PolL_eq : ∀ l : List api_Pol, eapi_PolL l = l.map eapi_Pol
  | [] => by simp [eapi_PolL]
  | x :: l => by simp [eapi_PolL, eapi_PolL_eq l]

def uapi_Pol (x : api_Pol) : D := .agg [D.int .i64 x.Op, D.int .i64 x.F, D.int .u16 x.N, eL (some 4) eapi_Pol x.Kids]

theorem eu_api_Pol (x : api_Pol) : eapi_Pol x = uapi_Pol x := by
  cases x
  simp [eapi_Pol, uapi_Pol, eL, eapi_PolL_eq]

def eapi_Pair (x : api_Pair) : D := .agg ((D.int .i64) x.F :: ((D.int .u16) x.N :: []))

def eapi_Rule (x : api_Rule) : D := .agg ((eL (some 2) eapi_Pair) x.When :: ((eL (some 2) eapi_Pair) x.Guard :: ((eL (some 2) eapi_Pair) x.Then :: [])))

def eapi_Program (x : api_Program) : D := .agg ((eL none (D.int .u16)) x.Init :: ((uapi_Pol x.Pol).cells ++ ((eL (some 3) eapi_Rule) x.Rules :: [])))

def eapi_Event (x : api_Event) : D := .agg ((D.int .i64) x.Rule :: ((D.int .i64) x.Count :: []))

def eapi_Nes (x : api_Nes) : D := .agg ((eL (some 2) eapi_Event) x.Events :: ((eL none (D.int .u64)) x.Sets :: ((eL none (eL none (D.int .u16))) x.States :: [])))

def eref18_Ctrl (x : ref18_Ctrl) : D := .agg ((eapi_Nes x.N).cells ++ ((D.int .u64) x.Known :: ((eL none (D.int .u64)) x.Heard :: ((eL none (D.int .u64)) x.Told :: ((eL none (D.int .i64)) x.Order :: [])))))

def elaw18_Act (x : law18_Act) : D := .agg ((D.int .i64) x.What :: ((D.int .i64) x.I :: ((D.int .i64) x.N :: ((D.int .u64) x.S :: []))))

def ectrl_peer (x : ctrl_peer) : D := .agg ((D.int .u64) x.heard :: ((D.int .u64) x.told :: []))

def ectrl_Ctrl (x : ctrl_Ctrl) : D := .agg ((eapi_Nes x.n_).cells ++ ((D.int .u64) x.known :: ((eL (some 2) ectrl_peer) x.peers :: ((eL none (D.int .i64)) x.order :: []))))

def eapi_Edge (x : api_Edge) : D := .agg ((D.int .i64) x.From :: ((D.int .i64) x.Rule :: ((D.int .i64) x.To :: [])))

def eapi_Space (x : api_Space) : D := .agg ((eL none (eL none (D.int .u16))) x.States :: ((eL (some 3) eapi_Edge) x.Edges :: []))

theorem eqS_api_Event (x y : api_Event) : eqSV [.int, .int] (.d (eapi_Event x)) (.d (eapi_Event y)) = some (x == y) := by
  refine (eqSV_agg rfl rfl (eqT_cons rfl (eqT_cons rfl rfl))).trans (congrArg some ?_)
  rw [Bool.eq_iff_iff]
  obtain ⟨x0, x1⟩ := x
  obtain ⟨y0, y1⟩ := y
  simp [ba_toList_inj, and_assoc]

/-- pointsman/ctrl.New -/
def a8 : AFn := .mk 12
 (.seq (.ops false [
 oo 2 (.box (some 3) (.t 0) true),
 oo 4 (.mov (.c (.nilp)))])
 (.seq (.ops true [
 oo 5 (.ldI (some 3) (.t 2)),
 oo 6 (.mov (.t 1)),
 oo 7 (.max2 (.t 6) (ci 0)),
 oo 8 (.min2 (.t 7) (ci 12)),
 oo 9 (.mkslice (some 2) (.agg [.int .u64 0, .int .u64 0]) (.t 8) (.t 8)),
 oo 10 (.build [.vec (some 2) [], .vec none [], .vec none [], .int .u64 0, .nils, .nils] [(0, 3, (.t 5)), (4, 1, (.t 9))]),
 oo 11 (.box (some 6) (.t 10) false),
 oo 4 (.mov (.t 11))])
 (.ret)))
 [.t 4]

set_option maxRecDepth 100000 in
theorem ok8 : chkFn Tryd.prog 8 a8 = true := by kernel_rfl

/-- (*pointsman/ctrl.Ctrl).has -/
def a26 : AFn := .mk 20
 (.seq (.ops false [
 oo 4 (.mov (.c (.bool false)))])
 (.seq (.ops false [
 oo 5 (.mov (.t 0)),
 oo 6 (.eqN true 0 (.t 5) (.c (.nilp))),
 oo 7 (.mov (.t 6)),
 ⟨some 8, .mov (.t 1), some (7, true)⟩,
 ⟨some 9, .bin .geq (.t 8) (ci 0), some (7, true)⟩,
 oo 10 (.pick (.t 7) (.t 9) (.c (.bool false))),
 oo 11 (.mov (.t 10)),
 ⟨some 12, .mov (.t 1), some (11, true)⟩,
 ⟨some 13, .mov (.t 0), some (11, true)⟩,
 ⟨some 14, .nilchk (.t 13), some (11, true)⟩,
 ⟨some 15, .faddr 4 (.t 14), some (11, true)⟩,
 ⟨some 16, .load none (.t 15), some (11, true)⟩,
 ⟨some 17, .len (.t 16), some (11, true)⟩,
 ⟨some 18, .bin .lss (.t 12) (.t 17), some (11, true)⟩,
 oo 19 (.pick (.t 11) (.t 18) (.c (.bool false))),
 oo 4 (.mov (.t 19))])
 (.ret)))
 [.t 4]

set_option maxRecDepth 100000 in
theorem ok26 : chkFn Tryd.prog 26 a26 = true := by kernel_rfl

def b47_0 : ACode :=
 (.seq (.ops false [
 oo 9 (.bin .lss (.t 8) (.t 7))])
 (.seq (.cond (.t 9)
 (.skip)
 (.exit 0))
 (.seq (.block 1 (.seq (.ops false [
 oo 10 (.mov (.t 8)),
 oo 5 (.mov (.t 10))])
 (.seq (.ops false [
 oo 11 (.mov (.t 1)),
 oo 12 (.mov (.t 0)),
 oo 13 (.mov (.t 5)),
 oo 14 (.iaddr none (.t 12) (.t 13)),
 oo 15 (.load none (.t 14)),
 oo 16 (.bin .eql (.t 11) (.t 15))])
 (.cond (.t 16)
 (.seq (.ops false [
 oo 17 (.mov (.t 5)),
 oo 4 (.mov (.t 17))])
 (.ret))
 (.skip)))))
 (.ops false [
 oo 18 (.bin .add (.t 8) (ci 1)),
 oo 8 (.mov (.t 18))]))))

/-- slices.Index[[]pointsman/api.Set,pointsman/api.Set] -/
def a47 : AFn := .mk 19
 (.seq (.ops false [
 oo 4 (.mov (ci 0))])
 (.seq (.seq (.ops false [
 oo 6 (.mov (.t 0)),
 oo 7 (.len (.t 6)),
 oo 8 (.mov (ci 0))])
 (.block 0 (.loop b47_0)))
 (.seq (.ops false [
 oo 4 (.mov (ci (-1)))])
 (.ret))))
 [.t 4]

set_option maxRecDepth 100000 in
theorem ok47 : chkFn Tryd.prog 47 a47 = true := by kernel_rfl

/-- pointsman/nes.Tag -/
def a30 : AFn := .mk 16
 (.seq (.ops false [
 oo 2 (.box (some 3) (.t 0) true),
 oo 4 (.mov (.c (.int .u16 0))),
 oo 5 (.mov (.c (.bool false)))])
 (.seq (.ops false [
 oo 7 (.faddr 1 (.t 2)),
 oo 8 (.ldI none (.t 7)),
 oo 9 (.mov (.t 1)),
 oo 10 (.call false 47 [(.t 8), (.t 9)]),
 oo 6 (.mov (.t 10))])
 (.seq (.ops false [
 oo 11 (.mov (.t 6)),
 oo 12 (.max2 (.t 11) (ci 0)),
 oo 13 (.convI .u16 (.t 12)),
 oo 14 (.mov (.t 6)),
 oo 15 (.bin .geq (.t 14) (ci 0)),
 oo 4 (.mov (.t 13)),
 oo 5 (.mov (.t 15))])
 (.ret))))
 [.t 4, .t 5]

set_option maxRecDepth 100000 in
theorem ok30 : chkFn Tryd.prog 30 a30 = true := by kernel_rfl

/-- (*pointsman/ctrl.Ctrl).fits -/
def a27 : AFn := .mk 17
 (.seq (.ops false [
 oo 4 (.mov (.c (.bool false)))])
 (.seq (.ops false [
 oo 8 (.mov (.t 0)),
 oo 9 (.nilchk (.t 8)),
 oo 10 (.faddr 0 (.t 9)),
 oo 11 (.load (some 3) (.t 10)),
 oo 12 (.mov (.t 1)),
 oo 13 (.call false 30 [(.t 11), (.t 12)]),
 oo 7 (.mov (.t 13)),
 oo 14 (.extract (.t 7) 0),
 oo 15 (.extract (.t 7) 1),
 oo 5 (.mov (.t 14)),
 oo 6 (.mov (.t 15))])
 (.seq (.ops false [
 oo 16 (.mov (.t 6)),
 oo 4 (.mov (.t 16))])
 (.ret))))
 [.t 4]

set_option maxRecDepth 100000 in
theorem ok27 : chkFn Tryd.prog 27 a27 = true := by kernel_rfl

/-- math/bits.TrailingZeros64 -/
def a54 : AFn := .mk 14
 (.seq (.ops false [
 oo 2 (.mov (ci 0))])
 (.seq (.seq (.ops false [
 oo 3 (.mov (.t 0)),
 oo 4 (.bin .eql (.t 3) (.c (.int .u64 0)))])
 (.cond (.t 4)
 (.seq (.ops false [
 oo 2 (.mov (ci 64))])
 (.ret))
 (.skip)))
 (.seq (.ops false [
 oo 5 (.mov (.t 0)),
 oo 6 (.mov (.t 0)),
 oo 7 (.un .neg (.t 6)),
 oo 8 (.bin .and (.t 5) (.t 7)),
 oo 9 (.bin .mul (.t 8) (.c (.int .u64 285870213051353865))),
 oo 10 (.bin .shr (.t 9) (.c (.int .u64 58))),
 oo 11 (.iaddrA 64 none (.c (gp0)) (.t 10)),
 oo 12 (.load none (.t 11)),
 oo 13 (.convI .i64 (.t 12)),
 oo 2 (.mov (.t 13))])
 (.ret))))
 [.t 2]

set_option maxRecDepth 100000 in
theorem ok54 : chkFn Tryd.prog 54 a54 = true := by kernel_rfl

/-- pointsman/events.First -/
def a45 : AFn := .mk 8
 (.seq (.ops false [
 oo 2 (.mov (ci 0)),
 oo 3 (.mov (.c (.bool false)))])
 (.seq (.seq (.ops false [
 oo 4 (.mov (.t 0)),
 oo 5 (.bin .eql (.t 4) (.c (.int .u64 0)))])
 (.cond (.t 5)
 (.seq (.ops false [
 oo 2 (.mov (ci 0)),
 oo 3 (.mov (.c (.bool false)))])
 (.ret))
 (.skip)))
 (.seq (.ops false [
 oo 6 (.mov (.t 0)),
 oo 7 (.call false 54 [(.t 6)]),
 oo 2 (.mov (.t 7)),
 oo 3 (.mov (.c (.bool true)))])
 (.ret))))
 [.t 2, .t 3]

set_option maxRecDepth 100000 in
theorem ok45 : chkFn Tryd.prog 45 a45 = true := by kernel_rfl

/-- pointsman/events.bit -/
def a55 : AFn := .mk 11
 (.seq (.ops false [
 oo 2 (.mov (.c (.int .u64 0)))])
 (.seq (.seq (.ops false [
 oo 3 (.mov (.t 0)),
 oo 4 (.bin .lss (.t 3) (ci 0)),
 oo 5 (.mov (.t 4)),
 ⟨some 6, .mov (.t 0), some (5, false)⟩,
 ⟨some 7, .bin .geq (.t 6) (ci 64), some (5, false)⟩,
 oo 8 (.pick (.t 5) (.c (.bool true)) (.t 7))])
 (.cond (.t 8)
 (.seq (.ops false [
 oo 2 (.mov (.c (.int .u64 0)))])
 (.ret))
 (.skip)))
 (.seq (.ops false [
 oo 9 (.mov (.t 0)),
 oo 10 (.bin .shl (.c (.int .u64 1)) (.t 9)),
 oo 2 (.mov (.t 10))])
 (.ret))))
 [.t 2]

set_option maxRecDepth 100000 in
theorem ok55 : chkFn Tryd.prog 55 a55 = true := by kernel_rfl

/-- pointsman/events.Without -/
def a46 : AFn := .mk 9
 (.seq (.ops false [
 oo 4 (.mov (.c (.int .u64 0)))])
 (.seq (.ops false [
 oo 5 (.mov (.t 0)),
 oo 6 (.mov (.t 1)),
 oo 7 (.call false 55 [(.t 6)]),
 oo 8 (.bin .andNot (.t 5) (.t 7)),
 oo 4 (.mov (.t 8))])
 (.ret)))
 [.t 4]

set_option maxRecDepth 100000 in
theorem ok46 : chkFn Tryd.prog 46 a46 = true := by kernel_rfl

def b28_0 : ACode :=
 (.seq (.seq (.ops false [
 oo 11 (.mov (.t 5))])
 (.cond (.t 11)
 (.skip)
 (.exit 0)))
 (.seq (.block 1 (.seq (.ops false [
 oo 17 (.mov (.t 3)),
 oo 18 (.mov (.t 4)),
 oo 19 (.bsliceI none [(.t 18)]),
 oo 20 (.append none (.t 17) (.t 19) false),
 oo 3 (.mov (.t 20))])
 (.ops false [
 oo 21 (.mov (.t 0)),
 oo 22 (.mov (.t 4)),
 oo 23 (.call false 46 [(.t 21), (.t 22)]),
 oo 0 (.mov (.t 23))])))
 (.ops false [
 oo 13 (.mov (.t 0)),
 oo 14 (.call false 45 [(.t 13)]),
 oo 12 (.mov (.t 14)),
 oo 15 (.extract (.t 12) 0),
 oo 16 (.extract (.t 12) 1),
 oo 4 (.mov (.t 15)),
 oo 5 (.mov (.t 16))])))

/-- pointsman/events.List -/
def a28 : AFn := .mk 25
 (.seq (.ops false [
 oo 2 (.mov (.c (.vec none [])))])
 (.seq (.ops false [
 oo 3 (.mov (.c (.nils)))])
 (.seq (.seq (.ops false [
 oo 7 (.mov (.t 0)),
 oo 8 (.call false 45 [(.t 7)]),
 oo 6 (.mov (.t 8)),
 oo 9 (.extract (.t 6) 0),
 oo 10 (.extract (.t 6) 1),
 oo 4 (.mov (.t 9)),
 oo 5 (.mov (.t 10))])
 (.block 0 (.loop b28_0)))
 (.seq (.ops false [
 oo 24 (.mov (.t 3)),
 oo 2 (.mov (.t 24))])
 (.ret)))))
 [.t 2]

set_option maxRecDepth 100000 in
theorem ok28 : chkFn Tryd.prog 28 a28 = true := by kernel_rfl

/-- (*pointsman/ctrl.Ctrl).Hear -/
def a13 : AFn := .mk 57
 (.seq (.ops false [
 oo 6 (.mov (ci 0))])
 (.seq (.block 0 (.seq (.ops false [
 oo 8 (.mov (.t 0)),
 oo 9 (.mov (.t 1)),
 oo 10 (.call true 26 [(.t 8), (.t 9)]),
 oo 11 (.un .not (.t 10)),
 oo 7 (.mov (.t 11))])
 (.cond (.t 7)
 (.seq (.ops false [
 oo 6 (.mov (ci 1))])
 (.ret))
 (.seq (.seq (.ops false [
 oo 13 (.mov (.t 0)),
 oo 14 (.mov (.t 2)),
 oo 15 (.call true 27 [(.t 13), (.t 14)]),
 oo 16 (.un .not (.t 15)),
 oo 12 (.mov (.t 16))])
 (.cond (.t 12)
 (.skip)
 (.ops false [
 oo 17 (.mov (.t 0)),
 oo 18 (.mov (.t 0)),
 oo 19 (.nilchk (.t 18)),
 oo 20 (.faddr 3 (.t 19)),
 oo 21 (.load none (.t 20)),
 oo 22 (.mov (.t 2)),
 oo 23 (.bin .or (.t 21) (.t 22)),
 oo 24 (.call true 27 [(.t 17), (.t 23)]),
 oo 25 (.un .not (.t 24)),
 oo 12 (.mov (.t 25))])))
 (.cond (.t 12)
 (.seq (.ops false [
 oo 6 (.mov (ci 31))])
 (.ret))
 (.skip))))))
 (.seq (.ops true [
 oo 26 (.mov (.t 0)),
 oo 27 (.mov (.t 0)),
 oo 28 (.nilchk (.t 27)),
 oo 29 (.faddr 5 (.t 28)),
 oo 30 (.load none (.t 29)),
 oo 31 (.mov (.t 2)),
 oo 32 (.mov (.t 0)),
 oo 33 (.nilchk (.t 32)),
 oo 34 (.faddr 3 (.t 33)),
 oo 35 (.load none (.t 34)),
 oo 36 (.bin .andNot (.t 31) (.t 35)),
 oo 37 (.call false 28 [(.t 36)]),
 oo 38 (.append none (.t 30) (.t 37) false),
 oo 39 (.nilchk (.t 26)),
 oo 40 (.faddr 5 (.t 39)),
 ⟨none, .store none (.t 40) (.t 38), none⟩])
 (.seq (.ops false [
 oo 41 (.mov (.t 0)),
 oo 42 (.nilchk (.t 41)),
 oo 43 (.faddr 3 (.t 42)),
 oo 44 (.load none (.t 43)),
 oo 45 (.mov (.t 2)),
 oo 46 (.bin .or (.t 44) (.t 45)),
 oo 47 (.nilchk (.t 41)),
 oo 48 (.faddr 3 (.t 47)),
 ⟨none, .store none (.t 48) (.t 46), none⟩])
 (.seq (.ops false [
 oo 49 (.mov (.t 0)),
 oo 50 (.nilchk (.t 49)),
 oo 51 (.faddr 4 (.t 50)),
 oo 52 (.load none (.t 51)),
 oo 53 (.mov (.t 1)),
 oo 54 (.mov (.t 2)),
 oo 55 (.iaddr (some 2) (.t 52) (.t 53)),
 oo 56 (.faddr 0 (.t 55)),
 ⟨none, .store none (.t 56) (.t 54), none⟩])
 (.seq (.ops false [
 oo 6 (.mov (ci 0))])
 (.ret)))))))
 [.t 6]

set_option maxRecDepth 100000 in
theorem ok13 : chkFn Tryd.prog 13 a13 = true := by kernel_rfl

/-- (*pointsman/ctrl.Ctrl).Tell -/
def a11 : AFn := .mk 25
 (.seq (.ops false [
 oo 4 (.mov (.c (.int .u64 0))),
 oo 5 (.mov (ci 0))])
 (.seq (.seq (.ops false [
 oo 6 (.mov (.t 0)),
 oo 7 (.mov (.t 1)),
 oo 8 (.call true 26 [(.t 6), (.t 7)]),
 oo 9 (.un .not (.t 8))])
 (.cond (.t 9)
 (.seq (.ops false [
 oo 4 (.mov (.c (.int .u64 0))),
 oo 5 (.mov (ci 1))])
 (.ret))
 (.skip)))
 (.seq (.ops true [
 oo 10 (.mov (.t 0)),
 oo 11 (.nilchk (.t 10)),
 oo 12 (.faddr 4 (.t 11)),
 oo 13 (.load none (.t 12)),
 oo 14 (.mov (.t 1)),
 oo 15 (.mov (.t 0)),
 oo 16 (.nilchk (.t 15)),
 oo 17 (.faddr 3 (.t 16)),
 oo 18 (.load none (.t 17)),
 oo 19 (.iaddr (some 2) (.t 13) (.t 14)),
 oo 20 (.faddr 1 (.t 19)),
 ⟨none, .store none (.t 20) (.t 18), none⟩])
 (.seq (.ops false [
 oo 21 (.mov (.t 0)),
 oo 22 (.nilchk (.t 21)),
 oo 23 (.faddr 3 (.t 22)),
 oo 24 (.load none (.t 23)),
 oo 4 (.mov (.t 24)),
 oo 5 (.mov (ci 0))])
 (.ret)))))
 [.t 4, .t 5]

set_option maxRecDepth 100000 in
theorem ok11 : chkFn Tryd.prog 11 a11 = true := by kernel_rfl

/-- (*pointsman/ctrl.Ctrl).Known -/
def a15 : AFn := .mk 9
 (.seq (.ops false [
 oo 2 (.mov (.c (.int .u64 0)))])
 (.seq (.seq (.ops false [
 oo 3 (.mov (.t 0)),
 oo 4 (.eqN false 0 (.t 3) (.c (.nilp)))])
 (.cond (.t 4)
 (.seq (.ops false [
 oo 2 (.mov (.c (.int .u64 0)))])
 (.ret))
 (.skip)))
 (.seq (.ops false [
 oo 5 (.mov (.t 0)),
 oo 6 (.nilchk (.t 5)),
 oo 7 (.faddr 3 (.t 6)),
 oo 8 (.load none (.t 7)),
 oo 2 (.mov (.t 8))])
 (.ret))))
 [.t 2]

set_option maxRecDepth 100000 in
theorem ok15 : chkFn Tryd.prog 15 a15 = true := by kernel_rfl

/-- (*pointsman/ctrl.Ctrl).Tag -/
def a16 : AFn := .mk 20
 (.seq (.ops false [
 oo 2 (.mov (.c (.int .u16 0)))])
 (.seq (.seq (.ops false [
 oo 5 (.mov (.t 0)),
 oo 6 (.eqN false 0 (.t 5) (.c (.nilp)))])
 (.cond (.t 6)
 (.seq (.ops false [
 oo 2 (.mov (.c (.int .u16 0)))])
 (.ret))
 (.skip)))
 (.seq (.ops true [
 oo 8 (.mov (.t 0)),
 oo 9 (.nilchk (.t 8)),
 oo 10 (.faddr 0 (.t 9)),
 oo 11 (.load (some 3) (.t 10)),
 oo 12 (.mov (.t 0)),
 oo 13 (.nilchk (.t 12)),
 oo 14 (.faddr 3 (.t 13)),
 oo 15 (.load none (.t 14)),
 oo 16 (.call false 30 [(.t 11), (.t 15)]),
 oo 7 (.mov (.t 16)),
 oo 17 (.extract (.t 7) 0),
 oo 18 (.extract (.t 7) 1),
 oo 3 (.mov (.t 17)),
 oo 4 (.mov (.t 18))])
 (.seq (.ops false [
 oo 19 (.mov (.t 3)),
 oo 2 (.mov (.t 19))])
 (.ret)))))
 [.t 2]

set_option maxRecDepth 100000 in
theorem ok16 : chkFn Tryd.prog 16 a16 = true := by kernel_rfl

/-- slices.Clone[[]int,int] -/
def a29 : AFn := .mk 8
 (.seq (.ops false [
 oo 2 (.mov (.c (.nils)))])
 (.seq (.seq (.ops false [
 oo 3 (.mov (.t 0)),
 oo 4 (.eqN false 1 (.t 3) (.c (.nils)))])
 (.cond (.t 4)
 (.seq (.ops false [
 oo 2 (.mov (.c (.nils)))])
 (.ret))
 (.skip)))
 (.seq (.ops false [
 oo 5 (.bslice none [] true),
 oo 6 (.mov (.t 0)),
 oo 7 (.append none (.t 5) (.t 6) true),
 oo 2 (.mov (.t 7))])
 (.ret))))
 [.t 2]

set_option maxRecDepth 100000 in
theorem ok29 : chkFn Tryd.prog 29 a29 = true := by kernel_rfl

/-- (*pointsman/ctrl.Ctrl).Order -/
def a14 : AFn := .mk 10
 (.seq (.ops false [
 oo 2 (.mov (.c (.vec none [])))])
 (.seq (.seq (.ops false [
 oo 3 (.mov (.t 0)),
 oo 4 (.eqN false 0 (.t 3) (.c (.nilp)))])
 (.cond (.t 4)
 (.seq (.ops false [
 oo 2 (.mov (.c (.vec none [])))])
 (.ret))
 (.skip)))
 (.seq (.ops false [
 oo 5 (.mov (.t 0)),
 oo 6 (.nilchk (.t 5)),
 oo 7 (.faddr 5 (.t 6)),
 oo 8 (.load none (.t 7)),
 oo 9 (.call true 29 [(.t 8)]),
 oo 2 (.mov (.t 9))])
 (.ret))))
 [.t 2]

set_option maxRecDepth 100000 in
theorem ok14 : chkFn Tryd.prog 14 a14 = true := by kernel_rfl

/-- pointsman/pointsmanlaw18.awake -/
def a5 : AFn := .mk 53
 (.seq (.ops false [
 oo 0 (.mov (.c (.bool false)))])
 (.seq (.ops false [
 oo 6 (.build [.int .i64 0, .int .i64 0] []),
 oo 7 (.bsliceI (some 2) [(.t 6)]),
 oo 8 (.bsliceI none [(.c (.int .u64 0)), (.c (.int .u64 1))]),
 oo 9 (.bsliceI none [(.c (.int .u16 0))]),
 oo 10 (.bsliceI none [(.c (.int .u16 1))]),
 oo 11 (.bsliceI none [(.t 9), (.t 10)]),
 oo 12 (.build [.vec (some 2) [], .vec none [], .vec none []] [(0, 1, (.t 7)), (1, 1, (.t 8)), (2, 1, (.t 11))]),
 oo 13 (.call true 8 [(.t 12), (ci 2)]),
 oo 1 (.mov (.t 13))])
 (.seq (.ops false [
 oo 14 (.mov (.t 1)),
 oo 15 (.call true 13 [(.t 14), (ci 0), (.c (.int .u64 1))]),
 oo 16 (.mov (.t 1)),
 oo 17 (.call true 13 [(.t 16), (ci 0), (.c (.int .u64 2))]),
 oo 2 (.mov (.t 15)),
 oo 3 (.mov (.t 17))])
 (.seq (.ops false [
 oo 19 (.mov (.t 1)),
 oo 20 (.call true 11 [(.t 19), (ci 1)]),
 oo 18 (.mov (.t 20)),
 oo 21 (.extract (.t 18) 0),
 oo 22 (.extract (.t 18) 1),
 oo 4 (.mov (.t 21)),
 oo 5 (.mov (.t 22))])
 (.seq (.ops false [
 oo 23 (.mov (.t 2)),
 oo 24 (.bin .eql (.t 23) (ci 0)),
 oo 25 (.mov (.t 24)),
 ⟨some 26, .mov (.t 3), some (25, true)⟩,
 ⟨some 27, .bin .eql (.t 26) (ci 31), some (25, true)⟩,
 oo 28 (.pick (.t 25) (.t 27) (.c (.bool false))),
 oo 29 (.mov (.t 28)),
 ⟨some 30, .mov (.t 5), some (29, true)⟩,
 ⟨some 31, .bin .eql (.t 30) (ci 0), some (29, true)⟩,
 oo 32 (.pick (.t 29) (.t 31) (.c (.bool false))),
 oo 33 (.mov (.t 32)),
 ⟨some 34, .mov (.t 4), some (33, true)⟩,
 ⟨some 35, .bin .eql (.t 34) (.c (.int .u64 1)), some (33, true)⟩,
 oo 36 (.pick (.t 33) (.t 35) (.c (.bool false))),
 oo 37 (.mov (.t 36)),
 ⟨some 38, .mov (.t 1), some (37, true)⟩,
 ⟨some 39, .call true 15 [(.t 38)], some (37, true)⟩,
 ⟨some 40, .bin .eql (.t 39) (.c (.int .u64 1)), some (37, true)⟩,
 oo 41 (.pick (.t 37) (.t 40) (.c (.bool false))),
 oo 42 (.mov (.t 41)),
 ⟨some 43, .mov (.t 1), some (42, true)⟩,
 ⟨some 44, .call true 16 [(.t 43)], some (42, true)⟩,
 ⟨some 45, .bin .eql (.t 44) (.c (.int .u16 1)), some (42, true)⟩,
 oo 46 (.pick (.t 42) (.t 45) (.c (.bool false))),
 oo 47 (.mov (.t 46)),
 ⟨some 48, .mov (.t 1), some (47, true)⟩,
 ⟨some 49, .call true 14 [(.t 48)], some (47, true)⟩,
 ⟨some 50, .len (.t 49), some (47, true)⟩,
 ⟨some 51, .bin .eql (.t 50) (ci 1), some (47, true)⟩,
 oo 52 (.pick (.t 47) (.t 51) (.c (.bool false))),
 oo 0 (.mov (.t 52))])
 (.ret))))))
 [.t 0]

set_option maxRecDepth 100000 in
theorem ok5 : chkFn Tryd.prog 5 a5 = true := by kernel_rfl

def b6_0 : ACode :=
 (.seq (.ops false [
 oo 19 (.bin .lss (.t 18) (.t 17))])
 (.seq (.cond (.t 19)
 (.skip)
 (.exit 0))
 (.seq (.block 1 (.seq (.ops false [
 oo 20 (.iaddr (some 3) (.t 16) (.t 18)),
 oo 21 (.load (some 3) (.t 20)),
 oo 4 (.alloc [.vec (some 2) [], .vec (some 2) [], .vec (some 2) []]),
 ⟨none, .store (some 3) (.t 4) (.t 21), none⟩])
 (.seq (.ops false [
 oo 22 (.faddr 0 (.t 4)),
 oo 23 (.load none (.t 22)),
 oo 24 (.len (.t 23)),
 oo 25 (.bin .gtr (.t 24) (ci 8)),
 oo 26 (.mov (.t 25)),
 ⟨some 27, .faddr 1 (.t 4), some (26, false)⟩,
 ⟨some 28, .load none (.t 27), some (26, false)⟩,
 ⟨some 29, .len (.t 28), some (26, false)⟩,
 ⟨some 30, .bin .gtr (.t 29) (ci 6), some (26, false)⟩,
 oo 31 (.pick (.t 26) (.c (.bool true)) (.t 30)),
 oo 32 (.mov (.t 31)),
 ⟨some 33, .faddr 2 (.t 4), some (32, false)⟩,
 ⟨some 34, .load none (.t 33), some (32, false)⟩,
 ⟨some 35, .len (.t 34), some (32, false)⟩,
 ⟨some 36, .bin .gtr (.t 35) (ci 6), some (32, false)⟩,
 oo 37 (.pick (.t 32) (.c (.bool true)) (.t 36))])
 (.cond (.t 37)
 (.seq (.ops false [
 oo 2 (.mov (.c (.bool false)))])
 (.ret))
 (.skip)))))
 (.ops false [
 oo 38 (.bin .add (.t 18) (ci 1)),
 oo 18 (.mov (.t 38))]))))

/-- pointsman/pointsmanlaw11.Small -/
def a6 : AFn := .mk 39
 (.seq (.ops false [
 oo 1 (.box (some 6) (.t 0) true),
 oo 2 (.mov (.c (.bool false)))])
 (.seq (.seq (.ops false [
 oo 5 (.faddr 0 (.t 1)),
 oo 6 (.ldI none (.t 5)),
 oo 7 (.len (.t 6)),
 oo 8 (.bin .gtr (.t 7) (ci 5)),
 oo 9 (.mov (.t 8)),
 ⟨some 10, .faddr 5 (.t 1), some (9, false)⟩,
 ⟨some 11, .ldI none (.t 10), some (9, false)⟩,
 ⟨some 12, .len (.t 11), some (9, false)⟩,
 ⟨some 13, .bin .gtr (.t 12) (ci 26), some (9, false)⟩,
 oo 14 (.pick (.t 9) (.c (.bool true)) (.t 13))])
 (.cond (.t 14)
 (.seq (.ops false [
 oo 2 (.mov (.c (.bool false)))])
 (.ret))
 (.skip)))
 (.seq (.seq (.ops false [
 oo 15 (.faddr 5 (.t 1)),
 oo 16 (.ldI none (.t 15)),
 oo 17 (.len (.t 16)),
 oo 18 (.mov (ci 0))])
 (.block 0 (.loop b6_0)))
 (.seq (.ops false [
 oo 2 (.mov (.c (.bool true)))])
 (.ret)))))
 [.t 2]

set_option maxRecDepth 100000 in
theorem ok6 : chkFn Tryd.prog 6 a6 = true := by kernel_rfl

def b48_0 : ACode :=
 (.seq (.seq (.ops false [
 oo 5 (.mov (.t 4)),
 oo 6 (.faddr 3 (.t 1)),
 oo 7 (.ldI none (.t 6)),
 oo 8 (.len (.t 7)),
 oo 9 (.bin .lss (.t 5) (.t 8))])
 (.cond (.t 9)
 (.skip)
 (.exit 0)))
 (.seq (.block 1 (.ops false [
 oo 12 (.mov (.t 3)),
 oo 13 (.faddr 3 (.t 1)),
 oo 14 (.ldI none (.t 13)),
 oo 15 (.mov (.t 4)),
 oo 16 (.iaddr (some 4) (.t 14) (.t 15)),
 oo 17 (.load (some 4) (.t 16)),
 oo 18 (.call false 48 [(.t 17)]),
 oo 19 (.bin .add (.t 12) (.t 18)),
 oo 3 (.mov (.t 19))]))
 (.ops false [
 oo 10 (.mov (.t 4)),
 oo 11 (.bin .add (.t 10) (ci 1)),
 oo 4 (.mov (.t 11))])))

/-- pointsman/pointsmanref05.Size -/
def a48 : AFn := .mk 21
 (.seq (.ops false [
 oo 1 (.box (some 4) (.t 0) true),
 oo 2 (.mov (ci 0))])
 (.seq (.ops false [
 oo 3 (.mov (ci 1))])
 (.seq (.seq (.ops false [
 oo 4 (.mov (ci 0))])
 (.block 0 (.loop b48_0)))
 (.seq (.ops false [
 oo 20 (.mov (.t 3)),
 oo 2 (.mov (.t 20))])
 (.ret)))))
 [.t 2]

set_option maxRecDepth 100000 in
theorem ok48 : chkFn Tryd.prog 48 a48 = true := by kernel_rfl

def b49_0 : ACode :=
 (.seq (.seq (.ops false [
 oo 5 (.mov (.t 4)),
 oo 6 (.faddr 3 (.t 1)),
 oo 7 (.ldI none (.t 6)),
 oo 8 (.len (.t 7)),
 oo 9 (.bin .lss (.t 5) (.t 8))])
 (.cond (.t 9)
 (.skip)
 (.exit 0)))
 (.seq (.block 1 (.ops false [
 oo 12 (.mov (.t 3)),
 oo 13 (.faddr 3 (.t 1)),
 oo 14 (.ldI none (.t 13)),
 oo 15 (.mov (.t 4)),
 oo 16 (.iaddr (some 4) (.t 14) (.t 15)),
 oo 17 (.load (some 4) (.t 16)),
 oo 18 (.call false 49 [(.t 17)]),
 oo 19 (.max2 (.t 12) (.t 18)),
 oo 3 (.mov (.t 19))]))
 (.ops false [
 oo 10 (.mov (.t 4)),
 oo 11 (.bin .add (.t 10) (ci 1)),
 oo 4 (.mov (.t 11))])))

/-- pointsman/pointsmanref05.Depth -/
def a49 : AFn := .mk 22
 (.seq (.ops false [
 oo 1 (.box (some 4) (.t 0) true),
 oo 2 (.mov (ci 0))])
 (.seq (.ops false [
 oo 3 (.mov (ci 0))])
 (.seq (.seq (.ops false [
 oo 4 (.mov (ci 0))])
 (.block 0 (.loop b49_0)))
 (.seq (.ops false [
 oo 20 (.mov (.t 3)),
 oo 21 (.bin .add (.t 20) (ci 1)),
 oo 2 (.mov (.t 21))])
 (.ret)))))
 [.t 2]

set_option maxRecDepth 100000 in
theorem ok49 : chkFn Tryd.prog 49 a49 = true := by kernel_rfl

def b56_0 : ACode :=
 (.seq (.seq (.ops false [
 oo 25 (.mov (.t 3)),
 oo 26 (.faddr 3 (.t 1)),
 oo 27 (.ldI none (.t 26)),
 oo 28 (.len (.t 27)),
 oo 29 (.bin .lss (.t 25) (.t 28))])
 (.cond (.t 29)
 (.skip)
 (.exit 0)))
 (.seq (.block 1 (.seq (.ops false [
 oo 32 (.faddr 3 (.t 1)),
 oo 33 (.ldI none (.t 32)),
 oo 34 (.mov (.t 3)),
 oo 35 (.iaddr (some 4) (.t 33) (.t 34)),
 oo 36 (.load (some 4) (.t 35)),
 oo 37 (.call false 56 [(.t 36)]),
 oo 38 (.un .not (.t 37))])
 (.cond (.t 38)
 (.seq (.ops false [
 oo 2 (.mov (.c (.bool false)))])
 (.ret))
 (.skip))))
 (.ops false [
 oo 30 (.mov (.t 3)),
 oo 31 (.bin .add (.t 30) (ci 1)),
 oo 3 (.mov (.t 31))])))

/-- pointsman/pointsmanref05.Predicate -/
def a56 : AFn := .mk 39
 (.seq (.ops false [
 oo 1 (.box (some 4) (.t 0) true),
 oo 2 (.mov (.c (.bool false)))])
 (.seq (.seq (.ops false [
 oo 4 (.faddr 0 (.t 1)),
 oo 5 (.ldI none (.t 4)),
 oo 6 (.bin .eql (.t 5) (ci 5)),
 oo 7 (.mov (.t 6)),
 ⟨some 8, .faddr 0 (.t 1), some (7, false)⟩,
 ⟨some 9, .ldI none (.t 8), some (7, false)⟩,
 ⟨some 10, .bin .lss (.t 9) (ci 0), some (7, false)⟩,
 oo 11 (.pick (.t 7) (.c (.bool true)) (.t 10)),
 oo 12 (.mov (.t 11)),
 ⟨some 13, .faddr 0 (.t 1), some (12, false)⟩,
 ⟨some 14, .ldI none (.t 13), some (12, false)⟩,
 ⟨some 15, .bin .gtr (.t 14) (ci 7), some (12, false)⟩,
 oo 16 (.pick (.t 12) (.c (.bool true)) (.t 15))])
 (.cond (.t 16)
 (.seq (.ops false [
 oo 2 (.mov (.c (.bool false)))])
 (.ret))
 (.skip)))
 (.seq (.seq (.ops false [
 oo 17 (.faddr 0 (.t 1)),
 oo 18 (.ldI none (.t 17)),
 oo 19 (.bin .eql (.t 18) (ci 6)),
 oo 20 (.mov (.t 19)),
 ⟨some 21, .faddr 0 (.t 1), some (20, false)⟩,
 ⟨some 22, .ldI none (.t 21), some (20, false)⟩,
 ⟨some 23, .bin .eql (.t 22) (ci 7), some (20, false)⟩,
 oo 24 (.pick (.t 20) (.c (.bool true)) (.t 23))])
 (.cond (.t 24)
 (.seq (.ops false [
 oo 3 (.mov (ci 0))])
 (.block 0 (.loop b56_0)))
 (.skip)))
 (.seq (.ops false [
 oo 2 (.mov (.c (.bool true)))])
 (.ret)))))
 [.t 2]

set_option maxRecDepth 100000 in
theorem ok56 : chkFn Tryd.prog 56 a56 = true := by kernel_rfl

def b50_0 : ACode :=
 (.seq (.seq (.ops false [
 oo 114 (.mov (.t 6)),
 oo 115 (.mov (.t 5)),
 oo 116 (.bin .lss (.t 114) (.t 115))])
 (.cond (.t 116)
 (.skip)
 (.exit 1)))
 (.seq (.block 2 (.seq (.ops false [
 oo 119 (.faddr 3 (.t 2)),
 oo 120 (.ldI none (.t 119)),
 oo 121 (.mov (.t 6)),
 oo 122 (.iaddr (some 4) (.t 120) (.t 121)),
 oo 123 (.load (some 4) (.t 122)),
 oo 124 (.mov (.t 1)),
 oo 125 (.call false 50 [(.t 123), (.t 124)]),
 oo 126 (.un .not (.t 125))])
 (.cond (.t 126)
 (.seq (.ops false [
 oo 4 (.mov (.c (.bool false)))])
 (.ret))
 (.skip))))
 (.ops false [
 oo 117 (.mov (.t 6)),
 oo 118 (.bin .add (.t 117) (ci 1)),
 oo 6 (.mov (.t 118))])))

/-- pointsman/pointsmanref05.formed -/
def a50 : AFn := .mk 127
 (.seq (.ops false [
 oo 2 (.box (some 4) (.t 0) true),
 oo 4 (.mov (.c (.bool false)))])
 (.seq (.ops false [
 oo 7 (.faddr 3 (.t 2)),
 oo 8 (.ldI none (.t 7)),
 oo 9 (.len (.t 8)),
 oo 5 (.mov (.t 9))])
 (.seq (.seq (.ops false [
 oo 10 (.faddr 0 (.t 2)),
 oo 11 (.ldI none (.t 10))])
 (.block 0 (.seq (.seq (.ops false [
 oo 13 (.bin .eql (.t 11) (ci 0)),
 oo 12 (.mov (.t 13))])
 (.cond (.t 12)
 (.skip)
 (.ops false [
 oo 14 (.bin .eql (.t 11) (ci 1)),
 oo 12 (.mov (.t 14))])))
 (.cond (.t 12)
 (.seq (.ops false [
 oo 15 (.mov (.t 5)),
 oo 16 (.bin .eql (.t 15) (ci 0)),
 oo 17 (.mov (.t 16)),
 ⟨some 18, .faddr 1 (.t 2), some (17, true)⟩,
 ⟨some 19, .ldI none (.t 18), some (17, true)⟩,
 ⟨some 20, .bin .eql (.t 19) (ci 0), some (17, true)⟩,
 oo 21 (.pick (.t 17) (.t 20) (.c (.bool false))),
 oo 22 (.mov (.t 21)),
 ⟨some 23, .faddr 2 (.t 2), some (22, true)⟩,
 ⟨some 24, .ldI none (.t 23), some (22, true)⟩,
 ⟨some 25, .bin .eql (.t 24) (.c (.int .u16 0)), some (22, true)⟩,
 oo 26 (.pick (.t 22) (.t 25) (.c (.bool false))),
 oo 4 (.mov (.t 26))])
 (.ret))
 (.seq (.ops false [
 oo 28 (.bin .eql (.t 11) (ci 2)),
 oo 27 (.mov (.t 28))])
 (.cond (.t 27)
 (.seq (.ops false [
 oo 29 (.mov (.t 5)),
 oo 30 (.bin .eql (.t 29) (ci 0)),
 oo 31 (.mov (.t 30)),
 ⟨some 32, .faddr 1 (.t 2), some (31, true)⟩,
 ⟨some 33, .ldI none (.t 32), some (31, true)⟩,
 ⟨some 34, .bin .geq (.t 33) (ci 0), some (31, true)⟩,
 oo 35 (.pick (.t 31) (.t 34) (.c (.bool false))),
 oo 36 (.mov (.t 35)),
 ⟨some 37, .faddr 1 (.t 2), some (36, true)⟩,
 ⟨some 38, .ldI none (.t 37), some (36, true)⟩,
 ⟨some 39, .bin .lss (.t 38) (ci 8), some (36, true)⟩,
 oo 40 (.pick (.t 36) (.t 39) (.c (.bool false))),
 oo 4 (.mov (.t 40))])
 (.ret))
 (.seq (.ops false [
 oo 42 (.bin .eql (.t 11) (ci 3)),
 oo 41 (.mov (.t 42))])
 (.cond (.t 41)
 (.seq (.ops false [
 oo 43 (.mov (.t 5)),
 oo 44 (.bin .eql (.t 43) (ci 0)),
 oo 45 (.mov (.t 44)),
 ⟨some 46, .faddr 1 (.t 2), some (45, true)⟩,
 ⟨some 47, .ldI none (.t 46), some (45, true)⟩,
 ⟨some 48, .bin .geq (.t 47) (ci 0), some (45, true)⟩,
 oo 49 (.pick (.t 45) (.t 48) (.c (.bool false))),
 oo 50 (.mov (.t 49)),
 ⟨some 51, .faddr 1 (.t 2), some (50, true)⟩,
 ⟨some 52, .ldI none (.t 51), some (50, true)⟩,
 ⟨some 53, .mov (.t 1), some (50, true)⟩,
 ⟨some 54, .bin .lss (.t 52) (.t 53), some (50, true)⟩,
 oo 55 (.pick (.t 50) (.t 54) (.c (.bool false))),
 oo 4 (.mov (.t 55))])
 (.ret))
 (.seq (.ops false [
 oo 57 (.bin .eql (.t 11) (ci 5)),
 oo 56 (.mov (.t 57))])
 (.cond (.t 56)
 (.seq (.ops false [
 oo 58 (.mov (.t 5)),
 oo 59 (.bin .eql (.t 58) (ci 0)),
 oo 60 (.mov (.t 59)),
 ⟨some 61, .faddr 1 (.t 2), some (60, true)⟩,
 ⟨some 62, .ldI none (.t 61), some (60, true)⟩,
 ⟨some 63, .bin .geq (.t 62) (ci 1), some (60, true)⟩,
 oo 64 (.pick (.t 60) (.t 63) (.c (.bool false))),
 oo 65 (.mov (.t 64)),
 ⟨some 66, .faddr 1 (.t 2), some (65, true)⟩,
 ⟨some 67, .ldI none (.t 66), some (65, true)⟩,
 ⟨some 68, .bin .lss (.t 67) (ci 8), some (65, true)⟩,
 oo 69 (.pick (.t 65) (.t 68) (.c (.bool false))),
 oo 4 (.mov (.t 69))])
 (.ret))
 (.seq (.ops false [
 oo 71 (.bin .eql (.t 11) (ci 4)),
 oo 70 (.mov (.t 71))])
 (.cond (.t 70)
 (.seq (.ops false [
 oo 72 (.mov (.t 5)),
 oo 73 (.bin .eql (.t 72) (ci 1)),
 oo 74 (.mov (.t 73)),
 ⟨some 75, .faddr 1 (.t 2), some (74, true)⟩,
 ⟨some 76, .ldI none (.t 75), some (74, true)⟩,
 ⟨some 77, .bin .eql (.t 76) (ci 0), some (74, true)⟩,
 oo 78 (.pick (.t 74) (.t 77) (.c (.bool false))),
 oo 79 (.mov (.t 78)),
 ⟨some 80, .faddr 2 (.t 2), some (79, true)⟩,
 ⟨some 81, .ldI none (.t 80), some (79, true)⟩,
 ⟨some 82, .bin .eql (.t 81) (.c (.int .u16 0)), some (79, true)⟩,
 oo 83 (.pick (.t 79) (.t 82) (.c (.bool false))),
 oo 84 (.mov (.t 83)),
 ⟨some 85, .faddr 3 (.t 2), some (84, true)⟩,
 ⟨some 86, .ldI none (.t 85), some (84, true)⟩,
 ⟨some 87, .iaddr (some 4) (.t 86) (ci 0), some (84, true)⟩,
 ⟨some 88, .load (some 4) (.t 87), some (84, true)⟩,
 ⟨some 89, .call false 56 [(.t 88)], some (84, true)⟩,
 oo 90 (.pick (.t 84) (.t 89) (.c (.bool false))),
 oo 91 (.mov (.t 90)),
 ⟨some 92, .faddr 3 (.t 2), some (91, true)⟩,
 ⟨some 93, .ldI none (.t 92), some (91, true)⟩,
 ⟨some 94, .iaddr (some 4) (.t 93) (ci 0), some (91, true)⟩,
 ⟨some 95, .load (some 4) (.t 94), some (91, true)⟩,
 ⟨some 96, .mov (.t 1), some (91, true)⟩,
 ⟨some 97, .call false 50 [(.t 95), (.t 96)], some (91, true)⟩,
 oo 98 (.pick (.t 91) (.t 97) (.c (.bool false))),
 oo 4 (.mov (.t 98))])
 (.ret))
 (.seq (.seq (.ops false [
 oo 100 (.bin .eql (.t 11) (ci 6)),
 oo 99 (.mov (.t 100))])
 (.cond (.t 99)
 (.skip)
 (.ops false [
 oo 101 (.bin .eql (.t 11) (ci 7)),
 oo 99 (.mov (.t 101))])))
 (.cond (.t 99)
 (.seq (.seq (.ops false [
 oo 102 (.mov (.t 5)),
 oo 103 (.bin .lss (.t 102) (ci 2)),
 oo 104 (.mov (.t 103)),
 ⟨some 105, .faddr 1 (.t 2), some (104, false)⟩,
 ⟨some 106, .ldI none (.t 105), some (104, false)⟩,
 ⟨some 107, .bin .neq (.t 106) (ci 0), some (104, false)⟩,
 oo 108 (.pick (.t 104) (.c (.bool true)) (.t 107)),
 oo 109 (.mov (.t 108)),
 ⟨some 110, .faddr 2 (.t 2), some (109, false)⟩,
 ⟨some 111, .ldI none (.t 110), some (109, false)⟩,
 ⟨some 112, .bin .neq (.t 111) (.c (.int .u16 0)), some (109, false)⟩,
 oo 113 (.pick (.t 109) (.c (.bool true)) (.t 112))])
 (.cond (.t 113)
 (.seq (.ops false [
 oo 4 (.mov (.c (.bool false)))])
 (.ret))
 (.skip)))
 (.seq (.seq (.ops false [
 oo 6 (.mov (ci 0))])
 (.block 1 (.loop b50_0)))
 (.seq (.ops false [
 oo 4 (.mov (.c (.bool true)))])
 (.ret))))
 (.skip)))))))))))))))
 (.seq (.ops false [
 oo 4 (.mov (.c (.bool false)))])
 (.ret)))))
 [.t 4]

set_option maxRecDepth 100000 in
theorem ok50 : chkFn Tryd.prog 50 a50 = true := by kernel_rfl

def b51_0 : ACode :=
 (.seq (.seq (.ops false [
 oo 6 (.mov (.t 5)),
 oo 7 (.mov (.t 0)),
 oo 8 (.len (.t 7)),
 oo 9 (.bin .lss (.t 6) (.t 8))])
 (.cond (.t 9)
 (.skip)
 (.exit 0)))
 (.seq (.block 1 (.seq (.ops true [
 oo 12 (.mov (.t 0)),
 oo 13 (.mov (.t 5)),
 oo 14 (.iaddr (some 2) (.t 12) (.t 13)),
 oo 15 (.faddr 0 (.t 14)),
 oo 16 (.load none (.t 15)),
 oo 17 (.bin .lss (.t 16) (ci 0)),
 oo 18 (.mov (.t 17)),
 ⟨some 19, .mov (.t 0), some (18, false)⟩,
 ⟨some 20, .mov (.t 5), some (18, false)⟩,
 ⟨some 21, .iaddr (some 2) (.t 19) (.t 20), some (18, false)⟩,
 ⟨some 22, .faddr 0 (.t 21), some (18, false)⟩,
 ⟨some 23, .load none (.t 22), some (18, false)⟩,
 ⟨some 24, .mov (.t 1), some (18, false)⟩,
 ⟨some 25, .bin .geq (.t 23) (.t 24), some (18, false)⟩,
 oo 26 (.pick (.t 18) (.c (.bool true)) (.t 25)),
 oo 27 (.mov (.t 26)),
 ⟨some 28, .mov (.t 5), some (27, false)⟩,
 ⟨some 29, .bin .gtr (.t 28) (ci 0), some (27, false)⟩,
 ⟨some 30, .mov (.t 29), some (27, false)⟩,
 ⟨some 31, .mov (.t 0), some (30, true)⟩,
 ⟨some 32, .mov (.t 5), some (30, true)⟩,
 ⟨some 33, .bin .sub (.t 32) (ci 1), some (30, true)⟩,
 ⟨some 34, .iaddr (some 2) (.t 31) (.t 33), some (30, true)⟩,
 ⟨some 35, .faddr 0 (.t 34), some (30, true)⟩,
 ⟨some 36, .load none (.t 35), some (30, true)⟩,
 ⟨some 37, .mov (.t 0), some (30, true)⟩,
 ⟨some 38, .mov (.t 5), some (30, true)⟩,
 ⟨some 39, .iaddr (some 2) (.t 37) (.t 38), some (30, true)⟩,
 ⟨some 40, .faddr 0 (.t 39), some (30, true)⟩,
 ⟨some 41, .load none (.t 40), some (30, true)⟩,
 ⟨some 42, .bin .geq (.t 36) (.t 41), some (30, true)⟩,
 ⟨some 43, .pick (.t 30) (.t 42) (.c (.bool false)), some (27, false)⟩,
 oo 44 (.pick (.t 27) (.c (.bool true)) (.t 43))])
 (.cond (.t 44)
 (.seq (.ops false [
 oo 4 (.mov (.c (.bool false)))])
 (.ret))
 (.skip))))
 (.ops false [
 oo 10 (.mov (.t 5)),
 oo 11 (.bin .add (.t 10) (ci 1)),
 oo 5 (.mov (.t 11))])))

/-- pointsman/pointsmanref05.rising -/
def a51 : AFn := .mk 45
 (.seq (.ops false [
 oo 4 (.mov (.c (.bool false)))])
 (.seq (.seq (.ops false [
 oo 5 (.mov (ci 0))])
 (.block 0 (.loop b51_0)))
 (.seq (.ops false [
 oo 4 (.mov (.c (.bool true)))])
 (.ret))))
 [.t 4]

set_option maxRecDepth 100000 in
theorem ok51 : chkFn Tryd.prog 51 a51 = true := by kernel_rfl

def b33_0 : ACode :=
 (.seq (.seq (.ops false [
 oo 40 (.mov (.t 3)),
 oo 41 (.faddr 5 (.t 1)),
 oo 42 (.ldI none (.t 41)),
 oo 43 (.len (.t 42)),
 oo 44 (.bin .lss (.t 40) (.t 43))])
 (.cond (.t 44)
 (.skip)
 (.exit 0)))
 (.seq (.block 1 (.seq (.ops false [
 oo 47 (.faddr 5 (.t 1)),
 oo 48 (.ldI none (.t 47)),
 oo 49 (.mov (.t 3)),
 oo 50 (.iaddr (some 3) (.t 48) (.t 49)),
 oo 51 (.load (some 3) (.t 50)),
 oo 4 (.alloc [.vec (some 2) [], .vec (some 2) [], .vec (some 2) []]),
 ⟨none, .store (some 3) (.t 4) (.t 51), none⟩])
 (.seq (.ops false [
 oo 52 (.faddr 0 (.t 4)),
 oo 53 (.load none (.t 52)),
 oo 54 (.len (.t 53)),
 oo 55 (.bin .lss (.t 54) (ci 2)),
 oo 56 (.mov (.t 55)),
 ⟨some 57, .faddr 0 (.t 4), some (56, false)⟩,
 ⟨some 58, .load none (.t 57), some (56, false)⟩,
 ⟨some 59, .iaddr (some 2) (.t 58) (ci 0), some (56, false)⟩,
 ⟨some 60, .faddr 0 (.t 59), some (56, false)⟩,
 ⟨some 61, .load none (.t 60), some (56, false)⟩,
 ⟨some 62, .bin .neq (.t 61) (ci 0), some (56, false)⟩,
 oo 63 (.pick (.t 56) (.c (.bool true)) (.t 62)),
 oo 64 (.mov (.t 63)),
 ⟨some 65, .faddr 0 (.t 4), some (64, false)⟩,
 ⟨some 66, .load none (.t 65), some (64, false)⟩,
 ⟨some 67, .iaddr (some 2) (.t 66) (ci 1), some (64, false)⟩,
 ⟨some 68, .faddr 0 (.t 67), some (64, false)⟩,
 ⟨some 69, .load none (.t 68), some (64, false)⟩,
 ⟨some 70, .bin .neq (.t 69) (ci 1), some (64, false)⟩,
 oo 71 (.pick (.t 64) (.c (.bool true)) (.t 70)),
 oo 72 (.mov (.t 71)),
 ⟨some 73, .faddr 0 (.t 4), some (72, false)⟩,
 ⟨some 74, .load none (.t 73), some (72, false)⟩,
 ⟨some 75, .call false 51 [(.t 74), (ci 8)], some (72, false)⟩,
 ⟨some 76, .un .not (.t 75), some (72, false)⟩,
 oo 77 (.pick (.t 72) (.c (.bool true)) (.t 76)),
 oo 78 (.mov (.t 77)),
 ⟨some 79, .faddr 1 (.t 4), some (78, false)⟩,
 ⟨some 80, .load none (.t 79), some (78, false)⟩,
 ⟨some 81, .faddr 0 (.t 1), some (78, false)⟩,
 ⟨some 82, .ldI none (.t 81), some (78, false)⟩,
 ⟨some 83, .len (.t 82), some (78, false)⟩,
 ⟨some 84, .call false 51 [(.t 80), (.t 83)], some (78, false)⟩,
 ⟨some 85, .un .not (.t 84), some (78, false)⟩,
 oo 86 (.pick (.t 78) (.c (.bool true)) (.t 85)),
 oo 87 (.mov (.t 86)),
 ⟨some 88, .faddr 2 (.t 4), some (87, false)⟩,
 ⟨some 89, .load none (.t 88), some (87, false)⟩,
 ⟨some 90, .faddr 0 (.t 1), some (87, false)⟩,
 ⟨some 91, .ldI none (.t 90), some (87, false)⟩,
 ⟨some 92, .len (.t 91), some (87, false)⟩,
 ⟨some 93, .call false 51 [(.t 89), (.t 92)], some (87, false)⟩,
 ⟨some 94, .un .not (.t 93), some (87, false)⟩,
 oo 95 (.pick (.t 87) (.c (.bool true)) (.t 94)),
 oo 96 (.mov (.t 95)),
 ⟨some 97, .faddr 2 (.t 4), some (96, false)⟩,
 ⟨some 98, .load none (.t 97), some (96, false)⟩,
 ⟨some 99, .len (.t 98), some (96, false)⟩,
 ⟨some 100, .bin .eql (.t 99) (ci 0), some (96, false)⟩,
 oo 101 (.pick (.t 96) (.c (.bool true)) (.t 100))])
 (.cond (.t 101)
 (.seq (.ops false [
 oo 2 (.mov (ci 11))])
 (.ret))
 (.skip)))))
 (.ops false [
 oo 45 (.mov (.t 3)),
 oo 46 (.bin .add (.t 45) (ci 1)),
 oo 3 (.mov (.t 46))])))

/-- pointsman/pointsmanref05.Check -/
def a33 : AFn := .mk 102
 (.seq (.ops false [
 oo 1 (.box (some 6) (.t 0) true),
 oo 2 (.mov (ci 0))])
 (.seq (.seq (.ops false [
 oo 5 (.faddr 0 (.t 1)),
 oo 6 (.ldI none (.t 5)),
 oo 7 (.len (.t 6)),
 oo 8 (.bin .lss (.t 7) (ci 1)),
 oo 9 (.mov (.t 8)),
 ⟨some 10, .faddr 0 (.t 1), some (9, false)⟩,
 ⟨some 11, .ldI none (.t 10), some (9, false)⟩,
 ⟨some 12, .len (.t 11), some (9, false)⟩,
 ⟨some 13, .bin .gtr (.t 12) (ci 4), some (9, false)⟩,
 oo 14 (.pick (.t 9) (.c (.bool true)) (.t 13)),
 oo 15 (.mov (.t 14)),
 ⟨some 16, .faddr 1 (.t 1), some (15, false)⟩,
 ⟨some 17, .ldI (some 4) (.t 16), some (15, false)⟩,
 ⟨some 18, .call false 48 [(.t 17)], some (15, false)⟩,
 ⟨some 19, .bin .gtr (.t 18) (ci 300), some (15, false)⟩,
 oo 20 (.pick (.t 15) (.c (.bool true)) (.t 19)),
 oo 21 (.mov (.t 20)),
 ⟨some 22, .faddr 1 (.t 1), some (21, false)⟩,
 ⟨some 23, .ldI (some 4) (.t 22), some (21, false)⟩,
 ⟨some 24, .call false 49 [(.t 23)], some (21, false)⟩,
 ⟨some 25, .bin .gtr (.t 24) (ci 20), some (21, false)⟩,
 oo 26 (.pick (.t 21) (.c (.bool true)) (.t 25)),
 oo 27 (.mov (.t 26)),
 ⟨some 28, .faddr 5 (.t 1), some (27, false)⟩,
 ⟨some 29, .ldI none (.t 28), some (27, false)⟩,
 ⟨some 30, .len (.t 29), some (27, false)⟩,
 ⟨some 31, .bin .gtr (.t 30) (ci 24), some (27, false)⟩,
 oo 32 (.pick (.t 27) (.c (.bool true)) (.t 31))])
 (.cond (.t 32)
 (.seq (.ops false [
 oo 2 (.mov (ci 2))])
 (.ret))
 (.skip)))
 (.seq (.seq (.ops false [
 oo 33 (.faddr 1 (.t 1)),
 oo 34 (.ldI (some 4) (.t 33)),
 oo 35 (.faddr 0 (.t 1)),
 oo 36 (.ldI none (.t 35)),
 oo 37 (.len (.t 36)),
 oo 38 (.call false 50 [(.t 34), (.t 37)]),
 oo 39 (.un .not (.t 38))])
 (.cond (.t 39)
 (.seq (.ops false [
 oo 2 (.mov (ci 11))])
 (.ret))
 (.skip)))
 (.seq (.seq (.ops false [
 oo 3 (.mov (ci 0))])
 (.block 0 (.loop b33_0)))
 (.seq (.ops false [
 oo 2 (.mov (ci 0))])
 (.ret))))))
 [.t 2]

set_option maxRecDepth 100000 in
theorem ok33 : chkFn Tryd.prog 33 a33 = true := by kernel_rfl

def b34_0 : ACode :=
 (.seq (.seq (.ops false [
 oo 7 (.mov (.t 5)),
 oo 8 (.faddr 1 (.t 2)),
 oo 9 (.ldI none (.t 8)),
 oo 10 (.len (.t 9)),
 oo 11 (.bin .lss (.t 7) (.t 10))])
 (.cond (.t 11)
 (.skip)
 (.exit 0)))
 (.seq (.block 1 (.seq (.ops false [
 oo 14 (.faddr 1 (.t 2)),
 oo 15 (.ldI none (.t 14)),
 oo 16 (.mov (.t 5)),
 oo 17 (.iaddr (some 2) (.t 15) (.t 16)),
 oo 18 (.load (some 2) (.t 17)),
 oo 6 (.alloc [.int .i64 0, .int .u16 0]),
 ⟨none, .store (some 2) (.t 6) (.t 18), none⟩])
 (.seq (.ops true [
 oo 19 (.faddr 0 (.t 6)),
 oo 20 (.load none (.t 19)),
 oo 21 (.bin .lss (.t 20) (ci 0)),
 oo 22 (.mov (.t 21)),
 ⟨some 23, .faddr 0 (.t 6), some (22, false)⟩,
 ⟨some 24, .load none (.t 23), some (22, false)⟩,
 ⟨some 25, .mov (.t 1), some (22, false)⟩,
 ⟨some 26, .len (.t 25), some (22, false)⟩,
 ⟨some 27, .bin .geq (.t 24) (.t 26), some (22, false)⟩,
 oo 28 (.pick (.t 22) (.c (.bool true)) (.t 27)),
 oo 29 (.mov (.t 28)),
 ⟨some 30, .mov (.t 1), some (29, false)⟩,
 ⟨some 31, .faddr 0 (.t 6), some (29, false)⟩,
 ⟨some 32, .load none (.t 31), some (29, false)⟩,
 ⟨some 33, .iaddr none (.t 30) (.t 32), some (29, false)⟩,
 ⟨some 34, .load none (.t 33), some (29, false)⟩,
 ⟨some 35, .faddr 1 (.t 6), some (29, false)⟩,
 ⟨some 36, .load none (.t 35), some (29, false)⟩,
 ⟨some 37, .bin .neq (.t 34) (.t 36), some (29, false)⟩,
 oo 38 (.pick (.t 29) (.c (.bool true)) (.t 37))])
 (.cond (.t 38)
 (.seq (.ops false [
 oo 4 (.mov (.c (.bool false)))])
 (.ret))
 (.skip)))))
 (.ops false [
 oo 12 (.mov (.t 5)),
 oo 13 (.bin .add (.t 12) (ci 1)),
 oo 5 (.mov (.t 13))])))

/-- pointsman/pointsmanref11.Goes -/
def a34 : AFn := .mk 39
 (.seq (.ops false [
 oo 2 (.box (some 3) (.t 0) true),
 oo 4 (.mov (.c (.bool false)))])
 (.seq (.seq (.ops false [
 oo 5 (.mov (ci 0))])
 (.block 0 (.loop b34_0)))
 (.seq (.ops false [
 oo 4 (.mov (.c (.bool true)))])
 (.ret))))
 [.t 4]

set_option maxRecDepth 100000 in
theorem ok34 : chkFn Tryd.prog 34 a34 = true := by kernel_rfl

def b35_0 : ACode :=
 (.seq (.seq (.ops false [
 oo 11 (.mov (.t 6)),
 oo 12 (.faddr 2 (.t 2)),
 oo 13 (.ldI none (.t 12)),
 oo 14 (.len (.t 13)),
 oo 15 (.bin .lss (.t 11) (.t 14))])
 (.cond (.t 15)
 (.skip)
 (.exit 0)))
 (.seq (.block 1 (.seq (.ops false [
 oo 18 (.faddr 2 (.t 2)),
 oo 19 (.ldI none (.t 18)),
 oo 20 (.mov (.t 6)),
 oo 21 (.iaddr (some 2) (.t 19) (.t 20)),
 oo 22 (.load (some 2) (.t 21)),
 oo 7 (.alloc [.int .i64 0, .int .u16 0]),
 ⟨none, .store (some 2) (.t 7) (.t 22), none⟩])
 (.seq (.ops false [
 oo 23 (.faddr 0 (.t 7)),
 oo 24 (.load none (.t 23)),
 oo 25 (.bin .geq (.t 24) (ci 0)),
 oo 26 (.mov (.t 25)),
 ⟨some 27, .faddr 0 (.t 7), some (26, true)⟩,
 ⟨some 28, .load none (.t 27), some (26, true)⟩,
 ⟨some 29, .mov (.t 5), some (26, true)⟩,
 ⟨some 30, .len (.t 29), some (26, true)⟩,
 ⟨some 31, .bin .lss (.t 28) (.t 30), some (26, true)⟩,
 oo 32 (.pick (.t 26) (.t 31) (.c (.bool false)))])
 (.cond (.t 32)
 (.ops false [
 oo 33 (.mov (.t 5)),
 oo 34 (.faddr 0 (.t 7)),
 oo 35 (.load none (.t 34)),
 oo 36 (.faddr 1 (.t 7)),
 oo 37 (.load none (.t 36)),
 oo 38 (.iaddr none (.t 33) (.t 35)),
 ⟨none, .store none (.t 38) (.t 37), none⟩])
 (.skip)))))
 (.ops false [
 oo 16 (.mov (.t 6)),
 oo 17 (.bin .add (.t 16) (ci 1)),
 oo 6 (.mov (.t 17))])))

/-- pointsman/pointsmanref11.After -/
def a35 : AFn := .mk 40
 (.seq (.ops false [
 oo 2 (.box (some 3) (.t 0) true),
 oo 4 (.mov (.c (.vec none [])))])
 (.seq (.ops false [
 oo 8 (.bslice none [] true),
 oo 9 (.mov (.t 1)),
 oo 10 (.append none (.t 8) (.t 9) true),
 oo 5 (.mov (.t 10))])
 (.seq (.seq (.ops false [
 oo 6 (.mov (ci 0))])
 (.block 0 (.loop b35_0)))
 (.seq (.ops false [
 oo 39 (.mov (.t 5)),
 oo 4 (.mov (.t 39))])
 (.ret)))))
 [.t 4]

set_option maxRecDepth 100000 in
theorem ok35 : chkFn Tryd.prog 35 a35 = true := by kernel_rfl

def b36_0 : ACode :=
 (.seq (.seq (.ops false [
 oo 11 (.mov (.t 5)),
 oo 12 (.mov (.t 0)),
 oo 13 (.len (.t 12)),
 oo 14 (.bin .lss (.t 11) (.t 13))])
 (.cond (.t 14)
 (.skip)
 (.exit 0)))
 (.seq (.block 1 (.seq (.ops true [
 oo 17 (.mov (.t 0)),
 oo 18 (.mov (.t 5)),
 oo 19 (.iaddr none (.t 17) (.t 18)),
 oo 20 (.load none (.t 19)),
 oo 21 (.mov (.t 1)),
 oo 22 (.mov (.t 5)),
 oo 23 (.iaddr none (.t 21) (.t 22)),
 oo 24 (.load none (.t 23)),
 oo 25 (.bin .neq (.t 20) (.t 24))])
 (.cond (.t 25)
 (.seq (.ops false [
 oo 4 (.mov (.c (.bool false)))])
 (.ret))
 (.skip))))
 (.ops false [
 oo 15 (.mov (.t 5)),
 oo 16 (.bin .add (.t 15) (ci 1)),
 oo 5 (.mov (.t 16))])))

/-- pointsman/pointsmanref11.Same -/
def a36 : AFn := .mk 26
 (.seq (.ops false [
 oo 4 (.mov (.c (.bool false)))])
 (.seq (.seq (.ops false [
 oo 6 (.mov (.t 0)),
 oo 7 (.len (.t 6)),
 oo 8 (.mov (.t 1)),
 oo 9 (.len (.t 8)),
 oo 10 (.bin .neq (.t 7) (.t 9))])
 (.cond (.t 10)
 (.seq (.ops false [
 oo 4 (.mov (.c (.bool false)))])
 (.ret))
 (.skip)))
 (.seq (.seq (.ops false [
 oo 5 (.mov (ci 0))])
 (.block 0 (.loop b36_0)))
 (.seq (.ops false [
 oo 4 (.mov (.c (.bool true)))])
 (.ret)))))
 [.t 4]

set_option maxRecDepth 100000 in
theorem ok36 : chkFn Tryd.prog 36 a36 = true := by kernel_rfl

def b37_0 : ACode :=
 (.seq (.seq (.ops false [
 oo 6 (.mov (.t 5)),
 oo 7 (.mov (.t 0)),
 oo 8 (.len (.t 7)),
 oo 9 (.bin .lss (.t 6) (.t 8))])
 (.cond (.t 9)
 (.skip)
 (.exit 0)))
 (.seq (.block 1 (.seq (.ops false [
 oo 12 (.mov (.t 0)),
 oo 13 (.mov (.t 5)),
 oo 14 (.iaddr none (.t 12) (.t 13)),
 oo 15 (.load none (.t 14)),
 oo 16 (.mov (.t 1)),
 oo 17 (.call false 36 [(.t 15), (.t 16)])])
 (.cond (.t 17)
 (.seq (.ops false [
 oo 18 (.mov (.t 5)),
 oo 4 (.mov (.t 18))])
 (.ret))
 (.skip))))
 (.ops false [
 oo 10 (.mov (.t 5)),
 oo 11 (.bin .add (.t 10) (ci 1)),
 oo 5 (.mov (.t 11))])))

/-- pointsman/pointsmanref11.Find -/
def a37 : AFn := .mk 19
 (.seq (.ops false [
 oo 4 (.mov (ci 0))])
 (.seq (.seq (.ops false [
 oo 5 (.mov (ci 0))])
 (.block 0 (.loop b37_0)))
 (.seq (.ops false [
 oo 4 (.mov (ci (-1)))])
 (.ret))))
 [.t 4]

set_option maxRecDepth 100000 in
theorem ok37 : chkFn Tryd.prog 37 a37 = true := by kernel_rfl

def b38_2 : ACode :=
 (.seq (.seq (.ops false [
 oo 27 (.mov (.t 7)),
 oo 28 (.faddr 1 (.t 1)),
 oo 29 (.ldI none (.t 28)),
 oo 30 (.len (.t 29)),
 oo 31 (.bin .lss (.t 27) (.t 30))])
 (.cond (.t 31)
 (.skip)
 (.exit 4)))
 (.seq (.block 5 (.seq (.ops false [
 oo 34 (.faddr 1 (.t 1)),
 oo 35 (.ldI none (.t 34)),
 oo 36 (.mov (.t 7)),
 oo 37 (.iaddr (some 3) (.t 35) (.t 36)),
 oo 38 (.faddr 0 (.t 37)),
 oo 39 (.load none (.t 38)),
 oo 40 (.mov (.t 5)),
 oo 41 (.bin .eql (.t 39) (.t 40)),
 oo 42 (.mov (.t 41)),
 ⟨some 43, .mov (.t 3), some (42, true)⟩,
 ⟨some 44, .faddr 1 (.t 1), some (42, true)⟩,
 ⟨some 45, .ldI none (.t 44), some (42, true)⟩,
 ⟨some 46, .mov (.t 7), some (42, true)⟩,
 ⟨some 47, .iaddr (some 3) (.t 45) (.t 46), some (42, true)⟩,
 ⟨some 48, .faddr 2 (.t 47), some (42, true)⟩,
 ⟨some 49, .load none (.t 48), some (42, true)⟩,
 ⟨some 50, .iaddr none (.t 43) (.t 49), some (42, true)⟩,
 ⟨some 51, .load none (.t 50), some (42, true)⟩,
 ⟨some 52, .un .not (.t 51), some (42, true)⟩,
 oo 53 (.pick (.t 42) (.t 52) (.c (.bool false)))])
 (.cond (.t 53)
 (.ops false [
 oo 6 (.mov (.c (.bool false)))])
 (.skip))))
 (.ops false [
 oo 32 (.mov (.t 7)),
 oo 33 (.bin .add (.t 32) (ci 1)),
 oo 7 (.mov (.t 33))])))

def b38_1 : ACode :=
 (.seq (.seq (.ops false [
 oo 20 (.mov (.t 5)),
 oo 21 (.faddr 0 (.t 1)),
 oo 22 (.ldI none (.t 21)),
 oo 23 (.len (.t 22)),
 oo 24 (.bin .lss (.t 20) (.t 23))])
 (.cond (.t 24)
 (.skip)
 (.exit 2)))
 (.seq (.block 3 (.seq (.ops false [
 oo 6 (.mov (.c (.bool true)))])
 (.seq (.seq (.ops false [
 oo 7 (.mov (ci 0))])
 (.block 4 (.loop b38_2)))
 (.ops false [
 oo 54 (.mov (.t 3)),
 oo 55 (.mov (.t 5)),
 oo 56 (.mov (.t 3)),
 oo 57 (.mov (.t 5)),
 oo 58 (.iaddr none (.t 56) (.t 57)),
 oo 59 (.load none (.t 58)),
 oo 60 (.mov (.t 59)),
 ⟨some 61, .mov (.t 6), some (60, false)⟩,
 oo 62 (.pick (.t 60) (.c (.bool true)) (.t 61)),
 oo 63 (.iaddr none (.t 54) (.t 55)),
 ⟨none, .store none (.t 63) (.t 62), none⟩]))))
 (.ops false [
 oo 25 (.mov (.t 5)),
 oo 26 (.bin .add (.t 25) (ci 1)),
 oo 5 (.mov (.t 26))])))

def b38_0 : ACode :=
 (.seq (.seq (.ops false [
 oo 13 (.mov (.t 4)),
 oo 14 (.faddr 0 (.t 1)),
 oo 15 (.ldI none (.t 14)),
 oo 16 (.len (.t 15)),
 oo 17 (.bin .lss (.t 13) (.t 16))])
 (.cond (.t 17)
 (.skip)
 (.exit 0)))
 (.seq (.block 1 (.seq (.ops false [
 oo 5 (.mov (ci 0))])
 (.block 2 (.loop b38_1))))
 (.ops false [
 oo 18 (.mov (.t 4)),
 oo 19 (.bin .add (.t 18) (ci 1)),
 oo 4 (.mov (.t 19))])))

def b38_3 : ACode :=
 (.seq (.seq (.ops false [
 oo 64 (.mov (.t 8)),
 oo 65 (.mov (.t 3)),
 oo 66 (.len (.t 65)),
 oo 67 (.bin .lss (.t 64) (.t 66))])
 (.cond (.t 67)
 (.skip)
 (.exit 6)))
 (.seq (.block 7 (.seq (.ops false [
 oo 70 (.mov (.t 3)),
 oo 71 (.mov (.t 8)),
 oo 72 (.iaddr none (.t 70) (.t 71)),
 oo 73 (.load none (.t 72)),
 oo 74 (.un .not (.t 73))])
 (.cond (.t 74)
 (.seq (.ops false [
 oo 2 (.mov (.c (.bool true)))])
 (.ret))
 (.skip))))
 (.ops false [
 oo 68 (.mov (.t 8)),
 oo 69 (.bin .add (.t 68) (ci 1)),
 oo 8 (.mov (.t 69))])))

/-- pointsman/pointsmanref11.round -/
def a38 : AFn := .mk 75
 (.seq (.ops false [
 oo 1 (.box (some 2) (.t 0) true),
 oo 2 (.mov (.c (.bool false)))])
 (.seq (.ops false [
 oo 9 (.faddr 0 (.t 1)),
 oo 10 (.ldI none (.t 9)),
 oo 11 (.len (.t 10)),
 oo 12 (.mkslice none (.bool false) (.t 11) (.t 11)),
 oo 3 (.mov (.t 12))])
 (.seq (.seq (.ops false [
 oo 4 (.mov (ci 0))])
 (.block 0 (.loop b38_0)))
 (.seq (.seq (.ops false [
 oo 8 (.mov (ci 0))])
 (.block 6 (.loop b38_3)))
 (.seq (.ops false [
 oo 2 (.mov (.c (.bool false)))])
 (.ret))))))
 [.t 2]

set_option maxRecDepth 100000 in
theorem ok38 : chkFn Tryd.prog 38 a38 = true := by kernel_rfl

def b22_1 : ACode :=
 (.seq (.seq (.ops false [
 oo 31 (.mov (.t 8)),
 oo 32 (.faddr 5 (.t 1)),
 oo 33 (.ldI none (.t 32)),
 oo 34 (.len (.t 33)),
 oo 35 (.bin .lss (.t 31) (.t 34))])
 (.cond (.t 35)
 (.skip)
 (.exit 2)))
 (.seq (.block 3 (.seq (.seq (.ops true [
 oo 38 (.faddr 5 (.t 1)),
 oo 39 (.ldI none (.t 38)),
 oo 40 (.mov (.t 8)),
 oo 41 (.iaddr (some 3) (.t 39) (.t 40)),
 oo 42 (.load (some 3) (.t 41)),
 oo 43 (.faddr 0 (.t 6)),
 oo 44 (.load none (.t 43)),
 oo 45 (.mov (.t 7)),
 oo 46 (.iaddr none (.t 44) (.t 45)),
 oo 47 (.load none (.t 46)),
 oo 48 (.call false 34 [(.t 42), (.t 47)]),
 oo 49 (.un .not (.t 48))])
 (.cond (.t 49)
 (.exit 3)
 (.skip)))
 (.seq (.ops true [
 oo 50 (.faddr 5 (.t 1)),
 oo 51 (.ldI none (.t 50)),
 oo 52 (.mov (.t 8)),
 oo 53 (.iaddr (some 3) (.t 51) (.t 52)),
 oo 54 (.load (some 3) (.t 53)),
 oo 55 (.faddr 0 (.t 6)),
 oo 56 (.load none (.t 55)),
 oo 57 (.mov (.t 7)),
 oo 58 (.iaddr none (.t 56) (.t 57)),
 oo 59 (.load none (.t 58)),
 oo 60 (.call false 35 [(.t 54), (.t 59)]),
 oo 9 (.mov (.t 60))])
 (.seq (.seq (.ops false [
 oo 61 (.mov (.t 9)),
 oo 62 (.faddr 0 (.t 6)),
 oo 63 (.load none (.t 62)),
 oo 64 (.mov (.t 7)),
 oo 65 (.iaddr none (.t 63) (.t 64)),
 oo 66 (.load none (.t 65)),
 oo 67 (.call false 36 [(.t 61), (.t 66)])])
 (.cond (.t 67)
 (.exit 3)
 (.skip)))
 (.seq (.ops false [
 oo 68 (.faddr 0 (.t 6)),
 oo 69 (.load none (.t 68)),
 oo 70 (.mov (.t 9)),
 oo 71 (.call false 37 [(.t 69), (.t 70)]),
 oo 10 (.mov (.t 71))])
 (.seq (.seq (.ops false [
 oo 72 (.mov (.t 10)),
 oo 73 (.bin .lss (.t 72) (ci 0))])
 (.cond (.t 73)
 (.seq (.ops false [
 oo 74 (.faddr 0 (.t 6)),
 oo 75 (.load none (.t 74)),
 oo 76 (.len (.t 75)),
 oo 10 (.mov (.t 76))])
 (.ops false [
 oo 77 (.faddr 0 (.t 6)),
 oo 78 (.load none (.t 77)),
 oo 79 (.mov (.t 9)),
 oo 80 (.bsliceI none [(.t 79)]),
 oo 81 (.append none (.t 78) (.t 80) false),
 oo 82 (.faddr 0 (.t 6)),
 ⟨none, .store none (.t 82) (.t 81), none⟩]))
 (.skip)))
 (.seq (.seq (.ops false [
 oo 83 (.faddr 0 (.t 6)),
 oo 84 (.load none (.t 83)),
 oo 85 (.len (.t 84)),
 oo 86 (.bin .gtr (.t 85) (ci 128))])
 (.cond (.t 86)
 (.seq (.ops false [
 oo 87 (.load (some 2) (.t 4)),
 ⟨none, .store (some 2) (.t 2) (.t 87), none⟩,
 oo 3 (.mov (ci 21))])
 (.ret))
 (.skip)))
 (.ops false [
 oo 88 (.faddr 1 (.t 6)),
 oo 89 (.load none (.t 88)),
 oo 90 (.mov (.t 7)),
 oo 91 (.mov (.t 8)),
 oo 92 (.mov (.t 10)),
 oo 93 (.build [.int .i64 0, .int .i64 0, .int .i64 0] [(0, 1, (.t 90)), (1, 1, (.t 91)), (2, 1, (.t 92))]),
 oo 94 (.bsliceI (some 3) [(.t 93)]),
 oo 95 (.append (some 3) (.t 89) (.t 94) false),
 oo 96 (.faddr 1 (.t 6)),
 ⟨none, .store none (.t 96) (.t 95), none⟩]))))))))
 (.ops false [
 oo 36 (.mov (.t 8)),
 oo 37 (.bin .add (.t 36) (ci 1)),
 oo 8 (.mov (.t 37))])))

def b22_0 : ACode :=
 (.seq (.seq (.ops false [
 oo 24 (.mov (.t 7)),
 oo 25 (.faddr 0 (.t 6)),
 oo 26 (.load none (.t 25)),
 oo 27 (.len (.t 26)),
 oo 28 (.bin .lss (.t 24) (.t 27))])
 (.cond (.t 28)
 (.skip)
 (.exit 0)))
 (.seq (.block 1 (.seq (.ops false [
 oo 8 (.mov (ci 0))])
 (.block 2 (.loop b22_1))))
 (.ops false [
 oo 29 (.mov (.t 7)),
 oo 30 (.bin .add (.t 29) (ci 1)),
 oo 7 (.mov (.t 30))])))

/-- pointsman/pointsmanref11.Explore -/
def a22 : AFn := .mk 101
 (.seq (.ops false [
 oo 1 (.box (some 6) (.t 0) true),
 oo 2 (.alloc [.vec none [], .vec (some 3) []]),
 oo 3 (.mov (ci 0))])
 (.seq (.ops false [
 oo 11 (.build [.vec none [], .vec (some 3) []] []),
 oo 4 (.alloc [.vec none [], .vec (some 3) []]),
 ⟨none, .store (some 2) (.t 4) (.t 11), none⟩])
 (.seq (.ops false [
 oo 12 (.ldI (some 6) (.t 1)),
 oo 13 (.call false 33 [(.t 12)]),
 oo 5 (.mov (.t 13))])
 (.seq (.seq (.ops false [
 oo 14 (.mov (.t 5)),
 oo 15 (.bin .neq (.t 14) (ci 0))])
 (.cond (.t 15)
 (.seq (.ops false [
 oo 16 (.load (some 2) (.t 4)),
 oo 17 (.mov (.t 5)),
 ⟨none, .store (some 2) (.t 2) (.t 16), none⟩,
 oo 3 (.mov (.t 17))])
 (.ret))
 (.skip)))
 (.seq (.ops false [
 oo 18 (.bslice none [] false),
 oo 19 (.faddr 0 (.t 1)),
 oo 20 (.ldI none (.t 19)),
 oo 21 (.append none (.t 18) (.t 20) false),
 oo 22 (.bsliceV none [(.t 21)] false),
 oo 23 (.build [.nils, .nils] [(0, 1, (.t 22))]),
 oo 6 (.alloc [.nils, .nils]),
 ⟨none, .store (some 2) (.t 6) (.t 23), none⟩])
 (.seq (.seq (.ops false [
 oo 7 (.mov (ci 0))])
 (.block 0 (.loop b22_0)))
 (.seq (.seq (.ops false [
 oo 97 (.load (some 2) (.t 6)),
 oo 98 (.call false 38 [(.t 97)])])
 (.cond (.t 98)
 (.seq (.ops false [
 oo 99 (.load (some 2) (.t 4)),
 ⟨none, .store (some 2) (.t 2) (.t 99), none⟩,
 oo 3 (.mov (ci 20))])
 (.ret))
 (.skip)))
 (.seq (.ops false [
 oo 100 (.load (some 2) (.t 6)),
 ⟨none, .store (some 2) (.t 2) (.t 100), none⟩,
 oo 3 (.mov (ci 0))])
 (.ret)))))))))
 [.cell 2 (some 2), .t 3]

set_option maxRecDepth 100000 in
theorem ok22 : chkFn Tryd.prog 22 a22 = true := by kernel_rfl

def b32_0 : ACode :=
 (.seq (.seq (.ops false [
 oo 5 (.mov (.t 4)),
 oo 6 (.mov (.t 0)),
 oo 7 (.bin .lss (.t 5) (.t 6))])
 (.cond (.t 7)
 (.skip)
 (.exit 0)))
 (.seq (.block 1 (.ops false [
 oo 10 (.mov (.t 3)),
 oo 11 (.bin .mul (.c (.int .u64 2)) (.t 10)),
 oo 3 (.mov (.t 11))]))
 (.ops false [
 oo 8 (.mov (.t 4)),
 oo 9 (.bin .add (.t 8) (ci 1)),
 oo 4 (.mov (.t 9))])))

/-- pointsman/pointsmanref02.pow -/
def a32 : AFn := .mk 13
 (.seq (.ops false [
 oo 2 (.mov (.c (.int .u64 0)))])
 (.seq (.ops false [
 oo 3 (.mov (.c (.int .u64 1)))])
 (.seq (.seq (.ops false [
 oo 4 (.mov (ci 0))])
 (.block 0 (.loop b32_0)))
 (.seq (.ops false [
 oo 12 (.mov (.t 3)),
 oo 2 (.mov (.t 12))])
 (.ret)))))
 [.t 2]

set_option maxRecDepth 100000 in
theorem ok32 : chkFn Tryd.prog 32 a32 = true := by kernel_rfl

/-- pointsman/pointsmanref02.Has -/
def a21 : AFn := .mk 19
 (.seq (.ops false [
 oo 4 (.mov (.c (.bool false)))])
 (.seq (.ops false [
 oo 5 (.mov (.t 1)),
 oo 6 (.bin .geq (.t 5) (ci 0)),
 oo 7 (.mov (.t 6)),
 ⟨some 8, .mov (.t 1), some (7, true)⟩,
 ⟨some 9, .bin .lss (.t 8) (ci 64), some (7, true)⟩,
 oo 10 (.pick (.t 7) (.t 9) (.c (.bool false))),
 oo 11 (.mov (.t 10)),
 ⟨some 12, .mov (.t 0), some (11, true)⟩,
 ⟨some 13, .mov (.t 1), some (11, true)⟩,
 ⟨some 14, .call false 32 [(.t 13)], some (11, true)⟩,
 ⟨some 15, .bin .quo (.t 12) (.t 14), some (11, true)⟩,
 ⟨some 16, .bin .rem (.t 15) (.c (.int .u64 2)), some (11, true)⟩,
 ⟨some 17, .bin .eql (.t 16) (.c (.int .u64 1)), some (11, true)⟩,
 oo 18 (.pick (.t 11) (.t 17) (.c (.bool false))),
 oo 4 (.mov (.t 18))])
 (.ret)))
 [.t 4]

set_option maxRecDepth 100000 in
theorem ok21 : chkFn Tryd.prog 21 a21 = true := by kernel_rfl

def b39_0 : ACode :=
 (.seq (.seq (.ops false [
 oo 9 (.mov (.t 8)),
 oo 10 (.faddr 0 (.t 3)),
 oo 11 (.ldI none (.t 10)),
 oo 12 (.len (.t 11)),
 oo 13 (.bin .lss (.t 9) (.t 12))])
 (.cond (.t 13)
 (.skip)
 (.exit 0)))
 (.seq (.block 1 (.seq (.ops false [
 oo 16 (.faddr 0 (.t 3)),
 oo 17 (.ldI none (.t 16)),
 oo 18 (.mov (.t 8)),
 oo 19 (.iaddr (some 2) (.t 17) (.t 18)),
 oo 20 (.faddr 0 (.t 19)),
 oo 21 (.load none (.t 20)),
 oo 22 (.mov (.t 2)),
 oo 23 (.bin .eql (.t 21) (.t 22)),
 oo 24 (.mov (.t 23)),
 ⟨some 25, .mov (.t 1), some (24, true)⟩,
 ⟨some 26, .mov (.t 8), some (24, true)⟩,
 ⟨some 27, .call false 21 [(.t 25), (.t 26)], some (24, true)⟩,
 oo 28 (.pick (.t 24) (.t 27) (.c (.bool false)))])
 (.cond (.t 28)
 (.ops false [
 oo 29 (.mov (.t 7)),
 oo 30 (.bin .add (.t 29) (ci 1)),
 oo 7 (.mov (.t 30))])
 (.skip))))
 (.ops false [
 oo 14 (.mov (.t 8)),
 oo 15 (.bin .add (.t 14) (ci 1)),
 oo 8 (.mov (.t 15))])))

/-- pointsman/pointsmanref12.times -/
def a39 : AFn := .mk 32
 (.seq (.ops false [
 oo 3 (.box (some 3) (.t 0) true),
 oo 6 (.mov (ci 0))])
 (.seq (.ops false [
 oo 7 (.mov (ci 0))])
 (.seq (.seq (.ops false [
 oo 8 (.mov (ci 0))])
 (.block 0 (.loop b39_0)))
 (.seq (.ops false [
 oo 31 (.mov (.t 7)),
 oo 6 (.mov (.t 31))])
 (.ret)))))
 [.t 6]

set_option maxRecDepth 100000 in
theorem ok39 : chkFn Tryd.prog 39 a39 = true := by kernel_rfl

def b40_0 : ACode :=
 (.seq (.seq (.ops false [
 oo 6 (.mov (.t 5)),
 oo 7 (.mov (.t 0)),
 oo 8 (.len (.t 7)),
 oo 9 (.bin .lss (.t 6) (.t 8))])
 (.cond (.t 9)
 (.skip)
 (.exit 0)))
 (.seq (.block 1 (.seq (.ops true [
 oo 12 (.mov (.t 0)),
 oo 13 (.mov (.t 5)),
 oo 14 (.iaddr (some 2) (.t 12) (.t 13)),
 oo 15 (.load (some 2) (.t 14)),
 oo 16 (.ldI (some 2) (.t 3)),
 oo 17 (.eqS false [.int, .int] (.t 15) (.t 16))])
 (.cond (.t 17)
 (.seq (.ops false [
 oo 18 (.mov (.t 5)),
 oo 4 (.mov (.t 18))])
 (.ret))
 (.skip))))
 (.ops false [
 oo 10 (.mov (.t 5)),
 oo 11 (.bin .add (.t 10) (ci 1)),
 oo 5 (.mov (.t 11))])))

/-- pointsman/pointsmanref12.find -/
def a40 : AFn := .mk 19
 (.seq (.ops false [
 oo 3 (.box (some 2) (.t 1) true),
 oo 4 (.mov (ci 0))])
 (.seq (.seq (.ops false [
 oo 5 (.mov (ci 0))])
 (.block 0 (.loop b40_0)))
 (.seq (.ops false [
 oo 4 (.mov (ci (-1)))])
 (.ret))))
 [.t 4]

set_option maxRecDepth 100000 in
theorem ok40 : chkFn Tryd.prog 40 a40 = true := by kernel_rfl

/-- pointsman/pointsmanref02.With -/
def a41 : AFn := .mk 21
 (.seq (.ops false [
 oo 4 (.mov (.c (.int .u64 0)))])
 (.seq (.seq (.ops false [
 oo 5 (.mov (.t 1)),
 oo 6 (.bin .lss (.t 5) (ci 0)),
 oo 7 (.mov (.t 6)),
 ⟨some 8, .mov (.t 1), some (7, false)⟩,
 ⟨some 9, .bin .gtr (.t 8) (ci 63), some (7, false)⟩,
 oo 10 (.pick (.t 7) (.c (.bool true)) (.t 9)),
 oo 11 (.mov (.t 10)),
 ⟨some 12, .mov (.t 0), some (11, false)⟩,
 ⟨some 13, .mov (.t 1), some (11, false)⟩,
 ⟨some 14, .call false 21 [(.t 12), (.t 13)], some (11, false)⟩,
 oo 15 (.pick (.t 11) (.c (.bool true)) (.t 14))])
 (.cond (.t 15)
 (.seq (.ops false [
 oo 16 (.mov (.t 0)),
 oo 4 (.mov (.t 16))])
 (.ret))
 (.skip)))
 (.seq (.ops false [
 oo 17 (.mov (.t 0)),
 oo 18 (.mov (.t 1)),
 oo 19 (.call false 32 [(.t 18)]),
 oo 20 (.bin .add (.t 17) (.t 19)),
 oo 4 (.mov (.t 20))])
 (.ret))))
 [.t 4]

set_option maxRecDepth 100000 in
theorem ok41 : chkFn Tryd.prog 41 a41 = true := by kernel_rfl

def b17_0 : ACode :=
 (.seq (.seq (.ops false [
 oo 6 (.mov (.t 5)),
 oo 7 (.faddr 1 (.t 2)),
 oo 8 (.ldI none (.t 7)),
 oo 9 (.len (.t 8)),
 oo 10 (.bin .lss (.t 6) (.t 9))])
 (.cond (.t 10)
 (.skip)
 (.exit 0)))
 (.seq (.block 1 (.seq (.ops false [
 oo 13 (.faddr 1 (.t 2)),
 oo 14 (.ldI none (.t 13)),
 oo 15 (.mov (.t 5)),
 oo 16 (.iaddr none (.t 14) (.t 15)),
 oo 17 (.load none (.t 16)),
 oo 18 (.mov (.t 1)),
 oo 19 (.bin .eql (.t 17) (.t 18))])
 (.cond (.t 19)
 (.seq (.ops false [
 oo 20 (.mov (.t 5)),
 oo 4 (.mov (.t 20))])
 (.ret))
 (.skip))))
 (.ops false [
 oo 11 (.mov (.t 5)),
 oo 12 (.bin .add (.t 11) (ci 1)),
 oo 5 (.mov (.t 12))])))

/-- pointsman/pointsmanref12.Tag -/
def a17 : AFn := .mk 21
 (.seq (.ops false [
 oo 2 (.box (some 3) (.t 0) true),
 oo 4 (.mov (ci 0))])
 (.seq (.seq (.ops false [
 oo 5 (.mov (ci 0))])
 (.block 0 (.loop b17_0)))
 (.seq (.ops false [
 oo 4 (.mov (ci (-1)))])
 (.ret))))
 [.t 4]

set_option maxRecDepth 100000 in
theorem ok17 : chkFn Tryd.prog 17 a17 = true := by kernel_rfl

def b23_1 : ACode :=
 (.seq (.seq (.ops false [
 oo 37 (.mov (.t 9)),
 oo 38 (.faddr 1 (.t 3)),
 oo 39 (.ldI none (.t 38)),
 oo 40 (.len (.t 39)),
 oo 41 (.bin .lss (.t 37) (.t 40))])
 (.cond (.t 41)
 (.skip)
 (.exit 2)))
 (.seq (.block 3 (.seq (.ops false [
 oo 44 (.faddr 1 (.t 3)),
 oo 45 (.ldI none (.t 44)),
 oo 46 (.mov (.t 9)),
 oo 47 (.iaddr (some 3) (.t 45) (.t 46)),
 oo 48 (.load (some 3) (.t 47)),
 oo 10 (.alloc [.int .i64 0, .int .i64 0, .int .i64 0]),
 ⟨none, .store (some 3) (.t 10) (.t 48), none⟩])
 (.seq (.seq (.ops false [
 oo 49 (.faddr 0 (.t 10)),
 oo 50 (.load none (.t 49)),
 oo 51 (.mov (.t 8)),
 oo 52 (.bin .neq (.t 50) (.t 51))])
 (.cond (.t 52)
 (.exit 3)
 (.skip)))
 (.seq (.ops true [
 oo 53 (.faddr 1 (.t 10)),
 oo 54 (.load none (.t 53)),
 oo 55 (.load (some 3) (.t 6)),
 oo 56 (.faddr 1 (.t 6)),
 oo 57 (.load none (.t 56)),
 oo 58 (.mov (.t 7)),
 oo 59 (.iaddr none (.t 57) (.t 58)),
 oo 60 (.load none (.t 59)),
 oo 61 (.faddr 1 (.t 10)),
 oo 62 (.load none (.t 61)),
 oo 63 (.call false 39 [(.t 55), (.t 60), (.t 62)]),
 oo 64 (.build [.int .i64 0, .int .i64 0] [(0, 1, (.t 54)), (1, 1, (.t 63))]),
 oo 11 (.alloc [.int .i64 0, .int .i64 0]),
 ⟨none, .store (some 2) (.t 11) (.t 64), none⟩])
 (.seq (.ops false [
 oo 65 (.faddr 0 (.t 6)),
 oo 66 (.load none (.t 65)),
 oo 67 (.load (some 2) (.t 11)),
 oo 68 (.call false 40 [(.t 66), (.t 67)]),
 oo 12 (.mov (.t 68))])
 (.seq (.seq (.ops false [
 oo 69 (.mov (.t 12)),
 oo 70 (.bin .lss (.t 69) (ci 0))])
 (.cond (.t 70)
 (.seq (.ops false [
 oo 71 (.faddr 0 (.t 6)),
 oo 72 (.load none (.t 71)),
 oo 73 (.len (.t 72)),
 oo 12 (.mov (.t 73))])
 (.ops false [
 oo 74 (.faddr 0 (.t 6)),
 oo 75 (.load none (.t 74)),
 oo 76 (.load (some 2) (.t 11)),
 oo 77 (.bsliceI (some 2) [(.t 76)]),
 oo 78 (.append (some 2) (.t 75) (.t 77) false),
 oo 79 (.faddr 0 (.t 6)),
 ⟨none, .store none (.t 79) (.t 78), none⟩]))
 (.skip)))
 (.seq (.seq (.ops false [
 oo 80 (.mov (.t 12)),
 oo 81 (.bin .gtr (.t 80) (ci 63))])
 (.cond (.t 81)
 (.seq (.ops false [
 oo 82 (.build [.vec (some 2) [], .vec none [], .vec none []] []),
 ⟨none, .store (some 3) (.t 4) (.t 82), none⟩,
 oo 5 (.mov (ci 21))])
 (.ret))
 (.skip)))
 (.seq (.ops false [
 oo 83 (.faddr 1 (.t 6)),
 oo 84 (.load none (.t 83)),
 oo 85 (.mov (.t 7)),
 oo 86 (.iaddr none (.t 84) (.t 85)),
 oo 87 (.load none (.t 86)),
 oo 88 (.mov (.t 12)),
 oo 89 (.call false 41 [(.t 87), (.t 88)]),
 oo 13 (.mov (.t 89))])
 (.seq (.ops false [
 oo 90 (.load (some 3) (.t 6)),
 oo 91 (.mov (.t 13)),
 oo 92 (.call false 17 [(.t 90), (.t 91)]),
 oo 14 (.mov (.t 92))])
 (.seq (.seq (.ops false [
 oo 93 (.mov (.t 14)),
 oo 94 (.bin .geq (.t 93) (ci 0))])
 (.cond (.t 94)
 (.seq (.seq (.ops true [
 oo 95 (.faddr 2 (.t 6)),
 oo 96 (.load none (.t 95)),
 oo 97 (.mov (.t 14)),
 oo 98 (.iaddr none (.t 96) (.t 97)),
 oo 99 (.load none (.t 98)),
 oo 100 (.faddr 0 (.t 3)),
 oo 101 (.ldI none (.t 100)),
 oo 102 (.faddr 2 (.t 10)),
 oo 103 (.load none (.t 102)),
 oo 104 (.iaddr none (.t 101) (.t 103)),
 oo 105 (.load none (.t 104)),
 oo 106 (.call false 36 [(.t 99), (.t 105)]),
 oo 107 (.un .not (.t 106))])
 (.cond (.t 107)
 (.seq (.ops false [
 oo 108 (.build [.vec (some 2) [], .vec none [], .vec none []] []),
 ⟨none, .store (some 3) (.t 4) (.t 108), none⟩,
 oo 5 (.mov (ci 22))])
 (.ret))
 (.skip)))
 (.exit 3))
 (.skip)))
 (.seq (.ops false [
 oo 109 (.faddr 1 (.t 6)),
 oo 110 (.load none (.t 109)),
 oo 111 (.mov (.t 13)),
 oo 112 (.bsliceI none [(.t 111)]),
 oo 113 (.append none (.t 110) (.t 112) false),
 oo 114 (.faddr 1 (.t 6)),
 ⟨none, .store none (.t 114) (.t 113), none⟩])
 (.seq (.ops true [
 oo 115 (.faddr 2 (.t 6)),
 oo 116 (.load none (.t 115)),
 oo 117 (.faddr 0 (.t 3)),
 oo 118 (.ldI none (.t 117)),
 oo 119 (.faddr 2 (.t 10)),
 oo 120 (.load none (.t 119)),
 oo 121 (.iaddr none (.t 118) (.t 120)),
 oo 122 (.load none (.t 121)),
 oo 123 (.bsliceI none [(.t 122)]),
 oo 124 (.append none (.t 116) (.t 123) false),
 oo 125 (.faddr 2 (.t 6)),
 ⟨none, .store none (.t 125) (.t 124), none⟩])
 (.seq (.ops false [
 oo 126 (.faddr 1 (.t 6)),
 oo 127 (.load none (.t 126)),
 oo 128 (.len (.t 127)),
 oo 129 (.bin .gtr (.t 128) (ci 256))])
 (.cond (.t 129)
 (.seq (.ops false [
 oo 130 (.build [.vec (some 2) [], .vec none [], .vec none []] []),
 ⟨none, .store (some 3) (.t 4) (.t 130), none⟩,
 oo 5 (.mov (ci 21))])
 (.ret))
 (.skip)))))))))))))))
 (.ops false [
 oo 42 (.mov (.t 9)),
 oo 43 (.bin .add (.t 42) (ci 1)),
 oo 9 (.mov (.t 43))])))

def b23_0 : ACode :=
 (.seq (.seq (.ops false [
 oo 22 (.mov (.t 7)),
 oo 23 (.faddr 1 (.t 6)),
 oo 24 (.load none (.t 23)),
 oo 25 (.len (.t 24)),
 oo 26 (.bin .lss (.t 22) (.t 25))])
 (.cond (.t 26)
 (.skip)
 (.exit 0)))
 (.seq (.block 1 (.seq (.ops true [
 oo 29 (.faddr 0 (.t 3)),
 oo 30 (.ldI none (.t 29)),
 oo 31 (.faddr 2 (.t 6)),
 oo 32 (.load none (.t 31)),
 oo 33 (.mov (.t 7)),
 oo 34 (.iaddr none (.t 32) (.t 33)),
 oo 35 (.load none (.t 34)),
 oo 36 (.call false 37 [(.t 30), (.t 35)]),
 oo 8 (.mov (.t 36))])
 (.seq (.ops false [
 oo 9 (.mov (ci 0))])
 (.block 2 (.loop b23_1)))))
 (.ops false [
 oo 27 (.mov (.t 7)),
 oo 28 (.bin .add (.t 27) (ci 1)),
 oo 7 (.mov (.t 28))])))

/-- pointsman/pointsmanref12.sets -/
def a23 : AFn := .mk 132
 (.seq (.ops false [
 oo 2 (.box (some 6) (.t 0) true),
 oo 3 (.box (some 2) (.t 1) true),
 oo 4 (.alloc [.vec (some 2) [], .vec none [], .vec none []]),
 oo 5 (.mov (ci 0))])
 (.seq (.ops false [
 oo 15 (.bslice none [(.c (.int .u64 0))] false),
 oo 16 (.faddr 0 (.t 3)),
 oo 17 (.ldI none (.t 16)),
 oo 18 (.iaddr none (.t 17) (ci 0)),
 oo 19 (.load none (.t 18)),
 oo 20 (.bslice none [(.t 19)] false),
 oo 21 (.build [.nils, .nils, .nils] [(1, 1, (.t 15)), (2, 1, (.t 20))]),
 oo 6 (.alloc [.nils, .nils, .nils]),
 ⟨none, .store (some 3) (.t 6) (.t 21), none⟩])
 (.seq (.seq (.ops false [
 oo 7 (.mov (ci 0))])
 (.block 0 (.loop b23_0)))
 (.seq (.ops false [
 oo 131 (.load (some 3) (.t 6)),
 ⟨none, .store (some 3) (.t 4) (.t 131), none⟩,
 oo 5 (.mov (ci 0))])
 (.ret)))))
 [.cell 4 (some 3), .t 5]

set_option maxRecDepth 100000 in
theorem ok23 : chkFn Tryd.prog 23 a23 = true := by kernel_rfl

def b42_0 : ACode :=
 (.seq (.seq (.ops false [
 oo 11 (.mov (.t 9)),
 oo 12 (.faddr 1 (.t 4)),
 oo 13 (.ldI none (.t 12)),
 oo 14 (.len (.t 13)),
 oo 15 (.bin .lss (.t 11) (.t 14))])
 (.cond (.t 15)
 (.skip)
 (.exit 0)))
 (.seq (.block 1 (.seq (.ops false [
 oo 18 (.faddr 1 (.t 4)),
 oo 19 (.ldI none (.t 18)),
 oo 20 (.mov (.t 9)),
 oo 21 (.iaddr (some 3) (.t 19) (.t 20)),
 oo 22 (.load (some 3) (.t 21)),
 oo 10 (.alloc [.int .i64 0, .int .i64 0, .int .i64 0]),
 ⟨none, .store (some 3) (.t 10) (.t 22), none⟩])
 (.seq (.ops false [
 oo 23 (.faddr 1 (.t 10)),
 oo 24 (.load none (.t 23)),
 oo 25 (.mov (.t 1)),
 oo 26 (.bin .eql (.t 24) (.t 25)),
 oo 27 (.mov (.t 26)),
 ⟨some 28, .faddr 0 (.t 4), some (27, true)⟩,
 ⟨some 29, .ldI none (.t 28), some (27, true)⟩,
 ⟨some 30, .faddr 0 (.t 10), some (27, true)⟩,
 ⟨some 31, .load none (.t 30), some (27, true)⟩,
 ⟨some 32, .iaddr none (.t 29) (.t 31), some (27, true)⟩,
 ⟨some 33, .load none (.t 32), some (27, true)⟩,
 ⟨some 34, .mov (.t 2), some (27, true)⟩,
 ⟨some 35, .call false 36 [(.t 33), (.t 34)], some (27, true)⟩,
 oo 36 (.pick (.t 27) (.t 35) (.c (.bool false))),
 oo 37 (.mov (.t 36)),
 ⟨some 38, .faddr 0 (.t 4), some (37, true)⟩,
 ⟨some 39, .ldI none (.t 38), some (37, true)⟩,
 ⟨some 40, .faddr 2 (.t 10), some (37, true)⟩,
 ⟨some 41, .load none (.t 40), some (37, true)⟩,
 ⟨some 42, .iaddr none (.t 39) (.t 41), some (37, true)⟩,
 ⟨some 43, .load none (.t 42), some (37, true)⟩,
 ⟨some 44, .mov (.t 3), some (37, true)⟩,
 ⟨some 45, .call false 36 [(.t 43), (.t 44)], some (37, true)⟩,
 oo 46 (.pick (.t 37) (.t 45) (.c (.bool false)))])
 (.cond (.t 46)
 (.seq (.ops false [
 oo 8 (.mov (.c (.bool true)))])
 (.ret))
 (.skip)))))
 (.ops false [
 oo 16 (.mov (.t 9)),
 oo 17 (.bin .add (.t 16) (ci 1)),
 oo 9 (.mov (.t 17))])))

/-- pointsman/pointsmanref12.leads -/
def a42 : AFn := .mk 47
 (.seq (.ops false [
 oo 4 (.box (some 2) (.t 0) true),
 oo 8 (.mov (.c (.bool false)))])
 (.seq (.seq (.ops false [
 oo 9 (.mov (ci 0))])
 (.block 0 (.loop b42_0)))
 (.seq (.ops false [
 oo 8 (.mov (.c (.bool false)))])
 (.ret))))
 [.t 8]

set_option maxRecDepth 100000 in
theorem ok42 : chkFn Tryd.prog 42 a42 = true := by kernel_rfl

def b43_0 : ACode :=
 (.seq (.seq (.ops false [
 oo 6 (.mov (.t 5)),
 oo 7 (.faddr 1 (.t 2)),
 oo 8 (.ldI none (.t 7)),
 oo 9 (.len (.t 8)),
 oo 10 (.bin .lss (.t 6) (.t 9))])
 (.cond (.t 10)
 (.skip)
 (.exit 0)))
 (.seq (.block 1 (.seq (.ops false [
 oo 13 (.mov (.t 1)),
 oo 14 (.faddr 1 (.t 2)),
 oo 15 (.ldI none (.t 14)),
 oo 16 (.mov (.t 5)),
 oo 17 (.iaddr none (.t 15) (.t 16)),
 oo 18 (.load none (.t 17)),
 oo 19 (.bin .and (.t 13) (.t 18)),
 oo 20 (.mov (.t 1)),
 oo 21 (.bin .eql (.t 19) (.t 20))])
 (.cond (.t 21)
 (.seq (.ops false [
 oo 4 (.mov (.c (.bool true)))])
 (.ret))
 (.skip))))
 (.ops false [
 oo 11 (.mov (.t 5)),
 oo 12 (.bin .add (.t 11) (ci 1)),
 oo 5 (.mov (.t 12))])))

/-- pointsman/pointsmanref12.Consistent -/
def a43 : AFn := .mk 22
 (.seq (.ops false [
 oo 2 (.box (some 3) (.t 0) true),
 oo 4 (.mov (.c (.bool false)))])
 (.seq (.seq (.ops false [
 oo 5 (.mov (ci 0))])
 (.block 0 (.loop b43_0)))
 (.seq (.ops false [
 oo 4 (.mov (.c (.bool false)))])
 (.ret))))
 [.t 4]

set_option maxRecDepth 100000 in
theorem ok43 : chkFn Tryd.prog 43 a43 = true := by kernel_rfl

def b24_1 : ACode :=
 (.seq (.seq (.ops false [
 oo 17 (.mov (.t 6)),
 oo 18 (.faddr 0 (.t 2)),
 oo 19 (.ldI none (.t 18)),
 oo 20 (.len (.t 19)),
 oo 21 (.bin .lss (.t 17) (.t 20))])
 (.cond (.t 21)
 (.skip)
 (.exit 2)))
 (.seq (.block 3 (.seq (.ops true [
 oo 24 (.ldI (some 3) (.t 2)),
 oo 25 (.faddr 1 (.t 2)),
 oo 26 (.ldI none (.t 25)),
 oo 27 (.mov (.t 5)),
 oo 28 (.iaddr none (.t 26) (.t 27)),
 oo 29 (.load none (.t 28)),
 oo 30 (.mov (.t 6)),
 oo 31 (.call false 41 [(.t 29), (.t 30)]),
 oo 32 (.call false 17 [(.t 24), (.t 31)]),
 oo 7 (.mov (.t 32))])
 (.seq (.ops true [
 oo 33 (.mov (.t 7)),
 oo 34 (.bin .geq (.t 33) (ci 0)),
 oo 35 (.mov (.t 34)),
 ⟨some 36, .mov (.t 7), some (35, true)⟩,
 ⟨some 37, .mov (.t 5), some (35, true)⟩,
 ⟨some 38, .bin .neq (.t 36) (.t 37), some (35, true)⟩,
 oo 39 (.pick (.t 35) (.t 38) (.c (.bool false))),
 oo 40 (.mov (.t 39)),
 ⟨some 41, .ldI (some 2) (.t 3), some (40, true)⟩,
 ⟨some 42, .faddr 0 (.t 2), some (40, true)⟩,
 ⟨some 43, .ldI none (.t 42), some (40, true)⟩,
 ⟨some 44, .mov (.t 6), some (40, true)⟩,
 ⟨some 45, .iaddr (some 2) (.t 43) (.t 44), some (40, true)⟩,
 ⟨some 46, .faddr 0 (.t 45), some (40, true)⟩,
 ⟨some 47, .load none (.t 46), some (40, true)⟩,
 ⟨some 48, .faddr 2 (.t 2), some (40, true)⟩,
 ⟨some 49, .ldI none (.t 48), some (40, true)⟩,
 ⟨some 50, .mov (.t 5), some (40, true)⟩,
 ⟨some 51, .iaddr none (.t 49) (.t 50), some (40, true)⟩,
 ⟨some 52, .load none (.t 51), some (40, true)⟩,
 ⟨some 53, .faddr 2 (.t 2), some (40, true)⟩,
 ⟨some 54, .ldI none (.t 53), some (40, true)⟩,
 ⟨some 55, .mov (.t 7), some (40, true)⟩,
 ⟨some 56, .iaddr none (.t 54) (.t 55), some (40, true)⟩,
 ⟨some 57, .load none (.t 56), some (40, true)⟩,
 ⟨some 58, .call false 42 [(.t 41), (.t 47), (.t 52), (.t 57)], some (40, true)⟩,
 ⟨some 59, .un .not (.t 58), some (40, true)⟩,
 oo 60 (.pick (.t 40) (.t 59) (.c (.bool false)))])
 (.cond (.t 60)
 (.seq (.ops false [
 oo 4 (.mov (.c (.bool false)))])
 (.ret))
 (.skip)))))
 (.ops false [
 oo 22 (.mov (.t 6)),
 oo 23 (.bin .add (.t 22) (ci 1)),
 oo 6 (.mov (.t 23))])))

def b24_2 : ACode :=
 (.seq (.seq (.ops false [
 oo 61 (.mov (.t 8)),
 oo 62 (.mov (.t 5)),
 oo 63 (.bin .lss (.t 61) (.t 62))])
 (.cond (.t 63)
 (.skip)
 (.exit 4)))
 (.seq (.block 5 (.seq (.ops true [
 oo 66 (.faddr 1 (.t 2)),
 oo 67 (.ldI none (.t 66)),
 oo 68 (.mov (.t 5)),
 oo 69 (.iaddr none (.t 67) (.t 68)),
 oo 70 (.load none (.t 69)),
 oo 71 (.faddr 1 (.t 2)),
 oo 72 (.ldI none (.t 71)),
 oo 73 (.mov (.t 8)),
 oo 74 (.iaddr none (.t 72) (.t 73)),
 oo 75 (.load none (.t 74)),
 oo 76 (.bin .or (.t 70) (.t 75)),
 oo 9 (.mov (.t 76))])
 (.seq (.ops false [
 oo 77 (.ldI (some 3) (.t 2)),
 oo 78 (.mov (.t 9)),
 oo 79 (.call false 17 [(.t 77), (.t 78)]),
 oo 80 (.bin .lss (.t 79) (ci 0)),
 oo 81 (.mov (.t 80)),
 ⟨some 82, .ldI (some 3) (.t 2), some (81, true)⟩,
 ⟨some 83, .mov (.t 9), some (81, true)⟩,
 ⟨some 84, .call false 43 [(.t 82), (.t 83)], some (81, true)⟩,
 oo 85 (.pick (.t 81) (.t 84) (.c (.bool false)))])
 (.cond (.t 85)
 (.seq (.ops false [
 oo 4 (.mov (.c (.bool false)))])
 (.ret))
 (.skip)))))
 (.ops false [
 oo 64 (.mov (.t 8)),
 oo 65 (.bin .add (.t 64) (ci 1)),
 oo 8 (.mov (.t 65))])))

def b24_0 : ACode :=
 (.seq (.seq (.ops false [
 oo 10 (.mov (.t 5)),
 oo 11 (.faddr 1 (.t 2)),
 oo 12 (.ldI none (.t 11)),
 oo 13 (.len (.t 12)),
 oo 14 (.bin .lss (.t 10) (.t 13))])
 (.cond (.t 14)
 (.skip)
 (.exit 0)))
 (.seq (.block 1 (.seq (.seq (.ops false [
 oo 6 (.mov (ci 0))])
 (.block 2 (.loop b24_1)))
 (.seq (.ops false [
 oo 8 (.mov (ci 0))])
 (.block 4 (.loop b24_2)))))
 (.ops false [
 oo 15 (.mov (.t 5)),
 oo 16 (.bin .add (.t 15) (ci 1)),
 oo 5 (.mov (.t 16))])))

/-- pointsman/pointsmanref12.family -/
def a24 : AFn := .mk 86
 (.seq (.ops false [
 oo 2 (.box (some 3) (.t 0) true),
 oo 3 (.box (some 2) (.t 1) true),
 oo 4 (.mov (.c (.bool false)))])
 (.seq (.seq (.ops false [
 oo 5 (.mov (ci 0))])
 (.block 0 (.loop b24_0)))
 (.seq (.ops false [
 oo 4 (.mov (.c (.bool true)))])
 (.ret))))
 [.t 4]

set_option maxRecDepth 100000 in
theorem ok24 : chkFn Tryd.prog 24 a24 = true := by kernel_rfl

def b52_0 : ACode :=
 (.seq (.seq (.ops false [
 oo 50 (.mov (.t 8)),
 oo 51 (.mov (.t 7)),
 oo 52 (.len (.t 51)),
 oo 53 (.bin .lss (.t 50) (.t 52))])
 (.cond (.t 53)
 (.skip)
 (.exit 0)))
 (.seq (.block 1 (.seq (.ops false [
 oo 56 (.mov (.t 7)),
 oo 57 (.mov (.t 8)),
 oo 58 (.iaddr (some 2) (.t 56) (.t 57)),
 oo 59 (.faddr 0 (.t 58)),
 oo 60 (.load none (.t 59)),
 oo 61 (.bin .eql (.t 60) (ci 0))])
 (.cond (.t 61)
 (.seq (.ops false [
 oo 62 (.mov (.t 7)),
 oo 63 (.mov (.t 8)),
 oo 64 (.iaddr (some 2) (.t 62) (.t 63)),
 oo 65 (.faddr 1 (.t 64)),
 oo 66 (.load none (.t 65)),
 oo 67 (.convI .i64 (.t 66)),
 oo 6 (.mov (.t 67))])
 (.ret))
 (.skip))))
 (.ops false [
 oo 54 (.mov (.t 8)),
 oo 55 (.bin .add (.t 54) (ci 1)),
 oo 8 (.mov (.t 55))])))

/-- pointsman/pointsmanref12.Switch -/
def a52 : AFn := .mk 68
 (.seq (.ops false [
 oo 3 (.box (some 6) (.t 0) true),
 oo 4 (.box (some 3) (.t 1) true),
 oo 6 (.mov (ci 0))])
 (.seq (.seq (.ops true [
 oo 9 (.mov (.t 2)),
 oo 10 (.bin .lss (.t 9) (ci 0)),
 oo 11 (.mov (.t 10)),
 ⟨some 12, .mov (.t 2), some (11, false)⟩,
 ⟨some 13, .faddr 0 (.t 4), some (11, false)⟩,
 ⟨some 14, .ldI none (.t 13), some (11, false)⟩,
 ⟨some 15, .len (.t 14), some (11, false)⟩,
 ⟨some 16, .bin .geq (.t 12) (.t 15), some (11, false)⟩,
 oo 17 (.pick (.t 11) (.c (.bool true)) (.t 16)),
 oo 18 (.mov (.t 17)),
 ⟨some 19, .faddr 0 (.t 4), some (18, false)⟩,
 ⟨some 20, .ldI none (.t 19), some (18, false)⟩,
 ⟨some 21, .mov (.t 2), some (18, false)⟩,
 ⟨some 22, .iaddr (some 2) (.t 20) (.t 21), some (18, false)⟩,
 ⟨some 23, .faddr 0 (.t 22), some (18, false)⟩,
 ⟨some 24, .load none (.t 23), some (18, false)⟩,
 ⟨some 25, .bin .lss (.t 24) (ci 0), some (18, false)⟩,
 oo 26 (.pick (.t 18) (.c (.bool true)) (.t 25)),
 oo 27 (.mov (.t 26)),
 ⟨some 28, .faddr 0 (.t 4), some (27, false)⟩,
 ⟨some 29, .ldI none (.t 28), some (27, false)⟩,
 ⟨some 30, .mov (.t 2), some (27, false)⟩,
 ⟨some 31, .iaddr (some 2) (.t 29) (.t 30), some (27, false)⟩,
 ⟨some 32, .faddr 0 (.t 31), some (27, false)⟩,
 ⟨some 33, .load none (.t 32), some (27, false)⟩,
 ⟨some 34, .faddr 5 (.t 3), some (27, false)⟩,
 ⟨some 35, .ldI none (.t 34), some (27, false)⟩,
 ⟨some 36, .len (.t 35), some (27, false)⟩,
 ⟨some 37, .bin .geq (.t 33) (.t 36), some (27, false)⟩,
 oo 38 (.pick (.t 27) (.c (.bool true)) (.t 37))])
 (.cond (.t 38)
 (.seq (.ops false [
 oo 6 (.mov (ci (-1)))])
 (.ret))
 (.skip)))
 (.seq (.ops true [
 oo 39 (.faddr 5 (.t 3)),
 oo 40 (.ldI none (.t 39)),
 oo 41 (.faddr 0 (.t 4)),
 oo 42 (.ldI none (.t 41)),
 oo 43 (.mov (.t 2)),
 oo 44 (.iaddr (some 2) (.t 42) (.t 43)),
 oo 45 (.faddr 0 (.t 44)),
 oo 46 (.load none (.t 45)),
 oo 47 (.iaddr (some 3) (.t 40) (.t 46)),
 oo 48 (.faddr 0 (.t 47)),
 oo 49 (.load none (.t 48)),
 oo 7 (.mov (.t 49))])
 (.seq (.seq (.ops false [
 oo 8 (.mov (ci 0))])
 (.block 0 (.loop b52_0)))
 (.seq (.ops false [
 oo 6 (.mov (ci (-1)))])
 (.ret))))))
 [.t 6]

set_option maxRecDepth 100000 in
theorem ok52 : chkFn Tryd.prog 52 a52 = true := by kernel_rfl

def b53_0 : ACode :=
 (.seq (.seq (.ops false [
 oo 6 (.mov (.t 5)),
 oo 7 (.mov (.t 0)),
 oo 8 (.len (.t 7)),
 oo 9 (.bin .lss (.t 6) (.t 8))])
 (.cond (.t 9)
 (.skip)
 (.exit 0)))
 (.seq (.block 1 (.seq (.ops false [
 oo 12 (.mov (.t 0)),
 oo 13 (.mov (.t 5)),
 oo 14 (.iaddr none (.t 12) (.t 13)),
 oo 15 (.load none (.t 14)),
 oo 16 (.mov (.t 1)),
 oo 17 (.bin .eql (.t 15) (.t 16))])
 (.cond (.t 17)
 (.seq (.ops false [
 oo 18 (.mov (.t 0)),
 oo 4 (.mov (.t 18))])
 (.ret))
 (.skip))))
 (.ops false [
 oo 10 (.mov (.t 5)),
 oo 11 (.bin .add (.t 10) (ci 1)),
 oo 5 (.mov (.t 11))])))

/-- pointsman/pointsmanref12.add -/
def a53 : AFn := .mk 23
 (.seq (.ops false [
 oo 4 (.mov (.c (.vec none [])))])
 (.seq (.seq (.ops false [
 oo 5 (.mov (ci 0))])
 (.block 0 (.loop b53_0)))
 (.seq (.ops false [
 oo 19 (.mov (.t 0)),
 oo 20 (.mov (.t 1)),
 oo 21 (.bsliceI none [(.t 20)]),
 oo 22 (.append none (.t 19) (.t 21) false),
 oo 4 (.mov (.t 22))])
 (.ret))))
 [.t 4]

set_option maxRecDepth 100000 in
theorem ok53 : chkFn Tryd.prog 53 a53 = true := by kernel_rfl

def b44_1 : ACode :=
 (.seq (.seq (.ops false [
 oo 27 (.mov (.t 9)),
 oo 28 (.mov (.t 5)),
 oo 29 (.len (.t 28)),
 oo 30 (.bin .lss (.t 27) (.t 29)),
 oo 31 (.mov (.t 30)),
 ⟨some 32, .mov (.t 5), some (31, true)⟩,
 ⟨some 33, .mov (.t 9), some (31, true)⟩,
 ⟨some 34, .iaddr none (.t 32) (.t 33), some (31, true)⟩,
 ⟨some 35, .load none (.t 34), some (31, true)⟩,
 ⟨some 36, .mov (.t 8), some (31, true)⟩,
 ⟨some 37, .bin .neq (.t 35) (.t 36), some (31, true)⟩,
 oo 38 (.pick (.t 31) (.t 37) (.c (.bool false)))])
 (.cond (.t 38)
 (.skip)
 (.exit 2)))
 (.block 3 (.ops false [
 oo 39 (.mov (.t 9)),
 oo 40 (.bin .add (.t 39) (ci 1)),
 oo 9 (.mov (.t 40))])))

def b44_0 : ACode :=
 (.seq (.seq (.ops false [
 oo 16 (.mov (.t 7)),
 oo 17 (.faddr 0 (.t 3)),
 oo 18 (.ldI none (.t 17)),
 oo 19 (.len (.t 18)),
 oo 20 (.bin .lss (.t 16) (.t 19))])
 (.cond (.t 20)
 (.skip)
 (.exit 0)))
 (.seq (.block 1 (.seq (.ops false [
 oo 23 (.ldI (some 6) (.t 2)),
 oo 24 (.ldI (some 3) (.t 3)),
 oo 25 (.mov (.t 7)),
 oo 26 (.call false 52 [(.t 23), (.t 24), (.t 25)]),
 oo 8 (.mov (.t 26))])
 (.seq (.ops false [
 oo 9 (.mov (ci 0))])
 (.seq (.block 2 (.loop b44_1))
 (.seq (.seq (.ops false [
 oo 41 (.mov (.t 9)),
 oo 42 (.mov (.t 5)),
 oo 43 (.len (.t 42)),
 oo 44 (.bin .eql (.t 41) (.t 43))])
 (.cond (.t 44)
 (.seq (.ops false [
 oo 45 (.mov (.t 5)),
 oo 46 (.mov (.t 8)),
 oo 47 (.bsliceI none [(.t 46)]),
 oo 48 (.append none (.t 45) (.t 47) false),
 oo 5 (.mov (.t 48))])
 (.ops false [
 oo 49 (.mov (.t 6)),
 oo 50 (.bsliceI none [(.c (.int .u64 0))]),
 oo 51 (.append none (.t 49) (.t 50) true),
 oo 6 (.mov (.t 51))]))
 (.skip)))
 (.ops false [
 oo 52 (.mov (.t 6)),
 oo 53 (.mov (.t 9)),
 oo 54 (.mov (.t 6)),
 oo 55 (.mov (.t 9)),
 oo 56 (.iaddr none (.t 54) (.t 55)),
 oo 57 (.load none (.t 56)),
 oo 58 (.mov (.t 7)),
 oo 59 (.call false 41 [(.t 57), (.t 58)]),
 oo 60 (.iaddr none (.t 52) (.t 53)),
 ⟨none, .store none (.t 60) (.t 59), none⟩]))))))
 (.ops false [
 oo 21 (.mov (.t 7)),
 oo 22 (.bin .add (.t 21) (ci 1)),
 oo 7 (.mov (.t 22))])))

def b44_4 : ACode :=
 (.seq (.seq (.ops false [
 oo 74 (.mov (.t 15)),
 oo 75 (.faddr 1 (.t 3)),
 oo 76 (.ldI none (.t 75)),
 oo 77 (.len (.t 76)),
 oo 78 (.bin .lss (.t 74) (.t 77))])
 (.cond (.t 78)
 (.skip)
 (.exit 8)))
 (.seq (.block 9 (.ops true [
 oo 81 (.mov (.t 14)),
 oo 82 (.mov (.t 81)),
 ⟨some 83, .mov (.t 15), some (82, true)⟩,
 ⟨some 84, .mov (.t 13), some (82, true)⟩,
 ⟨some 85, .bin .eql (.t 83) (.t 84), some (82, true)⟩,
 ⟨some 86, .mov (.t 85), some (82, true)⟩,
 ⟨some 87, .faddr 1 (.t 3), some (86, false)⟩,
 ⟨some 88, .ldI none (.t 87), some (86, false)⟩,
 ⟨some 89, .mov (.t 13), some (86, false)⟩,
 ⟨some 90, .iaddr none (.t 88) (.t 89), some (86, false)⟩,
 ⟨some 91, .load none (.t 90), some (86, false)⟩,
 ⟨some 92, .faddr 1 (.t 3), some (86, false)⟩,
 ⟨some 93, .ldI none (.t 92), some (86, false)⟩,
 ⟨some 94, .mov (.t 15), some (86, false)⟩,
 ⟨some 95, .iaddr none (.t 93) (.t 94), some (86, false)⟩,
 ⟨some 96, .load none (.t 95), some (86, false)⟩,
 ⟨some 97, .bin .and (.t 91) (.t 96), some (86, false)⟩,
 ⟨some 98, .faddr 1 (.t 3), some (86, false)⟩,
 ⟨some 99, .ldI none (.t 98), some (86, false)⟩,
 ⟨some 100, .mov (.t 13), some (86, false)⟩,
 ⟨some 101, .iaddr none (.t 99) (.t 100), some (86, false)⟩,
 ⟨some 102, .load none (.t 101), some (86, false)⟩,
 ⟨some 103, .bin .neq (.t 97) (.t 102), some (86, false)⟩,
 ⟨some 104, .pick (.t 86) (.c (.bool true)) (.t 103), some (82, true)⟩,
 oo 105 (.pick (.t 82) (.t 104) (.c (.bool false))),
 oo 14 (.mov (.t 105))]))
 (.ops false [
 oo 79 (.mov (.t 15)),
 oo 80 (.bin .add (.t 79) (ci 1)),
 oo 15 (.mov (.t 80))])))

def b44_3 : ACode :=
 (.seq (.seq (.ops false [
 oo 67 (.mov (.t 13)),
 oo 68 (.faddr 1 (.t 3)),
 oo 69 (.ldI none (.t 68)),
 oo 70 (.len (.t 69)),
 oo 71 (.bin .lss (.t 67) (.t 70))])
 (.cond (.t 71)
 (.skip)
 (.exit 6)))
 (.seq (.block 7 (.seq (.ops false [
 oo 14 (.mov (.c (.bool true)))])
 (.seq (.seq (.ops false [
 oo 15 (.mov (ci 0))])
 (.block 8 (.loop b44_4)))
 (.seq (.ops false [
 oo 106 (.mov (.t 14))])
 (.cond (.t 106)
 (.ops true [
 oo 107 (.mov (.t 12)),
 oo 108 (.faddr 1 (.t 3)),
 oo 109 (.ldI none (.t 108)),
 oo 110 (.mov (.t 13)),
 oo 111 (.iaddr none (.t 109) (.t 110)),
 oo 112 (.load none (.t 111)),
 oo 113 (.mov (.t 6)),
 oo 114 (.mov (.t 11)),
 oo 115 (.iaddr none (.t 113) (.t 114)),
 oo 116 (.load none (.t 115)),
 oo 117 (.bin .and (.t 112) (.t 116)),
 oo 118 (.call true 53 [(.t 107), (.t 117)]),
 oo 12 (.mov (.t 118))])
 (.skip))))))
 (.ops false [
 oo 72 (.mov (.t 13)),
 oo 73 (.bin .add (.t 72) (ci 1)),
 oo 13 (.mov (.t 73))])))

def b44_2 : ACode :=
 (.seq (.seq (.ops false [
 oo 61 (.mov (.t 11)),
 oo 62 (.mov (.t 6)),
 oo 63 (.len (.t 62)),
 oo 64 (.bin .lss (.t 61) (.t 63))])
 (.cond (.t 64)
 (.skip)
 (.exit 4)))
 (.seq (.block 5 (.seq (.ops false [
 oo 12 (.mov (.c (.nils)))])
 (.seq (.seq (.ops false [
 oo 13 (.mov (ci 0))])
 (.block 6 (.loop b44_3)))
 (.ops false [
 oo 119 (.mov (.t 10)),
 oo 120 (.mov (.t 12)),
 oo 121 (.bsliceV none [(.t 120)] false),
 oo 122 (.append none (.t 119) (.t 121) false),
 oo 10 (.mov (.t 122))]))))
 (.ops false [
 oo 65 (.mov (.t 11)),
 oo 66 (.bin .add (.t 65) (ci 1)),
 oo 11 (.mov (.t 66))])))

/-- pointsman/pointsmanref12.parts -/
def a44 : AFn := .mk 124
 (.seq (.ops false [
 oo 2 (.box (some 6) (.t 0) true),
 oo 3 (.box (some 3) (.t 1) true),
 oo 4 (.mov (.c (.vec none [])))])
 (.seq (.ops false [
 oo 5 (.mov (.c (.nils)))])
 (.seq (.ops false [
 oo 6 (.mov (.c (.nils)))])
 (.seq (.seq (.ops false [
 oo 7 (.mov (ci 0))])
 (.block 0 (.loop b44_0)))
 (.seq (.ops false [
 oo 10 (.mov (.c (.nils)))])
 (.seq (.seq (.ops false [
 oo 11 (.mov (ci 0))])
 (.block 4 (.loop b44_2)))
 (.seq (.ops false [
 oo 123 (.mov (.t 10)),
 oo 4 (.mov (.t 123))])
 (.ret))))))))
 [.t 4]

set_option maxRecDepth 100000 in
theorem ok44 : chkFn Tryd.prog 44 a44 = true := by kernel_rfl

def b25_0 : ACode :=
 (.seq (.seq (.ops false [
 oo 17 (.mov (.t 7)),
 oo 18 (.mov (.t 5)),
 oo 19 (.len (.t 18)),
 oo 20 (.bin .lss (.t 17) (.t 19))])
 (.cond (.t 20)
 (.skip)
 (.exit 0)))
 (.seq (.block 1 (.ops false [
 oo 23 (.mov (.t 6)),
 oo 24 (.mov (.t 5)),
 oo 25 (.mov (.t 7)),
 oo 26 (.iaddr none (.t 24) (.t 25)),
 oo 27 (.load none (.t 26)),
 oo 28 (.len (.t 27)),
 oo 29 (.bin .mul (.t 23) (.t 28)),
 oo 30 (.min2 (.t 29) (ci 20001)),
 oo 6 (.mov (.t 30))]))
 (.ops false [
 oo 21 (.mov (.t 7)),
 oo 22 (.bin .add (.t 21) (ci 1)),
 oo 7 (.mov (.t 22))])))

def b25_3 : ACode :=
 (.seq (.seq (.ops false [
 oo 46 (.mov (.t 12)),
 oo 47 (.mov (.t 5)),
 oo 48 (.mov (.t 9)),
 oo 49 (.iaddr none (.t 47) (.t 48)),
 oo 50 (.load none (.t 49)),
 oo 51 (.len (.t 50)),
 oo 52 (.bin .lss (.t 46) (.t 51))])
 (.cond (.t 52)
 (.skip)
 (.exit 6)))
 (.seq (.block 7 (.ops true [
 oo 55 (.mov (.t 10)),
 oo 56 (.mov (.t 8)),
 oo 57 (.mov (.t 11)),
 oo 58 (.iaddr none (.t 56) (.t 57)),
 oo 59 (.load none (.t 58)),
 oo 60 (.mov (.t 5)),
 oo 61 (.mov (.t 9)),
 oo 62 (.iaddr none (.t 60) (.t 61)),
 oo 63 (.load none (.t 62)),
 oo 64 (.mov (.t 12)),
 oo 65 (.iaddr none (.t 63) (.t 64)),
 oo 66 (.load none (.t 65)),
 oo 67 (.bin .or (.t 59) (.t 66)),
 oo 68 (.bsliceI none [(.t 67)]),
 oo 69 (.append none (.t 55) (.t 68) false),
 oo 10 (.mov (.t 69))]))
 (.ops false [
 oo 53 (.mov (.t 12)),
 oo 54 (.bin .add (.t 53) (ci 1)),
 oo 12 (.mov (.t 54))])))

def b25_2 : ACode :=
 (.seq (.seq (.ops false [
 oo 40 (.mov (.t 11)),
 oo 41 (.mov (.t 8)),
 oo 42 (.len (.t 41)),
 oo 43 (.bin .lss (.t 40) (.t 42))])
 (.cond (.t 43)
 (.skip)
 (.exit 4)))
 (.seq (.block 5 (.seq (.ops false [
 oo 12 (.mov (ci 0))])
 (.block 6 (.loop b25_3))))
 (.ops false [
 oo 44 (.mov (.t 11)),
 oo 45 (.bin .add (.t 44) (ci 1)),
 oo 11 (.mov (.t 45))])))

def b25_1 : ACode :=
 (.seq (.seq (.ops false [
 oo 34 (.mov (.t 9)),
 oo 35 (.mov (.t 5)),
 oo 36 (.len (.t 35)),
 oo 37 (.bin .lss (.t 34) (.t 36))])
 (.cond (.t 37)
 (.skip)
 (.exit 2)))
 (.seq (.block 3 (.seq (.ops false [
 oo 10 (.mov (.c (.nils)))])
 (.seq (.seq (.ops false [
 oo 11 (.mov (ci 0))])
 (.block 4 (.loop b25_2)))
 (.ops false [
 oo 70 (.mov (.t 10)),
 oo 8 (.mov (.t 70))]))))
 (.ops false [
 oo 38 (.mov (.t 9)),
 oo 39 (.bin .add (.t 38) (ci 1)),
 oo 9 (.mov (.t 39))])))

def b25_4 : ACode :=
 (.seq (.seq (.ops false [
 oo 71 (.mov (.t 13)),
 oo 72 (.mov (.t 8)),
 oo 73 (.len (.t 72)),
 oo 74 (.bin .lss (.t 71) (.t 73))])
 (.cond (.t 74)
 (.skip)
 (.exit 8)))
 (.seq (.block 9 (.seq (.ops true [
 oo 77 (.ldI (some 3) (.t 3)),
 oo 78 (.mov (.t 8)),
 oo 79 (.mov (.t 13)),
 oo 80 (.iaddr none (.t 78) (.t 79)),
 oo 81 (.load none (.t 80)),
 oo 82 (.call false 43 [(.t 77), (.t 81)]),
 oo 83 (.un .not (.t 82))])
 (.cond (.t 83)
 (.seq (.ops false [
 oo 4 (.mov (ci 23))])
 (.ret))
 (.skip))))
 (.ops false [
 oo 75 (.mov (.t 13)),
 oo 76 (.bin .add (.t 75) (ci 1)),
 oo 13 (.mov (.t 76))])))

/-- pointsman/pointsmanref12.local -/
def a25 : AFn := .mk 84
 (.seq (.ops false [
 oo 2 (.box (some 6) (.t 0) true),
 oo 3 (.box (some 3) (.t 1) true),
 oo 4 (.mov (ci 0))])
 (.seq (.ops false [
 oo 14 (.ldI (some 6) (.t 2)),
 oo 15 (.ldI (some 3) (.t 3)),
 oo 16 (.call false 44 [(.t 14), (.t 15)]),
 oo 5 (.mov (.t 16))])
 (.seq (.ops false [
 oo 6 (.mov (ci 1))])
 (.seq (.seq (.ops false [
 oo 7 (.mov (ci 0))])
 (.block 0 (.loop b25_0)))
 (.seq (.seq (.ops false [
 oo 31 (.mov (.t 6)),
 oo 32 (.bin .gtr (.t 31) (ci 20000))])
 (.cond (.t 32)
 (.seq (.ops false [
 oo 4 (.mov (ci 21))])
 (.ret))
 (.skip)))
 (.seq (.ops false [
 oo 33 (.bsliceI none [(.c (.int .u64 0))]),
 oo 8 (.mov (.t 33))])
 (.seq (.seq (.ops false [
 oo 9 (.mov (ci 0))])
 (.block 2 (.loop b25_1)))
 (.seq (.seq (.ops false [
 oo 13 (.mov (ci 0))])
 (.block 8 (.loop b25_4)))
 (.seq (.ops false [
 oo 4 (.mov (ci 0))])
 (.ret))))))))))
 [.t 4]

set_option maxRecDepth 100000 in
theorem ok25 : chkFn Tryd.prog 25 a25 = true := by kernel_rfl

/-- pointsman/pointsmanref12.Of -/
def a7 : AFn := .mk 40
 (.seq (.ops false [
 oo 1 (.box (some 6) (.t 0) true),
 oo 2 (.alloc [.vec (some 2) [], .vec none [], .vec none []]),
 oo 3 (.mov (ci 0))])
 (.seq (.ops false [
 oo 9 (.ldI (some 6) (.t 1)),
 oo 10 (.call false 22 [(.t 9)]),
 oo 8 (.mov (.t 10)),
 oo 11 (.extract (.t 8) 0),
 oo 12 (.extract (.t 8) 1),
 oo 4 (.alloc [.vec none [], .vec (some 3) []]),
 ⟨none, .store (some 2) (.t 4) (.t 11), none⟩,
 oo 5 (.mov (.t 12))])
 (.seq (.seq (.ops false [
 oo 13 (.mov (.t 5)),
 oo 14 (.bin .neq (.t 13) (ci 0))])
 (.cond (.t 14)
 (.seq (.ops false [
 oo 15 (.build [.vec (some 2) [], .vec none [], .vec none []] []),
 oo 16 (.mov (.t 5)),
 ⟨none, .store (some 3) (.t 2) (.t 15), none⟩,
 oo 3 (.mov (.t 16))])
 (.ret))
 (.skip)))
 (.seq (.ops false [
 oo 18 (.ldI (some 6) (.t 1)),
 oo 19 (.load (some 2) (.t 4)),
 oo 20 (.call false 23 [(.t 18), (.t 19)]),
 oo 17 (.mov (.t 20)),
 oo 21 (.extract (.t 17) 0),
 oo 22 (.extract (.t 17) 1),
 oo 6 (.alloc [.vec (some 2) [], .vec none [], .vec none []]),
 ⟨none, .store (some 3) (.t 6) (.t 21), none⟩,
 oo 7 (.mov (.t 22))])
 (.seq (.seq (.ops false [
 oo 23 (.mov (.t 7)),
 oo 24 (.bin .neq (.t 23) (ci 0))])
 (.cond (.t 24)
 (.seq (.ops false [
 oo 25 (.build [.vec (some 2) [], .vec none [], .vec none []] []),
 oo 26 (.mov (.t 7)),
 ⟨none, .store (some 3) (.t 2) (.t 25), none⟩,
 oo 3 (.mov (.t 26))])
 (.ret))
 (.skip)))
 (.seq (.seq (.ops false [
 oo 27 (.load (some 3) (.t 6)),
 oo 28 (.load (some 2) (.t 4)),
 oo 29 (.call false 24 [(.t 27), (.t 28)]),
 oo 30 (.un .not (.t 29))])
 (.cond (.t 30)
 (.seq (.ops false [
 oo 31 (.build [.vec (some 2) [], .vec none [], .vec none []] []),
 ⟨none, .store (some 3) (.t 2) (.t 31), none⟩,
 oo 3 (.mov (ci 22))])
 (.ret))
 (.skip)))
 (.seq (.ops false [
 oo 32 (.ldI (some 6) (.t 1)),
 oo 33 (.load (some 3) (.t 6)),
 oo 34 (.call false 25 [(.t 32), (.t 33)]),
 oo 7 (.mov (.t 34))])
 (.seq (.seq (.ops false [
 oo 35 (.mov (.t 7)),
 oo 36 (.bin .neq (.t 35) (ci 0))])
 (.cond (.t 36)
 (.seq (.ops false [
 oo 37 (.build [.vec (some 2) [], .vec none [], .vec none []] []),
 oo 38 (.mov (.t 7)),
 ⟨none, .store (some 3) (.t 2) (.t 37), none⟩,
 oo 3 (.mov (.t 38))])
 (.ret))
 (.skip)))
 (.seq (.ops false [
 oo 39 (.load (some 3) (.t 6)),
 ⟨none, .store (some 3) (.t 2) (.t 39), none⟩,
 oo 3 (.mov (ci 0))])
 (.ret))))))))))
 [.cell 2 (some 3), .t 3]

set_option maxRecDepth 100000 in
theorem ok7 : chkFn Tryd.prog 7 a7 = true := by kernel_rfl

/-- pointsman/pointsmanref18.New -/
def a9 : AFn := .mk 15
 (.seq (.ops false [
 oo 2 (.box (some 3) (.t 0) true),
 oo 4 (.alloc [.vec (some 2) [], .vec none [], .vec none [], .int .u64 0, .vec none [], .vec none [], .vec none []])])
 (.seq (.ops false [
 oo 6 (.mov (.t 1)),
 oo 7 (.max2 (.t 6) (ci 0)),
 oo 8 (.min2 (.t 7) (ci 12)),
 oo 5 (.mov (.t 8))])
 (.seq (.ops true [
 oo 9 (.ldI (some 3) (.t 2)),
 oo 10 (.mov (.t 5)),
 oo 11 (.mkslF none (.int .u64 0) (.t 10) (.t 10)),
 oo 12 (.mov (.t 5)),
 oo 13 (.mkslF none (.int .u64 0) (.t 12) (.t 12)),
 oo 14 (.build [.vec (some 2) [], .vec none [], .vec none [], .int .u64 0, .vec none [], .vec none [], .vec none []] [(0, 3, (.t 9)), (4, 1, (.t 11)), (5, 1, (.t 13))]),
 ⟨none, .store (some 7) (.t 4) (.t 14), none⟩])
 (.ret))))
 [.cell 4 (some 7)]

set_option maxRecDepth 100000 in
theorem ok9 : chkFn Tryd.prog 9 a9 = true := by kernel_rfl

/-- (pointsman/pointsmanref18.Ctrl).Tell -/
def a10 : AFn := .mk 32
 (.seq (.ops false [
 oo 2 (.box (some 7) (.t 0) false),
 oo 4 (.alloc [.vec (some 2) [], .vec none [], .vec none [], .int .u64 0, .vec none [], .vec none [], .vec none []]),
 oo 5 (.mov (.c (.int .u64 0))),
 oo 6 (.mov (ci 0))])
 (.seq (.seq (.ops false [
 oo 8 (.mov (.t 1)),
 oo 9 (.bin .lss (.t 8) (ci 0)),
 oo 10 (.mov (.t 9)),
 ⟨some 11, .mov (.t 1), some (10, false)⟩,
 ⟨some 12, .faddr 5 (.t 2), some (10, false)⟩,
 ⟨some 13, .load none (.t 12), some (10, false)⟩,
 ⟨some 14, .len (.t 13), some (10, false)⟩,
 ⟨some 15, .bin .geq (.t 11) (.t 14), some (10, false)⟩,
 oo 16 (.pick (.t 10) (.c (.bool true)) (.t 15))])
 (.cond (.t 16)
 (.seq (.ops false [
 oo 17 (.load (some 7) (.t 2)),
 ⟨none, .store (some 7) (.t 4) (.t 17), none⟩,
 oo 5 (.mov (.c (.int .u64 0))),
 oo 6 (.mov (ci 1))])
 (.ret))
 (.skip)))
 (.seq (.ops false [
 oo 18 (.bslice none [] true),
 oo 19 (.faddr 5 (.t 2)),
 oo 20 (.load none (.t 19)),
 oo 21 (.append none (.t 18) (.t 20) true),
 oo 7 (.mov (.t 21))])
 (.seq (.ops false [
 oo 22 (.mov (.t 7)),
 oo 23 (.mov (.t 1)),
 oo 24 (.faddr 3 (.t 2)),
 oo 25 (.load none (.t 24)),
 oo 26 (.iaddr none (.t 22) (.t 23)),
 ⟨none, .store none (.t 26) (.t 25), none⟩])
 (.seq (.ops false [
 oo 27 (.mov (.t 7)),
 oo 28 (.faddr 5 (.t 2)),
 ⟨none, .store none (.t 28) (.t 27), none⟩])
 (.seq (.opsS [(2, 3)] [
 oo 29 (.load (some 7) (.t 2)),
 oo 30 (.faddr 3 (.t 2)),
 oo 31 (.load none (.t 30)),
 ⟨none, .store (some 7) (.t 4) (.t 29), none⟩,
 oo 5 (.mov (.t 31)),
 oo 6 (.mov (ci 0))])
 (.ret)))))))
 [.cell 4 (some 7), .t 5, .t 6]

set_option maxRecDepth 100000 in
theorem ok10 : chkFn Tryd.prog 10 a10 = true := by kernel_rfl

def b12_0 : ACode :=
 (.seq (.seq (.ops false [
 oo 41 (.mov (.t 9)),
 oo 42 (.bin .lss (.t 41) (ci 64))])
 (.cond (.t 42)
 (.skip)
 (.exit 0)))
 (.seq (.block 1 (.seq (.ops false [
 oo 45 (.mov (.t 2)),
 oo 46 (.mov (.t 9)),
 oo 47 (.call false 21 [(.t 45), (.t 46)]),
 oo 48 (.mov (.t 47)),
 ⟨some 49, .faddr 3 (.t 3), some (48, true)⟩,
 ⟨some 50, .load none (.t 49), some (48, true)⟩,
 ⟨some 51, .mov (.t 9), some (48, true)⟩,
 ⟨some 52, .call false 21 [(.t 50), (.t 51)], some (48, true)⟩,
 ⟨some 53, .un .not (.t 52), some (48, true)⟩,
 oo 54 (.pick (.t 48) (.t 53) (.c (.bool false)))])
 (.cond (.t 54)
 (.ops false [
 oo 55 (.mov (.t 8)),
 oo 56 (.mov (.t 9)),
 oo 57 (.bsliceI none [(.t 56)]),
 oo 58 (.append none (.t 55) (.t 57) false),
 oo 8 (.mov (.t 58))])
 (.skip))))
 (.ops false [
 oo 43 (.mov (.t 9)),
 oo 44 (.bin .add (.t 43) (ci 1)),
 oo 9 (.mov (.t 44))])))

/-- (pointsman/pointsmanref18.Ctrl).Hear -/
def a12 : AFn := .mk 77
 (.seq (.ops false [
 oo 3 (.box (some 7) (.t 0) false),
 oo 6 (.alloc [.vec (some 2) [], .vec none [], .vec none [], .int .u64 0, .vec none [], .vec none [], .vec none []]),
 oo 7 (.mov (ci 0))])
 (.seq (.seq (.ops false [
 oo 11 (.mov (.t 1)),
 oo 12 (.bin .lss (.t 11) (ci 0)),
 oo 13 (.mov (.t 12)),
 ⟨some 14, .mov (.t 1), some (13, false)⟩,
 ⟨some 15, .faddr 4 (.t 3), some (13, false)⟩,
 ⟨some 16, .load none (.t 15), some (13, false)⟩,
 ⟨some 17, .len (.t 16), some (13, false)⟩,
 ⟨some 18, .bin .geq (.t 14) (.t 17), some (13, false)⟩,
 oo 19 (.pick (.t 13) (.c (.bool true)) (.t 18))])
 (.cond (.t 19)
 (.seq (.ops false [
 oo 20 (.load (some 7) (.t 3)),
 ⟨none, .store (some 7) (.t 6) (.t 20), none⟩,
 oo 7 (.mov (ci 1))])
 (.ret))
 (.skip)))
 (.seq (.seq (.ops false [
 oo 21 (.faddr 0 (.t 3)),
 oo 22 (.load (some 3) (.t 21)),
 oo 23 (.mov (.t 2)),
 oo 24 (.call false 17 [(.t 22), (.t 23)]),
 oo 25 (.bin .lss (.t 24) (ci 0)),
 oo 26 (.mov (.t 25)),
 ⟨some 27, .faddr 0 (.t 3), some (26, false)⟩,
 ⟨some 28, .load (some 3) (.t 27), some (26, false)⟩,
 ⟨some 29, .faddr 3 (.t 3), some (26, false)⟩,
 ⟨some 30, .load none (.t 29), some (26, false)⟩,
 ⟨some 31, .mov (.t 2), some (26, false)⟩,
 ⟨some 32, .bin .or (.t 30) (.t 31), some (26, false)⟩,
 ⟨some 33, .call false 17 [(.t 28), (.t 32)], some (26, false)⟩,
 ⟨some 34, .bin .lss (.t 33) (ci 0), some (26, false)⟩,
 oo 35 (.pick (.t 26) (.c (.bool true)) (.t 34))])
 (.cond (.t 35)
 (.seq (.ops false [
 oo 36 (.load (some 7) (.t 3)),
 ⟨none, .store (some 7) (.t 6) (.t 36), none⟩,
 oo 7 (.mov (ci 31))])
 (.ret))
 (.skip)))
 (.seq (.ops false [
 oo 37 (.bslice none [] false),
 oo 38 (.faddr 6 (.t 3)),
 oo 39 (.load none (.t 38)),
 oo 40 (.append none (.t 37) (.t 39) false),
 oo 8 (.mov (.t 40))])
 (.seq (.seq (.ops false [
 oo 9 (.mov (ci 0))])
 (.block 0 (.loop b12_0)))
 (.seq (.ops false [
 oo 59 (.bslice none [] true),
 oo 60 (.faddr 4 (.t 3)),
 oo 61 (.load none (.t 60)),
 oo 62 (.append none (.t 59) (.t 61) true),
 oo 10 (.mov (.t 62))])
 (.seq (.ops false [
 oo 63 (.mov (.t 10)),
 oo 64 (.mov (.t 1)),
 oo 65 (.mov (.t 2)),
 oo 66 (.iaddr none (.t 63) (.t 64)),
 ⟨none, .store none (.t 66) (.t 65), none⟩])
 (.seq (.ops false [
 oo 67 (.faddr 3 (.t 3)),
 oo 68 (.load none (.t 67)),
 oo 69 (.mov (.t 2)),
 oo 70 (.bin .or (.t 68) (.t 69)),
 oo 71 (.faddr 3 (.t 3)),
 ⟨none, .store none (.t 71) (.t 70), none⟩])
 (.seq (.ops false [
 oo 72 (.mov (.t 8)),
 oo 73 (.faddr 6 (.t 3)),
 ⟨none, .store none (.t 73) (.t 72), none⟩])
 (.seq (.ops false [
 oo 74 (.mov (.t 10)),
 oo 75 (.faddr 4 (.t 3)),
 ⟨none, .store none (.t 75) (.t 74), none⟩])
 (.seq (.ops false [
 oo 76 (.load (some 7) (.t 3)),
 ⟨none, .store (some 7) (.t 6) (.t 76), none⟩,
 oo 7 (.mov (ci 0))])
 (.ret))))))))))))
 [.cell 6 (some 7), .t 7]

set_option maxRecDepth 100000 in
theorem ok12 : chkFn Tryd.prog 12 a12 = true := by kernel_rfl

/-- pointsman/events.In -/
def a31 : AFn := .mk 9
 (.seq (.ops false [
 oo 4 (.mov (.c (.bool false)))])
 (.seq (.ops false [
 oo 5 (.mov (.t 0)),
 oo 6 (.mov (.t 1)),
 oo 7 (.bin .andNot (.t 5) (.t 6)),
 oo 8 (.bin .eql (.t 7) (.c (.int .u64 0))),
 oo 4 (.mov (.t 8))])
 (.ret)))
 [.t 4]

set_option maxRecDepth 100000 in
theorem ok31 : chkFn Tryd.prog 31 a31 = true := by kernel_rfl

/-- (*pointsman/ctrl.Ctrl).Owes -/
def a18 : AFn := .mk 33
 (.seq (.ops false [
 oo 4 (.mov (.c (.bool false)))])
 (.seq (.ops true [
 oo 5 (.mov (.t 0)),
 oo 6 (.mov (.t 1)),
 oo 7 (.call false 26 [(.t 5), (.t 6)]),
 oo 8 (.mov (.t 7)),
 ⟨some 9, .mov (.t 0), some (8, true)⟩,
 ⟨some 10, .nilchk (.t 9), some (8, true)⟩,
 ⟨some 11, .faddr 3 (.t 10), some (8, true)⟩,
 ⟨some 12, .load none (.t 11), some (8, true)⟩,
 ⟨some 13, .mov (.t 0), some (8, true)⟩,
 ⟨some 14, .nilchk (.t 13), some (8, true)⟩,
 ⟨some 15, .faddr 4 (.t 14), some (8, true)⟩,
 ⟨some 16, .load none (.t 15), some (8, true)⟩,
 ⟨some 17, .mov (.t 1), some (8, true)⟩,
 ⟨some 18, .iaddr (some 2) (.t 16) (.t 17), some (8, true)⟩,
 ⟨some 19, .faddr 1 (.t 18), some (8, true)⟩,
 ⟨some 20, .load none (.t 19), some (8, true)⟩,
 ⟨some 21, .mov (.t 0), some (8, true)⟩,
 ⟨some 22, .nilchk (.t 21), some (8, true)⟩,
 ⟨some 23, .faddr 4 (.t 22), some (8, true)⟩,
 ⟨some 24, .load none (.t 23), some (8, true)⟩,
 ⟨some 25, .mov (.t 1), some (8, true)⟩,
 ⟨some 26, .iaddr (some 2) (.t 24) (.t 25), some (8, true)⟩,
 ⟨some 27, .faddr 0 (.t 26), some (8, true)⟩,
 ⟨some 28, .load none (.t 27), some (8, true)⟩,
 ⟨some 29, .bin .or (.t 20) (.t 28), some (8, true)⟩,
 ⟨some 30, .call false 31 [(.t 12), (.t 29)], some (8, true)⟩,
 ⟨some 31, .un .not (.t 30), some (8, true)⟩,
 oo 32 (.pick (.t 8) (.t 31) (.c (.bool false))),
 oo 4 (.mov (.t 32))])
 (.ret)))
 [.t 4]

set_option maxRecDepth 100000 in
theorem ok18 : chkFn Tryd.prog 18 a18 = true := by kernel_rfl

/-- (pointsman/pointsmanref18.Ctrl).Owes -/
def a19 : AFn := .mk 33
 (.seq (.ops false [
 oo 2 (.box (some 7) (.t 0) true),
 oo 4 (.mov (.c (.bool false)))])
 (.seq (.ops true [
 oo 5 (.mov (.t 1)),
 oo 6 (.bin .geq (.t 5) (ci 0)),
 oo 7 (.mov (.t 6)),
 ⟨some 8, .mov (.t 1), some (7, true)⟩,
 ⟨some 9, .faddr 5 (.t 2), some (7, true)⟩,
 ⟨some 10, .ldI none (.t 9), some (7, true)⟩,
 ⟨some 11, .len (.t 10), some (7, true)⟩,
 ⟨some 12, .bin .lss (.t 8) (.t 11), some (7, true)⟩,
 oo 13 (.pick (.t 7) (.t 12) (.c (.bool false))),
 oo 14 (.mov (.t 13)),
 ⟨some 15, .faddr 3 (.t 2), some (14, true)⟩,
 ⟨some 16, .ldI none (.t 15), some (14, true)⟩,
 ⟨some 17, .faddr 5 (.t 2), some (14, true)⟩,
 ⟨some 18, .ldI none (.t 17), some (14, true)⟩,
 ⟨some 19, .mov (.t 1), some (14, true)⟩,
 ⟨some 20, .iaddr none (.t 18) (.t 19), some (14, true)⟩,
 ⟨some 21, .load none (.t 20), some (14, true)⟩,
 ⟨some 22, .faddr 4 (.t 2), some (14, true)⟩,
 ⟨some 23, .ldI none (.t 22), some (14, true)⟩,
 ⟨some 24, .mov (.t 1), some (14, true)⟩,
 ⟨some 25, .iaddr none (.t 23) (.t 24), some (14, true)⟩,
 ⟨some 26, .load none (.t 25), some (14, true)⟩,
 ⟨some 27, .bin .or (.t 21) (.t 26), some (14, true)⟩,
 ⟨some 28, .bin .and (.t 16) (.t 27), some (14, true)⟩,
 ⟨some 29, .faddr 3 (.t 2), some (14, true)⟩,
 ⟨some 30, .ldI none (.t 29), some (14, true)⟩,
 ⟨some 31, .bin .neq (.t 28) (.t 30), some (14, true)⟩,
 oo 32 (.pick (.t 14) (.t 31) (.c (.bool false))),
 oo 4 (.mov (.t 32))])
 (.ret)))
 [.t 4]

set_option maxRecDepth 100000 in
theorem ok19 : chkFn Tryd.prog 19 a19 = true := by kernel_rfl

def b3_1 : ACode :=
 (.seq (.ops false [
 oo 147 (.bin .lss (.t 146) (.t 145))])
 (.seq (.cond (.t 147)
 (.skip)
 (.exit 2))
 (.seq (.block 3 (.seq (.ops false [
 oo 148 (.mov (.t 146)),
 oo 22 (.mov (.t 148))])
 (.seq (.ops true [
 oo 149 (.mov (.t 21)),
 oo 150 (.mov (.t 22)),
 oo 151 (.iaddr none (.t 149) (.t 150)),
 oo 152 (.load none (.t 151)),
 oo 153 (.faddr 6 (.t 10)),
 oo 154 (.load none (.t 153)),
 oo 155 (.mov (.t 22)),
 oo 156 (.iaddr none (.t 154) (.t 155)),
 oo 157 (.load none (.t 156)),
 oo 158 (.bin .neq (.t 152) (.t 157))])
 (.cond (.t 158)
 (.seq (.ops false [
 oo 6 (.mov (.c (.bool false)))])
 (.ret))
 (.skip)))))
 (.ops false [
 oo 159 (.bin .add (.t 146) (ci 1)),
 oo 146 (.mov (.t 159))]))))

def b3_2 : ACode :=
 (.seq (.seq (.ops false [
 oo 160 (.mov (.t 23)),
 oo 161 (.faddr 5 (.t 10)),
 oo 162 (.load none (.t 161)),
 oo 163 (.len (.t 162)),
 oo 164 (.bin .leq (.t 160) (.t 163))])
 (.cond (.t 164)
 (.skip)
 (.exit 4)))
 (.seq (.block 5 (.seq (.opsS [(2, 3)] [
 oo 167 (.mov (.t 9)),
 oo 168 (.mov (.t 23)),
 oo 169 (.call true 18 [(.t 167), (.t 168)]),
 oo 170 (.load (some 7) (.t 10)),
 oo 171 (.mov (.t 23)),
 oo 172 (.call false 19 [(.t 170), (.t 171)]),
 oo 173 (.eqB true (.t 169) (.t 172))])
 (.cond (.t 173)
 (.seq (.ops false [
 oo 6 (.mov (.c (.bool false)))])
 (.ret))
 (.skip))))
 (.ops false [
 oo 165 (.mov (.t 23)),
 oo 166 (.bin .add (.t 165) (ci 1)),
 oo 23 (.mov (.t 166))])))

def b3_0 : ACode :=
 (.seq (.ops false [
 oo 52 (.bin .lss (.t 51) (.t 50))])
 (.seq (.cond (.t 52)
 (.skip)
 (.exit 0))
 (.seq (.block 1 (.seq (.ops false [
 oo 53 (.iaddr (some 4) (.t 49) (.t 51)),
 oo 54 (.load (some 4) (.t 53)),
 oo 12 (.alloc [.int .i64 0, .int .i64 0, .int .i64 0, .int .u64 0]),
 ⟨none, .store (some 4) (.t 12) (.t 54), none⟩])
 (.seq (.ops false [
 oo 55 (.faddr 1 (.t 7)),
 oo 56 (.load none (.t 55)),
 oo 57 (.len (.t 56)),
 oo 13 (.mov (.t 57))])
 (.seq (.seq (.ops false [
 oo 58 (.faddr 0 (.t 12)),
 oo 59 (.load none (.t 58)),
 oo 60 (.bin .eql (.t 59) (ci 0))])
 (.cond (.t 60)
 (.ops true [
 oo 61 (.faddr 1 (.t 7)),
 oo 62 (.load none (.t 61)),
 oo 63 (.faddr 2 (.t 12)),
 oo 64 (.load none (.t 63)),
 oo 65 (.mov (.t 13)),
 oo 66 (.bin .rem (.t 64) (.t 65)),
 oo 67 (.mov (.t 13)),
 oo 68 (.bin .add (.t 66) (.t 67)),
 oo 69 (.mov (.t 13)),
 oo 70 (.bin .rem (.t 68) (.t 69)),
 oo 71 (.iaddr none (.t 62) (.t 70)),
 oo 72 (.load none (.t 71)),
 oo 73 (.faddr 3 (.t 12)),
 ⟨none, .store none (.t 73) (.t 72), none⟩])
 (.skip)))
 (.seq (.seq (.ops false [
 oo 74 (.faddr 0 (.t 12)),
 oo 75 (.load none (.t 74)),
 oo 76 (.bin .eql (.t 75) (ci 2))])
 (.cond (.t 76)
 (.seq (.ops false [
 oo 78 (.load (some 7) (.t 10)),
 oo 79 (.faddr 1 (.t 12)),
 oo 80 (.load none (.t 79)),
 oo 81 (.call false 10 [(.t 78), (.t 80)]),
 oo 77 (.mov (.t 81)),
 oo 82 (.extract (.t 77) 0),
 oo 83 (.extract (.t 77) 1),
 oo 84 (.extract (.t 77) 2),
 oo 14 (.alloc [.vec (some 2) [], .vec none [], .vec none [], .int .u64 0, .vec none [], .vec none [], .vec none []]),
 ⟨none, .store (some 7) (.t 14) (.t 82), none⟩,
 oo 15 (.mov (.t 83)),
 oo 16 (.mov (.t 84))])
 (.seq (.ops false [
 oo 86 (.mov (.t 9)),
 oo 87 (.faddr 1 (.t 12)),
 oo 88 (.load none (.t 87)),
 oo 89 (.call true 11 [(.t 86), (.t 88)]),
 oo 85 (.mov (.t 89)),
 oo 90 (.extract (.t 85) 0),
 oo 91 (.extract (.t 85) 1),
 oo 17 (.mov (.t 90)),
 oo 18 (.mov (.t 91))])
 (.seq (.seq (.ops false [
 oo 92 (.mov (.t 18)),
 oo 93 (.mov (.t 16)),
 oo 94 (.bin .neq (.t 92) (.t 93)),
 oo 95 (.mov (.t 94)),
 ⟨some 96, .mov (.t 15), some (95, false)⟩,
 ⟨some 97, .mov (.t 17), some (95, false)⟩,
 ⟨some 98, .bin .neq (.t 96) (.t 97), some (95, false)⟩,
 oo 99 (.pick (.t 95) (.c (.bool true)) (.t 98))])
 (.cond (.t 99)
 (.seq (.ops false [
 oo 6 (.mov (.c (.bool false)))])
 (.ret))
 (.skip)))
 (.ops false [
 oo 100 (.load (some 7) (.t 14)),
 ⟨none, .store (some 7) (.t 10) (.t 100), none⟩]))))
 (.seq (.ops false [
 oo 102 (.load (some 7) (.t 10)),
 oo 103 (.faddr 1 (.t 12)),
 oo 104 (.load none (.t 103)),
 oo 105 (.faddr 3 (.t 12)),
 oo 106 (.load none (.t 105)),
 oo 107 (.call false 12 [(.t 102), (.t 104), (.t 106)]),
 oo 101 (.mov (.t 107)),
 oo 108 (.extract (.t 101) 0),
 oo 109 (.extract (.t 101) 1),
 oo 19 (.alloc [.vec (some 2) [], .vec none [], .vec none [], .int .u64 0, .vec none [], .vec none [], .vec none []]),
 ⟨none, .store (some 7) (.t 19) (.t 108), none⟩,
 oo 20 (.mov (.t 109))])
 (.seq (.seq (.ops false [
 oo 110 (.mov (.t 9)),
 oo 111 (.faddr 1 (.t 12)),
 oo 112 (.load none (.t 111)),
 oo 113 (.faddr 3 (.t 12)),
 oo 114 (.load none (.t 113)),
 oo 115 (.call true 13 [(.t 110), (.t 112), (.t 114)]),
 oo 116 (.mov (.t 20)),
 oo 117 (.bin .neq (.t 115) (.t 116))])
 (.cond (.t 117)
 (.seq (.ops false [
 oo 6 (.mov (.c (.bool false)))])
 (.ret))
 (.skip)))
 (.ops false [
 oo 118 (.load (some 7) (.t 19)),
 ⟨none, .store (some 7) (.t 10) (.t 118), none⟩])))))
 (.seq (.ops false [
 oo 119 (.mov (.t 9)),
 oo 120 (.call true 14 [(.t 119)]),
 oo 21 (.mov (.t 120))])
 (.seq (.seq (.opsS [(1, 3), (15, 17), (15, 19)] [
 oo 121 (.mov (.t 9)),
 oo 122 (.call true 15 [(.t 121)]),
 oo 123 (.faddr 3 (.t 10)),
 oo 124 (.load none (.t 123)),
 oo 125 (.bin .neq (.t 122) (.t 124)),
 oo 126 (.mov (.t 125)),
 ⟨some 127, .mov (.t 21), some (126, false)⟩,
 ⟨some 128, .len (.t 127), some (126, false)⟩,
 ⟨some 129, .faddr 6 (.t 10), some (126, false)⟩,
 ⟨some 130, .load none (.t 129), some (126, false)⟩,
 ⟨some 131, .len (.t 130), some (126, false)⟩,
 ⟨some 132, .bin .neq (.t 128) (.t 131), some (126, false)⟩,
 oo 133 (.pick (.t 126) (.c (.bool true)) (.t 132)),
 oo 134 (.mov (.t 133)),
 ⟨some 135, .mov (.t 9), some (134, false)⟩,
 ⟨some 136, .call true 16 [(.t 135)], some (134, false)⟩,
 ⟨some 137, .convI .i64 (.t 136), some (134, false)⟩,
 ⟨some 138, .load (some 3) (.t 7), some (134, false)⟩,
 ⟨some 139, .faddr 3 (.t 10), some (134, false)⟩,
 ⟨some 140, .load none (.t 139), some (134, false)⟩,
 ⟨some 141, .call false 17 [(.t 138), (.t 140)], some (134, false)⟩,
 ⟨some 142, .bin .neq (.t 137) (.t 141), some (134, false)⟩,
 oo 143 (.pick (.t 134) (.c (.bool true)) (.t 142))])
 (.cond (.t 143)
 (.seq (.ops false [
 oo 6 (.mov (.c (.bool false)))])
 (.ret))
 (.skip)))
 (.seq (.seq (.ops false [
 oo 144 (.mov (.t 21)),
 oo 145 (.len (.t 144)),
 oo 146 (.mov (ci 0))])
 (.block 2 (.loop b3_1)))
 (.seq (.ops false [
 oo 23 (.mov (ci (-1)))])
 (.block 4 (.loop b3_2)))))))))))
 (.ops false [
 oo 174 (.bin .add (.t 51) (ci 1)),
 oo 51 (.mov (.t 174))]))))

/-- pointsman/pointsmanlaw18.CtrlRuns -/
def a3 : AFn := .mk 175
 (.seq (.ops false [
 oo 3 (.box (some 6) (.t 0) false),
 oo 6 (.mov (.c (.bool false)))])
 (.seq (.seq (.ops false [
 oo 24 (.call false 5 []),
 oo 25 (.un .not (.t 24))])
 (.cond (.t 25)
 (.seq (.ops false [
 oo 6 (.mov (.c (.bool false)))])
 (.ret))
 (.skip)))
 (.seq (.ops false [
 oo 26 (.build [.int .i64 0, .int .i64 0, .int .u16 0, .vec (some 4) []] []),
 oo 27 (.faddr 1 (.t 3)),
 ⟨none, .store (some 4) (.t 27) (.t 26), none⟩])
 (.seq (.seq (.ops false [
 oo 28 (.load (some 6) (.t 3)),
 oo 29 (.call false 6 [(.t 28)]),
 oo 30 (.un .not (.t 29)),
 oo 31 (.mov (.t 30)),
 ⟨some 32, .mov (.t 2), some (31, false)⟩,
 ⟨some 33, .len (.t 32), some (31, false)⟩,
 ⟨some 34, .bin .gtr (.t 33) (ci 60), some (31, false)⟩,
 oo 35 (.pick (.t 31) (.c (.bool true)) (.t 34))])
 (.cond (.t 35)
 (.seq (.ops false [
 oo 6 (.mov (.c (.bool true)))])
 (.ret))
 (.skip)))
 (.seq (.ops false [
 oo 37 (.load (some 6) (.t 3)),
 oo 38 (.call false 7 [(.t 37)]),
 oo 36 (.mov (.t 38)),
 oo 39 (.extract (.t 36) 0),
 oo 40 (.extract (.t 36) 1),
 oo 7 (.alloc [.vec (some 2) [], .vec none [], .vec none []]),
 ⟨none, .store (some 3) (.t 7) (.t 39), none⟩,
 oo 8 (.mov (.t 40))])
 (.seq (.seq (.ops false [
 oo 41 (.mov (.t 8)),
 oo 42 (.bin .neq (.t 41) (ci 0))])
 (.cond (.t 42)
 (.seq (.ops false [
 oo 6 (.mov (.c (.bool true)))])
 (.ret))
 (.skip)))
 (.seq (.opsS [(2, 3), (0, 6), (2, 6), (3, 6), (5, 6)] [
 oo 43 (.load (some 3) (.t 7)),
 oo 44 (.mov (.t 1)),
 oo 45 (.call true 8 [(.t 43), (.t 44)]),
 oo 46 (.load (some 3) (.t 7)),
 oo 47 (.mov (.t 1)),
 oo 48 (.call false 9 [(.t 46), (.t 47)]),
 oo 10 (.alloc [.vec (some 2) [], .vec none [], .vec none [], .int .u64 0, .vec none [], .vec none [], .vec none []]),
 oo 9 (.mov (.t 45)),
 ⟨none, .store (some 7) (.t 10) (.t 48), none⟩])
 (.seq (.seq (.ops false [
 oo 49 (.mov (.t 2)),
 oo 50 (.len (.t 49)),
 oo 51 (.mov (ci 0))])
 (.block 0 (.loop b3_0)))
 (.seq (.ops false [
 oo 6 (.mov (.c (.bool true)))])
 (.ret))))))))))
 [.t 6]

set_option maxRecDepth 100000 in
theorem ok3 : chkFn Tryd.prog 3 a3 = true := by kernel_rfl

@[reducible] def vl0 (x : List Int) : V := .d (eL none (D.int .u64) x)
@[reducible] def vl1 (x : List api_Event) : V := .d (eL (some 2) eapi_Event x)
@[reducible] def vl2 (x : List Int) : V := .d (eL none (D.int .i64) x)
@[reducible] def vl3 (x : List api_Edge) : V := .d (eL (some 3) eapi_Edge x)
@[reducible] def vl4 (x : List Int) : V := .d (eL none (D.int .u16) x)
@[reducible] def vl5 (x : List law18_Act) : V := .d (eL (some 4) elaw18_Act x)
@[reducible] def vl6 (x : List api_Pair) : V := .d (eL (some 2) eapi_Pair x)
@[reducible] def vl7 (x : List api_Rule) : V := .d (eL (some 3) eapi_Rule x)
@[reducible] def vl8 (x : List api_Pol) : V := .d (eL (some 4) eapi_Pol x)
@[reducible] def vp0 (x : api_Nes) : V := .d (.cptr (some 3) (eapi_Nes x) 0)
@[reducible] def vp1 (x : api_Space) : V := .d (.cptr (some 2) (eapi_Space x) 0)
@[reducible] def vp2 (x : api_Program) : V := .d (.cptr (some 6) (eapi_Program x) 0)
@[reducible] def vp3 (x : api_Pol) : V := .d (.cptr (some 4) (uapi_Pol x) 0)
@[reducible] def vp4 (x : api_Rule) : V := .d (.cptr (some 3) (eapi_Rule x) 0)
@[reducible] def vp5 (x : api_Event) : V := .d (.cptr (some 2) (eapi_Event x) 0)
@[reducible] def vp6 (x : ctrl_Ctrl) : V := .d (.cptr (some 6) (ectrl_Ctrl x) 0)
@[reducible] def vp7 (x : api_Pair) : V := .d (.cptr (some 2) (eapi_Pair x) 0)
@[reducible] def vs1 (x : api_Nes) : V := .d (eapi_Nes x)
@[reducible] def vs2 (x : api_Program) : V := .d (eapi_Program x)
@[reducible] def vs3 (x : ref18_Ctrl) : V := .d (eref18_Ctrl x)
@[reducible] def vs4 (x : api_Space) : V := .d (eapi_Space x)
@[reducible] def bv0 (x : api_Edge) : Blk := .var [vi x.From, vi x.Rule, vi x.To]
@[reducible] def bv1 (x : law18_Act) : Blk := .var [vi x.What, vi x.I, vi x.N, .d (.int .u64 x.S)]

end Go.AM
