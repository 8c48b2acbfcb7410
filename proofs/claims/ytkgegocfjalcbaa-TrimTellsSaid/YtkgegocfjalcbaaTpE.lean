import Derived.Test.YtkgegocfjalcbaaAmDel2
import Derived.Test.YtkgegocfjalcbaaAmW
import Derived.Test.YtkgegocfjalcbaaTrT
import Derived.Test.YtkgegocfjalcbaaProg
/-  What they are in the program: data and code. -/
set_option linter.unusedVariables false
set_option linter.unusedSimpArgs false
namespace Go.AM
open Go Go.RowKit Go.Proofs

mutual
def eapi_Pol : api_Pol → D
  | ⟨y0, y1, y2, y3⟩ => .agg [(D.int .i64) y0, (D.int .i64) y1, (D.int .u16) y2, .vec (some 4) (eapi_PolL y3)]
def eapi_PolL : List api_Pol → List D
  | [] => []
  | x :: l => eapi_Pol x :: eapi_PolL l
end

theorem eapi_PolL_eq : ∀ l : List api_Pol, eapi_PolL l = l.map eapi_Pol
  | [] => by simp [eapi_PolL]
  | x :: l => by simp [eapi_PolL, eapi_PolL_eq l]

def uapi_Pol (x : api_Pol) : D := .agg [D.int .i64 x.Op, D.int .i64 x.F, D.int .u16 x.N, eL (some 4) eapi_Pol x.Kids]

theorem eu_api_Pol (x : api_Pol) : eapi_Pol x = uapi_Pol x := by
  cases x
  simp [eapi_Pol, uapi_Pol, eL, eapi_PolL_eq]

def eapi_Pair (x : api_Pair) : D := .agg ((D.int .i64) x.F :: ((D.int .u16) x.N :: []))

def eapi_Rule (x : api_Rule) : D := .agg ((eL (some 2) eapi_Pair) x.When :: ((eL (some 2) eapi_Pair) x.Guard :: ((eL (some 2) eapi_Pair) x.Then :: [])))

def eapi_Program (x : api_Program) : D := .agg ((eL none (D.int .u16)) x.Init :: ((uapi_Pol x.Pol).cells ++ ((eL (some 3) eapi_Rule) x.Rules :: [])))

def elaw05_Step (x : law05_Step) : D := .agg ((D.int .i64) x.What :: ((D.int .i64) x.F :: ((D.int .u16) x.N :: ((D.int .u8) x.K :: []))))

theorem eqS_api_Pair (x y : api_Pair) : eqSV [.int, .int] (.d (eapi_Pair x)) (.d (eapi_Pair y)) = some (x == y) := by
  refine (eqSV_agg rfl rfl (eqT_cons rfl (eqT_cons rfl rfl))).trans (congrArg some ?_)
  rw [Bool.eq_iff_iff]
  obtain ⟨x0, x1⟩ := x
  obtain ⟨y0, y1⟩ := y
  simp [ba_toList_inj, and_assoc]

/-- pointsman/pointsmanlaw28.put -/
def a74 : AFn := .mk 5
 (.seq (.ops false [
 oo 2 (.alloc [.int .i64 0, .int .i64 0, .int .u16 0, .vec (some 4) []])])
 (.seq (.ops false [
 oo 3 (.mov (.t 0)),
 oo 4 (.build [.int .i64 0, .int .i64 0, .int .u16 0, .vec (some 4) []] [(0, 1, (ci 5)), (1, 1, (ci 1)), (2, 1, (.t 3))]),
 ⟨none, .store (some 4) (.t 2) (.t 4), none⟩])
 (.ret)))
 [.cell 2 (some 4)]

set_option maxRecDepth 100000 in
theorem ok74 : chkFn Try.prog 74 a74 = true := by kernel_rfl

/-- pointsman/pointsmanlaw07.Seq -/
def a47 : AFn := .mk 5
 (.seq (.ops false [
 oo 2 (.alloc [.int .i64 0, .int .i64 0, .int .u16 0, .vec (some 4) []])])
 (.seq (.ops false [
 oo 3 (.mov (.t 0)),
 oo 4 (.build [.int .i64 0, .int .i64 0, .int .u16 0, .vec (some 4) []] [(0, 1, (ci 6)), (3, 1, (.t 3))]),
 ⟨none, .store (some 4) (.t 2) (.t 4), none⟩])
 (.ret)))
 [.cell 2 (some 4)]

set_option maxRecDepth 100000 in
theorem ok47 : chkFn Try.prog 47 a47 = true := by kernel_rfl

/-- pointsman/pointsmanlaw07.Sum -/
def a46 : AFn := .mk 5
 (.seq (.ops false [
 oo 2 (.alloc [.int .i64 0, .int .i64 0, .int .u16 0, .vec (some 4) []])])
 (.seq (.ops false [
 oo 3 (.mov (.t 0)),
 oo 4 (.build [.int .i64 0, .int .i64 0, .int .u16 0, .vec (some 4) []] [(0, 1, (ci 7)), (3, 1, (.t 3))]),
 ⟨none, .store (some 4) (.t 2) (.t 4), none⟩])
 (.ret)))
 [.cell 2 (some 4)]

set_option maxRecDepth 100000 in
theorem ok46 : chkFn Try.prog 46 a46 = true := by kernel_rfl

def b83_0 : ACode :=
 (.seq (.ops false [
 oo 10 (.bin .lss (.t 9) (.t 8))])
 (.seq (.cond (.t 10)
 (.skip)
 (.exit 0))
 (.seq (.block 1 (.seq (.ops false [
 oo 11 (.iaddr (some 4) (.t 7) (.t 9)),
 oo 12 (.load (some 4) (.t 11)),
 oo 5 (.alloc [.int .i64 0, .int .i64 0, .int .u16 0, .vec (some 4) []]),
 ⟨none, .store (some 4) (.t 5) (.t 12), none⟩])
 (.ops false [
 oo 13 (.mov (.t 3)),
 oo 14 (.load (some 4) (.t 5)),
 oo 15 (.call false 83 [(.t 14)]),
 oo 16 (.bin .add (.t 13) (.t 15)),
 oo 3 (.mov (.t 16))])))
 (.ops false [
 oo 17 (.bin .add (.t 9) (ci 1)),
 oo 9 (.mov (.t 17))]))))

/-- pointsman/syntax.Size -/
def a83 : AFn := .mk 19
 (.seq (.ops false [
 oo 1 (.box (some 4) (.t 0) true),
 oo 2 (.mov (ci 0))])
 (.seq (.ops false [
 oo 3 (.mov (ci 1))])
 (.seq (.seq (.ops false [
 oo 6 (.faddr 3 (.t 1)),
 oo 7 (.ldI none (.t 6)),
 oo 8 (.len (.t 7)),
 oo 9 (.mov (ci 0))])
 (.block 0 (.loop b83_0)))
 (.seq (.ops false [
 oo 18 (.mov (.t 3)),
 oo 2 (.mov (.t 18))])
 (.ret)))))
 [.t 2]

set_option maxRecDepth 100000 in
theorem ok83 : chkFn Try.prog 83 a83 = true := by kernel_rfl

def b84_0 : ACode :=
 (.seq (.ops false [
 oo 10 (.bin .lss (.t 9) (.t 8))])
 (.seq (.cond (.t 10)
 (.skip)
 (.exit 0))
 (.seq (.block 1 (.seq (.ops false [
 oo 11 (.iaddr (some 4) (.t 7) (.t 9)),
 oo 12 (.load (some 4) (.t 11)),
 oo 5 (.alloc [.int .i64 0, .int .i64 0, .int .u16 0, .vec (some 4) []]),
 ⟨none, .store (some 4) (.t 5) (.t 12), none⟩])
 (.ops false [
 oo 13 (.mov (.t 3)),
 oo 14 (.load (some 4) (.t 5)),
 oo 15 (.call false 84 [(.t 14)]),
 oo 16 (.max2 (.t 13) (.t 15)),
 oo 3 (.mov (.t 16))])))
 (.ops false [
 oo 17 (.bin .add (.t 9) (ci 1)),
 oo 9 (.mov (.t 17))]))))

/-- pointsman/syntax.Depth -/
def a84 : AFn := .mk 20
 (.seq (.ops false [
 oo 1 (.box (some 4) (.t 0) true),
 oo 2 (.mov (ci 0))])
 (.seq (.ops false [
 oo 3 (.mov (ci 0))])
 (.seq (.seq (.ops false [
 oo 6 (.faddr 3 (.t 1)),
 oo 7 (.ldI none (.t 6)),
 oo 8 (.len (.t 7)),
 oo 9 (.mov (ci 0))])
 (.block 0 (.loop b84_0)))
 (.seq (.ops false [
 oo 18 (.mov (.t 3)),
 oo 19 (.bin .add (.t 18) (ci 1)),
 oo 2 (.mov (.t 19))])
 (.ret)))))
 [.t 2]

set_option maxRecDepth 100000 in
theorem ok84 : chkFn Try.prog 84 a84 = true := by kernel_rfl

def b113_0 : ACode :=
 (.seq (.ops false [
 oo 9 (.bin .lss (.t 8) (.t 7))])
 (.seq (.cond (.t 9)
 (.skip)
 (.exit 0))
 (.seq (.block 1 (.seq (.ops false [
 oo 10 (.mov (.t 8)),
 oo 5 (.mov (.t 10))])
 (.seq (.ops false [
 oo 11 (.mov (.t 1)),
 oo 12 (.mov (.t 0)),
 oo 13 (.mov (.t 5)),
 oo 14 (.iaddr (some 4) (.t 12) (.t 13)),
 oo 15 (.load (some 4) (.t 14)),
 oo 16 (.callv false (.t 11) [(.t 15)])])
 (.cond (.t 16)
 (.seq (.ops false [
 oo 17 (.mov (.t 5)),
 oo 4 (.mov (.t 17))])
 (.ret))
 (.skip)))))
 (.ops false [
 oo 18 (.bin .add (.t 8) (ci 1)),
 oo 8 (.mov (.t 18))]))))

/-- slices.IndexFunc[[]pointsman/api.Pol,pointsman/api.Pol] -/
def a113 : AFn := .mk 19
 (.seq (.ops false [
 oo 4 (.mov (ci 0))])
 (.seq (.seq (.ops false [
 oo 6 (.mov (.t 0)),
 oo 7 (.len (.t 6)),
 oo 8 (.mov (ci 0))])
 (.block 0 (.loop b113_0)))
 (.seq (.ops false [
 oo 4 (.mov (ci (-1)))])
 (.ret))))
 [.t 4]

set_option maxRecDepth 100000 in
theorem ok113 : chkFn Try.prog 113 a113 = true := by kernel_rfl

/-- slices.ContainsFunc[[]pointsman/api.Pol,pointsman/api.Pol] -/
def a98 : AFn := .mk 9
 (.seq (.ops false [
 oo 4 (.mov (.c (.bool false)))])
 (.seq (.ops false [
 oo 5 (.mov (.t 0)),
 oo 6 (.mov (.t 1)),
 oo 7 (.call false 113 [(.t 5), (.t 6)]),
 oo 8 (.bin .geq (.t 7) (ci 0)),
 oo 4 (.mov (.t 8))])
 (.ret)))
 [.t 4]

set_option maxRecDepth 100000 in
theorem ok98 : chkFn Try.prog 98 a98 = true := by kernel_rfl

/-- pointsman/syntax.Predicate$1 -/
def a112 : AFn := .mk 6
 (.seq (.ops false [
 oo 1 (.box (some 4) (.t 0) true),
 oo 2 (.mov (.c (.bool false)))])
 (.seq (.ops false [
 oo 3 (.ldI (some 4) (.t 1)),
 oo 4 (.call false 97 [(.t 3)]),
 oo 5 (.un .not (.t 4)),
 oo 2 (.mov (.t 5))])
 (.ret)))
 [.t 2]

set_option maxRecDepth 100000 in
theorem ok112 : chkFn Try.prog 112 a112 = true := by kernel_rfl

/-- pointsman/syntax.Predicate -/
def a97 : AFn := .mk 18
 (.seq (.ops false [
 oo 1 (.box (some 4) (.t 0) true),
 oo 2 (.mov (.c (.bool false)))])
 (.seq (.seq (.ops false [
 oo 3 (.faddr 0 (.t 1)),
 oo 4 (.ldI none (.t 3))])
 (.block 0 (.seq (.seq (.ops false [
 oo 6 (.bin .eql (.t 4) (ci 0)),
 oo 5 (.mov (.t 6))])
 (.cond (.t 5)
 (.skip)
 (.seq (.ops false [
 oo 7 (.bin .eql (.t 4) (ci 1)),
 oo 5 (.mov (.t 7))])
 (.cond (.t 5)
 (.skip)
 (.seq (.ops false [
 oo 8 (.bin .eql (.t 4) (ci 2)),
 oo 5 (.mov (.t 8))])
 (.cond (.t 5)
 (.skip)
 (.seq (.ops false [
 oo 9 (.bin .eql (.t 4) (ci 3)),
 oo 5 (.mov (.t 9))])
 (.cond (.t 5)
 (.skip)
 (.ops false [
 oo 10 (.bin .eql (.t 4) (ci 4)),
 oo 5 (.mov (.t 10))])))))))))
 (.cond (.t 5)
 (.seq (.ops false [
 oo 2 (.mov (.c (.bool true)))])
 (.ret))
 (.seq (.seq (.ops false [
 oo 12 (.bin .eql (.t 4) (ci 6)),
 oo 11 (.mov (.t 12))])
 (.cond (.t 11)
 (.skip)
 (.ops false [
 oo 13 (.bin .eql (.t 4) (ci 7)),
 oo 11 (.mov (.t 13))])))
 (.cond (.t 11)
 (.seq (.ops false [
 oo 14 (.faddr 3 (.t 1)),
 oo 15 (.ldI none (.t 14)),
 oo 16 (.call false 98 [(.t 15), (.c (.func 112 []))]),
 oo 17 (.un .not (.t 16)),
 oo 2 (.mov (.t 17))])
 (.ret))
 (.skip)))))))
 (.seq (.ops false [
 oo 2 (.mov (.c (.bool false)))])
 (.ret))))
 [.t 2]

set_option maxRecDepth 100000 in
theorem ok97 : chkFn Try.prog 97 a97 = true := by kernel_rfl

/-- pointsman/syntax.formed$1 -/
def a99 : AFn := .mk 8
 (.seq (.ops false [
 oo 2 (.box (some 4) (.t 0) true),
 oo 3 (.mov (.c (.bool false)))])
 (.seq (.ops false [
 oo 4 (.ldI (some 4) (.t 2)),
 oo 5 (.load none (.t 1)),
 oo 6 (.call false 85 [(.t 4), (.t 5)]),
 oo 7 (.un .not (.t 6)),
 oo 3 (.mov (.t 7))])
 (.ret)))
 [.t 3]

set_option maxRecDepth 100000 in
theorem ok99 : chkFn Try.prog 99 a99 = true := by kernel_rfl

/-- pointsman/syntax.formed -/
def a85 : AFn := .mk 92
 (.seq (.ops false [
 oo 2 (.box (some 4) (.t 0) true),
 oo 3 (.box none (.t 1) true),
 oo 4 (.mov (.c (.bool false)))])
 (.seq (.ops false [
 oo 8 (.faddr 1 (.t 2)),
 oo 9 (.ldI none (.t 8)),
 oo 10 (.bin .eql (.t 9) (ci 0)),
 oo 11 (.mov (.t 10)),
 ⟨some 12, .faddr 2 (.t 2), some (11, true)⟩,
 ⟨some 13, .ldI none (.t 12), some (11, true)⟩,
 ⟨some 14, .bin .eql (.t 13) (.c (.int .u16 0)), some (11, true)⟩,
 oo 15 (.pick (.t 11) (.t 14) (.c (.bool false))),
 oo 5 (.mov (.t 15))])
 (.seq (.ops false [
 oo 6 (.mov (ci 0)),
 oo 7 (.mov (ci 8))])
 (.seq (.seq (.ops false [
 oo 16 (.faddr 0 (.t 2)),
 oo 17 (.ldI none (.t 16))])
 (.block 0 (.seq (.seq (.ops false [
 oo 19 (.bin .eql (.t 17) (ci 0)),
 oo 18 (.mov (.t 19))])
 (.cond (.t 18)
 (.skip)
 (.ops false [
 oo 20 (.bin .eql (.t 17) (ci 1)),
 oo 18 (.mov (.t 20))])))
 (.cond (.t 18)
 (.seq (.ops false [
 oo 21 (.faddr 3 (.t 2)),
 oo 22 (.ldI none (.t 21)),
 oo 23 (.len (.t 22)),
 oo 24 (.bin .eql (.t 23) (ci 0)),
 oo 25 (.mov (.t 24)),
 ⟨some 26, .mov (.t 5), some (25, true)⟩,
 oo 27 (.pick (.t 25) (.t 26) (.c (.bool false))),
 oo 4 (.mov (.t 27))])
 (.ret))
 (.seq (.ops false [
 oo 29 (.bin .eql (.t 17) (ci 4)),
 oo 28 (.mov (.t 29))])
 (.cond (.t 28)
 (.seq (.ops true [
 oo 30 (.faddr 3 (.t 2)),
 oo 31 (.ldI none (.t 30)),
 oo 32 (.len (.t 31)),
 oo 33 (.bin .eql (.t 32) (ci 1)),
 oo 34 (.mov (.t 33)),
 ⟨some 35, .mov (.t 5), some (34, true)⟩,
 oo 36 (.pick (.t 34) (.t 35) (.c (.bool false))),
 oo 37 (.mov (.t 36)),
 ⟨some 38, .faddr 3 (.t 2), some (37, true)⟩,
 ⟨some 39, .ldI none (.t 38), some (37, true)⟩,
 ⟨some 40, .iaddr (some 4) (.t 39) (ci 0), some (37, true)⟩,
 ⟨some 41, .load (some 4) (.t 40), some (37, true)⟩,
 ⟨some 42, .call false 97 [(.t 41)], some (37, true)⟩,
 oo 43 (.pick (.t 37) (.t 42) (.c (.bool false))),
 oo 44 (.mov (.t 43)),
 ⟨some 45, .faddr 3 (.t 2), some (44, true)⟩,
 ⟨some 46, .ldI none (.t 45), some (44, true)⟩,
 ⟨some 47, .iaddr (some 4) (.t 46) (ci 0), some (44, true)⟩,
 ⟨some 48, .load (some 4) (.t 47), some (44, true)⟩,
 ⟨some 49, .ldI none (.t 3), some (44, true)⟩,
 ⟨some 50, .call false 85 [(.t 48), (.t 49)], some (44, true)⟩,
 oo 51 (.pick (.t 44) (.t 50) (.c (.bool false))),
 oo 4 (.mov (.t 51))])
 (.ret))
 (.seq (.seq (.ops false [
 oo 53 (.bin .eql (.t 17) (ci 6)),
 oo 52 (.mov (.t 53))])
 (.cond (.t 52)
 (.skip)
 (.ops false [
 oo 54 (.bin .eql (.t 17) (ci 7)),
 oo 52 (.mov (.t 54))])))
 (.cond (.t 52)
 (.seq (.ops false [
 oo 55 (.faddr 3 (.t 2)),
 oo 56 (.ldI none (.t 55)),
 oo 57 (.len (.t 56)),
 oo 58 (.bin .geq (.t 57) (ci 2)),
 oo 59 (.mov (.t 58)),
 ⟨some 60, .mov (.t 5), some (59, true)⟩,
 oo 61 (.pick (.t 59) (.t 60) (.c (.bool false))),
 oo 62 (.mov (.t 61)),
 ⟨some 63, .faddr 3 (.t 2), some (62, true)⟩,
 ⟨some 64, .ldI none (.t 63), some (62, true)⟩,
 ⟨some 65, .mkfunc 99 [(.t 3)], some (62, true)⟩,
 ⟨some 66, .call false 98 [(.t 64), (.t 65)], some (62, true)⟩,
 ⟨some 67, .un .not (.t 66), some (62, true)⟩,
 oo 68 (.pick (.t 62) (.t 67) (.c (.bool false))),
 oo 4 (.mov (.t 68))])
 (.ret))
 (.seq (.ops false [
 oo 70 (.bin .eql (.t 17) (ci 2)),
 oo 69 (.mov (.t 70))])
 (.cond (.t 69)
 (.skip)
 (.seq (.ops false [
 oo 72 (.bin .eql (.t 17) (ci 5)),
 oo 71 (.mov (.t 72))])
 (.cond (.t 71)
 (.ops false [
 oo 6 (.mov (ci 1))])
 (.seq (.ops false [
 oo 74 (.bin .eql (.t 17) (ci 3)),
 oo 73 (.mov (.t 74))])
 (.cond (.t 73)
 (.ops false [
 oo 75 (.ldI none (.t 3)),
 oo 7 (.mov (.t 75))])
 (.seq (.ops false [
 oo 4 (.mov (.c (.bool false)))])
 (.ret))))))))))))))))
 (.seq (.ops false [
 oo 76 (.faddr 3 (.t 2)),
 oo 77 (.ldI none (.t 76)),
 oo 78 (.len (.t 77)),
 oo 79 (.bin .eql (.t 78) (ci 0)),
 oo 80 (.mov (.t 79)),
 ⟨some 81, .faddr 1 (.t 2), some (80, true)⟩,
 ⟨some 82, .ldI none (.t 81), some (80, true)⟩,
 ⟨some 83, .mov (.t 6), some (80, true)⟩,
 ⟨some 84, .bin .geq (.t 82) (.t 83), some (80, true)⟩,
 oo 85 (.pick (.t 80) (.t 84) (.c (.bool false))),
 oo 86 (.mov (.t 85)),
 ⟨some 87, .faddr 1 (.t 2), some (86, true)⟩,
 ⟨some 88, .ldI none (.t 87), some (86, true)⟩,
 ⟨some 89, .mov (.t 7), some (86, true)⟩,
 ⟨some 90, .bin .lss (.t 88) (.t 89), some (86, true)⟩,
 oo 91 (.pick (.t 86) (.t 90) (.c (.bool false))),
 oo 4 (.mov (.t 91))])
 (.ret))))))
 [.t 4]

set_option maxRecDepth 100000 in
theorem ok85 : chkFn Try.prog 85 a85 = true := by kernel_rfl

def b86_0 : ACode :=
 (.seq (.ops false [
 oo 10 (.bin .lss (.t 9) (.t 8))])
 (.seq (.cond (.t 10)
 (.skip)
 (.exit 0))
 (.seq (.block 1 (.seq (.ops false [
 oo 11 (.mov (.t 9)),
 oo 12 (.iaddr (some 2) (.t 7) (.t 9)),
 oo 13 (.load (some 2) (.t 12)),
 oo 6 (.alloc [.int .i64 0, .int .u16 0]),
 oo 5 (.mov (.t 11)),
 ⟨none, .store (some 2) (.t 6) (.t 13), none⟩])
 (.seq (.ops true [
 oo 14 (.faddr 0 (.t 6)),
 oo 15 (.load none (.t 14)),
 oo 16 (.bin .lss (.t 15) (ci 0)),
 oo 17 (.mov (.t 16)),
 ⟨some 18, .faddr 0 (.t 6), some (17, false)⟩,
 ⟨some 19, .load none (.t 18), some (17, false)⟩,
 ⟨some 20, .mov (.t 1), some (17, false)⟩,
 ⟨some 21, .bin .geq (.t 19) (.t 20), some (17, false)⟩,
 oo 22 (.pick (.t 17) (.c (.bool true)) (.t 21)),
 oo 23 (.mov (.t 22)),
 ⟨some 24, .mov (.t 5), some (23, false)⟩,
 ⟨some 25, .bin .gtr (.t 24) (ci 0), some (23, false)⟩,
 ⟨some 26, .mov (.t 25), some (23, false)⟩,
 ⟨some 27, .mov (.t 0), some (26, true)⟩,
 ⟨some 28, .mov (.t 5), some (26, true)⟩,
 ⟨some 29, .bin .sub (.t 28) (ci 1), some (26, true)⟩,
 ⟨some 30, .iaddr (some 2) (.t 27) (.t 29), some (26, true)⟩,
 ⟨some 31, .faddr 0 (.t 30), some (26, true)⟩,
 ⟨some 32, .load none (.t 31), some (26, true)⟩,
 ⟨some 33, .faddr 0 (.t 6), some (26, true)⟩,
 ⟨some 34, .load none (.t 33), some (26, true)⟩,
 ⟨some 35, .bin .geq (.t 32) (.t 34), some (26, true)⟩,
 ⟨some 36, .pick (.t 26) (.t 35) (.c (.bool false)), some (23, false)⟩,
 oo 37 (.pick (.t 23) (.c (.bool true)) (.t 36))])
 (.cond (.t 37)
 (.seq (.ops false [
 oo 4 (.mov (.c (.bool false)))])
 (.ret))
 (.skip)))))
 (.ops false [
 oo 38 (.bin .add (.t 9) (ci 1)),
 oo 9 (.mov (.t 38))]))))

/-- pointsman/syntax.once -/
def a86 : AFn := .mk 39
 (.seq (.ops false [
 oo 4 (.mov (.c (.bool false)))])
 (.seq (.seq (.ops false [
 oo 7 (.mov (.t 0)),
 oo 8 (.len (.t 7)),
 oo 9 (.mov (ci 0))])
 (.block 0 (.loop b86_0)))
 (.seq (.ops false [
 oo 4 (.mov (.c (.bool true)))])
 (.ret))))
 [.t 4]

set_option maxRecDepth 100000 in
theorem ok86 : chkFn Try.prog 86 a86 = true := by kernel_rfl

def b65_0 : ACode :=
 (.seq (.ops false [
 oo 43 (.bin .lss (.t 42) (.t 41))])
 (.seq (.cond (.t 43)
 (.skip)
 (.exit 0))
 (.seq (.block 1 (.seq (.ops false [
 oo 44 (.iaddr (some 3) (.t 40) (.t 42)),
 oo 45 (.load (some 3) (.t 44)),
 oo 5 (.alloc [.vec (some 2) [], .vec (some 2) [], .vec (some 2) []]),
 ⟨none, .store (some 3) (.t 5) (.t 45), none⟩])
 (.seq (.ops false [
 oo 46 (.faddr 0 (.t 5)),
 oo 47 (.load none (.t 46)),
 oo 48 (.len (.t 47)),
 oo 49 (.bin .geq (.t 48) (ci 2)),
 oo 50 (.mov (.t 49)),
 ⟨some 51, .faddr 0 (.t 5), some (50, true)⟩,
 ⟨some 52, .load none (.t 51), some (50, true)⟩,
 ⟨some 53, .iaddr (some 2) (.t 52) (ci 0), some (50, true)⟩,
 ⟨some 54, .faddr 0 (.t 53), some (50, true)⟩,
 ⟨some 55, .load none (.t 54), some (50, true)⟩,
 ⟨some 56, .bin .eql (.t 55) (ci 0), some (50, true)⟩,
 oo 57 (.pick (.t 50) (.t 56) (.c (.bool false))),
 oo 58 (.mov (.t 57)),
 ⟨some 59, .faddr 0 (.t 5), some (58, true)⟩,
 ⟨some 60, .load none (.t 59), some (58, true)⟩,
 ⟨some 61, .iaddr (some 2) (.t 60) (ci 1), some (58, true)⟩,
 ⟨some 62, .faddr 0 (.t 61), some (58, true)⟩,
 ⟨some 63, .load none (.t 62), some (58, true)⟩,
 ⟨some 64, .bin .eql (.t 63) (ci 1), some (58, true)⟩,
 oo 65 (.pick (.t 58) (.t 64) (.c (.bool false))),
 oo 6 (.mov (.t 65))])
 (.seq (.ops false [
 oo 66 (.mov (.t 6)),
 oo 67 (.un .not (.t 66)),
 oo 68 (.mov (.t 67)),
 ⟨some 69, .faddr 0 (.t 5), some (68, false)⟩,
 ⟨some 70, .load none (.t 69), some (68, false)⟩,
 ⟨some 71, .call false 86 [(.t 70), (ci 8)], some (68, false)⟩,
 ⟨some 72, .un .not (.t 71), some (68, false)⟩,
 oo 73 (.pick (.t 68) (.c (.bool true)) (.t 72)),
 oo 74 (.mov (.t 73)),
 ⟨some 75, .faddr 1 (.t 5), some (74, false)⟩,
 ⟨some 76, .load none (.t 75), some (74, false)⟩,
 ⟨some 77, .mov (.t 3), some (74, false)⟩,
 ⟨some 78, .call false 86 [(.t 76), (.t 77)], some (74, false)⟩,
 ⟨some 79, .un .not (.t 78), some (74, false)⟩,
 oo 80 (.pick (.t 74) (.c (.bool true)) (.t 79)),
 oo 81 (.mov (.t 80)),
 ⟨some 82, .faddr 2 (.t 5), some (81, false)⟩,
 ⟨some 83, .load none (.t 82), some (81, false)⟩,
 ⟨some 84, .mov (.t 3), some (81, false)⟩,
 ⟨some 85, .call false 86 [(.t 83), (.t 84)], some (81, false)⟩,
 ⟨some 86, .un .not (.t 85), some (81, false)⟩,
 oo 87 (.pick (.t 81) (.c (.bool true)) (.t 86)),
 oo 88 (.mov (.t 87)),
 ⟨some 89, .faddr 2 (.t 5), some (88, false)⟩,
 ⟨some 90, .load none (.t 89), some (88, false)⟩,
 ⟨some 91, .len (.t 90), some (88, false)⟩,
 ⟨some 92, .bin .eql (.t 91) (ci 0), some (88, false)⟩,
 oo 93 (.pick (.t 88) (.c (.bool true)) (.t 92))])
 (.cond (.t 93)
 (.seq (.ops false [
 oo 2 (.mov (ci 11))])
 (.ret))
 (.skip))))))
 (.ops false [
 oo 94 (.bin .add (.t 42) (ci 1)),
 oo 42 (.mov (.t 94))]))))

/-- pointsman/syntax.Check -/
def a65 : AFn := .mk 95
 (.seq (.ops false [
 oo 1 (.box (some 6) (.t 0) true),
 oo 2 (.mov (ci 0))])
 (.seq (.ops false [
 oo 7 (.faddr 0 (.t 1)),
 oo 8 (.ldI none (.t 7)),
 oo 9 (.len (.t 8)),
 oo 3 (.mov (.t 9))])
 (.seq (.seq (.ops false [
 oo 10 (.mov (.t 3)),
 oo 11 (.bin .lss (.t 10) (ci 1)),
 oo 12 (.mov (.t 11)),
 ⟨some 13, .mov (.t 3), some (12, false)⟩,
 ⟨some 14, .bin .gtr (.t 13) (ci 4), some (12, false)⟩,
 oo 15 (.pick (.t 12) (.c (.bool true)) (.t 14)),
 oo 16 (.mov (.t 15)),
 ⟨some 17, .faddr 1 (.t 1), some (16, false)⟩,
 ⟨some 18, .ldI (some 4) (.t 17), some (16, false)⟩,
 ⟨some 19, .call false 83 [(.t 18)], some (16, false)⟩,
 ⟨some 20, .bin .gtr (.t 19) (ci 300), some (16, false)⟩,
 oo 21 (.pick (.t 16) (.c (.bool true)) (.t 20)),
 oo 22 (.mov (.t 21)),
 ⟨some 23, .faddr 1 (.t 1), some (22, false)⟩,
 ⟨some 24, .ldI (some 4) (.t 23), some (22, false)⟩,
 ⟨some 25, .call false 84 [(.t 24)], some (22, false)⟩,
 ⟨some 26, .bin .gtr (.t 25) (ci 20), some (22, false)⟩,
 oo 27 (.pick (.t 22) (.c (.bool true)) (.t 26)),
 oo 28 (.mov (.t 27)),
 ⟨some 29, .faddr 5 (.t 1), some (28, false)⟩,
 ⟨some 30, .ldI none (.t 29), some (28, false)⟩,
 ⟨some 31, .len (.t 30), some (28, false)⟩,
 ⟨some 32, .bin .gtr (.t 31) (ci 24), some (28, false)⟩,
 oo 33 (.pick (.t 28) (.c (.bool true)) (.t 32))])
 (.cond (.t 33)
 (.seq (.ops false [
 oo 2 (.mov (ci 2))])
 (.ret))
 (.skip)))
 (.seq (.seq (.ops false [
 oo 34 (.faddr 1 (.t 1)),
 oo 35 (.ldI (some 4) (.t 34)),
 oo 36 (.mov (.t 3)),
 oo 37 (.call false 85 [(.t 35), (.t 36)]),
 oo 38 (.un .not (.t 37))])
 (.cond (.t 38)
 (.seq (.ops false [
 oo 2 (.mov (ci 11))])
 (.ret))
 (.skip)))
 (.seq (.seq (.ops false [
 oo 39 (.faddr 5 (.t 1)),
 oo 40 (.ldI none (.t 39)),
 oo 41 (.len (.t 40)),
 oo 42 (.mov (ci 0))])
 (.block 0 (.loop b65_0)))
 (.seq (.ops false [
 oo 2 (.mov (ci 0))])
 (.ret)))))))
 [.t 2]

set_option maxRecDepth 100000 in
theorem ok65 : chkFn Try.prog 65 a65 = true := by kernel_rfl

def b102_0 : ACode :=
 (.seq (.ops false [
 oo 11 (.bin .lss (.t 10) (.t 9))])
 (.seq (.cond (.t 11)
 (.skip)
 (.exit 0))
 (.seq (.block 1 (.seq (.ops false [
 oo 12 (.iaddr (some 4) (.t 8) (.t 10)),
 oo 13 (.load (some 4) (.t 12)),
 oo 7 (.alloc [.int .i64 0, .int .i64 0, .int .u16 0, .vec (some 4) []]),
 ⟨none, .store (some 4) (.t 7) (.t 13), none⟩])
 (.seq (.ops false [
 oo 14 (.faddr 0 (.t 7)),
 oo 15 (.load none (.t 14)),
 oo 16 (.mov (.t 0)),
 oo 17 (.bin .eql (.t 15) (.t 16))])
 (.cond (.t 17)
 (.ops false [
 oo 18 (.mov (.t 5)),
 oo 19 (.faddr 3 (.t 7)),
 oo 20 (.load none (.t 19)),
 oo 21 (.append (some 4) (.t 18) (.t 20) true),
 oo 5 (.mov (.t 21))])
 (.ops false [
 oo 22 (.mov (.t 5)),
 oo 23 (.load (some 4) (.t 7)),
 oo 24 (.bsliceI (some 4) [(.t 23)]),
 oo 25 (.append (some 4) (.t 22) (.t 24) true),
 oo 5 (.mov (.t 25))])))))
 (.ops false [
 oo 26 (.bin .add (.t 10) (ci 1)),
 oo 10 (.mov (.t 26))]))))

/-- pointsman/trim.flat -/
def a102 : AFn := .mk 28
 (.seq (.ops false [
 oo 4 (.mov (.c (.nils)))])
 (.seq (.ops false [
 oo 5 (.mov (.c (.nils)))])
 (.seq (.seq (.ops false [
 oo 8 (.mov (.t 1)),
 oo 9 (.len (.t 8)),
 oo 10 (.mov (ci 0))])
 (.block 0 (.loop b102_0)))
 (.seq (.ops false [
 oo 27 (.mov (.t 5)),
 oo 4 (.mov (.t 27))])
 (.ret)))))
 [.t 4]

set_option maxRecDepth 100000 in
theorem ok102 : chkFn Try.prog 102 a102 = true := by kernel_rfl

/-- pointsman/trim.without$1 -/
def a116 : AFn := .mk 8
 (.seq (.ops false [
 oo 2 (.box (some 4) (.t 0) true),
 oo 3 (.mov (.c (.bool false)))])
 (.seq (.ops false [
 oo 4 (.faddr 0 (.t 2)),
 oo 5 (.ldI none (.t 4)),
 oo 6 (.load none (.t 1)),
 oo 7 (.bin .eql (.t 5) (.t 6)),
 oo 3 (.mov (.t 7))])
 (.ret)))
 [.t 3]

set_option maxRecDepth 100000 in
theorem ok116 : chkFn Try.prog 116 a116 = true := by kernel_rfl

def b115_0 : ACode :=
 (.seq (.seq (.ops false [
 oo 16 (.mov (.t 6)),
 oo 17 (.mov (.t 0)),
 oo 18 (.len (.t 17)),
 oo 19 (.bin .lss (.t 16) (.t 18))])
 (.cond (.t 19)
 (.skip)
 (.exit 0)))
 (.seq (.block 1 (.seq (.ops false [
 oo 22 (.mov (.t 0)),
 oo 23 (.mov (.t 6)),
 oo 24 (.iaddr (some 4) (.t 22) (.t 23)),
 oo 25 (.load (some 4) (.t 24)),
 oo 7 (.alloc [.int .i64 0, .int .i64 0, .int .u16 0, .vec (some 4) []]),
 ⟨none, .store (some 4) (.t 7) (.t 25), none⟩])
 (.seq (.ops false [
 oo 26 (.mov (.t 1)),
 oo 27 (.load (some 4) (.t 7)),
 oo 28 (.callv false (.t 26) [(.t 27)]),
 oo 29 (.un .not (.t 28))])
 (.cond (.t 29)
 (.seq (.ops false [
 oo 30 (.mov (.t 0)),
 oo 31 (.mov (.t 5)),
 oo 32 (.load (some 4) (.t 7)),
 oo 33 (.iaddr (some 4) (.t 30) (.t 31)),
 ⟨none, .store (some 4) (.t 33) (.t 32), none⟩])
 (.ops false [
 oo 34 (.mov (.t 5)),
 oo 35 (.bin .add (.t 34) (ci 1)),
 oo 5 (.mov (.t 35))]))
 (.skip)))))
 (.ops false [
 oo 20 (.mov (.t 6)),
 oo 21 (.bin .add (.t 20) (ci 1)),
 oo 6 (.mov (.t 21))])))

/-- slices.DeleteFunc[[]pointsman/api.Pol,pointsman/api.Pol] -/
def a115 : AFn := .mk 42
 (.seq (.ops false [
 oo 4 (.mov (.c (.vec (some 4) [])))])
 (.seq (.ops false [
 oo 8 (.mov (.t 0)),
 oo 9 (.mov (.t 1)),
 oo 10 (.call true 113 [(.t 8), (.t 9)]),
 oo 5 (.mov (.t 10))])
 (.seq (.seq (.ops false [
 oo 11 (.mov (.t 5)),
 oo 12 (.bin .eql (.t 11) (ci (-1)))])
 (.cond (.t 12)
 (.seq (.ops false [
 oo 13 (.mov (.t 0)),
 oo 4 (.mov (.t 13))])
 (.ret))
 (.skip)))
 (.seq (.seq (.ops false [
 oo 14 (.mov (.t 5)),
 oo 15 (.bin .add (.t 14) (ci 1)),
 oo 6 (.mov (.t 15))])
 (.block 0 (.loop b115_0)))
 (.seq (.ops false [
 oo 36 (.mov (.t 0)),
 oo 37 (.mov (.t 5)),
 oo 38 (.slc (some 4) (.t 36) (some (.t 37)) none),
 ⟨none, .clear (some 4) [.int .i64 0, .int .i64 0, .int .u16 0, .vec (some 4) []] (.t 38), none⟩])
 (.seq (.ops false [
 oo 39 (.mov (.t 0)),
 oo 40 (.mov (.t 5)),
 oo 41 (.slc (some 4) (.t 39) none (some (.t 40))),
 oo 4 (.mov (.t 41))])
 (.ret)))))))
 [.t 4]

set_option maxRecDepth 100000 in
theorem ok115 : chkFn Try.prog 115 a115 = true := by kernel_rfl

/-- pointsman/trim.without -/
def a101 : AFn := .mk 8
 (.seq (.ops false [
 oo 2 (.box none (.t 0) true),
 oo 4 (.mov (.c (.vec (some 4) [])))])
 (.seq (.ops false [
 oo 5 (.mov (.t 1)),
 oo 6 (.mkfunc 116 [(.t 2)]),
 oo 7 (.call true 115 [(.t 5), (.t 6)]),
 oo 4 (.mov (.t 7))])
 (.ret)))
 [.t 4]

set_option maxRecDepth 100000 in
theorem ok101 : chkFn Try.prog 101 a101 = true := by kernel_rfl

def b95_0 : ACode :=
 (.seq (.ops false [
 oo 18 (.bin .lss (.t 17) (.t 16))])
 (.seq (.cond (.t 18)
 (.skip)
 (.exit 0))
 (.seq (.block 1 (.seq (.ops false [
 oo 19 (.mov (.t 17)),
 oo 20 (.iaddr (some 4) (.t 15) (.t 17)),
 oo 21 (.load (some 4) (.t 20)),
 oo 8 (.alloc [.int .i64 0, .int .i64 0, .int .u16 0, .vec (some 4) []]),
 oo 7 (.mov (.t 19)),
 ⟨none, .store (some 4) (.t 8) (.t 21), none⟩])
 (.seq (.ops false [
 oo 22 (.mov (.t 1)),
 oo 23 (.mov (.t 7)),
 oo 24 (.iaddr (some 4) (.t 22) (.t 23)),
 oo 25 (.load (some 4) (.t 24)),
 oo 9 (.alloc [.int .i64 0, .int .i64 0, .int .u16 0, .vec (some 4) []]),
 ⟨none, .store (some 4) (.t 9) (.t 25), none⟩])
 (.seq (.ops false [
 oo 26 (.mov (.t 2)),
 oo 27 (.load (some 4) (.t 8)),
 oo 28 (.load (some 4) (.t 9)),
 oo 29 (.callv false (.t 26) [(.t 27), (.t 28)]),
 oo 30 (.un .not (.t 29))])
 (.cond (.t 30)
 (.seq (.ops false [
 oo 6 (.mov (.c (.bool false)))])
 (.ret))
 (.skip))))))
 (.ops false [
 oo 31 (.bin .add (.t 17) (ci 1)),
 oo 17 (.mov (.t 31))]))))

/-- slices.EqualFunc[[]pointsman/api.Pol,[]pointsman/api.Pol,pointsman/api.Pol,pointsman/api.Pol] -/
def a95 : AFn := .mk 32
 (.seq (.ops false [
 oo 6 (.mov (.c (.bool false)))])
 (.seq (.seq (.ops false [
 oo 10 (.mov (.t 0)),
 oo 11 (.len (.t 10)),
 oo 12 (.mov (.t 1)),
 oo 13 (.len (.t 12)),
 oo 14 (.bin .neq (.t 11) (.t 13))])
 (.cond (.t 14)
 (.seq (.ops false [
 oo 6 (.mov (.c (.bool false)))])
 (.ret))
 (.skip)))
 (.seq (.seq (.ops false [
 oo 15 (.mov (.t 0)),
 oo 16 (.len (.t 15)),
 oo 17 (.mov (ci 0))])
 (.block 0 (.loop b95_0)))
 (.seq (.ops false [
 oo 6 (.mov (.c (.bool true)))])
 (.ret)))))
 [.t 6]

set_option maxRecDepth 100000 in
theorem ok95 : chkFn Try.prog 95 a95 = true := by kernel_rfl

/-- pointsman/trim.same -/
def a77 : AFn := .mk 31
 (.seq (.ops false [
 oo 2 (.box (some 4) (.t 0) true),
 oo 3 (.box (some 4) (.t 1) true),
 oo 4 (.mov (.c (.bool false)))])
 (.seq (.ops false [
 oo 5 (.faddr 0 (.t 2)),
 oo 6 (.ldI none (.t 5)),
 oo 7 (.faddr 0 (.t 3)),
 oo 8 (.ldI none (.t 7)),
 oo 9 (.bin .eql (.t 6) (.t 8)),
 oo 10 (.mov (.t 9)),
 ⟨some 11, .faddr 1 (.t 2), some (10, true)⟩,
 ⟨some 12, .ldI none (.t 11), some (10, true)⟩,
 ⟨some 13, .faddr 1 (.t 3), some (10, true)⟩,
 ⟨some 14, .ldI none (.t 13), some (10, true)⟩,
 ⟨some 15, .bin .eql (.t 12) (.t 14), some (10, true)⟩,
 oo 16 (.pick (.t 10) (.t 15) (.c (.bool false))),
 oo 17 (.mov (.t 16)),
 ⟨some 18, .faddr 2 (.t 2), some (17, true)⟩,
 ⟨some 19, .ldI none (.t 18), some (17, true)⟩,
 ⟨some 20, .faddr 2 (.t 3), some (17, true)⟩,
 ⟨some 21, .ldI none (.t 20), some (17, true)⟩,
 ⟨some 22, .bin .eql (.t 19) (.t 21), some (17, true)⟩,
 oo 23 (.pick (.t 17) (.t 22) (.c (.bool false))),
 oo 24 (.mov (.t 23)),
 ⟨some 25, .faddr 3 (.t 2), some (24, true)⟩,
 ⟨some 26, .ldI none (.t 25), some (24, true)⟩,
 ⟨some 27, .faddr 3 (.t 3), some (24, true)⟩,
 ⟨some 28, .ldI none (.t 27), some (24, true)⟩,
 ⟨some 29, .call false 95 [(.t 26), (.t 28), (.c (.func 77 []))], some (24, true)⟩,
 oo 30 (.pick (.t 24) (.t 29) (.c (.bool false))),
 oo 4 (.mov (.t 30))])
 (.ret)))
 [.t 4]

set_option maxRecDepth 100000 in
theorem ok77 : chkFn Try.prog 77 a77 = true := by kernel_rfl

/-- pointsman/trim.sum$1 -/
def a103 : AFn := .mk 7
 (.seq (.ops false [
 oo 2 (.box (some 4) (.t 0) true),
 oo 3 (.mov (.c (.bool false)))])
 (.seq (.ops false [
 oo 4 (.ldI (some 4) (.t 2)),
 oo 5 (.load (some 4) (.t 1)),
 oo 6 (.call false 77 [(.t 4), (.t 5)]),
 oo 3 (.mov (.t 6))])
 (.ret)))
 [.t 3]

set_option maxRecDepth 100000 in
theorem ok103 : chkFn Try.prog 103 a103 = true := by kernel_rfl

/-- pointsman/trim.has$1 -/
def a117 : AFn := .mk 8
 (.seq (.ops false [
 oo 2 (.box (some 4) (.t 0) true),
 oo 3 (.mov (.c (.bool false)))])
 (.seq (.ops false [
 oo 4 (.faddr 0 (.t 2)),
 oo 5 (.ldI none (.t 4)),
 oo 6 (.load none (.t 1)),
 oo 7 (.bin .eql (.t 5) (.t 6)),
 oo 3 (.mov (.t 7))])
 (.ret)))
 [.t 3]

set_option maxRecDepth 100000 in
theorem ok117 : chkFn Try.prog 117 a117 = true := by kernel_rfl

/-- pointsman/trim.has -/
def a104 : AFn := .mk 8
 (.seq (.ops false [
 oo 2 (.box none (.t 0) true),
 oo 4 (.mov (.c (.bool false)))])
 (.seq (.ops false [
 oo 5 (.mov (.t 1)),
 oo 6 (.mkfunc 117 [(.t 2)]),
 oo 7 (.call false 98 [(.t 5), (.t 6)]),
 oo 4 (.mov (.t 7))])
 (.ret)))
 [.t 4]

set_option maxRecDepth 100000 in
theorem ok104 : chkFn Try.prog 104 a104 = true := by kernel_rfl

/-- pointsman/trim.sum$2 -/
def a105 : AFn := .mk 6
 (.seq (.ops false [
 oo 1 (.box (some 4) (.t 0) true),
 oo 2 (.mov (.c (.bool false)))])
 (.seq (.ops false [
 oo 3 (.ldI (some 4) (.t 1)),
 oo 4 (.call false 97 [(.t 3)]),
 oo 5 (.un .not (.t 4)),
 oo 2 (.mov (.t 5))])
 (.ret)))
 [.t 2]

set_option maxRecDepth 100000 in
theorem ok105 : chkFn Try.prog 105 a105 = true := by kernel_rfl

/-- pointsman/trim.id -/
def a106 : AFn := .mk 2
 (.seq (.ops false [
 oo 0 (.alloc [.int .i64 0, .int .i64 0, .int .u16 0, .vec (some 4) []])])
 (.seq (.ops false [
 oo 1 (.build [.int .i64 0, .int .i64 0, .int .u16 0, .vec (some 4) []] [(0, 1, (ci 1))]),
 ⟨none, .store (some 4) (.t 0) (.t 1), none⟩])
 (.ret)))
 [.cell 0 (some 4)]

set_option maxRecDepth 100000 in
theorem ok106 : chkFn Try.prog 106 a106 = true := by kernel_rfl

/-- pointsman/trim.drop -/
def a107 : AFn := .mk 2
 (.seq (.ops false [
 oo 0 (.alloc [.int .i64 0, .int .i64 0, .int .u16 0, .vec (some 4) []])])
 (.seq (.ops false [
 oo 1 (.build [.int .i64 0, .int .i64 0, .int .u16 0, .vec (some 4) []] [(0, 1, (ci 0))]),
 ⟨none, .store (some 4) (.t 0) (.t 1), none⟩])
 (.ret)))
 [.cell 0 (some 4)]

set_option maxRecDepth 100000 in
theorem ok107 : chkFn Try.prog 107 a107 = true := by kernel_rfl

def b92_0 : ACode :=
 (.seq (.ops false [
 oo 12 (.bin .lss (.t 11) (.t 10))])
 (.seq (.cond (.t 12)
 (.skip)
 (.exit 0))
 (.seq (.block 1 (.seq (.ops false [
 oo 13 (.iaddr (some 4) (.t 9) (.t 11)),
 oo 14 (.load (some 4) (.t 13)),
 oo 5 (.alloc [.int .i64 0, .int .i64 0, .int .u16 0, .vec (some 4) []]),
 ⟨none, .store (some 4) (.t 5) (.t 14), none⟩])
 (.seq (.ops false [
 oo 15 (.mov (.t 3)),
 oo 16 (.mkfunc 103 [(.t 5)]),
 oo 17 (.call true 98 [(.t 15), (.t 16)]),
 oo 18 (.un .not (.t 17))])
 (.cond (.t 18)
 (.ops false [
 oo 19 (.mov (.t 3)),
 oo 20 (.load (some 4) (.t 5)),
 oo 21 (.bsliceI (some 4) [(.t 20)]),
 oo 22 (.append (some 4) (.t 19) (.t 21) false),
 oo 3 (.mov (.t 22))])
 (.skip)))))
 (.ops false [
 oo 23 (.bin .add (.t 11) (ci 1)),
 oo 11 (.mov (.t 23))]))))

/-- pointsman/trim.sum -/
def a92 : AFn := .mk 44
 (.seq (.ops false [
 oo 2 (.alloc [.int .i64 0, .int .i64 0, .int .u16 0, .vec (some 4) []])])
 (.seq (.ops false [
 oo 6 (.mov (.t 0)),
 oo 7 (.call true 102 [(ci 7), (.t 6)]),
 oo 8 (.call true 101 [(ci 0), (.t 7)]),
 oo 0 (.mov (.t 8))])
 (.seq (.ops false [
 oo 3 (.mov (.c (.nils)))])
 (.seq (.seq (.ops false [
 oo 9 (.mov (.t 0)),
 oo 10 (.len (.t 9)),
 oo 11 (.mov (ci 0))])
 (.block 0 (.loop b92_0)))
 (.seq (.seq (.ops false [
 oo 24 (.mov (.t 3)),
 oo 25 (.call false 104 [(ci 1), (.t 24)]),
 oo 26 (.mov (.t 25)),
 ⟨some 27, .mov (.t 3), some (26, true)⟩,
 ⟨some 28, .call false 98 [(.t 27), (.c (.func 105 []))], some (26, true)⟩,
 ⟨some 29, .un .not (.t 28), some (26, true)⟩,
 oo 30 (.pick (.t 26) (.t 29) (.c (.bool false)))])
 (.cond (.t 30)
 (.seq (.ops false [
 oo 31 (.call false 106 []),
 ⟨none, .store (some 4) (.t 2) (.t 31), none⟩])
 (.ret))
 (.skip)))
 (.seq (.seq (.ops false [
 oo 32 (.mov (.t 3)),
 oo 33 (.len (.t 32))])
 (.block 2 (.seq (.ops false [
 oo 35 (.bin .eql (.t 33) (ci 0)),
 oo 34 (.mov (.t 35))])
 (.cond (.t 34)
 (.seq (.ops false [
 oo 36 (.call false 107 []),
 ⟨none, .store (some 4) (.t 2) (.t 36), none⟩])
 (.ret))
 (.seq (.ops false [
 oo 38 (.bin .eql (.t 33) (ci 1)),
 oo 37 (.mov (.t 38))])
 (.cond (.t 37)
 (.seq (.ops false [
 oo 39 (.mov (.t 3)),
 oo 40 (.iaddr (some 4) (.t 39) (ci 0)),
 oo 41 (.load (some 4) (.t 40)),
 ⟨none, .store (some 4) (.t 2) (.t 41), none⟩])
 (.ret))
 (.skip)))))))
 (.seq (.ops false [
 oo 42 (.mov (.t 3)),
 oo 43 (.build [.int .i64 0, .int .i64 0, .int .u16 0, .vec (some 4) []] [(0, 1, (ci 7)), (3, 1, (.t 42))]),
 ⟨none, .store (some 4) (.t 2) (.t 43), none⟩])
 (.ret))))))))
 [.cell 2 (some 4)]

set_option maxRecDepth 100000 in
theorem ok92 : chkFn Try.prog 92 a92 = true := by kernel_rfl

/-- pointsman/trim.asks -/
def a120 : AFn := .mk 11
 (.seq (.ops false [
 oo 1 (.box (some 4) (.t 0) true),
 oo 2 (.mov (.c (.bool false)))])
 (.seq (.ops false [
 oo 3 (.faddr 0 (.t 1)),
 oo 4 (.ldI none (.t 3)),
 oo 5 (.bin .eql (.t 4) (ci 2)),
 oo 6 (.mov (.t 5)),
 ⟨some 7, .faddr 0 (.t 1), some (6, false)⟩,
 ⟨some 8, .ldI none (.t 7), some (6, false)⟩,
 ⟨some 9, .bin .eql (.t 8) (ci 3), some (6, false)⟩,
 oo 10 (.pick (.t 6) (.c (.bool true)) (.t 9)),
 oo 2 (.mov (.t 10))])
 (.ret)))
 [.t 2]

set_option maxRecDepth 100000 in
theorem ok120 : chkFn Try.prog 120 a120 = true := by kernel_rfl

/-- pointsman/trim.equal -/
def a121 : AFn := .mk 7
 (.seq (.ops false [
 oo 4 (.mov (ci 0))])
 (.seq (.seq (.ops false [
 oo 5 (.mov (.t 0))])
 (.cond (.t 5)
 (.seq (.ops false [
 oo 6 (.mov (.t 1)),
 oo 4 (.mov (.t 6))])
 (.ret))
 (.skip)))
 (.seq (.ops false [
 oo 4 (.mov (ci 3))])
 (.ret))))
 [.t 4]

set_option maxRecDepth 100000 in
theorem ok121 : chkFn Try.prog 121 a121 = true := by kernel_rfl

/-- pointsman/trim.neighbours -/
def a118 : AFn := .mk 74
 (.seq (.ops false [
 oo 3 (.box (some 4) (.t 0) true),
 oo 4 (.box (some 4) (.t 1) true),
 oo 6 (.mov (ci 0))])
 (.seq (.ops false [
 oo 8 (.ldI (some 4) (.t 3)),
 oo 9 (.call false 120 [(.t 8)]),
 oo 10 (.mov (.t 9)),
 ⟨some 11, .faddr 0 (.t 3), some (10, true)⟩,
 ⟨some 12, .ldI none (.t 11), some (10, true)⟩,
 ⟨some 13, .faddr 0 (.t 4), some (10, true)⟩,
 ⟨some 14, .ldI none (.t 13), some (10, true)⟩,
 ⟨some 15, .bin .eql (.t 12) (.t 14), some (10, true)⟩,
 oo 16 (.pick (.t 10) (.t 15) (.c (.bool false))),
 oo 7 (.mov (.t 16))])
 (.seq (.block 0 (.seq (.seq (.ops false [
 oo 18 (.mov (.t 7)),
 oo 19 (.mov (.t 2)),
 oo 20 (.eqB true (.t 18) (.t 19)),
 oo 17 (.mov (.t 20))])
 (.cond (.t 17)
 (.skip)
 (.ops false [
 oo 21 (.faddr 1 (.t 3)),
 oo 22 (.ldI none (.t 21)),
 oo 23 (.faddr 1 (.t 4)),
 oo 24 (.ldI none (.t 23)),
 oo 25 (.bin .neq (.t 22) (.t 24)),
 oo 17 (.mov (.t 25))])))
 (.cond (.t 17)
 (.seq (.ops false [
 oo 6 (.mov (ci 0))])
 (.ret))
 (.seq (.ops false [
 oo 27 (.mov (.t 7)),
 oo 26 (.mov (.t 27))])
 (.cond (.t 26)
 (.seq (.ops false [
 oo 28 (.faddr 2 (.t 3)),
 oo 29 (.ldI none (.t 28)),
 oo 30 (.faddr 2 (.t 4)),
 oo 31 (.ldI none (.t 30)),
 oo 32 (.bin .eql (.t 29) (.t 31)),
 oo 33 (.call false 121 [(.t 32), (ci 2)]),
 oo 6 (.mov (.t 33))])
 (.ret))
 (.seq (.ops false [
 oo 35 (.faddr 0 (.t 3)),
 oo 36 (.ldI none (.t 35)),
 oo 37 (.bin .eql (.t 36) (ci 5)),
 oo 38 (.mov (.t 37)),
 ⟨some 39, .faddr 0 (.t 4), some (38, true)⟩,
 ⟨some 40, .ldI none (.t 39), some (38, true)⟩,
 ⟨some 41, .bin .eql (.t 40) (ci 5), some (38, true)⟩,
 oo 42 (.pick (.t 38) (.t 41) (.c (.bool false))),
 oo 34 (.mov (.t 42))])
 (.cond (.t 34)
 (.seq (.ops false [
 oo 6 (.mov (ci 1))])
 (.ret))
 (.seq (.ops false [
 oo 44 (.faddr 0 (.t 3)),
 oo 45 (.ldI none (.t 44)),
 oo 46 (.bin .eql (.t 45) (ci 5)),
 oo 47 (.mov (.t 46)),
 ⟨some 48, .faddr 0 (.t 4), some (47, true)⟩,
 ⟨some 49, .ldI none (.t 48), some (47, true)⟩,
 ⟨some 50, .bin .eql (.t 49) (ci 2), some (47, true)⟩,
 oo 51 (.pick (.t 47) (.t 50) (.c (.bool false))),
 oo 43 (.mov (.t 51))])
 (.cond (.t 43)
 (.seq (.ops false [
 oo 52 (.faddr 2 (.t 3)),
 oo 53 (.ldI none (.t 52)),
 oo 54 (.faddr 2 (.t 4)),
 oo 55 (.ldI none (.t 54)),
 oo 56 (.bin .eql (.t 53) (.t 55)),
 oo 57 (.call false 121 [(.t 56), (ci 2)]),
 oo 6 (.mov (.t 57))])
 (.ret))
 (.seq (.ops false [
 oo 59 (.faddr 0 (.t 3)),
 oo 60 (.ldI none (.t 59)),
 oo 61 (.bin .eql (.t 60) (ci 2)),
 oo 62 (.mov (.t 61)),
 ⟨some 63, .faddr 0 (.t 4), some (62, true)⟩,
 ⟨some 64, .ldI none (.t 63), some (62, true)⟩,
 ⟨some 65, .bin .eql (.t 64) (ci 5), some (62, true)⟩,
 oo 66 (.pick (.t 62) (.t 65) (.c (.bool false))),
 oo 67 (.mov (.t 66)),
 ⟨some 68, .faddr 2 (.t 3), some (67, true)⟩,
 ⟨some 69, .ldI none (.t 68), some (67, true)⟩,
 ⟨some 70, .faddr 2 (.t 4), some (67, true)⟩,
 ⟨some 71, .ldI none (.t 70), some (67, true)⟩,
 ⟨some 72, .bin .eql (.t 69) (.t 71), some (67, true)⟩,
 oo 73 (.pick (.t 67) (.t 72) (.c (.bool false))),
 oo 58 (.mov (.t 73))])
 (.cond (.t 58)
 (.seq (.ops false [
 oo 6 (.mov (ci 2))])
 (.ret))
 (.skip))))))))))))
 (.seq (.ops false [
 oo 6 (.mov (ci 0))])
 (.ret)))))
 [.t 6]

set_option maxRecDepth 100000 in
theorem ok118 : chkFn Try.prog 118 a118 = true := by kernel_rfl

def b108_0 : ACode :=
 (.seq (.ops false [
 oo 12 (.bin .lss (.t 11) (.t 10))])
 (.seq (.cond (.t 12)
 (.skip)
 (.exit 0))
 (.seq (.block 1 (.seq (.ops false [
 oo 13 (.mov (.t 11)),
 oo 7 (.mov (.t 13))])
 (.seq (.ops true [
 oo 14 (.mov (.t 0)),
 oo 15 (.mov (.t 7)),
 oo 16 (.iaddr (some 4) (.t 14) (.t 15)),
 oo 17 (.load (some 4) (.t 16)),
 oo 18 (.mov (.t 0)),
 oo 19 (.mov (.t 7)),
 oo 20 (.bin .add (.t 19) (ci 1)),
 oo 21 (.iaddr (some 4) (.t 18) (.t 20)),
 oo 22 (.load (some 4) (.t 21)),
 oo 23 (.mov (.t 1)),
 oo 24 (.call false 118 [(.t 17), (.t 22), (.t 23)])])
 (.block 2 (.seq (.ops false [
 oo 26 (.bin .eql (.t 24) (ci 1)),
 oo 25 (.mov (.t 26))])
 (.cond (.t 25)
 (.seq (.ops false [
 oo 27 (.mov (.t 0)),
 oo 28 (.mov (.t 7)),
 oo 29 (.mov (.t 7)),
 oo 30 (.bin .add (.t 29) (ci 1)),
 oo 31 (.call true 119 [(.t 27), (.t 28), (.t 30)]),
 oo 4 (.mov (.t 31)),
 oo 5 (.mov (.c (.bool false))),
 oo 6 (.mov (.c (.bool true)))])
 (.ret))
 (.seq (.ops false [
 oo 33 (.bin .eql (.t 24) (ci 2)),
 oo 32 (.mov (.t 33))])
 (.cond (.t 32)
 (.seq (.ops false [
 oo 34 (.mov (.t 0)),
 oo 35 (.mov (.t 7)),
 oo 36 (.bin .add (.t 35) (ci 1)),
 oo 37 (.mov (.t 7)),
 oo 38 (.bin .add (.t 37) (ci 2)),
 oo 39 (.call true 119 [(.t 34), (.t 36), (.t 38)]),
 oo 4 (.mov (.t 39)),
 oo 5 (.mov (.c (.bool false))),
 oo 6 (.mov (.c (.bool true)))])
 (.ret))
 (.seq (.ops false [
 oo 41 (.bin .eql (.t 24) (ci 3)),
 oo 40 (.mov (.t 41))])
 (.cond (.t 40)
 (.seq (.ops false [
 oo 4 (.mov (.c (.nils))),
 oo 5 (.mov (.c (.bool true))),
 oo 6 (.mov (.c (.bool true)))])
 (.ret))
 (.skip)))))))))))
 (.ops false [
 oo 42 (.bin .add (.t 11) (ci 1)),
 oo 11 (.mov (.t 42))]))))

/-- pointsman/trim.closer -/
def a108 : AFn := .mk 44
 (.seq (.ops false [
 oo 4 (.mov (.c (.nils))),
 oo 5 (.mov (.c (.bool false))),
 oo 6 (.mov (.c (.bool false)))])
 (.seq (.seq (.ops false [
 oo 8 (.mov (.t 0)),
 oo 9 (.len (.t 8)),
 oo 10 (.bin .sub (.t 9) (ci 1)),
 oo 11 (.mov (ci 0))])
 (.block 0 (.loop b108_0)))
 (.seq (.ops false [
 oo 43 (.mov (.t 0)),
 oo 4 (.mov (.t 43)),
 oo 5 (.mov (.c (.bool false))),
 oo 6 (.mov (.c (.bool false)))])
 (.ret))))
 [.t 4, .t 5, .t 6]

set_option maxRecDepth 100000 in
theorem ok108 : chkFn Try.prog 108 a108 = true := by kernel_rfl

def b93_0 : ACode :=
 (.seq (.seq (.ops false [
 oo 11 (.mov (.t 3))])
 (.cond (.t 11)
 (.skip)
 (.exit 0)))
 (.block 1 (.seq (.ops false [
 oo 4 (.mov (.c (.bool false)))])
 (.seq (.seq (.ops false [
 oo 13 (.mov (.t 0)),
 oo 14 (.call true 108 [(.t 13), (.c (.bool true))]),
 oo 12 (.mov (.t 14)),
 oo 15 (.extract (.t 12) 0),
 oo 16 (.extract (.t 12) 1),
 oo 17 (.extract (.t 12) 2),
 oo 0 (.mov (.t 15)),
 oo 4 (.mov (.t 16)),
 oo 3 (.mov (.t 17))])
 (.seq (.ops false [
 oo 18 (.mov (.t 3)),
 oo 19 (.un .not (.t 18))])
 (.cond (.t 19)
 (.ops false [
 oo 21 (.mov (.t 0)),
 oo 22 (.call true 108 [(.t 21), (.c (.bool false))]),
 oo 20 (.mov (.t 22)),
 oo 23 (.extract (.t 20) 0),
 oo 24 (.extract (.t 20) 1),
 oo 25 (.extract (.t 20) 2),
 oo 0 (.mov (.t 23)),
 oo 4 (.mov (.t 24)),
 oo 3 (.mov (.t 25))])
 (.skip))))
 (.seq (.ops false [
 oo 26 (.mov (.t 4))])
 (.cond (.t 26)
 (.seq (.ops false [
 oo 27 (.call false 107 []),
 ⟨none, .store (some 4) (.t 2) (.t 27), none⟩])
 (.ret))
 (.skip)))))))

/-- pointsman/trim.seq -/
def a93 : AFn := .mk 40
 (.seq (.ops false [
 oo 2 (.alloc [.int .i64 0, .int .i64 0, .int .u16 0, .vec (some 4) []])])
 (.seq (.ops false [
 oo 5 (.mov (.t 0)),
 oo 6 (.call true 102 [(ci 6), (.t 5)]),
 oo 7 (.call true 101 [(ci 1), (.t 6)]),
 oo 0 (.mov (.t 7))])
 (.seq (.seq (.ops false [
 oo 8 (.mov (.t 0)),
 oo 9 (.call true 104 [(ci 0), (.t 8)])])
 (.cond (.t 9)
 (.seq (.ops false [
 oo 10 (.call false 107 []),
 ⟨none, .store (some 4) (.t 2) (.t 10), none⟩])
 (.ret))
 (.skip)))
 (.seq (.seq (.ops false [
 oo 3 (.mov (.c (.bool true)))])
 (.block 0 (.loop b93_0)))
 (.seq (.seq (.ops false [
 oo 28 (.mov (.t 0)),
 oo 29 (.len (.t 28))])
 (.block 2 (.seq (.ops false [
 oo 31 (.bin .eql (.t 29) (ci 0)),
 oo 30 (.mov (.t 31))])
 (.cond (.t 30)
 (.seq (.ops false [
 oo 32 (.call false 106 []),
 ⟨none, .store (some 4) (.t 2) (.t 32), none⟩])
 (.ret))
 (.seq (.ops false [
 oo 34 (.bin .eql (.t 29) (ci 1)),
 oo 33 (.mov (.t 34))])
 (.cond (.t 33)
 (.seq (.ops false [
 oo 35 (.mov (.t 0)),
 oo 36 (.iaddr (some 4) (.t 35) (ci 0)),
 oo 37 (.load (some 4) (.t 36)),
 ⟨none, .store (some 4) (.t 2) (.t 37), none⟩])
 (.ret))
 (.skip)))))))
 (.seq (.ops false [
 oo 38 (.mov (.t 0)),
 oo 39 (.build [.int .i64 0, .int .i64 0, .int .u16 0, .vec (some 4) []] [(0, 1, (ci 6)), (3, 1, (.t 38))]),
 ⟨none, .store (some 4) (.t 2) (.t 39), none⟩])
 (.ret)))))))
 [.cell 2 (some 4)]

set_option maxRecDepth 100000 in
theorem ok93 : chkFn Try.prog 93 a93 = true := by kernel_rfl

/-- pointsman/trim.not -/
def a94 : AFn := .mk 20
 (.seq (.ops false [
 oo 1 (.box (some 4) (.t 0) true),
 oo 2 (.alloc [.int .i64 0, .int .i64 0, .int .u16 0, .vec (some 4) []])])
 (.seq (.seq (.ops false [
 oo 3 (.faddr 0 (.t 1)),
 oo 4 (.ldI none (.t 3))])
 (.block 0 (.seq (.ops false [
 oo 6 (.bin .eql (.t 4) (ci 0)),
 oo 5 (.mov (.t 6))])
 (.cond (.t 5)
 (.seq (.ops false [
 oo 7 (.call false 106 []),
 ⟨none, .store (some 4) (.t 2) (.t 7), none⟩])
 (.ret))
 (.seq (.ops false [
 oo 9 (.bin .eql (.t 4) (ci 1)),
 oo 8 (.mov (.t 9))])
 (.cond (.t 8)
 (.seq (.ops false [
 oo 10 (.call false 107 []),
 ⟨none, .store (some 4) (.t 2) (.t 10), none⟩])
 (.ret))
 (.seq (.ops false [
 oo 12 (.bin .eql (.t 4) (ci 4)),
 oo 11 (.mov (.t 12))])
 (.cond (.t 11)
 (.seq (.ops false [
 oo 13 (.faddr 3 (.t 1)),
 oo 14 (.ldI none (.t 13)),
 oo 15 (.iaddr (some 4) (.t 14) (ci 0)),
 oo 16 (.load (some 4) (.t 15)),
 ⟨none, .store (some 4) (.t 2) (.t 16), none⟩])
 (.ret))
 (.skip)))))))))
 (.seq (.ops false [
 oo 17 (.ldI (some 4) (.t 1)),
 oo 18 (.bsliceI (some 4) [(.t 17)]),
 oo 19 (.build [.int .i64 0, .int .i64 0, .int .u16 0, .vec (some 4) []] [(0, 1, (ci 4)), (3, 1, (.t 18))]),
 ⟨none, .store (some 4) (.t 2) (.t 19), none⟩])
 (.ret))))
 [.cell 2 (some 4)]

set_option maxRecDepth 100000 in
theorem ok94 : chkFn Try.prog 94 a94 = true := by kernel_rfl

def b76_0 : ACode :=
 (.seq (.ops false [
 oo 10 (.bin .lss (.t 9) (.t 8))])
 (.seq (.cond (.t 10)
 (.skip)
 (.exit 0))
 (.seq (.block 1 (.seq (.ops false [
 oo 11 (.iaddr (some 4) (.t 7) (.t 9)),
 oo 12 (.load (some 4) (.t 11)),
 oo 5 (.alloc [.int .i64 0, .int .i64 0, .int .u16 0, .vec (some 4) []]),
 ⟨none, .store (some 4) (.t 5) (.t 12), none⟩])
 (.ops false [
 oo 13 (.mov (.t 3)),
 oo 14 (.load (some 4) (.t 5)),
 oo 15 (.call false 76 [(.t 14)]),
 oo 16 (.bsliceI (some 4) [(.t 15)]),
 oo 17 (.append (some 4) (.t 13) (.t 16) false),
 oo 3 (.mov (.t 17))])))
 (.ops false [
 oo 18 (.bin .add (.t 9) (ci 1)),
 oo 9 (.mov (.t 18))]))))

/-- pointsman/trim.trimmed -/
def a76 : AFn := .mk 37
 (.seq (.ops false [
 oo 1 (.box (some 4) (.t 0) false),
 oo 2 (.alloc [.int .i64 0, .int .i64 0, .int .u16 0, .vec (some 4) []])])
 (.seq (.ops false [
 oo 3 (.mov (.c (.nils)))])
 (.seq (.seq (.ops false [
 oo 6 (.faddr 3 (.t 1)),
 oo 7 (.load none (.t 6)),
 oo 8 (.len (.t 7)),
 oo 9 (.mov (ci 0))])
 (.block 0 (.loop b76_0)))
 (.seq (.seq (.ops false [
 oo 19 (.faddr 0 (.t 1)),
 oo 20 (.load none (.t 19))])
 (.block 2 (.seq (.ops false [
 oo 22 (.bin .eql (.t 20) (ci 7)),
 oo 21 (.mov (.t 22))])
 (.cond (.t 21)
 (.seq (.ops false [
 oo 23 (.mov (.t 3)),
 oo 24 (.call false 92 [(.t 23)]),
 ⟨none, .store (some 4) (.t 2) (.t 24), none⟩])
 (.ret))
 (.seq (.ops false [
 oo 26 (.bin .eql (.t 20) (ci 6)),
 oo 25 (.mov (.t 26))])
 (.cond (.t 25)
 (.seq (.ops false [
 oo 27 (.mov (.t 3)),
 oo 28 (.call false 93 [(.t 27)]),
 ⟨none, .store (some 4) (.t 2) (.t 28), none⟩])
 (.ret))
 (.seq (.ops false [
 oo 30 (.bin .eql (.t 20) (ci 4)),
 oo 29 (.mov (.t 30))])
 (.cond (.t 29)
 (.seq (.ops false [
 oo 31 (.mov (.t 3)),
 oo 32 (.iaddr (some 4) (.t 31) (ci 0)),
 oo 33 (.load (some 4) (.t 32)),
 oo 34 (.call false 94 [(.t 33)]),
 ⟨none, .store (some 4) (.t 2) (.t 34), none⟩])
 (.ret))
 (.skip)))))))))
 (.seq (.ops false [
 oo 35 (.faddr 3 (.t 1)),
 ⟨none, .store none (.t 35) (.c (.vec (some 4) [])), none⟩])
 (.seq (.ops false [
 oo 36 (.load (some 4) (.t 1)),
 ⟨none, .store (some 4) (.t 2) (.t 36), none⟩])
 (.ret)))))))
 [.cell 2 (some 4)]

set_option maxRecDepth 100000 in
theorem ok76 : chkFn Try.prog 76 a76 = true := by kernel_rfl

/-- pointsman/trim.Trim -/
def a38 : AFn := .mk 11
 (.seq (.ops false [
 oo 1 (.box (some 4) (.t 0) true),
 oo 2 (.alloc [.int .i64 0, .int .i64 0, .int .u16 0, .vec (some 4) []])])
 (.seq (.seq (.ops true [
 oo 3 (.mkslF none (.int .u16 0) (ci 4) (ci 4)),
 oo 4 (.ldI (some 4) (.t 1)),
 oo 5 (.build [.vec none [], .int .i64 0, .int .i64 0, .int .u16 0, .vec (some 4) [], .vec (some 3) []] [(0, 1, (.t 3)), (1, 4, (.t 4))]),
 oo 6 (.call false 65 [(.t 5)]),
 oo 7 (.bin .neq (.t 6) (ci 0))])
 (.cond (.t 7)
 (.seq (.ops false [
 oo 8 (.ldI (some 4) (.t 1)),
 ⟨none, .store (some 4) (.t 2) (.t 8), none⟩])
 (.ret))
 (.skip)))
 (.seq (.ops false [
 oo 9 (.ldI (some 4) (.t 1)),
 oo 10 (.call false 76 [(.t 9)]),
 ⟨none, .store (some 4) (.t 2) (.t 10), none⟩])
 (.ret))))
 [.cell 2 (some 4)]

set_option maxRecDepth 100000 in
theorem ok38 : chkFn Try.prog 38 a38 = true := by kernel_rfl

def b41_0 : ACode :=
 (.seq (.seq (.ops false [
 oo 34 (.mov (.t 5)),
 oo 35 (.faddr 3 (.t 2)),
 oo 36 (.ldI none (.t 35)),
 oo 37 (.len (.t 36)),
 oo 38 (.bin .lss (.t 34) (.t 37))])
 (.cond (.t 38)
 (.skip)
 (.exit 0)))
 (.seq (.block 1 (.seq (.ops true [
 oo 41 (.faddr 3 (.t 2)),
 oo 42 (.ldI none (.t 41)),
 oo 43 (.mov (.t 5)),
 oo 44 (.iaddr (some 4) (.t 42) (.t 43)),
 oo 45 (.load (some 4) (.t 44)),
 oo 46 (.faddr 3 (.t 3)),
 oo 47 (.ldI none (.t 46)),
 oo 48 (.mov (.t 5)),
 oo 49 (.iaddr (some 4) (.t 47) (.t 48)),
 oo 50 (.load (some 4) (.t 49)),
 oo 51 (.call false 41 [(.t 45), (.t 50)]),
 oo 52 (.un .not (.t 51))])
 (.cond (.t 52)
 (.seq (.ops false [
 oo 4 (.mov (.c (.bool false)))])
 (.ret))
 (.skip))))
 (.ops false [
 oo 39 (.mov (.t 5)),
 oo 40 (.bin .add (.t 39) (ci 1)),
 oo 5 (.mov (.t 40))])))

/-- pointsman/pointsmanref05.SamePol -/
def a41 : AFn := .mk 53
 (.seq (.ops false [
 oo 2 (.box (some 4) (.t 0) true),
 oo 3 (.box (some 4) (.t 1) true),
 oo 4 (.mov (.c (.bool false)))])
 (.seq (.seq (.ops false [
 oo 6 (.faddr 0 (.t 2)),
 oo 7 (.ldI none (.t 6)),
 oo 8 (.faddr 0 (.t 3)),
 oo 9 (.ldI none (.t 8)),
 oo 10 (.bin .neq (.t 7) (.t 9)),
 oo 11 (.mov (.t 10)),
 ⟨some 12, .faddr 1 (.t 2), some (11, false)⟩,
 ⟨some 13, .ldI none (.t 12), some (11, false)⟩,
 ⟨some 14, .faddr 1 (.t 3), some (11, false)⟩,
 ⟨some 15, .ldI none (.t 14), some (11, false)⟩,
 ⟨some 16, .bin .neq (.t 13) (.t 15), some (11, false)⟩,
 oo 17 (.pick (.t 11) (.c (.bool true)) (.t 16)),
 oo 18 (.mov (.t 17)),
 ⟨some 19, .faddr 2 (.t 2), some (18, false)⟩,
 ⟨some 20, .ldI none (.t 19), some (18, false)⟩,
 ⟨some 21, .faddr 2 (.t 3), some (18, false)⟩,
 ⟨some 22, .ldI none (.t 21), some (18, false)⟩,
 ⟨some 23, .bin .neq (.t 20) (.t 22), some (18, false)⟩,
 oo 24 (.pick (.t 18) (.c (.bool true)) (.t 23)),
 oo 25 (.mov (.t 24)),
 ⟨some 26, .faddr 3 (.t 2), some (25, false)⟩,
 ⟨some 27, .ldI none (.t 26), some (25, false)⟩,
 ⟨some 28, .len (.t 27), some (25, false)⟩,
 ⟨some 29, .faddr 3 (.t 3), some (25, false)⟩,
 ⟨some 30, .ldI none (.t 29), some (25, false)⟩,
 ⟨some 31, .len (.t 30), some (25, false)⟩,
 ⟨some 32, .bin .neq (.t 28) (.t 31), some (25, false)⟩,
 oo 33 (.pick (.t 25) (.c (.bool true)) (.t 32))])
 (.cond (.t 33)
 (.seq (.ops false [
 oo 4 (.mov (.c (.bool false)))])
 (.ret))
 (.skip)))
 (.seq (.seq (.ops false [
 oo 5 (.mov (ci 0))])
 (.block 0 (.loop b41_0)))
 (.seq (.ops false [
 oo 4 (.mov (.c (.bool true)))])
 (.ret)))))
 [.t 4]

set_option maxRecDepth 100000 in
theorem ok41 : chkFn Try.prog 41 a41 = true := by kernel_rfl

/-- pointsman/trim.Trimmed -/
def a44 : AFn := .mk 7
 (.seq (.ops false [
 oo 1 (.box (some 4) (.t 0) true),
 oo 2 (.mov (.c (.bool false)))])
 (.seq (.ops true [
 oo 3 (.ldI (some 4) (.t 1)),
 oo 4 (.ldI (some 4) (.t 1)),
 oo 5 (.call false 38 [(.t 4)]),
 oo 6 (.call false 77 [(.t 3), (.t 5)]),
 oo 2 (.mov (.t 6))])
 (.ret)))
 [.t 2]

set_option maxRecDepth 100000 in
theorem ok44 : chkFn Try.prog 44 a44 = true := by kernel_rfl

/-- pointsman/pointsmanlaw28.awake -/
def a35 : AFn := .mk 26
 (.seq (.ops false [
 oo 0 (.mov (.c (.bool false)))])
 (.seq (.ops false [
 oo 2 (.build [.int .i64 0, .int .i64 0, .int .u16 0, .vec (some 4) []] [(0, 1, (ci 1))]),
 oo 3 (.call false 74 [(.c (.int .u16 1))]),
 oo 4 (.call false 74 [(.c (.int .u16 2))]),
 oo 5 (.bsliceI (some 4) [(.t 2), (.t 3), (.t 4)]),
 oo 6 (.call false 47 [(.t 5)]),
 oo 7 (.build [.int .i64 0, .int .i64 0, .int .u16 0, .vec (some 4) []] []),
 oo 8 (.bsliceI (some 4) [(.t 6), (.t 7)]),
 oo 9 (.call false 46 [(.t 8)]),
 oo 10 (.call false 38 [(.t 9)]),
 oo 1 (.alloc [.int .i64 0, .int .i64 0, .int .u16 0, .vec (some 4) []]),
 ⟨none, .store (some 4) (.t 1) (.t 10), none⟩])
 (.seq (.ops true [
 oo 11 (.load (some 4) (.t 1)),
 oo 12 (.call false 74 [(.c (.int .u16 2))]),
 oo 13 (.call false 41 [(.t 11), (.t 12)]),
 oo 14 (.mov (.t 13)),
 ⟨some 15, .load (some 4) (.t 1), some (14, true)⟩,
 ⟨some 16, .call false 44 [(.t 15)], some (14, true)⟩,
 oo 17 (.pick (.t 14) (.t 16) (.c (.bool false))),
 oo 18 (.mov (.t 17)),
 ⟨some 19, .load (some 4) (.t 1), some (18, true)⟩,
 ⟨some 20, .load (some 4) (.t 1), some (18, true)⟩,
 ⟨some 21, .bsliceI (some 4) [(.t 19), (.t 20)], some (18, true)⟩,
 ⟨some 22, .call false 46 [(.t 21)], some (18, true)⟩,
 ⟨some 23, .call false 44 [(.t 22)], some (18, true)⟩,
 ⟨some 24, .un .not (.t 23), some (18, true)⟩,
 oo 25 (.pick (.t 18) (.t 24) (.c (.bool false))),
 oo 0 (.mov (.t 25))])
 (.ret))))
 [.t 0]

set_option maxRecDepth 100000 in
theorem ok35 : chkFn Try.prog 35 a35 = true := by kernel_rfl

def b36_0 : ACode :=
 (.seq (.ops false [
 oo 17 (.bin .lss (.t 16) (.t 15))])
 (.seq (.cond (.t 17)
 (.skip)
 (.exit 0))
 (.seq (.block 1 (.seq (.ops false [
 oo 18 (.iaddr (some 4) (.t 14) (.t 16)),
 oo 19 (.load (some 4) (.t 18)),
 oo 6 (.alloc [.int .i64 0, .int .i64 0, .int .u16 0, .int .u8 0]),
 ⟨none, .store (some 4) (.t 6) (.t 19), none⟩])
 (.seq (.ops false [
 oo 20 (.mov (.t 4)),
 oo 21 (.len (.t 20)),
 oo 7 (.mov (.t 21))])
 (.block 2 (.seq (.ops false [
 oo 23 (.faddr 0 (.t 6)),
 oo 24 (.load none (.t 23)),
 oo 25 (.bin .eql (.t 24) (ci 0)),
 oo 26 (.mov (.t 25)),
 ⟨some 27, .faddr 0 (.t 6), some (26, false)⟩,
 ⟨some 28, .load none (.t 27), some (26, false)⟩,
 ⟨some 29, .bin .eql (.t 28) (ci 1), some (26, false)⟩,
 oo 30 (.pick (.t 26) (.c (.bool true)) (.t 29)),
 oo 22 (.mov (.t 30))])
 (.cond (.t 22)
 (.ops false [
 oo 31 (.mov (.t 4)),
 oo 32 (.faddr 0 (.t 6)),
 oo 33 (.load none (.t 32)),
 oo 34 (.build [.int .i64 0, .int .i64 0, .int .u16 0, .vec (some 4) []] [(0, 1, (.t 33))]),
 oo 35 (.bsliceI (some 4) [(.t 34)]),
 oo 36 (.append (some 4) (.t 31) (.t 35) true),
 oo 4 (.mov (.t 36))])
 (.seq (.ops false [
 oo 38 (.faddr 0 (.t 6)),
 oo 39 (.load none (.t 38)),
 oo 40 (.bin .eql (.t 39) (ci 2)),
 oo 41 (.mov (.t 40)),
 ⟨some 42, .faddr 0 (.t 6), some (41, false)⟩,
 ⟨some 43, .load none (.t 42), some (41, false)⟩,
 ⟨some 44, .bin .eql (.t 43) (ci 3), some (41, false)⟩,
 oo 45 (.pick (.t 41) (.c (.bool true)) (.t 44)),
 oo 46 (.mov (.t 45)),
 ⟨some 47, .faddr 0 (.t 6), some (46, false)⟩,
 ⟨some 48, .load none (.t 47), some (46, false)⟩,
 ⟨some 49, .bin .eql (.t 48) (ci 5), some (46, false)⟩,
 oo 50 (.pick (.t 46) (.c (.bool true)) (.t 49)),
 oo 37 (.mov (.t 50))])
 (.cond (.t 37)
 (.ops false [
 oo 51 (.mov (.t 4)),
 oo 52 (.faddr 0 (.t 6)),
 oo 53 (.load none (.t 52)),
 oo 54 (.faddr 1 (.t 6)),
 oo 55 (.load none (.t 54)),
 oo 56 (.faddr 2 (.t 6)),
 oo 57 (.load none (.t 56)),
 oo 58 (.build [.int .i64 0, .int .i64 0, .int .u16 0, .vec (some 4) []] [(0, 1, (.t 53)), (1, 1, (.t 55)), (2, 1, (.t 57))]),
 oo 59 (.bsliceI (some 4) [(.t 58)]),
 oo 60 (.append (some 4) (.t 51) (.t 59) true),
 oo 4 (.mov (.t 60))])
 (.seq (.ops false [
 oo 62 (.faddr 0 (.t 6)),
 oo 63 (.load none (.t 62)),
 oo 64 (.bin .eql (.t 63) (ci 4)),
 oo 65 (.mov (.t 64)),
 ⟨some 66, .mov (.t 7), some (65, true)⟩,
 ⟨some 67, .bin .gtr (.t 66) (ci 0), some (65, true)⟩,
 oo 68 (.pick (.t 65) (.t 67) (.c (.bool false))),
 oo 61 (.mov (.t 68))])
 (.cond (.t 61)
 (.ops false [
 oo 69 (.mov (.t 4)),
 oo 70 (.mov (.t 7)),
 oo 71 (.bin .sub (.t 70) (ci 1)),
 oo 72 (.mov (.t 4)),
 oo 73 (.mov (.t 7)),
 oo 74 (.bin .sub (.t 73) (ci 1)),
 oo 75 (.iaddr (some 4) (.t 72) (.t 74)),
 oo 76 (.load (some 4) (.t 75)),
 oo 77 (.bsliceI (some 4) [(.t 76)]),
 oo 78 (.build [.int .i64 0, .int .i64 0, .int .u16 0, .vec (some 4) []] [(0, 1, (ci 4)), (3, 1, (.t 77))]),
 oo 79 (.iaddr (some 4) (.t 69) (.t 71)),
 ⟨none, .store (some 4) (.t 79) (.t 78), none⟩])
 (.seq (.ops false [
 oo 81 (.faddr 0 (.t 6)),
 oo 82 (.load none (.t 81)),
 oo 83 (.bin .eql (.t 82) (ci 6)),
 oo 84 (.mov (.t 83)),
 ⟨some 85, .faddr 0 (.t 6), some (84, false)⟩,
 ⟨some 86, .load none (.t 85), some (84, false)⟩,
 ⟨some 87, .bin .eql (.t 86) (ci 7), some (84, false)⟩,
 oo 88 (.pick (.t 84) (.c (.bool true)) (.t 87)),
 oo 80 (.mov (.t 88))])
 (.cond (.t 80)
 (.seq (.ops false [
 oo 89 (.faddr 3 (.t 6)),
 oo 90 (.load none (.t 89)),
 oo 91 (.convI .i64 (.t 90)),
 oo 92 (.mov (.t 7)),
 oo 93 (.min2 (.t 91) (.t 92)),
 oo 8 (.mov (.t 93))])
 (.seq (.ops false [
 oo 94 (.bslice (some 4) [] false),
 oo 95 (.mov (.t 4)),
 oo 96 (.mov (.t 7)),
 oo 97 (.mov (.t 8)),
 oo 98 (.bin .sub (.t 96) (.t 97)),
 oo 99 (.slc (some 4) (.t 95) (some (.t 98)) none),
 oo 100 (.append (some 4) (.t 94) (.t 99) false),
 oo 9 (.mov (.t 100))])
 (.ops true [
 oo 101 (.mov (.t 4)),
 oo 102 (.mov (.t 7)),
 oo 103 (.mov (.t 8)),
 oo 104 (.bin .sub (.t 102) (.t 103)),
 oo 105 (.slc (some 4) (.t 101) none (some (.t 104))),
 oo 106 (.faddr 0 (.t 6)),
 oo 107 (.load none (.t 106)),
 oo 108 (.mov (.t 9)),
 oo 109 (.build [.int .i64 0, .int .i64 0, .int .u16 0, .vec (some 4) []] [(0, 1, (.t 107)), (3, 1, (.t 108))]),
 oo 110 (.bsliceI (some 4) [(.t 109)]),
 oo 111 (.appendC (some 4) (.t 105) (.t 110) true),
 oo 4 (.mov (.t 111))])))
 (.skip)))))))))))))
 (.ops false [
 oo 112 (.bin .add (.t 16) (ci 1)),
 oo 16 (.mov (.t 112))]))))

/-- pointsman/pointsmanlaw05.Pile -/
def a36 : AFn := .mk 123
 (.seq (.ops false [
 oo 2 (.alloc [.int .i64 0, .int .i64 0, .int .u16 0, .vec (some 4) []]),
 oo 3 (.mov (.c (.bool false)))])
 (.seq (.seq (.ops false [
 oo 10 (.mov (.t 0)),
 oo 11 (.len (.t 10)),
 oo 12 (.bin .gtr (.t 11) (ci 60))])
 (.cond (.t 12)
 (.seq (.ops false [
 oo 13 (.build [.int .i64 0, .int .i64 0, .int .u16 0, .vec (some 4) []] []),
 ⟨none, .store (some 4) (.t 2) (.t 13), none⟩,
 oo 3 (.mov (.c (.bool false)))])
 (.ret))
 (.skip)))
 (.seq (.ops false [
 oo 4 (.mov (.c (.nils)))])
 (.seq (.seq (.ops false [
 oo 14 (.mov (.t 0)),
 oo 15 (.len (.t 14)),
 oo 16 (.mov (ci 0))])
 (.block 0 (.loop b36_0)))
 (.seq (.seq (.ops false [
 oo 113 (.mov (.t 4)),
 oo 114 (.len (.t 113)),
 oo 115 (.bin .eql (.t 114) (ci 0))])
 (.cond (.t 115)
 (.seq (.ops false [
 oo 116 (.build [.int .i64 0, .int .i64 0, .int .u16 0, .vec (some 4) []] []),
 ⟨none, .store (some 4) (.t 2) (.t 116), none⟩,
 oo 3 (.mov (.c (.bool false)))])
 (.ret))
 (.skip)))
 (.seq (.ops false [
 oo 117 (.mov (.t 4)),
 oo 118 (.mov (.t 4)),
 oo 119 (.len (.t 118)),
 oo 120 (.bin .sub (.t 119) (ci 1)),
 oo 121 (.iaddr (some 4) (.t 117) (.t 120)),
 oo 122 (.load (some 4) (.t 121)),
 ⟨none, .store (some 4) (.t 2) (.t 122), none⟩,
 oo 3 (.mov (.c (.bool true)))])
 (.ret)))))))
 [.cell 2 (some 4), .t 3]

set_option maxRecDepth 100000 in
theorem ok36 : chkFn Try.prog 36 a36 = true := by kernel_rfl

def b24_0 : ACode :=
 (.seq (.ops false [
 oo 19 (.bin .lss (.t 18) (.t 17))])
 (.seq (.cond (.t 19)
 (.skip)
 (.exit 0))
 (.seq (.block 1 (.seq (.ops false [
 oo 20 (.iaddr (some 3) (.t 16) (.t 18)),
 oo 21 (.load (some 3) (.t 20)),
 oo 4 (.alloc [.vec (some 2) [], .vec (some 2) [], .vec (some 2) []]),
 ⟨none, .store (some 3) (.t 4) (.t 21), none⟩])
 (.seq (.ops false [
 oo 22 (.faddr 0 (.t 4)),
 oo 23 (.load none (.t 22)),
 oo 24 (.len (.t 23)),
 oo 25 (.bin .gtr (.t 24) (ci 8)),
 oo 26 (.mov (.t 25)),
 ⟨some 27, .faddr 1 (.t 4), some (26, false)⟩,
 ⟨some 28, .load none (.t 27), some (26, false)⟩,
 ⟨some 29, .len (.t 28), some (26, false)⟩,
 ⟨some 30, .bin .gtr (.t 29) (ci 6), some (26, false)⟩,
 oo 31 (.pick (.t 26) (.c (.bool true)) (.t 30)),
 oo 32 (.mov (.t 31)),
 ⟨some 33, .faddr 2 (.t 4), some (32, false)⟩,
 ⟨some 34, .load none (.t 33), some (32, false)⟩,
 ⟨some 35, .len (.t 34), some (32, false)⟩,
 ⟨some 36, .bin .gtr (.t 35) (ci 6), some (32, false)⟩,
 oo 37 (.pick (.t 32) (.c (.bool true)) (.t 36))])
 (.cond (.t 37)
 (.seq (.ops false [
 oo 2 (.mov (.c (.bool false)))])
 (.ret))
 (.skip)))))
 (.ops false [
 oo 38 (.bin .add (.t 18) (ci 1)),
 oo 18 (.mov (.t 38))]))))

/-- pointsman/pointsmanlaw11.Small -/
def a24 : AFn := .mk 39
 (.seq (.ops false [
 oo 1 (.box (some 6) (.t 0) true),
 oo 2 (.mov (.c (.bool false)))])
 (.seq (.seq (.ops false [
 oo 5 (.faddr 0 (.t 1)),
 oo 6 (.ldI none (.t 5)),
 oo 7 (.len (.t 6)),
 oo 8 (.bin .gtr (.t 7) (ci 5)),
 oo 9 (.mov (.t 8)),
 ⟨some 10, .faddr 5 (.t 1), some (9, false)⟩,
 ⟨some 11, .ldI none (.t 10), some (9, false)⟩,
 ⟨some 12, .len (.t 11), some (9, false)⟩,
 ⟨some 13, .bin .gtr (.t 12) (ci 26), some (9, false)⟩,
 oo 14 (.pick (.t 9) (.c (.bool true)) (.t 13))])
 (.cond (.t 14)
 (.seq (.ops false [
 oo 2 (.mov (.c (.bool false)))])
 (.ret))
 (.skip)))
 (.seq (.seq (.ops false [
 oo 15 (.faddr 5 (.t 1)),
 oo 16 (.ldI none (.t 15)),
 oo 17 (.len (.t 16)),
 oo 18 (.mov (ci 0))])
 (.block 0 (.loop b24_0)))
 (.seq (.ops false [
 oo 2 (.mov (.c (.bool true)))])
 (.ret)))))
 [.t 2]

set_option maxRecDepth 100000 in
theorem ok24 : chkFn Try.prog 24 a24 = true := by kernel_rfl

def b42_0 : ACode :=
 (.seq (.seq (.ops false [
 oo 5 (.mov (.t 4)),
 oo 6 (.faddr 3 (.t 1)),
 oo 7 (.ldI none (.t 6)),
 oo 8 (.len (.t 7)),
 oo 9 (.bin .lss (.t 5) (.t 8))])
 (.cond (.t 9)
 (.skip)
 (.exit 0)))
 (.seq (.block 1 (.ops false [
 oo 12 (.mov (.t 3)),
 oo 13 (.faddr 3 (.t 1)),
 oo 14 (.ldI none (.t 13)),
 oo 15 (.mov (.t 4)),
 oo 16 (.iaddr (some 4) (.t 14) (.t 15)),
 oo 17 (.load (some 4) (.t 16)),
 oo 18 (.call false 42 [(.t 17)]),
 oo 19 (.bin .add (.t 12) (.t 18)),
 oo 3 (.mov (.t 19))]))
 (.ops false [
 oo 10 (.mov (.t 4)),
 oo 11 (.bin .add (.t 10) (ci 1)),
 oo 4 (.mov (.t 11))])))

/-- pointsman/pointsmanref05.Size -/
def a42 : AFn := .mk 21
 (.seq (.ops false [
 oo 1 (.box (some 4) (.t 0) true),
 oo 2 (.mov (ci 0))])
 (.seq (.ops false [
 oo 3 (.mov (ci 1))])
 (.seq (.seq (.ops false [
 oo 4 (.mov (ci 0))])
 (.block 0 (.loop b42_0)))
 (.seq (.ops false [
 oo 20 (.mov (.t 3)),
 oo 2 (.mov (.t 20))])
 (.ret)))))
 [.t 2]

set_option maxRecDepth 100000 in
theorem ok42 : chkFn Try.prog 42 a42 = true := by kernel_rfl

def b43_0 : ACode :=
 (.seq (.seq (.ops false [
 oo 5 (.mov (.t 4)),
 oo 6 (.faddr 3 (.t 1)),
 oo 7 (.ldI none (.t 6)),
 oo 8 (.len (.t 7)),
 oo 9 (.bin .lss (.t 5) (.t 8))])
 (.cond (.t 9)
 (.skip)
 (.exit 0)))
 (.seq (.block 1 (.ops false [
 oo 12 (.mov (.t 3)),
 oo 13 (.faddr 3 (.t 1)),
 oo 14 (.ldI none (.t 13)),
 oo 15 (.mov (.t 4)),
 oo 16 (.iaddr (some 4) (.t 14) (.t 15)),
 oo 17 (.load (some 4) (.t 16)),
 oo 18 (.call false 43 [(.t 17)]),
 oo 19 (.max2 (.t 12) (.t 18)),
 oo 3 (.mov (.t 19))]))
 (.ops false [
 oo 10 (.mov (.t 4)),
 oo 11 (.bin .add (.t 10) (ci 1)),
 oo 4 (.mov (.t 11))])))

/-- pointsman/pointsmanref05.Depth -/
def a43 : AFn := .mk 22
 (.seq (.ops false [
 oo 1 (.box (some 4) (.t 0) true),
 oo 2 (.mov (ci 0))])
 (.seq (.ops false [
 oo 3 (.mov (ci 0))])
 (.seq (.seq (.ops false [
 oo 4 (.mov (ci 0))])
 (.block 0 (.loop b43_0)))
 (.seq (.ops false [
 oo 20 (.mov (.t 3)),
 oo 21 (.bin .add (.t 20) (ci 1)),
 oo 2 (.mov (.t 21))])
 (.ret)))))
 [.t 2]

set_option maxRecDepth 100000 in
theorem ok43 : chkFn Try.prog 43 a43 = true := by kernel_rfl

def b45_0 : ACode :=
 (.seq (.seq (.ops false [
 oo 25 (.mov (.t 3)),
 oo 26 (.faddr 3 (.t 1)),
 oo 27 (.ldI none (.t 26)),
 oo 28 (.len (.t 27)),
 oo 29 (.bin .lss (.t 25) (.t 28))])
 (.cond (.t 29)
 (.skip)
 (.exit 0)))
 (.seq (.block 1 (.seq (.ops false [
 oo 32 (.faddr 3 (.t 1)),
 oo 33 (.ldI none (.t 32)),
 oo 34 (.mov (.t 3)),
 oo 35 (.iaddr (some 4) (.t 33) (.t 34)),
 oo 36 (.load (some 4) (.t 35)),
 oo 37 (.call false 45 [(.t 36)]),
 oo 38 (.un .not (.t 37))])
 (.cond (.t 38)
 (.seq (.ops false [
 oo 2 (.mov (.c (.bool false)))])
 (.ret))
 (.skip))))
 (.ops false [
 oo 30 (.mov (.t 3)),
 oo 31 (.bin .add (.t 30) (ci 1)),
 oo 3 (.mov (.t 31))])))

/-- pointsman/pointsmanref05.Predicate -/
def a45 : AFn := .mk 39
 (.seq (.ops false [
 oo 1 (.box (some 4) (.t 0) true),
 oo 2 (.mov (.c (.bool false)))])
 (.seq (.seq (.ops false [
 oo 4 (.faddr 0 (.t 1)),
 oo 5 (.ldI none (.t 4)),
 oo 6 (.bin .eql (.t 5) (ci 5)),
 oo 7 (.mov (.t 6)),
 ⟨some 8, .faddr 0 (.t 1), some (7, false)⟩,
 ⟨some 9, .ldI none (.t 8), some (7, false)⟩,
 ⟨some 10, .bin .lss (.t 9) (ci 0), some (7, false)⟩,
 oo 11 (.pick (.t 7) (.c (.bool true)) (.t 10)),
 oo 12 (.mov (.t 11)),
 ⟨some 13, .faddr 0 (.t 1), some (12, false)⟩,
 ⟨some 14, .ldI none (.t 13), some (12, false)⟩,
 ⟨some 15, .bin .gtr (.t 14) (ci 7), some (12, false)⟩,
 oo 16 (.pick (.t 12) (.c (.bool true)) (.t 15))])
 (.cond (.t 16)
 (.seq (.ops false [
 oo 2 (.mov (.c (.bool false)))])
 (.ret))
 (.skip)))
 (.seq (.seq (.ops false [
 oo 17 (.faddr 0 (.t 1)),
 oo 18 (.ldI none (.t 17)),
 oo 19 (.bin .eql (.t 18) (ci 6)),
 oo 20 (.mov (.t 19)),
 ⟨some 21, .faddr 0 (.t 1), some (20, false)⟩,
 ⟨some 22, .ldI none (.t 21), some (20, false)⟩,
 ⟨some 23, .bin .eql (.t 22) (ci 7), some (20, false)⟩,
 oo 24 (.pick (.t 20) (.c (.bool true)) (.t 23))])
 (.cond (.t 24)
 (.seq (.ops false [
 oo 3 (.mov (ci 0))])
 (.block 0 (.loop b45_0)))
 (.skip)))
 (.seq (.ops false [
 oo 2 (.mov (.c (.bool true)))])
 (.ret)))))
 [.t 2]

set_option maxRecDepth 100000 in
theorem ok45 : chkFn Try.prog 45 a45 = true := by kernel_rfl

def b79_0 : ACode :=
 (.seq (.seq (.ops false [
 oo 114 (.mov (.t 6)),
 oo 115 (.mov (.t 5)),
 oo 116 (.bin .lss (.t 114) (.t 115))])
 (.cond (.t 116)
 (.skip)
 (.exit 1)))
 (.seq (.block 2 (.seq (.ops false [
 oo 119 (.faddr 3 (.t 2)),
 oo 120 (.ldI none (.t 119)),
 oo 121 (.mov (.t 6)),
 oo 122 (.iaddr (some 4) (.t 120) (.t 121)),
 oo 123 (.load (some 4) (.t 122)),
 oo 124 (.mov (.t 1)),
 oo 125 (.call false 79 [(.t 123), (.t 124)]),
 oo 126 (.un .not (.t 125))])
 (.cond (.t 126)
 (.seq (.ops false [
 oo 4 (.mov (.c (.bool false)))])
 (.ret))
 (.skip))))
 (.ops false [
 oo 117 (.mov (.t 6)),
 oo 118 (.bin .add (.t 117) (ci 1)),
 oo 6 (.mov (.t 118))])))

/-- pointsman/pointsmanref05.formed -/
def a79 : AFn := .mk 127
 (.seq (.ops false [
 oo 2 (.box (some 4) (.t 0) true),
 oo 4 (.mov (.c (.bool false)))])
 (.seq (.ops false [
 oo 7 (.faddr 3 (.t 2)),
 oo 8 (.ldI none (.t 7)),
 oo 9 (.len (.t 8)),
 oo 5 (.mov (.t 9))])
 (.seq (.seq (.ops false [
 oo 10 (.faddr 0 (.t 2)),
 oo 11 (.ldI none (.t 10))])
 (.block 0 (.seq (.seq (.ops false [
 oo 13 (.bin .eql (.t 11) (ci 0)),
 oo 12 (.mov (.t 13))])
 (.cond (.t 12)
 (.skip)
 (.ops false [
 oo 14 (.bin .eql (.t 11) (ci 1)),
 oo 12 (.mov (.t 14))])))
 (.cond (.t 12)
 (.seq (.ops false [
 oo 15 (.mov (.t 5)),
 oo 16 (.bin .eql (.t 15) (ci 0)),
 oo 17 (.mov (.t 16)),
 ⟨some 18, .faddr 1 (.t 2), some (17, true)⟩,
 ⟨some 19, .ldI none (.t 18), some (17, true)⟩,
 ⟨some 20, .bin .eql (.t 19) (ci 0), some (17, true)⟩,
 oo 21 (.pick (.t 17) (.t 20) (.c (.bool false))),
 oo 22 (.mov (.t 21)),
 ⟨some 23, .faddr 2 (.t 2), some (22, true)⟩,
 ⟨some 24, .ldI none (.t 23), some (22, true)⟩,
 ⟨some 25, .bin .eql (.t 24) (.c (.int .u16 0)), some (22, true)⟩,
 oo 26 (.pick (.t 22) (.t 25) (.c (.bool false))),
 oo 4 (.mov (.t 26))])
 (.ret))
 (.seq (.ops false [
 oo 28 (.bin .eql (.t 11) (ci 2)),
 oo 27 (.mov (.t 28))])
 (.cond (.t 27)
 (.seq (.ops false [
 oo 29 (.mov (.t 5)),
 oo 30 (.bin .eql (.t 29) (ci 0)),
 oo 31 (.mov (.t 30)),
 ⟨some 32, .faddr 1 (.t 2), some (31, true)⟩,
 ⟨some 33, .ldI none (.t 32), some (31, true)⟩,
 ⟨some 34, .bin .geq (.t 33) (ci 0), some (31, true)⟩,
 oo 35 (.pick (.t 31) (.t 34) (.c (.bool false))),
 oo 36 (.mov (.t 35)),
 ⟨some 37, .faddr 1 (.t 2), some (36, true)⟩,
 ⟨some 38, .ldI none (.t 37), some (36, true)⟩,
 ⟨some 39, .bin .lss (.t 38) (ci 8), some (36, true)⟩,
 oo 40 (.pick (.t 36) (.t 39) (.c (.bool false))),
 oo 4 (.mov (.t 40))])
 (.ret))
 (.seq (.ops false [
 oo 42 (.bin .eql (.t 11) (ci 3)),
 oo 41 (.mov (.t 42))])
 (.cond (.t 41)
 (.seq (.ops false [
 oo 43 (.mov (.t 5)),
 oo 44 (.bin .eql (.t 43) (ci 0)),
 oo 45 (.mov (.t 44)),
 ⟨some 46, .faddr 1 (.t 2), some (45, true)⟩,
 ⟨some 47, .ldI none (.t 46), some (45, true)⟩,
 ⟨some 48, .bin .geq (.t 47) (ci 0), some (45, true)⟩,
 oo 49 (.pick (.t 45) (.t 48) (.c (.bool false))),
 oo 50 (.mov (.t 49)),
 ⟨some 51, .faddr 1 (.t 2), some (50, true)⟩,
 ⟨some 52, .ldI none (.t 51), some (50, true)⟩,
 ⟨some 53, .mov (.t 1), some (50, true)⟩,
 ⟨some 54, .bin .lss (.t 52) (.t 53), some (50, true)⟩,
 oo 55 (.pick (.t 50) (.t 54) (.c (.bool false))),
 oo 4 (.mov (.t 55))])
 (.ret))
 (.seq (.ops false [
 oo 57 (.bin .eql (.t 11) (ci 5)),
 oo 56 (.mov (.t 57))])
 (.cond (.t 56)
 (.seq (.ops false [
 oo 58 (.mov (.t 5)),
 oo 59 (.bin .eql (.t 58) (ci 0)),
 oo 60 (.mov (.t 59)),
 ⟨some 61, .faddr 1 (.t 2), some (60, true)⟩,
 ⟨some 62, .ldI none (.t 61), some (60, true)⟩,
 ⟨some 63, .bin .geq (.t 62) (ci 1), some (60, true)⟩,
 oo 64 (.pick (.t 60) (.t 63) (.c (.bool false))),
 oo 65 (.mov (.t 64)),
 ⟨some 66, .faddr 1 (.t 2), some (65, true)⟩,
 ⟨some 67, .ldI none (.t 66), some (65, true)⟩,
 ⟨some 68, .bin .lss (.t 67) (ci 8), some (65, true)⟩,
 oo 69 (.pick (.t 65) (.t 68) (.c (.bool false))),
 oo 4 (.mov (.t 69))])
 (.ret))
 (.seq (.ops false [
 oo 71 (.bin .eql (.t 11) (ci 4)),
 oo 70 (.mov (.t 71))])
 (.cond (.t 70)
 (.seq (.ops false [
 oo 72 (.mov (.t 5)),
 oo 73 (.bin .eql (.t 72) (ci 1)),
 oo 74 (.mov (.t 73)),
 ⟨some 75, .faddr 1 (.t 2), some (74, true)⟩,
 ⟨some 76, .ldI none (.t 75), some (74, true)⟩,
 ⟨some 77, .bin .eql (.t 76) (ci 0), some (74, true)⟩,
 oo 78 (.pick (.t 74) (.t 77) (.c (.bool false))),
 oo 79 (.mov (.t 78)),
 ⟨some 80, .faddr 2 (.t 2), some (79, true)⟩,
 ⟨some 81, .ldI none (.t 80), some (79, true)⟩,
 ⟨some 82, .bin .eql (.t 81) (.c (.int .u16 0)), some (79, true)⟩,
 oo 83 (.pick (.t 79) (.t 82) (.c (.bool false))),
 oo 84 (.mov (.t 83)),
 ⟨some 85, .faddr 3 (.t 2), some (84, true)⟩,
 ⟨some 86, .ldI none (.t 85), some (84, true)⟩,
 ⟨some 87, .iaddr (some 4) (.t 86) (ci 0), some (84, true)⟩,
 ⟨some 88, .load (some 4) (.t 87), some (84, true)⟩,
 ⟨some 89, .call false 45 [(.t 88)], some (84, true)⟩,
 oo 90 (.pick (.t 84) (.t 89) (.c (.bool false))),
 oo 91 (.mov (.t 90)),
 ⟨some 92, .faddr 3 (.t 2), some (91, true)⟩,
 ⟨some 93, .ldI none (.t 92), some (91, true)⟩,
 ⟨some 94, .iaddr (some 4) (.t 93) (ci 0), some (91, true)⟩,
 ⟨some 95, .load (some 4) (.t 94), some (91, true)⟩,
 ⟨some 96, .mov (.t 1), some (91, true)⟩,
 ⟨some 97, .call false 79 [(.t 95), (.t 96)], some (91, true)⟩,
 oo 98 (.pick (.t 91) (.t 97) (.c (.bool false))),
 oo 4 (.mov (.t 98))])
 (.ret))
 (.seq (.seq (.ops false [
 oo 100 (.bin .eql (.t 11) (ci 6)),
 oo 99 (.mov (.t 100))])
 (.cond (.t 99)
 (.skip)
 (.ops false [
 oo 101 (.bin .eql (.t 11) (ci 7)),
 oo 99 (.mov (.t 101))])))
 (.cond (.t 99)
 (.seq (.seq (.ops false [
 oo 102 (.mov (.t 5)),
 oo 103 (.bin .lss (.t 102) (ci 2)),
 oo 104 (.mov (.t 103)),
 ⟨some 105, .faddr 1 (.t 2), some (104, false)⟩,
 ⟨some 106, .ldI none (.t 105), some (104, false)⟩,
 ⟨some 107, .bin .neq (.t 106) (ci 0), some (104, false)⟩,
 oo 108 (.pick (.t 104) (.c (.bool true)) (.t 107)),
 oo 109 (.mov (.t 108)),
 ⟨some 110, .faddr 2 (.t 2), some (109, false)⟩,
 ⟨some 111, .ldI none (.t 110), some (109, false)⟩,
 ⟨some 112, .bin .neq (.t 111) (.c (.int .u16 0)), some (109, false)⟩,
 oo 113 (.pick (.t 109) (.c (.bool true)) (.t 112))])
 (.cond (.t 113)
 (.seq (.ops false [
 oo 4 (.mov (.c (.bool false)))])
 (.ret))
 (.skip)))
 (.seq (.seq (.ops false [
 oo 6 (.mov (ci 0))])
 (.block 1 (.loop b79_0)))
 (.seq (.ops false [
 oo 4 (.mov (.c (.bool true)))])
 (.ret))))
 (.skip)))))))))))))))
 (.seq (.ops false [
 oo 4 (.mov (.c (.bool false)))])
 (.ret)))))
 [.t 4]

set_option maxRecDepth 100000 in
theorem ok79 : chkFn Try.prog 79 a79 = true := by kernel_rfl

def b80_0 : ACode :=
 (.seq (.seq (.ops false [
 oo 6 (.mov (.t 5)),
 oo 7 (.mov (.t 0)),
 oo 8 (.len (.t 7)),
 oo 9 (.bin .lss (.t 6) (.t 8))])
 (.cond (.t 9)
 (.skip)
 (.exit 0)))
 (.seq (.block 1 (.seq (.ops true [
 oo 12 (.mov (.t 0)),
 oo 13 (.mov (.t 5)),
 oo 14 (.iaddr (some 2) (.t 12) (.t 13)),
 oo 15 (.faddr 0 (.t 14)),
 oo 16 (.load none (.t 15)),
 oo 17 (.bin .lss (.t 16) (ci 0)),
 oo 18 (.mov (.t 17)),
 ⟨some 19, .mov (.t 0), some (18, false)⟩,
 ⟨some 20, .mov (.t 5), some (18, false)⟩,
 ⟨some 21, .iaddr (some 2) (.t 19) (.t 20), some (18, false)⟩,
 ⟨some 22, .faddr 0 (.t 21), some (18, false)⟩,
 ⟨some 23, .load none (.t 22), some (18, false)⟩,
 ⟨some 24, .mov (.t 1), some (18, false)⟩,
 ⟨some 25, .bin .geq (.t 23) (.t 24), some (18, false)⟩,
 oo 26 (.pick (.t 18) (.c (.bool true)) (.t 25)),
 oo 27 (.mov (.t 26)),
 ⟨some 28, .mov (.t 5), some (27, false)⟩,
 ⟨some 29, .bin .gtr (.t 28) (ci 0), some (27, false)⟩,
 ⟨some 30, .mov (.t 29), some (27, false)⟩,
 ⟨some 31, .mov (.t 0), some (30, true)⟩,
 ⟨some 32, .mov (.t 5), some (30, true)⟩,
 ⟨some 33, .bin .sub (.t 32) (ci 1), some (30, true)⟩,
 ⟨some 34, .iaddr (some 2) (.t 31) (.t 33), some (30, true)⟩,
 ⟨some 35, .faddr 0 (.t 34), some (30, true)⟩,
 ⟨some 36, .load none (.t 35), some (30, true)⟩,
 ⟨some 37, .mov (.t 0), some (30, true)⟩,
 ⟨some 38, .mov (.t 5), some (30, true)⟩,
 ⟨some 39, .iaddr (some 2) (.t 37) (.t 38), some (30, true)⟩,
 ⟨some 40, .faddr 0 (.t 39), some (30, true)⟩,
 ⟨some 41, .load none (.t 40), some (30, true)⟩,
 ⟨some 42, .bin .geq (.t 36) (.t 41), some (30, true)⟩,
 ⟨some 43, .pick (.t 30) (.t 42) (.c (.bool false)), some (27, false)⟩,
 oo 44 (.pick (.t 27) (.c (.bool true)) (.t 43))])
 (.cond (.t 44)
 (.seq (.ops false [
 oo 4 (.mov (.c (.bool false)))])
 (.ret))
 (.skip))))
 (.ops false [
 oo 10 (.mov (.t 5)),
 oo 11 (.bin .add (.t 10) (ci 1)),
 oo 5 (.mov (.t 11))])))

/-- pointsman/pointsmanref05.rising -/
def a80 : AFn := .mk 45
 (.seq (.ops false [
 oo 4 (.mov (.c (.bool false)))])
 (.seq (.seq (.ops false [
 oo 5 (.mov (ci 0))])
 (.block 0 (.loop b80_0)))
 (.seq (.ops false [
 oo 4 (.mov (.c (.bool true)))])
 (.ret))))
 [.t 4]

set_option maxRecDepth 100000 in
theorem ok80 : chkFn Try.prog 80 a80 = true := by kernel_rfl

def b51_0 : ACode :=
 (.seq (.seq (.ops false [
 oo 40 (.mov (.t 3)),
 oo 41 (.faddr 5 (.t 1)),
 oo 42 (.ldI none (.t 41)),
 oo 43 (.len (.t 42)),
 oo 44 (.bin .lss (.t 40) (.t 43))])
 (.cond (.t 44)
 (.skip)
 (.exit 0)))
 (.seq (.block 1 (.seq (.ops false [
 oo 47 (.faddr 5 (.t 1)),
 oo 48 (.ldI none (.t 47)),
 oo 49 (.mov (.t 3)),
 oo 50 (.iaddr (some 3) (.t 48) (.t 49)),
 oo 51 (.load (some 3) (.t 50)),
 oo 4 (.alloc [.vec (some 2) [], .vec (some 2) [], .vec (some 2) []]),
 ⟨none, .store (some 3) (.t 4) (.t 51), none⟩])
 (.seq (.ops false [
 oo 52 (.faddr 0 (.t 4)),
 oo 53 (.load none (.t 52)),
 oo 54 (.len (.t 53)),
 oo 55 (.bin .lss (.t 54) (ci 2)),
 oo 56 (.mov (.t 55)),
 ⟨some 57, .faddr 0 (.t 4), some (56, false)⟩,
 ⟨some 58, .load none (.t 57), some (56, false)⟩,
 ⟨some 59, .iaddr (some 2) (.t 58) (ci 0), some (56, false)⟩,
 ⟨some 60, .faddr 0 (.t 59), some (56, false)⟩,
 ⟨some 61, .load none (.t 60), some (56, false)⟩,
 ⟨some 62, .bin .neq (.t 61) (ci 0), some (56, false)⟩,
 oo 63 (.pick (.t 56) (.c (.bool true)) (.t 62)),
 oo 64 (.mov (.t 63)),
 ⟨some 65, .faddr 0 (.t 4), some (64, false)⟩,
 ⟨some 66, .load none (.t 65), some (64, false)⟩,
 ⟨some 67, .iaddr (some 2) (.t 66) (ci 1), some (64, false)⟩,
 ⟨some 68, .faddr 0 (.t 67), some (64, false)⟩,
 ⟨some 69, .load none (.t 68), some (64, false)⟩,
 ⟨some 70, .bin .neq (.t 69) (ci 1), some (64, false)⟩,
 oo 71 (.pick (.t 64) (.c (.bool true)) (.t 70)),
 oo 72 (.mov (.t 71)),
 ⟨some 73, .faddr 0 (.t 4), some (72, false)⟩,
 ⟨some 74, .load none (.t 73), some (72, false)⟩,
 ⟨some 75, .call false 80 [(.t 74), (ci 8)], some (72, false)⟩,
 ⟨some 76, .un .not (.t 75), some (72, false)⟩,
 oo 77 (.pick (.t 72) (.c (.bool true)) (.t 76)),
 oo 78 (.mov (.t 77)),
 ⟨some 79, .faddr 1 (.t 4), some (78, false)⟩,
 ⟨some 80, .load none (.t 79), some (78, false)⟩,
 ⟨some 81, .faddr 0 (.t 1), some (78, false)⟩,
 ⟨some 82, .ldI none (.t 81), some (78, false)⟩,
 ⟨some 83, .len (.t 82), some (78, false)⟩,
 ⟨some 84, .call false 80 [(.t 80), (.t 83)], some (78, false)⟩,
 ⟨some 85, .un .not (.t 84), some (78, false)⟩,
 oo 86 (.pick (.t 78) (.c (.bool true)) (.t 85)),
 oo 87 (.mov (.t 86)),
 ⟨some 88, .faddr 2 (.t 4), some (87, false)⟩,
 ⟨some 89, .load none (.t 88), some (87, false)⟩,
 ⟨some 90, .faddr 0 (.t 1), some (87, false)⟩,
 ⟨some 91, .ldI none (.t 90), some (87, false)⟩,
 ⟨some 92, .len (.t 91), some (87, false)⟩,
 ⟨some 93, .call false 80 [(.t 89), (.t 92)], some (87, false)⟩,
 ⟨some 94, .un .not (.t 93), some (87, false)⟩,
 oo 95 (.pick (.t 87) (.c (.bool true)) (.t 94)),
 oo 96 (.mov (.t 95)),
 ⟨some 97, .faddr 2 (.t 4), some (96, false)⟩,
 ⟨some 98, .load none (.t 97), some (96, false)⟩,
 ⟨some 99, .len (.t 98), some (96, false)⟩,
 ⟨some 100, .bin .eql (.t 99) (ci 0), some (96, false)⟩,
 oo 101 (.pick (.t 96) (.c (.bool true)) (.t 100))])
 (.cond (.t 101)
 (.seq (.ops false [
 oo 2 (.mov (ci 11))])
 (.ret))
 (.skip)))))
 (.ops false [
 oo 45 (.mov (.t 3)),
 oo 46 (.bin .add (.t 45) (ci 1)),
 oo 3 (.mov (.t 46))])))

/-- pointsman/pointsmanref05.Check -/
def a51 : AFn := .mk 102
 (.seq (.ops false [
 oo 1 (.box (some 6) (.t 0) true),
 oo 2 (.mov (ci 0))])
 (.seq (.seq (.ops false [
 oo 5 (.faddr 0 (.t 1)),
 oo 6 (.ldI none (.t 5)),
 oo 7 (.len (.t 6)),
 oo 8 (.bin .lss (.t 7) (ci 1)),
 oo 9 (.mov (.t 8)),
 ⟨some 10, .faddr 0 (.t 1), some (9, false)⟩,
 ⟨some 11, .ldI none (.t 10), some (9, false)⟩,
 ⟨some 12, .len (.t 11), some (9, false)⟩,
 ⟨some 13, .bin .gtr (.t 12) (ci 4), some (9, false)⟩,
 oo 14 (.pick (.t 9) (.c (.bool true)) (.t 13)),
 oo 15 (.mov (.t 14)),
 ⟨some 16, .faddr 1 (.t 1), some (15, false)⟩,
 ⟨some 17, .ldI (some 4) (.t 16), some (15, false)⟩,
 ⟨some 18, .call false 42 [(.t 17)], some (15, false)⟩,
 ⟨some 19, .bin .gtr (.t 18) (ci 300), some (15, false)⟩,
 oo 20 (.pick (.t 15) (.c (.bool true)) (.t 19)),
 oo 21 (.mov (.t 20)),
 ⟨some 22, .faddr 1 (.t 1), some (21, false)⟩,
 ⟨some 23, .ldI (some 4) (.t 22), some (21, false)⟩,
 ⟨some 24, .call false 43 [(.t 23)], some (21, false)⟩,
 ⟨some 25, .bin .gtr (.t 24) (ci 20), some (21, false)⟩,
 oo 26 (.pick (.t 21) (.c (.bool true)) (.t 25)),
 oo 27 (.mov (.t 26)),
 ⟨some 28, .faddr 5 (.t 1), some (27, false)⟩,
 ⟨some 29, .ldI none (.t 28), some (27, false)⟩,
 ⟨some 30, .len (.t 29), some (27, false)⟩,
 ⟨some 31, .bin .gtr (.t 30) (ci 24), some (27, false)⟩,
 oo 32 (.pick (.t 27) (.c (.bool true)) (.t 31))])
 (.cond (.t 32)
 (.seq (.ops false [
 oo 2 (.mov (ci 2))])
 (.ret))
 (.skip)))
 (.seq (.seq (.ops false [
 oo 33 (.faddr 1 (.t 1)),
 oo 34 (.ldI (some 4) (.t 33)),
 oo 35 (.faddr 0 (.t 1)),
 oo 36 (.ldI none (.t 35)),
 oo 37 (.len (.t 36)),
 oo 38 (.call false 79 [(.t 34), (.t 37)]),
 oo 39 (.un .not (.t 38))])
 (.cond (.t 39)
 (.seq (.ops false [
 oo 2 (.mov (ci 11))])
 (.ret))
 (.skip)))
 (.seq (.seq (.ops false [
 oo 3 (.mov (ci 0))])
 (.block 0 (.loop b51_0)))
 (.seq (.ops false [
 oo 2 (.mov (ci 0))])
 (.ret))))))
 [.t 2]

set_option maxRecDepth 100000 in
theorem ok51 : chkFn Try.prog 51 a51 = true := by kernel_rfl

/-- pointsman/pointsmanref07.Right -/
def a40 : AFn := .mk 8
 (.seq (.ops false [
 oo 1 (.box (some 4) (.t 0) true),
 oo 2 (.mov (.c (.bool false)))])
 (.seq (.ops true [
 oo 3 (.mkslF none (.int .u16 0) (ci 4) (ci 4)),
 oo 4 (.ldI (some 4) (.t 1)),
 oo 5 (.build [.vec none [], .int .i64 0, .int .i64 0, .int .u16 0, .vec (some 4) [], .vec (some 3) []] [(0, 1, (.t 3)), (1, 4, (.t 4))]),
 oo 6 (.call false 51 [(.t 5)]),
 oo 7 (.bin .eql (.t 6) (ci 0)),
 oo 2 (.mov (.t 7))])
 (.ret)))
 [.t 2]

set_option maxRecDepth 100000 in
theorem ok40 : chkFn Try.prog 40 a40 = true := by kernel_rfl

/-- pointsman/pointsmanref28.cut -/
def a109 : AFn := .mk 17
 (.seq (.ops false [
 oo 4 (.mov (.c (.vec (some 4) [])))])
 (.seq (.ops false [
 oo 5 (.mov (.c (.nils)))])
 (.seq (.ops false [
 oo 6 (.mov (.t 5)),
 oo 7 (.mov (.t 0)),
 oo 8 (.mov (.t 1)),
 oo 9 (.slc (some 4) (.t 7) none (some (.t 8))),
 oo 10 (.append (some 4) (.t 6) (.t 9) false),
 oo 5 (.mov (.t 10))])
 (.seq (.ops false [
 oo 11 (.mov (.t 5)),
 oo 12 (.mov (.t 0)),
 oo 13 (.mov (.t 1)),
 oo 14 (.bin .add (.t 13) (ci 1)),
 oo 15 (.slc (some 4) (.t 12) (some (.t 14)) none),
 oo 16 (.append (some 4) (.t 11) (.t 15) false),
 oo 4 (.mov (.t 16))])
 (.ret)))))
 [.t 4]

set_option maxRecDepth 100000 in
theorem ok109 : chkFn Try.prog 109 a109 = true := by kernel_rfl

/-- pointsman/pointsmanref28.pair -/
def a110 : AFn := .mk 78
 (.seq (.ops false [
 oo 2 (.box (some 4) (.t 0) true),
 oo 3 (.box (some 4) (.t 1) true),
 oo 4 (.mov (ci 0))])
 (.seq (.ops false [
 oo 6 (.faddr 0 (.t 2)),
 oo 7 (.ldI none (.t 6)),
 oo 8 (.bin .eql (.t 7) (ci 2)),
 oo 9 (.mov (.t 8)),
 ⟨some 10, .faddr 0 (.t 2), some (9, false)⟩,
 ⟨some 11, .ldI none (.t 10), some (9, false)⟩,
 ⟨some 12, .bin .eql (.t 11) (ci 3), some (9, false)⟩,
 oo 13 (.pick (.t 9) (.c (.bool true)) (.t 12)),
 oo 14 (.mov (.t 13)),
 ⟨some 15, .faddr 0 (.t 2), some (14, true)⟩,
 ⟨some 16, .ldI none (.t 15), some (14, true)⟩,
 ⟨some 17, .faddr 0 (.t 3), some (14, true)⟩,
 ⟨some 18, .ldI none (.t 17), some (14, true)⟩,
 ⟨some 19, .bin .eql (.t 16) (.t 18), some (14, true)⟩,
 oo 20 (.pick (.t 14) (.t 19) (.c (.bool false))),
 oo 21 (.mov (.t 20)),
 ⟨some 22, .faddr 1 (.t 2), some (21, true)⟩,
 ⟨some 23, .ldI none (.t 22), some (21, true)⟩,
 ⟨some 24, .faddr 1 (.t 3), some (21, true)⟩,
 ⟨some 25, .ldI none (.t 24), some (21, true)⟩,
 ⟨some 26, .bin .eql (.t 23) (.t 25), some (21, true)⟩,
 oo 27 (.pick (.t 21) (.t 26) (.c (.bool false))),
 oo 5 (.mov (.t 27))])
 (.seq (.seq (.ops false [
 oo 28 (.mov (.t 5)),
 oo 29 (.mov (.t 28)),
 ⟨some 30, .faddr 2 (.t 2), some (29, true)⟩,
 ⟨some 31, .ldI none (.t 30), some (29, true)⟩,
 ⟨some 32, .faddr 2 (.t 3), some (29, true)⟩,
 ⟨some 33, .ldI none (.t 32), some (29, true)⟩,
 ⟨some 34, .bin .eql (.t 31) (.t 33), some (29, true)⟩,
 oo 35 (.pick (.t 29) (.t 34) (.c (.bool false)))])
 (.cond (.t 35)
 (.seq (.ops false [
 oo 4 (.mov (ci 2))])
 (.ret))
 (.skip)))
 (.seq (.seq (.ops false [
 oo 36 (.mov (.t 5))])
 (.cond (.t 36)
 (.seq (.ops false [
 oo 4 (.mov (ci 3))])
 (.ret))
 (.skip)))
 (.seq (.seq (.ops false [
 oo 37 (.faddr 1 (.t 2)),
 oo 38 (.ldI none (.t 37)),
 oo 39 (.faddr 1 (.t 3)),
 oo 40 (.ldI none (.t 39)),
 oo 41 (.bin .neq (.t 38) (.t 40))])
 (.cond (.t 41)
 (.seq (.ops false [
 oo 4 (.mov (ci 0))])
 (.ret))
 (.skip)))
 (.seq (.seq (.ops false [
 oo 42 (.faddr 0 (.t 2)),
 oo 43 (.ldI none (.t 42)),
 oo 44 (.bin .eql (.t 43) (ci 5)),
 oo 45 (.mov (.t 44)),
 ⟨some 46, .faddr 0 (.t 3), some (45, true)⟩,
 ⟨some 47, .ldI none (.t 46), some (45, true)⟩,
 ⟨some 48, .bin .eql (.t 47) (ci 5), some (45, true)⟩,
 oo 49 (.pick (.t 45) (.t 48) (.c (.bool false)))])
 (.cond (.t 49)
 (.seq (.ops false [
 oo 4 (.mov (ci 1))])
 (.ret))
 (.skip)))
 (.seq (.seq (.ops false [
 oo 50 (.faddr 0 (.t 2)),
 oo 51 (.ldI none (.t 50)),
 oo 52 (.bin .eql (.t 51) (ci 5)),
 oo 53 (.mov (.t 52)),
 ⟨some 54, .faddr 0 (.t 3), some (53, true)⟩,
 ⟨some 55, .ldI none (.t 54), some (53, true)⟩,
 ⟨some 56, .bin .eql (.t 55) (ci 2), some (53, true)⟩,
 oo 57 (.pick (.t 53) (.t 56) (.c (.bool false)))])
 (.cond (.t 57)
 (.seq (.seq (.ops false [
 oo 58 (.faddr 2 (.t 2)),
 oo 59 (.ldI none (.t 58)),
 oo 60 (.faddr 2 (.t 3)),
 oo 61 (.ldI none (.t 60)),
 oo 62 (.bin .eql (.t 59) (.t 61))])
 (.cond (.t 62)
 (.seq (.ops false [
 oo 4 (.mov (ci 2))])
 (.ret))
 (.skip)))
 (.seq (.ops false [
 oo 4 (.mov (ci 3))])
 (.ret)))
 (.skip)))
 (.seq (.seq (.ops false [
 oo 63 (.faddr 0 (.t 2)),
 oo 64 (.ldI none (.t 63)),
 oo 65 (.bin .eql (.t 64) (ci 2)),
 oo 66 (.mov (.t 65)),
 ⟨some 67, .faddr 0 (.t 3), some (66, true)⟩,
 ⟨some 68, .ldI none (.t 67), some (66, true)⟩,
 ⟨some 69, .bin .eql (.t 68) (ci 5), some (66, true)⟩,
 oo 70 (.pick (.t 66) (.t 69) (.c (.bool false))),
 oo 71 (.mov (.t 70)),
 ⟨some 72, .faddr 2 (.t 2), some (71, true)⟩,
 ⟨some 73, .ldI none (.t 72), some (71, true)⟩,
 ⟨some 74, .faddr 2 (.t 3), some (71, true)⟩,
 ⟨some 75, .ldI none (.t 74), some (71, true)⟩,
 ⟨some 76, .bin .eql (.t 73) (.t 75), some (71, true)⟩,
 oo 77 (.pick (.t 71) (.t 76) (.c (.bool false)))])
 (.cond (.t 77)
 (.seq (.ops false [
 oo 4 (.mov (ci 2))])
 (.ret))
 (.skip)))
 (.seq (.ops false [
 oo 4 (.mov (ci 0))])
 (.ret))))))))))
 [.t 4]

set_option maxRecDepth 100000 in
theorem ok110 : chkFn Try.prog 110 a110 = true := by kernel_rfl

def b111_0 : ACode :=
 (.seq (.seq (.ops false [
 oo 4 (.mov (.t 3)),
 oo 5 (.mov (.t 0)),
 oo 6 (.len (.t 5)),
 oo 7 (.bin .lss (.t 4) (.t 6))])
 (.cond (.t 7)
 (.skip)
 (.exit 0)))
 (.seq (.block 1 (.seq (.ops false [
 oo 10 (.mov (.t 0)),
 oo 11 (.mov (.t 3)),
 oo 12 (.iaddr (some 4) (.t 10) (.t 11)),
 oo 13 (.load (some 4) (.t 12)),
 oo 14 (.call false 45 [(.t 13)]),
 oo 15 (.un .not (.t 14))])
 (.cond (.t 15)
 (.seq (.ops false [
 oo 2 (.mov (.c (.bool false)))])
 (.ret))
 (.skip))))
 (.ops false [
 oo 8 (.mov (.t 3)),
 oo 9 (.bin .add (.t 8) (ci 1)),
 oo 3 (.mov (.t 9))])))

/-- pointsman/pointsmanref28.predicates -/
def a111 : AFn := .mk 16
 (.seq (.ops false [
 oo 2 (.mov (.c (.bool false)))])
 (.seq (.seq (.ops false [
 oo 3 (.mov (ci 0))])
 (.block 0 (.loop b111_0)))
 (.seq (.ops false [
 oo 2 (.mov (.c (.bool true)))])
 (.ret))))
 [.t 2]

set_option maxRecDepth 100000 in
theorem ok111 : chkFn Try.prog 111 a111 = true := by kernel_rfl

def b96_0 : ACode :=
 (.seq (.seq (.ops false [
 oo 25 (.mov (.t 5)),
 oo 26 (.mov (.t 4)),
 oo 27 (.len (.t 26)),
 oo 28 (.bin .lss (.t 25) (.t 27))])
 (.cond (.t 28)
 (.skip)
 (.exit 0)))
 (.seq (.block 1 (.seq (.ops true [
 oo 31 (.mov (.t 4)),
 oo 32 (.mov (.t 5)),
 oo 33 (.iaddr (some 4) (.t 31) (.t 32)),
 oo 34 (.faddr 0 (.t 33)),
 oo 35 (.load none (.t 34)),
 oo 36 (.faddr 0 (.t 1)),
 oo 37 (.load none (.t 36)),
 oo 38 (.bin .eql (.t 35) (.t 37))])
 (.cond (.t 38)
 (.seq (.ops false [
 oo 6 (.mov (.c (.nils)))])
 (.seq (.ops false [
 oo 39 (.mov (.t 6)),
 oo 40 (.mov (.t 4)),
 oo 41 (.mov (.t 5)),
 oo 42 (.slc (some 4) (.t 40) none (some (.t 41))),
 oo 43 (.append (some 4) (.t 39) (.t 42) false),
 oo 6 (.mov (.t 43))])
 (.seq (.ops false [
 oo 44 (.mov (.t 6)),
 oo 45 (.mov (.t 4)),
 oo 46 (.mov (.t 5)),
 oo 47 (.iaddr (some 4) (.t 45) (.t 46)),
 oo 48 (.faddr 3 (.t 47)),
 oo 49 (.load none (.t 48)),
 oo 50 (.append (some 4) (.t 44) (.t 49) false),
 oo 6 (.mov (.t 50))])
 (.seq (.ops false [
 oo 51 (.mov (.t 6)),
 oo 52 (.mov (.t 4)),
 oo 53 (.mov (.t 5)),
 oo 54 (.bin .add (.t 53) (ci 1)),
 oo 55 (.slc (some 4) (.t 52) (some (.t 54)) none),
 oo 56 (.append (some 4) (.t 51) (.t 55) false),
 oo 57 (.faddr 3 (.t 1)),
 ⟨none, .store none (.t 57) (.t 56), none⟩])
 (.seq (.ops false [
 oo 58 (.load (some 4) (.t 1)),
 ⟨none, .store (some 4) (.t 2) (.t 58), none⟩,
 oo 3 (.mov (.c (.bool true)))])
 (.ret))))))
 (.skip))))
 (.ops false [
 oo 29 (.mov (.t 5)),
 oo 30 (.bin .add (.t 29) (ci 1)),
 oo 5 (.mov (.t 30))])))

def b96_1 : ACode :=
 (.seq (.seq (.ops false [
 oo 59 (.mov (.t 7)),
 oo 60 (.mov (.t 4)),
 oo 61 (.len (.t 60)),
 oo 62 (.bin .lss (.t 59) (.t 61))])
 (.cond (.t 62)
 (.skip)
 (.exit 2)))
 (.seq (.block 3 (.seq (.ops false [
 oo 65 (.faddr 0 (.t 1)),
 oo 66 (.load none (.t 65)),
 oo 67 (.bin .eql (.t 66) (ci 7)),
 oo 68 (.mov (.t 67)),
 ⟨some 69, .mov (.t 4), some (68, true)⟩,
 ⟨some 70, .mov (.t 7), some (68, true)⟩,
 ⟨some 71, .iaddr (some 4) (.t 69) (.t 70), some (68, true)⟩,
 ⟨some 72, .faddr 0 (.t 71), some (68, true)⟩,
 ⟨some 73, .load none (.t 72), some (68, true)⟩,
 ⟨some 74, .bin .eql (.t 73) (ci 0), some (68, true)⟩,
 oo 75 (.pick (.t 68) (.t 74) (.c (.bool false))),
 oo 76 (.mov (.t 75)),
 ⟨some 77, .faddr 0 (.t 1), some (76, false)⟩,
 ⟨some 78, .load none (.t 77), some (76, false)⟩,
 ⟨some 79, .bin .eql (.t 78) (ci 6), some (76, false)⟩,
 ⟨some 80, .mov (.t 79), some (76, false)⟩,
 ⟨some 81, .mov (.t 4), some (80, true)⟩,
 ⟨some 82, .mov (.t 7), some (80, true)⟩,
 ⟨some 83, .iaddr (some 4) (.t 81) (.t 82), some (80, true)⟩,
 ⟨some 84, .faddr 0 (.t 83), some (80, true)⟩,
 ⟨some 85, .load none (.t 84), some (80, true)⟩,
 ⟨some 86, .bin .eql (.t 85) (ci 1), some (80, true)⟩,
 ⟨some 87, .pick (.t 80) (.t 86) (.c (.bool false)), some (76, false)⟩,
 oo 88 (.pick (.t 76) (.c (.bool true)) (.t 87))])
 (.cond (.t 88)
 (.seq (.ops false [
 oo 89 (.mov (.t 4)),
 oo 90 (.mov (.t 7)),
 oo 91 (.call false 109 [(.t 89), (.t 90)]),
 oo 92 (.faddr 3 (.t 1)),
 ⟨none, .store none (.t 92) (.t 91), none⟩])
 (.seq (.ops false [
 oo 93 (.load (some 4) (.t 1)),
 ⟨none, .store (some 4) (.t 2) (.t 93), none⟩,
 oo 3 (.mov (.c (.bool true)))])
 (.ret)))
 (.skip))))
 (.ops false [
 oo 63 (.mov (.t 7)),
 oo 64 (.bin .add (.t 63) (ci 1)),
 oo 7 (.mov (.t 64))])))

def b96_2 : ACode :=
 (.seq (.seq (.ops false [
 oo 97 (.mov (.t 8)),
 oo 98 (.mov (.t 4)),
 oo 99 (.len (.t 98)),
 oo 100 (.bin .lss (.t 97) (.t 99))])
 (.cond (.t 100)
 (.skip)
 (.exit 4)))
 (.seq (.block 5 (.seq (.ops false [
 oo 103 (.mov (.t 4)),
 oo 104 (.mov (.t 8)),
 oo 105 (.iaddr (some 4) (.t 103) (.t 104)),
 oo 106 (.faddr 0 (.t 105)),
 oo 107 (.load none (.t 106)),
 oo 108 (.bin .eql (.t 107) (ci 0))])
 (.cond (.t 108)
 (.seq (.ops false [
 oo 109 (.build [.int .i64 0, .int .i64 0, .int .u16 0, .vec (some 4) []] []),
 ⟨none, .store (some 4) (.t 2) (.t 109), none⟩,
 oo 3 (.mov (.c (.bool true)))])
 (.ret))
 (.skip))))
 (.ops false [
 oo 101 (.mov (.t 8)),
 oo 102 (.bin .add (.t 101) (ci 1)),
 oo 8 (.mov (.t 102))])))

def b96_4 : ACode :=
 (.seq (.seq (.ops false [
 oo 119 (.mov (.t 10)),
 oo 120 (.mov (.t 9)),
 oo 121 (.bin .lss (.t 119) (.t 120))])
 (.cond (.t 121)
 (.skip)
 (.exit 8)))
 (.seq (.block 9 (.seq (.ops true [
 oo 124 (.mov (.t 4)),
 oo 125 (.mov (.t 9)),
 oo 126 (.iaddr (some 4) (.t 124) (.t 125)),
 oo 127 (.load (some 4) (.t 126)),
 oo 128 (.mov (.t 4)),
 oo 129 (.mov (.t 10)),
 oo 130 (.iaddr (some 4) (.t 128) (.t 129)),
 oo 131 (.load (some 4) (.t 130)),
 oo 132 (.call false 41 [(.t 127), (.t 131)])])
 (.cond (.t 132)
 (.seq (.ops false [
 oo 133 (.mov (.t 4)),
 oo 134 (.mov (.t 9)),
 oo 135 (.call false 109 [(.t 133), (.t 134)]),
 oo 136 (.faddr 3 (.t 1)),
 ⟨none, .store none (.t 136) (.t 135), none⟩])
 (.seq (.ops false [
 oo 137 (.load (some 4) (.t 1)),
 ⟨none, .store (some 4) (.t 2) (.t 137), none⟩,
 oo 3 (.mov (.c (.bool true)))])
 (.ret)))
 (.skip))))
 (.ops false [
 oo 122 (.mov (.t 10)),
 oo 123 (.bin .add (.t 122) (ci 1)),
 oo 10 (.mov (.t 123))])))

def b96_3 : ACode :=
 (.seq (.seq (.ops false [
 oo 113 (.mov (.t 9)),
 oo 114 (.mov (.t 4)),
 oo 115 (.len (.t 114)),
 oo 116 (.bin .lss (.t 113) (.t 115))])
 (.cond (.t 116)
 (.skip)
 (.exit 6)))
 (.seq (.block 7 (.seq (.ops false [
 oo 10 (.mov (ci 0))])
 (.block 8 (.loop b96_4))))
 (.ops false [
 oo 117 (.mov (.t 9)),
 oo 118 (.bin .add (.t 117) (ci 1)),
 oo 9 (.mov (.t 118))])))

def b96_6 : ACode :=
 (.seq (.seq (.ops false [
 oo 145 (.mov (.t 12)),
 oo 146 (.bin .add (.t 145) (ci 1)),
 oo 147 (.mov (.t 4)),
 oo 148 (.len (.t 147)),
 oo 149 (.bin .lss (.t 146) (.t 148))])
 (.cond (.t 149)
 (.skip)
 (.exit 12)))
 (.seq (.block 13 (.seq (.ops true [
 oo 152 (.mov (.t 4)),
 oo 153 (.mov (.t 12)),
 oo 154 (.iaddr (some 4) (.t 152) (.t 153)),
 oo 155 (.faddr 0 (.t 154)),
 oo 156 (.load none (.t 155)),
 oo 157 (.bin .eql (.t 156) (ci 2)),
 oo 158 (.mov (.t 157)),
 ⟨some 159, .mov (.t 4), some (158, false)⟩,
 ⟨some 160, .mov (.t 12), some (158, false)⟩,
 ⟨some 161, .iaddr (some 4) (.t 159) (.t 160), some (158, false)⟩,
 ⟨some 162, .faddr 0 (.t 161), some (158, false)⟩,
 ⟨some 163, .load none (.t 162), some (158, false)⟩,
 ⟨some 164, .bin .eql (.t 163) (ci 3), some (158, false)⟩,
 oo 165 (.pick (.t 158) (.c (.bool true)) (.t 164)),
 oo 166 (.mov (.t 165)),
 ⟨some 167, .mov (.t 4), some (166, true)⟩,
 ⟨some 168, .mov (.t 12), some (166, true)⟩,
 ⟨some 169, .iaddr (some 4) (.t 167) (.t 168), some (166, true)⟩,
 ⟨some 170, .faddr 0 (.t 169), some (166, true)⟩,
 ⟨some 171, .load none (.t 170), some (166, true)⟩,
 ⟨some 172, .mov (.t 4), some (166, true)⟩,
 ⟨some 173, .mov (.t 12), some (166, true)⟩,
 ⟨some 174, .bin .add (.t 173) (ci 1), some (166, true)⟩,
 ⟨some 175, .iaddr (some 4) (.t 172) (.t 174), some (166, true)⟩,
 ⟨some 176, .faddr 0 (.t 175), some (166, true)⟩,
 ⟨some 177, .load none (.t 176), some (166, true)⟩,
 ⟨some 178, .bin .eql (.t 171) (.t 177), some (166, true)⟩,
 oo 179 (.pick (.t 166) (.t 178) (.c (.bool false))),
 oo 13 (.mov (.t 179))])
 (.seq (.seq (.ops false [
 oo 180 (.mov (.t 13)),
 oo 181 (.mov (.t 11)),
 oo 182 (.bin .eql (.t 181) (ci 5)),
 oo 183 (.eqB true (.t 180) (.t 182))])
 (.cond (.t 183)
 (.exit 13)
 (.skip)))
 (.seq (.ops true [
 oo 184 (.mov (.t 4)),
 oo 185 (.mov (.t 12)),
 oo 186 (.iaddr (some 4) (.t 184) (.t 185)),
 oo 187 (.load (some 4) (.t 186)),
 oo 188 (.mov (.t 4)),
 oo 189 (.mov (.t 12)),
 oo 190 (.bin .add (.t 189) (ci 1)),
 oo 191 (.iaddr (some 4) (.t 188) (.t 190)),
 oo 192 (.load (some 4) (.t 191)),
 oo 193 (.call false 110 [(.t 187), (.t 192)])])
 (.block 14 (.seq (.ops false [
 oo 195 (.bin .eql (.t 193) (ci 1)),
 oo 194 (.mov (.t 195))])
 (.cond (.t 194)
 (.seq (.ops false [
 oo 196 (.mov (.t 4)),
 oo 197 (.mov (.t 12)),
 oo 198 (.call false 109 [(.t 196), (.t 197)]),
 oo 199 (.faddr 3 (.t 1)),
 ⟨none, .store none (.t 199) (.t 198), none⟩])
 (.seq (.ops false [
 oo 200 (.load (some 4) (.t 1)),
 ⟨none, .store (some 4) (.t 2) (.t 200), none⟩,
 oo 3 (.mov (.c (.bool true)))])
 (.ret)))
 (.seq (.ops false [
 oo 202 (.bin .eql (.t 193) (ci 2)),
 oo 201 (.mov (.t 202))])
 (.cond (.t 201)
 (.seq (.ops false [
 oo 203 (.mov (.t 4)),
 oo 204 (.mov (.t 12)),
 oo 205 (.bin .add (.t 204) (ci 1)),
 oo 206 (.call false 109 [(.t 203), (.t 205)]),
 oo 207 (.faddr 3 (.t 1)),
 ⟨none, .store none (.t 207) (.t 206), none⟩])
 (.seq (.ops false [
 oo 208 (.load (some 4) (.t 1)),
 ⟨none, .store (some 4) (.t 2) (.t 208), none⟩,
 oo 3 (.mov (.c (.bool true)))])
 (.ret)))
 (.seq (.ops false [
 oo 210 (.bin .eql (.t 193) (ci 3)),
 oo 209 (.mov (.t 210))])
 (.cond (.t 209)
 (.seq (.ops false [
 oo 211 (.build [.int .i64 0, .int .i64 0, .int .u16 0, .vec (some 4) []] []),
 ⟨none, .store (some 4) (.t 2) (.t 211), none⟩,
 oo 3 (.mov (.c (.bool true)))])
 (.ret))
 (.skip))))))))))))
 (.ops false [
 oo 150 (.mov (.t 12)),
 oo 151 (.bin .add (.t 150) (ci 1)),
 oo 12 (.mov (.t 151))])))

def b96_5 : ACode :=
 (.seq (.seq (.ops false [
 oo 141 (.mov (.t 11)),
 oo 142 (.bin .leq (.t 141) (ci 6))])
 (.cond (.t 142)
 (.skip)
 (.exit 10)))
 (.seq (.block 11 (.seq (.ops false [
 oo 12 (.mov (ci 0))])
 (.block 12 (.loop b96_6))))
 (.ops false [
 oo 143 (.mov (.t 11)),
 oo 144 (.bin .add (.t 143) (ci 1)),
 oo 11 (.mov (.t 144))])))

def b96_7 : ACode :=
 (.seq (.seq (.ops false [
 oo 219 (.mov (.t 14)),
 oo 220 (.mov (.t 4)),
 oo 221 (.len (.t 220)),
 oo 222 (.bin .lss (.t 219) (.t 221))])
 (.cond (.t 222)
 (.skip)
 (.exit 15)))
 (.seq (.block 16 (.seq (.ops false [
 oo 225 (.mov (.t 4)),
 oo 226 (.mov (.t 14)),
 oo 227 (.iaddr (some 4) (.t 225) (.t 226)),
 oo 228 (.faddr 0 (.t 227)),
 oo 229 (.load none (.t 228)),
 oo 230 (.bin .eql (.t 229) (ci 1))])
 (.cond (.t 230)
 (.seq (.ops false [
 oo 231 (.build [.int .i64 0, .int .i64 0, .int .u16 0, .vec (some 4) []] [(0, 1, (ci 1))]),
 ⟨none, .store (some 4) (.t 2) (.t 231), none⟩,
 oo 3 (.mov (.c (.bool true)))])
 (.ret))
 (.skip))))
 (.ops false [
 oo 223 (.mov (.t 14)),
 oo 224 (.bin .add (.t 223) (ci 1)),
 oo 14 (.mov (.t 224))])))

/-- pointsman/pointsmanref28.once -/
def a96 : AFn := .mk 298
 (.seq (.ops false [
 oo 1 (.box (some 4) (.t 0) false),
 oo 2 (.alloc [.int .i64 0, .int .i64 0, .int .u16 0, .vec (some 4) []]),
 oo 3 (.mov (.c (.bool false)))])
 (.seq (.ops false [
 oo 15 (.faddr 3 (.t 1)),
 oo 16 (.load none (.t 15)),
 oo 4 (.mov (.t 16))])
 (.seq (.seq (.ops false [
 oo 17 (.faddr 0 (.t 1)),
 oo 18 (.load none (.t 17)),
 oo 19 (.bin .eql (.t 18) (ci 6)),
 oo 20 (.mov (.t 19)),
 ⟨some 21, .faddr 0 (.t 1), some (20, false)⟩,
 ⟨some 22, .load none (.t 21), some (20, false)⟩,
 ⟨some 23, .bin .eql (.t 22) (ci 7), some (20, false)⟩,
 oo 24 (.pick (.t 20) (.c (.bool true)) (.t 23))])
 (.cond (.t 24)
 (.seq (.seq (.ops false [
 oo 5 (.mov (ci 0))])
 (.block 0 (.loop b96_0)))
 (.seq (.ops false [
 oo 7 (.mov (ci 0))])
 (.block 2 (.loop b96_1))))
 (.skip)))
 (.seq (.seq (.ops false [
 oo 94 (.faddr 0 (.t 1)),
 oo 95 (.load none (.t 94)),
 oo 96 (.bin .eql (.t 95) (ci 6))])
 (.cond (.t 96)
 (.seq (.ops false [
 oo 8 (.mov (ci 0))])
 (.block 4 (.loop b96_2)))
 (.skip)))
 (.seq (.seq (.ops false [
 oo 110 (.faddr 0 (.t 1)),
 oo 111 (.load none (.t 110)),
 oo 112 (.bin .eql (.t 111) (ci 7))])
 (.cond (.t 112)
 (.seq (.ops false [
 oo 9 (.mov (ci 0))])
 (.block 6 (.loop b96_3)))
 (.skip)))
 (.seq (.seq (.ops false [
 oo 138 (.faddr 0 (.t 1)),
 oo 139 (.load none (.t 138)),
 oo 140 (.bin .eql (.t 139) (ci 6))])
 (.cond (.t 140)
 (.seq (.ops false [
 oo 11 (.mov (ci 5))])
 (.block 10 (.loop b96_5)))
 (.skip)))
 (.seq (.seq (.ops false [
 oo 212 (.faddr 0 (.t 1)),
 oo 213 (.load none (.t 212)),
 oo 214 (.bin .eql (.t 213) (ci 7)),
 oo 215 (.mov (.t 214)),
 ⟨some 216, .mov (.t 4), some (215, true)⟩,
 ⟨some 217, .call false 111 [(.t 216)], some (215, true)⟩,
 oo 218 (.pick (.t 215) (.t 217) (.c (.bool false)))])
 (.cond (.t 218)
 (.seq (.ops false [
 oo 14 (.mov (ci 0))])
 (.block 15 (.loop b96_7)))
 (.skip)))
 (.seq (.seq (.ops false [
 oo 232 (.faddr 0 (.t 1)),
 oo 233 (.load none (.t 232)),
 oo 234 (.bin .eql (.t 233) (ci 6)),
 oo 235 (.mov (.t 234)),
 ⟨some 236, .faddr 0 (.t 1), some (235, false)⟩,
 ⟨some 237, .load none (.t 236), some (235, false)⟩,
 ⟨some 238, .bin .eql (.t 237) (ci 7), some (235, false)⟩,
 oo 239 (.pick (.t 235) (.c (.bool true)) (.t 238)),
 oo 240 (.mov (.t 239)),
 ⟨some 241, .mov (.t 4), some (240, true)⟩,
 ⟨some 242, .len (.t 241), some (240, true)⟩,
 ⟨some 243, .bin .eql (.t 242) (ci 1), some (240, true)⟩,
 oo 244 (.pick (.t 240) (.t 243) (.c (.bool false)))])
 (.cond (.t 244)
 (.seq (.ops false [
 oo 245 (.mov (.t 4)),
 oo 246 (.iaddr (some 4) (.t 245) (ci 0)),
 oo 247 (.load (some 4) (.t 246)),
 ⟨none, .store (some 4) (.t 2) (.t 247), none⟩,
 oo 3 (.mov (.c (.bool true)))])
 (.ret))
 (.skip)))
 (.seq (.seq (.ops false [
 oo 248 (.faddr 0 (.t 1)),
 oo 249 (.load none (.t 248)),
 oo 250 (.bin .eql (.t 249) (ci 6)),
 oo 251 (.mov (.t 250)),
 ⟨some 252, .faddr 0 (.t 1), some (251, false)⟩,
 ⟨some 253, .load none (.t 252), some (251, false)⟩,
 ⟨some 254, .bin .eql (.t 253) (ci 7), some (251, false)⟩,
 oo 255 (.pick (.t 251) (.c (.bool true)) (.t 254)),
 oo 256 (.mov (.t 255)),
 ⟨some 257, .mov (.t 4), some (256, true)⟩,
 ⟨some 258, .len (.t 257), some (256, true)⟩,
 ⟨some 259, .bin .eql (.t 258) (ci 0), some (256, true)⟩,
 oo 260 (.pick (.t 256) (.t 259) (.c (.bool false)))])
 (.cond (.t 260)
 (.seq (.ops false [
 oo 261 (.faddr 0 (.t 1)),
 oo 262 (.load none (.t 261)),
 oo 263 (.bin .sub (ci 7) (.t 262)),
 oo 264 (.build [.int .i64 0, .int .i64 0, .int .u16 0, .vec (some 4) []] [(0, 1, (.t 263))]),
 ⟨none, .store (some 4) (.t 2) (.t 264), none⟩,
 oo 3 (.mov (.c (.bool true)))])
 (.ret))
 (.skip)))
 (.seq (.seq (.ops false [
 oo 265 (.faddr 0 (.t 1)),
 oo 266 (.load none (.t 265)),
 oo 267 (.bin .eql (.t 266) (ci 4)),
 oo 268 (.mov (.t 267)),
 ⟨some 269, .mov (.t 4), some (268, true)⟩,
 ⟨some 270, .iaddr (some 4) (.t 269) (ci 0), some (268, true)⟩,
 ⟨some 271, .faddr 0 (.t 270), some (268, true)⟩,
 ⟨some 272, .load none (.t 271), some (268, true)⟩,
 ⟨some 273, .bin .lss (.t 272) (ci 2), some (268, true)⟩,
 oo 274 (.pick (.t 268) (.t 273) (.c (.bool false)))])
 (.cond (.t 274)
 (.seq (.ops false [
 oo 275 (.mov (.t 4)),
 oo 276 (.iaddr (some 4) (.t 275) (ci 0)),
 oo 277 (.faddr 0 (.t 276)),
 oo 278 (.load none (.t 277)),
 oo 279 (.bin .sub (ci 1) (.t 278)),
 oo 280 (.build [.int .i64 0, .int .i64 0, .int .u16 0, .vec (some 4) []] [(0, 1, (.t 279))]),
 ⟨none, .store (some 4) (.t 2) (.t 280), none⟩,
 oo 3 (.mov (.c (.bool true)))])
 (.ret))
 (.skip)))
 (.seq (.seq (.ops false [
 oo 281 (.faddr 0 (.t 1)),
 oo 282 (.load none (.t 281)),
 oo 283 (.bin .eql (.t 282) (ci 4)),
 oo 284 (.mov (.t 283)),
 ⟨some 285, .mov (.t 4), some (284, true)⟩,
 ⟨some 286, .iaddr (some 4) (.t 285) (ci 0), some (284, true)⟩,
 ⟨some 287, .faddr 0 (.t 286), some (284, true)⟩,
 ⟨some 288, .load none (.t 287), some (284, true)⟩,
 ⟨some 289, .bin .eql (.t 288) (ci 4), some (284, true)⟩,
 oo 290 (.pick (.t 284) (.t 289) (.c (.bool false)))])
 (.cond (.t 290)
 (.seq (.ops false [
 oo 291 (.mov (.t 4)),
 oo 292 (.iaddr (some 4) (.t 291) (ci 0)),
 oo 293 (.faddr 3 (.t 292)),
 oo 294 (.load none (.t 293)),
 oo 295 (.iaddr (some 4) (.t 294) (ci 0)),
 oo 296 (.load (some 4) (.t 295)),
 ⟨none, .store (some 4) (.t 2) (.t 296), none⟩,
 oo 3 (.mov (.c (.bool true)))])
 (.ret))
 (.skip)))
 (.seq (.ops false [
 oo 297 (.load (some 4) (.t 1)),
 ⟨none, .store (some 4) (.t 2) (.t 297), none⟩,
 oo 3 (.mov (.c (.bool false)))])
 (.ret)))))))))))))
 [.cell 2 (some 4), .t 3]

set_option maxRecDepth 100000 in
theorem ok96 : chkFn Try.prog 96 a96 = true := by kernel_rfl

def b78_0 : ACode :=
 (.seq (.seq (.ops false [
 oo 7 (.mov (.t 4)),
 oo 8 (.faddr 3 (.t 1)),
 oo 9 (.load none (.t 8)),
 oo 10 (.len (.t 9)),
 oo 11 (.bin .lss (.t 7) (.t 10))])
 (.cond (.t 11)
 (.skip)
 (.exit 0)))
 (.seq (.block 1 (.ops false [
 oo 14 (.mov (.t 3)),
 oo 15 (.faddr 3 (.t 1)),
 oo 16 (.load none (.t 15)),
 oo 17 (.mov (.t 4)),
 oo 18 (.iaddr (some 4) (.t 16) (.t 17)),
 oo 19 (.load (some 4) (.t 18)),
 oo 20 (.call false 78 [(.t 19)]),
 oo 21 (.bsliceI (some 4) [(.t 20)]),
 oo 22 (.append (some 4) (.t 14) (.t 21) false),
 oo 3 (.mov (.t 22))]))
 (.ops false [
 oo 12 (.mov (.t 4)),
 oo 13 (.bin .add (.t 12) (ci 1)),
 oo 4 (.mov (.t 13))])))

def b78_1 : ACode :=
 (.block 3 (.seq (.ops false [
 oo 26 (.load (some 4) (.t 1)),
 oo 27 (.call false 96 [(.t 26)]),
 oo 25 (.mov (.t 27)),
 oo 28 (.extract (.t 25) 0),
 oo 29 (.extract (.t 25) 1),
 oo 5 (.alloc [.int .i64 0, .int .i64 0, .int .u16 0, .vec (some 4) []]),
 ⟨none, .store (some 4) (.t 5) (.t 28), none⟩,
 oo 6 (.mov (.t 29))])
 (.seq (.seq (.ops false [
 oo 30 (.mov (.t 6)),
 oo 31 (.un .not (.t 30))])
 (.cond (.t 31)
 (.seq (.ops false [
 oo 32 (.load (some 4) (.t 1)),
 ⟨none, .store (some 4) (.t 2) (.t 32), none⟩])
 (.ret))
 (.skip)))
 (.ops false [
 oo 33 (.load (some 4) (.t 5)),
 ⟨none, .store (some 4) (.t 1) (.t 33), none⟩]))))

/-- pointsman/pointsmanref28.trim -/
def a78 : AFn := .mk 34
 (.seq (.ops false [
 oo 1 (.box (some 4) (.t 0) false),
 oo 2 (.alloc [.int .i64 0, .int .i64 0, .int .u16 0, .vec (some 4) []])])
 (.seq (.ops false [
 oo 3 (.mov (.c (.nils)))])
 (.seq (.seq (.ops false [
 oo 4 (.mov (ci 0))])
 (.block 0 (.loop b78_0)))
 (.seq (.ops false [
 oo 23 (.mov (.t 3)),
 oo 24 (.faddr 3 (.t 1)),
 ⟨none, .store none (.t 24) (.t 23), none⟩])
 (.block 2 (.loop b78_1))))))
 [.cell 2 (some 4)]

set_option maxRecDepth 100000 in
theorem ok78 : chkFn Try.prog 78 a78 = true := by kernel_rfl

/-- pointsman/pointsmanref28.Trim -/
def a49 : AFn := .mk 9
 (.seq (.ops false [
 oo 1 (.box (some 4) (.t 0) true),
 oo 2 (.alloc [.int .i64 0, .int .i64 0, .int .u16 0, .vec (some 4) []])])
 (.seq (.seq (.ops false [
 oo 3 (.ldI (some 4) (.t 1)),
 oo 4 (.call false 40 [(.t 3)]),
 oo 5 (.un .not (.t 4))])
 (.cond (.t 5)
 (.seq (.ops false [
 oo 6 (.ldI (some 4) (.t 1)),
 ⟨none, .store (some 4) (.t 2) (.t 6), none⟩])
 (.ret))
 (.skip)))
 (.seq (.ops false [
 oo 7 (.ldI (some 4) (.t 1)),
 oo 8 (.call false 78 [(.t 7)]),
 ⟨none, .store (some 4) (.t 2) (.t 8), none⟩])
 (.ret))))
 [.cell 2 (some 4)]

set_option maxRecDepth 100000 in
theorem ok49 : chkFn Try.prog 49 a49 = true := by kernel_rfl

/-- pointsman/trim.Program -/
def a50 : AFn := .mk 16
 (.seq (.ops false [
 oo 1 (.box (some 6) (.t 0) false),
 oo 2 (.alloc [.vec none [], .int .i64 0, .int .i64 0, .int .u16 0, .vec (some 4) [], .vec (some 3) []]),
 oo 3 (.mov (ci 0))])
 (.seq (.seq (.ops false [
 oo 5 (.load (some 6) (.t 1)),
 oo 6 (.call false 65 [(.t 5)]),
 oo 4 (.mov (.t 6))])
 (.seq (.ops false [
 oo 7 (.mov (.t 4)),
 oo 8 (.bin .neq (.t 7) (ci 0))])
 (.cond (.t 8)
 (.seq (.ops false [
 oo 9 (.build [.vec none [], .int .i64 0, .int .i64 0, .int .u16 0, .vec (some 4) [], .vec (some 3) []] []),
 oo 10 (.mov (.t 4)),
 ⟨none, .store (some 6) (.t 2) (.t 9), none⟩,
 oo 3 (.mov (.t 10))])
 (.ret))
 (.skip))))
 (.seq (.ops false [
 oo 11 (.faddr 1 (.t 1)),
 oo 12 (.load (some 4) (.t 11)),
 oo 13 (.call false 38 [(.t 12)]),
 oo 14 (.faddr 1 (.t 1)),
 ⟨none, .store (some 4) (.t 14) (.t 13), none⟩])
 (.seq (.ops false [
 oo 15 (.load (some 6) (.t 1)),
 ⟨none, .store (some 6) (.t 2) (.t 15), none⟩,
 oo 3 (.mov (ci 0))])
 (.ret)))))
 [.cell 2 (some 6), .t 3]

set_option maxRecDepth 100000 in
theorem ok50 : chkFn Try.prog 50 a50 = true := by kernel_rfl

def b81_0 : ACode :=
 (.seq (.seq (.ops false [
 oo 11 (.mov (.t 5)),
 oo 12 (.mov (.t 0)),
 oo 13 (.len (.t 12)),
 oo 14 (.bin .lss (.t 11) (.t 13))])
 (.cond (.t 14)
 (.skip)
 (.exit 0)))
 (.seq (.block 1 (.seq (.ops true [
 oo 17 (.mov (.t 0)),
 oo 18 (.mov (.t 5)),
 oo 19 (.iaddr (some 2) (.t 17) (.t 18)),
 oo 20 (.load (some 2) (.t 19)),
 oo 21 (.mov (.t 1)),
 oo 22 (.mov (.t 5)),
 oo 23 (.iaddr (some 2) (.t 21) (.t 22)),
 oo 24 (.load (some 2) (.t 23)),
 oo 25 (.eqS true [.int, .int] (.t 20) (.t 24))])
 (.cond (.t 25)
 (.seq (.ops false [
 oo 4 (.mov (.c (.bool false)))])
 (.ret))
 (.skip))))
 (.ops false [
 oo 15 (.mov (.t 5)),
 oo 16 (.bin .add (.t 15) (ci 1)),
 oo 5 (.mov (.t 16))])))

/-- pointsman/pointsmanref05.SamePairs -/
def a81 : AFn := .mk 26
 (.seq (.ops false [
 oo 4 (.mov (.c (.bool false)))])
 (.seq (.seq (.ops false [
 oo 6 (.mov (.t 0)),
 oo 7 (.len (.t 6)),
 oo 8 (.mov (.t 1)),
 oo 9 (.len (.t 8)),
 oo 10 (.bin .neq (.t 7) (.t 9))])
 (.cond (.t 10)
 (.seq (.ops false [
 oo 4 (.mov (.c (.bool false)))])
 (.ret))
 (.skip)))
 (.seq (.seq (.ops false [
 oo 5 (.mov (ci 0))])
 (.block 0 (.loop b81_0)))
 (.seq (.ops false [
 oo 4 (.mov (.c (.bool true)))])
 (.ret)))))
 [.t 4]

set_option maxRecDepth 100000 in
theorem ok81 : chkFn Try.prog 81 a81 = true := by kernel_rfl

def b52_0 : ACode :=
 (.seq (.seq (.ops false [
 oo 33 (.mov (.t 5)),
 oo 34 (.faddr 0 (.t 2)),
 oo 35 (.ldI none (.t 34)),
 oo 36 (.len (.t 35)),
 oo 37 (.bin .lss (.t 33) (.t 36))])
 (.cond (.t 37)
 (.skip)
 (.exit 0)))
 (.seq (.block 1 (.seq (.ops true [
 oo 40 (.faddr 0 (.t 2)),
 oo 41 (.ldI none (.t 40)),
 oo 42 (.mov (.t 5)),
 oo 43 (.iaddr none (.t 41) (.t 42)),
 oo 44 (.load none (.t 43)),
 oo 45 (.faddr 0 (.t 3)),
 oo 46 (.ldI none (.t 45)),
 oo 47 (.mov (.t 5)),
 oo 48 (.iaddr none (.t 46) (.t 47)),
 oo 49 (.load none (.t 48)),
 oo 50 (.bin .neq (.t 44) (.t 49))])
 (.cond (.t 50)
 (.seq (.ops false [
 oo 4 (.mov (.c (.bool false)))])
 (.ret))
 (.skip))))
 (.ops false [
 oo 38 (.mov (.t 5)),
 oo 39 (.bin .add (.t 38) (ci 1)),
 oo 5 (.mov (.t 39))])))

def b52_1 : ACode :=
 (.seq (.seq (.ops false [
 oo 51 (.mov (.t 6)),
 oo 52 (.faddr 5 (.t 2)),
 oo 53 (.ldI none (.t 52)),
 oo 54 (.len (.t 53)),
 oo 55 (.bin .lss (.t 51) (.t 54))])
 (.cond (.t 55)
 (.skip)
 (.exit 2)))
 (.seq (.block 3 (.seq (.ops false [
 oo 58 (.faddr 5 (.t 2)),
 oo 59 (.ldI none (.t 58)),
 oo 60 (.mov (.t 6)),
 oo 61 (.iaddr (some 3) (.t 59) (.t 60)),
 oo 62 (.load (some 3) (.t 61)),
 oo 7 (.alloc [.vec (some 2) [], .vec (some 2) [], .vec (some 2) []]),
 ⟨none, .store (some 3) (.t 7) (.t 62), none⟩])
 (.seq (.ops false [
 oo 63 (.faddr 5 (.t 3)),
 oo 64 (.ldI none (.t 63)),
 oo 65 (.mov (.t 6)),
 oo 66 (.iaddr (some 3) (.t 64) (.t 65)),
 oo 67 (.load (some 3) (.t 66)),
 oo 8 (.alloc [.vec (some 2) [], .vec (some 2) [], .vec (some 2) []]),
 ⟨none, .store (some 3) (.t 8) (.t 67), none⟩])
 (.seq (.ops false [
 oo 68 (.faddr 0 (.t 7)),
 oo 69 (.load none (.t 68)),
 oo 70 (.faddr 0 (.t 8)),
 oo 71 (.load none (.t 70)),
 oo 72 (.call false 81 [(.t 69), (.t 71)]),
 oo 73 (.un .not (.t 72)),
 oo 74 (.mov (.t 73)),
 ⟨some 75, .faddr 1 (.t 7), some (74, false)⟩,
 ⟨some 76, .load none (.t 75), some (74, false)⟩,
 ⟨some 77, .faddr 1 (.t 8), some (74, false)⟩,
 ⟨some 78, .load none (.t 77), some (74, false)⟩,
 ⟨some 79, .call false 81 [(.t 76), (.t 78)], some (74, false)⟩,
 ⟨some 80, .un .not (.t 79), some (74, false)⟩,
 oo 81 (.pick (.t 74) (.c (.bool true)) (.t 80)),
 oo 82 (.mov (.t 81)),
 ⟨some 83, .faddr 2 (.t 7), some (82, false)⟩,
 ⟨some 84, .load none (.t 83), some (82, false)⟩,
 ⟨some 85, .faddr 2 (.t 8), some (82, false)⟩,
 ⟨some 86, .load none (.t 85), some (82, false)⟩,
 ⟨some 87, .call false 81 [(.t 84), (.t 86)], some (82, false)⟩,
 ⟨some 88, .un .not (.t 87), some (82, false)⟩,
 oo 89 (.pick (.t 82) (.c (.bool true)) (.t 88))])
 (.cond (.t 89)
 (.seq (.ops false [
 oo 4 (.mov (.c (.bool false)))])
 (.ret))
 (.skip))))))
 (.ops false [
 oo 56 (.mov (.t 6)),
 oo 57 (.bin .add (.t 56) (ci 1)),
 oo 6 (.mov (.t 57))])))

/-- pointsman/pointsmanref05.Same -/
def a52 : AFn := .mk 90
 (.seq (.ops false [
 oo 2 (.box (some 6) (.t 0) true),
 oo 3 (.box (some 6) (.t 1) true),
 oo 4 (.mov (.c (.bool false)))])
 (.seq (.seq (.ops false [
 oo 9 (.faddr 0 (.t 2)),
 oo 10 (.ldI none (.t 9)),
 oo 11 (.len (.t 10)),
 oo 12 (.faddr 0 (.t 3)),
 oo 13 (.ldI none (.t 12)),
 oo 14 (.len (.t 13)),
 oo 15 (.bin .neq (.t 11) (.t 14)),
 oo 16 (.mov (.t 15)),
 ⟨some 17, .faddr 5 (.t 2), some (16, false)⟩,
 ⟨some 18, .ldI none (.t 17), some (16, false)⟩,
 ⟨some 19, .len (.t 18), some (16, false)⟩,
 ⟨some 20, .faddr 5 (.t 3), some (16, false)⟩,
 ⟨some 21, .ldI none (.t 20), some (16, false)⟩,
 ⟨some 22, .len (.t 21), some (16, false)⟩,
 ⟨some 23, .bin .neq (.t 19) (.t 22), some (16, false)⟩,
 oo 24 (.pick (.t 16) (.c (.bool true)) (.t 23)),
 oo 25 (.mov (.t 24)),
 ⟨some 26, .faddr 1 (.t 2), some (25, false)⟩,
 ⟨some 27, .ldI (some 4) (.t 26), some (25, false)⟩,
 ⟨some 28, .faddr 1 (.t 3), some (25, false)⟩,
 ⟨some 29, .ldI (some 4) (.t 28), some (25, false)⟩,
 ⟨some 30, .call false 41 [(.t 27), (.t 29)], some (25, false)⟩,
 ⟨some 31, .un .not (.t 30), some (25, false)⟩,
 oo 32 (.pick (.t 25) (.c (.bool true)) (.t 31))])
 (.cond (.t 32)
 (.seq (.ops false [
 oo 4 (.mov (.c (.bool false)))])
 (.ret))
 (.skip)))
 (.seq (.seq (.ops false [
 oo 5 (.mov (ci 0))])
 (.block 0 (.loop b52_0)))
 (.seq (.seq (.ops false [
 oo 6 (.mov (ci 0))])
 (.block 2 (.loop b52_1)))
 (.seq (.ops false [
 oo 4 (.mov (.c (.bool true)))])
 (.ret))))))
 [.t 4]

set_option maxRecDepth 100000 in
theorem ok52 : chkFn Try.prog 52 a52 = true := by kernel_rfl

/-- pointsman/pointsmanlaw28.TrimTells -/
def a12 : AFn := .mk 61
 (.seq (.ops false [
 oo 3 (.box (some 6) (.t 1) false),
 oo 4 (.mov (.c (.bool false)))])
 (.seq (.seq (.ops false [
 oo 11 (.call false 35 []),
 oo 12 (.un .not (.t 11))])
 (.cond (.t 12)
 (.seq (.ops false [
 oo 4 (.mov (.c (.bool false)))])
 (.ret))
 (.skip)))
 (.seq (.ops false [
 oo 14 (.mov (.t 0)),
 oo 15 (.call false 36 [(.t 14)]),
 oo 13 (.mov (.t 15)),
 oo 16 (.extract (.t 13) 0),
 oo 17 (.extract (.t 13) 1),
 oo 5 (.alloc [.int .i64 0, .int .i64 0, .int .u16 0, .vec (some 4) []]),
 ⟨none, .store (some 4) (.t 5) (.t 16), none⟩,
 oo 6 (.mov (.t 17))])
 (.seq (.seq (.ops false [
 oo 18 (.mov (.t 6)),
 oo 19 (.un .not (.t 18)),
 oo 20 (.mov (.t 19)),
 ⟨some 21, .load (some 6) (.t 3), some (20, false)⟩,
 ⟨some 22, .call false 24 [(.t 21)], some (20, false)⟩,
 ⟨some 23, .un .not (.t 22), some (20, false)⟩,
 oo 24 (.pick (.t 20) (.c (.bool true)) (.t 23))])
 (.cond (.t 24)
 (.seq (.ops false [
 oo 4 (.mov (.c (.bool true)))])
 (.ret))
 (.skip)))
 (.seq (.ops false [
 oo 25 (.load (some 4) (.t 5)),
 oo 26 (.call false 49 [(.t 25)]),
 oo 7 (.alloc [.int .i64 0, .int .i64 0, .int .u16 0, .vec (some 4) []]),
 ⟨none, .store (some 4) (.t 7) (.t 26), none⟩])
 (.seq (.ops false [
 oo 27 (.load (some 4) (.t 5)),
 oo 28 (.faddr 1 (.t 3)),
 ⟨none, .store (some 4) (.t 28) (.t 27), none⟩])
 (.seq (.ops false [
 oo 30 (.load (some 6) (.t 3)),
 oo 31 (.call false 50 [(.t 30)]),
 oo 29 (.mov (.t 31)),
 oo 32 (.extract (.t 29) 0),
 oo 33 (.extract (.t 29) 1),
 oo 8 (.alloc [.vec none [], .int .i64 0, .int .i64 0, .int .u16 0, .vec (some 4) [], .vec (some 3) []]),
 ⟨none, .store (some 6) (.t 8) (.t 32), none⟩,
 oo 9 (.mov (.t 33))])
 (.seq (.ops false [
 oo 34 (.load (some 6) (.t 3)),
 oo 35 (.call false 51 [(.t 34)]),
 oo 10 (.mov (.t 35))])
 (.seq (.seq (.ops false [
 oo 36 (.mov (.t 9)),
 oo 37 (.mov (.t 10)),
 oo 38 (.bin .neq (.t 36) (.t 37))])
 (.cond (.t 38)
 (.seq (.ops false [
 oo 4 (.mov (.c (.bool false)))])
 (.ret))
 (.skip)))
 (.seq (.ops false [
 oo 39 (.load (some 4) (.t 7)),
 oo 40 (.faddr 1 (.t 3)),
 ⟨none, .store (some 4) (.t 40) (.t 39), none⟩])
 (.seq (.seq (.ops false [
 oo 41 (.mov (.t 10)),
 oo 42 (.bin .neq (.t 41) (ci 0))])
 (.cond (.t 42)
 (.ops false [
 oo 43 (.build [.vec none [], .int .i64 0, .int .i64 0, .int .u16 0, .vec (some 4) [], .vec (some 3) []] []),
 ⟨none, .store (some 6) (.t 3) (.t 43), none⟩])
 (.skip)))
 (.seq (.ops true [
 oo 44 (.load (some 4) (.t 5)),
 oo 45 (.call false 38 [(.t 44)]),
 oo 46 (.load (some 4) (.t 7)),
 oo 47 (.call false 41 [(.t 45), (.t 46)]),
 oo 48 (.mov (.t 47)),
 ⟨some 49, .load (some 4) (.t 5), some (48, true)⟩,
 ⟨some 50, .call false 44 [(.t 49)], some (48, true)⟩,
 ⟨some 51, .load (some 4) (.t 5), some (48, true)⟩,
 ⟨some 52, .load (some 4) (.t 7), some (48, true)⟩,
 ⟨some 53, .call false 41 [(.t 51), (.t 52)], some (48, true)⟩,
 ⟨some 54, .eqB false (.t 50) (.t 53), some (48, true)⟩,
 oo 55 (.pick (.t 48) (.t 54) (.c (.bool false))),
 oo 56 (.mov (.t 55)),
 ⟨some 57, .load (some 6) (.t 3), some (56, true)⟩,
 ⟨some 58, .load (some 6) (.t 8), some (56, true)⟩,
 ⟨some 59, .call false 52 [(.t 57), (.t 58)], some (56, true)⟩,
 oo 60 (.pick (.t 56) (.t 59) (.c (.bool false))),
 oo 4 (.mov (.t 60))])
 (.ret)))))))))))))
 [.t 4]

set_option maxRecDepth 100000 in
theorem ok12 : chkFn Try.prog 12 a12 = true := by kernel_rfl

@[reducible] def vl0 (x : List api_Pol) : V := .d (eL (some 4) eapi_Pol x)
@[reducible] def vl1 (x : List api_Pair) : V := .d (eL (some 2) eapi_Pair x)
@[reducible] def vl2 (x : List api_Rule) : V := .d (eL (some 3) eapi_Rule x)
@[reducible] def vl3 (x : List Int) : V := .d (eL none (D.int .u16) x)
@[reducible] def vl4 (x : List law05_Step) : V := .d (eL (some 4) elaw05_Step x)
@[reducible] def vp0 (x : api_Pol) : V := .d (.cptr (some 4) (uapi_Pol x) 0)
@[reducible] def vp1 (x : api_Program) : V := .d (.cptr (some 6) (eapi_Program x) 0)
@[reducible] def vp2 (x : api_Pair) : V := .d (.cptr (some 2) (eapi_Pair x) 0)
@[reducible] def vs0 (x : api_Pol) : V := .d (uapi_Pol x)
@[reducible] def vs1 (x : api_Program) : V := .d (eapi_Program x)
@[reducible] def bv0 : Blk := .var [vi 0, vi 0, vh 0, vl0 []]
@[reducible] def bv1 (x : api_Pol) : Blk := .var [vi x.Op, vi x.F, vh x.N, vl0 x.Kids]
@[reducible] def bv2 (x : law05_Step) : Blk := .var [vi x.What, vi x.F, vh x.N, v8 x.K]
@[reducible] def bv3 (x : api_Rule) : Blk := .var [vl1 x.When, vl1 x.Guard, vl1 x.Then]
@[reducible] def bv4 : Blk := .var [vl3 [], vi 0, vi 0, vh 0, vl0 [], vl2 []]

end Go.AM
