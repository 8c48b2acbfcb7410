import Derived.Test.YtkgegocfjalcbaaAmN8
import Derived.Test.YtkgegocfjalcbaaAmMp
import Derived.Test.YtkgegocfjalcbaaAmW
import Derived.Test.YtkgegocfjalcbaaSpT
import Derived.Test.YtkgegocfjalcbaaProg
/-  What they are in the program: data and code. -/
set_option linter.unusedVariables false
set_option linter.unusedSimpArgs false
namespace Go.AM
open Go Go.RowKit Go.Proofs

mutual
def eapi_Pol : api_Pol → D
  | ⟨y0, y1, y2, y3⟩ => .agg [(D.int .i64) y0, (D.int .i64) y1, (D.int .u16) y2, .vec (some 4) (eapi_PolL y3)]
def eapi_PolL : List api_Pol → List D
  | [] => []
  | x :: l => eapi_Pol x :: eapi_PolL l
end

theorem eapi_PolL_eq : ∀ l : List api_Pol, eapi_PolL l = l.map eapi_Pol
  | [] => by simp [eapi_PolL]
  | x :: l => by simp [eapi_PolL, eapi_PolL_eq l]

def uapi_Pol (x : api_Pol) : D := .agg [D.int .i64 x.Op, D.int .i64 x.F, D.int .u16 x.N, eL (some 4) eapi_Pol x.Kids]

theorem eu_api_Pol (x : api_Pol) : eapi_Pol x = uapi_Pol x := by
  cases x
  simp [eapi_Pol, uapi_Pol, eL, eapi_PolL_eq]

def eapi_Pair (x : api_Pair) : D := .agg ((D.int .i64) x.F :: ((D.int .u16) x.N :: []))

def eapi_Edge (x : api_Edge) : D := .agg ((D.int .i64) x.From :: ((D.int .i64) x.Rule :: ((D.int .i64) x.To :: [])))

def eapi_Rule (x : api_Rule) : D := .agg ((eL (some 2) eapi_Pair) x.When :: ((eL (some 2) eapi_Pair) x.Guard :: ((eL (some 2) eapi_Pair) x.Then :: [])))

def eapi_Program (x : api_Program) : D := .agg ((eL none (D.int .u16)) x.Init :: ((uapi_Pol x.Pol).cells ++ ((eL (some 3) eapi_Rule) x.Rules :: [])))

def eapi_Space (x : api_Space) : D := .agg ((eL none (eL none (D.int .u16))) x.States :: ((eL (some 3) eapi_Edge) x.Edges :: []))

theorem eqS_api_Edge (x y : api_Edge) : eqSV [.int, .int, .int] (.d (eapi_Edge x)) (.d (eapi_Edge y)) = some (x == y) := by
  refine (eqSV_agg rfl rfl (eqT_cons rfl (eqT_cons rfl (eqT_cons rfl rfl)))).trans (congrArg some ?_)
  rw [Bool.eq_iff_iff]
  obtain ⟨x0, x1, x2⟩ := x
  obtain ⟨y0, y1, y2⟩ := y
  simp [ba_toList_inj, and_assoc]

/-- pointsman/pointsmanlaw11.rule -/
def a64 : AFn := .mk 11
 (.seq (.ops false [
 oo 4 (.alloc [.vec (some 2) [], .vec (some 2) [], .vec (some 2) []])])
 (.seq (.ops false [
 oo 5 (.build [.int .i64 0, .int .u16 0] [(0, 1, (ci 0)), (1, 1, (.c (.int .u16 1)))]),
 oo 6 (.build [.int .i64 0, .int .u16 0] [(0, 1, (ci 1)), (1, 1, (.c (.int .u16 1)))]),
 oo 7 (.bsliceI (some 2) [(.t 5), (.t 6)]),
 oo 8 (.mov (.t 0)),
 oo 9 (.mov (.t 1)),
 oo 10 (.build [.vec (some 2) [], .vec (some 2) [], .vec (some 2) []] [(0, 1, (.t 7)), (1, 1, (.t 8)), (2, 1, (.t 9))]),
 ⟨none, .store (some 3) (.t 4) (.t 10), none⟩])
 (.ret)))
 [.cell 4 (some 3)]

set_option maxRecDepth 100000 in
theorem ok64 : chkFn Try.prog 64 a64 = true := by kernel_rfl

def b83_0 : ACode :=
 (.seq (.ops false [
 oo 10 (.bin .lss (.t 9) (.t 8))])
 (.seq (.cond (.t 10)
 (.skip)
 (.exit 0))
 (.seq (.block 1 (.seq (.ops false [
 oo 11 (.iaddr (some 4) (.t 7) (.t 9)),
 oo 12 (.load (some 4) (.t 11)),
 oo 5 (.alloc [.int .i64 0, .int .i64 0, .int .u16 0, .vec (some 4) []]),
 ⟨none, .store (some 4) (.t 5) (.t 12), none⟩])
 (.ops false [
 oo 13 (.mov (.t 3)),
 oo 14 (.load (some 4) (.t 5)),
 oo 15 (.call false 83 [(.t 14)]),
 oo 16 (.bin .add (.t 13) (.t 15)),
 oo 3 (.mov (.t 16))])))
 (.ops false [
 oo 17 (.bin .add (.t 9) (ci 1)),
 oo 9 (.mov (.t 17))]))))

/-- pointsman/syntax.Size -/
def a83 : AFn := .mk 19
 (.seq (.ops false [
 oo 1 (.box (some 4) (.t 0) true),
 oo 2 (.mov (ci 0))])
 (.seq (.ops false [
 oo 3 (.mov (ci 1))])
 (.seq (.seq (.ops false [
 oo 6 (.faddr 3 (.t 1)),
 oo 7 (.ldI none (.t 6)),
 oo 8 (.len (.t 7)),
 oo 9 (.mov (ci 0))])
 (.block 0 (.loop b83_0)))
 (.seq (.ops false [
 oo 18 (.mov (.t 3)),
 oo 2 (.mov (.t 18))])
 (.ret)))))
 [.t 2]

set_option maxRecDepth 100000 in
theorem ok83 : chkFn Try.prog 83 a83 = true := by kernel_rfl

def b84_0 : ACode :=
 (.seq (.ops false [
 oo 10 (.bin .lss (.t 9) (.t 8))])
 (.seq (.cond (.t 10)
 (.skip)
 (.exit 0))
 (.seq (.block 1 (.seq (.ops false [
 oo 11 (.iaddr (some 4) (.t 7) (.t 9)),
 oo 12 (.load (some 4) (.t 11)),
 oo 5 (.alloc [.int .i64 0, .int .i64 0, .int .u16 0, .vec (some 4) []]),
 ⟨none, .store (some 4) (.t 5) (.t 12), none⟩])
 (.ops false [
 oo 13 (.mov (.t 3)),
 oo 14 (.load (some 4) (.t 5)),
 oo 15 (.call false 84 [(.t 14)]),
 oo 16 (.max2 (.t 13) (.t 15)),
 oo 3 (.mov (.t 16))])))
 (.ops false [
 oo 17 (.bin .add (.t 9) (ci 1)),
 oo 9 (.mov (.t 17))]))))

/-- pointsman/syntax.Depth -/
def a84 : AFn := .mk 20
 (.seq (.ops false [
 oo 1 (.box (some 4) (.t 0) true),
 oo 2 (.mov (ci 0))])
 (.seq (.ops false [
 oo 3 (.mov (ci 0))])
 (.seq (.seq (.ops false [
 oo 6 (.faddr 3 (.t 1)),
 oo 7 (.ldI none (.t 6)),
 oo 8 (.len (.t 7)),
 oo 9 (.mov (ci 0))])
 (.block 0 (.loop b84_0)))
 (.seq (.ops false [
 oo 18 (.mov (.t 3)),
 oo 19 (.bin .add (.t 18) (ci 1)),
 oo 2 (.mov (.t 19))])
 (.ret)))))
 [.t 2]

set_option maxRecDepth 100000 in
theorem ok84 : chkFn Try.prog 84 a84 = true := by kernel_rfl

def b113_0 : ACode :=
 (.seq (.ops false [
 oo 9 (.bin .lss (.t 8) (.t 7))])
 (.seq (.cond (.t 9)
 (.skip)
 (.exit 0))
 (.seq (.block 1 (.seq (.ops false [
 oo 10 (.mov (.t 8)),
 oo 5 (.mov (.t 10))])
 (.seq (.ops false [
 oo 11 (.mov (.t 1)),
 oo 12 (.mov (.t 0)),
 oo 13 (.mov (.t 5)),
 oo 14 (.iaddr (some 4) (.t 12) (.t 13)),
 oo 15 (.load (some 4) (.t 14)),
 oo 16 (.callv false (.t 11) [(.t 15)])])
 (.cond (.t 16)
 (.seq (.ops false [
 oo 17 (.mov (.t 5)),
 oo 4 (.mov (.t 17))])
 (.ret))
 (.skip)))))
 (.ops false [
 oo 18 (.bin .add (.t 8) (ci 1)),
 oo 8 (.mov (.t 18))]))))

/-- slices.IndexFunc[[]pointsman/api.Pol,pointsman/api.Pol] -/
def a113 : AFn := .mk 19
 (.seq (.ops false [
 oo 4 (.mov (ci 0))])
 (.seq (.seq (.ops false [
 oo 6 (.mov (.t 0)),
 oo 7 (.len (.t 6)),
 oo 8 (.mov (ci 0))])
 (.block 0 (.loop b113_0)))
 (.seq (.ops false [
 oo 4 (.mov (ci (-1)))])
 (.ret))))
 [.t 4]

set_option maxRecDepth 100000 in
theorem ok113 : chkFn Try.prog 113 a113 = true := by kernel_rfl

/-- slices.ContainsFunc[[]pointsman/api.Pol,pointsman/api.Pol] -/
def a98 : AFn := .mk 9
 (.seq (.ops false [
 oo 4 (.mov (.c (.bool false)))])
 (.seq (.ops false [
 oo 5 (.mov (.t 0)),
 oo 6 (.mov (.t 1)),
 oo 7 (.call false 113 [(.t 5), (.t 6)]),
 oo 8 (.bin .geq (.t 7) (ci 0)),
 oo 4 (.mov (.t 8))])
 (.ret)))
 [.t 4]

set_option maxRecDepth 100000 in
theorem ok98 : chkFn Try.prog 98 a98 = true := by kernel_rfl

/-- pointsman/syntax.Predicate$1 -/
def a112 : AFn := .mk 6
 (.seq (.ops false [
 oo 1 (.box (some 4) (.t 0) true),
 oo 2 (.mov (.c (.bool false)))])
 (.seq (.ops false [
 oo 3 (.ldI (some 4) (.t 1)),
 oo 4 (.call false 97 [(.t 3)]),
 oo 5 (.un .not (.t 4)),
 oo 2 (.mov (.t 5))])
 (.ret)))
 [.t 2]

set_option maxRecDepth 100000 in
theorem ok112 : chkFn Try.prog 112 a112 = true := by kernel_rfl

/-- pointsman/syntax.Predicate -/
def a97 : AFn := .mk 18
 (.seq (.ops false [
 oo 1 (.box (some 4) (.t 0) true),
 oo 2 (.mov (.c (.bool false)))])
 (.seq (.seq (.ops false [
 oo 3 (.faddr 0 (.t 1)),
 oo 4 (.ldI none (.t 3))])
 (.block 0 (.seq (.seq (.ops false [
 oo 6 (.bin .eql (.t 4) (ci 0)),
 oo 5 (.mov (.t 6))])
 (.cond (.t 5)
 (.skip)
 (.seq (.ops false [
 oo 7 (.bin .eql (.t 4) (ci 1)),
 oo 5 (.mov (.t 7))])
 (.cond (.t 5)
 (.skip)
 (.seq (.ops false [
 oo 8 (.bin .eql (.t 4) (ci 2)),
 oo 5 (.mov (.t 8))])
 (.cond (.t 5)
 (.skip)
 (.seq (.ops false [
 oo 9 (.bin .eql (.t 4) (ci 3)),
 oo 5 (.mov (.t 9))])
 (.cond (.t 5)
 (.skip)
 (.ops false [
 oo 10 (.bin .eql (.t 4) (ci 4)),
 oo 5 (.mov (.t 10))])))))))))
 (.cond (.t 5)
 (.seq (.ops false [
 oo 2 (.mov (.c (.bool true)))])
 (.ret))
 (.seq (.seq (.ops false [
 oo 12 (.bin .eql (.t 4) (ci 6)),
 oo 11 (.mov (.t 12))])
 (.cond (.t 11)
 (.skip)
 (.ops false [
 oo 13 (.bin .eql (.t 4) (ci 7)),
 oo 11 (.mov (.t 13))])))
 (.cond (.t 11)
 (.seq (.ops false [
 oo 14 (.faddr 3 (.t 1)),
 oo 15 (.ldI none (.t 14)),
 oo 16 (.call false 98 [(.t 15), (.c (.func 112 []))]),
 oo 17 (.un .not (.t 16)),
 oo 2 (.mov (.t 17))])
 (.ret))
 (.skip)))))))
 (.seq (.ops false [
 oo 2 (.mov (.c (.bool false)))])
 (.ret))))
 [.t 2]

set_option maxRecDepth 100000 in
theorem ok97 : chkFn Try.prog 97 a97 = true := by kernel_rfl

/-- pointsman/syntax.formed$1 -/
def a99 : AFn := .mk 8
 (.seq (.ops false [
 oo 2 (.box (some 4) (.t 0) true),
 oo 3 (.mov (.c (.bool false)))])
 (.seq (.ops false [
 oo 4 (.ldI (some 4) (.t 2)),
 oo 5 (.load none (.t 1)),
 oo 6 (.call false 85 [(.t 4), (.t 5)]),
 oo 7 (.un .not (.t 6)),
 oo 3 (.mov (.t 7))])
 (.ret)))
 [.t 3]

set_option maxRecDepth 100000 in
theorem ok99 : chkFn Try.prog 99 a99 = true := by kernel_rfl

/-- pointsman/syntax.formed -/
def a85 : AFn := .mk 92
 (.seq (.ops false [
 oo 2 (.box (some 4) (.t 0) true),
 oo 3 (.box none (.t 1) true),
 oo 4 (.mov (.c (.bool false)))])
 (.seq (.ops false [
 oo 8 (.faddr 1 (.t 2)),
 oo 9 (.ldI none (.t 8)),
 oo 10 (.bin .eql (.t 9) (ci 0)),
 oo 11 (.mov (.t 10)),
 ⟨some 12, .faddr 2 (.t 2), some (11, true)⟩,
 ⟨some 13, .ldI none (.t 12), some (11, true)⟩,
 ⟨some 14, .bin .eql (.t 13) (.c (.int .u16 0)), some (11, true)⟩,
 oo 15 (.pick (.t 11) (.t 14) (.c (.bool false))),
 oo 5 (.mov (.t 15))])
 (.seq (.ops false [
 oo 6 (.mov (ci 0)),
 oo 7 (.mov (ci 8))])
 (.seq (.seq (.ops false [
 oo 16 (.faddr 0 (.t 2)),
 oo 17 (.ldI none (.t 16))])
 (.block 0 (.seq (.seq (.ops false [
 oo 19 (.bin .eql (.t 17) (ci 0)),
 oo 18 (.mov (.t 19))])
 (.cond (.t 18)
 (.skip)
 (.ops false [
 oo 20 (.bin .eql (.t 17) (ci 1)),
 oo 18 (.mov (.t 20))])))
 (.cond (.t 18)
 (.seq (.ops false [
 oo 21 (.faddr 3 (.t 2)),
 oo 22 (.ldI none (.t 21)),
 oo 23 (.len (.t 22)),
 oo 24 (.bin .eql (.t 23) (ci 0)),
 oo 25 (.mov (.t 24)),
 ⟨some 26, .mov (.t 5), some (25, true)⟩,
 oo 27 (.pick (.t 25) (.t 26) (.c (.bool false))),
 oo 4 (.mov (.t 27))])
 (.ret))
 (.seq (.ops false [
 oo 29 (.bin .eql (.t 17) (ci 4)),
 oo 28 (.mov (.t 29))])
 (.cond (.t 28)
 (.seq (.ops true [
 oo 30 (.faddr 3 (.t 2)),
 oo 31 (.ldI none (.t 30)),
 oo 32 (.len (.t 31)),
 oo 33 (.bin .eql (.t 32) (ci 1)),
 oo 34 (.mov (.t 33)),
 ⟨some 35, .mov (.t 5), some (34, true)⟩,
 oo 36 (.pick (.t 34) (.t 35) (.c (.bool false))),
 oo 37 (.mov (.t 36)),
 ⟨some 38, .faddr 3 (.t 2), some (37, true)⟩,
 ⟨some 39, .ldI none (.t 38), some (37, true)⟩,
 ⟨some 40, .iaddr (some 4) (.t 39) (ci 0), some (37, true)⟩,
 ⟨some 41, .load (some 4) (.t 40), some (37, true)⟩,
 ⟨some 42, .call false 97 [(.t 41)], some (37, true)⟩,
 oo 43 (.pick (.t 37) (.t 42) (.c (.bool false))),
 oo 44 (.mov (.t 43)),
 ⟨some 45, .faddr 3 (.t 2), some (44, true)⟩,
 ⟨some 46, .ldI none (.t 45), some (44, true)⟩,
 ⟨some 47, .iaddr (some 4) (.t 46) (ci 0), some (44, true)⟩,
 ⟨some 48, .load (some 4) (.t 47), some (44, true)⟩,
 ⟨some 49, .ldI none (.t 3), some (44, true)⟩,
 ⟨some 50, .call false 85 [(.t 48), (.t 49)], some (44, true)⟩,
 oo 51 (.pick (.t 44) (.t 50) (.c (.bool false))),
 oo 4 (.mov (.t 51))])
 (.ret))
 (.seq (.seq (.ops false [
 oo 53 (.bin .eql (.t 17) (ci 6)),
 oo 52 (.mov (.t 53))])
 (.cond (.t 52)
 (.skip)
 (.ops false [
 oo 54 (.bin .eql (.t 17) (ci 7)),
 oo 52 (.mov (.t 54))])))
 (.cond (.t 52)
 (.seq (.ops false [
 oo 55 (.faddr 3 (.t 2)),
 oo 56 (.ldI none (.t 55)),
 oo 57 (.len (.t 56)),
 oo 58 (.bin .geq (.t 57) (ci 2)),
 oo 59 (.mov (.t 58)),
 ⟨some 60, .mov (.t 5), some (59, true)⟩,
 oo 61 (.pick (.t 59) (.t 60) (.c (.bool false))),
 oo 62 (.mov (.t 61)),
 ⟨some 63, .faddr 3 (.t 2), some (62, true)⟩,
 ⟨some 64, .ldI none (.t 63), some (62, true)⟩,
 ⟨some 65, .mkfunc 99 [(.t 3)], some (62, true)⟩,
 ⟨some 66, .call false 98 [(.t 64), (.t 65)], some (62, true)⟩,
 ⟨some 67, .un .not (.t 66), some (62, true)⟩,
 oo 68 (.pick (.t 62) (.t 67) (.c (.bool false))),
 oo 4 (.mov (.t 68))])
 (.ret))
 (.seq (.ops false [
 oo 70 (.bin .eql (.t 17) (ci 2)),
 oo 69 (.mov (.t 70))])
 (.cond (.t 69)
 (.skip)
 (.seq (.ops false [
 oo 72 (.bin .eql (.t 17) (ci 5)),
 oo 71 (.mov (.t 72))])
 (.cond (.t 71)
 (.ops false [
 oo 6 (.mov (ci 1))])
 (.seq (.ops false [
 oo 74 (.bin .eql (.t 17) (ci 3)),
 oo 73 (.mov (.t 74))])
 (.cond (.t 73)
 (.ops false [
 oo 75 (.ldI none (.t 3)),
 oo 7 (.mov (.t 75))])
 (.seq (.ops false [
 oo 4 (.mov (.c (.bool false)))])
 (.ret))))))))))))))))
 (.seq (.ops false [
 oo 76 (.faddr 3 (.t 2)),
 oo 77 (.ldI none (.t 76)),
 oo 78 (.len (.t 77)),
 oo 79 (.bin .eql (.t 78) (ci 0)),
 oo 80 (.mov (.t 79)),
 ⟨some 81, .faddr 1 (.t 2), some (80, true)⟩,
 ⟨some 82, .ldI none (.t 81), some (80, true)⟩,
 ⟨some 83, .mov (.t 6), some (80, true)⟩,
 ⟨some 84, .bin .geq (.t 82) (.t 83), some (80, true)⟩,
 oo 85 (.pick (.t 80) (.t 84) (.c (.bool false))),
 oo 86 (.mov (.t 85)),
 ⟨some 87, .faddr 1 (.t 2), some (86, true)⟩,
 ⟨some 88, .ldI none (.t 87), some (86, true)⟩,
 ⟨some 89, .mov (.t 7), some (86, true)⟩,
 ⟨some 90, .bin .lss (.t 88) (.t 89), some (86, true)⟩,
 oo 91 (.pick (.t 86) (.t 90) (.c (.bool false))),
 oo 4 (.mov (.t 91))])
 (.ret))))))
 [.t 4]

set_option maxRecDepth 100000 in
theorem ok85 : chkFn Try.prog 85 a85 = true := by kernel_rfl

def b86_0 : ACode :=
 (.seq (.ops false [
 oo 10 (.bin .lss (.t 9) (.t 8))])
 (.seq (.cond (.t 10)
 (.skip)
 (.exit 0))
 (.seq (.block 1 (.seq (.ops false [
 oo 11 (.mov (.t 9)),
 oo 12 (.iaddr (some 2) (.t 7) (.t 9)),
 oo 13 (.load (some 2) (.t 12)),
 oo 6 (.alloc [.int .i64 0, .int .u16 0]),
 oo 5 (.mov (.t 11)),
 ⟨none, .store (some 2) (.t 6) (.t 13), none⟩])
 (.seq (.ops true [
 oo 14 (.faddr 0 (.t 6)),
 oo 15 (.load none (.t 14)),
 oo 16 (.bin .lss (.t 15) (ci 0)),
 oo 17 (.mov (.t 16)),
 ⟨some 18, .faddr 0 (.t 6), some (17, false)⟩,
 ⟨some 19, .load none (.t 18), some (17, false)⟩,
 ⟨some 20, .mov (.t 1), some (17, false)⟩,
 ⟨some 21, .bin .geq (.t 19) (.t 20), some (17, false)⟩,
 oo 22 (.pick (.t 17) (.c (.bool true)) (.t 21)),
 oo 23 (.mov (.t 22)),
 ⟨some 24, .mov (.t 5), some (23, false)⟩,
 ⟨some 25, .bin .gtr (.t 24) (ci 0), some (23, false)⟩,
 ⟨some 26, .mov (.t 25), some (23, false)⟩,
 ⟨some 27, .mov (.t 0), some (26, true)⟩,
 ⟨some 28, .mov (.t 5), some (26, true)⟩,
 ⟨some 29, .bin .sub (.t 28) (ci 1), some (26, true)⟩,
 ⟨some 30, .iaddr (some 2) (.t 27) (.t 29), some (26, true)⟩,
 ⟨some 31, .faddr 0 (.t 30), some (26, true)⟩,
 ⟨some 32, .load none (.t 31), some (26, true)⟩,
 ⟨some 33, .faddr 0 (.t 6), some (26, true)⟩,
 ⟨some 34, .load none (.t 33), some (26, true)⟩,
 ⟨some 35, .bin .geq (.t 32) (.t 34), some (26, true)⟩,
 ⟨some 36, .pick (.t 26) (.t 35) (.c (.bool false)), some (23, false)⟩,
 oo 37 (.pick (.t 23) (.c (.bool true)) (.t 36))])
 (.cond (.t 37)
 (.seq (.ops false [
 oo 4 (.mov (.c (.bool false)))])
 (.ret))
 (.skip)))))
 (.ops false [
 oo 38 (.bin .add (.t 9) (ci 1)),
 oo 9 (.mov (.t 38))]))))

/-- pointsman/syntax.once -/
def a86 : AFn := .mk 39
 (.seq (.ops false [
 oo 4 (.mov (.c (.bool false)))])
 (.seq (.seq (.ops false [
 oo 7 (.mov (.t 0)),
 oo 8 (.len (.t 7)),
 oo 9 (.mov (ci 0))])
 (.block 0 (.loop b86_0)))
 (.seq (.ops false [
 oo 4 (.mov (.c (.bool true)))])
 (.ret))))
 [.t 4]

set_option maxRecDepth 100000 in
theorem ok86 : chkFn Try.prog 86 a86 = true := by kernel_rfl

def b65_0 : ACode :=
 (.seq (.ops false [
 oo 43 (.bin .lss (.t 42) (.t 41))])
 (.seq (.cond (.t 43)
 (.skip)
 (.exit 0))
 (.seq (.block 1 (.seq (.ops false [
 oo 44 (.iaddr (some 3) (.t 40) (.t 42)),
 oo 45 (.load (some 3) (.t 44)),
 oo 5 (.alloc [.vec (some 2) [], .vec (some 2) [], .vec (some 2) []]),
 ⟨none, .store (some 3) (.t 5) (.t 45), none⟩])
 (.seq (.ops false [
 oo 46 (.faddr 0 (.t 5)),
 oo 47 (.load none (.t 46)),
 oo 48 (.len (.t 47)),
 oo 49 (.bin .geq (.t 48) (ci 2)),
 oo 50 (.mov (.t 49)),
 ⟨some 51, .faddr 0 (.t 5), some (50, true)⟩,
 ⟨some 52, .load none (.t 51), some (50, true)⟩,
 ⟨some 53, .iaddr (some 2) (.t 52) (ci 0), some (50, true)⟩,
 ⟨some 54, .faddr 0 (.t 53), some (50, true)⟩,
 ⟨some 55, .load none (.t 54), some (50, true)⟩,
 ⟨some 56, .bin .eql (.t 55) (ci 0), some (50, true)⟩,
 oo 57 (.pick (.t 50) (.t 56) (.c (.bool false))),
 oo 58 (.mov (.t 57)),
 ⟨some 59, .faddr 0 (.t 5), some (58, true)⟩,
 ⟨some 60, .load none (.t 59), some (58, true)⟩,
 ⟨some 61, .iaddr (some 2) (.t 60) (ci 1), some (58, true)⟩,
 ⟨some 62, .faddr 0 (.t 61), some (58, true)⟩,
 ⟨some 63, .load none (.t 62), some (58, true)⟩,
 ⟨some 64, .bin .eql (.t 63) (ci 1), some (58, true)⟩,
 oo 65 (.pick (.t 58) (.t 64) (.c (.bool false))),
 oo 6 (.mov (.t 65))])
 (.seq (.ops false [
 oo 66 (.mov (.t 6)),
 oo 67 (.un .not (.t 66)),
 oo 68 (.mov (.t 67)),
 ⟨some 69, .faddr 0 (.t 5), some (68, false)⟩,
 ⟨some 70, .load none (.t 69), some (68, false)⟩,
 ⟨some 71, .call false 86 [(.t 70), (ci 8)], some (68, false)⟩,
 ⟨some 72, .un .not (.t 71), some (68, false)⟩,
 oo 73 (.pick (.t 68) (.c (.bool true)) (.t 72)),
 oo 74 (.mov (.t 73)),
 ⟨some 75, .faddr 1 (.t 5), some (74, false)⟩,
 ⟨some 76, .load none (.t 75), some (74, false)⟩,
 ⟨some 77, .mov (.t 3), some (74, false)⟩,
 ⟨some 78, .call false 86 [(.t 76), (.t 77)], some (74, false)⟩,
 ⟨some 79, .un .not (.t 78), some (74, false)⟩,
 oo 80 (.pick (.t 74) (.c (.bool true)) (.t 79)),
 oo 81 (.mov (.t 80)),
 ⟨some 82, .faddr 2 (.t 5), some (81, false)⟩,
 ⟨some 83, .load none (.t 82), some (81, false)⟩,
 ⟨some 84, .mov (.t 3), some (81, false)⟩,
 ⟨some 85, .call false 86 [(.t 83), (.t 84)], some (81, false)⟩,
 ⟨some 86, .un .not (.t 85), some (81, false)⟩,
 oo 87 (.pick (.t 81) (.c (.bool true)) (.t 86)),
 oo 88 (.mov (.t 87)),
 ⟨some 89, .faddr 2 (.t 5), some (88, false)⟩,
 ⟨some 90, .load none (.t 89), some (88, false)⟩,
 ⟨some 91, .len (.t 90), some (88, false)⟩,
 ⟨some 92, .bin .eql (.t 91) (ci 0), some (88, false)⟩,
 oo 93 (.pick (.t 88) (.c (.bool true)) (.t 92))])
 (.cond (.t 93)
 (.seq (.ops false [
 oo 2 (.mov (ci 11))])
 (.ret))
 (.skip))))))
 (.ops false [
 oo 94 (.bin .add (.t 42) (ci 1)),
 oo 42 (.mov (.t 94))]))))

/-- pointsman/syntax.Check -/
def a65 : AFn := .mk 95
 (.seq (.ops false [
 oo 1 (.box (some 6) (.t 0) true),
 oo 2 (.mov (ci 0))])
 (.seq (.ops false [
 oo 7 (.faddr 0 (.t 1)),
 oo 8 (.ldI none (.t 7)),
 oo 9 (.len (.t 8)),
 oo 3 (.mov (.t 9))])
 (.seq (.seq (.ops false [
 oo 10 (.mov (.t 3)),
 oo 11 (.bin .lss (.t 10) (ci 1)),
 oo 12 (.mov (.t 11)),
 ⟨some 13, .mov (.t 3), some (12, false)⟩,
 ⟨some 14, .bin .gtr (.t 13) (ci 4), some (12, false)⟩,
 oo 15 (.pick (.t 12) (.c (.bool true)) (.t 14)),
 oo 16 (.mov (.t 15)),
 ⟨some 17, .faddr 1 (.t 1), some (16, false)⟩,
 ⟨some 18, .ldI (some 4) (.t 17), some (16, false)⟩,
 ⟨some 19, .call false 83 [(.t 18)], some (16, false)⟩,
 ⟨some 20, .bin .gtr (.t 19) (ci 300), some (16, false)⟩,
 oo 21 (.pick (.t 16) (.c (.bool true)) (.t 20)),
 oo 22 (.mov (.t 21)),
 ⟨some 23, .faddr 1 (.t 1), some (22, false)⟩,
 ⟨some 24, .ldI (some 4) (.t 23), some (22, false)⟩,
 ⟨some 25, .call false 84 [(.t 24)], some (22, false)⟩,
 ⟨some 26, .bin .gtr (.t 25) (ci 20), some (22, false)⟩,
 oo 27 (.pick (.t 22) (.c (.bool true)) (.t 26)),
 oo 28 (.mov (.t 27)),
 ⟨some 29, .faddr 5 (.t 1), some (28, false)⟩,
 ⟨some 30, .ldI none (.t 29), some (28, false)⟩,
 ⟨some 31, .len (.t 30), some (28, false)⟩,
 ⟨some 32, .bin .gtr (.t 31) (ci 24), some (28, false)⟩,
 oo 33 (.pick (.t 28) (.c (.bool true)) (.t 32))])
 (.cond (.t 33)
 (.seq (.ops false [
 oo 2 (.mov (ci 2))])
 (.ret))
 (.skip)))
 (.seq (.seq (.ops false [
 oo 34 (.faddr 1 (.t 1)),
 oo 35 (.ldI (some 4) (.t 34)),
 oo 36 (.mov (.t 3)),
 oo 37 (.call false 85 [(.t 35), (.t 36)]),
 oo 38 (.un .not (.t 37))])
 (.cond (.t 38)
 (.seq (.ops false [
 oo 2 (.mov (ci 11))])
 (.ret))
 (.skip)))
 (.seq (.seq (.ops false [
 oo 39 (.faddr 5 (.t 1)),
 oo 40 (.ldI none (.t 39)),
 oo 41 (.len (.t 40)),
 oo 42 (.mov (ci 0))])
 (.block 0 (.loop b65_0)))
 (.seq (.ops false [
 oo 2 (.mov (ci 0))])
 (.ret)))))))
 [.t 2]

set_option maxRecDepth 100000 in
theorem ok65 : chkFn Try.prog 65 a65 = true := by kernel_rfl

/-- slices.Clone[[]uint16,uint16] -/
def a67 : AFn := .mk 8
 (.seq (.ops false [
 oo 2 (.mov (.c (.nils)))])
 (.seq (.seq (.ops false [
 oo 3 (.mov (.t 0)),
 oo 4 (.eqN false 1 (.t 3) (.c (.nils)))])
 (.cond (.t 4)
 (.seq (.ops false [
 oo 2 (.mov (.c (.nils)))])
 (.ret))
 (.skip)))
 (.seq (.ops false [
 oo 5 (.bslice none [] true),
 oo 6 (.mov (.t 0)),
 oo 7 (.append none (.t 5) (.t 6) true),
 oo 2 (.mov (.t 7))])
 (.ret))))
 [.t 2]

set_option maxRecDepth 100000 in
theorem ok67 : chkFn Try.prog 67 a67 = true := by kernel_rfl

def b87_0 : ACode :=
 (.seq (.ops false [
 oo 9 (.bin .lss (.t 8) (.t 7))])
 (.seq (.cond (.t 9)
 (.skip)
 (.exit 0))
 (.seq (.block 1 (.seq (.ops false [
 oo 10 (.iaddr none (.t 6) (.t 8)),
 oo 11 (.load none (.t 10)),
 oo 5 (.mov (.t 11))])
 (.ops false [
 oo 12 (.mov (.t 3)),
 oo 13 (.mov (.t 5)),
 oo 14 (.bin .shr (.t 13) (.c (.int .u64 8))),
 oo 15 (.convI .u8 (.t 14)),
 oo 16 (.mov (.t 5)),
 oo 17 (.convI .u8 (.t 16)),
 oo 18 (.bsliceI none [(.t 15), (.t 17)]),
 oo 19 (.append none (.t 12) (.t 18) false),
 oo 3 (.mov (.t 19))])))
 (.ops false [
 oo 20 (.bin .add (.t 8) (ci 1)),
 oo 8 (.mov (.t 20))]))))

/-- pointsman/space.key -/
def a87 : AFn := .mk 23
 (.seq (.ops false [
 oo 2 (.mov (.c (.str ⟨#[]⟩)))])
 (.seq (.ops false [
 oo 3 (.mov (.c (.nils)))])
 (.seq (.seq (.ops false [
 oo 6 (.mov (.t 0)),
 oo 7 (.len (.t 6)),
 oo 8 (.mov (ci 0))])
 (.block 0 (.loop b87_0)))
 (.seq (.ops false [
 oo 21 (.mov (.t 3)),
 oo 22 (.b2s (.t 21)),
 oo 2 (.mov (.t 22))])
 (.ret)))))
 [.t 2]

set_option maxRecDepth 100000 in
theorem ok87 : chkFn Try.prog 87 a87 = true := by kernel_rfl

/-- (*pointsman/space.explorer).place -/
def a66 : AFn := .mk 45
 (.seq (.ops false [
 oo 4 (.mov (ci 0))])
 (.seq (.ops true [
 oo 8 (.mov (.t 0)),
 oo 9 (.nilchk (.t 8)),
 oo 10 (.faddr 2 (.t 9)),
 oo 11 (.load none (.t 10)),
 oo 12 (.mov (.t 1)),
 oo 13 (.call false 87 [(.t 12)]),
 oo 14 (.mget .str (.int .i64 0) true (.t 11) (.t 13)),
 oo 7 (.mov (.t 14)),
 oo 15 (.extract (.t 7) 0),
 oo 16 (.extract (.t 7) 1),
 oo 5 (.mov (.t 15)),
 oo 6 (.mov (.t 16))])
 (.seq (.seq (.ops false [
 oo 17 (.mov (.t 6)),
 oo 18 (.un .not (.t 17))])
 (.cond (.t 18)
 (.seq (.ops false [
 oo 19 (.mov (.t 0)),
 oo 20 (.nilchk (.t 19)),
 oo 21 (.faddr 0 (.t 20)),
 oo 22 (.faddr 0 (.t 21)),
 oo 23 (.load none (.t 22)),
 oo 24 (.len (.t 23)),
 oo 5 (.mov (.t 24))])
 (.seq (.ops true [
 oo 25 (.mov (.t 0)),
 oo 26 (.nilchk (.t 25)),
 oo 27 (.faddr 2 (.t 26)),
 oo 28 (.load none (.t 27)),
 oo 29 (.mov (.t 1)),
 oo 30 (.call false 87 [(.t 29)]),
 oo 31 (.mov (.t 5)),
 ⟨none, .mset .str (.t 28) (.t 30) (.t 31), none⟩])
 (.ops false [
 oo 32 (.mov (.t 0)),
 oo 33 (.mov (.t 0)),
 oo 34 (.nilchk (.t 33)),
 oo 35 (.faddr 0 (.t 34)),
 oo 36 (.faddr 0 (.t 35)),
 oo 37 (.load none (.t 36)),
 oo 38 (.mov (.t 1)),
 oo 39 (.bsliceI none [(.t 38)]),
 oo 40 (.append none (.t 37) (.t 39) false),
 oo 41 (.nilchk (.t 32)),
 oo 42 (.faddr 0 (.t 41)),
 oo 43 (.faddr 0 (.t 42)),
 ⟨none, .store none (.t 43) (.t 40), none⟩])))
 (.skip)))
 (.seq (.ops false [
 oo 44 (.mov (.t 5)),
 oo 4 (.mov (.t 44))])
 (.ret)))))
 [.t 4]

set_option maxRecDepth 100000 in
theorem ok66 : chkFn Try.prog 66 a66 = true := by kernel_rfl

def b31_0 : ACode :=
 (.seq (.ops false [
 oo 14 (.bin .lss (.t 13) (.t 12))])
 (.seq (.cond (.t 14)
 (.skip)
 (.exit 0))
 (.seq (.block 1 (.seq (.ops false [
 oo 15 (.iaddr (some 2) (.t 11) (.t 13)),
 oo 16 (.load (some 2) (.t 15)),
 oo 7 (.alloc [.int .i64 0, .int .u16 0]),
 ⟨none, .store (some 2) (.t 7) (.t 16), none⟩])
 (.seq (.ops false [
 oo 17 (.faddr 0 (.t 7)),
 oo 18 (.load none (.t 17)),
 oo 19 (.bin .geq (.t 18) (ci 0)),
 oo 20 (.mov (.t 19)),
 ⟨some 21, .faddr 0 (.t 7), some (20, true)⟩,
 ⟨some 22, .load none (.t 21), some (20, true)⟩,
 ⟨some 23, .mov (.t 5), some (20, true)⟩,
 ⟨some 24, .len (.t 23), some (20, true)⟩,
 ⟨some 25, .bin .lss (.t 22) (.t 24), some (20, true)⟩,
 oo 26 (.pick (.t 20) (.t 25) (.c (.bool false)))])
 (.cond (.t 26)
 (.ops false [
 oo 27 (.mov (.t 5)),
 oo 28 (.faddr 0 (.t 7)),
 oo 29 (.load none (.t 28)),
 oo 30 (.faddr 1 (.t 7)),
 oo 31 (.load none (.t 30)),
 oo 32 (.iaddr none (.t 27) (.t 29)),
 ⟨none, .store none (.t 32) (.t 31), none⟩])
 (.skip)))))
 (.ops false [
 oo 33 (.bin .add (.t 13) (ci 1)),
 oo 13 (.mov (.t 33))]))))

/-- pointsman/space.After -/
def a31 : AFn := .mk 35
 (.seq (.ops false [
 oo 2 (.box (some 3) (.t 0) true),
 oo 4 (.mov (.c (.vec none [])))])
 (.seq (.ops false [
 oo 8 (.mov (.t 1)),
 oo 9 (.call true 67 [(.t 8)]),
 oo 5 (.mov (.t 9))])
 (.seq (.seq (.ops false [
 oo 10 (.faddr 2 (.t 2)),
 oo 11 (.ldI none (.t 10)),
 oo 12 (.len (.t 11)),
 oo 13 (.mov (ci 0))])
 (.block 0 (.loop b31_0)))
 (.seq (.ops false [
 oo 34 (.mov (.t 5)),
 oo 4 (.mov (.t 34))])
 (.ret)))))
 [.t 4]

set_option maxRecDepth 100000 in
theorem ok31 : chkFn Try.prog 31 a31 = true := by kernel_rfl

/-- pointsman/space.Goes$1 -/
def a73 : AFn := .mk 24
 (.seq (.ops false [
 oo 2 (.box (some 2) (.t 0) true),
 oo 3 (.mov (.c (.bool false)))])
 (.seq (.ops true [
 oo 4 (.faddr 0 (.t 2)),
 oo 5 (.ldI none (.t 4)),
 oo 6 (.bin .lss (.t 5) (ci 0)),
 oo 7 (.mov (.t 6)),
 ⟨some 8, .faddr 0 (.t 2), some (7, false)⟩,
 ⟨some 9, .ldI none (.t 8), some (7, false)⟩,
 ⟨some 10, .load none (.t 1), some (7, false)⟩,
 ⟨some 11, .len (.t 10), some (7, false)⟩,
 ⟨some 12, .bin .geq (.t 9) (.t 11), some (7, false)⟩,
 oo 13 (.pick (.t 7) (.c (.bool true)) (.t 12)),
 oo 14 (.mov (.t 13)),
 ⟨some 15, .load none (.t 1), some (14, false)⟩,
 ⟨some 16, .faddr 0 (.t 2), some (14, false)⟩,
 ⟨some 17, .ldI none (.t 16), some (14, false)⟩,
 ⟨some 18, .iaddr none (.t 15) (.t 17), some (14, false)⟩,
 ⟨some 19, .load none (.t 18), some (14, false)⟩,
 ⟨some 20, .faddr 1 (.t 2), some (14, false)⟩,
 ⟨some 21, .ldI none (.t 20), some (14, false)⟩,
 ⟨some 22, .bin .neq (.t 19) (.t 21), some (14, false)⟩,
 oo 23 (.pick (.t 14) (.c (.bool true)) (.t 22)),
 oo 3 (.mov (.t 23))])
 (.ret)))
 [.t 3]

set_option maxRecDepth 100000 in
theorem ok73 : chkFn Try.prog 73 a73 = true := by kernel_rfl

def b89_0 : ACode :=
 (.seq (.ops false [
 oo 9 (.bin .lss (.t 8) (.t 7))])
 (.seq (.cond (.t 9)
 (.skip)
 (.exit 0))
 (.seq (.block 1 (.seq (.ops false [
 oo 10 (.mov (.t 8)),
 oo 5 (.mov (.t 10))])
 (.seq (.ops false [
 oo 11 (.mov (.t 1)),
 oo 12 (.mov (.t 0)),
 oo 13 (.mov (.t 5)),
 oo 14 (.iaddr (some 2) (.t 12) (.t 13)),
 oo 15 (.load (some 2) (.t 14)),
 oo 16 (.callv false (.t 11) [(.t 15)])])
 (.cond (.t 16)
 (.seq (.ops false [
 oo 17 (.mov (.t 5)),
 oo 4 (.mov (.t 17))])
 (.ret))
 (.skip)))))
 (.ops false [
 oo 18 (.bin .add (.t 8) (ci 1)),
 oo 8 (.mov (.t 18))]))))

/-- slices.IndexFunc[[]pointsman/api.Pair,pointsman/api.Pair] -/
def a89 : AFn := .mk 19
 (.seq (.ops false [
 oo 4 (.mov (ci 0))])
 (.seq (.seq (.ops false [
 oo 6 (.mov (.t 0)),
 oo 7 (.len (.t 6)),
 oo 8 (.mov (ci 0))])
 (.block 0 (.loop b89_0)))
 (.seq (.ops false [
 oo 4 (.mov (ci (-1)))])
 (.ret))))
 [.t 4]

set_option maxRecDepth 100000 in
theorem ok89 : chkFn Try.prog 89 a89 = true := by kernel_rfl

/-- slices.ContainsFunc[[]pointsman/api.Pair,pointsman/api.Pair] -/
def a72 : AFn := .mk 9
 (.seq (.ops false [
 oo 4 (.mov (.c (.bool false)))])
 (.seq (.ops false [
 oo 5 (.mov (.t 0)),
 oo 6 (.mov (.t 1)),
 oo 7 (.call false 89 [(.t 5), (.t 6)]),
 oo 8 (.bin .geq (.t 7) (ci 0)),
 oo 4 (.mov (.t 8))])
 (.ret)))
 [.t 4]

set_option maxRecDepth 100000 in
theorem ok72 : chkFn Try.prog 72 a72 = true := by kernel_rfl

/-- pointsman/space.Goes -/
def a28 : AFn := .mk 10
 (.seq (.ops false [
 oo 2 (.box (some 3) (.t 0) true),
 oo 3 (.box none (.t 1) true),
 oo 4 (.mov (.c (.bool false)))])
 (.seq (.ops false [
 oo 5 (.faddr 1 (.t 2)),
 oo 6 (.ldI none (.t 5)),
 oo 7 (.mkfunc 73 [(.t 3)]),
 oo 8 (.call false 72 [(.t 6), (.t 7)]),
 oo 9 (.un .not (.t 8)),
 oo 4 (.mov (.t 9))])
 (.ret)))
 [.t 4]

set_option maxRecDepth 100000 in
theorem ok28 : chkFn Try.prog 28 a28 = true := by kernel_rfl

def b68_0 : ACode :=
 (.seq (.ops false [
 oo 14 (.bin .lss (.t 13) (.t 12))])
 (.seq (.cond (.t 14)
 (.skip)
 (.exit 0))
 (.seq (.block 1 (.seq (.ops false [
 oo 15 (.mov (.t 13)),
 oo 5 (.mov (.t 15))])
 (.seq (.ops true [
 oo 16 (.mov (.t 0)),
 oo 17 (.mov (.t 5)),
 oo 18 (.iaddr none (.t 16) (.t 17)),
 oo 19 (.load none (.t 18)),
 oo 20 (.mov (.t 1)),
 oo 21 (.mov (.t 5)),
 oo 22 (.iaddr none (.t 20) (.t 21)),
 oo 23 (.load none (.t 22)),
 oo 24 (.bin .neq (.t 19) (.t 23))])
 (.cond (.t 24)
 (.seq (.ops false [
 oo 4 (.mov (.c (.bool false)))])
 (.ret))
 (.skip)))))
 (.ops false [
 oo 25 (.bin .add (.t 13) (ci 1)),
 oo 13 (.mov (.t 25))]))))

/-- slices.Equal[[]uint16,uint16] -/
def a68 : AFn := .mk 26
 (.seq (.ops false [
 oo 4 (.mov (.c (.bool false)))])
 (.seq (.seq (.ops false [
 oo 6 (.mov (.t 0)),
 oo 7 (.len (.t 6)),
 oo 8 (.mov (.t 1)),
 oo 9 (.len (.t 8)),
 oo 10 (.bin .neq (.t 7) (.t 9))])
 (.cond (.t 10)
 (.seq (.ops false [
 oo 4 (.mov (.c (.bool false)))])
 (.ret))
 (.skip)))
 (.seq (.seq (.ops false [
 oo 11 (.mov (.t 0)),
 oo 12 (.len (.t 11)),
 oo 13 (.mov (ci 0))])
 (.block 0 (.loop b68_0)))
 (.seq (.ops false [
 oo 4 (.mov (.c (.bool true)))])
 (.ret)))))
 [.t 4]

set_option maxRecDepth 100000 in
theorem ok68 : chkFn Try.prog 68 a68 = true := by kernel_rfl

def b34_0 : ACode :=
 (.seq (.ops false [
 oo 12 (.bin .lss (.t 11) (.t 10))])
 (.seq (.cond (.t 12)
 (.skip)
 (.exit 0))
 (.seq (.block 1 (.seq (.ops false [
 oo 13 (.iaddr (some 3) (.t 9) (.t 11)),
 oo 14 (.load (some 3) (.t 13)),
 oo 7 (.alloc [.int .i64 0, .int .i64 0, .int .i64 0]),
 ⟨none, .store (some 3) (.t 7) (.t 14), none⟩])
 (.seq (.ops false [
 oo 15 (.faddr 0 (.t 7)),
 oo 16 (.load none (.t 15)),
 oo 17 (.mov (.t 1)),
 oo 18 (.bin .eql (.t 16) (.t 17))])
 (.cond (.t 18)
 (.ops false [
 oo 19 (.mov (.t 5)),
 oo 20 (.load (some 3) (.t 7)),
 oo 21 (.bsliceI (some 3) [(.t 20)]),
 oo 22 (.append (some 3) (.t 19) (.t 21) false),
 oo 5 (.mov (.t 22))])
 (.skip)))))
 (.ops false [
 oo 23 (.bin .add (.t 11) (ci 1)),
 oo 11 (.mov (.t 23))]))))

/-- pointsman/space.From -/
def a34 : AFn := .mk 25
 (.seq (.ops false [
 oo 2 (.box (some 2) (.t 0) true),
 oo 4 (.mov (.c (.vec (some 3) [])))])
 (.seq (.ops false [
 oo 5 (.mov (.c (.nils)))])
 (.seq (.seq (.ops false [
 oo 8 (.faddr 1 (.t 2)),
 oo 9 (.ldI none (.t 8)),
 oo 10 (.len (.t 9)),
 oo 11 (.mov (ci 0))])
 (.block 0 (.loop b34_0)))
 (.seq (.ops false [
 oo 24 (.mov (.t 5)),
 oo 4 (.mov (.t 24))])
 (.ret)))))
 [.t 4]

set_option maxRecDepth 100000 in
theorem ok34 : chkFn Try.prog 34 a34 = true := by kernel_rfl

def b88_0 : ACode :=
 (.seq (.ops false [
 oo 26 (.bin .lss (.t 25) (.t 24))])
 (.seq (.cond (.t 26)
 (.skip)
 (.exit 0))
 (.seq (.block 1 (.seq (.ops false [
 oo 27 (.iaddr (some 3) (.t 23) (.t 25)),
 oo 28 (.load (some 3) (.t 27)),
 oo 7 (.alloc [.int .i64 0, .int .i64 0, .int .i64 0]),
 ⟨none, .store (some 3) (.t 7) (.t 28), none⟩])
 (.seq (.ops false [
 oo 29 (.load none (.t 3)),
 oo 30 (.faddr 2 (.t 7)),
 oo 31 (.load none (.t 30)),
 oo 32 (.callv true (.t 29) [(.t 31)])])
 (.cond (.t 32)
 (.seq (.ops false [
 oo 5 (.mov (.c (.bool true)))])
 (.ret))
 (.skip)))))
 (.ops false [
 oo 33 (.bin .add (.t 25) (ci 1)),
 oo 25 (.mov (.t 33))]))))

/-- pointsman/space.comesBack$1 -/
def a88 : AFn := .mk 37
 (.seq (.ops false [
 oo 5 (.mov (.c (.bool false)))])
 (.seq (.seq (.ops false [
 oo 8 (.load none (.t 1)),
 oo 9 (.mov (.t 0)),
 oo 10 (.iaddr none (.t 8) (.t 9)),
 oo 11 (.load none (.t 10)),
 oo 12 (.bin .neq (.t 11) (ci 0))])
 (.cond (.t 12)
 (.seq (.ops false [
 oo 13 (.load none (.t 1)),
 oo 14 (.mov (.t 0)),
 oo 15 (.iaddr none (.t 13) (.t 14)),
 oo 16 (.load none (.t 15)),
 oo 17 (.bin .eql (.t 16) (ci 1)),
 oo 5 (.mov (.t 17))])
 (.ret))
 (.skip)))
 (.seq (.ops false [
 oo 18 (.load none (.t 1)),
 oo 19 (.mov (.t 0)),
 oo 20 (.iaddr none (.t 18) (.t 19)),
 ⟨none, .store none (.t 20) (ci 1), none⟩])
 (.seq (.seq (.ops false [
 oo 21 (.load (some 2) (.t 2)),
 oo 22 (.mov (.t 0)),
 oo 23 (.call false 34 [(.t 21), (.t 22)]),
 oo 24 (.len (.t 23)),
 oo 25 (.mov (ci 0))])
 (.block 0 (.loop b88_0)))
 (.seq (.ops false [
 oo 34 (.load none (.t 1)),
 oo 35 (.mov (.t 0)),
 oo 36 (.iaddr none (.t 34) (.t 35)),
 ⟨none, .store none (.t 36) (ci 2), none⟩])
 (.seq (.ops false [
 oo 5 (.mov (.c (.bool false)))])
 (.ret)))))))
 [.t 5]

set_option maxRecDepth 100000 in
theorem ok88 : chkFn Try.prog 88 a88 = true := by kernel_rfl

/-- pointsman/space.comesBack -/
def a69 : AFn := .mk 17
 (.seq (.ops false [
 oo 1 (.box (some 2) (.t 0) true),
 oo 2 (.mov (.c (.bool false)))])
 (.seq (.ops false [
 oo 5 (.faddr 0 (.t 1)),
 oo 6 (.ldI none (.t 5)),
 oo 7 (.len (.t 6)),
 oo 8 (.mkslice none (.int .i64 0) (.t 7) (.t 7)),
 oo 3 (.alloc [.nils]),
 ⟨none, .store none (.t 3) (.t 8), none⟩])
 (.seq (.ops false [
 oo 4 (.alloc [.nilf])])
 (.seq (.ops false [
 oo 9 (.mkfunc 88 [(.t 3), (.t 1), (.t 4)]),
 ⟨none, .store none (.t 4) (.t 9), none⟩])
 (.seq (.ops false [
 oo 10 (.load none (.t 3)),
 oo 11 (.len (.t 10)),
 oo 12 (.bin .gtr (.t 11) (ci 0)),
 oo 13 (.mov (.t 12)),
 ⟨some 14, .load none (.t 4), some (13, true)⟩,
 ⟨some 15, .callv true (.t 14) [(ci 0)], some (13, true)⟩,
 oo 16 (.pick (.t 13) (.t 15) (.c (.bool false))),
 oo 2 (.mov (.t 16))])
 (.ret))))))
 [.t 2]

set_option maxRecDepth 100000 in
theorem ok69 : chkFn Try.prog 69 a69 = true := by kernel_rfl

def b25_1 : ACode :=
 (.seq (.ops false [
 oo 39 (.bin .lss (.t 38) (.t 37))])
 (.seq (.cond (.t 39)
 (.skip)
 (.exit 2))
 (.seq (.block 3 (.seq (.ops false [
 oo 40 (.mov (.t 38)),
 oo 41 (.iaddr (some 3) (.t 36) (.t 38)),
 oo 42 (.load (some 3) (.t 41)),
 oo 8 (.alloc [.vec (some 2) [], .vec (some 2) [], .vec (some 2) []]),
 oo 7 (.mov (.t 40)),
 ⟨none, .store (some 3) (.t 8) (.t 42), none⟩])
 (.seq (.ops false [
 oo 43 (.mov (.t 5)),
 oo 44 (.nilchk (.t 43)),
 oo 45 (.faddr 0 (.t 44)),
 oo 46 (.faddr 0 (.t 45)),
 oo 47 (.load none (.t 46)),
 oo 48 (.mov (.t 6)),
 oo 49 (.iaddr none (.t 47) (.t 48)),
 oo 50 (.load none (.t 49)),
 oo 9 (.mov (.t 50))])
 (.seq (.ops false [
 oo 51 (.load (some 3) (.t 8)),
 oo 52 (.mov (.t 9)),
 oo 53 (.call false 31 [(.t 51), (.t 52)]),
 oo 10 (.mov (.t 53))])
 (.seq (.seq (.ops false [
 oo 54 (.load (some 3) (.t 8)),
 oo 55 (.mov (.t 9)),
 oo 56 (.call false 28 [(.t 54), (.t 55)]),
 oo 57 (.un .not (.t 56)),
 oo 58 (.mov (.t 57)),
 ⟨some 59, .mov (.t 9), some (58, false)⟩,
 ⟨some 60, .mov (.t 10), some (58, false)⟩,
 ⟨some 61, .call false 68 [(.t 59), (.t 60)], some (58, false)⟩,
 oo 62 (.pick (.t 58) (.c (.bool true)) (.t 61))])
 (.cond (.t 62)
 (.exit 3)
 (.skip)))
 (.seq (.opsS [(5, 10)] [
 oo 63 (.mov (.t 5)),
 oo 64 (.mov (.t 5)),
 oo 65 (.nilchk (.t 64)),
 oo 66 (.faddr 0 (.t 65)),
 oo 67 (.faddr 1 (.t 66)),
 oo 68 (.load none (.t 67)),
 oo 69 (.mov (.t 6)),
 oo 70 (.mov (.t 7)),
 oo 71 (.mov (.t 5)),
 oo 72 (.mov (.t 10)),
 oo 73 (.call true 66 [(.t 71), (.t 72)]),
 oo 74 (.build [.int .i64 0, .int .i64 0, .int .i64 0] [(0, 1, (.t 69)), (1, 1, (.t 70)), (2, 1, (.t 73))]),
 oo 75 (.bsliceI (some 3) [(.t 74)]),
 oo 76 (.append (some 3) (.t 68) (.t 75) false),
 oo 77 (.nilchk (.t 63)),
 oo 78 (.faddr 0 (.t 77)),
 oo 79 (.faddr 1 (.t 78)),
 ⟨none, .store none (.t 79) (.t 76), none⟩])
 (.seq (.ops false [
 oo 80 (.mov (.t 5)),
 oo 81 (.nilchk (.t 80)),
 oo 82 (.faddr 0 (.t 81)),
 oo 83 (.faddr 0 (.t 82)),
 oo 84 (.load none (.t 83)),
 oo 85 (.len (.t 84)),
 oo 86 (.bin .gtr (.t 85) (ci 128))])
 (.cond (.t 86)
 (.seq (.ops false [
 oo 87 (.build [.vec none [], .vec (some 3) []] []),
 ⟨none, .store (some 2) (.t 2) (.t 87), none⟩,
 oo 3 (.mov (ci 21))])
 (.ret))
 (.skip)))))))))
 (.ops false [
 oo 88 (.bin .add (.t 38) (ci 1)),
 oo 38 (.mov (.t 88))]))))

def b25_0 : ACode :=
 (.seq (.seq (.ops false [
 oo 25 (.mov (.t 6)),
 oo 26 (.mov (.t 5)),
 oo 27 (.nilchk (.t 26)),
 oo 28 (.faddr 0 (.t 27)),
 oo 29 (.faddr 0 (.t 28)),
 oo 30 (.load none (.t 29)),
 oo 31 (.len (.t 30)),
 oo 32 (.bin .lss (.t 25) (.t 31))])
 (.cond (.t 32)
 (.skip)
 (.exit 0)))
 (.seq (.block 1 (.seq (.ops false [
 oo 35 (.faddr 5 (.t 1)),
 oo 36 (.ldI none (.t 35)),
 oo 37 (.len (.t 36)),
 oo 38 (.mov (ci 0))])
 (.block 2 (.loop b25_1))))
 (.ops false [
 oo 33 (.mov (.t 6)),
 oo 34 (.bin .add (.t 33) (ci 1)),
 oo 6 (.mov (.t 34))])))

/-- pointsman/space.Explore -/
def a25 : AFn := .mk 99
 (.seq (.ops false [
 oo 1 (.box (some 6) (.t 0) true),
 oo 2 (.alloc [.vec none [], .vec (some 3) []]),
 oo 3 (.mov (ci 0))])
 (.seq (.seq (.ops false [
 oo 11 (.ldI (some 6) (.t 1)),
 oo 12 (.call false 65 [(.t 11)]),
 oo 4 (.mov (.t 12))])
 (.seq (.ops false [
 oo 13 (.mov (.t 4)),
 oo 14 (.bin .neq (.t 13) (ci 0))])
 (.cond (.t 14)
 (.seq (.ops false [
 oo 15 (.build [.vec none [], .vec (some 3) []] []),
 oo 16 (.mov (.t 4)),
 ⟨none, .store (some 2) (.t 2) (.t 15), none⟩,
 oo 3 (.mov (.t 16))])
 (.ret))
 (.skip))))
 (.seq (.ops false [
 oo 17 (.mkmap),
 oo 18 (.build [.nils, .nils, .nilm] [(2, 1, (.t 17))]),
 oo 19 (.box (some 3) (.t 18) false),
 oo 5 (.mov (.t 19))])
 (.seq (.ops false [
 oo 20 (.mov (.t 5)),
 oo 21 (.faddr 0 (.t 1)),
 oo 22 (.ldI none (.t 21)),
 oo 23 (.call true 67 [(.t 22)]),
 oo 24 (.call true 66 [(.t 20), (.t 23)])])
 (.seq (.seq (.ops false [
 oo 6 (.mov (ci 0))])
 (.block 0 (.loop b25_0)))
 (.seq (.seq (.ops false [
 oo 89 (.mov (.t 5)),
 oo 90 (.nilchk (.t 89)),
 oo 91 (.faddr 0 (.t 90)),
 oo 92 (.load (some 2) (.t 91)),
 oo 93 (.call false 69 [(.t 92)])])
 (.cond (.t 93)
 (.seq (.ops false [
 oo 94 (.build [.vec none [], .vec (some 3) []] []),
 ⟨none, .store (some 2) (.t 2) (.t 94), none⟩,
 oo 3 (.mov (ci 20))])
 (.ret))
 (.skip)))
 (.seq (.ops false [
 oo 95 (.mov (.t 5)),
 oo 96 (.nilchk (.t 95)),
 oo 97 (.faddr 0 (.t 96)),
 oo 98 (.load (some 2) (.t 97)),
 ⟨none, .store (some 2) (.t 2) (.t 98), none⟩,
 oo 3 (.mov (ci 0))])
 (.ret))))))))
 [.cell 2 (some 2), .t 3]

set_option maxRecDepth 100000 in
theorem ok25 : chkFn Try.prog 25 a25 = true := by kernel_rfl

def b33_0 : ACode :=
 (.seq (.ops false [
 oo 9 (.bin .lss (.t 8) (.t 7))])
 (.seq (.cond (.t 9)
 (.skip)
 (.exit 0))
 (.seq (.block 1 (.seq (.ops false [
 oo 10 (.mov (.t 8)),
 oo 4 (.mov (.t 10))])
 (.seq (.ops false [
 oo 11 (.ldI (some 2) (.t 1)),
 oo 12 (.mov (.t 4)),
 oo 13 (.call false 34 [(.t 11), (.t 12)]),
 oo 14 (.len (.t 13)),
 oo 15 (.bin .eql (.t 14) (ci 0))])
 (.cond (.t 15)
 (.ops false [
 oo 16 (.mov (.t 3)),
 oo 17 (.mov (.t 4)),
 oo 18 (.bsliceI none [(.t 17)]),
 oo 19 (.append none (.t 16) (.t 18) false),
 oo 3 (.mov (.t 19))])
 (.skip)))))
 (.ops false [
 oo 20 (.bin .add (.t 8) (ci 1)),
 oo 8 (.mov (.t 20))]))))

/-- pointsman/space.Ends -/
def a33 : AFn := .mk 22
 (.seq (.ops false [
 oo 1 (.box (some 2) (.t 0) true),
 oo 2 (.mov (.c (.vec none [])))])
 (.seq (.ops false [
 oo 3 (.mov (.c (.nils)))])
 (.seq (.seq (.ops false [
 oo 5 (.faddr 0 (.t 1)),
 oo 6 (.ldI none (.t 5)),
 oo 7 (.len (.t 6)),
 oo 8 (.mov (ci 0))])
 (.block 0 (.loop b33_0)))
 (.seq (.ops false [
 oo 21 (.mov (.t 3)),
 oo 2 (.mov (.t 21))])
 (.ret)))))
 [.t 2]

set_option maxRecDepth 100000 in
theorem ok33 : chkFn Try.prog 33 a33 = true := by kernel_rfl

/-- pointsman/pointsmanlaw11.awake -/
def a23 : AFn := .mk 79
 (.seq (.ops false [
 oo 0 (.mov (.c (.bool false)))])
 (.seq (.ops false [
 oo 6 (.bsliceI none [(.c (.int .u16 0))]),
 oo 7 (.build [.int .i64 0, .int .u16 0] [(1, 1, (.c (.int .u16 0)))]),
 oo 8 (.bsliceI (some 2) [(.t 7)]),
 oo 9 (.build [.int .i64 0, .int .u16 0] [(1, 1, (.c (.int .u16 1)))]),
 oo 10 (.bsliceI (some 2) [(.t 9)]),
 oo 11 (.call false 64 [(.t 8), (.t 10)]),
 oo 12 (.build [.int .i64 0, .int .u16 0] [(1, 1, (.c (.int .u16 1)))]),
 oo 13 (.bsliceI (some 2) [(.t 12)]),
 oo 14 (.build [.int .i64 0, .int .u16 0] [(1, 1, (.c (.int .u16 2)))]),
 oo 15 (.bsliceI (some 2) [(.t 14)]),
 oo 16 (.call false 64 [(.t 13), (.t 15)]),
 oo 17 (.bslice (some 3) [(.t 11), (.t 16)] false),
 oo 18 (.build [.vec none [], .int .i64 0, .int .i64 0, .int .u16 0, .vec (some 4) [], .nils] [(0, 1, (.t 6)), (5, 1, (.t 17))]),
 oo 1 (.alloc [.vec none [], .int .i64 0, .int .i64 0, .int .u16 0, .vec (some 4) [], .nils]),
 ⟨none, .store (some 6) (.t 1) (.t 18), none⟩])
 (.seq (.ops false [
 oo 20 (.load (some 6) (.t 1)),
 oo 21 (.call false 25 [(.t 20)]),
 oo 19 (.mov (.t 21)),
 oo 22 (.extract (.t 19) 0),
 oo 23 (.extract (.t 19) 1),
 oo 2 (.alloc [.vec none [], .vec (some 3) []]),
 ⟨none, .store (some 2) (.t 2) (.t 22), none⟩,
 oo 3 (.mov (.t 23))])
 (.seq (.ops true [
 oo 24 (.faddr 5 (.t 1)),
 oo 25 (.load none (.t 24)),
 oo 26 (.build [.int .i64 0, .int .u16 0] [(1, 1, (.c (.int .u16 2)))]),
 oo 27 (.bsliceI (some 2) [(.t 26)]),
 oo 28 (.build [.int .i64 0, .int .u16 0] [(1, 1, (.c (.int .u16 0)))]),
 oo 29 (.bsliceI (some 2) [(.t 28)]),
 oo 30 (.call false 64 [(.t 27), (.t 29)]),
 oo 31 (.bsliceI (some 3) [(.t 30)]),
 oo 32 (.append (some 3) (.t 25) (.t 31) false),
 oo 33 (.faddr 5 (.t 1)),
 ⟨none, .store none (.t 33) (.t 32), none⟩])
 (.seq (.ops false [
 oo 35 (.load (some 6) (.t 1)),
 oo 36 (.call false 25 [(.t 35)]),
 oo 34 (.mov (.t 36)),
 oo 37 (.extract (.t 34) 0),
 oo 38 (.extract (.t 34) 1),
 oo 4 (.alloc [.vec none [], .vec (some 3) []]),
 ⟨none, .store (some 2) (.t 4) (.t 37), none⟩,
 oo 5 (.mov (.t 38))])
 (.seq (.ops false [
 oo 39 (.mov (.t 3)),
 oo 40 (.bin .eql (.t 39) (ci 0)),
 oo 41 (.mov (.t 40)),
 ⟨some 42, .mov (.t 5), some (41, true)⟩,
 ⟨some 43, .bin .eql (.t 42) (ci 20), some (41, true)⟩,
 oo 44 (.pick (.t 41) (.t 43) (.c (.bool false))),
 oo 45 (.mov (.t 44)),
 ⟨some 46, .faddr 0 (.t 2), some (45, true)⟩,
 ⟨some 47, .load none (.t 46), some (45, true)⟩,
 ⟨some 48, .len (.t 47), some (45, true)⟩,
 ⟨some 49, .bin .eql (.t 48) (ci 3), some (45, true)⟩,
 oo 50 (.pick (.t 45) (.t 49) (.c (.bool false))),
 oo 51 (.mov (.t 50)),
 ⟨some 52, .faddr 1 (.t 2), some (51, true)⟩,
 ⟨some 53, .load none (.t 52), some (51, true)⟩,
 ⟨some 54, .len (.t 53), some (51, true)⟩,
 ⟨some 55, .bin .eql (.t 54) (ci 2), some (51, true)⟩,
 oo 56 (.pick (.t 51) (.t 55) (.c (.bool false))),
 oo 57 (.mov (.t 56)),
 ⟨some 58, .faddr 1 (.t 2), some (57, true)⟩,
 ⟨some 59, .load none (.t 58), some (57, true)⟩,
 ⟨some 60, .iaddr (some 3) (.t 59) (ci 1), some (57, true)⟩,
 ⟨some 61, .load (some 3) (.t 60), some (57, true)⟩,
 ⟨some 62, .build [.int .i64 0, .int .i64 0, .int .i64 0] [(0, 1, (ci 1)), (1, 1, (ci 1)), (2, 1, (ci 2))], some (57, true)⟩,
 ⟨some 63, .eqS false [.int, .int, .int] (.t 61) (.t 62), some (57, true)⟩,
 oo 64 (.pick (.t 57) (.t 63) (.c (.bool false))),
 oo 65 (.mov (.t 64)),
 ⟨some 66, .load (some 2) (.t 2), some (65, true)⟩,
 ⟨some 67, .call false 33 [(.t 66)], some (65, true)⟩,
 ⟨some 68, .len (.t 67), some (65, true)⟩,
 ⟨some 69, .bin .eql (.t 68) (ci 1), some (65, true)⟩,
 oo 70 (.pick (.t 65) (.t 69) (.c (.bool false))),
 oo 71 (.mov (.t 70)),
 ⟨some 72, .faddr 5 (.t 1), some (71, true)⟩,
 ⟨some 73, .load none (.t 72), some (71, true)⟩,
 ⟨some 74, .iaddr (some 3) (.t 73) (ci 0), some (71, true)⟩,
 ⟨some 75, .load (some 3) (.t 74), some (71, true)⟩,
 ⟨some 76, .bsliceI none [(.c (.int .u16 0))], some (71, true)⟩,
 ⟨some 77, .call false 28 [(.t 75), (.t 76)], some (71, true)⟩,
 oo 78 (.pick (.t 71) (.t 77) (.c (.bool false))),
 oo 0 (.mov (.t 78))])
 (.ret)))))))
 [.t 0]

set_option maxRecDepth 100000 in
theorem ok23 : chkFn Try.prog 23 a23 = true := by kernel_rfl

def b24_0 : ACode :=
 (.seq (.ops false [
 oo 19 (.bin .lss (.t 18) (.t 17))])
 (.seq (.cond (.t 19)
 (.skip)
 (.exit 0))
 (.seq (.block 1 (.seq (.ops false [
 oo 20 (.iaddr (some 3) (.t 16) (.t 18)),
 oo 21 (.load (some 3) (.t 20)),
 oo 4 (.alloc [.vec (some 2) [], .vec (some 2) [], .vec (some 2) []]),
 ⟨none, .store (some 3) (.t 4) (.t 21), none⟩])
 (.seq (.ops false [
 oo 22 (.faddr 0 (.t 4)),
 oo 23 (.load none (.t 22)),
 oo 24 (.len (.t 23)),
 oo 25 (.bin .gtr (.t 24) (ci 8)),
 oo 26 (.mov (.t 25)),
 ⟨some 27, .faddr 1 (.t 4), some (26, false)⟩,
 ⟨some 28, .load none (.t 27), some (26, false)⟩,
 ⟨some 29, .len (.t 28), some (26, false)⟩,
 ⟨some 30, .bin .gtr (.t 29) (ci 6), some (26, false)⟩,
 oo 31 (.pick (.t 26) (.c (.bool true)) (.t 30)),
 oo 32 (.mov (.t 31)),
 ⟨some 33, .faddr 2 (.t 4), some (32, false)⟩,
 ⟨some 34, .load none (.t 33), some (32, false)⟩,
 ⟨some 35, .len (.t 34), some (32, false)⟩,
 ⟨some 36, .bin .gtr (.t 35) (ci 6), some (32, false)⟩,
 oo 37 (.pick (.t 32) (.c (.bool true)) (.t 36))])
 (.cond (.t 37)
 (.seq (.ops false [
 oo 2 (.mov (.c (.bool false)))])
 (.ret))
 (.skip)))))
 (.ops false [
 oo 38 (.bin .add (.t 18) (ci 1)),
 oo 18 (.mov (.t 38))]))))

/-- pointsman/pointsmanlaw11.Small -/
def a24 : AFn := .mk 39
 (.seq (.ops false [
 oo 1 (.box (some 6) (.t 0) true),
 oo 2 (.mov (.c (.bool false)))])
 (.seq (.seq (.ops false [
 oo 5 (.faddr 0 (.t 1)),
 oo 6 (.ldI none (.t 5)),
 oo 7 (.len (.t 6)),
 oo 8 (.bin .gtr (.t 7) (ci 5)),
 oo 9 (.mov (.t 8)),
 ⟨some 10, .faddr 5 (.t 1), some (9, false)⟩,
 ⟨some 11, .ldI none (.t 10), some (9, false)⟩,
 ⟨some 12, .len (.t 11), some (9, false)⟩,
 ⟨some 13, .bin .gtr (.t 12) (ci 26), some (9, false)⟩,
 oo 14 (.pick (.t 9) (.c (.bool true)) (.t 13))])
 (.cond (.t 14)
 (.seq (.ops false [
 oo 2 (.mov (.c (.bool false)))])
 (.ret))
 (.skip)))
 (.seq (.seq (.ops false [
 oo 15 (.faddr 5 (.t 1)),
 oo 16 (.ldI none (.t 15)),
 oo 17 (.len (.t 16)),
 oo 18 (.mov (ci 0))])
 (.block 0 (.loop b24_0)))
 (.seq (.ops false [
 oo 2 (.mov (.c (.bool true)))])
 (.ret)))))
 [.t 2]

set_option maxRecDepth 100000 in
theorem ok24 : chkFn Try.prog 24 a24 = true := by kernel_rfl

def b29_0 : ACode :=
 (.seq (.seq (.ops false [
 oo 7 (.mov (.t 5)),
 oo 8 (.faddr 1 (.t 2)),
 oo 9 (.ldI none (.t 8)),
 oo 10 (.len (.t 9)),
 oo 11 (.bin .lss (.t 7) (.t 10))])
 (.cond (.t 11)
 (.skip)
 (.exit 0)))
 (.seq (.block 1 (.seq (.ops false [
 oo 14 (.faddr 1 (.t 2)),
 oo 15 (.ldI none (.t 14)),
 oo 16 (.mov (.t 5)),
 oo 17 (.iaddr (some 2) (.t 15) (.t 16)),
 oo 18 (.load (some 2) (.t 17)),
 oo 6 (.alloc [.int .i64 0, .int .u16 0]),
 ⟨none, .store (some 2) (.t 6) (.t 18), none⟩])
 (.seq (.ops true [
 oo 19 (.faddr 0 (.t 6)),
 oo 20 (.load none (.t 19)),
 oo 21 (.bin .lss (.t 20) (ci 0)),
 oo 22 (.mov (.t 21)),
 ⟨some 23, .faddr 0 (.t 6), some (22, false)⟩,
 ⟨some 24, .load none (.t 23), some (22, false)⟩,
 ⟨some 25, .mov (.t 1), some (22, false)⟩,
 ⟨some 26, .len (.t 25), some (22, false)⟩,
 ⟨some 27, .bin .geq (.t 24) (.t 26), some (22, false)⟩,
 oo 28 (.pick (.t 22) (.c (.bool true)) (.t 27)),
 oo 29 (.mov (.t 28)),
 ⟨some 30, .mov (.t 1), some (29, false)⟩,
 ⟨some 31, .faddr 0 (.t 6), some (29, false)⟩,
 ⟨some 32, .load none (.t 31), some (29, false)⟩,
 ⟨some 33, .iaddr none (.t 30) (.t 32), some (29, false)⟩,
 ⟨some 34, .load none (.t 33), some (29, false)⟩,
 ⟨some 35, .faddr 1 (.t 6), some (29, false)⟩,
 ⟨some 36, .load none (.t 35), some (29, false)⟩,
 ⟨some 37, .bin .neq (.t 34) (.t 36), some (29, false)⟩,
 oo 38 (.pick (.t 29) (.c (.bool true)) (.t 37))])
 (.cond (.t 38)
 (.seq (.ops false [
 oo 4 (.mov (.c (.bool false)))])
 (.ret))
 (.skip)))))
 (.ops false [
 oo 12 (.mov (.t 5)),
 oo 13 (.bin .add (.t 12) (ci 1)),
 oo 5 (.mov (.t 13))])))

/-- pointsman/pointsmanref11.Goes -/
def a29 : AFn := .mk 39
 (.seq (.ops false [
 oo 2 (.box (some 3) (.t 0) true),
 oo 4 (.mov (.c (.bool false)))])
 (.seq (.seq (.ops false [
 oo 5 (.mov (ci 0))])
 (.block 0 (.loop b29_0)))
 (.seq (.ops false [
 oo 4 (.mov (.c (.bool true)))])
 (.ret))))
 [.t 4]

set_option maxRecDepth 100000 in
theorem ok29 : chkFn Try.prog 29 a29 = true := by kernel_rfl

def b32_0 : ACode :=
 (.seq (.seq (.ops false [
 oo 11 (.mov (.t 6)),
 oo 12 (.faddr 2 (.t 2)),
 oo 13 (.ldI none (.t 12)),
 oo 14 (.len (.t 13)),
 oo 15 (.bin .lss (.t 11) (.t 14))])
 (.cond (.t 15)
 (.skip)
 (.exit 0)))
 (.seq (.block 1 (.seq (.ops false [
 oo 18 (.faddr 2 (.t 2)),
 oo 19 (.ldI none (.t 18)),
 oo 20 (.mov (.t 6)),
 oo 21 (.iaddr (some 2) (.t 19) (.t 20)),
 oo 22 (.load (some 2) (.t 21)),
 oo 7 (.alloc [.int .i64 0, .int .u16 0]),
 ⟨none, .store (some 2) (.t 7) (.t 22), none⟩])
 (.seq (.ops false [
 oo 23 (.faddr 0 (.t 7)),
 oo 24 (.load none (.t 23)),
 oo 25 (.bin .geq (.t 24) (ci 0)),
 oo 26 (.mov (.t 25)),
 ⟨some 27, .faddr 0 (.t 7), some (26, true)⟩,
 ⟨some 28, .load none (.t 27), some (26, true)⟩,
 ⟨some 29, .mov (.t 5), some (26, true)⟩,
 ⟨some 30, .len (.t 29), some (26, true)⟩,
 ⟨some 31, .bin .lss (.t 28) (.t 30), some (26, true)⟩,
 oo 32 (.pick (.t 26) (.t 31) (.c (.bool false)))])
 (.cond (.t 32)
 (.ops false [
 oo 33 (.mov (.t 5)),
 oo 34 (.faddr 0 (.t 7)),
 oo 35 (.load none (.t 34)),
 oo 36 (.faddr 1 (.t 7)),
 oo 37 (.load none (.t 36)),
 oo 38 (.iaddr none (.t 33) (.t 35)),
 ⟨none, .store none (.t 38) (.t 37), none⟩])
 (.skip)))))
 (.ops false [
 oo 16 (.mov (.t 6)),
 oo 17 (.bin .add (.t 16) (ci 1)),
 oo 6 (.mov (.t 17))])))

/-- pointsman/pointsmanref11.After -/
def a32 : AFn := .mk 40
 (.seq (.ops false [
 oo 2 (.box (some 3) (.t 0) true),
 oo 4 (.mov (.c (.vec none [])))])
 (.seq (.ops false [
 oo 8 (.bslice none [] true),
 oo 9 (.mov (.t 1)),
 oo 10 (.append none (.t 8) (.t 9) true),
 oo 5 (.mov (.t 10))])
 (.seq (.seq (.ops false [
 oo 6 (.mov (ci 0))])
 (.block 0 (.loop b32_0)))
 (.seq (.ops false [
 oo 39 (.mov (.t 5)),
 oo 4 (.mov (.t 39))])
 (.ret)))))
 [.t 4]

set_option maxRecDepth 100000 in
theorem ok32 : chkFn Try.prog 32 a32 = true := by kernel_rfl

def b30_0 : ACode :=
 (.seq (.seq (.ops false [
 oo 11 (.mov (.t 5)),
 oo 12 (.mov (.t 0)),
 oo 13 (.len (.t 12)),
 oo 14 (.bin .lss (.t 11) (.t 13))])
 (.cond (.t 14)
 (.skip)
 (.exit 0)))
 (.seq (.block 1 (.seq (.ops true [
 oo 17 (.mov (.t 0)),
 oo 18 (.mov (.t 5)),
 oo 19 (.iaddr none (.t 17) (.t 18)),
 oo 20 (.load none (.t 19)),
 oo 21 (.mov (.t 1)),
 oo 22 (.mov (.t 5)),
 oo 23 (.iaddr none (.t 21) (.t 22)),
 oo 24 (.load none (.t 23)),
 oo 25 (.bin .neq (.t 20) (.t 24))])
 (.cond (.t 25)
 (.seq (.ops false [
 oo 4 (.mov (.c (.bool false)))])
 (.ret))
 (.skip))))
 (.ops false [
 oo 15 (.mov (.t 5)),
 oo 16 (.bin .add (.t 15) (ci 1)),
 oo 5 (.mov (.t 16))])))

/-- pointsman/pointsmanref11.Same -/
def a30 : AFn := .mk 26
 (.seq (.ops false [
 oo 4 (.mov (.c (.bool false)))])
 (.seq (.seq (.ops false [
 oo 6 (.mov (.t 0)),
 oo 7 (.len (.t 6)),
 oo 8 (.mov (.t 1)),
 oo 9 (.len (.t 8)),
 oo 10 (.bin .neq (.t 7) (.t 9))])
 (.cond (.t 10)
 (.seq (.ops false [
 oo 4 (.mov (.c (.bool false)))])
 (.ret))
 (.skip)))
 (.seq (.seq (.ops false [
 oo 5 (.mov (ci 0))])
 (.block 0 (.loop b30_0)))
 (.seq (.ops false [
 oo 4 (.mov (.c (.bool true)))])
 (.ret)))))
 [.t 4]

set_option maxRecDepth 100000 in
theorem ok30 : chkFn Try.prog 30 a30 = true := by kernel_rfl

/-- pointsman/pointsmanlaw11.SpaceExplores -/
def a6 : AFn := .mk 32
 (.seq (.ops false [
 oo 1 (.box (some 6) (.t 0) false),
 oo 2 (.mov (.c (.bool false)))])
 (.seq (.seq (.ops false [
 oo 7 (.call false 23 []),
 oo 8 (.un .not (.t 7))])
 (.cond (.t 8)
 (.seq (.ops false [
 oo 2 (.mov (.c (.bool false)))])
 (.ret))
 (.skip)))
 (.seq (.ops false [
 oo 9 (.build [.int .i64 0, .int .i64 0, .int .u16 0, .vec (some 4) []] []),
 oo 10 (.faddr 1 (.t 1)),
 ⟨none, .store (some 4) (.t 10) (.t 9), none⟩])
 (.seq (.seq (.ops false [
 oo 11 (.load (some 6) (.t 1)),
 oo 12 (.call false 24 [(.t 11)]),
 oo 13 (.un .not (.t 12))])
 (.cond (.t 13)
 (.seq (.ops false [
 oo 2 (.mov (.c (.bool true)))])
 (.ret))
 (.skip)))
 (.seq (.ops false [
 oo 15 (.load (some 6) (.t 1)),
 oo 16 (.call false 25 [(.t 15)]),
 oo 14 (.mov (.t 16)),
 oo 17 (.extract (.t 14) 0),
 oo 18 (.extract (.t 14) 1),
 oo 3 (.alloc [.vec none [], .vec (some 3) []]),
 ⟨none, .store (some 2) (.t 3) (.t 17), none⟩,
 oo 4 (.mov (.t 18))])
 (.seq (.ops false [
 oo 20 (.load (some 6) (.t 1)),
 oo 21 (.call false 26 [(.t 20)]),
 oo 19 (.mov (.t 21)),
 oo 22 (.extract (.t 19) 0),
 oo 23 (.extract (.t 19) 1),
 oo 5 (.alloc [.vec none [], .vec (some 3) []]),
 ⟨none, .store (some 2) (.t 5) (.t 22), none⟩,
 oo 6 (.mov (.t 23))])
 (.seq (.ops false [
 oo 24 (.mov (.t 4)),
 oo 25 (.mov (.t 6)),
 oo 26 (.bin .eql (.t 24) (.t 25)),
 oo 27 (.mov (.t 26)),
 ⟨some 28, .load (some 2) (.t 3), some (27, true)⟩,
 ⟨some 29, .load (some 2) (.t 5), some (27, true)⟩,
 ⟨some 30, .call false 27 [(.t 28), (.t 29)], some (27, true)⟩,
 oo 31 (.pick (.t 27) (.t 30) (.c (.bool false))),
 oo 2 (.mov (.t 31))])
 (.ret))))))))
 [.t 2]

/-- pointsman/pointsmanlaw11.SpaceRules -/
def a7 : AFn := .mk 47
 (.seq (.ops false [
 oo 2 (.box (some 3) (.t 0) true),
 oo 4 (.mov (.c (.bool false)))])
 (.seq (.seq (.ops false [
 oo 6 (.call false 23 []),
 oo 7 (.un .not (.t 6))])
 (.cond (.t 7)
 (.seq (.ops false [
 oo 4 (.mov (.c (.bool false)))])
 (.ret))
 (.skip)))
 (.seq (.seq (.ops false [
 oo 8 (.faddr 1 (.t 2)),
 oo 9 (.ldI none (.t 8)),
 oo 10 (.len (.t 9)),
 oo 11 (.bin .gtr (.t 10) (ci 6)),
 oo 12 (.mov (.t 11)),
 ⟨some 13, .faddr 2 (.t 2), some (12, false)⟩,
 ⟨some 14, .ldI none (.t 13), some (12, false)⟩,
 ⟨some 15, .len (.t 14), some (12, false)⟩,
 ⟨some 16, .bin .gtr (.t 15) (ci 6), some (12, false)⟩,
 oo 17 (.pick (.t 12) (.c (.bool true)) (.t 16)),
 oo 18 (.mov (.t 17)),
 ⟨some 19, .mov (.t 1), some (18, false)⟩,
 ⟨some 20, .len (.t 19), some (18, false)⟩,
 ⟨some 21, .bin .gtr (.t 20) (ci 6), some (18, false)⟩,
 oo 22 (.pick (.t 18) (.c (.bool true)) (.t 21))])
 (.cond (.t 22)
 (.seq (.ops false [
 oo 4 (.mov (.c (.bool true)))])
 (.ret))
 (.skip)))
 (.seq (.ops false [
 oo 23 (.bslice none [] false),
 oo 24 (.mov (.t 1)),
 oo 25 (.append none (.t 23) (.t 24) false),
 oo 5 (.mov (.t 25))])
 (.seq (.ops true [
 oo 26 (.ldI (some 3) (.t 2)),
 oo 27 (.mov (.t 1)),
 oo 28 (.call false 28 [(.t 26), (.t 27)]),
 oo 29 (.ldI (some 3) (.t 2)),
 oo 30 (.mov (.t 1)),
 oo 31 (.call false 29 [(.t 29), (.t 30)]),
 oo 32 (.eqB false (.t 28) (.t 31)),
 oo 33 (.mov (.t 32)),
 ⟨some 34, .ldI (some 3) (.t 2), some (33, true)⟩,
 ⟨some 35, .mov (.t 1), some (33, true)⟩,
 ⟨some 36, .call false 31 [(.t 34), (.t 35)], some (33, true)⟩,
 ⟨some 37, .ldI (some 3) (.t 2), some (33, true)⟩,
 ⟨some 38, .mov (.t 1), some (33, true)⟩,
 ⟨some 39, .call false 32 [(.t 37), (.t 38)], some (33, true)⟩,
 ⟨some 40, .call false 30 [(.t 36), (.t 39)], some (33, true)⟩,
 oo 41 (.pick (.t 33) (.t 40) (.c (.bool false))),
 oo 42 (.mov (.t 41)),
 ⟨some 43, .mov (.t 1), some (42, true)⟩,
 ⟨some 44, .mov (.t 5), some (42, true)⟩,
 ⟨some 45, .call false 30 [(.t 43), (.t 44)], some (42, true)⟩,
 oo 46 (.pick (.t 42) (.t 45) (.c (.bool false))),
 oo 4 (.mov (.t 46))])
 (.ret))))))
 [.t 4]

def b8_0 : ACode :=
 (.seq (.ops false [
 oo 51 (.bin .lss (.t 50) (.t 49))])
 (.seq (.cond (.t 51)
 (.skip)
 (.exit 0))
 (.seq (.block 1 (.seq (.ops false [
 oo 52 (.iaddr none (.t 48) (.t 50)),
 oo 53 (.load none (.t 52)),
 oo 9 (.mov (.t 53))])
 (.ops false [
 oo 54 (.mov (.t 7)),
 oo 55 (.mov (.t 9)),
 ⟨none, .mset .int (.t 54) (.t 55) (.c (.bool true)), none⟩])))
 (.ops false [
 oo 56 (.bin .add (.t 50) (ci 1)),
 oo 50 (.mov (.t 56))]))))

def b8_2 : ACode :=
 (.seq (.ops false [
 oo 83 (.bin .lss (.t 82) (.t 81))])
 (.seq (.cond (.t 83)
 (.skip)
 (.exit 4))
 (.seq (.block 5 (.seq (.ops false [
 oo 84 (.mov (.t 82)),
 oo 85 (.iaddr (some 3) (.t 80) (.t 82)),
 oo 86 (.load (some 3) (.t 85)),
 oo 15 (.alloc [.vec (some 2) [], .vec (some 2) [], .vec (some 2) []]),
 oo 14 (.mov (.t 84)),
 ⟨none, .store (some 3) (.t 15) (.t 86), none⟩])
 (.seq (.ops false [
 oo 87 (.load (some 3) (.t 15)),
 oo 88 (.mov (.t 11)),
 oo 89 (.call false 32 [(.t 87), (.t 88)]),
 oo 16 (.mov (.t 89))])
 (.seq (.seq (.ops false [
 oo 90 (.load (some 3) (.t 15)),
 oo 91 (.mov (.t 11)),
 oo 92 (.call false 29 [(.t 90), (.t 91)]),
 oo 93 (.un .not (.t 92)),
 oo 94 (.mov (.t 93)),
 ⟨some 95, .mov (.t 16), some (94, false)⟩,
 ⟨some 96, .mov (.t 11), some (94, false)⟩,
 ⟨some 97, .call false 30 [(.t 95), (.t 96)], some (94, false)⟩,
 oo 98 (.pick (.t 94) (.c (.bool true)) (.t 97))])
 (.cond (.t 98)
 (.exit 5)
 (.skip)))
 (.seq (.seq (.ops true [
 oo 99 (.mov (.t 13)),
 oo 100 (.mov (.t 12)),
 oo 101 (.len (.t 100)),
 oo 102 (.bin .geq (.t 99) (.t 101)),
 oo 103 (.mov (.t 102)),
 ⟨some 104, .mov (.t 12), some (103, false)⟩,
 ⟨some 105, .mov (.t 13), some (103, false)⟩,
 ⟨some 106, .iaddr (some 3) (.t 104) (.t 105), some (103, false)⟩,
 ⟨some 107, .faddr 0 (.t 106), some (103, false)⟩,
 ⟨some 108, .load none (.t 107), some (103, false)⟩,
 ⟨some 109, .mov (.t 10), some (103, false)⟩,
 ⟨some 110, .bin .neq (.t 108) (.t 109), some (103, false)⟩,
 oo 111 (.pick (.t 103) (.c (.bool true)) (.t 110)),
 oo 112 (.mov (.t 111)),
 ⟨some 113, .mov (.t 12), some (112, false)⟩,
 ⟨some 114, .mov (.t 13), some (112, false)⟩,
 ⟨some 115, .iaddr (some 3) (.t 113) (.t 114), some (112, false)⟩,
 ⟨some 116, .faddr 1 (.t 115), some (112, false)⟩,
 ⟨some 117, .load none (.t 116), some (112, false)⟩,
 ⟨some 118, .mov (.t 14), some (112, false)⟩,
 ⟨some 119, .bin .neq (.t 117) (.t 118), some (112, false)⟩,
 oo 120 (.pick (.t 112) (.c (.bool true)) (.t 119)),
 oo 121 (.mov (.t 120)),
 ⟨some 122, .faddr 0 (.t 3), some (121, false)⟩,
 ⟨some 123, .load none (.t 122), some (121, false)⟩,
 ⟨some 124, .mov (.t 12), some (121, false)⟩,
 ⟨some 125, .mov (.t 13), some (121, false)⟩,
 ⟨some 126, .iaddr (some 3) (.t 124) (.t 125), some (121, false)⟩,
 ⟨some 127, .faddr 2 (.t 126), some (121, false)⟩,
 ⟨some 128, .load none (.t 127), some (121, false)⟩,
 ⟨some 129, .iaddr none (.t 123) (.t 128), some (121, false)⟩,
 ⟨some 130, .load none (.t 129), some (121, false)⟩,
 ⟨some 131, .mov (.t 16), some (121, false)⟩,
 ⟨some 132, .call false 30 [(.t 130), (.t 131)], some (121, false)⟩,
 ⟨some 133, .un .not (.t 132), some (121, false)⟩,
 oo 134 (.pick (.t 121) (.c (.bool true)) (.t 133))])
 (.cond (.t 134)
 (.seq (.ops false [
 oo 2 (.mov (.c (.bool false)))])
 (.ret))
 (.skip)))
 (.seq (.ops false [
 oo 135 (.mov (.t 5)),
 oo 136 (.mov (.t 12)),
 oo 137 (.mov (.t 13)),
 oo 138 (.iaddr (some 3) (.t 136) (.t 137)),
 oo 139 (.faddr 2 (.t 138)),
 oo 140 (.load none (.t 139)),
 oo 141 (.iaddr none (.t 135) (.t 140)),
 ⟨none, .store none (.t 141) (.c (.bool true)), none⟩])
 (.ops false [
 oo 142 (.mov (.t 13)),
 oo 143 (.bin .add (.t 142) (ci 1)),
 oo 13 (.mov (.t 143))])))))))
 (.ops false [
 oo 144 (.bin .add (.t 82) (ci 1)),
 oo 82 (.mov (.t 144))]))))

def b8_1 : ACode :=
 (.seq (.ops false [
 oo 61 (.bin .lss (.t 60) (.t 59))])
 (.seq (.cond (.t 61)
 (.skip)
 (.exit 2))
 (.seq (.block 3 (.seq (.ops false [
 oo 62 (.mov (.t 60)),
 oo 63 (.iaddr none (.t 58) (.t 60)),
 oo 64 (.load none (.t 63)),
 oo 10 (.mov (.t 62)),
 oo 11 (.mov (.t 64))])
 (.seq (.ops false [
 oo 65 (.load (some 2) (.t 3)),
 oo 66 (.mov (.t 10)),
 oo 67 (.call false 34 [(.t 65), (.t 66)]),
 oo 12 (.mov (.t 67))])
 (.seq (.ops false [
 oo 68 (.mov (.t 6)),
 oo 69 (.mov (.t 12)),
 oo 70 (.len (.t 69)),
 oo 71 (.bin .add (.t 68) (.t 70)),
 oo 6 (.mov (.t 71))])
 (.seq (.seq (.ops false [
 oo 72 (.mov (.t 12)),
 oo 73 (.len (.t 72)),
 oo 74 (.bin .eql (.t 73) (ci 0)),
 oo 75 (.mov (.t 7)),
 oo 76 (.mov (.t 10)),
 oo 77 (.mget .int (.bool false) false (.t 75) (.t 76)),
 oo 78 (.eqB true (.t 74) (.t 77))])
 (.cond (.t 78)
 (.seq (.ops false [
 oo 2 (.mov (.c (.bool false)))])
 (.ret))
 (.skip)))
 (.seq (.ops false [
 oo 13 (.mov (ci 0))])
 (.seq (.seq (.ops false [
 oo 79 (.faddr 5 (.t 1)),
 oo 80 (.load none (.t 79)),
 oo 81 (.len (.t 80)),
 oo 82 (.mov (ci 0))])
 (.block 4 (.loop b8_2)))
 (.seq (.ops false [
 oo 145 (.mov (.t 13)),
 oo 146 (.mov (.t 12)),
 oo 147 (.len (.t 146)),
 oo 148 (.bin .neq (.t 145) (.t 147))])
 (.cond (.t 148)
 (.seq (.ops false [
 oo 2 (.mov (.c (.bool false)))])
 (.ret))
 (.skip))))))))))
 (.ops false [
 oo 149 (.bin .add (.t 60) (ci 1)),
 oo 60 (.mov (.t 149))]))))

def b8_3 : ACode :=
 (.seq (.ops false [
 oo 153 (.bin .lss (.t 152) (.t 151))])
 (.seq (.cond (.t 153)
 (.skip)
 (.exit 6))
 (.seq (.block 7 (.seq (.ops false [
 oo 154 (.mov (.t 152)),
 oo 17 (.mov (.t 154))])
 (.seq (.ops false [
 oo 155 (.mov (.t 5)),
 oo 156 (.mov (.t 17)),
 oo 157 (.iaddr none (.t 155) (.t 156)),
 oo 158 (.load none (.t 157)),
 oo 159 (.mov (.t 17)),
 oo 160 (.bin .gtr (.t 159) (ci 0)),
 oo 161 (.eqB true (.t 158) (.t 160))])
 (.cond (.t 161)
 (.seq (.ops false [
 oo 2 (.mov (.c (.bool false)))])
 (.ret))
 (.skip)))))
 (.ops false [
 oo 162 (.bin .add (.t 152) (ci 1)),
 oo 152 (.mov (.t 162))]))))

/-- pointsman/pointsmanlaw11.SpaceEnds -/
def a8 : AFn := .mk 173
 (.seq (.ops false [
 oo 1 (.box (some 6) (.t 0) false),
 oo 2 (.mov (.c (.bool false)))])
 (.seq (.seq (.ops false [
 oo 18 (.call false 23 []),
 oo 19 (.un .not (.t 18))])
 (.cond (.t 19)
 (.seq (.ops false [
 oo 2 (.mov (.c (.bool false)))])
 (.ret))
 (.skip)))
 (.seq (.ops false [
 oo 20 (.build [.int .i64 0, .int .i64 0, .int .u16 0, .vec (some 4) []] []),
 oo 21 (.faddr 1 (.t 1)),
 ⟨none, .store (some 4) (.t 21) (.t 20), none⟩])
 (.seq (.seq (.ops false [
 oo 22 (.load (some 6) (.t 1)),
 oo 23 (.call false 24 [(.t 22)]),
 oo 24 (.un .not (.t 23))])
 (.cond (.t 24)
 (.seq (.ops false [
 oo 2 (.mov (.c (.bool true)))])
 (.ret))
 (.skip)))
 (.seq (.ops false [
 oo 26 (.load (some 6) (.t 1)),
 oo 27 (.call false 25 [(.t 26)]),
 oo 25 (.mov (.t 27)),
 oo 28 (.extract (.t 25) 0),
 oo 29 (.extract (.t 25) 1),
 oo 3 (.alloc [.vec none [], .vec (some 3) []]),
 ⟨none, .store (some 2) (.t 3) (.t 28), none⟩,
 oo 4 (.mov (.t 29))])
 (.seq (.seq (.ops false [
 oo 30 (.mov (.t 4)),
 oo 31 (.bin .neq (.t 30) (ci 0))])
 (.cond (.t 31)
 (.seq (.ops false [
 oo 32 (.faddr 0 (.t 3)),
 oo 33 (.load none (.t 32)),
 oo 34 (.len (.t 33)),
 oo 35 (.bin .eql (.t 34) (ci 0)),
 oo 36 (.mov (.t 35)),
 ⟨some 37, .faddr 1 (.t 3), some (36, true)⟩,
 ⟨some 38, .load none (.t 37), some (36, true)⟩,
 ⟨some 39, .len (.t 38), some (36, true)⟩,
 ⟨some 40, .bin .eql (.t 39) (ci 0), some (36, true)⟩,
 oo 41 (.pick (.t 36) (.t 40) (.c (.bool false))),
 oo 2 (.mov (.t 41))])
 (.ret))
 (.skip)))
 (.seq (.ops false [
 oo 42 (.faddr 0 (.t 3)),
 oo 43 (.load none (.t 42)),
 oo 44 (.len (.t 43)),
 oo 45 (.mkslice none (.bool false) (.t 44) (.t 44)),
 oo 5 (.mov (.t 45))])
 (.seq (.ops false [
 oo 6 (.mov (ci 0))])
 (.seq (.ops false [
 oo 46 (.mkmap),
 oo 7 (.mov (.t 46))])
 (.seq (.seq (.ops false [
 oo 47 (.load (some 2) (.t 3)),
 oo 48 (.call false 33 [(.t 47)]),
 oo 49 (.len (.t 48)),
 oo 50 (.mov (ci 0))])
 (.block 0 (.loop b8_0)))
 (.seq (.seq (.ops false [
 oo 57 (.faddr 0 (.t 3)),
 oo 58 (.load none (.t 57)),
 oo 59 (.len (.t 58)),
 oo 60 (.mov (ci 0))])
 (.block 2 (.loop b8_1)))
 (.seq (.seq (.ops false [
 oo 150 (.mov (.t 5)),
 oo 151 (.len (.t 150)),
 oo 152 (.mov (ci 0))])
 (.block 6 (.loop b8_3)))
 (.seq (.ops false [
 oo 163 (.mov (.t 6)),
 oo 164 (.faddr 1 (.t 3)),
 oo 165 (.load none (.t 164)),
 oo 166 (.len (.t 165)),
 oo 167 (.bin .eql (.t 163) (.t 166)),
 oo 168 (.mov (.t 167)),
 ⟨some 169, .mov (.t 7), some (168, true)⟩,
 ⟨some 170, .mlen (.t 169), some (168, true)⟩,
 ⟨some 171, .bin .gtr (.t 170) (ci 0), some (168, true)⟩,
 oo 172 (.pick (.t 168) (.t 171) (.c (.bool false))),
 oo 2 (.mov (.t 172))])
 (.ret))))))))))))))
 [.t 2]

set_option maxRecDepth 100000 in
theorem ok8 : chkFn Try.prog 8 a8 = true := by kernel_rfl

@[reducible] def vl0 (x : List api_Edge) : V := .d (eL (some 3) eapi_Edge x)
@[reducible] def vl1 (x : List Int) : V := .d (eL none (D.int .u16) x)
@[reducible] def vl2 (x : List api_Pair) : V := .d (eL (some 2) eapi_Pair x)
@[reducible] def vl3 (x : List api_Pol) : V := .d (eL (some 4) eapi_Pol x)
@[reducible] def vl4 (x : List api_Rule) : V := .d (eL (some 3) eapi_Rule x)
@[reducible] def vl5 (x : List Int) : V := .d (eL none (D.int .i64) x)
@[reducible] def vp0 (x : api_Space) : V := .d (.cptr (some 2) (eapi_Space x) 0)
@[reducible] def vp1 (x : api_Pol) : V := .d (.cptr (some 4) (uapi_Pol x) 0)
@[reducible] def vp2 (x : api_Program) : V := .d (.cptr (some 6) (eapi_Program x) 0)
@[reducible] def vp3 (x : api_Rule) : V := .d (.cptr (some 3) (eapi_Rule x) 0)
@[reducible] def vp4 (x : api_Pair) : V := .d (.cptr (some 2) (eapi_Pair x) 0)
@[reducible] def vp5 (x : api_Edge) : V := .d (.cptr (some 3) (eapi_Edge x) 0)
@[reducible] def vs1 (x : api_Space) : V := .d (eapi_Space x)
@[reducible] def vs2 (x : api_Pol) : V := .d (uapi_Pol x)
@[reducible] def vs3 (x : api_Program) : V := .d (eapi_Program x)
@[reducible] def vs4 (x : api_Rule) : V := .d (eapi_Rule x)
@[reducible] def vs5 (x : api_Pair) : V := .d (eapi_Pair x)
@[reducible] def bv0 (x : api_Rule) : Blk := .var [vl2 x.When, vl2 x.Guard, vl2 x.Then]

end Go.AM
