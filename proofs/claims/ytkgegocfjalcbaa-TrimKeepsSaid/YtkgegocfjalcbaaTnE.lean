import Derived.Test.YtkgegocfjalcbaaAmDel2
import Derived.Test.YtkgegocfjalcbaaAmW
import Derived.Test.YtkgegocfjalcbaaTrT
import Derived.Test.YtkgegocfjalcbaaProg
/-  What they are in the program: data and code. -/
set_option linter.unusedVariables false
set_option linter.unusedSimpArgs false
namespace Go.AM
open Go Go.RowKit Go.Proofs

mutual
def eapi_Pol : api_Pol → D
  | ⟨y0, y1, y2, y3⟩ => .agg [(D.int .i64) y0, (D.int .i64) y1, (D.int .u16) y2, .vec (some 4) (eapi_PolL y3)]
def eapi_PolL : List api_Pol → List D
  | [] => []
  | x :: l => eapi_Pol x :: eapi_PolL l
end

theorem eapi_PolL_eq : ∀ l : List api_Pol, eapi_PolL l = l.map eapi_Pol
  | [] => by simp [eapi_PolL]
  | x :: l => by simp [eapi_PolL, eapi_PolL_eq l]

def uapi_Pol (x : api_Pol) : D := .agg [D.int .i64 x.Op, D.int .i64 x.F, D.int .u16 x.N, eL (some 4) eapi_Pol x.Kids]

theorem eu_api_Pol (x : api_Pol) : eapi_Pol x = uapi_Pol x := by
  cases x
  simp [eapi_Pol, uapi_Pol, eL, eapi_PolL_eq]

def eapi_Pair (x : api_Pair) : D := .agg ((D.int .i64) x.F :: ((D.int .u16) x.N :: []))

def eapi_Rule (x : api_Rule) : D := .agg ((eL (some 2) eapi_Pair) x.When :: ((eL (some 2) eapi_Pair) x.Guard :: ((eL (some 2) eapi_Pair) x.Then :: [])))

def eapi_Program (x : api_Program) : D := .agg ((eL none (D.int .u16)) x.Init :: ((uapi_Pol x.Pol).cells ++ ((eL (some 3) eapi_Rule) x.Rules :: [])))

def elaw05_Step (x : law05_Step) : D := .agg ((D.int .i64) x.What :: ((D.int .i64) x.F :: ((D.int .u16) x.N :: ((D.int .u8) x.K :: []))))

theorem eqS_A8_Int (x y : (A8 Int)) : eqSV [.int, .int, .int, .int, .int, .int, .int, .int] (.d (eA8 (D.int .u16) x)) (.d (eA8 (D.int .u16) y)) = some (x == y) := by
  refine (eqSV_agg rfl rfl (eqT_cons rfl (eqT_cons rfl (eqT_cons rfl (eqT_cons rfl (eqT_cons rfl (eqT_cons rfl (eqT_cons rfl (eqT_cons rfl rfl))))))))).trans (congrArg some ?_)
  rw [Bool.eq_iff_iff]
  obtain ⟨x0, x1, x2, x3, x4, x5, x6, x7⟩ := x
  obtain ⟨y0, y1, y2, y3, y4, y5, y6, y7⟩ := y
  simp [ba_toList_inj, and_assoc]

/-- pointsman/pointsmanlaw28.put -/
def a74 : AFn := .mk 5
 (.seq (.ops false [
 ⟨some 2, .alloc [.int .i64 0, .int .i64 0, .int .u16 0, .vec (some 4) []], none⟩])
 (.seq (.ops false [
 ⟨some 3, .mov (.t 0), none⟩,
 ⟨some 4, .build [.int .i64 0, .int .i64 0, .int .u16 0, .vec (some 4) []] [(0, 1, (.c (.int .i64 5))), (1, 1, (.c (.int .i64 1))), (2, 1, (.t 3))], none⟩,
 ⟨none, .store (some 4) (.t 2) (.t 4), none⟩])
 (.ret)))
 [.cell 2 (some 4)]

set_option maxRecDepth 100000 in
theorem ok74 : chkFn Try.prog 74 a74 = true := by kernel_rfl

/-- pointsman/pointsmanlaw07.Seq -/
def a47 : AFn := .mk 5
 (.seq (.ops false [
 ⟨some 2, .alloc [.int .i64 0, .int .i64 0, .int .u16 0, .vec (some 4) []], none⟩])
 (.seq (.ops false [
 ⟨some 3, .mov (.t 0), none⟩,
 ⟨some 4, .build [.int .i64 0, .int .i64 0, .int .u16 0, .vec (some 4) []] [(0, 1, (.c (.int .i64 6))), (3, 1, (.t 3))], none⟩,
 ⟨none, .store (some 4) (.t 2) (.t 4), none⟩])
 (.ret)))
 [.cell 2 (some 4)]

set_option maxRecDepth 100000 in
theorem ok47 : chkFn Try.prog 47 a47 = true := by kernel_rfl

/-- pointsman/pointsmanlaw07.Sum -/
def a46 : AFn := .mk 5
 (.seq (.ops false [
 ⟨some 2, .alloc [.int .i64 0, .int .i64 0, .int .u16 0, .vec (some 4) []], none⟩])
 (.seq (.ops false [
 ⟨some 3, .mov (.t 0), none⟩,
 ⟨some 4, .build [.int .i64 0, .int .i64 0, .int .u16 0, .vec (some 4) []] [(0, 1, (.c (.int .i64 7))), (3, 1, (.t 3))], none⟩,
 ⟨none, .store (some 4) (.t 2) (.t 4), none⟩])
 (.ret)))
 [.cell 2 (some 4)]

set_option maxRecDepth 100000 in
theorem ok46 : chkFn Try.prog 46 a46 = true := by kernel_rfl

def b83_0 : ACode :=
 (.seq (.ops false [
 ⟨some 10, .bin .lss (.t 9) (.t 8), none⟩])
 (.seq (.cond (.t 10)
 (.skip)
 (.exit 0))
 (.seq (.block 1 (.seq (.ops false [
 ⟨some 11, .iaddr (some 4) (.t 7) (.t 9), none⟩,
 ⟨some 12, .load (some 4) (.t 11), none⟩,
 ⟨some 5, .alloc [.int .i64 0, .int .i64 0, .int .u16 0, .vec (some 4) []], none⟩,
 ⟨none, .store (some 4) (.t 5) (.t 12), none⟩])
 (.ops false [
 ⟨some 13, .mov (.t 3), none⟩,
 ⟨some 14, .load (some 4) (.t 5), none⟩,
 ⟨some 15, .call false 83 [(.t 14)], none⟩,
 ⟨some 16, .bin .add (.t 13) (.t 15), none⟩,
 ⟨some 3, .mov (.t 16), none⟩])))
 (.ops false [
 ⟨some 17, .bin .add (.t 9) (.c (.int .i64 1)), none⟩,
 ⟨some 9, .mov (.t 17), none⟩]))))

/-- pointsman/syntax.Size -/
def a83 : AFn := .mk 19
 (.seq (.ops false [
 ⟨some 1, .box (some 4) (.t 0) true, none⟩,
 ⟨some 2, .mov (.c (.int .i64 0)), none⟩])
 (.seq (.ops false [
 ⟨some 3, .mov (.c (.int .i64 1)), none⟩])
 (.seq (.seq (.ops false [
 ⟨some 6, .faddr 3 (.t 1), none⟩,
 ⟨some 7, .ldI none (.t 6), none⟩,
 ⟨some 8, .len (.t 7), none⟩,
 ⟨some 9, .mov (.c (.int .i64 0)), none⟩])
 (.block 0 (.loop b83_0)))
 (.seq (.ops false [
 ⟨some 18, .mov (.t 3), none⟩,
 ⟨some 2, .mov (.t 18), none⟩])
 (.ret)))))
 [.t 2]

set_option maxRecDepth 100000 in
theorem ok83 : chkFn Try.prog 83 a83 = true := by kernel_rfl

def b84_0 : ACode :=
 (.seq (.ops false [
 ⟨some 10, .bin .lss (.t 9) (.t 8), none⟩])
 (.seq (.cond (.t 10)
 (.skip)
 (.exit 0))
 (.seq (.block 1 (.seq (.ops false [
 ⟨some 11, .iaddr (some 4) (.t 7) (.t 9), none⟩,
 ⟨some 12, .load (some 4) (.t 11), none⟩,
 ⟨some 5, .alloc [.int .i64 0, .int .i64 0, .int .u16 0, .vec (some 4) []], none⟩,
 ⟨none, .store (some 4) (.t 5) (.t 12), none⟩])
 (.ops false [
 ⟨some 13, .mov (.t 3), none⟩,
 ⟨some 14, .load (some 4) (.t 5), none⟩,
 ⟨some 15, .call false 84 [(.t 14)], none⟩,
 ⟨some 16, .max2 (.t 13) (.t 15), none⟩,
 ⟨some 3, .mov (.t 16), none⟩])))
 (.ops false [
 ⟨some 17, .bin .add (.t 9) (.c (.int .i64 1)), none⟩,
 ⟨some 9, .mov (.t 17), none⟩]))))

/-- pointsman/syntax.Depth -/
def a84 : AFn := .mk 20
 (.seq (.ops false [
 ⟨some 1, .box (some 4) (.t 0) true, none⟩,
 ⟨some 2, .mov (.c (.int .i64 0)), none⟩])
 (.seq (.ops false [
 ⟨some 3, .mov (.c (.int .i64 0)), none⟩])
 (.seq (.seq (.ops false [
 ⟨some 6, .faddr 3 (.t 1), none⟩,
 ⟨some 7, .ldI none (.t 6), none⟩,
 ⟨some 8, .len (.t 7), none⟩,
 ⟨some 9, .mov (.c (.int .i64 0)), none⟩])
 (.block 0 (.loop b84_0)))
 (.seq (.ops false [
 ⟨some 18, .mov (.t 3), none⟩,
 ⟨some 19, .bin .add (.t 18) (.c (.int .i64 1)), none⟩,
 ⟨some 2, .mov (.t 19), none⟩])
 (.ret)))))
 [.t 2]

set_option maxRecDepth 100000 in
theorem ok84 : chkFn Try.prog 84 a84 = true := by kernel_rfl

def b113_0 : ACode :=
 (.seq (.ops false [
 ⟨some 9, .bin .lss (.t 8) (.t 7), none⟩])
 (.seq (.cond (.t 9)
 (.skip)
 (.exit 0))
 (.seq (.block 1 (.seq (.ops false [
 ⟨some 10, .mov (.t 8), none⟩,
 ⟨some 5, .mov (.t 10), none⟩])
 (.seq (.ops false [
 ⟨some 11, .mov (.t 1), none⟩,
 ⟨some 12, .mov (.t 0), none⟩,
 ⟨some 13, .mov (.t 5), none⟩,
 ⟨some 14, .iaddr (some 4) (.t 12) (.t 13), none⟩,
 ⟨some 15, .load (some 4) (.t 14), none⟩,
 ⟨some 16, .callv false (.t 11) [(.t 15)], none⟩])
 (.cond (.t 16)
 (.seq (.ops false [
 ⟨some 17, .mov (.t 5), none⟩,
 ⟨some 4, .mov (.t 17), none⟩])
 (.ret))
 (.skip)))))
 (.ops false [
 ⟨some 18, .bin .add (.t 8) (.c (.int .i64 1)), none⟩,
 ⟨some 8, .mov (.t 18), none⟩]))))

/-- slices.IndexFunc[[]pointsman/api.Pol,pointsman/api.Pol] -/
def a113 : AFn := .mk 19
 (.seq (.ops false [
 ⟨some 4, .mov (.c (.int .i64 0)), none⟩])
 (.seq (.seq (.ops false [
 ⟨some 6, .mov (.t 0), none⟩,
 ⟨some 7, .len (.t 6), none⟩,
 ⟨some 8, .mov (.c (.int .i64 0)), none⟩])
 (.block 0 (.loop b113_0)))
 (.seq (.ops false [
 ⟨some 4, .mov (.c (.int .i64 (-1))), none⟩])
 (.ret))))
 [.t 4]

set_option maxRecDepth 100000 in
theorem ok113 : chkFn Try.prog 113 a113 = true := by kernel_rfl

/-- slices.ContainsFunc[[]pointsman/api.Pol,pointsman/api.Pol] -/
def a98 : AFn := .mk 9
 (.seq (.ops false [
 ⟨some 4, .mov (.c (.bool false)), none⟩])
 (.seq (.ops false [
 ⟨some 5, .mov (.t 0), none⟩,
 ⟨some 6, .mov (.t 1), none⟩,
 ⟨some 7, .call false 113 [(.t 5), (.t 6)], none⟩,
 ⟨some 8, .bin .geq (.t 7) (.c (.int .i64 0)), none⟩,
 ⟨some 4, .mov (.t 8), none⟩])
 (.ret)))
 [.t 4]

set_option maxRecDepth 100000 in
theorem ok98 : chkFn Try.prog 98 a98 = true := by kernel_rfl

/-- pointsman/syntax.Predicate$1 -/
def a112 : AFn := .mk 6
 (.seq (.ops false [
 ⟨some 1, .box (some 4) (.t 0) true, none⟩,
 ⟨some 2, .mov (.c (.bool false)), none⟩])
 (.seq (.ops false [
 ⟨some 3, .ldI (some 4) (.t 1), none⟩,
 ⟨some 4, .call false 97 [(.t 3)], none⟩,
 ⟨some 5, .un .not (.t 4), none⟩,
 ⟨some 2, .mov (.t 5), none⟩])
 (.ret)))
 [.t 2]

set_option maxRecDepth 100000 in
theorem ok112 : chkFn Try.prog 112 a112 = true := by kernel_rfl

/-- pointsman/syntax.Predicate -/
def a97 : AFn := .mk 18
 (.seq (.ops false [
 ⟨some 1, .box (some 4) (.t 0) true, none⟩,
 ⟨some 2, .mov (.c (.bool false)), none⟩])
 (.seq (.seq (.ops false [
 ⟨some 3, .faddr 0 (.t 1), none⟩,
 ⟨some 4, .ldI none (.t 3), none⟩])
 (.block 0 (.seq (.seq (.ops false [
 ⟨some 6, .bin .eql (.t 4) (.c (.int .i64 0)), none⟩,
 ⟨some 5, .mov (.t 6), none⟩])
 (.cond (.t 5)
 (.skip)
 (.seq (.ops false [
 ⟨some 7, .bin .eql (.t 4) (.c (.int .i64 1)), none⟩,
 ⟨some 5, .mov (.t 7), none⟩])
 (.cond (.t 5)
 (.skip)
 (.seq (.ops false [
 ⟨some 8, .bin .eql (.t 4) (.c (.int .i64 2)), none⟩,
 ⟨some 5, .mov (.t 8), none⟩])
 (.cond (.t 5)
 (.skip)
 (.seq (.ops false [
 ⟨some 9, .bin .eql (.t 4) (.c (.int .i64 3)), none⟩,
 ⟨some 5, .mov (.t 9), none⟩])
 (.cond (.t 5)
 (.skip)
 (.ops false [
 ⟨some 10, .bin .eql (.t 4) (.c (.int .i64 4)), none⟩,
 ⟨some 5, .mov (.t 10), none⟩])))))))))
 (.cond (.t 5)
 (.seq (.ops false [
 ⟨some 2, .mov (.c (.bool true)), none⟩])
 (.ret))
 (.seq (.seq (.ops false [
 ⟨some 12, .bin .eql (.t 4) (.c (.int .i64 6)), none⟩,
 ⟨some 11, .mov (.t 12), none⟩])
 (.cond (.t 11)
 (.skip)
 (.ops false [
 ⟨some 13, .bin .eql (.t 4) (.c (.int .i64 7)), none⟩,
 ⟨some 11, .mov (.t 13), none⟩])))
 (.cond (.t 11)
 (.seq (.ops false [
 ⟨some 14, .faddr 3 (.t 1), none⟩,
 ⟨some 15, .ldI none (.t 14), none⟩,
 ⟨some 16, .call false 98 [(.t 15), (.c (.func 112 []))], none⟩,
 ⟨some 17, .un .not (.t 16), none⟩,
 ⟨some 2, .mov (.t 17), none⟩])
 (.ret))
 (.skip)))))))
 (.seq (.ops false [
 ⟨some 2, .mov (.c (.bool false)), none⟩])
 (.ret))))
 [.t 2]

set_option maxRecDepth 100000 in
theorem ok97 : chkFn Try.prog 97 a97 = true := by kernel_rfl

/-- pointsman/syntax.formed$1 -/
def a99 : AFn := .mk 8
 (.seq (.ops false [
 ⟨some 2, .box (some 4) (.t 0) true, none⟩,
 ⟨some 3, .mov (.c (.bool false)), none⟩])
 (.seq (.ops false [
 ⟨some 4, .ldI (some 4) (.t 2), none⟩,
 ⟨some 5, .load none (.t 1), none⟩,
 ⟨some 6, .call false 85 [(.t 4), (.t 5)], none⟩,
 ⟨some 7, .un .not (.t 6), none⟩,
 ⟨some 3, .mov (.t 7), none⟩])
 (.ret)))
 [.t 3]

set_option maxRecDepth 100000 in
theorem ok99 : chkFn Try.prog 99 a99 = true := by kernel_rfl

/-- pointsman/syntax.formed -/
def a85 : AFn := .mk 92
 (.seq (.ops false [
 ⟨some 2, .box (some 4) (.t 0) true, none⟩,
 ⟨some 3, .box none (.t 1) true, none⟩,
 ⟨some 4, .mov (.c (.bool false)), none⟩])
 (.seq (.ops false [
 ⟨some 8, .faddr 1 (.t 2), none⟩,
 ⟨some 9, .ldI none (.t 8), none⟩,
 ⟨some 10, .bin .eql (.t 9) (.c (.int .i64 0)), none⟩,
 ⟨some 11, .mov (.t 10), none⟩,
 ⟨some 12, .faddr 2 (.t 2), some (11, true)⟩,
 ⟨some 13, .ldI none (.t 12), some (11, true)⟩,
 ⟨some 14, .bin .eql (.t 13) (.c (.int .u16 0)), some (11, true)⟩,
 ⟨some 15, .pick (.t 11) (.t 14) (.c (.bool false)), none⟩,
 ⟨some 5, .mov (.t 15), none⟩])
 (.seq (.ops false [
 ⟨some 6, .mov (.c (.int .i64 0)), none⟩,
 ⟨some 7, .mov (.c (.int .i64 8)), none⟩])
 (.seq (.seq (.ops false [
 ⟨some 16, .faddr 0 (.t 2), none⟩,
 ⟨some 17, .ldI none (.t 16), none⟩])
 (.block 0 (.seq (.seq (.ops false [
 ⟨some 19, .bin .eql (.t 17) (.c (.int .i64 0)), none⟩,
 ⟨some 18, .mov (.t 19), none⟩])
 (.cond (.t 18)
 (.skip)
 (.ops false [
 ⟨some 20, .bin .eql (.t 17) (.c (.int .i64 1)), none⟩,
 ⟨some 18, .mov (.t 20), none⟩])))
 (.cond (.t 18)
 (.seq (.ops false [
 ⟨some 21, .faddr 3 (.t 2), none⟩,
 ⟨some 22, .ldI none (.t 21), none⟩,
 ⟨some 23, .len (.t 22), none⟩,
 ⟨some 24, .bin .eql (.t 23) (.c (.int .i64 0)), none⟩,
 ⟨some 25, .mov (.t 24), none⟩,
 ⟨some 26, .mov (.t 5), some (25, true)⟩,
 ⟨some 27, .pick (.t 25) (.t 26) (.c (.bool false)), none⟩,
 ⟨some 4, .mov (.t 27), none⟩])
 (.ret))
 (.seq (.ops false [
 ⟨some 29, .bin .eql (.t 17) (.c (.int .i64 4)), none⟩,
 ⟨some 28, .mov (.t 29), none⟩])
 (.cond (.t 28)
 (.seq (.ops true [
 ⟨some 30, .faddr 3 (.t 2), none⟩,
 ⟨some 31, .ldI none (.t 30), none⟩,
 ⟨some 32, .len (.t 31), none⟩,
 ⟨some 33, .bin .eql (.t 32) (.c (.int .i64 1)), none⟩,
 ⟨some 34, .mov (.t 33), none⟩,
 ⟨some 35, .mov (.t 5), some (34, true)⟩,
 ⟨some 36, .pick (.t 34) (.t 35) (.c (.bool false)), none⟩,
 ⟨some 37, .mov (.t 36), none⟩,
 ⟨some 38, .faddr 3 (.t 2), some (37, true)⟩,
 ⟨some 39, .ldI none (.t 38), some (37, true)⟩,
 ⟨some 40, .iaddr (some 4) (.t 39) (.c (.int .i64 0)), some (37, true)⟩,
 ⟨some 41, .load (some 4) (.t 40), some (37, true)⟩,
 ⟨some 42, .call false 97 [(.t 41)], some (37, true)⟩,
 ⟨some 43, .pick (.t 37) (.t 42) (.c (.bool false)), none⟩,
 ⟨some 44, .mov (.t 43), none⟩,
 ⟨some 45, .faddr 3 (.t 2), some (44, true)⟩,
 ⟨some 46, .ldI none (.t 45), some (44, true)⟩,
 ⟨some 47, .iaddr (some 4) (.t 46) (.c (.int .i64 0)), some (44, true)⟩,
 ⟨some 48, .load (some 4) (.t 47), some (44, true)⟩,
 ⟨some 49, .ldI none (.t 3), some (44, true)⟩,
 ⟨some 50, .call false 85 [(.t 48), (.t 49)], some (44, true)⟩,
 ⟨some 51, .pick (.t 44) (.t 50) (.c (.bool false)), none⟩,
 ⟨some 4, .mov (.t 51), none⟩])
 (.ret))
 (.seq (.seq (.ops false [
 ⟨some 53, .bin .eql (.t 17) (.c (.int .i64 6)), none⟩,
 ⟨some 52, .mov (.t 53), none⟩])
 (.cond (.t 52)
 (.skip)
 (.ops false [
 ⟨some 54, .bin .eql (.t 17) (.c (.int .i64 7)), none⟩,
 ⟨some 52, .mov (.t 54), none⟩])))
 (.cond (.t 52)
 (.seq (.ops false [
 ⟨some 55, .faddr 3 (.t 2), none⟩,
 ⟨some 56, .ldI none (.t 55), none⟩,
 ⟨some 57, .len (.t 56), none⟩,
 ⟨some 58, .bin .geq (.t 57) (.c (.int .i64 2)), none⟩,
 ⟨some 59, .mov (.t 58), none⟩,
 ⟨some 60, .mov (.t 5), some (59, true)⟩,
 ⟨some 61, .pick (.t 59) (.t 60) (.c (.bool false)), none⟩,
 ⟨some 62, .mov (.t 61), none⟩,
 ⟨some 63, .faddr 3 (.t 2), some (62, true)⟩,
 ⟨some 64, .ldI none (.t 63), some (62, true)⟩,
 ⟨some 65, .mkfunc 99 [(.t 3)], some (62, true)⟩,
 ⟨some 66, .call false 98 [(.t 64), (.t 65)], some (62, true)⟩,
 ⟨some 67, .un .not (.t 66), some (62, true)⟩,
 ⟨some 68, .pick (.t 62) (.t 67) (.c (.bool false)), none⟩,
 ⟨some 4, .mov (.t 68), none⟩])
 (.ret))
 (.seq (.ops false [
 ⟨some 70, .bin .eql (.t 17) (.c (.int .i64 2)), none⟩,
 ⟨some 69, .mov (.t 70), none⟩])
 (.cond (.t 69)
 (.skip)
 (.seq (.ops false [
 ⟨some 72, .bin .eql (.t 17) (.c (.int .i64 5)), none⟩,
 ⟨some 71, .mov (.t 72), none⟩])
 (.cond (.t 71)
 (.ops false [
 ⟨some 6, .mov (.c (.int .i64 1)), none⟩])
 (.seq (.ops false [
 ⟨some 74, .bin .eql (.t 17) (.c (.int .i64 3)), none⟩,
 ⟨some 73, .mov (.t 74), none⟩])
 (.cond (.t 73)
 (.ops false [
 ⟨some 75, .ldI none (.t 3), none⟩,
 ⟨some 7, .mov (.t 75), none⟩])
 (.seq (.ops false [
 ⟨some 4, .mov (.c (.bool false)), none⟩])
 (.ret))))))))))))))))
 (.seq (.ops false [
 ⟨some 76, .faddr 3 (.t 2), none⟩,
 ⟨some 77, .ldI none (.t 76), none⟩,
 ⟨some 78, .len (.t 77), none⟩,
 ⟨some 79, .bin .eql (.t 78) (.c (.int .i64 0)), none⟩,
 ⟨some 80, .mov (.t 79), none⟩,
 ⟨some 81, .faddr 1 (.t 2), some (80, true)⟩,
 ⟨some 82, .ldI none (.t 81), some (80, true)⟩,
 ⟨some 83, .mov (.t 6), some (80, true)⟩,
 ⟨some 84, .bin .geq (.t 82) (.t 83), some (80, true)⟩,
 ⟨some 85, .pick (.t 80) (.t 84) (.c (.bool false)), none⟩,
 ⟨some 86, .mov (.t 85), none⟩,
 ⟨some 87, .faddr 1 (.t 2), some (86, true)⟩,
 ⟨some 88, .ldI none (.t 87), some (86, true)⟩,
 ⟨some 89, .mov (.t 7), some (86, true)⟩,
 ⟨some 90, .bin .lss (.t 88) (.t 89), some (86, true)⟩,
 ⟨some 91, .pick (.t 86) (.t 90) (.c (.bool false)), none⟩,
 ⟨some 4, .mov (.t 91), none⟩])
 (.ret))))))
 [.t 4]

set_option maxRecDepth 100000 in
theorem ok85 : chkFn Try.prog 85 a85 = true := by kernel_rfl

def b86_0 : ACode :=
 (.seq (.ops false [
 ⟨some 10, .bin .lss (.t 9) (.t 8), none⟩])
 (.seq (.cond (.t 10)
 (.skip)
 (.exit 0))
 (.seq (.block 1 (.seq (.ops false [
 ⟨some 11, .mov (.t 9), none⟩,
 ⟨some 12, .iaddr (some 2) (.t 7) (.t 9), none⟩,
 ⟨some 13, .load (some 2) (.t 12), none⟩,
 ⟨some 6, .alloc [.int .i64 0, .int .u16 0], none⟩,
 ⟨some 5, .mov (.t 11), none⟩,
 ⟨none, .store (some 2) (.t 6) (.t 13), none⟩])
 (.seq (.ops true [
 ⟨some 14, .faddr 0 (.t 6), none⟩,
 ⟨some 15, .load none (.t 14), none⟩,
 ⟨some 16, .bin .lss (.t 15) (.c (.int .i64 0)), none⟩,
 ⟨some 17, .mov (.t 16), none⟩,
 ⟨some 18, .faddr 0 (.t 6), some (17, false)⟩,
 ⟨some 19, .load none (.t 18), some (17, false)⟩,
 ⟨some 20, .mov (.t 1), some (17, false)⟩,
 ⟨some 21, .bin .geq (.t 19) (.t 20), some (17, false)⟩,
 ⟨some 22, .pick (.t 17) (.c (.bool true)) (.t 21), none⟩,
 ⟨some 23, .mov (.t 22), none⟩,
 ⟨some 24, .mov (.t 5), some (23, false)⟩,
 ⟨some 25, .bin .gtr (.t 24) (.c (.int .i64 0)), some (23, false)⟩,
 ⟨some 26, .mov (.t 25), some (23, false)⟩,
 ⟨some 27, .mov (.t 0), some (26, true)⟩,
 ⟨some 28, .mov (.t 5), some (26, true)⟩,
 ⟨some 29, .bin .sub (.t 28) (.c (.int .i64 1)), some (26, true)⟩,
 ⟨some 30, .iaddr (some 2) (.t 27) (.t 29), some (26, true)⟩,
 ⟨some 31, .faddr 0 (.t 30), some (26, true)⟩,
 ⟨some 32, .load none (.t 31), some (26, true)⟩,
 ⟨some 33, .faddr 0 (.t 6), some (26, true)⟩,
 ⟨some 34, .load none (.t 33), some (26, true)⟩,
 ⟨some 35, .bin .geq (.t 32) (.t 34), some (26, true)⟩,
 ⟨some 36, .pick (.t 26) (.t 35) (.c (.bool false)), some (23, false)⟩,
 ⟨some 37, .pick (.t 23) (.c (.bool true)) (.t 36), none⟩])
 (.cond (.t 37)
 (.seq (.ops false [
 ⟨some 4, .mov (.c (.bool false)), none⟩])
 (.ret))
 (.skip)))))
 (.ops false [
 ⟨some 38, .bin .add (.t 9) (.c (.int .i64 1)), none⟩,
 ⟨some 9, .mov (.t 38), none⟩]))))

/-- pointsman/syntax.once -/
def a86 : AFn := .mk 39
 (.seq (.ops false [
 ⟨some 4, .mov (.c (.bool false)), none⟩])
 (.seq (.seq (.ops false [
 ⟨some 7, .mov (.t 0), none⟩,
 ⟨some 8, .len (.t 7), none⟩,
 ⟨some 9, .mov (.c (.int .i64 0)), none⟩])
 (.block 0 (.loop b86_0)))
 (.seq (.ops false [
 ⟨some 4, .mov (.c (.bool true)), none⟩])
 (.ret))))
 [.t 4]

set_option maxRecDepth 100000 in
theorem ok86 : chkFn Try.prog 86 a86 = true := by kernel_rfl

def b65_0 : ACode :=
 (.seq (.ops false [
 ⟨some 43, .bin .lss (.t 42) (.t 41), none⟩])
 (.seq (.cond (.t 43)
 (.skip)
 (.exit 0))
 (.seq (.block 1 (.seq (.ops false [
 ⟨some 44, .iaddr (some 3) (.t 40) (.t 42), none⟩,
 ⟨some 45, .load (some 3) (.t 44), none⟩,
 ⟨some 5, .alloc [.vec (some 2) [], .vec (some 2) [], .vec (some 2) []], none⟩,
 ⟨none, .store (some 3) (.t 5) (.t 45), none⟩])
 (.seq (.ops false [
 ⟨some 46, .faddr 0 (.t 5), none⟩,
 ⟨some 47, .load none (.t 46), none⟩,
 ⟨some 48, .len (.t 47), none⟩,
 ⟨some 49, .bin .geq (.t 48) (.c (.int .i64 2)), none⟩,
 ⟨some 50, .mov (.t 49), none⟩,
 ⟨some 51, .faddr 0 (.t 5), some (50, true)⟩,
 ⟨some 52, .load none (.t 51), some (50, true)⟩,
 ⟨some 53, .iaddr (some 2) (.t 52) (.c (.int .i64 0)), some (50, true)⟩,
 ⟨some 54, .faddr 0 (.t 53), some (50, true)⟩,
 ⟨some 55, .load none (.t 54), some (50, true)⟩,
 ⟨some 56, .bin .eql (.t 55) (.c (.int .i64 0)), some (50, true)⟩,
 ⟨some 57, .pick (.t 50) (.t 56) (.c (.bool false)), none⟩,
 ⟨some 58, .mov (.t 57), none⟩,
 ⟨some 59, .faddr 0 (.t 5), some (58, true)⟩,
 ⟨some 60, .load none (.t 59), some (58, true)⟩,
 ⟨some 61, .iaddr (some 2) (.t 60) (.c (.int .i64 1)), some (58, true)⟩,
 ⟨some 62, .faddr 0 (.t 61), some (58, true)⟩,
 ⟨some 63, .load none (.t 62), some (58, true)⟩,
 ⟨some 64, .bin .eql (.t 63) (.c (.int .i64 1)), some (58, true)⟩,
 ⟨some 65, .pick (.t 58) (.t 64) (.c (.bool false)), none⟩,
 ⟨some 6, .mov (.t 65), none⟩])
 (.seq (.ops false [
 ⟨some 66, .mov (.t 6), none⟩,
 ⟨some 67, .un .not (.t 66), none⟩,
 ⟨some 68, .mov (.t 67), none⟩,
 ⟨some 69, .faddr 0 (.t 5), some (68, false)⟩,
 ⟨some 70, .load none (.t 69), some (68, false)⟩,
 ⟨some 71, .call false 86 [(.t 70), (.c (.int .i64 8))], some (68, false)⟩,
 ⟨some 72, .un .not (.t 71), some (68, false)⟩,
 ⟨some 73, .pick (.t 68) (.c (.bool true)) (.t 72), none⟩,
 ⟨some 74, .mov (.t 73), none⟩,
 ⟨some 75, .faddr 1 (.t 5), some (74, false)⟩,
 ⟨some 76, .load none (.t 75), some (74, false)⟩,
 ⟨some 77, .mov (.t 3), some (74, false)⟩,
 ⟨some 78, .call false 86 [(.t 76), (.t 77)], some (74, false)⟩,
 ⟨some 79, .un .not (.t 78), some (74, false)⟩,
 ⟨some 80, .pick (.t 74) (.c (.bool true)) (.t 79), none⟩,
 ⟨some 81, .mov (.t 80), none⟩,
 ⟨some 82, .faddr 2 (.t 5), some (81, false)⟩,
 ⟨some 83, .load none (.t 82), some (81, false)⟩,
 ⟨some 84, .mov (.t 3), some (81, false)⟩,
 ⟨some 85, .call false 86 [(.t 83), (.t 84)], some (81, false)⟩,
 ⟨some 86, .un .not (.t 85), some (81, false)⟩,
 ⟨some 87, .pick (.t 81) (.c (.bool true)) (.t 86), none⟩,
 ⟨some 88, .mov (.t 87), none⟩,
 ⟨some 89, .faddr 2 (.t 5), some (88, false)⟩,
 ⟨some 90, .load none (.t 89), some (88, false)⟩,
 ⟨some 91, .len (.t 90), some (88, false)⟩,
 ⟨some 92, .bin .eql (.t 91) (.c (.int .i64 0)), some (88, false)⟩,
 ⟨some 93, .pick (.t 88) (.c (.bool true)) (.t 92), none⟩])
 (.cond (.t 93)
 (.seq (.ops false [
 ⟨some 2, .mov (.c (.int .i64 11)), none⟩])
 (.ret))
 (.skip))))))
 (.ops false [
 ⟨some 94, .bin .add (.t 42) (.c (.int .i64 1)), none⟩,
 ⟨some 42, .mov (.t 94), none⟩]))))

/-- pointsman/syntax.Check -/
def a65 : AFn := .mk 95
 (.seq (.ops false [
 ⟨some 1, .box (some 6) (.t 0) true, none⟩,
 ⟨some 2, .mov (.c (.int .i64 0)), none⟩])
 (.seq (.ops false [
 ⟨some 7, .faddr 0 (.t 1), none⟩,
 ⟨some 8, .ldI none (.t 7), none⟩,
 ⟨some 9, .len (.t 8), none⟩,
 ⟨some 3, .mov (.t 9), none⟩])
 (.seq (.seq (.ops false [
 ⟨some 10, .mov (.t 3), none⟩,
 ⟨some 11, .bin .lss (.t 10) (.c (.int .i64 1)), none⟩,
 ⟨some 12, .mov (.t 11), none⟩,
 ⟨some 13, .mov (.t 3), some (12, false)⟩,
 ⟨some 14, .bin .gtr (.t 13) (.c (.int .i64 4)), some (12, false)⟩,
 ⟨some 15, .pick (.t 12) (.c (.bool true)) (.t 14), none⟩,
 ⟨some 16, .mov (.t 15), none⟩,
 ⟨some 17, .faddr 1 (.t 1), some (16, false)⟩,
 ⟨some 18, .ldI (some 4) (.t 17), some (16, false)⟩,
 ⟨some 19, .call false 83 [(.t 18)], some (16, false)⟩,
 ⟨some 20, .bin .gtr (.t 19) (.c (.int .i64 300)), some (16, false)⟩,
 ⟨some 21, .pick (.t 16) (.c (.bool true)) (.t 20), none⟩,
 ⟨some 22, .mov (.t 21), none⟩,
 ⟨some 23, .faddr 1 (.t 1), some (22, false)⟩,
 ⟨some 24, .ldI (some 4) (.t 23), some (22, false)⟩,
 ⟨some 25, .call false 84 [(.t 24)], some (22, false)⟩,
 ⟨some 26, .bin .gtr (.t 25) (.c (.int .i64 20)), some (22, false)⟩,
 ⟨some 27, .pick (.t 22) (.c (.bool true)) (.t 26), none⟩,
 ⟨some 28, .mov (.t 27), none⟩,
 ⟨some 29, .faddr 5 (.t 1), some (28, false)⟩,
 ⟨some 30, .ldI none (.t 29), some (28, false)⟩,
 ⟨some 31, .len (.t 30), some (28, false)⟩,
 ⟨some 32, .bin .gtr (.t 31) (.c (.int .i64 24)), some (28, false)⟩,
 ⟨some 33, .pick (.t 28) (.c (.bool true)) (.t 32), none⟩])
 (.cond (.t 33)
 (.seq (.ops false [
 ⟨some 2, .mov (.c (.int .i64 2)), none⟩])
 (.ret))
 (.skip)))
 (.seq (.seq (.ops false [
 ⟨some 34, .faddr 1 (.t 1), none⟩,
 ⟨some 35, .ldI (some 4) (.t 34), none⟩,
 ⟨some 36, .mov (.t 3), none⟩,
 ⟨some 37, .call false 85 [(.t 35), (.t 36)], none⟩,
 ⟨some 38, .un .not (.t 37), none⟩])
 (.cond (.t 38)
 (.seq (.ops false [
 ⟨some 2, .mov (.c (.int .i64 11)), none⟩])
 (.ret))
 (.skip)))
 (.seq (.seq (.ops false [
 ⟨some 39, .faddr 5 (.t 1), none⟩,
 ⟨some 40, .ldI none (.t 39), none⟩,
 ⟨some 41, .len (.t 40), none⟩,
 ⟨some 42, .mov (.c (.int .i64 0)), none⟩])
 (.block 0 (.loop b65_0)))
 (.seq (.ops false [
 ⟨some 2, .mov (.c (.int .i64 0)), none⟩])
 (.ret)))))))
 [.t 2]

set_option maxRecDepth 100000 in
theorem ok65 : chkFn Try.prog 65 a65 = true := by kernel_rfl

def b102_0 : ACode :=
 (.seq (.ops false [
 ⟨some 11, .bin .lss (.t 10) (.t 9), none⟩])
 (.seq (.cond (.t 11)
 (.skip)
 (.exit 0))
 (.seq (.block 1 (.seq (.ops false [
 ⟨some 12, .iaddr (some 4) (.t 8) (.t 10), none⟩,
 ⟨some 13, .load (some 4) (.t 12), none⟩,
 ⟨some 7, .alloc [.int .i64 0, .int .i64 0, .int .u16 0, .vec (some 4) []], none⟩,
 ⟨none, .store (some 4) (.t 7) (.t 13), none⟩])
 (.seq (.ops false [
 ⟨some 14, .faddr 0 (.t 7), none⟩,
 ⟨some 15, .load none (.t 14), none⟩,
 ⟨some 16, .mov (.t 0), none⟩,
 ⟨some 17, .bin .eql (.t 15) (.t 16), none⟩])
 (.cond (.t 17)
 (.ops false [
 ⟨some 18, .mov (.t 5), none⟩,
 ⟨some 19, .faddr 3 (.t 7), none⟩,
 ⟨some 20, .load none (.t 19), none⟩,
 ⟨some 21, .append (some 4) (.t 18) (.t 20) true, none⟩,
 ⟨some 5, .mov (.t 21), none⟩])
 (.ops false [
 ⟨some 22, .mov (.t 5), none⟩,
 ⟨some 23, .load (some 4) (.t 7), none⟩,
 ⟨some 24, .bsliceI (some 4) [(.t 23)], none⟩,
 ⟨some 25, .append (some 4) (.t 22) (.t 24) true, none⟩,
 ⟨some 5, .mov (.t 25), none⟩])))))
 (.ops false [
 ⟨some 26, .bin .add (.t 10) (.c (.int .i64 1)), none⟩,
 ⟨some 10, .mov (.t 26), none⟩]))))

/-- pointsman/trim.flat -/
def a102 : AFn := .mk 28
 (.seq (.ops false [
 ⟨some 4, .mov (.c (.nils)), none⟩])
 (.seq (.ops false [
 ⟨some 5, .mov (.c (.nils)), none⟩])
 (.seq (.seq (.ops false [
 ⟨some 8, .mov (.t 1), none⟩,
 ⟨some 9, .len (.t 8), none⟩,
 ⟨some 10, .mov (.c (.int .i64 0)), none⟩])
 (.block 0 (.loop b102_0)))
 (.seq (.ops false [
 ⟨some 27, .mov (.t 5), none⟩,
 ⟨some 4, .mov (.t 27), none⟩])
 (.ret)))))
 [.t 4]

set_option maxRecDepth 100000 in
theorem ok102 : chkFn Try.prog 102 a102 = true := by kernel_rfl

/-- pointsman/trim.without$1 -/
def a116 : AFn := .mk 8
 (.seq (.ops false [
 ⟨some 2, .box (some 4) (.t 0) true, none⟩,
 ⟨some 3, .mov (.c (.bool false)), none⟩])
 (.seq (.ops false [
 ⟨some 4, .faddr 0 (.t 2), none⟩,
 ⟨some 5, .ldI none (.t 4), none⟩,
 ⟨some 6, .load none (.t 1), none⟩,
 ⟨some 7, .bin .eql (.t 5) (.t 6), none⟩,
 ⟨some 3, .mov (.t 7), none⟩])
 (.ret)))
 [.t 3]

set_option maxRecDepth 100000 in
theorem ok116 : chkFn Try.prog 116 a116 = true := by kernel_rfl

def b115_0 : ACode :=
 (.seq (.seq (.ops false [
 ⟨some 16, .mov (.t 6), none⟩,
 ⟨some 17, .mov (.t 0), none⟩,
 ⟨some 18, .len (.t 17), none⟩,
 ⟨some 19, .bin .lss (.t 16) (.t 18), none⟩])
 (.cond (.t 19)
 (.skip)
 (.exit 0)))
 (.seq (.block 1 (.seq (.ops false [
 ⟨some 22, .mov (.t 0), none⟩,
 ⟨some 23, .mov (.t 6), none⟩,
 ⟨some 24, .iaddr (some 4) (.t 22) (.t 23), none⟩,
 ⟨some 25, .load (some 4) (.t 24), none⟩,
 ⟨some 7, .alloc [.int .i64 0, .int .i64 0, .int .u16 0, .vec (some 4) []], none⟩,
 ⟨none, .store (some 4) (.t 7) (.t 25), none⟩])
 (.seq (.ops false [
 ⟨some 26, .mov (.t 1), none⟩,
 ⟨some 27, .load (some 4) (.t 7), none⟩,
 ⟨some 28, .callv false (.t 26) [(.t 27)], none⟩,
 ⟨some 29, .un .not (.t 28), none⟩])
 (.cond (.t 29)
 (.seq (.ops false [
 ⟨some 30, .mov (.t 0), none⟩,
 ⟨some 31, .mov (.t 5), none⟩,
 ⟨some 32, .load (some 4) (.t 7), none⟩,
 ⟨some 33, .iaddr (some 4) (.t 30) (.t 31), none⟩,
 ⟨none, .store (some 4) (.t 33) (.t 32), none⟩])
 (.ops false [
 ⟨some 34, .mov (.t 5), none⟩,
 ⟨some 35, .bin .add (.t 34) (.c (.int .i64 1)), none⟩,
 ⟨some 5, .mov (.t 35), none⟩]))
 (.skip)))))
 (.ops false [
 ⟨some 20, .mov (.t 6), none⟩,
 ⟨some 21, .bin .add (.t 20) (.c (.int .i64 1)), none⟩,
 ⟨some 6, .mov (.t 21), none⟩])))

/-- slices.DeleteFunc[[]pointsman/api.Pol,pointsman/api.Pol] -/
def a115 : AFn := .mk 42
 (.seq (.ops false [
 ⟨some 4, .mov (.c (.vec (some 4) [])), none⟩])
 (.seq (.ops false [
 ⟨some 8, .mov (.t 0), none⟩,
 ⟨some 9, .mov (.t 1), none⟩,
 ⟨some 10, .call true 113 [(.t 8), (.t 9)], none⟩,
 ⟨some 5, .mov (.t 10), none⟩])
 (.seq (.seq (.ops false [
 ⟨some 11, .mov (.t 5), none⟩,
 ⟨some 12, .bin .eql (.t 11) (.c (.int .i64 (-1))), none⟩])
 (.cond (.t 12)
 (.seq (.ops false [
 ⟨some 13, .mov (.t 0), none⟩,
 ⟨some 4, .mov (.t 13), none⟩])
 (.ret))
 (.skip)))
 (.seq (.seq (.ops false [
 ⟨some 14, .mov (.t 5), none⟩,
 ⟨some 15, .bin .add (.t 14) (.c (.int .i64 1)), none⟩,
 ⟨some 6, .mov (.t 15), none⟩])
 (.block 0 (.loop b115_0)))
 (.seq (.ops false [
 ⟨some 36, .mov (.t 0), none⟩,
 ⟨some 37, .mov (.t 5), none⟩,
 ⟨some 38, .slc (some 4) (.t 36) (some (.t 37)) none, none⟩,
 ⟨none, .clear (some 4) [.int .i64 0, .int .i64 0, .int .u16 0, .vec (some 4) []] (.t 38), none⟩])
 (.seq (.ops false [
 ⟨some 39, .mov (.t 0), none⟩,
 ⟨some 40, .mov (.t 5), none⟩,
 ⟨some 41, .slc (some 4) (.t 39) none (some (.t 40)), none⟩,
 ⟨some 4, .mov (.t 41), none⟩])
 (.ret)))))))
 [.t 4]

set_option maxRecDepth 100000 in
theorem ok115 : chkFn Try.prog 115 a115 = true := by kernel_rfl

/-- pointsman/trim.without -/
def a101 : AFn := .mk 8
 (.seq (.ops false [
 ⟨some 2, .box none (.t 0) true, none⟩,
 ⟨some 4, .mov (.c (.vec (some 4) [])), none⟩])
 (.seq (.ops false [
 ⟨some 5, .mov (.t 1), none⟩,
 ⟨some 6, .mkfunc 116 [(.t 2)], none⟩,
 ⟨some 7, .call true 115 [(.t 5), (.t 6)], none⟩,
 ⟨some 4, .mov (.t 7), none⟩])
 (.ret)))
 [.t 4]

set_option maxRecDepth 100000 in
theorem ok101 : chkFn Try.prog 101 a101 = true := by kernel_rfl

def b95_0 : ACode :=
 (.seq (.ops false [
 ⟨some 18, .bin .lss (.t 17) (.t 16), none⟩])
 (.seq (.cond (.t 18)
 (.skip)
 (.exit 0))
 (.seq (.block 1 (.seq (.ops false [
 ⟨some 19, .mov (.t 17), none⟩,
 ⟨some 20, .iaddr (some 4) (.t 15) (.t 17), none⟩,
 ⟨some 21, .load (some 4) (.t 20), none⟩,
 ⟨some 8, .alloc [.int .i64 0, .int .i64 0, .int .u16 0, .vec (some 4) []], none⟩,
 ⟨some 7, .mov (.t 19), none⟩,
 ⟨none, .store (some 4) (.t 8) (.t 21), none⟩])
 (.seq (.ops false [
 ⟨some 22, .mov (.t 1), none⟩,
 ⟨some 23, .mov (.t 7), none⟩,
 ⟨some 24, .iaddr (some 4) (.t 22) (.t 23), none⟩,
 ⟨some 25, .load (some 4) (.t 24), none⟩,
 ⟨some 9, .alloc [.int .i64 0, .int .i64 0, .int .u16 0, .vec (some 4) []], none⟩,
 ⟨none, .store (some 4) (.t 9) (.t 25), none⟩])
 (.seq (.ops false [
 ⟨some 26, .mov (.t 2), none⟩,
 ⟨some 27, .load (some 4) (.t 8), none⟩,
 ⟨some 28, .load (some 4) (.t 9), none⟩,
 ⟨some 29, .callv false (.t 26) [(.t 27), (.t 28)], none⟩,
 ⟨some 30, .un .not (.t 29), none⟩])
 (.cond (.t 30)
 (.seq (.ops false [
 ⟨some 6, .mov (.c (.bool false)), none⟩])
 (.ret))
 (.skip))))))
 (.ops false [
 ⟨some 31, .bin .add (.t 17) (.c (.int .i64 1)), none⟩,
 ⟨some 17, .mov (.t 31), none⟩]))))

/-- slices.EqualFunc[[]pointsman/api.Pol,[]pointsman/api.Pol,pointsman/api.Pol,pointsman/api.Pol] -/
def a95 : AFn := .mk 32
 (.seq (.ops false [
 ⟨some 6, .mov (.c (.bool false)), none⟩])
 (.seq (.seq (.ops false [
 ⟨some 10, .mov (.t 0), none⟩,
 ⟨some 11, .len (.t 10), none⟩,
 ⟨some 12, .mov (.t 1), none⟩,
 ⟨some 13, .len (.t 12), none⟩,
 ⟨some 14, .bin .neq (.t 11) (.t 13), none⟩])
 (.cond (.t 14)
 (.seq (.ops false [
 ⟨some 6, .mov (.c (.bool false)), none⟩])
 (.ret))
 (.skip)))
 (.seq (.seq (.ops false [
 ⟨some 15, .mov (.t 0), none⟩,
 ⟨some 16, .len (.t 15), none⟩,
 ⟨some 17, .mov (.c (.int .i64 0)), none⟩])
 (.block 0 (.loop b95_0)))
 (.seq (.ops false [
 ⟨some 6, .mov (.c (.bool true)), none⟩])
 (.ret)))))
 [.t 6]

set_option maxRecDepth 100000 in
theorem ok95 : chkFn Try.prog 95 a95 = true := by kernel_rfl

/-- pointsman/trim.same -/
def a77 : AFn := .mk 31
 (.seq (.ops false [
 ⟨some 2, .box (some 4) (.t 0) true, none⟩,
 ⟨some 3, .box (some 4) (.t 1) true, none⟩,
 ⟨some 4, .mov (.c (.bool false)), none⟩])
 (.seq (.ops false [
 ⟨some 5, .faddr 0 (.t 2), none⟩,
 ⟨some 6, .ldI none (.t 5), none⟩,
 ⟨some 7, .faddr 0 (.t 3), none⟩,
 ⟨some 8, .ldI none (.t 7), none⟩,
 ⟨some 9, .bin .eql (.t 6) (.t 8), none⟩,
 ⟨some 10, .mov (.t 9), none⟩,
 ⟨some 11, .faddr 1 (.t 2), some (10, true)⟩,
 ⟨some 12, .ldI none (.t 11), some (10, true)⟩,
 ⟨some 13, .faddr 1 (.t 3), some (10, true)⟩,
 ⟨some 14, .ldI none (.t 13), some (10, true)⟩,
 ⟨some 15, .bin .eql (.t 12) (.t 14), some (10, true)⟩,
 ⟨some 16, .pick (.t 10) (.t 15) (.c (.bool false)), none⟩,
 ⟨some 17, .mov (.t 16), none⟩,
 ⟨some 18, .faddr 2 (.t 2), some (17, true)⟩,
 ⟨some 19, .ldI none (.t 18), some (17, true)⟩,
 ⟨some 20, .faddr 2 (.t 3), some (17, true)⟩,
 ⟨some 21, .ldI none (.t 20), some (17, true)⟩,
 ⟨some 22, .bin .eql (.t 19) (.t 21), some (17, true)⟩,
 ⟨some 23, .pick (.t 17) (.t 22) (.c (.bool false)), none⟩,
 ⟨some 24, .mov (.t 23), none⟩,
 ⟨some 25, .faddr 3 (.t 2), some (24, true)⟩,
 ⟨some 26, .ldI none (.t 25), some (24, true)⟩,
 ⟨some 27, .faddr 3 (.t 3), some (24, true)⟩,
 ⟨some 28, .ldI none (.t 27), some (24, true)⟩,
 ⟨some 29, .call false 95 [(.t 26), (.t 28), (.c (.func 77 []))], some (24, true)⟩,
 ⟨some 30, .pick (.t 24) (.t 29) (.c (.bool false)), none⟩,
 ⟨some 4, .mov (.t 30), none⟩])
 (.ret)))
 [.t 4]

set_option maxRecDepth 100000 in
theorem ok77 : chkFn Try.prog 77 a77 = true := by kernel_rfl

/-- pointsman/trim.sum$1 -/
def a103 : AFn := .mk 7
 (.seq (.ops false [
 ⟨some 2, .box (some 4) (.t 0) true, none⟩,
 ⟨some 3, .mov (.c (.bool false)), none⟩])
 (.seq (.ops false [
 ⟨some 4, .ldI (some 4) (.t 2), none⟩,
 ⟨some 5, .load (some 4) (.t 1), none⟩,
 ⟨some 6, .call false 77 [(.t 4), (.t 5)], none⟩,
 ⟨some 3, .mov (.t 6), none⟩])
 (.ret)))
 [.t 3]

set_option maxRecDepth 100000 in
theorem ok103 : chkFn Try.prog 103 a103 = true := by kernel_rfl

/-- pointsman/trim.has$1 -/
def a117 : AFn := .mk 8
 (.seq (.ops false [
 ⟨some 2, .box (some 4) (.t 0) true, none⟩,
 ⟨some 3, .mov (.c (.bool false)), none⟩])
 (.seq (.ops false [
 ⟨some 4, .faddr 0 (.t 2), none⟩,
 ⟨some 5, .ldI none (.t 4), none⟩,
 ⟨some 6, .load none (.t 1), none⟩,
 ⟨some 7, .bin .eql (.t 5) (.t 6), none⟩,
 ⟨some 3, .mov (.t 7), none⟩])
 (.ret)))
 [.t 3]

set_option maxRecDepth 100000 in
theorem ok117 : chkFn Try.prog 117 a117 = true := by kernel_rfl

/-- pointsman/trim.has -/
def a104 : AFn := .mk 8
 (.seq (.ops false [
 ⟨some 2, .box none (.t 0) true, none⟩,
 ⟨some 4, .mov (.c (.bool false)), none⟩])
 (.seq (.ops false [
 ⟨some 5, .mov (.t 1), none⟩,
 ⟨some 6, .mkfunc 117 [(.t 2)], none⟩,
 ⟨some 7, .call false 98 [(.t 5), (.t 6)], none⟩,
 ⟨some 4, .mov (.t 7), none⟩])
 (.ret)))
 [.t 4]

set_option maxRecDepth 100000 in
theorem ok104 : chkFn Try.prog 104 a104 = true := by kernel_rfl

/-- pointsman/trim.sum$2 -/
def a105 : AFn := .mk 6
 (.seq (.ops false [
 ⟨some 1, .box (some 4) (.t 0) true, none⟩,
 ⟨some 2, .mov (.c (.bool false)), none⟩])
 (.seq (.ops false [
 ⟨some 3, .ldI (some 4) (.t 1), none⟩,
 ⟨some 4, .call false 97 [(.t 3)], none⟩,
 ⟨some 5, .un .not (.t 4), none⟩,
 ⟨some 2, .mov (.t 5), none⟩])
 (.ret)))
 [.t 2]

set_option maxRecDepth 100000 in
theorem ok105 : chkFn Try.prog 105 a105 = true := by kernel_rfl

/-- pointsman/trim.id -/
def a106 : AFn := .mk 2
 (.seq (.ops false [
 ⟨some 0, .alloc [.int .i64 0, .int .i64 0, .int .u16 0, .vec (some 4) []], none⟩])
 (.seq (.ops false [
 ⟨some 1, .build [.int .i64 0, .int .i64 0, .int .u16 0, .vec (some 4) []] [(0, 1, (.c (.int .i64 1)))], none⟩,
 ⟨none, .store (some 4) (.t 0) (.t 1), none⟩])
 (.ret)))
 [.cell 0 (some 4)]

set_option maxRecDepth 100000 in
theorem ok106 : chkFn Try.prog 106 a106 = true := by kernel_rfl

/-- pointsman/trim.drop -/
def a107 : AFn := .mk 2
 (.seq (.ops false [
 ⟨some 0, .alloc [.int .i64 0, .int .i64 0, .int .u16 0, .vec (some 4) []], none⟩])
 (.seq (.ops false [
 ⟨some 1, .build [.int .i64 0, .int .i64 0, .int .u16 0, .vec (some 4) []] [(0, 1, (.c (.int .i64 0)))], none⟩,
 ⟨none, .store (some 4) (.t 0) (.t 1), none⟩])
 (.ret)))
 [.cell 0 (some 4)]

set_option maxRecDepth 100000 in
theorem ok107 : chkFn Try.prog 107 a107 = true := by kernel_rfl

def b92_0 : ACode :=
 (.seq (.ops false [
 ⟨some 12, .bin .lss (.t 11) (.t 10), none⟩])
 (.seq (.cond (.t 12)
 (.skip)
 (.exit 0))
 (.seq (.block 1 (.seq (.ops false [
 ⟨some 13, .iaddr (some 4) (.t 9) (.t 11), none⟩,
 ⟨some 14, .load (some 4) (.t 13), none⟩,
 ⟨some 5, .alloc [.int .i64 0, .int .i64 0, .int .u16 0, .vec (some 4) []], none⟩,
 ⟨none, .store (some 4) (.t 5) (.t 14), none⟩])
 (.seq (.ops false [
 ⟨some 15, .mov (.t 3), none⟩,
 ⟨some 16, .mkfunc 103 [(.t 5)], none⟩,
 ⟨some 17, .call true 98 [(.t 15), (.t 16)], none⟩,
 ⟨some 18, .un .not (.t 17), none⟩])
 (.cond (.t 18)
 (.ops false [
 ⟨some 19, .mov (.t 3), none⟩,
 ⟨some 20, .load (some 4) (.t 5), none⟩,
 ⟨some 21, .bsliceI (some 4) [(.t 20)], none⟩,
 ⟨some 22, .append (some 4) (.t 19) (.t 21) false, none⟩,
 ⟨some 3, .mov (.t 22), none⟩])
 (.skip)))))
 (.ops false [
 ⟨some 23, .bin .add (.t 11) (.c (.int .i64 1)), none⟩,
 ⟨some 11, .mov (.t 23), none⟩]))))

/-- pointsman/trim.sum -/
def a92 : AFn := .mk 44
 (.seq (.ops false [
 ⟨some 2, .alloc [.int .i64 0, .int .i64 0, .int .u16 0, .vec (some 4) []], none⟩])
 (.seq (.ops false [
 ⟨some 6, .mov (.t 0), none⟩,
 ⟨some 7, .call true 102 [(.c (.int .i64 7)), (.t 6)], none⟩,
 ⟨some 8, .call true 101 [(.c (.int .i64 0)), (.t 7)], none⟩,
 ⟨some 0, .mov (.t 8), none⟩])
 (.seq (.ops false [
 ⟨some 3, .mov (.c (.nils)), none⟩])
 (.seq (.seq (.ops false [
 ⟨some 9, .mov (.t 0), none⟩,
 ⟨some 10, .len (.t 9), none⟩,
 ⟨some 11, .mov (.c (.int .i64 0)), none⟩])
 (.block 0 (.loop b92_0)))
 (.seq (.seq (.ops false [
 ⟨some 24, .mov (.t 3), none⟩,
 ⟨some 25, .call false 104 [(.c (.int .i64 1)), (.t 24)], none⟩,
 ⟨some 26, .mov (.t 25), none⟩,
 ⟨some 27, .mov (.t 3), some (26, true)⟩,
 ⟨some 28, .call false 98 [(.t 27), (.c (.func 105 []))], some (26, true)⟩,
 ⟨some 29, .un .not (.t 28), some (26, true)⟩,
 ⟨some 30, .pick (.t 26) (.t 29) (.c (.bool false)), none⟩])
 (.cond (.t 30)
 (.seq (.ops false [
 ⟨some 31, .call false 106 [], none⟩,
 ⟨none, .store (some 4) (.t 2) (.t 31), none⟩])
 (.ret))
 (.skip)))
 (.seq (.seq (.ops false [
 ⟨some 32, .mov (.t 3), none⟩,
 ⟨some 33, .len (.t 32), none⟩])
 (.block 2 (.seq (.ops false [
 ⟨some 35, .bin .eql (.t 33) (.c (.int .i64 0)), none⟩,
 ⟨some 34, .mov (.t 35), none⟩])
 (.cond (.t 34)
 (.seq (.ops false [
 ⟨some 36, .call false 107 [], none⟩,
 ⟨none, .store (some 4) (.t 2) (.t 36), none⟩])
 (.ret))
 (.seq (.ops false [
 ⟨some 38, .bin .eql (.t 33) (.c (.int .i64 1)), none⟩,
 ⟨some 37, .mov (.t 38), none⟩])
 (.cond (.t 37)
 (.seq (.ops false [
 ⟨some 39, .mov (.t 3), none⟩,
 ⟨some 40, .iaddr (some 4) (.t 39) (.c (.int .i64 0)), none⟩,
 ⟨some 41, .load (some 4) (.t 40), none⟩,
 ⟨none, .store (some 4) (.t 2) (.t 41), none⟩])
 (.ret))
 (.skip)))))))
 (.seq (.ops false [
 ⟨some 42, .mov (.t 3), none⟩,
 ⟨some 43, .build [.int .i64 0, .int .i64 0, .int .u16 0, .vec (some 4) []] [(0, 1, (.c (.int .i64 7))), (3, 1, (.t 42))], none⟩,
 ⟨none, .store (some 4) (.t 2) (.t 43), none⟩])
 (.ret))))))))
 [.cell 2 (some 4)]

set_option maxRecDepth 100000 in
theorem ok92 : chkFn Try.prog 92 a92 = true := by kernel_rfl

/-- pointsman/trim.asks -/
def a120 : AFn := .mk 11
 (.seq (.ops false [
 ⟨some 1, .box (some 4) (.t 0) true, none⟩,
 ⟨some 2, .mov (.c (.bool false)), none⟩])
 (.seq (.ops false [
 ⟨some 3, .faddr 0 (.t 1), none⟩,
 ⟨some 4, .ldI none (.t 3), none⟩,
 ⟨some 5, .bin .eql (.t 4) (.c (.int .i64 2)), none⟩,
 ⟨some 6, .mov (.t 5), none⟩,
 ⟨some 7, .faddr 0 (.t 1), some (6, false)⟩,
 ⟨some 8, .ldI none (.t 7), some (6, false)⟩,
 ⟨some 9, .bin .eql (.t 8) (.c (.int .i64 3)), some (6, false)⟩,
 ⟨some 10, .pick (.t 6) (.c (.bool true)) (.t 9), none⟩,
 ⟨some 2, .mov (.t 10), none⟩])
 (.ret)))
 [.t 2]

set_option maxRecDepth 100000 in
theorem ok120 : chkFn Try.prog 120 a120 = true := by kernel_rfl

/-- pointsman/trim.equal -/
def a121 : AFn := .mk 7
 (.seq (.ops false [
 ⟨some 4, .mov (.c (.int .i64 0)), none⟩])
 (.seq (.seq (.ops false [
 ⟨some 5, .mov (.t 0), none⟩])
 (.cond (.t 5)
 (.seq (.ops false [
 ⟨some 6, .mov (.t 1), none⟩,
 ⟨some 4, .mov (.t 6), none⟩])
 (.ret))
 (.skip)))
 (.seq (.ops false [
 ⟨some 4, .mov (.c (.int .i64 3)), none⟩])
 (.ret))))
 [.t 4]

set_option maxRecDepth 100000 in
theorem ok121 : chkFn Try.prog 121 a121 = true := by kernel_rfl

/-- pointsman/trim.neighbours -/
def a118 : AFn := .mk 74
 (.seq (.ops false [
 ⟨some 3, .box (some 4) (.t 0) true, none⟩,
 ⟨some 4, .box (some 4) (.t 1) true, none⟩,
 ⟨some 6, .mov (.c (.int .i64 0)), none⟩])
 (.seq (.ops false [
 ⟨some 8, .ldI (some 4) (.t 3), none⟩,
 ⟨some 9, .call false 120 [(.t 8)], none⟩,
 ⟨some 10, .mov (.t 9), none⟩,
 ⟨some 11, .faddr 0 (.t 3), some (10, true)⟩,
 ⟨some 12, .ldI none (.t 11), some (10, true)⟩,
 ⟨some 13, .faddr 0 (.t 4), some (10, true)⟩,
 ⟨some 14, .ldI none (.t 13), some (10, true)⟩,
 ⟨some 15, .bin .eql (.t 12) (.t 14), some (10, true)⟩,
 ⟨some 16, .pick (.t 10) (.t 15) (.c (.bool false)), none⟩,
 ⟨some 7, .mov (.t 16), none⟩])
 (.seq (.block 0 (.seq (.seq (.ops false [
 ⟨some 18, .mov (.t 7), none⟩,
 ⟨some 19, .mov (.t 2), none⟩,
 ⟨some 20, .eqB true (.t 18) (.t 19), none⟩,
 ⟨some 17, .mov (.t 20), none⟩])
 (.cond (.t 17)
 (.skip)
 (.ops false [
 ⟨some 21, .faddr 1 (.t 3), none⟩,
 ⟨some 22, .ldI none (.t 21), none⟩,
 ⟨some 23, .faddr 1 (.t 4), none⟩,
 ⟨some 24, .ldI none (.t 23), none⟩,
 ⟨some 25, .bin .neq (.t 22) (.t 24), none⟩,
 ⟨some 17, .mov (.t 25), none⟩])))
 (.cond (.t 17)
 (.seq (.ops false [
 ⟨some 6, .mov (.c (.int .i64 0)), none⟩])
 (.ret))
 (.seq (.ops false [
 ⟨some 27, .mov (.t 7), none⟩,
 ⟨some 26, .mov (.t 27), none⟩])
 (.cond (.t 26)
 (.seq (.ops false [
 ⟨some 28, .faddr 2 (.t 3), none⟩,
 ⟨some 29, .ldI none (.t 28), none⟩,
 ⟨some 30, .faddr 2 (.t 4), none⟩,
 ⟨some 31, .ldI none (.t 30), none⟩,
 ⟨some 32, .bin .eql (.t 29) (.t 31), none⟩,
 ⟨some 33, .call false 121 [(.t 32), (.c (.int .i64 2))], none⟩,
 ⟨some 6, .mov (.t 33), none⟩])
 (.ret))
 (.seq (.ops false [
 ⟨some 35, .faddr 0 (.t 3), none⟩,
 ⟨some 36, .ldI none (.t 35), none⟩,
 ⟨some 37, .bin .eql (.t 36) (.c (.int .i64 5)), none⟩,
 ⟨some 38, .mov (.t 37), none⟩,
 ⟨some 39, .faddr 0 (.t 4), some (38, true)⟩,
 ⟨some 40, .ldI none (.t 39), some (38, true)⟩,
 ⟨some 41, .bin .eql (.t 40) (.c (.int .i64 5)), some (38, true)⟩,
 ⟨some 42, .pick (.t 38) (.t 41) (.c (.bool false)), none⟩,
 ⟨some 34, .mov (.t 42), none⟩])
 (.cond (.t 34)
 (.seq (.ops false [
 ⟨some 6, .mov (.c (.int .i64 1)), none⟩])
 (.ret))
 (.seq (.ops false [
 ⟨some 44, .faddr 0 (.t 3), none⟩,
 ⟨some 45, .ldI none (.t 44), none⟩,
 ⟨some 46, .bin .eql (.t 45) (.c (.int .i64 5)), none⟩,
 ⟨some 47, .mov (.t 46), none⟩,
 ⟨some 48, .faddr 0 (.t 4), some (47, true)⟩,
 ⟨some 49, .ldI none (.t 48), some (47, true)⟩,
 ⟨some 50, .bin .eql (.t 49) (.c (.int .i64 2)), some (47, true)⟩,
 ⟨some 51, .pick (.t 47) (.t 50) (.c (.bool false)), none⟩,
 ⟨some 43, .mov (.t 51), none⟩])
 (.cond (.t 43)
 (.seq (.ops false [
 ⟨some 52, .faddr 2 (.t 3), none⟩,
 ⟨some 53, .ldI none (.t 52), none⟩,
 ⟨some 54, .faddr 2 (.t 4), none⟩,
 ⟨some 55, .ldI none (.t 54), none⟩,
 ⟨some 56, .bin .eql (.t 53) (.t 55), none⟩,
 ⟨some 57, .call false 121 [(.t 56), (.c (.int .i64 2))], none⟩,
 ⟨some 6, .mov (.t 57), none⟩])
 (.ret))
 (.seq (.ops false [
 ⟨some 59, .faddr 0 (.t 3), none⟩,
 ⟨some 60, .ldI none (.t 59), none⟩,
 ⟨some 61, .bin .eql (.t 60) (.c (.int .i64 2)), none⟩,
 ⟨some 62, .mov (.t 61), none⟩,
 ⟨some 63, .faddr 0 (.t 4), some (62, true)⟩,
 ⟨some 64, .ldI none (.t 63), some (62, true)⟩,
 ⟨some 65, .bin .eql (.t 64) (.c (.int .i64 5)), some (62, true)⟩,
 ⟨some 66, .pick (.t 62) (.t 65) (.c (.bool false)), none⟩,
 ⟨some 67, .mov (.t 66), none⟩,
 ⟨some 68, .faddr 2 (.t 3), some (67, true)⟩,
 ⟨some 69, .ldI none (.t 68), some (67, true)⟩,
 ⟨some 70, .faddr 2 (.t 4), some (67, true)⟩,
 ⟨some 71, .ldI none (.t 70), some (67, true)⟩,
 ⟨some 72, .bin .eql (.t 69) (.t 71), some (67, true)⟩,
 ⟨some 73, .pick (.t 67) (.t 72) (.c (.bool false)), none⟩,
 ⟨some 58, .mov (.t 73), none⟩])
 (.cond (.t 58)
 (.seq (.ops false [
 ⟨some 6, .mov (.c (.int .i64 2)), none⟩])
 (.ret))
 (.skip))))))))))))
 (.seq (.ops false [
 ⟨some 6, .mov (.c (.int .i64 0)), none⟩])
 (.ret)))))
 [.t 6]

set_option maxRecDepth 100000 in
theorem ok118 : chkFn Try.prog 118 a118 = true := by kernel_rfl

def b108_0 : ACode :=
 (.seq (.ops false [
 ⟨some 12, .bin .lss (.t 11) (.t 10), none⟩])
 (.seq (.cond (.t 12)
 (.skip)
 (.exit 0))
 (.seq (.block 1 (.seq (.ops false [
 ⟨some 13, .mov (.t 11), none⟩,
 ⟨some 7, .mov (.t 13), none⟩])
 (.seq (.ops true [
 ⟨some 14, .mov (.t 0), none⟩,
 ⟨some 15, .mov (.t 7), none⟩,
 ⟨some 16, .iaddr (some 4) (.t 14) (.t 15), none⟩,
 ⟨some 17, .load (some 4) (.t 16), none⟩,
 ⟨some 18, .mov (.t 0), none⟩,
 ⟨some 19, .mov (.t 7), none⟩,
 ⟨some 20, .bin .add (.t 19) (.c (.int .i64 1)), none⟩,
 ⟨some 21, .iaddr (some 4) (.t 18) (.t 20), none⟩,
 ⟨some 22, .load (some 4) (.t 21), none⟩,
 ⟨some 23, .mov (.t 1), none⟩,
 ⟨some 24, .call false 118 [(.t 17), (.t 22), (.t 23)], none⟩])
 (.block 2 (.seq (.ops false [
 ⟨some 26, .bin .eql (.t 24) (.c (.int .i64 1)), none⟩,
 ⟨some 25, .mov (.t 26), none⟩])
 (.cond (.t 25)
 (.seq (.ops false [
 ⟨some 27, .mov (.t 0), none⟩,
 ⟨some 28, .mov (.t 7), none⟩,
 ⟨some 29, .mov (.t 7), none⟩,
 ⟨some 30, .bin .add (.t 29) (.c (.int .i64 1)), none⟩,
 ⟨some 31, .call true 119 [(.t 27), (.t 28), (.t 30)], none⟩,
 ⟨some 4, .mov (.t 31), none⟩,
 ⟨some 5, .mov (.c (.bool false)), none⟩,
 ⟨some 6, .mov (.c (.bool true)), none⟩])
 (.ret))
 (.seq (.ops false [
 ⟨some 33, .bin .eql (.t 24) (.c (.int .i64 2)), none⟩,
 ⟨some 32, .mov (.t 33), none⟩])
 (.cond (.t 32)
 (.seq (.ops false [
 ⟨some 34, .mov (.t 0), none⟩,
 ⟨some 35, .mov (.t 7), none⟩,
 ⟨some 36, .bin .add (.t 35) (.c (.int .i64 1)), none⟩,
 ⟨some 37, .mov (.t 7), none⟩,
 ⟨some 38, .bin .add (.t 37) (.c (.int .i64 2)), none⟩,
 ⟨some 39, .call true 119 [(.t 34), (.t 36), (.t 38)], none⟩,
 ⟨some 4, .mov (.t 39), none⟩,
 ⟨some 5, .mov (.c (.bool false)), none⟩,
 ⟨some 6, .mov (.c (.bool true)), none⟩])
 (.ret))
 (.seq (.ops false [
 ⟨some 41, .bin .eql (.t 24) (.c (.int .i64 3)), none⟩,
 ⟨some 40, .mov (.t 41), none⟩])
 (.cond (.t 40)
 (.seq (.ops false [
 ⟨some 4, .mov (.c (.nils)), none⟩,
 ⟨some 5, .mov (.c (.bool true)), none⟩,
 ⟨some 6, .mov (.c (.bool true)), none⟩])
 (.ret))
 (.skip)))))))))))
 (.ops false [
 ⟨some 42, .bin .add (.t 11) (.c (.int .i64 1)), none⟩,
 ⟨some 11, .mov (.t 42), none⟩]))))

/-- pointsman/trim.closer -/
def a108 : AFn := .mk 44
 (.seq (.ops false [
 ⟨some 4, .mov (.c (.nils)), none⟩,
 ⟨some 5, .mov (.c (.bool false)), none⟩,
 ⟨some 6, .mov (.c (.bool false)), none⟩])
 (.seq (.seq (.ops false [
 ⟨some 8, .mov (.t 0), none⟩,
 ⟨some 9, .len (.t 8), none⟩,
 ⟨some 10, .bin .sub (.t 9) (.c (.int .i64 1)), none⟩,
 ⟨some 11, .mov (.c (.int .i64 0)), none⟩])
 (.block 0 (.loop b108_0)))
 (.seq (.ops false [
 ⟨some 43, .mov (.t 0), none⟩,
 ⟨some 4, .mov (.t 43), none⟩,
 ⟨some 5, .mov (.c (.bool false)), none⟩,
 ⟨some 6, .mov (.c (.bool false)), none⟩])
 (.ret))))
 [.t 4, .t 5, .t 6]

set_option maxRecDepth 100000 in
theorem ok108 : chkFn Try.prog 108 a108 = true := by kernel_rfl

def b93_0 : ACode :=
 (.seq (.seq (.ops false [
 ⟨some 11, .mov (.t 3), none⟩])
 (.cond (.t 11)
 (.skip)
 (.exit 0)))
 (.block 1 (.seq (.ops false [
 ⟨some 4, .mov (.c (.bool false)), none⟩])
 (.seq (.seq (.ops false [
 ⟨some 13, .mov (.t 0), none⟩,
 ⟨some 14, .call true 108 [(.t 13), (.c (.bool true))], none⟩,
 ⟨some 12, .mov (.t 14), none⟩,
 ⟨some 15, .extract (.t 12) 0, none⟩,
 ⟨some 16, .extract (.t 12) 1, none⟩,
 ⟨some 17, .extract (.t 12) 2, none⟩,
 ⟨some 0, .mov (.t 15), none⟩,
 ⟨some 4, .mov (.t 16), none⟩,
 ⟨some 3, .mov (.t 17), none⟩])
 (.seq (.ops false [
 ⟨some 18, .mov (.t 3), none⟩,
 ⟨some 19, .un .not (.t 18), none⟩])
 (.cond (.t 19)
 (.ops false [
 ⟨some 21, .mov (.t 0), none⟩,
 ⟨some 22, .call true 108 [(.t 21), (.c (.bool false))], none⟩,
 ⟨some 20, .mov (.t 22), none⟩,
 ⟨some 23, .extract (.t 20) 0, none⟩,
 ⟨some 24, .extract (.t 20) 1, none⟩,
 ⟨some 25, .extract (.t 20) 2, none⟩,
 ⟨some 0, .mov (.t 23), none⟩,
 ⟨some 4, .mov (.t 24), none⟩,
 ⟨some 3, .mov (.t 25), none⟩])
 (.skip))))
 (.seq (.ops false [
 ⟨some 26, .mov (.t 4), none⟩])
 (.cond (.t 26)
 (.seq (.ops false [
 ⟨some 27, .call false 107 [], none⟩,
 ⟨none, .store (some 4) (.t 2) (.t 27), none⟩])
 (.ret))
 (.skip)))))))

/-- pointsman/trim.seq -/
def a93 : AFn := .mk 40
 (.seq (.ops false [
 ⟨some 2, .alloc [.int .i64 0, .int .i64 0, .int .u16 0, .vec (some 4) []], none⟩])
 (.seq (.ops false [
 ⟨some 5, .mov (.t 0), none⟩,
 ⟨some 6, .call true 102 [(.c (.int .i64 6)), (.t 5)], none⟩,
 ⟨some 7, .call true 101 [(.c (.int .i64 1)), (.t 6)], none⟩,
 ⟨some 0, .mov (.t 7), none⟩])
 (.seq (.seq (.ops false [
 ⟨some 8, .mov (.t 0), none⟩,
 ⟨some 9, .call true 104 [(.c (.int .i64 0)), (.t 8)], none⟩])
 (.cond (.t 9)
 (.seq (.ops false [
 ⟨some 10, .call false 107 [], none⟩,
 ⟨none, .store (some 4) (.t 2) (.t 10), none⟩])
 (.ret))
 (.skip)))
 (.seq (.seq (.ops false [
 ⟨some 3, .mov (.c (.bool true)), none⟩])
 (.block 0 (.loop b93_0)))
 (.seq (.seq (.ops false [
 ⟨some 28, .mov (.t 0), none⟩,
 ⟨some 29, .len (.t 28), none⟩])
 (.block 2 (.seq (.ops false [
 ⟨some 31, .bin .eql (.t 29) (.c (.int .i64 0)), none⟩,
 ⟨some 30, .mov (.t 31), none⟩])
 (.cond (.t 30)
 (.seq (.ops false [
 ⟨some 32, .call false 106 [], none⟩,
 ⟨none, .store (some 4) (.t 2) (.t 32), none⟩])
 (.ret))
 (.seq (.ops false [
 ⟨some 34, .bin .eql (.t 29) (.c (.int .i64 1)), none⟩,
 ⟨some 33, .mov (.t 34), none⟩])
 (.cond (.t 33)
 (.seq (.ops false [
 ⟨some 35, .mov (.t 0), none⟩,
 ⟨some 36, .iaddr (some 4) (.t 35) (.c (.int .i64 0)), none⟩,
 ⟨some 37, .load (some 4) (.t 36), none⟩,
 ⟨none, .store (some 4) (.t 2) (.t 37), none⟩])
 (.ret))
 (.skip)))))))
 (.seq (.ops false [
 ⟨some 38, .mov (.t 0), none⟩,
 ⟨some 39, .build [.int .i64 0, .int .i64 0, .int .u16 0, .vec (some 4) []] [(0, 1, (.c (.int .i64 6))), (3, 1, (.t 38))], none⟩,
 ⟨none, .store (some 4) (.t 2) (.t 39), none⟩])
 (.ret)))))))
 [.cell 2 (some 4)]

set_option maxRecDepth 100000 in
theorem ok93 : chkFn Try.prog 93 a93 = true := by kernel_rfl

/-- pointsman/trim.not -/
def a94 : AFn := .mk 20
 (.seq (.ops false [
 ⟨some 1, .box (some 4) (.t 0) true, none⟩,
 ⟨some 2, .alloc [.int .i64 0, .int .i64 0, .int .u16 0, .vec (some 4) []], none⟩])
 (.seq (.seq (.ops false [
 ⟨some 3, .faddr 0 (.t 1), none⟩,
 ⟨some 4, .ldI none (.t 3), none⟩])
 (.block 0 (.seq (.ops false [
 ⟨some 6, .bin .eql (.t 4) (.c (.int .i64 0)), none⟩,
 ⟨some 5, .mov (.t 6), none⟩])
 (.cond (.t 5)
 (.seq (.ops false [
 ⟨some 7, .call false 106 [], none⟩,
 ⟨none, .store (some 4) (.t 2) (.t 7), none⟩])
 (.ret))
 (.seq (.ops false [
 ⟨some 9, .bin .eql (.t 4) (.c (.int .i64 1)), none⟩,
 ⟨some 8, .mov (.t 9), none⟩])
 (.cond (.t 8)
 (.seq (.ops false [
 ⟨some 10, .call false 107 [], none⟩,
 ⟨none, .store (some 4) (.t 2) (.t 10), none⟩])
 (.ret))
 (.seq (.ops false [
 ⟨some 12, .bin .eql (.t 4) (.c (.int .i64 4)), none⟩,
 ⟨some 11, .mov (.t 12), none⟩])
 (.cond (.t 11)
 (.seq (.ops false [
 ⟨some 13, .faddr 3 (.t 1), none⟩,
 ⟨some 14, .ldI none (.t 13), none⟩,
 ⟨some 15, .iaddr (some 4) (.t 14) (.c (.int .i64 0)), none⟩,
 ⟨some 16, .load (some 4) (.t 15), none⟩,
 ⟨none, .store (some 4) (.t 2) (.t 16), none⟩])
 (.ret))
 (.skip)))))))))
 (.seq (.ops false [
 ⟨some 17, .ldI (some 4) (.t 1), none⟩,
 ⟨some 18, .bsliceI (some 4) [(.t 17)], none⟩,
 ⟨some 19, .build [.int .i64 0, .int .i64 0, .int .u16 0, .vec (some 4) []] [(0, 1, (.c (.int .i64 4))), (3, 1, (.t 18))], none⟩,
 ⟨none, .store (some 4) (.t 2) (.t 19), none⟩])
 (.ret))))
 [.cell 2 (some 4)]

set_option maxRecDepth 100000 in
theorem ok94 : chkFn Try.prog 94 a94 = true := by kernel_rfl

def b76_0 : ACode :=
 (.seq (.ops false [
 ⟨some 10, .bin .lss (.t 9) (.t 8), none⟩])
 (.seq (.cond (.t 10)
 (.skip)
 (.exit 0))
 (.seq (.block 1 (.seq (.ops false [
 ⟨some 11, .iaddr (some 4) (.t 7) (.t 9), none⟩,
 ⟨some 12, .load (some 4) (.t 11), none⟩,
 ⟨some 5, .alloc [.int .i64 0, .int .i64 0, .int .u16 0, .vec (some 4) []], none⟩,
 ⟨none, .store (some 4) (.t 5) (.t 12), none⟩])
 (.ops false [
 ⟨some 13, .mov (.t 3), none⟩,
 ⟨some 14, .load (some 4) (.t 5), none⟩,
 ⟨some 15, .call false 76 [(.t 14)], none⟩,
 ⟨some 16, .bsliceI (some 4) [(.t 15)], none⟩,
 ⟨some 17, .append (some 4) (.t 13) (.t 16) false, none⟩,
 ⟨some 3, .mov (.t 17), none⟩])))
 (.ops false [
 ⟨some 18, .bin .add (.t 9) (.c (.int .i64 1)), none⟩,
 ⟨some 9, .mov (.t 18), none⟩]))))

/-- pointsman/trim.trimmed -/
def a76 : AFn := .mk 37
 (.seq (.ops false [
 ⟨some 1, .box (some 4) (.t 0) false, none⟩,
 ⟨some 2, .alloc [.int .i64 0, .int .i64 0, .int .u16 0, .vec (some 4) []], none⟩])
 (.seq (.ops false [
 ⟨some 3, .mov (.c (.nils)), none⟩])
 (.seq (.seq (.ops false [
 ⟨some 6, .faddr 3 (.t 1), none⟩,
 ⟨some 7, .load none (.t 6), none⟩,
 ⟨some 8, .len (.t 7), none⟩,
 ⟨some 9, .mov (.c (.int .i64 0)), none⟩])
 (.block 0 (.loop b76_0)))
 (.seq (.seq (.ops false [
 ⟨some 19, .faddr 0 (.t 1), none⟩,
 ⟨some 20, .load none (.t 19), none⟩])
 (.block 2 (.seq (.ops false [
 ⟨some 22, .bin .eql (.t 20) (.c (.int .i64 7)), none⟩,
 ⟨some 21, .mov (.t 22), none⟩])
 (.cond (.t 21)
 (.seq (.ops false [
 ⟨some 23, .mov (.t 3), none⟩,
 ⟨some 24, .call false 92 [(.t 23)], none⟩,
 ⟨none, .store (some 4) (.t 2) (.t 24), none⟩])
 (.ret))
 (.seq (.ops false [
 ⟨some 26, .bin .eql (.t 20) (.c (.int .i64 6)), none⟩,
 ⟨some 25, .mov (.t 26), none⟩])
 (.cond (.t 25)
 (.seq (.ops false [
 ⟨some 27, .mov (.t 3), none⟩,
 ⟨some 28, .call false 93 [(.t 27)], none⟩,
 ⟨none, .store (some 4) (.t 2) (.t 28), none⟩])
 (.ret))
 (.seq (.ops false [
 ⟨some 30, .bin .eql (.t 20) (.c (.int .i64 4)), none⟩,
 ⟨some 29, .mov (.t 30), none⟩])
 (.cond (.t 29)
 (.seq (.ops false [
 ⟨some 31, .mov (.t 3), none⟩,
 ⟨some 32, .iaddr (some 4) (.t 31) (.c (.int .i64 0)), none⟩,
 ⟨some 33, .load (some 4) (.t 32), none⟩,
 ⟨some 34, .call false 94 [(.t 33)], none⟩,
 ⟨none, .store (some 4) (.t 2) (.t 34), none⟩])
 (.ret))
 (.skip)))))))))
 (.seq (.ops false [
 ⟨some 35, .faddr 3 (.t 1), none⟩,
 ⟨none, .store none (.t 35) (.c (.vec (some 4) [])), none⟩])
 (.seq (.ops false [
 ⟨some 36, .load (some 4) (.t 1), none⟩,
 ⟨none, .store (some 4) (.t 2) (.t 36), none⟩])
 (.ret)))))))
 [.cell 2 (some 4)]

set_option maxRecDepth 100000 in
theorem ok76 : chkFn Try.prog 76 a76 = true := by kernel_rfl

/-- pointsman/trim.Trim -/
def a38 : AFn := .mk 11
 (.seq (.ops false [
 ⟨some 1, .box (some 4) (.t 0) true, none⟩,
 ⟨some 2, .alloc [.int .i64 0, .int .i64 0, .int .u16 0, .vec (some 4) []], none⟩])
 (.seq (.seq (.ops true [
 ⟨some 3, .mkslF none (.int .u16 0) (.c (.int .i64 4)) (.c (.int .i64 4)), none⟩,
 ⟨some 4, .ldI (some 4) (.t 1), none⟩,
 ⟨some 5, .build [.vec none [], .int .i64 0, .int .i64 0, .int .u16 0, .vec (some 4) [], .vec (some 3) []] [(0, 1, (.t 3)), (1, 4, (.t 4))], none⟩,
 ⟨some 6, .call false 65 [(.t 5)], none⟩,
 ⟨some 7, .bin .neq (.t 6) (.c (.int .i64 0)), none⟩])
 (.cond (.t 7)
 (.seq (.ops false [
 ⟨some 8, .ldI (some 4) (.t 1), none⟩,
 ⟨none, .store (some 4) (.t 2) (.t 8), none⟩])
 (.ret))
 (.skip)))
 (.seq (.ops false [
 ⟨some 9, .ldI (some 4) (.t 1), none⟩,
 ⟨some 10, .call false 76 [(.t 9)], none⟩,
 ⟨none, .store (some 4) (.t 2) (.t 10), none⟩])
 (.ret))))
 [.cell 2 (some 4)]

set_option maxRecDepth 100000 in
theorem ok38 : chkFn Try.prog 38 a38 = true := by kernel_rfl

def b41_0 : ACode :=
 (.seq (.seq (.ops false [
 ⟨some 34, .mov (.t 5), none⟩,
 ⟨some 35, .faddr 3 (.t 2), none⟩,
 ⟨some 36, .ldI none (.t 35), none⟩,
 ⟨some 37, .len (.t 36), none⟩,
 ⟨some 38, .bin .lss (.t 34) (.t 37), none⟩])
 (.cond (.t 38)
 (.skip)
 (.exit 0)))
 (.seq (.block 1 (.seq (.ops true [
 ⟨some 41, .faddr 3 (.t 2), none⟩,
 ⟨some 42, .ldI none (.t 41), none⟩,
 ⟨some 43, .mov (.t 5), none⟩,
 ⟨some 44, .iaddr (some 4) (.t 42) (.t 43), none⟩,
 ⟨some 45, .load (some 4) (.t 44), none⟩,
 ⟨some 46, .faddr 3 (.t 3), none⟩,
 ⟨some 47, .ldI none (.t 46), none⟩,
 ⟨some 48, .mov (.t 5), none⟩,
 ⟨some 49, .iaddr (some 4) (.t 47) (.t 48), none⟩,
 ⟨some 50, .load (some 4) (.t 49), none⟩,
 ⟨some 51, .call false 41 [(.t 45), (.t 50)], none⟩,
 ⟨some 52, .un .not (.t 51), none⟩])
 (.cond (.t 52)
 (.seq (.ops false [
 ⟨some 4, .mov (.c (.bool false)), none⟩])
 (.ret))
 (.skip))))
 (.ops false [
 ⟨some 39, .mov (.t 5), none⟩,
 ⟨some 40, .bin .add (.t 39) (.c (.int .i64 1)), none⟩,
 ⟨some 5, .mov (.t 40), none⟩])))

/-- pointsman/pointsmanref05.SamePol -/
def a41 : AFn := .mk 53
 (.seq (.ops false [
 ⟨some 2, .box (some 4) (.t 0) true, none⟩,
 ⟨some 3, .box (some 4) (.t 1) true, none⟩,
 ⟨some 4, .mov (.c (.bool false)), none⟩])
 (.seq (.seq (.ops false [
 ⟨some 6, .faddr 0 (.t 2), none⟩,
 ⟨some 7, .ldI none (.t 6), none⟩,
 ⟨some 8, .faddr 0 (.t 3), none⟩,
 ⟨some 9, .ldI none (.t 8), none⟩,
 ⟨some 10, .bin .neq (.t 7) (.t 9), none⟩,
 ⟨some 11, .mov (.t 10), none⟩,
 ⟨some 12, .faddr 1 (.t 2), some (11, false)⟩,
 ⟨some 13, .ldI none (.t 12), some (11, false)⟩,
 ⟨some 14, .faddr 1 (.t 3), some (11, false)⟩,
 ⟨some 15, .ldI none (.t 14), some (11, false)⟩,
 ⟨some 16, .bin .neq (.t 13) (.t 15), some (11, false)⟩,
 ⟨some 17, .pick (.t 11) (.c (.bool true)) (.t 16), none⟩,
 ⟨some 18, .mov (.t 17), none⟩,
 ⟨some 19, .faddr 2 (.t 2), some (18, false)⟩,
 ⟨some 20, .ldI none (.t 19), some (18, false)⟩,
 ⟨some 21, .faddr 2 (.t 3), some (18, false)⟩,
 ⟨some 22, .ldI none (.t 21), some (18, false)⟩,
 ⟨some 23, .bin .neq (.t 20) (.t 22), some (18, false)⟩,
 ⟨some 24, .pick (.t 18) (.c (.bool true)) (.t 23), none⟩,
 ⟨some 25, .mov (.t 24), none⟩,
 ⟨some 26, .faddr 3 (.t 2), some (25, false)⟩,
 ⟨some 27, .ldI none (.t 26), some (25, false)⟩,
 ⟨some 28, .len (.t 27), some (25, false)⟩,
 ⟨some 29, .faddr 3 (.t 3), some (25, false)⟩,
 ⟨some 30, .ldI none (.t 29), some (25, false)⟩,
 ⟨some 31, .len (.t 30), some (25, false)⟩,
 ⟨some 32, .bin .neq (.t 28) (.t 31), some (25, false)⟩,
 ⟨some 33, .pick (.t 25) (.c (.bool true)) (.t 32), none⟩])
 (.cond (.t 33)
 (.seq (.ops false [
 ⟨some 4, .mov (.c (.bool false)), none⟩])
 (.ret))
 (.skip)))
 (.seq (.seq (.ops false [
 ⟨some 5, .mov (.c (.int .i64 0)), none⟩])
 (.block 0 (.loop b41_0)))
 (.seq (.ops false [
 ⟨some 4, .mov (.c (.bool true)), none⟩])
 (.ret)))))
 [.t 4]

set_option maxRecDepth 100000 in
theorem ok41 : chkFn Try.prog 41 a41 = true := by kernel_rfl

/-- pointsman/trim.Trimmed -/
def a44 : AFn := .mk 7
 (.seq (.ops false [
 ⟨some 1, .box (some 4) (.t 0) true, none⟩,
 ⟨some 2, .mov (.c (.bool false)), none⟩])
 (.seq (.ops true [
 ⟨some 3, .ldI (some 4) (.t 1), none⟩,
 ⟨some 4, .ldI (some 4) (.t 1), none⟩,
 ⟨some 5, .call false 38 [(.t 4)], none⟩,
 ⟨some 6, .call false 77 [(.t 3), (.t 5)], none⟩,
 ⟨some 2, .mov (.t 6), none⟩])
 (.ret)))
 [.t 2]

set_option maxRecDepth 100000 in
theorem ok44 : chkFn Try.prog 44 a44 = true := by kernel_rfl

/-- pointsman/pointsmanlaw28.awake -/
def a35 : AFn := .mk 26
 (.seq (.ops false [
 ⟨some 0, .mov (.c (.bool false)), none⟩])
 (.seq (.ops false [
 ⟨some 2, .build [.int .i64 0, .int .i64 0, .int .u16 0, .vec (some 4) []] [(0, 1, (.c (.int .i64 1)))], none⟩,
 ⟨some 3, .call false 74 [(.c (.int .u16 1))], none⟩,
 ⟨some 4, .call false 74 [(.c (.int .u16 2))], none⟩,
 ⟨some 5, .bsliceI (some 4) [(.t 2), (.t 3), (.t 4)], none⟩,
 ⟨some 6, .call false 47 [(.t 5)], none⟩,
 ⟨some 7, .build [.int .i64 0, .int .i64 0, .int .u16 0, .vec (some 4) []] [], none⟩,
 ⟨some 8, .bsliceI (some 4) [(.t 6), (.t 7)], none⟩,
 ⟨some 9, .call false 46 [(.t 8)], none⟩,
 ⟨some 10, .call false 38 [(.t 9)], none⟩,
 ⟨some 1, .alloc [.int .i64 0, .int .i64 0, .int .u16 0, .vec (some 4) []], none⟩,
 ⟨none, .store (some 4) (.t 1) (.t 10), none⟩])
 (.seq (.ops true [
 ⟨some 11, .load (some 4) (.t 1), none⟩,
 ⟨some 12, .call false 74 [(.c (.int .u16 2))], none⟩,
 ⟨some 13, .call false 41 [(.t 11), (.t 12)], none⟩,
 ⟨some 14, .mov (.t 13), none⟩,
 ⟨some 15, .load (some 4) (.t 1), some (14, true)⟩,
 ⟨some 16, .call false 44 [(.t 15)], some (14, true)⟩,
 ⟨some 17, .pick (.t 14) (.t 16) (.c (.bool false)), none⟩,
 ⟨some 18, .mov (.t 17), none⟩,
 ⟨some 19, .load (some 4) (.t 1), some (18, true)⟩,
 ⟨some 20, .load (some 4) (.t 1), some (18, true)⟩,
 ⟨some 21, .bsliceI (some 4) [(.t 19), (.t 20)], some (18, true)⟩,
 ⟨some 22, .call false 46 [(.t 21)], some (18, true)⟩,
 ⟨some 23, .call false 44 [(.t 22)], some (18, true)⟩,
 ⟨some 24, .un .not (.t 23), some (18, true)⟩,
 ⟨some 25, .pick (.t 18) (.t 24) (.c (.bool false)), none⟩,
 ⟨some 0, .mov (.t 25), none⟩])
 (.ret))))
 [.t 0]

set_option maxRecDepth 100000 in
theorem ok35 : chkFn Try.prog 35 a35 = true := by kernel_rfl

def b36_0 : ACode :=
 (.seq (.ops false [
 ⟨some 17, .bin .lss (.t 16) (.t 15), none⟩])
 (.seq (.cond (.t 17)
 (.skip)
 (.exit 0))
 (.seq (.block 1 (.seq (.ops false [
 ⟨some 18, .iaddr (some 4) (.t 14) (.t 16), none⟩,
 ⟨some 19, .load (some 4) (.t 18), none⟩,
 ⟨some 6, .alloc [.int .i64 0, .int .i64 0, .int .u16 0, .int .u8 0], none⟩,
 ⟨none, .store (some 4) (.t 6) (.t 19), none⟩])
 (.seq (.ops false [
 ⟨some 20, .mov (.t 4), none⟩,
 ⟨some 21, .len (.t 20), none⟩,
 ⟨some 7, .mov (.t 21), none⟩])
 (.block 2 (.seq (.ops false [
 ⟨some 23, .faddr 0 (.t 6), none⟩,
 ⟨some 24, .load none (.t 23), none⟩,
 ⟨some 25, .bin .eql (.t 24) (.c (.int .i64 0)), none⟩,
 ⟨some 26, .mov (.t 25), none⟩,
 ⟨some 27, .faddr 0 (.t 6), some (26, false)⟩,
 ⟨some 28, .load none (.t 27), some (26, false)⟩,
 ⟨some 29, .bin .eql (.t 28) (.c (.int .i64 1)), some (26, false)⟩,
 ⟨some 30, .pick (.t 26) (.c (.bool true)) (.t 29), none⟩,
 ⟨some 22, .mov (.t 30), none⟩])
 (.cond (.t 22)
 (.ops false [
 ⟨some 31, .mov (.t 4), none⟩,
 ⟨some 32, .faddr 0 (.t 6), none⟩,
 ⟨some 33, .load none (.t 32), none⟩,
 ⟨some 34, .build [.int .i64 0, .int .i64 0, .int .u16 0, .vec (some 4) []] [(0, 1, (.t 33))], none⟩,
 ⟨some 35, .bsliceI (some 4) [(.t 34)], none⟩,
 ⟨some 36, .append (some 4) (.t 31) (.t 35) true, none⟩,
 ⟨some 4, .mov (.t 36), none⟩])
 (.seq (.ops false [
 ⟨some 38, .faddr 0 (.t 6), none⟩,
 ⟨some 39, .load none (.t 38), none⟩,
 ⟨some 40, .bin .eql (.t 39) (.c (.int .i64 2)), none⟩,
 ⟨some 41, .mov (.t 40), none⟩,
 ⟨some 42, .faddr 0 (.t 6), some (41, false)⟩,
 ⟨some 43, .load none (.t 42), some (41, false)⟩,
 ⟨some 44, .bin .eql (.t 43) (.c (.int .i64 3)), some (41, false)⟩,
 ⟨some 45, .pick (.t 41) (.c (.bool true)) (.t 44), none⟩,
 ⟨some 46, .mov (.t 45), none⟩,
 ⟨some 47, .faddr 0 (.t 6), some (46, false)⟩,
 ⟨some 48, .load none (.t 47), some (46, false)⟩,
 ⟨some 49, .bin .eql (.t 48) (.c (.int .i64 5)), some (46, false)⟩,
 ⟨some 50, .pick (.t 46) (.c (.bool true)) (.t 49), none⟩,
 ⟨some 37, .mov (.t 50), none⟩])
 (.cond (.t 37)
 (.ops false [
 ⟨some 51, .mov (.t 4), none⟩,
 ⟨some 52, .faddr 0 (.t 6), none⟩,
 ⟨some 53, .load none (.t 52), none⟩,
 ⟨some 54, .faddr 1 (.t 6), none⟩,
 ⟨some 55, .load none (.t 54), none⟩,
 ⟨some 56, .faddr 2 (.t 6), none⟩,
 ⟨some 57, .load none (.t 56), none⟩,
 ⟨some 58, .build [.int .i64 0, .int .i64 0, .int .u16 0, .vec (some 4) []] [(0, 1, (.t 53)), (1, 1, (.t 55)), (2, 1, (.t 57))], none⟩,
 ⟨some 59, .bsliceI (some 4) [(.t 58)], none⟩,
 ⟨some 60, .append (some 4) (.t 51) (.t 59) true, none⟩,
 ⟨some 4, .mov (.t 60), none⟩])
 (.seq (.ops false [
 ⟨some 62, .faddr 0 (.t 6), none⟩,
 ⟨some 63, .load none (.t 62), none⟩,
 ⟨some 64, .bin .eql (.t 63) (.c (.int .i64 4)), none⟩,
 ⟨some 65, .mov (.t 64), none⟩,
 ⟨some 66, .mov (.t 7), some (65, true)⟩,
 ⟨some 67, .bin .gtr (.t 66) (.c (.int .i64 0)), some (65, true)⟩,
 ⟨some 68, .pick (.t 65) (.t 67) (.c (.bool false)), none⟩,
 ⟨some 61, .mov (.t 68), none⟩])
 (.cond (.t 61)
 (.ops false [
 ⟨some 69, .mov (.t 4), none⟩,
 ⟨some 70, .mov (.t 7), none⟩,
 ⟨some 71, .bin .sub (.t 70) (.c (.int .i64 1)), none⟩,
 ⟨some 72, .mov (.t 4), none⟩,
 ⟨some 73, .mov (.t 7), none⟩,
 ⟨some 74, .bin .sub (.t 73) (.c (.int .i64 1)), none⟩,
 ⟨some 75, .iaddr (some 4) (.t 72) (.t 74), none⟩,
 ⟨some 76, .load (some 4) (.t 75), none⟩,
 ⟨some 77, .bsliceI (some 4) [(.t 76)], none⟩,
 ⟨some 78, .build [.int .i64 0, .int .i64 0, .int .u16 0, .vec (some 4) []] [(0, 1, (.c (.int .i64 4))), (3, 1, (.t 77))], none⟩,
 ⟨some 79, .iaddr (some 4) (.t 69) (.t 71), none⟩,
 ⟨none, .store (some 4) (.t 79) (.t 78), none⟩])
 (.seq (.ops false [
 ⟨some 81, .faddr 0 (.t 6), none⟩,
 ⟨some 82, .load none (.t 81), none⟩,
 ⟨some 83, .bin .eql (.t 82) (.c (.int .i64 6)), none⟩,
 ⟨some 84, .mov (.t 83), none⟩,
 ⟨some 85, .faddr 0 (.t 6), some (84, false)⟩,
 ⟨some 86, .load none (.t 85), some (84, false)⟩,
 ⟨some 87, .bin .eql (.t 86) (.c (.int .i64 7)), some (84, false)⟩,
 ⟨some 88, .pick (.t 84) (.c (.bool true)) (.t 87), none⟩,
 ⟨some 80, .mov (.t 88), none⟩])
 (.cond (.t 80)
 (.seq (.ops false [
 ⟨some 89, .faddr 3 (.t 6), none⟩,
 ⟨some 90, .load none (.t 89), none⟩,
 ⟨some 91, .convI .i64 (.t 90), none⟩,
 ⟨some 92, .mov (.t 7), none⟩,
 ⟨some 93, .min2 (.t 91) (.t 92), none⟩,
 ⟨some 8, .mov (.t 93), none⟩])
 (.seq (.ops false [
 ⟨some 94, .bslice (some 4) [] false, none⟩,
 ⟨some 95, .mov (.t 4), none⟩,
 ⟨some 96, .mov (.t 7), none⟩,
 ⟨some 97, .mov (.t 8), none⟩,
 ⟨some 98, .bin .sub (.t 96) (.t 97), none⟩,
 ⟨some 99, .slc (some 4) (.t 95) (some (.t 98)) none, none⟩,
 ⟨some 100, .append (some 4) (.t 94) (.t 99) false, none⟩,
 ⟨some 9, .mov (.t 100), none⟩])
 (.ops true [
 ⟨some 101, .mov (.t 4), none⟩,
 ⟨some 102, .mov (.t 7), none⟩,
 ⟨some 103, .mov (.t 8), none⟩,
 ⟨some 104, .bin .sub (.t 102) (.t 103), none⟩,
 ⟨some 105, .slc (some 4) (.t 101) none (some (.t 104)), none⟩,
 ⟨some 106, .faddr 0 (.t 6), none⟩,
 ⟨some 107, .load none (.t 106), none⟩,
 ⟨some 108, .mov (.t 9), none⟩,
 ⟨some 109, .build [.int .i64 0, .int .i64 0, .int .u16 0, .vec (some 4) []] [(0, 1, (.t 107)), (3, 1, (.t 108))], none⟩,
 ⟨some 110, .bsliceI (some 4) [(.t 109)], none⟩,
 ⟨some 111, .appendC (some 4) (.t 105) (.t 110) true, none⟩,
 ⟨some 4, .mov (.t 111), none⟩])))
 (.skip)))))))))))))
 (.ops false [
 ⟨some 112, .bin .add (.t 16) (.c (.int .i64 1)), none⟩,
 ⟨some 16, .mov (.t 112), none⟩]))))

/-- pointsman/pointsmanlaw05.Pile -/
def a36 : AFn := .mk 123
 (.seq (.ops false [
 ⟨some 2, .alloc [.int .i64 0, .int .i64 0, .int .u16 0, .vec (some 4) []], none⟩,
 ⟨some 3, .mov (.c (.bool false)), none⟩])
 (.seq (.seq (.ops false [
 ⟨some 10, .mov (.t 0), none⟩,
 ⟨some 11, .len (.t 10), none⟩,
 ⟨some 12, .bin .gtr (.t 11) (.c (.int .i64 60)), none⟩])
 (.cond (.t 12)
 (.seq (.ops false [
 ⟨some 13, .build [.int .i64 0, .int .i64 0, .int .u16 0, .vec (some 4) []] [], none⟩,
 ⟨none, .store (some 4) (.t 2) (.t 13), none⟩,
 ⟨some 3, .mov (.c (.bool false)), none⟩])
 (.ret))
 (.skip)))
 (.seq (.ops false [
 ⟨some 4, .mov (.c (.nils)), none⟩])
 (.seq (.seq (.ops false [
 ⟨some 14, .mov (.t 0), none⟩,
 ⟨some 15, .len (.t 14), none⟩,
 ⟨some 16, .mov (.c (.int .i64 0)), none⟩])
 (.block 0 (.loop b36_0)))
 (.seq (.seq (.ops false [
 ⟨some 113, .mov (.t 4), none⟩,
 ⟨some 114, .len (.t 113), none⟩,
 ⟨some 115, .bin .eql (.t 114) (.c (.int .i64 0)), none⟩])
 (.cond (.t 115)
 (.seq (.ops false [
 ⟨some 116, .build [.int .i64 0, .int .i64 0, .int .u16 0, .vec (some 4) []] [], none⟩,
 ⟨none, .store (some 4) (.t 2) (.t 116), none⟩,
 ⟨some 3, .mov (.c (.bool false)), none⟩])
 (.ret))
 (.skip)))
 (.seq (.ops false [
 ⟨some 117, .mov (.t 4), none⟩,
 ⟨some 118, .mov (.t 4), none⟩,
 ⟨some 119, .len (.t 118), none⟩,
 ⟨some 120, .bin .sub (.t 119) (.c (.int .i64 1)), none⟩,
 ⟨some 121, .iaddr (some 4) (.t 117) (.t 120), none⟩,
 ⟨some 122, .load (some 4) (.t 121), none⟩,
 ⟨none, .store (some 4) (.t 2) (.t 122), none⟩,
 ⟨some 3, .mov (.c (.bool true)), none⟩])
 (.ret)))))))
 [.cell 2 (some 4), .t 3]

set_option maxRecDepth 100000 in
theorem ok36 : chkFn Try.prog 36 a36 = true := by kernel_rfl

def b42_0 : ACode :=
 (.seq (.seq (.ops false [
 ⟨some 5, .mov (.t 4), none⟩,
 ⟨some 6, .faddr 3 (.t 1), none⟩,
 ⟨some 7, .ldI none (.t 6), none⟩,
 ⟨some 8, .len (.t 7), none⟩,
 ⟨some 9, .bin .lss (.t 5) (.t 8), none⟩])
 (.cond (.t 9)
 (.skip)
 (.exit 0)))
 (.seq (.block 1 (.ops false [
 ⟨some 12, .mov (.t 3), none⟩,
 ⟨some 13, .faddr 3 (.t 1), none⟩,
 ⟨some 14, .ldI none (.t 13), none⟩,
 ⟨some 15, .mov (.t 4), none⟩,
 ⟨some 16, .iaddr (some 4) (.t 14) (.t 15), none⟩,
 ⟨some 17, .load (some 4) (.t 16), none⟩,
 ⟨some 18, .call false 42 [(.t 17)], none⟩,
 ⟨some 19, .bin .add (.t 12) (.t 18), none⟩,
 ⟨some 3, .mov (.t 19), none⟩]))
 (.ops false [
 ⟨some 10, .mov (.t 4), none⟩,
 ⟨some 11, .bin .add (.t 10) (.c (.int .i64 1)), none⟩,
 ⟨some 4, .mov (.t 11), none⟩])))

/-- pointsman/pointsmanref05.Size -/
def a42 : AFn := .mk 21
 (.seq (.ops false [
 ⟨some 1, .box (some 4) (.t 0) true, none⟩,
 ⟨some 2, .mov (.c (.int .i64 0)), none⟩])
 (.seq (.ops false [
 ⟨some 3, .mov (.c (.int .i64 1)), none⟩])
 (.seq (.seq (.ops false [
 ⟨some 4, .mov (.c (.int .i64 0)), none⟩])
 (.block 0 (.loop b42_0)))
 (.seq (.ops false [
 ⟨some 20, .mov (.t 3), none⟩,
 ⟨some 2, .mov (.t 20), none⟩])
 (.ret)))))
 [.t 2]

set_option maxRecDepth 100000 in
theorem ok42 : chkFn Try.prog 42 a42 = true := by kernel_rfl

def b43_0 : ACode :=
 (.seq (.seq (.ops false [
 ⟨some 5, .mov (.t 4), none⟩,
 ⟨some 6, .faddr 3 (.t 1), none⟩,
 ⟨some 7, .ldI none (.t 6), none⟩,
 ⟨some 8, .len (.t 7), none⟩,
 ⟨some 9, .bin .lss (.t 5) (.t 8), none⟩])
 (.cond (.t 9)
 (.skip)
 (.exit 0)))
 (.seq (.block 1 (.ops false [
 ⟨some 12, .mov (.t 3), none⟩,
 ⟨some 13, .faddr 3 (.t 1), none⟩,
 ⟨some 14, .ldI none (.t 13), none⟩,
 ⟨some 15, .mov (.t 4), none⟩,
 ⟨some 16, .iaddr (some 4) (.t 14) (.t 15), none⟩,
 ⟨some 17, .load (some 4) (.t 16), none⟩,
 ⟨some 18, .call false 43 [(.t 17)], none⟩,
 ⟨some 19, .max2 (.t 12) (.t 18), none⟩,
 ⟨some 3, .mov (.t 19), none⟩]))
 (.ops false [
 ⟨some 10, .mov (.t 4), none⟩,
 ⟨some 11, .bin .add (.t 10) (.c (.int .i64 1)), none⟩,
 ⟨some 4, .mov (.t 11), none⟩])))

/-- pointsman/pointsmanref05.Depth -/
def a43 : AFn := .mk 22
 (.seq (.ops false [
 ⟨some 1, .box (some 4) (.t 0) true, none⟩,
 ⟨some 2, .mov (.c (.int .i64 0)), none⟩])
 (.seq (.ops false [
 ⟨some 3, .mov (.c (.int .i64 0)), none⟩])
 (.seq (.seq (.ops false [
 ⟨some 4, .mov (.c (.int .i64 0)), none⟩])
 (.block 0 (.loop b43_0)))
 (.seq (.ops false [
 ⟨some 20, .mov (.t 3), none⟩,
 ⟨some 21, .bin .add (.t 20) (.c (.int .i64 1)), none⟩,
 ⟨some 2, .mov (.t 21), none⟩])
 (.ret)))))
 [.t 2]

set_option maxRecDepth 100000 in
theorem ok43 : chkFn Try.prog 43 a43 = true := by kernel_rfl

def b45_0 : ACode :=
 (.seq (.seq (.ops false [
 ⟨some 25, .mov (.t 3), none⟩,
 ⟨some 26, .faddr 3 (.t 1), none⟩,
 ⟨some 27, .ldI none (.t 26), none⟩,
 ⟨some 28, .len (.t 27), none⟩,
 ⟨some 29, .bin .lss (.t 25) (.t 28), none⟩])
 (.cond (.t 29)
 (.skip)
 (.exit 0)))
 (.seq (.block 1 (.seq (.ops false [
 ⟨some 32, .faddr 3 (.t 1), none⟩,
 ⟨some 33, .ldI none (.t 32), none⟩,
 ⟨some 34, .mov (.t 3), none⟩,
 ⟨some 35, .iaddr (some 4) (.t 33) (.t 34), none⟩,
 ⟨some 36, .load (some 4) (.t 35), none⟩,
 ⟨some 37, .call false 45 [(.t 36)], none⟩,
 ⟨some 38, .un .not (.t 37), none⟩])
 (.cond (.t 38)
 (.seq (.ops false [
 ⟨some 2, .mov (.c (.bool false)), none⟩])
 (.ret))
 (.skip))))
 (.ops false [
 ⟨some 30, .mov (.t 3), none⟩,
 ⟨some 31, .bin .add (.t 30) (.c (.int .i64 1)), none⟩,
 ⟨some 3, .mov (.t 31), none⟩])))

/-- pointsman/pointsmanref05.Predicate -/
def a45 : AFn := .mk 39
 (.seq (.ops false [
 ⟨some 1, .box (some 4) (.t 0) true, none⟩,
 ⟨some 2, .mov (.c (.bool false)), none⟩])
 (.seq (.seq (.ops false [
 ⟨some 4, .faddr 0 (.t 1), none⟩,
 ⟨some 5, .ldI none (.t 4), none⟩,
 ⟨some 6, .bin .eql (.t 5) (.c (.int .i64 5)), none⟩,
 ⟨some 7, .mov (.t 6), none⟩,
 ⟨some 8, .faddr 0 (.t 1), some (7, false)⟩,
 ⟨some 9, .ldI none (.t 8), some (7, false)⟩,
 ⟨some 10, .bin .lss (.t 9) (.c (.int .i64 0)), some (7, false)⟩,
 ⟨some 11, .pick (.t 7) (.c (.bool true)) (.t 10), none⟩,
 ⟨some 12, .mov (.t 11), none⟩,
 ⟨some 13, .faddr 0 (.t 1), some (12, false)⟩,
 ⟨some 14, .ldI none (.t 13), some (12, false)⟩,
 ⟨some 15, .bin .gtr (.t 14) (.c (.int .i64 7)), some (12, false)⟩,
 ⟨some 16, .pick (.t 12) (.c (.bool true)) (.t 15), none⟩])
 (.cond (.t 16)
 (.seq (.ops false [
 ⟨some 2, .mov (.c (.bool false)), none⟩])
 (.ret))
 (.skip)))
 (.seq (.seq (.ops false [
 ⟨some 17, .faddr 0 (.t 1), none⟩,
 ⟨some 18, .ldI none (.t 17), none⟩,
 ⟨some 19, .bin .eql (.t 18) (.c (.int .i64 6)), none⟩,
 ⟨some 20, .mov (.t 19), none⟩,
 ⟨some 21, .faddr 0 (.t 1), some (20, false)⟩,
 ⟨some 22, .ldI none (.t 21), some (20, false)⟩,
 ⟨some 23, .bin .eql (.t 22) (.c (.int .i64 7)), some (20, false)⟩,
 ⟨some 24, .pick (.t 20) (.c (.bool true)) (.t 23), none⟩])
 (.cond (.t 24)
 (.seq (.ops false [
 ⟨some 3, .mov (.c (.int .i64 0)), none⟩])
 (.block 0 (.loop b45_0)))
 (.skip)))
 (.seq (.ops false [
 ⟨some 2, .mov (.c (.bool true)), none⟩])
 (.ret)))))
 [.t 2]

set_option maxRecDepth 100000 in
theorem ok45 : chkFn Try.prog 45 a45 = true := by kernel_rfl

def b79_0 : ACode :=
 (.seq (.seq (.ops false [
 ⟨some 114, .mov (.t 6), none⟩,
 ⟨some 115, .mov (.t 5), none⟩,
 ⟨some 116, .bin .lss (.t 114) (.t 115), none⟩])
 (.cond (.t 116)
 (.skip)
 (.exit 1)))
 (.seq (.block 2 (.seq (.ops false [
 ⟨some 119, .faddr 3 (.t 2), none⟩,
 ⟨some 120, .ldI none (.t 119), none⟩,
 ⟨some 121, .mov (.t 6), none⟩,
 ⟨some 122, .iaddr (some 4) (.t 120) (.t 121), none⟩,
 ⟨some 123, .load (some 4) (.t 122), none⟩,
 ⟨some 124, .mov (.t 1), none⟩,
 ⟨some 125, .call false 79 [(.t 123), (.t 124)], none⟩,
 ⟨some 126, .un .not (.t 125), none⟩])
 (.cond (.t 126)
 (.seq (.ops false [
 ⟨some 4, .mov (.c (.bool false)), none⟩])
 (.ret))
 (.skip))))
 (.ops false [
 ⟨some 117, .mov (.t 6), none⟩,
 ⟨some 118, .bin .add (.t 117) (.c (.int .i64 1)), none⟩,
 ⟨some 6, .mov (.t 118), none⟩])))

/-- pointsman/pointsmanref05.formed -/
def a79 : AFn := .mk 127
 (.seq (.ops false [
 ⟨some 2, .box (some 4) (.t 0) true, none⟩,
 ⟨some 4, .mov (.c (.bool false)), none⟩])
 (.seq (.ops false [
 ⟨some 7, .faddr 3 (.t 2), none⟩,
 ⟨some 8, .ldI none (.t 7), none⟩,
 ⟨some 9, .len (.t 8), none⟩,
 ⟨some 5, .mov (.t 9), none⟩])
 (.seq (.seq (.ops false [
 ⟨some 10, .faddr 0 (.t 2), none⟩,
 ⟨some 11, .ldI none (.t 10), none⟩])
 (.block 0 (.seq (.seq (.ops false [
 ⟨some 13, .bin .eql (.t 11) (.c (.int .i64 0)), none⟩,
 ⟨some 12, .mov (.t 13), none⟩])
 (.cond (.t 12)
 (.skip)
 (.ops false [
 ⟨some 14, .bin .eql (.t 11) (.c (.int .i64 1)), none⟩,
 ⟨some 12, .mov (.t 14), none⟩])))
 (.cond (.t 12)
 (.seq (.ops false [
 ⟨some 15, .mov (.t 5), none⟩,
 ⟨some 16, .bin .eql (.t 15) (.c (.int .i64 0)), none⟩,
 ⟨some 17, .mov (.t 16), none⟩,
 ⟨some 18, .faddr 1 (.t 2), some (17, true)⟩,
 ⟨some 19, .ldI none (.t 18), some (17, true)⟩,
 ⟨some 20, .bin .eql (.t 19) (.c (.int .i64 0)), some (17, true)⟩,
 ⟨some 21, .pick (.t 17) (.t 20) (.c (.bool false)), none⟩,
 ⟨some 22, .mov (.t 21), none⟩,
 ⟨some 23, .faddr 2 (.t 2), some (22, true)⟩,
 ⟨some 24, .ldI none (.t 23), some (22, true)⟩,
 ⟨some 25, .bin .eql (.t 24) (.c (.int .u16 0)), some (22, true)⟩,
 ⟨some 26, .pick (.t 22) (.t 25) (.c (.bool false)), none⟩,
 ⟨some 4, .mov (.t 26), none⟩])
 (.ret))
 (.seq (.ops false [
 ⟨some 28, .bin .eql (.t 11) (.c (.int .i64 2)), none⟩,
 ⟨some 27, .mov (.t 28), none⟩])
 (.cond (.t 27)
 (.seq (.ops false [
 ⟨some 29, .mov (.t 5), none⟩,
 ⟨some 30, .bin .eql (.t 29) (.c (.int .i64 0)), none⟩,
 ⟨some 31, .mov (.t 30), none⟩,
 ⟨some 32, .faddr 1 (.t 2), some (31, true)⟩,
 ⟨some 33, .ldI none (.t 32), some (31, true)⟩,
 ⟨some 34, .bin .geq (.t 33) (.c (.int .i64 0)), some (31, true)⟩,
 ⟨some 35, .pick (.t 31) (.t 34) (.c (.bool false)), none⟩,
 ⟨some 36, .mov (.t 35), none⟩,
 ⟨some 37, .faddr 1 (.t 2), some (36, true)⟩,
 ⟨some 38, .ldI none (.t 37), some (36, true)⟩,
 ⟨some 39, .bin .lss (.t 38) (.c (.int .i64 8)), some (36, true)⟩,
 ⟨some 40, .pick (.t 36) (.t 39) (.c (.bool false)), none⟩,
 ⟨some 4, .mov (.t 40), none⟩])
 (.ret))
 (.seq (.ops false [
 ⟨some 42, .bin .eql (.t 11) (.c (.int .i64 3)), none⟩,
 ⟨some 41, .mov (.t 42), none⟩])
 (.cond (.t 41)
 (.seq (.ops false [
 ⟨some 43, .mov (.t 5), none⟩,
 ⟨some 44, .bin .eql (.t 43) (.c (.int .i64 0)), none⟩,
 ⟨some 45, .mov (.t 44), none⟩,
 ⟨some 46, .faddr 1 (.t 2), some (45, true)⟩,
 ⟨some 47, .ldI none (.t 46), some (45, true)⟩,
 ⟨some 48, .bin .geq (.t 47) (.c (.int .i64 0)), some (45, true)⟩,
 ⟨some 49, .pick (.t 45) (.t 48) (.c (.bool false)), none⟩,
 ⟨some 50, .mov (.t 49), none⟩,
 ⟨some 51, .faddr 1 (.t 2), some (50, true)⟩,
 ⟨some 52, .ldI none (.t 51), some (50, true)⟩,
 ⟨some 53, .mov (.t 1), some (50, true)⟩,
 ⟨some 54, .bin .lss (.t 52) (.t 53), some (50, true)⟩,
 ⟨some 55, .pick (.t 50) (.t 54) (.c (.bool false)), none⟩,
 ⟨some 4, .mov (.t 55), none⟩])
 (.ret))
 (.seq (.ops false [
 ⟨some 57, .bin .eql (.t 11) (.c (.int .i64 5)), none⟩,
 ⟨some 56, .mov (.t 57), none⟩])
 (.cond (.t 56)
 (.seq (.ops false [
 ⟨some 58, .mov (.t 5), none⟩,
 ⟨some 59, .bin .eql (.t 58) (.c (.int .i64 0)), none⟩,
 ⟨some 60, .mov (.t 59), none⟩,
 ⟨some 61, .faddr 1 (.t 2), some (60, true)⟩,
 ⟨some 62, .ldI none (.t 61), some (60, true)⟩,
 ⟨some 63, .bin .geq (.t 62) (.c (.int .i64 1)), some (60, true)⟩,
 ⟨some 64, .pick (.t 60) (.t 63) (.c (.bool false)), none⟩,
 ⟨some 65, .mov (.t 64), none⟩,
 ⟨some 66, .faddr 1 (.t 2), some (65, true)⟩,
 ⟨some 67, .ldI none (.t 66), some (65, true)⟩,
 ⟨some 68, .bin .lss (.t 67) (.c (.int .i64 8)), some (65, true)⟩,
 ⟨some 69, .pick (.t 65) (.t 68) (.c (.bool false)), none⟩,
 ⟨some 4, .mov (.t 69), none⟩])
 (.ret))
 (.seq (.ops false [
 ⟨some 71, .bin .eql (.t 11) (.c (.int .i64 4)), none⟩,
 ⟨some 70, .mov (.t 71), none⟩])
 (.cond (.t 70)
 (.seq (.ops false [
 ⟨some 72, .mov (.t 5), none⟩,
 ⟨some 73, .bin .eql (.t 72) (.c (.int .i64 1)), none⟩,
 ⟨some 74, .mov (.t 73), none⟩,
 ⟨some 75, .faddr 1 (.t 2), some (74, true)⟩,
 ⟨some 76, .ldI none (.t 75), some (74, true)⟩,
 ⟨some 77, .bin .eql (.t 76) (.c (.int .i64 0)), some (74, true)⟩,
 ⟨some 78, .pick (.t 74) (.t 77) (.c (.bool false)), none⟩,
 ⟨some 79, .mov (.t 78), none⟩,
 ⟨some 80, .faddr 2 (.t 2), some (79, true)⟩,
 ⟨some 81, .ldI none (.t 80), some (79, true)⟩,
 ⟨some 82, .bin .eql (.t 81) (.c (.int .u16 0)), some (79, true)⟩,
 ⟨some 83, .pick (.t 79) (.t 82) (.c (.bool false)), none⟩,
 ⟨some 84, .mov (.t 83), none⟩,
 ⟨some 85, .faddr 3 (.t 2), some (84, true)⟩,
 ⟨some 86, .ldI none (.t 85), some (84, true)⟩,
 ⟨some 87, .iaddr (some 4) (.t 86) (.c (.int .i64 0)), some (84, true)⟩,
 ⟨some 88, .load (some 4) (.t 87), some (84, true)⟩,
 ⟨some 89, .call false 45 [(.t 88)], some (84, true)⟩,
 ⟨some 90, .pick (.t 84) (.t 89) (.c (.bool false)), none⟩,
 ⟨some 91, .mov (.t 90), none⟩,
 ⟨some 92, .faddr 3 (.t 2), some (91, true)⟩,
 ⟨some 93, .ldI none (.t 92), some (91, true)⟩,
 ⟨some 94, .iaddr (some 4) (.t 93) (.c (.int .i64 0)), some (91, true)⟩,
 ⟨some 95, .load (some 4) (.t 94), some (91, true)⟩,
 ⟨some 96, .mov (.t 1), some (91, true)⟩,
 ⟨some 97, .call false 79 [(.t 95), (.t 96)], some (91, true)⟩,
 ⟨some 98, .pick (.t 91) (.t 97) (.c (.bool false)), none⟩,
 ⟨some 4, .mov (.t 98), none⟩])
 (.ret))
 (.seq (.seq (.ops false [
 ⟨some 100, .bin .eql (.t 11) (.c (.int .i64 6)), none⟩,
 ⟨some 99, .mov (.t 100), none⟩])
 (.cond (.t 99)
 (.skip)
 (.ops false [
 ⟨some 101, .bin .eql (.t 11) (.c (.int .i64 7)), none⟩,
 ⟨some 99, .mov (.t 101), none⟩])))
 (.cond (.t 99)
 (.seq (.seq (.ops false [
 ⟨some 102, .mov (.t 5), none⟩,
 ⟨some 103, .bin .lss (.t 102) (.c (.int .i64 2)), none⟩,
 ⟨some 104, .mov (.t 103), none⟩,
 ⟨some 105, .faddr 1 (.t 2), some (104, false)⟩,
 ⟨some 106, .ldI none (.t 105), some (104, false)⟩,
 ⟨some 107, .bin .neq (.t 106) (.c (.int .i64 0)), some (104, false)⟩,
 ⟨some 108, .pick (.t 104) (.c (.bool true)) (.t 107), none⟩,
 ⟨some 109, .mov (.t 108), none⟩,
 ⟨some 110, .faddr 2 (.t 2), some (109, false)⟩,
 ⟨some 111, .ldI none (.t 110), some (109, false)⟩,
 ⟨some 112, .bin .neq (.t 111) (.c (.int .u16 0)), some (109, false)⟩,
 ⟨some 113, .pick (.t 109) (.c (.bool true)) (.t 112), none⟩])
 (.cond (.t 113)
 (.seq (.ops false [
 ⟨some 4, .mov (.c (.bool false)), none⟩])
 (.ret))
 (.skip)))
 (.seq (.seq (.ops false [
 ⟨some 6, .mov (.c (.int .i64 0)), none⟩])
 (.block 1 (.loop b79_0)))
 (.seq (.ops false [
 ⟨some 4, .mov (.c (.bool true)), none⟩])
 (.ret))))
 (.skip)))))))))))))))
 (.seq (.ops false [
 ⟨some 4, .mov (.c (.bool false)), none⟩])
 (.ret)))))
 [.t 4]

set_option maxRecDepth 100000 in
theorem ok79 : chkFn Try.prog 79 a79 = true := by kernel_rfl

def b80_0 : ACode :=
 (.seq (.seq (.ops false [
 ⟨some 6, .mov (.t 5), none⟩,
 ⟨some 7, .mov (.t 0), none⟩,
 ⟨some 8, .len (.t 7), none⟩,
 ⟨some 9, .bin .lss (.t 6) (.t 8), none⟩])
 (.cond (.t 9)
 (.skip)
 (.exit 0)))
 (.seq (.block 1 (.seq (.ops true [
 ⟨some 12, .mov (.t 0), none⟩,
 ⟨some 13, .mov (.t 5), none⟩,
 ⟨some 14, .iaddr (some 2) (.t 12) (.t 13), none⟩,
 ⟨some 15, .faddr 0 (.t 14), none⟩,
 ⟨some 16, .load none (.t 15), none⟩,
 ⟨some 17, .bin .lss (.t 16) (.c (.int .i64 0)), none⟩,
 ⟨some 18, .mov (.t 17), none⟩,
 ⟨some 19, .mov (.t 0), some (18, false)⟩,
 ⟨some 20, .mov (.t 5), some (18, false)⟩,
 ⟨some 21, .iaddr (some 2) (.t 19) (.t 20), some (18, false)⟩,
 ⟨some 22, .faddr 0 (.t 21), some (18, false)⟩,
 ⟨some 23, .load none (.t 22), some (18, false)⟩,
 ⟨some 24, .mov (.t 1), some (18, false)⟩,
 ⟨some 25, .bin .geq (.t 23) (.t 24), some (18, false)⟩,
 ⟨some 26, .pick (.t 18) (.c (.bool true)) (.t 25), none⟩,
 ⟨some 27, .mov (.t 26), none⟩,
 ⟨some 28, .mov (.t 5), some (27, false)⟩,
 ⟨some 29, .bin .gtr (.t 28) (.c (.int .i64 0)), some (27, false)⟩,
 ⟨some 30, .mov (.t 29), some (27, false)⟩,
 ⟨some 31, .mov (.t 0), some (30, true)⟩,
 ⟨some 32, .mov (.t 5), some (30, true)⟩,
 ⟨some 33, .bin .sub (.t 32) (.c (.int .i64 1)), some (30, true)⟩,
 ⟨some 34, .iaddr (some 2) (.t 31) (.t 33), some (30, true)⟩,
 ⟨some 35, .faddr 0 (.t 34), some (30, true)⟩,
 ⟨some 36, .load none (.t 35), some (30, true)⟩,
 ⟨some 37, .mov (.t 0), some (30, true)⟩,
 ⟨some 38, .mov (.t 5), some (30, true)⟩,
 ⟨some 39, .iaddr (some 2) (.t 37) (.t 38), some (30, true)⟩,
 ⟨some 40, .faddr 0 (.t 39), some (30, true)⟩,
 ⟨some 41, .load none (.t 40), some (30, true)⟩,
 ⟨some 42, .bin .geq (.t 36) (.t 41), some (30, true)⟩,
 ⟨some 43, .pick (.t 30) (.t 42) (.c (.bool false)), some (27, false)⟩,
 ⟨some 44, .pick (.t 27) (.c (.bool true)) (.t 43), none⟩])
 (.cond (.t 44)
 (.seq (.ops false [
 ⟨some 4, .mov (.c (.bool false)), none⟩])
 (.ret))
 (.skip))))
 (.ops false [
 ⟨some 10, .mov (.t 5), none⟩,
 ⟨some 11, .bin .add (.t 10) (.c (.int .i64 1)), none⟩,
 ⟨some 5, .mov (.t 11), none⟩])))

/-- pointsman/pointsmanref05.rising -/
def a80 : AFn := .mk 45
 (.seq (.ops false [
 ⟨some 4, .mov (.c (.bool false)), none⟩])
 (.seq (.seq (.ops false [
 ⟨some 5, .mov (.c (.int .i64 0)), none⟩])
 (.block 0 (.loop b80_0)))
 (.seq (.ops false [
 ⟨some 4, .mov (.c (.bool true)), none⟩])
 (.ret))))
 [.t 4]

set_option maxRecDepth 100000 in
theorem ok80 : chkFn Try.prog 80 a80 = true := by kernel_rfl

def b51_0 : ACode :=
 (.seq (.seq (.ops false [
 ⟨some 40, .mov (.t 3), none⟩,
 ⟨some 41, .faddr 5 (.t 1), none⟩,
 ⟨some 42, .ldI none (.t 41), none⟩,
 ⟨some 43, .len (.t 42), none⟩,
 ⟨some 44, .bin .lss (.t 40) (.t 43), none⟩])
 (.cond (.t 44)
 (.skip)
 (.exit 0)))
 (.seq (.block 1 (.seq (.ops false [
 ⟨some 47, .faddr 5 (.t 1), none⟩,
 ⟨some 48, .ldI none (.t 47), none⟩,
 ⟨some 49, .mov (.t 3), none⟩,
 ⟨some 50, .iaddr (some 3) (.t 48) (.t 49), none⟩,
 ⟨some 51, .load (some 3) (.t 50), none⟩,
 ⟨some 4, .alloc [.vec (some 2) [], .vec (some 2) [], .vec (some 2) []], none⟩,
 ⟨none, .store (some 3) (.t 4) (.t 51), none⟩])
 (.seq (.ops false [
 ⟨some 52, .faddr 0 (.t 4), none⟩,
 ⟨some 53, .load none (.t 52), none⟩,
 ⟨some 54, .len (.t 53), none⟩,
 ⟨some 55, .bin .lss (.t 54) (.c (.int .i64 2)), none⟩,
 ⟨some 56, .mov (.t 55), none⟩,
 ⟨some 57, .faddr 0 (.t 4), some (56, false)⟩,
 ⟨some 58, .load none (.t 57), some (56, false)⟩,
 ⟨some 59, .iaddr (some 2) (.t 58) (.c (.int .i64 0)), some (56, false)⟩,
 ⟨some 60, .faddr 0 (.t 59), some (56, false)⟩,
 ⟨some 61, .load none (.t 60), some (56, false)⟩,
 ⟨some 62, .bin .neq (.t 61) (.c (.int .i64 0)), some (56, false)⟩,
 ⟨some 63, .pick (.t 56) (.c (.bool true)) (.t 62), none⟩,
 ⟨some 64, .mov (.t 63), none⟩,
 ⟨some 65, .faddr 0 (.t 4), some (64, false)⟩,
 ⟨some 66, .load none (.t 65), some (64, false)⟩,
 ⟨some 67, .iaddr (some 2) (.t 66) (.c (.int .i64 1)), some (64, false)⟩,
 ⟨some 68, .faddr 0 (.t 67), some (64, false)⟩,
 ⟨some 69, .load none (.t 68), some (64, false)⟩,
 ⟨some 70, .bin .neq (.t 69) (.c (.int .i64 1)), some (64, false)⟩,
 ⟨some 71, .pick (.t 64) (.c (.bool true)) (.t 70), none⟩,
 ⟨some 72, .mov (.t 71), none⟩,
 ⟨some 73, .faddr 0 (.t 4), some (72, false)⟩,
 ⟨some 74, .load none (.t 73), some (72, false)⟩,
 ⟨some 75, .call false 80 [(.t 74), (.c (.int .i64 8))], some (72, false)⟩,
 ⟨some 76, .un .not (.t 75), some (72, false)⟩,
 ⟨some 77, .pick (.t 72) (.c (.bool true)) (.t 76), none⟩,
 ⟨some 78, .mov (.t 77), none⟩,
 ⟨some 79, .faddr 1 (.t 4), some (78, false)⟩,
 ⟨some 80, .load none (.t 79), some (78, false)⟩,
 ⟨some 81, .faddr 0 (.t 1), some (78, false)⟩,
 ⟨some 82, .ldI none (.t 81), some (78, false)⟩,
 ⟨some 83, .len (.t 82), some (78, false)⟩,
 ⟨some 84, .call false 80 [(.t 80), (.t 83)], some (78, false)⟩,
 ⟨some 85, .un .not (.t 84), some (78, false)⟩,
 ⟨some 86, .pick (.t 78) (.c (.bool true)) (.t 85), none⟩,
 ⟨some 87, .mov (.t 86), none⟩,
 ⟨some 88, .faddr 2 (.t 4), some (87, false)⟩,
 ⟨some 89, .load none (.t 88), some (87, false)⟩,
 ⟨some 90, .faddr 0 (.t 1), some (87, false)⟩,
 ⟨some 91, .ldI none (.t 90), some (87, false)⟩,
 ⟨some 92, .len (.t 91), some (87, false)⟩,
 ⟨some 93, .call false 80 [(.t 89), (.t 92)], some (87, false)⟩,
 ⟨some 94, .un .not (.t 93), some (87, false)⟩,
 ⟨some 95, .pick (.t 87) (.c (.bool true)) (.t 94), none⟩,
 ⟨some 96, .mov (.t 95), none⟩,
 ⟨some 97, .faddr 2 (.t 4), some (96, false)⟩,
 ⟨some 98, .load none (.t 97), some (96, false)⟩,
 ⟨some 99, .len (.t 98), some (96, false)⟩,
 ⟨some 100, .bin .eql (.t 99) (.c (.int .i64 0)), some (96, false)⟩,
 ⟨some 101, .pick (.t 96) (.c (.bool true)) (.t 100), none⟩])
 (.cond (.t 101)
 (.seq (.ops false [
 ⟨some 2, .mov (.c (.int .i64 11)), none⟩])
 (.ret))
 (.skip)))))
 (.ops false [
 ⟨some 45, .mov (.t 3), none⟩,
 ⟨some 46, .bin .add (.t 45) (.c (.int .i64 1)), none⟩,
 ⟨some 3, .mov (.t 46), none⟩])))

/-- pointsman/pointsmanref05.Check -/
def a51 : AFn := .mk 102
 (.seq (.ops false [
 ⟨some 1, .box (some 6) (.t 0) true, none⟩,
 ⟨some 2, .mov (.c (.int .i64 0)), none⟩])
 (.seq (.seq (.ops false [
 ⟨some 5, .faddr 0 (.t 1), none⟩,
 ⟨some 6, .ldI none (.t 5), none⟩,
 ⟨some 7, .len (.t 6), none⟩,
 ⟨some 8, .bin .lss (.t 7) (.c (.int .i64 1)), none⟩,
 ⟨some 9, .mov (.t 8), none⟩,
 ⟨some 10, .faddr 0 (.t 1), some (9, false)⟩,
 ⟨some 11, .ldI none (.t 10), some (9, false)⟩,
 ⟨some 12, .len (.t 11), some (9, false)⟩,
 ⟨some 13, .bin .gtr (.t 12) (.c (.int .i64 4)), some (9, false)⟩,
 ⟨some 14, .pick (.t 9) (.c (.bool true)) (.t 13), none⟩,
 ⟨some 15, .mov (.t 14), none⟩,
 ⟨some 16, .faddr 1 (.t 1), some (15, false)⟩,
 ⟨some 17, .ldI (some 4) (.t 16), some (15, false)⟩,
 ⟨some 18, .call false 42 [(.t 17)], some (15, false)⟩,
 ⟨some 19, .bin .gtr (.t 18) (.c (.int .i64 300)), some (15, false)⟩,
 ⟨some 20, .pick (.t 15) (.c (.bool true)) (.t 19), none⟩,
 ⟨some 21, .mov (.t 20), none⟩,
 ⟨some 22, .faddr 1 (.t 1), some (21, false)⟩,
 ⟨some 23, .ldI (some 4) (.t 22), some (21, false)⟩,
 ⟨some 24, .call false 43 [(.t 23)], some (21, false)⟩,
 ⟨some 25, .bin .gtr (.t 24) (.c (.int .i64 20)), some (21, false)⟩,
 ⟨some 26, .pick (.t 21) (.c (.bool true)) (.t 25), none⟩,
 ⟨some 27, .mov (.t 26), none⟩,
 ⟨some 28, .faddr 5 (.t 1), some (27, false)⟩,
 ⟨some 29, .ldI none (.t 28), some (27, false)⟩,
 ⟨some 30, .len (.t 29), some (27, false)⟩,
 ⟨some 31, .bin .gtr (.t 30) (.c (.int .i64 24)), some (27, false)⟩,
 ⟨some 32, .pick (.t 27) (.c (.bool true)) (.t 31), none⟩])
 (.cond (.t 32)
 (.seq (.ops false [
 ⟨some 2, .mov (.c (.int .i64 2)), none⟩])
 (.ret))
 (.skip)))
 (.seq (.seq (.ops false [
 ⟨some 33, .faddr 1 (.t 1), none⟩,
 ⟨some 34, .ldI (some 4) (.t 33), none⟩,
 ⟨some 35, .faddr 0 (.t 1), none⟩,
 ⟨some 36, .ldI none (.t 35), none⟩,
 ⟨some 37, .len (.t 36), none⟩,
 ⟨some 38, .call false 79 [(.t 34), (.t 37)], none⟩,
 ⟨some 39, .un .not (.t 38), none⟩])
 (.cond (.t 39)
 (.seq (.ops false [
 ⟨some 2, .mov (.c (.int .i64 11)), none⟩])
 (.ret))
 (.skip)))
 (.seq (.seq (.ops false [
 ⟨some 3, .mov (.c (.int .i64 0)), none⟩])
 (.block 0 (.loop b51_0)))
 (.seq (.ops false [
 ⟨some 2, .mov (.c (.int .i64 0)), none⟩])
 (.ret))))))
 [.t 2]

set_option maxRecDepth 100000 in
theorem ok51 : chkFn Try.prog 51 a51 = true := by kernel_rfl

/-- pointsman/pointsmanref07.Right -/
def a40 : AFn := .mk 8
 (.seq (.ops false [
 ⟨some 1, .box (some 4) (.t 0) true, none⟩,
 ⟨some 2, .mov (.c (.bool false)), none⟩])
 (.seq (.ops true [
 ⟨some 3, .mkslF none (.int .u16 0) (.c (.int .i64 4)) (.c (.int .i64 4)), none⟩,
 ⟨some 4, .ldI (some 4) (.t 1), none⟩,
 ⟨some 5, .build [.vec none [], .int .i64 0, .int .i64 0, .int .u16 0, .vec (some 4) [], .vec (some 3) []] [(0, 1, (.t 3)), (1, 4, (.t 4))], none⟩,
 ⟨some 6, .call false 51 [(.t 5)], none⟩,
 ⟨some 7, .bin .eql (.t 6) (.c (.int .i64 0)), none⟩,
 ⟨some 2, .mov (.t 7), none⟩])
 (.ret)))
 [.t 2]

set_option maxRecDepth 100000 in
theorem ok40 : chkFn Try.prog 40 a40 = true := by kernel_rfl

/-- pointsman/pointsmanref01.With -/
def a90 : AFn := .mk 17
 (.seq (.ops false [
 ⟨some 3, .box (some 8) (.t 0) false, none⟩,
 ⟨some 6, .alloc [.int .u16 0, .int .u16 0, .int .u16 0, .int .u16 0, .int .u16 0, .int .u16 0, .int .u16 0, .int .u16 0], none⟩])
 (.seq (.seq (.ops false [
 ⟨some 7, .mov (.t 1), none⟩,
 ⟨some 8, .bin .geq (.t 7) (.c (.int .i64 0)), none⟩,
 ⟨some 9, .mov (.t 8), none⟩,
 ⟨some 10, .mov (.t 1), some (9, true)⟩,
 ⟨some 11, .bin .lss (.t 10) (.c (.int .i64 8)), some (9, true)⟩,
 ⟨some 12, .pick (.t 9) (.t 11) (.c (.bool false)), none⟩])
 (.cond (.t 12)
 (.ops false [
 ⟨some 13, .mov (.t 1), none⟩,
 ⟨some 14, .mov (.t 2), none⟩,
 ⟨some 15, .iaddrA 8 none (.t 3) (.t 13), none⟩,
 ⟨none, .store none (.t 15) (.t 14), none⟩])
 (.skip)))
 (.seq (.ops false [
 ⟨some 16, .load (some 8) (.t 3), none⟩,
 ⟨none, .store (some 8) (.t 6) (.t 16), none⟩])
 (.ret))))
 [.cell 6 (some 8)]

set_option maxRecDepth 100000 in
theorem ok90 : chkFn Try.prog 90 a90 = true := by kernel_rfl

def b114_0 : ACode :=
 (.seq (.seq (.ops false [
 ⟨some 6, .mov (.t 5), none⟩,
 ⟨some 7, .bin .lss (.t 6) (.c (.int .i64 8)), none⟩])
 (.cond (.t 7)
 (.skip)
 (.exit 0)))
 (.seq (.block 1 (.seq (.seq (.ops true [
 ⟨some 10, .mov (.t 5), none⟩,
 ⟨some 11, .iaddrA 8 none (.t 2) (.t 10), none⟩,
 ⟨some 12, .ldI none (.t 11), none⟩,
 ⟨some 13, .mov (.t 5), none⟩,
 ⟨some 14, .iaddrA 8 none (.t 3) (.t 13), none⟩,
 ⟨some 15, .ldI none (.t 14), none⟩,
 ⟨some 16, .bin .lss (.t 12) (.t 15), none⟩])
 (.cond (.t 16)
 (.seq (.ops false [
 ⟨some 4, .mov (.c (.int .i64 (-1))), none⟩])
 (.ret))
 (.skip)))
 (.seq (.ops true [
 ⟨some 17, .mov (.t 5), none⟩,
 ⟨some 18, .iaddrA 8 none (.t 2) (.t 17), none⟩,
 ⟨some 19, .ldI none (.t 18), none⟩,
 ⟨some 20, .mov (.t 5), none⟩,
 ⟨some 21, .iaddrA 8 none (.t 3) (.t 20), none⟩,
 ⟨some 22, .ldI none (.t 21), none⟩,
 ⟨some 23, .bin .gtr (.t 19) (.t 22), none⟩])
 (.cond (.t 23)
 (.seq (.ops false [
 ⟨some 4, .mov (.c (.int .i64 1)), none⟩])
 (.ret))
 (.skip)))))
 (.ops false [
 ⟨some 8, .mov (.t 5), none⟩,
 ⟨some 9, .bin .add (.t 8) (.c (.int .i64 1)), none⟩,
 ⟨some 5, .mov (.t 9), none⟩])))

/-- pointsman/pointsmanref01.Compare -/
def a114 : AFn := .mk 24
 (.seq (.ops false [
 ⟨some 2, .box (some 8) (.t 0) true, none⟩,
 ⟨some 3, .box (some 8) (.t 1) true, none⟩,
 ⟨some 4, .mov (.c (.int .i64 0)), none⟩])
 (.seq (.seq (.ops false [
 ⟨some 5, .mov (.c (.int .i64 0)), none⟩])
 (.block 0 (.loop b114_0)))
 (.seq (.ops false [
 ⟨some 4, .mov (.c (.int .i64 0)), none⟩])
 (.ret))))
 [.t 4]

set_option maxRecDepth 100000 in
theorem ok114 : chkFn Try.prog 114 a114 = true := by kernel_rfl

def b100_0 : ACode :=
 (.seq (.seq (.ops false [
 ⟨some 9, .mov (.t 7), none⟩,
 ⟨some 10, .mov (.t 0), none⟩,
 ⟨some 11, .len (.t 10), none⟩,
 ⟨some 12, .bin .lss (.t 9) (.t 11), none⟩])
 (.cond (.t 12)
 (.skip)
 (.exit 0)))
 (.seq (.block 1 (.seq (.ops true [
 ⟨some 15, .ldI (some 8) (.t 3), none⟩,
 ⟨some 16, .mov (.t 0), none⟩,
 ⟨some 17, .mov (.t 7), none⟩,
 ⟨some 18, .iaddr (some 8) (.t 16) (.t 17), none⟩,
 ⟨some 19, .load (some 8) (.t 18), none⟩,
 ⟨some 20, .call false 114 [(.t 15), (.t 19)], none⟩,
 ⟨some 8, .mov (.t 20), none⟩])
 (.seq (.seq (.ops false [
 ⟨some 21, .mov (.t 6), none⟩,
 ⟨some 22, .un .not (.t 21), none⟩,
 ⟨some 23, .mov (.t 22), none⟩,
 ⟨some 24, .mov (.t 8), some (23, true)⟩,
 ⟨some 25, .bin .leq (.t 24) (.c (.int .i64 0)), some (23, true)⟩,
 ⟨some 26, .pick (.t 23) (.t 25) (.c (.bool false)), none⟩])
 (.cond (.t 26)
 (.seq (.ops false [
 ⟨some 27, .mov (.t 5), none⟩,
 ⟨some 28, .ldI (some 8) (.t 3), none⟩,
 ⟨some 29, .bsliceI (some 8) [(.t 28)], none⟩,
 ⟨some 30, .append (some 8) (.t 27) (.t 29) false, none⟩,
 ⟨some 5, .mov (.t 30), none⟩])
 (.ops false [
 ⟨some 6, .mov (.c (.bool true)), none⟩]))
 (.skip)))
 (.seq (.ops false [
 ⟨some 31, .mov (.t 8), none⟩,
 ⟨some 32, .bin .neq (.t 31) (.c (.int .i64 0)), none⟩])
 (.cond (.t 32)
 (.ops false [
 ⟨some 33, .mov (.t 5), none⟩,
 ⟨some 34, .mov (.t 0), none⟩,
 ⟨some 35, .mov (.t 7), none⟩,
 ⟨some 36, .iaddr (some 8) (.t 34) (.t 35), none⟩,
 ⟨some 37, .load (some 8) (.t 36), none⟩,
 ⟨some 38, .bsliceI (some 8) [(.t 37)], none⟩,
 ⟨some 39, .append (some 8) (.t 33) (.t 38) false, none⟩,
 ⟨some 5, .mov (.t 39), none⟩])
 (.skip))))))
 (.ops false [
 ⟨some 13, .mov (.t 7), none⟩,
 ⟨some 14, .bin .add (.t 13) (.c (.int .i64 1)), none⟩,
 ⟨some 7, .mov (.t 14), none⟩])))

/-- pointsman/pointsmanref01.Add -/
def a100 : AFn := .mk 47
 (.seq (.ops false [
 ⟨some 3, .box (some 8) (.t 1) true, none⟩,
 ⟨some 4, .mov (.c (.vec (some 8) [])), none⟩])
 (.seq (.ops false [
 ⟨some 5, .mov (.c (.nils)), none⟩])
 (.seq (.ops false [
 ⟨some 6, .mov (.c (.bool false)), none⟩])
 (.seq (.seq (.ops false [
 ⟨some 7, .mov (.c (.int .i64 0)), none⟩])
 (.block 0 (.loop b100_0)))
 (.seq (.seq (.ops false [
 ⟨some 40, .mov (.t 6), none⟩,
 ⟨some 41, .un .not (.t 40), none⟩])
 (.cond (.t 41)
 (.ops false [
 ⟨some 42, .mov (.t 5), none⟩,
 ⟨some 43, .ldI (some 8) (.t 3), none⟩,
 ⟨some 44, .bsliceI (some 8) [(.t 43)], none⟩,
 ⟨some 45, .append (some 8) (.t 42) (.t 44) false, none⟩,
 ⟨some 5, .mov (.t 45), none⟩])
 (.skip)))
 (.seq (.ops false [
 ⟨some 46, .mov (.t 5), none⟩,
 ⟨some 4, .mov (.t 46), none⟩])
 (.ret)))))))
 [.t 4]

set_option maxRecDepth 100000 in
theorem ok100 : chkFn Try.prog 100 a100 = true := by kernel_rfl

def b91_0 : ACode :=
 (.seq (.seq (.ops false [
 ⟨some 6, .mov (.t 5), none⟩,
 ⟨some 7, .mov (.t 1), none⟩,
 ⟨some 8, .len (.t 7), none⟩,
 ⟨some 9, .bin .lss (.t 6) (.t 8), none⟩])
 (.cond (.t 9)
 (.skip)
 (.exit 0)))
 (.seq (.block 1 (.ops false [
 ⟨some 12, .mov (.t 0), none⟩,
 ⟨some 13, .mov (.t 1), none⟩,
 ⟨some 14, .mov (.t 5), none⟩,
 ⟨some 15, .iaddr (some 8) (.t 13) (.t 14), none⟩,
 ⟨some 16, .load (some 8) (.t 15), none⟩,
 ⟨some 17, .call false 100 [(.t 12), (.t 16)], none⟩,
 ⟨some 0, .mov (.t 17), none⟩]))
 (.ops false [
 ⟨some 10, .mov (.t 5), none⟩,
 ⟨some 11, .bin .add (.t 10) (.c (.int .i64 1)), none⟩,
 ⟨some 5, .mov (.t 11), none⟩])))

/-- pointsman/pointsmanref07.union -/
def a91 : AFn := .mk 19
 (.seq (.ops false [
 ⟨some 4, .mov (.c (.vec (some 8) [])), none⟩])
 (.seq (.seq (.ops false [
 ⟨some 5, .mov (.c (.int .i64 0)), none⟩])
 (.block 0 (.loop b91_0)))
 (.seq (.ops false [
 ⟨some 18, .mov (.t 0), none⟩,
 ⟨some 4, .mov (.t 18), none⟩])
 (.ret))))
 [.t 4]

set_option maxRecDepth 100000 in
theorem ok91 : chkFn Try.prog 91 a91 = true := by kernel_rfl

def b75_1 : ACode :=
 (.seq (.seq (.ops false [
 ⟨some 94, .mov (.t 14), none⟩,
 ⟨some 95, .mov (.t 11), none⟩,
 ⟨some 96, .len (.t 95), none⟩,
 ⟨some 97, .bin .lss (.t 94) (.t 96), none⟩])
 (.cond (.t 97)
 (.skip)
 (.exit 3)))
 (.seq (.block 4 (.seq (.ops true [
 ⟨some 101, .faddr 3 (.t 3), none⟩,
 ⟨some 102, .ldI none (.t 101), none⟩,
 ⟨some 103, .mov (.t 12), none⟩,
 ⟨some 104, .iaddr (some 4) (.t 102) (.t 103), none⟩,
 ⟨some 105, .load (some 4) (.t 104), none⟩,
 ⟨some 106, .mov (.t 1), none⟩,
 ⟨some 107, .mov (.t 11), none⟩,
 ⟨some 108, .mov (.t 14), none⟩,
 ⟨some 109, .iaddr (some 8) (.t 107) (.t 108), none⟩,
 ⟨some 110, .load (some 8) (.t 109), none⟩,
 ⟨some 111, .call false 75 [(.t 105), (.t 106), (.t 110)], none⟩,
 ⟨some 100, .mov (.t 111), none⟩,
 ⟨some 112, .extract (.t 100) 0, none⟩,
 ⟨some 113, .extract (.t 100) 1, none⟩,
 ⟨some 15, .mov (.t 112), none⟩,
 ⟨some 16, .mov (.t 113), none⟩])
 (.seq (.seq (.ops false [
 ⟨some 114, .mov (.t 16), none⟩,
 ⟨some 115, .un .not (.t 114), none⟩])
 (.cond (.t 115)
 (.seq (.ops false [
 ⟨some 6, .mov (.c (.vec (some 8) [])), none⟩,
 ⟨some 7, .mov (.c (.bool false)), none⟩])
 (.ret))
 (.skip)))
 (.ops false [
 ⟨some 116, .mov (.t 13), none⟩,
 ⟨some 117, .mov (.t 15), none⟩,
 ⟨some 118, .call false 91 [(.t 116), (.t 117)], none⟩,
 ⟨some 13, .mov (.t 118), none⟩]))))
 (.ops false [
 ⟨some 98, .mov (.t 14), none⟩,
 ⟨some 99, .bin .add (.t 98) (.c (.int .i64 1)), none⟩,
 ⟨some 14, .mov (.t 99), none⟩])))

def b75_0 : ACode :=
 (.seq (.seq (.ops false [
 ⟨some 87, .mov (.t 12), none⟩,
 ⟨some 88, .faddr 3 (.t 3), none⟩,
 ⟨some 89, .ldI none (.t 88), none⟩,
 ⟨some 90, .len (.t 89), none⟩,
 ⟨some 91, .bin .lss (.t 87) (.t 90), none⟩])
 (.cond (.t 91)
 (.skip)
 (.exit 1)))
 (.seq (.block 2 (.seq (.ops false [
 ⟨some 13, .mov (.c (.vec (some 8) [])), none⟩])
 (.seq (.seq (.ops false [
 ⟨some 14, .mov (.c (.int .i64 0)), none⟩])
 (.block 3 (.loop b75_1)))
 (.seq (.seq (.ops false [
 ⟨some 119, .mov (.t 13), none⟩,
 ⟨some 120, .len (.t 119), none⟩,
 ⟨some 121, .bin .gtr (.t 120) (.c (.int .i64 64)), none⟩])
 (.cond (.t 121)
 (.seq (.ops false [
 ⟨some 6, .mov (.c (.vec (some 8) [])), none⟩,
 ⟨some 7, .mov (.c (.bool false)), none⟩])
 (.ret))
 (.skip)))
 (.ops false [
 ⟨some 122, .mov (.t 13), none⟩,
 ⟨some 11, .mov (.t 122), none⟩])))))
 (.ops false [
 ⟨some 92, .mov (.t 12), none⟩,
 ⟨some 93, .bin .add (.t 92) (.c (.int .i64 1)), none⟩,
 ⟨some 12, .mov (.t 93), none⟩])))

def b75_2 : ACode :=
 (.seq (.seq (.ops false [
 ⟨some 124, .mov (.t 18), none⟩,
 ⟨some 125, .faddr 3 (.t 3), none⟩,
 ⟨some 126, .ldI none (.t 125), none⟩,
 ⟨some 127, .len (.t 126), none⟩,
 ⟨some 128, .bin .lss (.t 124) (.t 127), none⟩])
 (.cond (.t 128)
 (.skip)
 (.exit 5)))
 (.seq (.block 6 (.seq (.ops true [
 ⟨some 132, .faddr 3 (.t 3), none⟩,
 ⟨some 133, .ldI none (.t 132), none⟩,
 ⟨some 134, .mov (.t 18), none⟩,
 ⟨some 135, .iaddr (some 4) (.t 133) (.t 134), none⟩,
 ⟨some 136, .load (some 4) (.t 135), none⟩,
 ⟨some 137, .mov (.t 1), none⟩,
 ⟨some 138, .ldI (some 8) (.t 5), none⟩,
 ⟨some 139, .call false 75 [(.t 136), (.t 137), (.t 138)], none⟩,
 ⟨some 131, .mov (.t 139), none⟩,
 ⟨some 140, .extract (.t 131) 0, none⟩,
 ⟨some 141, .extract (.t 131) 1, none⟩,
 ⟨some 19, .mov (.t 140), none⟩,
 ⟨some 20, .mov (.t 141), none⟩])
 (.seq (.seq (.ops false [
 ⟨some 142, .mov (.t 20), none⟩,
 ⟨some 143, .un .not (.t 142), none⟩])
 (.cond (.t 143)
 (.seq (.ops false [
 ⟨some 6, .mov (.c (.vec (some 8) [])), none⟩,
 ⟨some 7, .mov (.c (.bool false)), none⟩])
 (.ret))
 (.skip)))
 (.seq (.ops false [
 ⟨some 144, .mov (.t 17), none⟩,
 ⟨some 145, .mov (.t 19), none⟩,
 ⟨some 146, .call false 91 [(.t 144), (.t 145)], none⟩,
 ⟨some 17, .mov (.t 146), none⟩])
 (.seq (.ops false [
 ⟨some 147, .mov (.t 17), none⟩,
 ⟨some 148, .len (.t 147), none⟩,
 ⟨some 149, .bin .gtr (.t 148) (.c (.int .i64 64)), none⟩])
 (.cond (.t 149)
 (.seq (.ops false [
 ⟨some 6, .mov (.c (.vec (some 8) [])), none⟩,
 ⟨some 7, .mov (.c (.bool false)), none⟩])
 (.ret))
 (.skip)))))))
 (.ops false [
 ⟨some 129, .mov (.t 18), none⟩,
 ⟨some 130, .bin .add (.t 129) (.c (.int .i64 1)), none⟩,
 ⟨some 18, .mov (.t 130), none⟩])))

/-- pointsman/pointsmanref07.run -/
def a75 : AFn := .mk 151
 (.seq (.ops false [
 ⟨some 3, .box (some 4) (.t 0) true, none⟩,
 ⟨some 5, .box (some 8) (.t 2) true, none⟩,
 ⟨some 6, .mov (.c (.vec (some 8) [])), none⟩,
 ⟨some 7, .mov (.c (.bool false)), none⟩])
 (.seq (.ops false [
 ⟨some 21, .ldI (some 8) (.t 5), none⟩,
 ⟨some 22, .bsliceI (some 8) [(.t 21)], none⟩,
 ⟨some 8, .mov (.t 22), none⟩])
 (.seq (.seq (.ops false [
 ⟨some 23, .faddr 0 (.t 3), none⟩,
 ⟨some 24, .ldI none (.t 23), none⟩])
 (.block 0 (.seq (.ops false [
 ⟨some 26, .bin .eql (.t 24) (.c (.int .i64 0)), none⟩,
 ⟨some 25, .mov (.t 26), none⟩])
 (.cond (.t 25)
 (.seq (.ops false [
 ⟨some 6, .mov (.c (.vec (some 8) [])), none⟩,
 ⟨some 7, .mov (.c (.bool true)), none⟩])
 (.ret))
 (.seq (.ops false [
 ⟨some 28, .bin .eql (.t 24) (.c (.int .i64 1)), none⟩,
 ⟨some 27, .mov (.t 28), none⟩])
 (.cond (.t 27)
 (.seq (.ops false [
 ⟨some 29, .mov (.t 8), none⟩,
 ⟨some 6, .mov (.t 29), none⟩,
 ⟨some 7, .mov (.c (.bool true)), none⟩])
 (.ret))
 (.seq (.ops false [
 ⟨some 31, .bin .eql (.t 24) (.c (.int .i64 2)), none⟩,
 ⟨some 30, .mov (.t 31), none⟩])
 (.cond (.t 30)
 (.seq (.seq (.ops true [
 ⟨some 32, .faddr 1 (.t 3), none⟩,
 ⟨some 33, .ldI none (.t 32), none⟩,
 ⟨some 34, .iaddrA 8 none (.t 5) (.t 33), none⟩,
 ⟨some 35, .ldI none (.t 34), none⟩,
 ⟨some 36, .faddr 2 (.t 3), none⟩,
 ⟨some 37, .ldI none (.t 36), none⟩,
 ⟨some 38, .bin .eql (.t 35) (.t 37), none⟩])
 (.cond (.t 38)
 (.seq (.ops false [
 ⟨some 39, .mov (.t 8), none⟩,
 ⟨some 6, .mov (.t 39), none⟩,
 ⟨some 7, .mov (.c (.bool true)), none⟩])
 (.ret))
 (.skip)))
 (.seq (.ops false [
 ⟨some 6, .mov (.c (.vec (some 8) [])), none⟩,
 ⟨some 7, .mov (.c (.bool true)), none⟩])
 (.ret)))
 (.seq (.ops false [
 ⟨some 41, .bin .eql (.t 24) (.c (.int .i64 3)), none⟩,
 ⟨some 40, .mov (.t 41), none⟩])
 (.cond (.t 40)
 (.seq (.seq (.ops true [
 ⟨some 42, .faddr 1 (.t 3), none⟩,
 ⟨some 43, .ldI none (.t 42), none⟩,
 ⟨some 44, .mov (.t 1), none⟩,
 ⟨some 45, .len (.t 44), none⟩,
 ⟨some 46, .bin .lss (.t 43) (.t 45), none⟩,
 ⟨some 47, .mov (.t 46), none⟩,
 ⟨some 48, .mov (.t 1), some (47, true)⟩,
 ⟨some 49, .faddr 1 (.t 3), some (47, true)⟩,
 ⟨some 50, .ldI none (.t 49), some (47, true)⟩,
 ⟨some 51, .iaddr none (.t 48) (.t 50), some (47, true)⟩,
 ⟨some 52, .load none (.t 51), some (47, true)⟩,
 ⟨some 53, .faddr 2 (.t 3), some (47, true)⟩,
 ⟨some 54, .ldI none (.t 53), some (47, true)⟩,
 ⟨some 55, .bin .eql (.t 52) (.t 54), some (47, true)⟩,
 ⟨some 56, .pick (.t 47) (.t 55) (.c (.bool false)), none⟩])
 (.cond (.t 56)
 (.seq (.ops false [
 ⟨some 57, .mov (.t 8), none⟩,
 ⟨some 6, .mov (.t 57), none⟩,
 ⟨some 7, .mov (.c (.bool true)), none⟩])
 (.ret))
 (.skip)))
 (.seq (.ops false [
 ⟨some 6, .mov (.c (.vec (some 8) [])), none⟩,
 ⟨some 7, .mov (.c (.bool true)), none⟩])
 (.ret)))
 (.seq (.ops false [
 ⟨some 59, .bin .eql (.t 24) (.c (.int .i64 4)), none⟩,
 ⟨some 58, .mov (.t 59), none⟩])
 (.cond (.t 58)
 (.seq (.ops true [
 ⟨some 61, .faddr 3 (.t 3), none⟩,
 ⟨some 62, .ldI none (.t 61), none⟩,
 ⟨some 63, .iaddr (some 4) (.t 62) (.c (.int .i64 0)), none⟩,
 ⟨some 64, .load (some 4) (.t 63), none⟩,
 ⟨some 65, .mov (.t 1), none⟩,
 ⟨some 66, .ldI (some 8) (.t 5), none⟩,
 ⟨some 67, .call false 75 [(.t 64), (.t 65), (.t 66)], none⟩,
 ⟨some 60, .mov (.t 67), none⟩,
 ⟨some 68, .extract (.t 60) 0, none⟩,
 ⟨some 69, .extract (.t 60) 1, none⟩,
 ⟨some 9, .mov (.t 68), none⟩,
 ⟨some 10, .mov (.t 69), none⟩])
 (.seq (.seq (.ops false [
 ⟨some 70, .mov (.t 9), none⟩,
 ⟨some 71, .len (.t 70), none⟩,
 ⟨some 72, .bin .gtr (.t 71) (.c (.int .i64 0)), none⟩])
 (.cond (.t 72)
 (.ops false [
 ⟨some 8, .mov (.c (.vec (some 8) [])), none⟩])
 (.skip)))
 (.seq (.ops false [
 ⟨some 73, .mov (.t 8), none⟩,
 ⟨some 74, .mov (.t 10), none⟩,
 ⟨some 6, .mov (.t 73), none⟩,
 ⟨some 7, .mov (.t 74), none⟩])
 (.ret))))
 (.seq (.ops false [
 ⟨some 76, .bin .eql (.t 24) (.c (.int .i64 5)), none⟩,
 ⟨some 75, .mov (.t 76), none⟩])
 (.cond (.t 75)
 (.seq (.ops false [
 ⟨some 77, .ldI (some 8) (.t 5), none⟩,
 ⟨some 78, .faddr 1 (.t 3), none⟩,
 ⟨some 79, .ldI none (.t 78), none⟩,
 ⟨some 80, .faddr 2 (.t 3), none⟩,
 ⟨some 81, .ldI none (.t 80), none⟩,
 ⟨some 82, .call false 90 [(.t 77), (.t 79), (.t 81)], none⟩,
 ⟨some 83, .bsliceI (some 8) [(.t 82)], none⟩,
 ⟨some 6, .mov (.t 83), none⟩,
 ⟨some 7, .mov (.c (.bool true)), none⟩])
 (.ret))
 (.seq (.ops false [
 ⟨some 85, .bin .eql (.t 24) (.c (.int .i64 6)), none⟩,
 ⟨some 84, .mov (.t 85), none⟩])
 (.cond (.t 84)
 (.seq (.ops false [
 ⟨some 86, .mov (.t 8), none⟩,
 ⟨some 11, .mov (.t 86), none⟩])
 (.seq (.seq (.ops false [
 ⟨some 12, .mov (.c (.int .i64 0)), none⟩])
 (.block 1 (.loop b75_0)))
 (.seq (.ops false [
 ⟨some 123, .mov (.t 11), none⟩,
 ⟨some 6, .mov (.t 123), none⟩,
 ⟨some 7, .mov (.c (.bool true)), none⟩])
 (.ret))))
 (.skip)))))))))))))))))
 (.seq (.ops false [
 ⟨some 17, .mov (.c (.vec (some 8) [])), none⟩])
 (.seq (.seq (.ops false [
 ⟨some 18, .mov (.c (.int .i64 0)), none⟩])
 (.block 5 (.loop b75_2)))
 (.seq (.ops false [
 ⟨some 150, .mov (.t 17), none⟩,
 ⟨some 6, .mov (.t 150), none⟩,
 ⟨some 7, .mov (.c (.bool true)), none⟩])
 (.ret)))))))
 [.t 6, .t 7]

set_option maxRecDepth 100000 in
theorem ok75 : chkFn Try.prog 75 a75 = true := by kernel_rfl

/-- pointsman/pointsmanref07.Make -/
def a37 : AFn := .mk 23
 (.seq (.ops false [
 ⟨some 3, .box (some 4) (.t 0) true, none⟩,
 ⟨some 5, .box (some 8) (.t 2) true, none⟩,
 ⟨some 6, .mov (.c (.vec (some 8) [])), none⟩,
 ⟨some 7, .mov (.c (.int .i64 0)), none⟩])
 (.seq (.seq (.ops false [
 ⟨some 10, .ldI (some 4) (.t 3), none⟩,
 ⟨some 11, .call false 40 [(.t 10)], none⟩,
 ⟨some 12, .un .not (.t 11), none⟩])
 (.cond (.t 12)
 (.seq (.ops false [
 ⟨some 6, .mov (.c (.vec (some 8) [])), none⟩,
 ⟨some 7, .mov (.c (.int .i64 11)), none⟩])
 (.ret))
 (.skip)))
 (.seq (.ops false [
 ⟨some 14, .ldI (some 4) (.t 3), none⟩,
 ⟨some 15, .mov (.t 1), none⟩,
 ⟨some 16, .ldI (some 8) (.t 5), none⟩,
 ⟨some 17, .call false 75 [(.t 14), (.t 15), (.t 16)], none⟩,
 ⟨some 13, .mov (.t 17), none⟩,
 ⟨some 18, .extract (.t 13) 0, none⟩,
 ⟨some 19, .extract (.t 13) 1, none⟩,
 ⟨some 8, .mov (.t 18), none⟩,
 ⟨some 9, .mov (.t 19), none⟩])
 (.seq (.seq (.ops false [
 ⟨some 20, .mov (.t 9), none⟩,
 ⟨some 21, .un .not (.t 20), none⟩])
 (.cond (.t 21)
 (.seq (.ops false [
 ⟨some 6, .mov (.c (.vec (some 8) [])), none⟩,
 ⟨some 7, .mov (.c (.int .i64 24)), none⟩])
 (.ret))
 (.skip)))
 (.seq (.ops false [
 ⟨some 22, .mov (.t 8), none⟩,
 ⟨some 6, .mov (.t 22), none⟩,
 ⟨some 7, .mov (.c (.int .i64 0)), none⟩])
 (.ret))))))
 [.t 6, .t 7]

set_option maxRecDepth 100000 in
theorem ok37 : chkFn Try.prog 37 a37 = true := by kernel_rfl

def b39_0 : ACode :=
 (.seq (.seq (.ops false [
 ⟨some 11, .mov (.t 5), none⟩,
 ⟨some 12, .mov (.t 0), none⟩,
 ⟨some 13, .len (.t 12), none⟩,
 ⟨some 14, .bin .lss (.t 11) (.t 13), none⟩])
 (.cond (.t 14)
 (.skip)
 (.exit 0)))
 (.seq (.block 1 (.seq (.ops true [
 ⟨some 17, .mov (.t 0), none⟩,
 ⟨some 18, .mov (.t 5), none⟩,
 ⟨some 19, .iaddr (some 8) (.t 17) (.t 18), none⟩,
 ⟨some 20, .load (some 8) (.t 19), none⟩,
 ⟨some 21, .mov (.t 1), none⟩,
 ⟨some 22, .mov (.t 5), none⟩,
 ⟨some 23, .iaddr (some 8) (.t 21) (.t 22), none⟩,
 ⟨some 24, .load (some 8) (.t 23), none⟩,
 ⟨some 25, .eqS true [.int, .int, .int, .int, .int, .int, .int, .int] (.t 20) (.t 24), none⟩])
 (.cond (.t 25)
 (.seq (.ops false [
 ⟨some 4, .mov (.c (.bool false)), none⟩])
 (.ret))
 (.skip))))
 (.ops false [
 ⟨some 15, .mov (.t 5), none⟩,
 ⟨some 16, .bin .add (.t 15) (.c (.int .i64 1)), none⟩,
 ⟨some 5, .mov (.t 16), none⟩])))

/-- pointsman/pointsmanref01.Same -/
def a39 : AFn := .mk 26
 (.seq (.ops false [
 ⟨some 4, .mov (.c (.bool false)), none⟩])
 (.seq (.seq (.ops false [
 ⟨some 6, .mov (.t 0), none⟩,
 ⟨some 7, .len (.t 6), none⟩,
 ⟨some 8, .mov (.t 1), none⟩,
 ⟨some 9, .len (.t 8), none⟩,
 ⟨some 10, .bin .neq (.t 7) (.t 9), none⟩])
 (.cond (.t 10)
 (.seq (.ops false [
 ⟨some 4, .mov (.c (.bool false)), none⟩])
 (.ret))
 (.skip)))
 (.seq (.seq (.ops false [
 ⟨some 5, .mov (.c (.int .i64 0)), none⟩])
 (.block 0 (.loop b39_0)))
 (.seq (.ops false [
 ⟨some 4, .mov (.c (.bool true)), none⟩])
 (.ret)))))
 [.t 4]

set_option maxRecDepth 100000 in
theorem ok39 : chkFn Try.prog 39 a39 = true := by kernel_rfl

/-- pointsman/pointsmanlaw28.TrimKeeps -/
def a9 : AFn := .mk 56
 (.seq (.ops false [
 ⟨some 5, .box (some 8) (.t 2) true, none⟩,
 ⟨some 6, .mov (.c (.bool false)), none⟩])
 (.seq (.seq (.ops false [
 ⟨some 13, .call false 35 [], none⟩,
 ⟨some 14, .un .not (.t 13), none⟩])
 (.cond (.t 14)
 (.seq (.ops false [
 ⟨some 6, .mov (.c (.bool false)), none⟩])
 (.ret))
 (.skip)))
 (.seq (.ops false [
 ⟨some 16, .mov (.t 0), none⟩,
 ⟨some 17, .call false 36 [(.t 16)], none⟩,
 ⟨some 15, .mov (.t 17), none⟩,
 ⟨some 18, .extract (.t 15) 0, none⟩,
 ⟨some 19, .extract (.t 15) 1, none⟩,
 ⟨some 7, .alloc [.int .i64 0, .int .i64 0, .int .u16 0, .vec (some 4) []], none⟩,
 ⟨none, .store (some 4) (.t 7) (.t 18), none⟩,
 ⟨some 8, .mov (.t 19), none⟩])
 (.seq (.seq (.ops false [
 ⟨some 20, .mov (.t 8), none⟩,
 ⟨some 21, .un .not (.t 20), none⟩,
 ⟨some 22, .mov (.t 21), none⟩,
 ⟨some 23, .mov (.t 1), some (22, false)⟩,
 ⟨some 24, .len (.t 23), some (22, false)⟩,
 ⟨some 25, .bin .gtr (.t 24) (.c (.int .i64 6)), some (22, false)⟩,
 ⟨some 26, .pick (.t 22) (.c (.bool true)) (.t 25), none⟩])
 (.cond (.t 26)
 (.seq (.ops false [
 ⟨some 6, .mov (.c (.bool true)), none⟩])
 (.ret))
 (.skip)))
 (.seq (.ops false [
 ⟨some 28, .load (some 4) (.t 7), none⟩,
 ⟨some 29, .mov (.t 1), none⟩,
 ⟨some 30, .ldI (some 8) (.t 5), none⟩,
 ⟨some 31, .call false 37 [(.t 28), (.t 29), (.t 30)], none⟩,
 ⟨some 27, .mov (.t 31), none⟩,
 ⟨some 32, .extract (.t 27) 0, none⟩,
 ⟨some 33, .extract (.t 27) 1, none⟩,
 ⟨some 9, .mov (.t 32), none⟩,
 ⟨some 10, .mov (.t 33), none⟩])
 (.seq (.ops true [
 ⟨some 35, .load (some 4) (.t 7), none⟩,
 ⟨some 36, .call false 38 [(.t 35)], none⟩,
 ⟨some 37, .mov (.t 1), none⟩,
 ⟨some 38, .ldI (some 8) (.t 5), none⟩,
 ⟨some 39, .call false 37 [(.t 36), (.t 37), (.t 38)], none⟩,
 ⟨some 34, .mov (.t 39), none⟩,
 ⟨some 40, .extract (.t 34) 0, none⟩,
 ⟨some 41, .extract (.t 34) 1, none⟩,
 ⟨some 11, .mov (.t 40), none⟩,
 ⟨some 12, .mov (.t 41), none⟩])
 (.seq (.seq (.ops false [
 ⟨some 42, .mov (.t 10), none⟩,
 ⟨some 43, .bin .eql (.t 42) (.c (.int .i64 24)), none⟩,
 ⟨some 44, .mov (.t 43), none⟩,
 ⟨some 45, .mov (.t 12), some (44, false)⟩,
 ⟨some 46, .bin .eql (.t 45) (.c (.int .i64 24)), some (44, false)⟩,
 ⟨some 47, .pick (.t 44) (.c (.bool true)) (.t 46), none⟩])
 (.cond (.t 47)
 (.seq (.ops false [
 ⟨some 6, .mov (.c (.bool true)), none⟩])
 (.ret))
 (.skip)))
 (.seq (.ops false [
 ⟨some 48, .mov (.t 10), none⟩,
 ⟨some 49, .mov (.t 12), none⟩,
 ⟨some 50, .bin .eql (.t 48) (.t 49), none⟩,
 ⟨some 51, .mov (.t 50), none⟩,
 ⟨some 52, .mov (.t 9), some (51, true)⟩,
 ⟨some 53, .mov (.t 11), some (51, true)⟩,
 ⟨some 54, .call false 39 [(.t 52), (.t 53)], some (51, true)⟩,
 ⟨some 55, .pick (.t 51) (.t 54) (.c (.bool false)), none⟩,
 ⟨some 6, .mov (.t 55), none⟩])
 (.ret)))))))))
 [.t 6]

set_option maxRecDepth 100000 in
theorem ok9 : chkFn Try.prog 9 a9 = true := by kernel_rfl

@[reducible] def vl0 (x : List api_Pol) : V := .d (eL (some 4) eapi_Pol x)
@[reducible] def vl1 (x : List api_Pair) : V := .d (eL (some 2) eapi_Pair x)
@[reducible] def vl2 (x : List Int) : V := .d (eL none (D.int .u16) x)
@[reducible] def vl3 (x : List law05_Step) : V := .d (eL (some 4) elaw05_Step x)
@[reducible] def vl4 (x : List api_Rule) : V := .d (eL (some 3) eapi_Rule x)

end Go.AM
