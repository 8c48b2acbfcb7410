import Derived.Test.YtfjelgjfbjjopaaAmN8
import Derived.Test.YtfjelgjfbjjopaaMfL
import Derived.Test.YtfjelgjfbjjopaaAmW
import Derived.Test.YtfjelgjfbjjopaaMfT
import Derived.Test.YtfjelgjfbjjopaaProg
/-  What they are in the program: data and code. -/
set_option linter.unusedVariables false
set_option linter.unusedSimpArgs false
namespace Go.AM
open Go Go.RowKit Go.Proofs

def eapi_Pair (x : api_Pair) : D := .agg ((D.int .i64) x.F :: ((D.int .u16) x.N :: []))

def eapi_Row (x : api_Row) : D := .agg ((eL (some 2) eapi_Pair) x.Match :: ((eL none (eL (some 2) eapi_Pair)) x.Acts :: []))

def eapi_Table (x : api_Table) : D := .agg ((eL none (D.int .i64)) x.Which :: ((eL none (eL (some 2) eapi_Row)) x.Lists :: []))

theorem eqS_api_Pair (x y : api_Pair) : eqSV [.int, .int] (.d (eapi_Pair x)) (.d (eapi_Pair y)) = some (x == y) := by
  refine (eqSV_agg rfl rfl (eqT_cons rfl (eqT_cons rfl rfl))).trans (congrArg some ?_)
  rw [Bool.eq_iff_iff]
  obtain ⟨x0, x1⟩ := x
  obtain ⟨y0, y1⟩ := y
  simp [ba_toList_inj, and_assoc]

theorem eqS_A8_Int (x y : (A8 Int)) : eqSV [.int, .int, .int, .int, .int, .int, .int, .int] (.d (eA8 (D.int .u16) x)) (.d (eA8 (D.int .u16) y)) = some (x == y) := by
  refine (eqSV_agg rfl rfl (eqT_cons rfl (eqT_cons rfl (eqT_cons rfl (eqT_cons rfl (eqT_cons rfl (eqT_cons rfl (eqT_cons rfl (eqT_cons rfl rfl))))))))).trans (congrArg some ?_)
  rw [Bool.eq_iff_iff]
  obtain ⟨x0, x1, x2, x3, x4, x5, x6, x7⟩ := x
  obtain ⟨y0, y1, y2, y3, y4, y5, y6, y7⟩ := y
  simp [ba_toList_inj, and_assoc]

def b86_0 : ACode :=
 (.seq (.ops false [
 oo 18 (.bin .lss (.t 17) (.t 16))])
 (.seq (.cond (.t 18)
 (.skip)
 (.exit 0))
 (.seq (.block 1 (.seq (.ops false [
 oo 19 (.mov (.t 17)),
 oo 20 (.iaddr (some 2) (.t 15) (.t 17)),
 oo 21 (.load (some 2) (.t 20)),
 oo 8 (.alloc [.vec (some 2) [], .vec none []]),
 oo 7 (.mov (.t 19)),
 ⟨none, .store (some 2) (.t 8) (.t 21), none⟩])
 (.seq (.ops false [
 oo 22 (.mov (.t 1)),
 oo 23 (.mov (.t 7)),
 oo 24 (.iaddr (some 2) (.t 22) (.t 23)),
 oo 25 (.load (some 2) (.t 24)),
 oo 9 (.alloc [.vec (some 2) [], .vec none []]),
 ⟨none, .store (some 2) (.t 9) (.t 25), none⟩])
 (.seq (.ops false [
 oo 26 (.mov (.t 2)),
 oo 27 (.load (some 2) (.t 8)),
 oo 28 (.load (some 2) (.t 9)),
 oo 29 (.callv false (.t 26) [(.t 27), (.t 28)]),
 oo 30 (.un .not (.t 29))])
 (.cond (.t 30)
 (.seq (.ops false [
 oo 6 (.mov (.c (.bool false)))])
 (.ret))
 (.skip))))))
 (.ops false [
 oo 31 (.bin .add (.t 17) (ci 1)),
 oo 17 (.mov (.t 31))]))))

/-- slices.EqualFunc[[]pointsman/api.Row,[]pointsman/api.Row,pointsman/api.Row,pointsman/api.Row] -/
def a86 : AFn := .mk 32
 (.seq (.ops false [
 oo 6 (.mov (.c (.bool false)))])
 (.seq (.seq (.ops false [
 oo 10 (.mov (.t 0)),
 oo 11 (.len (.t 10)),
 oo 12 (.mov (.t 1)),
 oo 13 (.len (.t 12)),
 oo 14 (.bin .neq (.t 11) (.t 13))])
 (.cond (.t 14)
 (.seq (.ops false [
 oo 6 (.mov (.c (.bool false)))])
 (.ret))
 (.skip)))
 (.seq (.seq (.ops false [
 oo 15 (.mov (.t 0)),
 oo 16 (.len (.t 15)),
 oo 17 (.mov (ci 0))])
 (.block 0 (.loop b86_0)))
 (.seq (.ops false [
 oo 6 (.mov (.c (.bool true)))])
 (.ret)))))
 [.t 6]

set_option maxRecDepth 100000 in
theorem ok86 : chkFn Try.prog 86 a86 = true := by kernel_rfl

def b76_0 : ACode :=
 (.seq (.ops false [
 oo 14 (.bin .lss (.t 13) (.t 12))])
 (.seq (.cond (.t 14)
 (.skip)
 (.exit 0))
 (.seq (.block 1 (.seq (.ops false [
 oo 15 (.mov (.t 13)),
 oo 5 (.mov (.t 15))])
 (.seq (.ops true [
 oo 16 (.mov (.t 0)),
 oo 17 (.mov (.t 5)),
 oo 18 (.iaddr (some 2) (.t 16) (.t 17)),
 oo 19 (.load (some 2) (.t 18)),
 oo 20 (.mov (.t 1)),
 oo 21 (.mov (.t 5)),
 oo 22 (.iaddr (some 2) (.t 20) (.t 21)),
 oo 23 (.load (some 2) (.t 22)),
 oo 24 (.eqS true [.int, .int] (.t 19) (.t 23))])
 (.cond (.t 24)
 (.seq (.ops false [
 oo 4 (.mov (.c (.bool false)))])
 (.ret))
 (.skip)))))
 (.ops false [
 oo 25 (.bin .add (.t 13) (ci 1)),
 oo 13 (.mov (.t 25))]))))

/-- slices.Equal[[]pointsman/api.Pair,pointsman/api.Pair] -/
def a76 : AFn := .mk 26
 (.seq (.ops false [
 oo 4 (.mov (.c (.bool false)))])
 (.seq (.seq (.ops false [
 oo 6 (.mov (.t 0)),
 oo 7 (.len (.t 6)),
 oo 8 (.mov (.t 1)),
 oo 9 (.len (.t 8)),
 oo 10 (.bin .neq (.t 7) (.t 9))])
 (.cond (.t 10)
 (.seq (.ops false [
 oo 4 (.mov (.c (.bool false)))])
 (.ret))
 (.skip)))
 (.seq (.seq (.ops false [
 oo 11 (.mov (.t 0)),
 oo 12 (.len (.t 11)),
 oo 13 (.mov (ci 0))])
 (.block 0 (.loop b76_0)))
 (.seq (.ops false [
 oo 4 (.mov (.c (.bool true)))])
 (.ret)))))
 [.t 4]

set_option maxRecDepth 100000 in
theorem ok76 : chkFn Try.prog 76 a76 = true := by kernel_rfl

def b77_0 : ACode :=
 (.seq (.ops false [
 oo 18 (.bin .lss (.t 17) (.t 16))])
 (.seq (.cond (.t 18)
 (.skip)
 (.exit 0))
 (.seq (.block 1 (.seq (.ops false [
 oo 19 (.mov (.t 17)),
 oo 20 (.iaddr none (.t 15) (.t 17)),
 oo 21 (.load none (.t 20)),
 oo 7 (.mov (.t 19)),
 oo 8 (.mov (.t 21))])
 (.seq (.ops false [
 oo 22 (.mov (.t 1)),
 oo 23 (.mov (.t 7)),
 oo 24 (.iaddr none (.t 22) (.t 23)),
 oo 25 (.load none (.t 24)),
 oo 9 (.mov (.t 25))])
 (.seq (.ops false [
 oo 26 (.mov (.t 2)),
 oo 27 (.mov (.t 8)),
 oo 28 (.mov (.t 9)),
 oo 29 (.callv false (.t 26) [(.t 27), (.t 28)]),
 oo 30 (.un .not (.t 29))])
 (.cond (.t 30)
 (.seq (.ops false [
 oo 6 (.mov (.c (.bool false)))])
 (.ret))
 (.skip))))))
 (.ops false [
 oo 31 (.bin .add (.t 17) (ci 1)),
 oo 17 (.mov (.t 31))]))))

/-- slices.EqualFunc[[]pointsman/api.Act,[]pointsman/api.Act,pointsman/api.Act,pointsman/api.Act] -/
def a77 : AFn := .mk 32
 (.seq (.ops false [
 oo 6 (.mov (.c (.bool false)))])
 (.seq (.seq (.ops false [
 oo 10 (.mov (.t 0)),
 oo 11 (.len (.t 10)),
 oo 12 (.mov (.t 1)),
 oo 13 (.len (.t 12)),
 oo 14 (.bin .neq (.t 11) (.t 13))])
 (.cond (.t 14)
 (.seq (.ops false [
 oo 6 (.mov (.c (.bool false)))])
 (.ret))
 (.skip)))
 (.seq (.seq (.ops false [
 oo 15 (.mov (.t 0)),
 oo 16 (.len (.t 15)),
 oo 17 (.mov (ci 0))])
 (.block 0 (.loop b77_0)))
 (.seq (.ops false [
 oo 6 (.mov (.c (.bool true)))])
 (.ret)))))
 [.t 6]

set_option maxRecDepth 100000 in
theorem ok77 : chkFn Try.prog 77 a77 = true := by kernel_rfl

def b78_0 : ACode :=
 (.seq (.ops false [
 oo 14 (.bin .lss (.t 13) (.t 12))])
 (.seq (.cond (.t 14)
 (.skip)
 (.exit 0))
 (.seq (.block 1 (.seq (.ops false [
 oo 15 (.mov (.t 13)),
 oo 5 (.mov (.t 15))])
 (.seq (.ops true [
 oo 16 (.mov (.t 0)),
 oo 17 (.mov (.t 5)),
 oo 18 (.iaddr (some 2) (.t 16) (.t 17)),
 oo 19 (.load (some 2) (.t 18)),
 oo 20 (.mov (.t 1)),
 oo 21 (.mov (.t 5)),
 oo 22 (.iaddr (some 2) (.t 20) (.t 21)),
 oo 23 (.load (some 2) (.t 22)),
 oo 24 (.eqS true [.int, .int] (.t 19) (.t 23))])
 (.cond (.t 24)
 (.seq (.ops false [
 oo 4 (.mov (.c (.bool false)))])
 (.ret))
 (.skip)))))
 (.ops false [
 oo 25 (.bin .add (.t 13) (ci 1)),
 oo 13 (.mov (.t 25))]))))

/-- slices.Equal[pointsman/api.Act,pointsman/api.Pair] -/
def a78 : AFn := .mk 26
 (.seq (.ops false [
 oo 4 (.mov (.c (.bool false)))])
 (.seq (.seq (.ops false [
 oo 6 (.mov (.t 0)),
 oo 7 (.len (.t 6)),
 oo 8 (.mov (.t 1)),
 oo 9 (.len (.t 8)),
 oo 10 (.bin .neq (.t 7) (.t 9))])
 (.cond (.t 10)
 (.seq (.ops false [
 oo 4 (.mov (.c (.bool false)))])
 (.ret))
 (.skip)))
 (.seq (.seq (.ops false [
 oo 11 (.mov (.t 0)),
 oo 12 (.len (.t 11)),
 oo 13 (.mov (ci 0))])
 (.block 0 (.loop b78_0)))
 (.seq (.ops false [
 oo 4 (.mov (.c (.bool true)))])
 (.ret)))))
 [.t 4]

set_option maxRecDepth 100000 in
theorem ok78 : chkFn Try.prog 78 a78 = true := by kernel_rfl

/-- pointsman/table.Same$1 -/
def a87 : AFn := .mk 17
 (.seq (.ops false [
 oo 2 (.box (some 2) (.t 0) true),
 oo 3 (.box (some 2) (.t 1) true),
 oo 4 (.mov (.c (.bool false)))])
 (.seq (.ops false [
 oo 5 (.faddr 0 (.t 2)),
 oo 6 (.ldI none (.t 5)),
 oo 7 (.faddr 0 (.t 3)),
 oo 8 (.ldI none (.t 7)),
 oo 9 (.call false 76 [(.t 6), (.t 8)]),
 oo 10 (.mov (.t 9)),
 ⟨some 11, .faddr 1 (.t 2), some (10, true)⟩,
 ⟨some 12, .ldI none (.t 11), some (10, true)⟩,
 ⟨some 13, .faddr 1 (.t 3), some (10, true)⟩,
 ⟨some 14, .ldI none (.t 13), some (10, true)⟩,
 ⟨some 15, .call false 77 [(.t 12), (.t 14), (.c (.func 78 []))], some (10, true)⟩,
 oo 16 (.pick (.t 10) (.t 15) (.c (.bool false))),
 oo 4 (.mov (.t 16))])
 (.ret)))
 [.t 4]

set_option maxRecDepth 100000 in
theorem ok87 : chkFn Try.prog 87 a87 = true := by kernel_rfl

/-- pointsman/table.Same -/
def a67 : AFn := .mk 8
 (.seq (.ops false [
 oo 4 (.mov (.c (.bool false)))])
 (.seq (.ops false [
 oo 5 (.mov (.t 0)),
 oo 6 (.mov (.t 1)),
 oo 7 (.call false 86 [(.t 5), (.t 6), (.c (.func 87 []))]),
 oo 4 (.mov (.t 7))])
 (.ret)))
 [.t 4]

set_option maxRecDepth 100000 in
theorem ok67 : chkFn Try.prog 67 a67 = true := by kernel_rfl

/-- pointsman/merge.Of$1 -/
def a66 : AFn := .mk 7
 (.seq (.ops false [
 oo 3 (.mov (.c (.bool false)))])
 (.seq (.ops false [
 oo 4 (.load none (.t 1)),
 oo 5 (.mov (.t 0)),
 oo 6 (.call false 67 [(.t 4), (.t 5)]),
 oo 3 (.mov (.t 6))])
 (.ret)))
 [.t 3]

set_option maxRecDepth 100000 in
theorem ok66 : chkFn Try.prog 66 a66 = true := by kernel_rfl

def b65_0 : ACode :=
 (.seq (.ops false [
 oo 9 (.bin .lss (.t 8) (.t 7))])
 (.seq (.cond (.t 9)
 (.skip)
 (.exit 0))
 (.seq (.block 1 (.seq (.ops false [
 oo 10 (.mov (.t 8)),
 oo 5 (.mov (.t 10))])
 (.seq (.ops false [
 oo 11 (.mov (.t 1)),
 oo 12 (.mov (.t 0)),
 oo 13 (.mov (.t 5)),
 oo 14 (.iaddr none (.t 12) (.t 13)),
 oo 15 (.load none (.t 14)),
 oo 16 (.callv false (.t 11) [(.t 15)])])
 (.cond (.t 16)
 (.seq (.ops false [
 oo 17 (.mov (.t 5)),
 oo 4 (.mov (.t 17))])
 (.ret))
 (.skip)))))
 (.ops false [
 oo 18 (.bin .add (.t 8) (ci 1)),
 oo 8 (.mov (.t 18))]))))

/-- slices.IndexFunc[[][]pointsman/api.Row,[]pointsman/api.Row] -/
def a65 : AFn := .mk 19
 (.seq (.ops false [
 oo 4 (.mov (ci 0))])
 (.seq (.seq (.ops false [
 oo 6 (.mov (.t 0)),
 oo 7 (.len (.t 6)),
 oo 8 (.mov (ci 0))])
 (.block 0 (.loop b65_0)))
 (.seq (.ops false [
 oo 4 (.mov (ci (-1)))])
 (.ret))))
 [.t 4]

set_option maxRecDepth 100000 in
theorem ok65 : chkFn Try.prog 65 a65 = true := by kernel_rfl

def b39_0 : ACode :=
 (.seq (.ops false [
 oo 10 (.bin .lss (.t 9) (.t 8))])
 (.seq (.cond (.t 10)
 (.skip)
 (.exit 0))
 (.seq (.block 1 (.seq (.ops false [
 oo 11 (.iaddr none (.t 7) (.t 9)),
 oo 12 (.load none (.t 11)),
 oo 5 (.mov (.t 12))])
 (.ops false [
 oo 13 (.mov (.t 3)),
 oo 14 (.mov (.t 5)),
 oo 15 (.len (.t 14)),
 oo 16 (.bin .add (.t 13) (.t 15)),
 oo 3 (.mov (.t 16))])))
 (.ops false [
 oo 17 (.bin .add (.t 9) (ci 1)),
 oo 9 (.mov (.t 17))]))))

/-- pointsman/merge.Rows -/
def a39 : AFn := .mk 19
 (.seq (.ops false [
 oo 1 (.box (some 2) (.t 0) true),
 oo 2 (.mov (ci 0))])
 (.seq (.ops false [
 oo 3 (.mov (ci 0))])
 (.seq (.seq (.ops false [
 oo 6 (.faddr 1 (.t 1)),
 oo 7 (.ldI none (.t 6)),
 oo 8 (.len (.t 7)),
 oo 9 (.mov (ci 0))])
 (.block 0 (.loop b39_0)))
 (.seq (.ops false [
 oo 18 (.mov (.t 3)),
 oo 2 (.mov (.t 18))])
 (.ret)))))
 [.t 2]

set_option maxRecDepth 100000 in
theorem ok39 : chkFn Try.prog 39 a39 = true := by kernel_rfl

/-- slices.ContainsFunc[[][]pointsman/api.Row,[]pointsman/api.Row] -/
def a68 : AFn := .mk 9
 (.seq (.ops false [
 oo 4 (.mov (.c (.bool false)))])
 (.seq (.ops false [
 oo 5 (.mov (.t 0)),
 oo 6 (.mov (.t 1)),
 oo 7 (.call false 65 [(.t 5), (.t 6)]),
 oo 8 (.bin .geq (.t 7) (ci 0)),
 oo 4 (.mov (.t 8))])
 (.ret)))
 [.t 4]

set_option maxRecDepth 100000 in
theorem ok68 : chkFn Try.prog 68 a68 = true := by kernel_rfl

def b89_0 : ACode :=
 (.seq (.ops false [
 oo 8 (.bin .lss (.t 7) (.t 6))])
 (.seq (.cond (.t 8)
 (.skip)
 (.exit 0))
 (.seq (.block 1 (.seq (.ops false [
 oo 9 (.mov (.t 7)),
 oo 10 (.iaddr (some 2) (.t 5) (.t 7)),
 oo 11 (.load (some 2) (.t 10)),
 oo 4 (.alloc [.int .i64 0, .int .u16 0]),
 oo 3 (.mov (.t 9)),
 ⟨none, .store (some 2) (.t 4) (.t 11), none⟩])
 (.seq (.ops true [
 oo 12 (.faddr 0 (.t 4)),
 oo 13 (.load none (.t 12)),
 oo 14 (.bin .lss (.t 13) (ci 0)),
 oo 15 (.mov (.t 14)),
 ⟨some 16, .faddr 0 (.t 4), some (15, false)⟩,
 ⟨some 17, .load none (.t 16), some (15, false)⟩,
 ⟨some 18, .bin .geq (.t 17) (ci 8), some (15, false)⟩,
 oo 19 (.pick (.t 15) (.c (.bool true)) (.t 18)),
 oo 20 (.mov (.t 19)),
 ⟨some 21, .mov (.t 3), some (20, false)⟩,
 ⟨some 22, .bin .gtr (.t 21) (ci 0), some (20, false)⟩,
 ⟨some 23, .mov (.t 22), some (20, false)⟩,
 ⟨some 24, .mov (.t 0), some (23, true)⟩,
 ⟨some 25, .mov (.t 3), some (23, true)⟩,
 ⟨some 26, .bin .sub (.t 25) (ci 1), some (23, true)⟩,
 ⟨some 27, .iaddr (some 2) (.t 24) (.t 26), some (23, true)⟩,
 ⟨some 28, .faddr 0 (.t 27), some (23, true)⟩,
 ⟨some 29, .load none (.t 28), some (23, true)⟩,
 ⟨some 30, .faddr 0 (.t 4), some (23, true)⟩,
 ⟨some 31, .load none (.t 30), some (23, true)⟩,
 ⟨some 32, .bin .geq (.t 29) (.t 31), some (23, true)⟩,
 ⟨some 33, .pick (.t 23) (.t 32) (.c (.bool false)), some (20, false)⟩,
 oo 34 (.pick (.t 20) (.c (.bool true)) (.t 33))])
 (.cond (.t 34)
 (.seq (.ops false [
 oo 2 (.mov (.c (.bool false)))])
 (.ret))
 (.skip)))))
 (.ops false [
 oo 35 (.bin .add (.t 7) (ci 1)),
 oo 7 (.mov (.t 35))]))))

/-- pointsman/table.rising -/
def a89 : AFn := .mk 36
 (.seq (.ops false [
 oo 2 (.mov (.c (.bool false)))])
 (.seq (.seq (.ops false [
 oo 5 (.mov (.t 0)),
 oo 6 (.len (.t 5)),
 oo 7 (.mov (ci 0))])
 (.block 0 (.loop b89_0)))
 (.seq (.ops false [
 oo 2 (.mov (.c (.bool true)))])
 (.ret))))
 [.t 2]

set_option maxRecDepth 100000 in
theorem ok89 : chkFn Try.prog 89 a89 = true := by kernel_rfl

def b101_0 : ACode :=
 (.seq (.ops false [
 oo 9 (.bin .lss (.t 8) (.t 7))])
 (.seq (.cond (.t 9)
 (.skip)
 (.exit 0))
 (.seq (.block 1 (.seq (.ops false [
 oo 10 (.mov (.t 8)),
 oo 5 (.mov (.t 10))])
 (.seq (.ops false [
 oo 11 (.mov (.t 1)),
 oo 12 (.mov (.t 0)),
 oo 13 (.mov (.t 5)),
 oo 14 (.iaddr none (.t 12) (.t 13)),
 oo 15 (.load none (.t 14)),
 oo 16 (.callv false (.t 11) [(.t 15)])])
 (.cond (.t 16)
 (.seq (.ops false [
 oo 17 (.mov (.t 5)),
 oo 4 (.mov (.t 17))])
 (.ret))
 (.skip)))))
 (.ops false [
 oo 18 (.bin .add (.t 8) (ci 1)),
 oo 8 (.mov (.t 18))]))))

/-- slices.IndexFunc[[]pointsman/api.Act,pointsman/api.Act] -/
def a101 : AFn := .mk 19
 (.seq (.ops false [
 oo 4 (.mov (ci 0))])
 (.seq (.seq (.ops false [
 oo 6 (.mov (.t 0)),
 oo 7 (.len (.t 6)),
 oo 8 (.mov (ci 0))])
 (.block 0 (.loop b101_0)))
 (.seq (.ops false [
 oo 4 (.mov (ci (-1)))])
 (.ret))))
 [.t 4]

set_option maxRecDepth 100000 in
theorem ok101 : chkFn Try.prog 101 a101 = true := by kernel_rfl

/-- slices.ContainsFunc[[]pointsman/api.Act,pointsman/api.Act] -/
def a90 : AFn := .mk 9
 (.seq (.ops false [
 oo 4 (.mov (.c (.bool false)))])
 (.seq (.ops false [
 oo 5 (.mov (.t 0)),
 oo 6 (.mov (.t 1)),
 oo 7 (.call false 101 [(.t 5), (.t 6)]),
 oo 8 (.bin .geq (.t 7) (ci 0)),
 oo 4 (.mov (.t 8))])
 (.ret)))
 [.t 4]

set_option maxRecDepth 100000 in
theorem ok90 : chkFn Try.prog 90 a90 = true := by kernel_rfl

/-- pointsman/table.Right$1$1 -/
def a91 : AFn := .mk 6
 (.seq (.ops false [
 oo 2 (.mov (.c (.bool false)))])
 (.seq (.ops false [
 oo 3 (.mov (.t 0)),
 oo 4 (.call false 89 [(.t 3)]),
 oo 5 (.un .not (.t 4)),
 oo 2 (.mov (.t 5))])
 (.ret)))
 [.t 2]

set_option maxRecDepth 100000 in
theorem ok91 : chkFn Try.prog 91 a91 = true := by kernel_rfl

/-- pointsman/table.Right$1 -/
def a88 : AFn := .mk 18
 (.seq (.ops false [
 oo 1 (.box (some 2) (.t 0) true),
 oo 2 (.mov (.c (.bool false)))])
 (.seq (.ops false [
 oo 3 (.faddr 0 (.t 1)),
 oo 4 (.ldI none (.t 3)),
 oo 5 (.call false 89 [(.t 4)]),
 oo 6 (.un .not (.t 5)),
 oo 7 (.mov (.t 6)),
 ⟨some 8, .faddr 1 (.t 1), some (7, false)⟩,
 ⟨some 9, .ldI none (.t 8), some (7, false)⟩,
 ⟨some 10, .len (.t 9), some (7, false)⟩,
 ⟨some 11, .bin .gtr (.t 10) (ci 32), some (7, false)⟩,
 oo 12 (.pick (.t 7) (.c (.bool true)) (.t 11)),
 oo 13 (.mov (.t 12)),
 ⟨some 14, .faddr 1 (.t 1), some (13, false)⟩,
 ⟨some 15, .ldI none (.t 14), some (13, false)⟩,
 ⟨some 16, .call false 90 [(.t 15), (.c (.func 91 []))], some (13, false)⟩,
 oo 17 (.pick (.t 13) (.c (.bool true)) (.t 16)),
 oo 2 (.mov (.t 17))])
 (.ret)))
 [.t 2]

set_option maxRecDepth 100000 in
theorem ok88 : chkFn Try.prog 88 a88 = true := by kernel_rfl

def b93_0 : ACode :=
 (.seq (.ops false [
 oo 9 (.bin .lss (.t 8) (.t 7))])
 (.seq (.cond (.t 9)
 (.skip)
 (.exit 0))
 (.seq (.block 1 (.seq (.ops false [
 oo 10 (.mov (.t 8)),
 oo 5 (.mov (.t 10))])
 (.seq (.ops false [
 oo 11 (.mov (.t 1)),
 oo 12 (.mov (.t 0)),
 oo 13 (.mov (.t 5)),
 oo 14 (.iaddr (some 2) (.t 12) (.t 13)),
 oo 15 (.load (some 2) (.t 14)),
 oo 16 (.callv false (.t 11) [(.t 15)])])
 (.cond (.t 16)
 (.seq (.ops false [
 oo 17 (.mov (.t 5)),
 oo 4 (.mov (.t 17))])
 (.ret))
 (.skip)))))
 (.ops false [
 oo 18 (.bin .add (.t 8) (ci 1)),
 oo 8 (.mov (.t 18))]))))

/-- slices.IndexFunc[[]pointsman/api.Row,pointsman/api.Row] -/
def a93 : AFn := .mk 19
 (.seq (.ops false [
 oo 4 (.mov (ci 0))])
 (.seq (.seq (.ops false [
 oo 6 (.mov (.t 0)),
 oo 7 (.len (.t 6)),
 oo 8 (.mov (ci 0))])
 (.block 0 (.loop b93_0)))
 (.seq (.ops false [
 oo 4 (.mov (ci (-1)))])
 (.ret))))
 [.t 4]

set_option maxRecDepth 100000 in
theorem ok93 : chkFn Try.prog 93 a93 = true := by kernel_rfl

/-- slices.ContainsFunc[[]pointsman/api.Row,pointsman/api.Row] -/
def a92 : AFn := .mk 9
 (.seq (.ops false [
 oo 4 (.mov (.c (.bool false)))])
 (.seq (.ops false [
 oo 5 (.mov (.t 0)),
 oo 6 (.mov (.t 1)),
 oo 7 (.call false 93 [(.t 5), (.t 6)]),
 oo 8 (.bin .geq (.t 7) (ci 0)),
 oo 4 (.mov (.t 8))])
 (.ret)))
 [.t 4]

set_option maxRecDepth 100000 in
theorem ok92 : chkFn Try.prog 92 a92 = true := by kernel_rfl

/-- pointsman/table.Right -/
def a70 : AFn := .mk 13
 (.seq (.ops false [
 oo 2 (.mov (.c (.bool false)))])
 (.seq (.ops false [
 oo 3 (.mov (.c (.func 88 [])))])
 (.seq (.ops false [
 oo 4 (.mov (.t 0)),
 oo 5 (.len (.t 4)),
 oo 6 (.bin .leq (.t 5) (ci 1000)),
 oo 7 (.mov (.t 6)),
 ⟨some 8, .mov (.t 0), some (7, true)⟩,
 ⟨some 9, .mov (.t 3), some (7, true)⟩,
 ⟨some 10, .call false 92 [(.t 8), (.t 9)], some (7, true)⟩,
 ⟨some 11, .un .not (.t 10), some (7, true)⟩,
 oo 12 (.pick (.t 7) (.t 11) (.c (.bool false))),
 oo 2 (.mov (.t 12))])
 (.ret))))
 [.t 2]

set_option maxRecDepth 100000 in
theorem ok70 : chkFn Try.prog 70 a70 = true := by kernel_rfl

/-- pointsman/merge.Of$2 -/
def a69 : AFn := .mk 6
 (.seq (.ops false [
 oo 2 (.mov (.c (.bool false)))])
 (.seq (.ops false [
 oo 3 (.mov (.t 0)),
 oo 4 (.call false 70 [(.t 3)]),
 oo 5 (.un .not (.t 4)),
 oo 2 (.mov (.t 5))])
 (.ret)))
 [.t 2]

set_option maxRecDepth 100000 in
theorem ok69 : chkFn Try.prog 69 a69 = true := by kernel_rfl

def b38_0 : ACode :=
 (.seq (.ops false [
 oo 11 (.bin .lss (.t 10) (.t 9))])
 (.seq (.cond (.t 11)
 (.skip)
 (.exit 0))
 (.seq (.block 1 (.seq (.ops false [
 oo 12 (.iaddr none (.t 8) (.t 10)),
 oo 13 (.load none (.t 12)),
 oo 6 (.alloc [.vec (some 2) []]),
 ⟨none, .store none (.t 6) (.t 13), none⟩])
 (.seq (.ops false [
 oo 14 (.faddr 1 (.t 4)),
 oo 15 (.load none (.t 14)),
 oo 16 (.mkfunc 66 [(.t 6)]),
 oo 17 (.call true 65 [(.t 15), (.t 16)]),
 oo 7 (.mov (.t 17))])
 (.seq (.seq (.ops false [
 oo 18 (.mov (.t 7)),
 oo 19 (.bin .lss (.t 18) (ci 0))])
 (.cond (.t 19)
 (.seq (.ops false [
 oo 20 (.faddr 1 (.t 4)),
 oo 21 (.load none (.t 20)),
 oo 22 (.len (.t 21)),
 oo 7 (.mov (.t 22))])
 (.ops false [
 oo 23 (.faddr 1 (.t 4)),
 oo 24 (.load none (.t 23)),
 oo 25 (.load none (.t 6)),
 oo 26 (.bsliceI none [(.t 25)]),
 oo 27 (.append none (.t 24) (.t 26) false),
 oo 28 (.faddr 1 (.t 4)),
 ⟨none, .store none (.t 28) (.t 27), none⟩]))
 (.skip)))
 (.ops false [
 oo 29 (.faddr 0 (.t 4)),
 oo 30 (.load none (.t 29)),
 oo 31 (.mov (.t 7)),
 oo 32 (.bsliceI none [(.t 31)]),
 oo 33 (.append none (.t 30) (.t 32) false),
 oo 34 (.faddr 0 (.t 4)),
 ⟨none, .store none (.t 34) (.t 33), none⟩])))))
 (.ops false [
 oo 35 (.bin .add (.t 10) (ci 1)),
 oo 10 (.mov (.t 35))]))))

/-- pointsman/merge.Of -/
def a38 : AFn := .mk 52
 (.seq (.ops false [
 oo 2 (.alloc [.vec none [], .vec none []]),
 oo 3 (.mov (ci 0))])
 (.seq (.ops false [
 oo 4 (.alloc [.nils, .nils])])
 (.seq (.seq (.ops false [
 oo 8 (.mov (.t 0)),
 oo 9 (.len (.t 8)),
 oo 10 (.mov (ci 0))])
 (.block 0 (.loop b38_0)))
 (.seq (.block 2 (.seq (.ops false [
 oo 37 (.load (some 2) (.t 4)),
 oo 38 (.call false 39 [(.t 37)]),
 oo 39 (.bin .gtr (.t 38) (ci 1000)),
 oo 36 (.mov (.t 39))])
 (.cond (.t 36)
 (.seq (.ops false [
 oo 40 (.build [.vec none [], .vec none []] []),
 ⟨none, .store (some 2) (.t 2) (.t 40), none⟩,
 oo 3 (.mov (ci 24))])
 (.ret))
 (.seq (.ops false [
 oo 42 (.mov (.t 0)),
 oo 43 (.len (.t 42)),
 oo 44 (.bin .gtr (.t 43) (ci 256)),
 oo 45 (.mov (.t 44)),
 ⟨some 46, .faddr 1 (.t 4), some (45, false)⟩,
 ⟨some 47, .load none (.t 46), some (45, false)⟩,
 ⟨some 48, .call false 68 [(.t 47), (.c (.func 69 []))], some (45, false)⟩,
 oo 49 (.pick (.t 45) (.c (.bool true)) (.t 48)),
 oo 41 (.mov (.t 49))])
 (.cond (.t 41)
 (.seq (.ops false [
 oo 50 (.build [.vec none [], .vec none []] []),
 ⟨none, .store (some 2) (.t 2) (.t 50), none⟩,
 oo 3 (.mov (ci 1))])
 (.ret))
 (.skip))))))
 (.seq (.ops false [
 oo 51 (.load (some 2) (.t 4)),
 ⟨none, .store (some 2) (.t 2) (.t 51), none⟩,
 oo 3 (.mov (ci 0))])
 (.ret))))))
 [.cell 2 (some 2), .t 3]

set_option maxRecDepth 100000 in
theorem ok38 : chkFn Try.prog 38 a38 = true := by kernel_rfl

/-- pointsman/merge.list -/
def a82 : AFn := .mk 32
 (.seq (.ops false [
 oo 2 (.box (some 2) (.t 0) true),
 oo 4 (.mov (.c (.vec (some 2) []))),
 oo 5 (.mov (.c (.bool false)))])
 (.seq (.seq (.ops false [
 oo 7 (.mov (.t 1)),
 oo 8 (.convI .i64 (.t 7)),
 oo 9 (.faddr 0 (.t 2)),
 oo 10 (.ldI none (.t 9)),
 oo 11 (.len (.t 10)),
 oo 12 (.bin .geq (.t 8) (.t 11))])
 (.cond (.t 12)
 (.seq (.ops false [
 oo 4 (.mov (.c (.vec (some 2) []))),
 oo 5 (.mov (.c (.bool false)))])
 (.ret))
 (.skip)))
 (.seq (.ops false [
 oo 13 (.faddr 0 (.t 2)),
 oo 14 (.ldI none (.t 13)),
 oo 15 (.mov (.t 1)),
 oo 16 (.iaddr none (.t 14) (.t 15)),
 oo 17 (.load none (.t 16)),
 oo 6 (.mov (.t 17))])
 (.seq (.seq (.ops false [
 oo 18 (.mov (.t 6)),
 oo 19 (.bin .lss (.t 18) (ci 0)),
 oo 20 (.mov (.t 19)),
 ⟨some 21, .mov (.t 6), some (20, false)⟩,
 ⟨some 22, .faddr 1 (.t 2), some (20, false)⟩,
 ⟨some 23, .ldI none (.t 22), some (20, false)⟩,
 ⟨some 24, .len (.t 23), some (20, false)⟩,
 ⟨some 25, .bin .geq (.t 21) (.t 24), some (20, false)⟩,
 oo 26 (.pick (.t 20) (.c (.bool true)) (.t 25))])
 (.cond (.t 26)
 (.seq (.ops false [
 oo 4 (.mov (.c (.vec (some 2) []))),
 oo 5 (.mov (.c (.bool false)))])
 (.ret))
 (.skip)))
 (.seq (.ops false [
 oo 27 (.faddr 1 (.t 2)),
 oo 28 (.ldI none (.t 27)),
 oo 29 (.mov (.t 6)),
 oo 30 (.iaddr none (.t 28) (.t 29)),
 oo 31 (.load none (.t 30)),
 oo 4 (.mov (.t 31)),
 oo 5 (.mov (.c (.bool true)))])
 (.ret))))))
 [.t 4, .t 5]

set_option maxRecDepth 100000 in
theorem ok82 : chkFn Try.prog 82 a82 = true := by kernel_rfl

/-- pointsman/packet.is -/
def a116 : AFn := .mk 9
 (.seq (.ops false [
 oo 2 (.mov (.c (.bool false)))])
 (.seq (.ops false [
 oo 3 (.mov (.t 0)),
 oo 4 (.bin .geq (.t 3) (ci 0)),
 oo 5 (.mov (.t 4)),
 ⟨some 6, .mov (.t 0), some (5, true)⟩,
 ⟨some 7, .bin .lss (.t 6) (ci 8), some (5, true)⟩,
 oo 8 (.pick (.t 5) (.t 7) (.c (.bool false))),
 oo 2 (.mov (.t 8))])
 (.ret)))
 [.t 2]

set_option maxRecDepth 100000 in
theorem ok116 : chkFn Try.prog 116 a116 = true := by kernel_rfl

/-- pointsman/packet.Has$1 -/
def a115 : AFn := .mk 17
 (.seq (.ops false [
 oo 2 (.box (some 2) (.t 0) true),
 oo 3 (.mov (.c (.bool false)))])
 (.seq (.ops true [
 oo 4 (.faddr 0 (.t 2)),
 oo 5 (.ldI none (.t 4)),
 oo 6 (.call false 116 [(.t 5)]),
 oo 7 (.un .not (.t 6)),
 oo 8 (.mov (.t 7)),
 ⟨some 9, .faddr 0 (.t 2), some (8, false)⟩,
 ⟨some 10, .ldI none (.t 9), some (8, false)⟩,
 ⟨some 11, .iaddrA 8 none (.t 1) (.t 10), some (8, false)⟩,
 ⟨some 12, .load none (.t 11), some (8, false)⟩,
 ⟨some 13, .faddr 1 (.t 2), some (8, false)⟩,
 ⟨some 14, .ldI none (.t 13), some (8, false)⟩,
 ⟨some 15, .bin .neq (.t 12) (.t 14), some (8, false)⟩,
 oo 16 (.pick (.t 8) (.c (.bool true)) (.t 15)),
 oo 3 (.mov (.t 16))])
 (.ret)))
 [.t 3]

set_option maxRecDepth 100000 in
theorem ok115 : chkFn Try.prog 115 a115 = true := by kernel_rfl

def b125_0 : ACode :=
 (.seq (.ops false [
 oo 9 (.bin .lss (.t 8) (.t 7))])
 (.seq (.cond (.t 9)
 (.skip)
 (.exit 0))
 (.seq (.block 1 (.seq (.ops false [
 oo 10 (.mov (.t 8)),
 oo 5 (.mov (.t 10))])
 (.seq (.ops false [
 oo 11 (.mov (.t 1)),
 oo 12 (.mov (.t 0)),
 oo 13 (.mov (.t 5)),
 oo 14 (.iaddr (some 2) (.t 12) (.t 13)),
 oo 15 (.load (some 2) (.t 14)),
 oo 16 (.callv false (.t 11) [(.t 15)])])
 (.cond (.t 16)
 (.seq (.ops false [
 oo 17 (.mov (.t 5)),
 oo 4 (.mov (.t 17))])
 (.ret))
 (.skip)))))
 (.ops false [
 oo 18 (.bin .add (.t 8) (ci 1)),
 oo 8 (.mov (.t 18))]))))

/-- slices.IndexFunc[[]pointsman/api.Pair,pointsman/api.Pair] -/
def a125 : AFn := .mk 19
 (.seq (.ops false [
 oo 4 (.mov (ci 0))])
 (.seq (.seq (.ops false [
 oo 6 (.mov (.t 0)),
 oo 7 (.len (.t 6)),
 oo 8 (.mov (ci 0))])
 (.block 0 (.loop b125_0)))
 (.seq (.ops false [
 oo 4 (.mov (ci (-1)))])
 (.ret))))
 [.t 4]

set_option maxRecDepth 100000 in
theorem ok125 : chkFn Try.prog 125 a125 = true := by kernel_rfl

/-- slices.ContainsFunc[[]pointsman/api.Pair,pointsman/api.Pair] -/
def a114 : AFn := .mk 9
 (.seq (.ops false [
 oo 4 (.mov (.c (.bool false)))])
 (.seq (.ops false [
 oo 5 (.mov (.t 0)),
 oo 6 (.mov (.t 1)),
 oo 7 (.call false 125 [(.t 5), (.t 6)]),
 oo 8 (.bin .geq (.t 7) (ci 0)),
 oo 4 (.mov (.t 8))])
 (.ret)))
 [.t 4]

set_option maxRecDepth 100000 in
theorem ok114 : chkFn Try.prog 114 a114 = true := by kernel_rfl

/-- pointsman/packet.Has -/
def a99 : AFn := .mk 9
 (.seq (.ops false [
 oo 2 (.box (some 8) (.t 0) true),
 oo 4 (.mov (.c (.bool false)))])
 (.seq (.ops false [
 oo 5 (.mov (.t 1)),
 oo 6 (.mkfunc 115 [(.t 2)]),
 oo 7 (.call false 114 [(.t 5), (.t 6)]),
 oo 8 (.un .not (.t 7)),
 oo 4 (.mov (.t 8))])
 (.ret)))
 [.t 4]

set_option maxRecDepth 100000 in
theorem ok99 : chkFn Try.prog 99 a99 = true := by kernel_rfl

/-- pointsman/table.Lookup$1 -/
def a98 : AFn := .mk 8
 (.seq (.ops false [
 oo 2 (.box (some 2) (.t 0) true),
 oo 3 (.mov (.c (.bool false)))])
 (.seq (.ops false [
 oo 4 (.load (some 8) (.t 1)),
 oo 5 (.faddr 0 (.t 2)),
 oo 6 (.ldI none (.t 5)),
 oo 7 (.call false 99 [(.t 4), (.t 6)]),
 oo 3 (.mov (.t 7))])
 (.ret)))
 [.t 3]

set_option maxRecDepth 100000 in
theorem ok98 : chkFn Try.prog 98 a98 = true := by kernel_rfl

/-- pointsman/packet.With -/
def a126 : AFn := .mk 13
 (.seq (.ops false [
 oo 3 (.box (some 8) (.t 0) false),
 oo 6 (.alloc [.int .u16 0, .int .u16 0, .int .u16 0, .int .u16 0, .int .u16 0, .int .u16 0, .int .u16 0, .int .u16 0])])
 (.seq (.seq (.ops false [
 oo 7 (.mov (.t 1)),
 oo 8 (.call false 116 [(.t 7)])])
 (.cond (.t 8)
 (.ops false [
 oo 9 (.mov (.t 1)),
 oo 10 (.mov (.t 2)),
 oo 11 (.iaddrA 8 none (.t 3) (.t 9)),
 ⟨none, .store none (.t 11) (.t 10), none⟩])
 (.skip)))
 (.seq (.ops false [
 oo 12 (.load (some 8) (.t 3)),
 ⟨none, .store (some 8) (.t 6) (.t 12), none⟩])
 (.ret))))
 [.cell 6 (some 8)]

set_option maxRecDepth 100000 in
theorem ok126 : chkFn Try.prog 126 a126 = true := by kernel_rfl

def b117_0 : ACode :=
 (.seq (.ops false [
 oo 10 (.bin .lss (.t 9) (.t 8))])
 (.seq (.cond (.t 10)
 (.skip)
 (.exit 0))
 (.seq (.block 1 (.seq (.ops false [
 oo 11 (.iaddr (some 2) (.t 7) (.t 9)),
 oo 12 (.load (some 2) (.t 11)),
 oo 6 (.alloc [.int .i64 0, .int .u16 0]),
 ⟨none, .store (some 2) (.t 6) (.t 12), none⟩])
 (.ops false [
 oo 13 (.load (some 8) (.t 2)),
 oo 14 (.faddr 0 (.t 6)),
 oo 15 (.load none (.t 14)),
 oo 16 (.faddr 1 (.t 6)),
 oo 17 (.load none (.t 16)),
 oo 18 (.call false 126 [(.t 13), (.t 15), (.t 17)]),
 ⟨none, .store (some 8) (.t 2) (.t 18), none⟩])))
 (.ops false [
 oo 19 (.bin .add (.t 9) (ci 1)),
 oo 9 (.mov (.t 19))]))))

/-- pointsman/packet.Do -/
def a117 : AFn := .mk 21
 (.seq (.ops false [
 oo 2 (.box (some 8) (.t 0) false),
 oo 4 (.alloc [.int .u16 0, .int .u16 0, .int .u16 0, .int .u16 0, .int .u16 0, .int .u16 0, .int .u16 0, .int .u16 0])])
 (.seq (.seq (.ops false [
 oo 7 (.mov (.t 1)),
 oo 8 (.len (.t 7)),
 oo 9 (.mov (ci 0))])
 (.block 0 (.loop b117_0)))
 (.seq (.ops false [
 oo 20 (.load (some 8) (.t 2)),
 ⟨none, .store (some 8) (.t 4) (.t 20), none⟩])
 (.ret))))
 [.cell 4 (some 8)]

set_option maxRecDepth 100000 in
theorem ok117 : chkFn Try.prog 117 a117 = true := by kernel_rfl

/-- slices.Clone[[]pointsman/api.Packet,pointsman/api.Packet] -/
def a127 : AFn := .mk 8
 (.seq (.ops false [
 oo 2 (.mov (.c (.nils)))])
 (.seq (.seq (.ops false [
 oo 3 (.mov (.t 0)),
 oo 4 (.eqN false 1 (.t 3) (.c (.nils)))])
 (.cond (.t 4)
 (.seq (.ops false [
 oo 2 (.mov (.c (.nils)))])
 (.ret))
 (.skip)))
 (.seq (.ops false [
 oo 5 (.bslice (some 8) [] true),
 oo 6 (.mov (.t 0)),
 oo 7 (.append (some 8) (.t 5) (.t 6) true),
 oo 2 (.mov (.t 7))])
 (.ret))))
 [.t 2]

set_option maxRecDepth 100000 in
theorem ok127 : chkFn Try.prog 127 a127 = true := by kernel_rfl

/-- math/bits.Len64 -/
def a113 : AFn := .mk 25
 (.seq (.ops false [
 oo 2 (.mov (ci 0))])
 (.seq (.seq (.ops false [
 oo 3 (.mov (.t 0)),
 oo 4 (.bin .geq (.t 3) (.c (.int .u64 4294967296)))])
 (.cond (.t 4)
 (.seq (.ops false [
 oo 5 (.mov (.t 0)),
 oo 6 (.bin .shr (.t 5) (.c (.int .u64 32))),
 oo 0 (.mov (.t 6))])
 (.ops false [
 oo 2 (.mov (ci 32))]))
 (.skip)))
 (.seq (.seq (.ops false [
 oo 7 (.mov (.t 0)),
 oo 8 (.bin .geq (.t 7) (.c (.int .u64 65536)))])
 (.cond (.t 8)
 (.seq (.ops false [
 oo 9 (.mov (.t 0)),
 oo 10 (.bin .shr (.t 9) (.c (.int .u64 16))),
 oo 0 (.mov (.t 10))])
 (.ops false [
 oo 11 (.mov (.t 2)),
 oo 12 (.bin .add (.t 11) (ci 16)),
 oo 2 (.mov (.t 12))]))
 (.skip)))
 (.seq (.seq (.ops false [
 oo 13 (.mov (.t 0)),
 oo 14 (.bin .geq (.t 13) (.c (.int .u64 256)))])
 (.cond (.t 14)
 (.seq (.ops false [
 oo 15 (.mov (.t 0)),
 oo 16 (.bin .shr (.t 15) (.c (.int .u64 8))),
 oo 0 (.mov (.t 16))])
 (.ops false [
 oo 17 (.mov (.t 2)),
 oo 18 (.bin .add (.t 17) (ci 8)),
 oo 2 (.mov (.t 18))]))
 (.skip)))
 (.seq (.ops false [
 oo 19 (.mov (.t 2)),
 oo 20 (.mov (.t 0)),
 oo 21 (.convI .u8 (.t 20)),
 oo 22 (.idxS (.c (.str ⟨#[0, 1, 2, 2, 3, 3, 3, 3, 4, 4, 4, 4, 4, 4, 4, 4, 5, 5, 5, 5, 5, 5, 5, 5, 5, 5, 5, 5, 5, 5, 5, 5, 6, 6, 6, 6, 6, 6, 6, 6, 6, 6, 6, 6, 6, 6, 6, 6, 6, 6, 6, 6, 6, 6, 6, 6, 6, 6, 6, 6, 6, 6, 6, 6, 7, 7, 7, 7, 7, 7, 7, 7, 7, 7, 7, 7, 7, 7, 7, 7, 7, 7, 7, 7, 7, 7, 7, 7, 7, 7, 7, 7, 7, 7, 7, 7, 7, 7, 7, 7, 7, 7, 7, 7, 7, 7, 7, 7, 7, 7, 7, 7, 7, 7, 7, 7, 7, 7, 7, 7, 7, 7, 7, 7, 7, 7, 7, 7, 8, 8, 8, 8, 8, 8, 8, 8, 8, 8, 8, 8, 8, 8, 8, 8, 8, 8, 8, 8, 8, 8, 8, 8, 8, 8, 8, 8, 8, 8, 8, 8, 8, 8, 8, 8, 8, 8, 8, 8, 8, 8, 8, 8, 8, 8, 8, 8, 8, 8, 8, 8, 8, 8, 8, 8, 8, 8, 8, 8, 8, 8, 8, 8, 8, 8, 8, 8, 8, 8, 8, 8, 8, 8, 8, 8, 8, 8, 8, 8, 8, 8, 8, 8, 8, 8, 8, 8, 8, 8, 8, 8, 8, 8, 8, 8, 8, 8, 8, 8, 8, 8, 8, 8, 8, 8, 8, 8, 8, 8, 8, 8, 8, 8, 8, 8, 8, 8, 8, 8, 8, 8, 8, 8, 8, 8, 8, 8]⟩)) (.t 21)),
 oo 23 (.convI .i64 (.t 22)),
 oo 24 (.bin .add (.t 19) (.t 23)),
 oo 2 (.mov (.t 24))])
 (.ret))))))
 [.t 2]

set_option maxRecDepth 100000 in
theorem ok113 : chkFn Try.prog 113 a113 = true := by kernel_rfl

/-- math/bits.Len -/
def a97 : AFn := .mk 8
 (.seq (.ops false [
 oo 2 (.mov (ci 0))])
 (.seq (.cond (.c (.bool false))
 (.seq (.ops false [
 oo 3 (.mov (.t 0)),
 oo 4 (.convI .u32 (.t 3)),
 oo 5 (.call false 112 [(.t 4)]),
 oo 2 (.mov (.t 5))])
 (.ret))
 (.skip))
 (.seq (.ops false [
 oo 6 (.mov (.t 0)),
 oo 7 (.call false 113 [(.t 6)]),
 oo 2 (.mov (.t 7))])
 (.ret))))
 [.t 2]

set_option maxRecDepth 100000 in
theorem ok97 : chkFn Try.prog 97 a97 = true := by kernel_rfl

def b134_1 : ACode :=
 (.seq (.seq (.ops true [
 oo 18 (.mov (.t 9)),
 oo 19 (.mov (.t 1)),
 oo 20 (.bin .gtr (.t 18) (.t 19)),
 oo 21 (.mov (.t 20)),
 ⟨some 22, .mov (.t 3), some (21, true)⟩,
 ⟨some 23, .mov (.t 0), some (21, true)⟩,
 ⟨some 24, .mov (.t 9), some (21, true)⟩,
 ⟨some 25, .iaddr (some 8) (.t 23) (.t 24), some (21, true)⟩,
 ⟨some 26, .load (some 8) (.t 25), some (21, true)⟩,
 ⟨some 27, .mov (.t 0), some (21, true)⟩,
 ⟨some 28, .mov (.t 9), some (21, true)⟩,
 ⟨some 29, .bin .sub (.t 28) (ci 1), some (21, true)⟩,
 ⟨some 30, .iaddr (some 8) (.t 27) (.t 29), some (21, true)⟩,
 ⟨some 31, .load (some 8) (.t 30), some (21, true)⟩,
 ⟨some 32, .callv false (.t 22) [(.t 26), (.t 31)], some (21, true)⟩,
 ⟨some 33, .bin .lss (.t 32) (ci 0), some (21, true)⟩,
 oo 34 (.pick (.t 21) (.t 33) (.c (.bool false)))])
 (.cond (.t 34)
 (.skip)
 (.exit 2)))
 (.seq (.block 3 (.ops true [
 oo 37 (.mov (.t 0)),
 oo 38 (.mov (.t 9)),
 oo 39 (.mov (.t 0)),
 oo 40 (.mov (.t 9)),
 oo 41 (.bin .sub (.t 40) (ci 1)),
 oo 42 (.mov (.t 0)),
 oo 43 (.mov (.t 9)),
 oo 44 (.bin .sub (.t 43) (ci 1)),
 oo 45 (.iaddr (some 8) (.t 42) (.t 44)),
 oo 46 (.load (some 8) (.t 45)),
 oo 47 (.mov (.t 0)),
 oo 48 (.mov (.t 9)),
 oo 49 (.iaddr (some 8) (.t 47) (.t 48)),
 oo 50 (.load (some 8) (.t 49)),
 oo 51 (.iaddr (some 8) (.t 37) (.t 38)),
 ⟨none, .store (some 8) (.t 51) (.t 46), none⟩,
 oo 52 (.iaddr (some 8) (.t 39) (.t 41)),
 ⟨none, .store (some 8) (.t 52) (.t 50), none⟩]))
 (.ops false [
 oo 35 (.mov (.t 9)),
 oo 36 (.bin .sub (.t 35) (ci 1)),
 oo 9 (.mov (.t 36))])))

def b134_0 : ACode :=
 (.seq (.seq (.ops false [
 oo 12 (.mov (.t 8)),
 oo 13 (.mov (.t 2)),
 oo 14 (.bin .lss (.t 12) (.t 13))])
 (.cond (.t 14)
 (.skip)
 (.exit 0)))
 (.seq (.block 1 (.seq (.ops false [
 oo 17 (.mov (.t 8)),
 oo 9 (.mov (.t 17))])
 (.block 2 (.loop b134_1))))
 (.ops false [
 oo 15 (.mov (.t 8)),
 oo 16 (.bin .add (.t 15) (ci 1)),
 oo 8 (.mov (.t 16))])))

/-- slices.insertionSortCmpFunc[pointsman/api.Packet] -/
def a134 : AFn := .mk 53
 (.seq (.ops false [
 oo 10 (.mov (.t 1)),
 oo 11 (.bin .add (.t 10) (ci 1)),
 oo 8 (.mov (.t 11))])
 (.block 0 (.loop b134_0)))
 []

set_option maxRecDepth 100000 in
theorem ok134 : chkFn Try.prog 134 a134 = true := by kernel_rfl

def b132_0 : ACode :=
 (.block 1 (.seq (.ops false [
 oo 21 (.mov (.t 2)),
 oo 22 (.mov (.t 1)),
 oo 23 (.bin .sub (.t 21) (.t 22)),
 oo 12 (.mov (.t 23))])
 (.seq (.seq (.ops false [
 oo 24 (.mov (.t 12)),
 oo 25 (.bin .leq (.t 24) (ci 12))])
 (.cond (.t 25)
 (.seq (.ops false [
 oo 26 (.mov (.t 0)),
 oo 27 (.mov (.t 1)),
 oo 28 (.mov (.t 2)),
 oo 29 (.mov (.t 4)),
 oo 30 (.call true 134 [(.t 26), (.t 27), (.t 28), (.t 29)])])
 (.ret))
 (.skip)))
 (.seq (.seq (.ops false [
 oo 31 (.mov (.t 3)),
 oo 32 (.bin .eql (.t 31) (ci 0))])
 (.cond (.t 32)
 (.seq (.ops false [
 oo 33 (.mov (.t 0)),
 oo 34 (.mov (.t 1)),
 oo 35 (.mov (.t 2)),
 oo 36 (.mov (.t 4)),
 oo 37 (.call false 135 [(.t 33), (.t 34), (.t 35), (.t 36)])])
 (.ret))
 (.skip)))
 (.seq (.seq (.ops false [
 oo 38 (.mov (.t 10)),
 oo 39 (.un .not (.t 38))])
 (.cond (.t 39)
 (.seq (.ops false [
 oo 40 (.mov (.t 0)),
 oo 41 (.mov (.t 1)),
 oo 42 (.mov (.t 2)),
 oo 43 (.mov (.t 4)),
 oo 44 (.call false 136 [(.t 40), (.t 41), (.t 42), (.t 43)])])
 (.ops false [
 oo 45 (.mov (.t 3)),
 oo 46 (.bin .sub (.t 45) (ci 1)),
 oo 3 (.mov (.t 46))]))
 (.skip)))
 (.seq (.ops false [
 oo 48 (.mov (.t 0)),
 oo 49 (.mov (.t 1)),
 oo 50 (.mov (.t 2)),
 oo 51 (.mov (.t 4)),
 oo 52 (.call false 137 [(.t 48), (.t 49), (.t 50), (.t 51)]),
 oo 47 (.mov (.t 52)),
 oo 53 (.extract (.t 47) 0),
 oo 54 (.extract (.t 47) 1),
 oo 13 (.mov (.t 53)),
 oo 14 (.mov (.t 54))])
 (.seq (.seq (.ops false [
 oo 55 (.mov (.t 14)),
 oo 56 (.bin .eql (.t 55) (ci 2))])
 (.cond (.t 56)
 (.seq (.ops false [
 oo 57 (.mov (.t 0)),
 oo 58 (.mov (.t 1)),
 oo 59 (.mov (.t 2)),
 oo 60 (.mov (.t 4)),
 oo 61 (.call false 138 [(.t 57), (.t 58), (.t 59), (.t 60)])])
 (.seq (.ops false [
 oo 62 (.mov (.t 2)),
 oo 63 (.bin .sub (.t 62) (ci 1)),
 oo 64 (.mov (.t 13)),
 oo 65 (.mov (.t 1)),
 oo 66 (.bin .sub (.t 64) (.t 65)),
 oo 67 (.bin .sub (.t 63) (.t 66)),
 oo 13 (.mov (.t 67))])
 (.ops false [
 oo 14 (.mov (ci 1))])))
 (.skip)))
 (.seq (.seq (.ops false [
 oo 68 (.mov (.t 10)),
 oo 69 (.mov (.t 68)),
 ⟨some 70, .mov (.t 11), some (69, true)⟩,
 oo 71 (.pick (.t 69) (.t 70) (.c (.bool false))),
 oo 72 (.mov (.t 71)),
 ⟨some 73, .mov (.t 14), some (72, true)⟩,
 ⟨some 74, .bin .eql (.t 73) (ci 1), some (72, true)⟩,
 oo 75 (.pick (.t 72) (.t 74) (.c (.bool false)))])
 (.cond (.t 75)
 (.seq (.ops false [
 oo 76 (.mov (.t 0)),
 oo 77 (.mov (.t 1)),
 oo 78 (.mov (.t 2)),
 oo 79 (.mov (.t 4)),
 oo 80 (.call false 139 [(.t 76), (.t 77), (.t 78), (.t 79)])])
 (.cond (.t 80)
 (.ret)
 (.skip)))
 (.skip)))
 (.seq (.seq (.ops true [
 oo 81 (.mov (.t 1)),
 oo 82 (.bin .gtr (.t 81) (ci 0)),
 oo 83 (.mov (.t 82)),
 ⟨some 84, .mov (.t 4), some (83, true)⟩,
 ⟨some 85, .mov (.t 0), some (83, true)⟩,
 ⟨some 86, .mov (.t 1), some (83, true)⟩,
 ⟨some 87, .bin .sub (.t 86) (ci 1), some (83, true)⟩,
 ⟨some 88, .iaddr (some 8) (.t 85) (.t 87), some (83, true)⟩,
 ⟨some 89, .load (some 8) (.t 88), some (83, true)⟩,
 ⟨some 90, .mov (.t 0), some (83, true)⟩,
 ⟨some 91, .mov (.t 13), some (83, true)⟩,
 ⟨some 92, .iaddr (some 8) (.t 90) (.t 91), some (83, true)⟩,
 ⟨some 93, .load (some 8) (.t 92), some (83, true)⟩,
 ⟨some 94, .callv false (.t 84) [(.t 89), (.t 93)], some (83, true)⟩,
 ⟨some 95, .bin .lss (.t 94) (ci 0), some (83, true)⟩,
 ⟨some 96, .un .not (.t 95), some (83, true)⟩,
 oo 97 (.pick (.t 83) (.t 96) (.c (.bool false)))])
 (.cond (.t 97)
 (.seq (.ops false [
 oo 98 (.mov (.t 0)),
 oo 99 (.mov (.t 1)),
 oo 100 (.mov (.t 2)),
 oo 101 (.mov (.t 13)),
 oo 102 (.mov (.t 4)),
 oo 103 (.call false 140 [(.t 98), (.t 99), (.t 100), (.t 101), (.t 102)]),
 oo 15 (.mov (.t 103))])
 (.seq (.ops false [
 oo 104 (.mov (.t 15)),
 oo 1 (.mov (.t 104))])
 (.exit 1)))
 (.skip)))
 (.seq (.ops false [
 oo 106 (.mov (.t 0)),
 oo 107 (.mov (.t 1)),
 oo 108 (.mov (.t 2)),
 oo 109 (.mov (.t 13)),
 oo 110 (.mov (.t 4)),
 oo 111 (.call false 141 [(.t 106), (.t 107), (.t 108), (.t 109), (.t 110)]),
 oo 105 (.mov (.t 111)),
 oo 112 (.extract (.t 105) 0),
 oo 113 (.extract (.t 105) 1),
 oo 16 (.mov (.t 112)),
 oo 17 (.mov (.t 113))])
 (.seq (.ops false [
 oo 114 (.mov (.t 17)),
 oo 11 (.mov (.t 114))])
 (.seq (.ops false [
 oo 115 (.mov (.t 16)),
 oo 116 (.mov (.t 1)),
 oo 117 (.bin .sub (.t 115) (.t 116)),
 oo 118 (.mov (.t 2)),
 oo 119 (.mov (.t 16)),
 oo 120 (.bin .sub (.t 118) (.t 119)),
 oo 18 (.mov (.t 117)),
 oo 19 (.mov (.t 120))])
 (.seq (.ops false [
 oo 121 (.mov (.t 12)),
 oo 122 (.bin .quo (.t 121) (ci 8)),
 oo 20 (.mov (.t 122))])
 (.seq (.ops false [
 oo 123 (.mov (.t 18)),
 oo 124 (.mov (.t 19)),
 oo 125 (.bin .lss (.t 123) (.t 124))])
 (.cond (.t 125)
 (.seq (.ops false [
 oo 126 (.mov (.t 18)),
 oo 127 (.mov (.t 20)),
 oo 128 (.bin .geq (.t 126) (.t 127)),
 oo 10 (.mov (.t 128))])
 (.seq (.ops false [
 oo 129 (.mov (.t 0)),
 oo 130 (.mov (.t 1)),
 oo 131 (.mov (.t 16)),
 oo 132 (.mov (.t 3)),
 oo 133 (.mov (.t 4)),
 oo 134 (.call true 132 [(.t 129), (.t 130), (.t 131), (.t 132), (.t 133)])])
 (.ops false [
 oo 135 (.mov (.t 16)),
 oo 136 (.bin .add (.t 135) (ci 1)),
 oo 1 (.mov (.t 136))])))
 (.seq (.ops false [
 oo 137 (.mov (.t 19)),
 oo 138 (.mov (.t 20)),
 oo 139 (.bin .geq (.t 137) (.t 138)),
 oo 10 (.mov (.t 139))])
 (.seq (.ops false [
 oo 140 (.mov (.t 0)),
 oo 141 (.mov (.t 16)),
 oo 142 (.bin .add (.t 141) (ci 1)),
 oo 143 (.mov (.t 2)),
 oo 144 (.mov (.t 3)),
 oo 145 (.mov (.t 4)),
 oo 146 (.call true 132 [(.t 140), (.t 142), (.t 143), (.t 144), (.t 145)])])
 (.ops false [
 oo 147 (.mov (.t 16)),
 oo 2 (.mov (.t 147))]))))))))))))))))))

/-- slices.pdqsortCmpFunc[pointsman/api.Packet] -/
def a132 : AFn := .mk 148
 (.seq (.ops false [
 oo 10 (.mov (.c (.bool true)))])
 (.seq (.ops false [
 oo 11 (.mov (.c (.bool true)))])
 (.block 0 (.loop b132_0))))
 []

set_option maxRecDepth 100000 in
theorem ok132 : chkFn Try.prog 132 a132 = true := by kernel_rfl

/-- slices.SortFunc[[]pointsman/api.Packet,pointsman/api.Packet] -/
def a128 : AFn := .mk 14
 (.seq (.ops false [
 oo 5 (.mov (.t 0)),
 oo 6 (.len (.t 5)),
 oo 4 (.mov (.t 6))])
 (.ops false [
 oo 7 (.mov (.t 0)),
 oo 8 (.mov (.t 4)),
 oo 9 (.mov (.t 4)),
 oo 10 (.convI .u64 (.t 9)),
 oo 11 (.call false 97 [(.t 10)]),
 oo 12 (.mov (.t 1)),
 oo 13 (.call true 132 [(.t 7), (ci 0), (.t 8), (.t 11), (.t 12)])]))
 []

set_option maxRecDepth 100000 in
theorem ok128 : chkFn Try.prog 128 a128 = true := by kernel_rfl

/-- cmp.isNaN[uint16] -/
def a142 : AFn := .mk 6
 (.seq (.ops false [
 oo 2 (.mov (.c (.bool false)))])
 (.seq (.ops false [
 oo 3 (.mov (.t 0)),
 oo 4 (.mov (.t 0)),
 oo 5 (.bin .neq (.t 3) (.t 4)),
 oo 2 (.mov (.t 5))])
 (.ret)))
 [.t 2]

set_option maxRecDepth 100000 in
theorem ok142 : chkFn Try.prog 142 a142 = true := by kernel_rfl

/-- cmp.Compare[uint16] -/
def a133 : AFn := .mk 20
 (.seq (.ops false [
 oo 4 (.mov (ci 0))])
 (.seq (.ops false [
 oo 7 (.mov (.t 0)),
 oo 8 (.call false 142 [(.t 7)]),
 oo 5 (.mov (.t 8))])
 (.seq (.ops false [
 oo 9 (.mov (.t 1)),
 oo 10 (.call false 142 [(.t 9)]),
 oo 6 (.mov (.t 10))])
 (.seq (.seq (.ops false [
 oo 11 (.mov (.t 5))])
 (.cond (.t 11)
 (.seq (.seq (.ops false [
 oo 12 (.mov (.t 6))])
 (.cond (.t 12)
 (.seq (.ops false [
 oo 4 (.mov (ci 0))])
 (.ret))
 (.skip)))
 (.seq (.ops false [
 oo 4 (.mov (ci (-1)))])
 (.ret)))
 (.skip)))
 (.seq (.seq (.ops false [
 oo 13 (.mov (.t 6))])
 (.cond (.t 13)
 (.seq (.ops false [
 oo 4 (.mov (ci 1))])
 (.ret))
 (.skip)))
 (.seq (.seq (.ops false [
 oo 14 (.mov (.t 0)),
 oo 15 (.mov (.t 1)),
 oo 16 (.bin .lss (.t 14) (.t 15))])
 (.cond (.t 16)
 (.seq (.ops false [
 oo 4 (.mov (ci (-1)))])
 (.ret))
 (.skip)))
 (.seq (.seq (.ops false [
 oo 17 (.mov (.t 0)),
 oo 18 (.mov (.t 1)),
 oo 19 (.bin .gtr (.t 17) (.t 18))])
 (.cond (.t 19)
 (.seq (.ops false [
 oo 4 (.mov (ci 1))])
 (.ret))
 (.skip)))
 (.seq (.ops false [
 oo 4 (.mov (ci 0))])
 (.ret)))))))))
 [.t 4]

set_option maxRecDepth 100000 in
theorem ok133 : chkFn Try.prog 133 a133 = true := by kernel_rfl

def b129_0 : ACode :=
 (.seq (.ops false [
 oo 8 (.bin .lss (.t 7) (ci 8))])
 (.seq (.cond (.t 8)
 (.skip)
 (.exit 0))
 (.seq (.block 1 (.seq (.ops false [
 oo 9 (.mov (.t 7)),
 oo 5 (.mov (.t 9))])
 (.seq (.ops true [
 oo 10 (.mov (.t 5)),
 oo 11 (.iaddrA 8 none (.t 2) (.t 10)),
 oo 12 (.ldI none (.t 11)),
 oo 13 (.mov (.t 5)),
 oo 14 (.iaddrA 8 none (.t 3) (.t 13)),
 oo 15 (.ldI none (.t 14)),
 oo 16 (.call false 133 [(.t 12), (.t 15)]),
 oo 6 (.mov (.t 16))])
 (.seq (.ops false [
 oo 17 (.mov (.t 6)),
 oo 18 (.bin .neq (.t 17) (ci 0))])
 (.cond (.t 18)
 (.seq (.ops false [
 oo 19 (.mov (.t 6)),
 oo 4 (.mov (.t 19))])
 (.ret))
 (.skip))))))
 (.ops false [
 oo 20 (.bin .add (.t 7) (ci 1)),
 oo 7 (.mov (.t 20))]))))

/-- pointsman/packet.Compare -/
def a129 : AFn := .mk 21
 (.seq (.ops false [
 oo 2 (.box (some 8) (.t 0) true),
 oo 3 (.box (some 8) (.t 1) true),
 oo 4 (.mov (ci 0))])
 (.seq (.seq (.ops false [
 oo 7 (.mov (ci 0))])
 (.block 0 (.loop b129_0)))
 (.seq (.ops false [
 oo 4 (.mov (ci 0))])
 (.ret))))
 [.t 4]

set_option maxRecDepth 100000 in
theorem ok129 : chkFn Try.prog 129 a129 = true := by kernel_rfl

def b130_1 : ACode :=
 (.seq (.seq (.ops false [
 oo 29 (.mov (.t 5)),
 oo 30 (.mov (.t 4)),
 oo 31 (.len (.t 30)),
 oo 32 (.bin .lss (.t 29) (.t 31))])
 (.cond (.t 32)
 (.skip)
 (.exit 2)))
 (.seq (.block 3 (.seq (.ops true [
 oo 35 (.mov (.t 4)),
 oo 36 (.mov (.t 5)),
 oo 37 (.iaddr (some 8) (.t 35) (.t 36)),
 oo 38 (.load (some 8) (.t 37)),
 oo 39 (.mov (.t 4)),
 oo 40 (.mov (.t 5)),
 oo 41 (.bin .sub (.t 40) (ci 1)),
 oo 42 (.iaddr (some 8) (.t 39) (.t 41)),
 oo 43 (.load (some 8) (.t 42)),
 oo 44 (.eqS true [.int, .int, .int, .int, .int, .int, .int, .int] (.t 38) (.t 43))])
 (.cond (.t 44)
 (.seq (.ops false [
 oo 45 (.mov (.t 0)),
 oo 46 (.mov (.t 3)),
 oo 47 (.mov (.t 4)),
 oo 48 (.mov (.t 5)),
 oo 49 (.iaddr (some 8) (.t 47) (.t 48)),
 oo 50 (.load (some 8) (.t 49)),
 oo 51 (.iaddr (some 8) (.t 45) (.t 46)),
 ⟨none, .store (some 8) (.t 51) (.t 50), none⟩])
 (.ops false [
 oo 52 (.mov (.t 3)),
 oo 53 (.bin .add (.t 52) (ci 1)),
 oo 3 (.mov (.t 53))]))
 (.skip))))
 (.ops false [
 oo 33 (.mov (.t 5)),
 oo 34 (.bin .add (.t 33) (ci 1)),
 oo 5 (.mov (.t 34))])))

def b130_0 : ACode :=
 (.seq (.seq (.ops false [
 oo 10 (.mov (.t 3)),
 oo 11 (.mov (.t 0)),
 oo 12 (.len (.t 11)),
 oo 13 (.bin .lss (.t 10) (.t 12))])
 (.cond (.t 13)
 (.skip)
 (.exit 0)))
 (.seq (.block 1 (.seq (.ops true [
 oo 16 (.mov (.t 0)),
 oo 17 (.mov (.t 3)),
 oo 18 (.iaddr (some 8) (.t 16) (.t 17)),
 oo 19 (.load (some 8) (.t 18)),
 oo 20 (.mov (.t 0)),
 oo 21 (.mov (.t 3)),
 oo 22 (.bin .sub (.t 21) (ci 1)),
 oo 23 (.iaddr (some 8) (.t 20) (.t 22)),
 oo 24 (.load (some 8) (.t 23)),
 oo 25 (.eqS false [.int, .int, .int, .int, .int, .int, .int, .int] (.t 19) (.t 24))])
 (.cond (.t 25)
 (.seq (.ops false [
 oo 26 (.mov (.t 0)),
 oo 27 (.mov (.t 3)),
 oo 28 (.slc (some 8) (.t 26) (some (.t 27)) none),
 oo 4 (.mov (.t 28))])
 (.seq (.seq (.ops false [
 oo 5 (.mov (ci 1))])
 (.block 2 (.loop b130_1)))
 (.seq (.ops false [
 oo 54 (.mov (.t 0)),
 oo 55 (.mov (.t 3)),
 oo 56 (.slc (some 8) (.t 54) (some (.t 55)) none),
 ⟨none, .clear (some 8) [.int .u16 0, .int .u16 0, .int .u16 0, .int .u16 0, .int .u16 0, .int .u16 0, .int .u16 0, .int .u16 0] (.t 56), none⟩])
 (.seq (.ops false [
 oo 57 (.mov (.t 0)),
 oo 58 (.mov (.t 3)),
 oo 59 (.slc (some 8) (.t 57) none (some (.t 58))),
 oo 2 (.mov (.t 59))])
 (.ret)))))
 (.skip))))
 (.ops false [
 oo 14 (.mov (.t 3)),
 oo 15 (.bin .add (.t 14) (ci 1)),
 oo 3 (.mov (.t 15))])))

/-- slices.Compact[[]pointsman/api.Packet,pointsman/api.Packet] -/
def a130 : AFn := .mk 61
 (.seq (.ops false [
 oo 2 (.mov (.c (.nils)))])
 (.seq (.seq (.ops false [
 oo 6 (.mov (.t 0)),
 oo 7 (.len (.t 6)),
 oo 8 (.bin .lss (.t 7) (ci 2))])
 (.cond (.t 8)
 (.seq (.ops false [
 oo 9 (.mov (.t 0)),
 oo 2 (.mov (.t 9))])
 (.ret))
 (.skip)))
 (.seq (.seq (.ops false [
 oo 3 (.mov (ci 1))])
 (.block 0 (.loop b130_0)))
 (.seq (.ops false [
 oo 60 (.mov (.t 0)),
 oo 2 (.mov (.t 60))])
 (.ret)))))
 [.t 2]

set_option maxRecDepth 100000 in
theorem ok130 : chkFn Try.prog 130 a130 = true := by kernel_rfl

/-- pointsman/packet.Sort -/
def a118 : AFn := .mk 9
 (.seq (.ops false [
 oo 2 (.mov (.c (.nils)))])
 (.seq (.ops false [
 oo 3 (.mov (.t 0)),
 oo 4 (.call true 127 [(.t 3)]),
 oo 0 (.mov (.t 4))])
 (.seq (.ops false [
 oo 5 (.mov (.t 0)),
 oo 6 (.call true 128 [(.t 5), (.c (.func 129 []))])])
 (.seq (.ops false [
 oo 7 (.mov (.t 0)),
 oo 8 (.call true 130 [(.t 7)]),
 oo 2 (.mov (.t 8))])
 (.ret)))))
 [.t 2]

set_option maxRecDepth 100000 in
theorem ok118 : chkFn Try.prog 118 a118 = true := by kernel_rfl

def b100_0 : ACode :=
 (.seq (.ops false [
 oo 11 (.bin .lss (.t 10) (.t 9))])
 (.seq (.cond (.t 11)
 (.skip)
 (.exit 0))
 (.seq (.block 1 (.seq (.ops false [
 oo 12 (.iaddr none (.t 8) (.t 10)),
 oo 13 (.load none (.t 12)),
 oo 7 (.mov (.t 13))])
 (.ops false [
 oo 14 (.mov (.t 5)),
 oo 15 (.ldI (some 8) (.t 3)),
 oo 16 (.mov (.t 7)),
 oo 17 (.call false 117 [(.t 15), (.t 16)]),
 oo 18 (.bsliceI (some 8) [(.t 17)]),
 oo 19 (.append (some 8) (.t 14) (.t 18) false),
 oo 5 (.mov (.t 19))])))
 (.ops false [
 oo 20 (.bin .add (.t 10) (ci 1)),
 oo 10 (.mov (.t 20))]))))

/-- pointsman/table.made -/
def a100 : AFn := .mk 23
 (.seq (.ops false [
 oo 3 (.box (some 8) (.t 1) true),
 oo 4 (.mov (.c (.vec (some 8) [])))])
 (.seq (.ops false [
 oo 5 (.mov (.c (.nils)))])
 (.seq (.seq (.ops false [
 oo 8 (.mov (.t 0)),
 oo 9 (.len (.t 8)),
 oo 10 (.mov (ci 0))])
 (.block 0 (.loop b100_0)))
 (.seq (.ops false [
 oo 21 (.mov (.t 5)),
 oo 22 (.call false 118 [(.t 21)]),
 oo 4 (.mov (.t 22))])
 (.ret)))))
 [.t 4]

set_option maxRecDepth 100000 in
theorem ok100 : chkFn Try.prog 100 a100 = true := by kernel_rfl

/-- pointsman/table.Lookup -/
def a83 : AFn := .mk 20
 (.seq (.ops false [
 oo 3 (.box (some 8) (.t 1) true),
 oo 4 (.mov (.c (.vec (some 8) []))),
 oo 5 (.mov (ci 0))])
 (.seq (.ops false [
 oo 7 (.mov (.t 0)),
 oo 8 (.mkfunc 98 [(.t 3)]),
 oo 9 (.call false 93 [(.t 7), (.t 8)]),
 oo 6 (.mov (.t 9))])
 (.seq (.seq (.ops false [
 oo 10 (.mov (.t 6)),
 oo 11 (.bin .lss (.t 10) (ci 0))])
 (.cond (.t 11)
 (.seq (.ops false [
 oo 4 (.mov (.c (.vec (some 8) []))),
 oo 5 (.mov (ci (-1)))])
 (.ret))
 (.skip)))
 (.seq (.ops true [
 oo 12 (.mov (.t 0)),
 oo 13 (.mov (.t 6)),
 oo 14 (.iaddr (some 2) (.t 12) (.t 13)),
 oo 15 (.faddr 1 (.t 14)),
 oo 16 (.load none (.t 15)),
 oo 17 (.ldI (some 8) (.t 3)),
 oo 18 (.call false 100 [(.t 16), (.t 17)]),
 oo 19 (.mov (.t 6)),
 oo 4 (.mov (.t 18)),
 oo 5 (.mov (.t 19))])
 (.ret)))))
 [.t 4, .t 5]

set_option maxRecDepth 100000 in
theorem ok83 : chkFn Try.prog 83 a83 = true := by kernel_rfl

/-- pointsman/merge.Lookup -/
def a63 : AFn := .mk 27
 (.seq (.ops false [
 oo 3 (.box (some 2) (.t 0) true),
 oo 5 (.box (some 8) (.t 2) true),
 oo 6 (.mov (.c (.vec (some 8) []))),
 oo 7 (.mov (ci 0))])
 (.seq (.ops false [
 oo 13 (.ldI (some 2) (.t 3)),
 oo 14 (.mov (.t 1)),
 oo 15 (.call false 82 [(.t 13), (.t 14)]),
 oo 12 (.mov (.t 15)),
 oo 16 (.extract (.t 12) 0),
 oo 17 (.extract (.t 12) 1),
 oo 8 (.mov (.t 16)),
 oo 9 (.mov (.t 17))])
 (.seq (.seq (.ops false [
 oo 18 (.mov (.t 9)),
 oo 19 (.un .not (.t 18))])
 (.cond (.t 19)
 (.seq (.ops false [
 oo 6 (.mov (.c (.vec (some 8) []))),
 oo 7 (.mov (ci 31))])
 (.ret))
 (.skip)))
 (.seq (.ops false [
 oo 21 (.mov (.t 8)),
 oo 22 (.ldI (some 8) (.t 5)),
 oo 23 (.call false 83 [(.t 21), (.t 22)]),
 oo 20 (.mov (.t 23)),
 oo 24 (.extract (.t 20) 0),
 oo 25 (.extract (.t 20) 1),
 oo 10 (.mov (.t 24)),
 oo 11 (.mov (.t 25))])
 (.seq (.ops false [
 oo 26 (.mov (.t 10)),
 oo 6 (.mov (.t 26)),
 oo 7 (.mov (ci 0))])
 (.ret))))))
 [.t 6, .t 7]

set_option maxRecDepth 100000 in
theorem ok63 : chkFn Try.prog 63 a63 = true := by kernel_rfl

def b84_0 : ACode :=
 (.seq (.ops false [
 oo 14 (.bin .lss (.t 13) (.t 12))])
 (.seq (.cond (.t 14)
 (.skip)
 (.exit 0))
 (.seq (.block 1 (.seq (.ops false [
 oo 15 (.mov (.t 13)),
 oo 5 (.mov (.t 15))])
 (.seq (.ops true [
 oo 16 (.mov (.t 0)),
 oo 17 (.mov (.t 5)),
 oo 18 (.iaddr none (.t 16) (.t 17)),
 oo 19 (.load none (.t 18)),
 oo 20 (.mov (.t 1)),
 oo 21 (.mov (.t 5)),
 oo 22 (.iaddr none (.t 20) (.t 21)),
 oo 23 (.load none (.t 22)),
 oo 24 (.bin .neq (.t 19) (.t 23))])
 (.cond (.t 24)
 (.seq (.ops false [
 oo 4 (.mov (.c (.bool false)))])
 (.ret))
 (.skip)))))
 (.ops false [
 oo 25 (.bin .add (.t 13) (ci 1)),
 oo 13 (.mov (.t 25))]))))

/-- slices.Equal[[]int,int] -/
def a84 : AFn := .mk 26
 (.seq (.ops false [
 oo 4 (.mov (.c (.bool false)))])
 (.seq (.seq (.ops false [
 oo 6 (.mov (.t 0)),
 oo 7 (.len (.t 6)),
 oo 8 (.mov (.t 1)),
 oo 9 (.len (.t 8)),
 oo 10 (.bin .neq (.t 7) (.t 9))])
 (.cond (.t 10)
 (.seq (.ops false [
 oo 4 (.mov (.c (.bool false)))])
 (.ret))
 (.skip)))
 (.seq (.seq (.ops false [
 oo 11 (.mov (.t 0)),
 oo 12 (.len (.t 11)),
 oo 13 (.mov (ci 0))])
 (.block 0 (.loop b84_0)))
 (.seq (.ops false [
 oo 4 (.mov (.c (.bool true)))])
 (.ret)))))
 [.t 4]

set_option maxRecDepth 100000 in
theorem ok84 : chkFn Try.prog 84 a84 = true := by kernel_rfl

def b85_0 : ACode :=
 (.seq (.ops false [
 oo 18 (.bin .lss (.t 17) (.t 16))])
 (.seq (.cond (.t 18)
 (.skip)
 (.exit 0))
 (.seq (.block 1 (.seq (.ops false [
 oo 19 (.mov (.t 17)),
 oo 20 (.iaddr none (.t 15) (.t 17)),
 oo 21 (.load none (.t 20)),
 oo 7 (.mov (.t 19)),
 oo 8 (.mov (.t 21))])
 (.seq (.ops false [
 oo 22 (.mov (.t 1)),
 oo 23 (.mov (.t 7)),
 oo 24 (.iaddr none (.t 22) (.t 23)),
 oo 25 (.load none (.t 24)),
 oo 9 (.mov (.t 25))])
 (.seq (.ops false [
 oo 26 (.mov (.t 2)),
 oo 27 (.mov (.t 8)),
 oo 28 (.mov (.t 9)),
 oo 29 (.callv false (.t 26) [(.t 27), (.t 28)]),
 oo 30 (.un .not (.t 29))])
 (.cond (.t 30)
 (.seq (.ops false [
 oo 6 (.mov (.c (.bool false)))])
 (.ret))
 (.skip))))))
 (.ops false [
 oo 31 (.bin .add (.t 17) (ci 1)),
 oo 17 (.mov (.t 31))]))))

/-- slices.EqualFunc[[][]pointsman/api.Row,[][]pointsman/api.Row,[]pointsman/api.Row,[]pointsman/api.Row] -/
def a85 : AFn := .mk 32
 (.seq (.ops false [
 oo 6 (.mov (.c (.bool false)))])
 (.seq (.seq (.ops false [
 oo 10 (.mov (.t 0)),
 oo 11 (.len (.t 10)),
 oo 12 (.mov (.t 1)),
 oo 13 (.len (.t 12)),
 oo 14 (.bin .neq (.t 11) (.t 13))])
 (.cond (.t 14)
 (.seq (.ops false [
 oo 6 (.mov (.c (.bool false)))])
 (.ret))
 (.skip)))
 (.seq (.seq (.ops false [
 oo 15 (.mov (.t 0)),
 oo 16 (.len (.t 15)),
 oo 17 (.mov (ci 0))])
 (.block 0 (.loop b85_0)))
 (.seq (.ops false [
 oo 6 (.mov (.c (.bool true)))])
 (.ret)))))
 [.t 6]

set_option maxRecDepth 100000 in
theorem ok85 : chkFn Try.prog 85 a85 = true := by kernel_rfl

def b64_0 : ACode :=
 (.seq (.ops false [
 oo 13 (.bin .lss (.t 12) (.t 11))])
 (.seq (.cond (.t 13)
 (.skip)
 (.exit 0))
 (.seq (.block 1 (.seq (.ops false [
 oo 14 (.mov (.t 12)),
 oo 4 (.mov (.t 14))])
 (.seq (.ops false [
 oo 16 (.ldI (some 2) (.t 1)),
 oo 17 (.mov (.t 4)),
 oo 18 (.convI .u16 (.t 17)),
 oo 19 (.call false 82 [(.t 16), (.t 18)]),
 oo 15 (.mov (.t 19)),
 oo 20 (.extract (.t 15) 0),
 oo 21 (.extract (.t 15) 1),
 oo 5 (.mov (.t 20)),
 oo 6 (.mov (.t 21))])
 (.seq (.seq (.ops false [
 oo 22 (.mov (.t 6)),
 oo 23 (.un .not (.t 22)),
 oo 24 (.mov (.t 23)),
 ⟨some 25, .mov (.t 4), some (24, false)⟩,
 ⟨some 26, .bin .gtr (.t 25) (ci 256), some (24, false)⟩,
 oo 27 (.pick (.t 24) (.c (.bool true)) (.t 26))])
 (.cond (.t 27)
 (.seq (.ops false [
 oo 2 (.mov (.c (.bool false)))])
 (.ret))
 (.skip)))
 (.ops false [
 oo 28 (.mov (.t 3)),
 oo 29 (.mov (.t 5)),
 oo 30 (.bsliceI none [(.t 29)]),
 oo 31 (.append none (.t 28) (.t 30) false),
 oo 3 (.mov (.t 31))])))))
 (.ops false [
 oo 32 (.bin .add (.t 12) (ci 1)),
 oo 12 (.mov (.t 32))]))))

/-- pointsman/merge.Right -/
def a64 : AFn := .mk 54
 (.seq (.ops false [
 oo 1 (.box (some 2) (.t 0) true),
 oo 2 (.mov (.c (.bool false)))])
 (.seq (.ops false [
 oo 3 (.mov (.c (.nils)))])
 (.seq (.seq (.ops false [
 oo 9 (.faddr 0 (.t 1)),
 oo 10 (.ldI none (.t 9)),
 oo 11 (.len (.t 10)),
 oo 12 (.mov (ci 0))])
 (.block 0 (.loop b64_0)))
 (.seq (.ops false [
 oo 34 (.mov (.t 3)),
 oo 35 (.call false 38 [(.t 34)]),
 oo 33 (.mov (.t 35)),
 oo 36 (.extract (.t 33) 0),
 oo 37 (.extract (.t 33) 1),
 oo 7 (.alloc [.vec none [], .vec none []]),
 ⟨none, .store (some 2) (.t 7) (.t 36), none⟩,
 oo 8 (.mov (.t 37))])
 (.seq (.ops false [
 oo 38 (.mov (.t 8)),
 oo 39 (.bin .eql (.t 38) (ci 0)),
 oo 40 (.mov (.t 39)),
 ⟨some 41, .faddr 0 (.t 1), some (40, true)⟩,
 ⟨some 42, .ldI none (.t 41), some (40, true)⟩,
 ⟨some 43, .faddr 0 (.t 7), some (40, true)⟩,
 ⟨some 44, .load none (.t 43), some (40, true)⟩,
 ⟨some 45, .call false 84 [(.t 42), (.t 44)], some (40, true)⟩,
 oo 46 (.pick (.t 40) (.t 45) (.c (.bool false))),
 oo 47 (.mov (.t 46)),
 ⟨some 48, .faddr 1 (.t 1), some (47, true)⟩,
 ⟨some 49, .ldI none (.t 48), some (47, true)⟩,
 ⟨some 50, .faddr 1 (.t 7), some (47, true)⟩,
 ⟨some 51, .load none (.t 50), some (47, true)⟩,
 ⟨some 52, .call false 85 [(.t 49), (.t 51), (.c (.func 67 []))], some (47, true)⟩,
 oo 53 (.pick (.t 47) (.t 52) (.c (.bool false))),
 oo 2 (.mov (.t 53))])
 (.ret))))))
 [.t 2]

set_option maxRecDepth 100000 in
theorem ok64 : chkFn Try.prog 64 a64 = true := by kernel_rfl

/-- pointsman/pointsmanlaw10.awake -/
def a37 : AFn := .mk 86
 (.seq (.ops false [
 oo 0 (.mov (.c (.bool false)))])
 (.seq (.ops false [
 oo 9 (.build [.int .i64 0, .int .u16 0] [(0, 1, (ci 1)), (1, 1, (.c (.int .u16 2)))]),
 oo 10 (.bsliceI (some 2) [(.t 9)]),
 oo 11 (.bsliceI none [(.t 10)]),
 oo 12 (.build [.vec (some 2) [], .vec none []] [(1, 1, (.t 11))]),
 oo 13 (.bsliceI (some 2) [(.t 12)]),
 oo 14 (.build [.vec (some 2) [], .vec none []] []),
 oo 15 (.bsliceI (some 2) [(.t 14)]),
 oo 1 (.mov (.t 13)),
 oo 2 (.mov (.t 15))])
 (.seq (.ops false [
 oo 17 (.mov (.t 1)),
 oo 18 (.mov (.t 2)),
 oo 19 (.mov (.t 1)),
 oo 20 (.bsliceI none [(.t 17), (.t 18), (.t 19)]),
 oo 21 (.call false 38 [(.t 20)]),
 oo 16 (.mov (.t 21)),
 oo 22 (.extract (.t 16) 0),
 oo 23 (.extract (.t 16) 1),
 oo 3 (.alloc [.vec none [], .vec none []]),
 ⟨none, .store (some 2) (.t 3) (.t 22), none⟩,
 oo 4 (.mov (.t 23))])
 (.seq (.ops false [
 oo 25 (.load (some 2) (.t 3)),
 oo 26 (.build [.int .u16 0, .int .u16 0, .int .u16 0, .int .u16 0, .int .u16 0, .int .u16 0, .int .u16 0, .int .u16 0] []),
 oo 27 (.call false 63 [(.t 25), (.c (.int .u16 2)), (.t 26)]),
 oo 24 (.mov (.t 27)),
 oo 28 (.extract (.t 24) 0),
 oo 29 (.extract (.t 24) 1),
 oo 5 (.mov (.t 28)),
 oo 6 (.mov (.t 29))])
 (.seq (.ops false [
 oo 31 (.load (some 2) (.t 3)),
 oo 32 (.build [.int .u16 0, .int .u16 0, .int .u16 0, .int .u16 0, .int .u16 0, .int .u16 0, .int .u16 0, .int .u16 0] []),
 oo 33 (.call false 63 [(.t 31), (.c (.int .u16 3)), (.t 32)]),
 oo 30 (.mov (.t 33)),
 oo 34 (.extract (.t 30) 0),
 oo 35 (.extract (.t 30) 1),
 oo 7 (.mov (.t 34)),
 oo 8 (.mov (.t 35))])
 (.seq (.ops false [
 oo 36 (.mov (.t 4)),
 oo 37 (.bin .eql (.t 36) (ci 0)),
 oo 38 (.mov (.t 37)),
 ⟨some 39, .mov (.t 6), some (38, true)⟩,
 ⟨some 40, .bin .eql (.t 39) (ci 0), some (38, true)⟩,
 oo 41 (.pick (.t 38) (.t 40) (.c (.bool false))),
 oo 42 (.mov (.t 41)),
 ⟨some 43, .mov (.t 8), some (42, true)⟩,
 ⟨some 44, .bin .eql (.t 43) (ci 31), some (42, true)⟩,
 oo 45 (.pick (.t 42) (.t 44) (.c (.bool false))),
 oo 46 (.mov (.t 45)),
 ⟨some 47, .faddr 1 (.t 3), some (46, true)⟩,
 ⟨some 48, .load none (.t 47), some (46, true)⟩,
 ⟨some 49, .len (.t 48), some (46, true)⟩,
 ⟨some 50, .bin .eql (.t 49) (ci 2), some (46, true)⟩,
 oo 51 (.pick (.t 46) (.t 50) (.c (.bool false))),
 oo 52 (.mov (.t 51)),
 ⟨some 53, .faddr 0 (.t 3), some (52, true)⟩,
 ⟨some 54, .load none (.t 53), some (52, true)⟩,
 ⟨some 55, .len (.t 54), some (52, true)⟩,
 ⟨some 56, .bin .eql (.t 55) (ci 3), some (52, true)⟩,
 oo 57 (.pick (.t 52) (.t 56) (.c (.bool false))),
 oo 58 (.mov (.t 57)),
 ⟨some 59, .faddr 0 (.t 3), some (58, true)⟩,
 ⟨some 60, .load none (.t 59), some (58, true)⟩,
 ⟨some 61, .iaddr none (.t 60) (ci 2), some (58, true)⟩,
 ⟨some 62, .load none (.t 61), some (58, true)⟩,
 ⟨some 63, .bin .eql (.t 62) (ci 0), some (58, true)⟩,
 oo 64 (.pick (.t 58) (.t 63) (.c (.bool false))),
 oo 65 (.mov (.t 64)),
 ⟨some 66, .mov (.t 5), some (65, true)⟩,
 ⟨some 67, .len (.t 66), some (65, true)⟩,
 ⟨some 68, .bin .eql (.t 67) (ci 1), some (65, true)⟩,
 oo 69 (.pick (.t 65) (.t 68) (.c (.bool false))),
 oo 70 (.mov (.t 69)),
 ⟨some 71, .mov (.t 5), some (70, true)⟩,
 ⟨some 72, .iaddr (some 8) (.t 71) (ci 0), some (70, true)⟩,
 ⟨some 73, .iaddrA 8 none (.t 72) (ci 1), some (70, true)⟩,
 ⟨some 74, .load none (.t 73), some (70, true)⟩,
 ⟨some 75, .bin .eql (.t 74) (.c (.int .u16 2)), some (70, true)⟩,
 oo 76 (.pick (.t 70) (.t 75) (.c (.bool false))),
 oo 77 (.mov (.t 76)),
 ⟨some 78, .load (some 2) (.t 3), some (77, true)⟩,
 ⟨some 79, .call false 39 [(.t 78)], some (77, true)⟩,
 ⟨some 80, .bin .eql (.t 79) (ci 2), some (77, true)⟩,
 oo 81 (.pick (.t 77) (.t 80) (.c (.bool false))),
 oo 82 (.mov (.t 81)),
 ⟨some 83, .load (some 2) (.t 3), some (82, true)⟩,
 ⟨some 84, .call false 64 [(.t 83)], some (82, true)⟩,
 oo 85 (.pick (.t 82) (.t 84) (.c (.bool false))),
 oo 0 (.mov (.t 85))])
 (.ret)))))))
 [.t 0]

set_option maxRecDepth 100000 in
theorem ok37 : chkFn Try.prog 37 a37 = true := by kernel_rfl

def b10_1 : ACode :=
 (.seq (.ops false [
 oo 36 (.bin .lss (.t 35) (.t 34))])
 (.seq (.cond (.t 36)
 (.skip)
 (.exit 2))
 (.seq (.block 3 (.ops false [
 oo 37 (.mov (.t 5)),
 oo 38 (.mov (.t 7)),
 oo 39 (.bsliceI none [(.t 38)]),
 oo 40 (.append none (.t 37) (.t 39) false),
 oo 5 (.mov (.t 40))]))
 (.ops false [
 oo 41 (.bin .add (.t 35) (.c (.int .u8 1))),
 oo 35 (.mov (.t 41))]))))

def b10_0 : ACode :=
 (.seq (.ops false [
 oo 24 (.bin .lss (.t 23) (.t 22))])
 (.seq (.cond (.t 24)
 (.skip)
 (.exit 0))
 (.seq (.block 1 (.seq (.ops false [
 oo 25 (.mov (.t 23)),
 oo 6 (.mov (.t 25))])
 (.seq (.ops false [
 oo 26 (.mkslice (some 2) (.agg [.vec (some 2) [], .vec none []]) (ci 100) (ci 100)),
 oo 7 (.mov (.t 26))])
 (.seq (.ops false [
 oo 27 (.mov (.t 7)),
 oo 28 (.mov (.t 6)),
 oo 29 (.convI .u16 (.t 28)),
 oo 30 (.build [.int .i64 0, .int .u16 0] [(0, 1, (ci 2)), (1, 1, (.t 29))]),
 oo 31 (.bsliceI (some 2) [(.t 30)]),
 oo 32 (.iaddr (some 2) (.t 27) (ci 0)),
 oo 33 (.faddr 0 (.t 32)),
 ⟨none, .store none (.t 33) (.t 31), none⟩])
 (.seq (.ops false [
 oo 34 (.mov (.t 1)),
 oo 35 (.mov (.c (.int .u8 0)))])
 (.block 2 (.loop b10_1)))))))
 (.ops false [
 oo 42 (.bin .add (.t 23) (.c (.int .u8 1))),
 oo 23 (.mov (.t 42))]))))

/-- pointsman/pointsmanlaw10.MergeFull -/
def a10 : AFn := .mk 87
 (.seq (.ops false [
 oo 4 (.mov (.c (.bool false)))])
 (.seq (.seq (.ops false [
 oo 10 (.call false 37 []),
 oo 11 (.un .not (.t 10))])
 (.cond (.t 11)
 (.seq (.ops false [
 oo 4 (.mov (.c (.bool false)))])
 (.ret))
 (.skip)))
 (.seq (.seq (.ops false [
 oo 12 (.mov (.t 0)),
 oo 13 (.bin .gtr (.t 12) (.c (.int .u8 15))),
 oo 14 (.mov (.t 13)),
 ⟨some 15, .mov (.t 1), some (14, false)⟩,
 ⟨some 16, .bin .lss (.t 15) (.c (.int .u8 1)), some (14, false)⟩,
 oo 17 (.pick (.t 14) (.c (.bool true)) (.t 16)),
 oo 18 (.mov (.t 17)),
 ⟨some 19, .mov (.t 1), some (18, false)⟩,
 ⟨some 20, .bin .gtr (.t 19) (.c (.int .u8 3)), some (18, false)⟩,
 oo 21 (.pick (.t 18) (.c (.bool true)) (.t 20))])
 (.cond (.t 21)
 (.seq (.ops false [
 oo 4 (.mov (.c (.bool true)))])
 (.ret))
 (.skip)))
 (.seq (.ops false [
 oo 5 (.mov (.c (.nils)))])
 (.seq (.seq (.ops false [
 oo 22 (.mov (.t 0)),
 oo 23 (.mov (.c (.int .u8 0)))])
 (.block 0 (.loop b10_0)))
 (.seq (.ops false [
 oo 44 (.mov (.t 5)),
 oo 45 (.call false 38 [(.t 44)]),
 oo 43 (.mov (.t 45)),
 oo 46 (.extract (.t 43) 0),
 oo 47 (.extract (.t 43) 1),
 oo 8 (.alloc [.vec none [], .vec none []]),
 ⟨none, .store (some 2) (.t 8) (.t 46), none⟩,
 oo 9 (.mov (.t 47))])
 (.seq (.seq (.ops false [
 oo 48 (.mov (.t 0)),
 oo 49 (.bin .gtr (.t 48) (.c (.int .u8 10)))])
 (.cond (.t 49)
 (.seq (.ops false [
 oo 50 (.mov (.t 9)),
 oo 51 (.bin .eql (.t 50) (ci 24)),
 oo 52 (.mov (.t 51)),
 ⟨some 53, .faddr 1 (.t 8), some (52, true)⟩,
 ⟨some 54, .load none (.t 53), some (52, true)⟩,
 ⟨some 55, .len (.t 54), some (52, true)⟩,
 ⟨some 56, .bin .eql (.t 55) (ci 0), some (52, true)⟩,
 oo 57 (.pick (.t 52) (.t 56) (.c (.bool false))),
 oo 4 (.mov (.t 57))])
 (.ret))
 (.skip)))
 (.seq (.ops false [
 oo 58 (.mov (.t 9)),
 oo 59 (.bin .eql (.t 58) (ci 0)),
 oo 60 (.mov (.t 59)),
 ⟨some 61, .load (some 2) (.t 8), some (60, true)⟩,
 ⟨some 62, .call false 39 [(.t 61)], some (60, true)⟩,
 ⟨some 63, .mov (.t 0), some (60, true)⟩,
 ⟨some 64, .convI .i64 (.t 63), some (60, true)⟩,
 ⟨some 65, .bin .mul (ci 100) (.t 64), some (60, true)⟩,
 ⟨some 66, .bin .eql (.t 62) (.t 65), some (60, true)⟩,
 oo 67 (.pick (.t 60) (.t 66) (.c (.bool false))),
 oo 68 (.mov (.t 67)),
 ⟨some 69, .faddr 0 (.t 8), some (68, true)⟩,
 ⟨some 70, .load none (.t 69), some (68, true)⟩,
 ⟨some 71, .len (.t 70), some (68, true)⟩,
 ⟨some 72, .mov (.t 0), some (68, true)⟩,
 ⟨some 73, .convI .i64 (.t 72), some (68, true)⟩,
 ⟨some 74, .mov (.t 1), some (68, true)⟩,
 ⟨some 75, .convI .i64 (.t 74), some (68, true)⟩,
 ⟨some 76, .bin .mul (.t 73) (.t 75), some (68, true)⟩,
 ⟨some 77, .bin .eql (.t 71) (.t 76), some (68, true)⟩,
 oo 78 (.pick (.t 68) (.t 77) (.c (.bool false))),
 oo 79 (.mov (.t 78)),
 ⟨some 80, .faddr 1 (.t 8), some (79, true)⟩,
 ⟨some 81, .load none (.t 80), some (79, true)⟩,
 ⟨some 82, .len (.t 81), some (79, true)⟩,
 ⟨some 83, .mov (.t 0), some (79, true)⟩,
 ⟨some 84, .convI .i64 (.t 83), some (79, true)⟩,
 ⟨some 85, .bin .eql (.t 82) (.t 84), some (79, true)⟩,
 oo 86 (.pick (.t 79) (.t 85) (.c (.bool false))),
 oo 4 (.mov (.t 86))])
 (.ret)))))))))
 [.t 4]

set_option maxRecDepth 100000 in
theorem ok10 : chkFn Try.prog 10 a10 = true := by kernel_rfl

@[reducible] def vl0 (x : List api_Pair) : V := .d (eL (some 2) eapi_Pair x)
@[reducible] def vl1 (x : List api_Row) : V := .d (eL (some 2) eapi_Row x)
@[reducible] def vl2 (x : List Int) : V := .d (eL none (D.int .i64) x)
@[reducible] def vp0 (x : api_Table) : V := .d (.cptr (some 2) (eapi_Table x) 0)
@[reducible] def vp1 (x : api_Pair) : V := .d (.cptr (some 2) (eapi_Pair x) 0)
@[reducible] def vp2 (x : api_Row) : V := .d (.cptr (some 2) (eapi_Row x) 0)
@[reducible] def vs2 (x : api_Table) : V := .d (eapi_Table x)
@[reducible] def vs3 (x : api_Row) : V := .d (eapi_Row x)
@[reducible] def bv0 : Blk := .var [vh 0, vh 0, vh 0, vh 0, vh 0, vh 0, vh 0, vh 0]

end Go.AM
