import Derived.Test.YtfjelgjfbjjopaaAmN8
import Derived.Test.YtfjelgjfbjjopaaAmSl
import Derived.Test.YtfjelgjfbjjopaaGrS
import Derived.Test.YtfjelgjfbjjopaaAmW
import Derived.Test.YtfjelgjfbjjopaaGrT
import Derived.Test.YtfjelgjfbjjopaaProg
set_option linter.unusedVariables false
set_option linter.unusedSimpArgs false
namespace Go.AM
open Go Go.RowKit Go.Proofs
def eapi_Port (x : api_Port) : D := .agg ((D.int .u16) x.Sw :: ((D.int .u16) x.Pt :: []))
def eapi_Topo (x : api_Topo) : D := .agg ((eL none (D.int .u16)) x.Switches :: ((eL (some 4) (bW eapi_Port)) x.Links :: ((eL (some 2) eapi_Port) x.Hosts :: [])))
theorem tK (x y : api_Port) : gn [.int, .int] (.d (eapi_Port x)) (.d (eapi_Port y)) = some (x == y) := by
  refine (sb rfl rfl (oW rfl (oW rfl rfl))).trans (congrArg some ?_)
  rw [Bool.eq_iff_iff]
  obtain ⟨x0, x1⟩ := x
  obtain ⟨y0, y1⟩ := y
  simp [sd, and_assoc]
def tL : bb :=
 (.seq (.ops false [
 oo 9 (.bin .lss (.t 8) (.t 7))])
 (.seq (.cond (.t 9)
 (.skip)
 (.exit 0))
 (.seq (.block 1 (.seq (.ops false [
 oo 10 (.mov (.t 8)),
 oo 5 (.mov (.t 10))])
 (.seq (.ops false [
 oo 11 (.mov (.t 1)),
 oo 12 (.mov (.t 0)),
 oo 13 (.mov (.t 5)),
 oo 14 (.iaddr none (.t 12) (.t 13)),
 oo 15 (.load none (.t 14)),
 oo 16 (.bin .eql (.t 11) (.t 15))])
 (.cond (.t 16)
 (.seq (.ops false [
 oo 17 (.mov (.t 5)),
 oo 4 (.mov (.t 17))])
 (.ret))
 (.skip)))))
 (.ops false [
 oo 18 (.bin .add (.t 8) (ci 1)),
 oo 8 (.mov (.t 18))]))))
def tM : b7 := .mk 19
 (.seq (.ops false [
 oo 4 (.mov (ci 0))])
 (.seq (.seq (.ops false [
 oo 6 (.mov (.t 0)),
 oo 7 (.len (.t 6)),
 oo 8 (.mov (ci 0))])
 (.block 0 (.loop tL)))
 (.seq (.ops false [
 oo 4 (.mov (ci (-1)))])
 (.ret))))
 [.t 4]
set_option maxRecDepth 100000 in
theorem tN : cb Try.prog 81 tM = true := by kernel_rfl
def tO : b7 := .mk 15
 (.seq (.ops false [
 oo 2 (.box (some 3) (.t 0) true),
 oo 4 (.mov (ci 0)),
 oo 5 (.mov (.c (.bool false)))])
 (.seq (.ops false [
 oo 7 (.faddr 0 (.t 2)),
 oo 8 (.ldI none (.t 7)),
 oo 9 (.mov (.t 1)),
 oo 10 (.call false 81 [(.t 8), (.t 9)]),
 oo 6 (.mov (.t 10))])
 (.seq (.ops false [
 oo 11 (.mov (.t 6)),
 oo 12 (.max2 (.t 11) (ci 0)),
 oo 13 (.mov (.t 6)),
 oo 14 (.bin .geq (.t 13) (ci 0)),
 oo 4 (.mov (.t 12)),
 oo 5 (.mov (.t 14))])
 (.ret))))
 [.t 4, .t 5]
set_option maxRecDepth 100000 in
theorem tP : cb Try.prog 61 tO = true := by kernel_rfl
def tQ : bb :=
 (.seq (.seq (.ops false [
 oo 29 (.mov (.t 5)),
 oo 30 (.mov (.t 4)),
 oo 31 (.len (.t 30)),
 oo 32 (.bin .lss (.t 29) (.t 31))])
 (.cond (.t 32)
 (.skip)
 (.exit 2)))
 (.seq (.block 3 (.seq (.ops true [
 oo 35 (.mov (.t 4)),
 oo 36 (.mov (.t 5)),
 oo 37 (.iaddr none (.t 35) (.t 36)),
 oo 38 (.load none (.t 37)),
 oo 39 (.mov (.t 4)),
 oo 40 (.mov (.t 5)),
 oo 41 (.bin .sub (.t 40) (ci 1)),
 oo 42 (.iaddr none (.t 39) (.t 41)),
 oo 43 (.load none (.t 42)),
 oo 44 (.bin .neq (.t 38) (.t 43))])
 (.cond (.t 44)
 (.seq (.ops false [
 oo 45 (.mov (.t 0)),
 oo 46 (.mov (.t 3)),
 oo 47 (.mov (.t 4)),
 oo 48 (.mov (.t 5)),
 oo 49 (.iaddr none (.t 47) (.t 48)),
 oo 50 (.load none (.t 49)),
 oo 51 (.iaddr none (.t 45) (.t 46)),
 ⟨none, .store none (.t 51) (.t 50), none⟩])
 (.ops false [
 oo 52 (.mov (.t 3)),
 oo 53 (.bin .add (.t 52) (ci 1)),
 oo 3 (.mov (.t 53))]))
 (.skip))))
 (.ops false [
 oo 33 (.mov (.t 5)),
 oo 34 (.bin .add (.t 33) (ci 1)),
 oo 5 (.mov (.t 34))])))
def tR : bb :=
 (.seq (.seq (.ops false [
 oo 10 (.mov (.t 3)),
 oo 11 (.mov (.t 0)),
 oo 12 (.len (.t 11)),
 oo 13 (.bin .lss (.t 10) (.t 12))])
 (.cond (.t 13)
 (.skip)
 (.exit 0)))
 (.seq (.block 1 (.seq (.ops true [
 oo 16 (.mov (.t 0)),
 oo 17 (.mov (.t 3)),
 oo 18 (.iaddr none (.t 16) (.t 17)),
 oo 19 (.load none (.t 18)),
 oo 20 (.mov (.t 0)),
 oo 21 (.mov (.t 3)),
 oo 22 (.bin .sub (.t 21) (ci 1)),
 oo 23 (.iaddr none (.t 20) (.t 22)),
 oo 24 (.load none (.t 23)),
 oo 25 (.bin .eql (.t 19) (.t 24))])
 (.cond (.t 25)
 (.seq (.ops false [
 oo 26 (.mov (.t 0)),
 oo 27 (.mov (.t 3)),
 oo 28 (.slc none (.t 26) (some (.t 27)) none),
 oo 4 (.mov (.t 28))])
 (.seq (.seq (.ops false [
 oo 5 (.mov (ci 1))])
 (.block 2 (.loop tQ)))
 (.seq (.ops false [
 oo 54 (.mov (.t 0)),
 oo 55 (.mov (.t 3)),
 oo 56 (.slc none (.t 54) (some (.t 55)) none),
 ⟨none, .clear none [.int .i64 0] (.t 56), none⟩])
 (.seq (.ops false [
 oo 57 (.mov (.t 0)),
 oo 58 (.mov (.t 3)),
 oo 59 (.slc none (.t 57) none (some (.t 58))),
 oo 2 (.mov (.t 59))])
 (.ret)))))
 (.skip))))
 (.ops false [
 oo 14 (.mov (.t 3)),
 oo 15 (.bin .add (.t 14) (ci 1)),
 oo 3 (.mov (.t 15))])))
def tS : b7 := .mk 61
 (.seq (.ops false [
 oo 2 (.mov (.c (.nils)))])
 (.seq (.seq (.ops false [
 oo 6 (.mov (.t 0)),
 oo 7 (.len (.t 6)),
 oo 8 (.bin .lss (.t 7) (ci 2))])
 (.cond (.t 8)
 (.seq (.ops false [
 oo 9 (.mov (.t 0)),
 oo 2 (.mov (.t 9))])
 (.ret))
 (.skip)))
 (.seq (.seq (.ops false [
 oo 3 (.mov (ci 1))])
 (.block 0 (.loop tR)))
 (.seq (.ops false [
 oo 60 (.mov (.t 0)),
 oo 2 (.mov (.t 60))])
 (.ret)))))
 [.t 2]
set_option maxRecDepth 100000 in
theorem tT : cb Try.prog 80 tS = true := by kernel_rfl
def tU : b7 := .mk 13
 (.seq (.ops false [
 oo 4 (.mov (.c (.bool false)))])
 (.seq (.ops false [
 oo 5 (.mov (.t 1)),
 oo 6 (.bin .geq (.t 5) (ci 0)),
 oo 7 (.mov (.t 6)),
 ⟨some 8, .mov (.t 1), some (7, true)⟩,
 ⟨some 9, .mov (.t 0), some (7, true)⟩,
 ⟨some 10, .len (.t 9), some (7, true)⟩,
 ⟨some 11, .bin .lss (.t 8) (.t 10), some (7, true)⟩,
 oo 12 (.pick (.t 7) (.t 11) (.c (.bool false))),
 oo 4 (.mov (.t 12))])
 (.ret)))
 [.t 4]
set_option maxRecDepth 100000 in
theorem tV : cb Try.prog 57 tU = true := by kernel_rfl
def tW : b7 := .mk 15
 (.seq (.ops false [
 oo 4 (.mov (.c (.bool false)))])
 (.seq (.ops true [
 oo 5 (.load none (.t 1)),
 oo 6 (.mov (.t 0)),
 oo 7 (.iaddr none (.t 5) (.t 6)),
 oo 8 (.load none (.t 7)),
 oo 9 (.load none (.t 1)),
 oo 10 (.load none (.t 2)),
 oo 11 (.iaddr none (.t 9) (.t 10)),
 oo 12 (.load none (.t 11)),
 oo 13 (.bin .sub (.t 12) (ci 1)),
 oo 14 (.bin .eql (.t 8) (.t 13)),
 oo 4 (.mov (.t 14))])
 (.ret)))
 [.t 4]
set_option maxRecDepth 100000 in
theorem tX : cb Try.prog 60 tW = true := by kernel_rfl
def tY : bb :=
 (.seq (.ops false [
 oo 9 (.bin .lss (.t 8) (.t 7))])
 (.seq (.cond (.t 9)
 (.skip)
 (.exit 0))
 (.seq (.block 1 (.seq (.ops false [
 oo 10 (.mov (.t 8)),
 oo 5 (.mov (.t 10))])
 (.seq (.ops false [
 oo 11 (.mov (.t 1)),
 oo 12 (.mov (.t 0)),
 oo 13 (.mov (.t 5)),
 oo 14 (.iaddr none (.t 12) (.t 13)),
 oo 15 (.load none (.t 14)),
 oo 16 (.callv false (.t 11) [(.t 15)])])
 (.cond (.t 16)
 (.seq (.ops false [
 oo 17 (.mov (.t 5)),
 oo 4 (.mov (.t 17))])
 (.ret))
 (.skip)))))
 (.ops false [
 oo 18 (.bin .add (.t 8) (ci 1)),
 oo 8 (.mov (.t 18))]))))
def tZ : b7 := .mk 19
 (.seq (.ops false [
 oo 4 (.mov (ci 0))])
 (.seq (.seq (.ops false [
 oo 6 (.mov (.t 0)),
 oo 7 (.len (.t 6)),
 oo 8 (.mov (ci 0))])
 (.block 0 (.loop tY)))
 (.seq (.ops false [
 oo 4 (.mov (ci (-1)))])
 (.ret))))
 [.t 4]
set_option maxRecDepth 100000 in
theorem t1 : cb Try.prog 59 tZ = true := by kernel_rfl
def t6 : bb :=
 (.seq (.seq (.ops false [
 oo 36 (.load none (.t 11)),
 oo 37 (.mov (.t 2)),
 oo 38 (.bin .neq (.t 36) (.t 37))])
 (.cond (.t 38)
 (.skip)
 (.exit 0)))
 (.seq (.block 1 (.seq (.ops false [
 oo 39 (.mov (.t 8)),
 oo 40 (.load none (.t 11)),
 oo 41 (.iaddr none (.t 39) (.t 40)),
 oo 42 (.load none (.t 41)),
 oo 43 (.mkfunc 60 [(.t 9), (.t 11)]),
 oo 44 (.call true 59 [(.t 42), (.t 43)]),
 oo 12 (.mov (.t 44))])
 (.seq (.ops false [
 oo 45 (.mov (.t 8)),
 oo 46 (.load none (.t 11)),
 oo 47 (.iaddr none (.t 45) (.t 46)),
 oo 48 (.load none (.t 47)),
 oo 49 (.mov (.t 12)),
 oo 50 (.iaddr none (.t 48) (.t 49)),
 oo 51 (.load none (.t 50)),
 ⟨none, .store none (.t 11) (.t 51), none⟩])
 (.ops false [
 oo 52 (.mov (.t 10)),
 oo 53 (.load none (.t 11)),
 oo 54 (.bsliceI none [(.t 53)]),
 oo 55 (.append none (.t 52) (.t 54) false),
 oo 10 (.mov (.t 55))]))))
 (.seq (.ops false [
 oo 56 (.load none (.t 11))])
 (.ops false [
 oo 11 (.alloc [.int .i64 0]),
 ⟨none, .store none (.t 11) (.t 56), none⟩]))))
def t7 : b7 := .mk 58
 (.seq (.ops false [
 oo 3 (.box (some 3) (.t 0) true),
 oo 6 (.mov (.c (.vec none []))),
 oo 7 (.mov (.c (.bool false)))])
 (.seq (.ops false [
 oo 13 (.ldI (some 3) (.t 3)),
 oo 14 (.call false 56 [(.t 13), (ci (-1))]),
 oo 8 (.mov (.t 14))])
 (.seq (.seq (.ops false [
 oo 15 (.mov (.t 8)),
 oo 16 (.mov (.t 1)),
 oo 17 (.call false 57 [(.t 15), (.t 16)]),
 oo 18 (.un .not (.t 17)),
 oo 19 (.mov (.t 18)),
 ⟨some 20, .mov (.t 8), some (19, false)⟩,
 ⟨some 21, .mov (.t 2), some (19, false)⟩,
 ⟨some 22, .call false 57 [(.t 20), (.t 21)], some (19, false)⟩,
 ⟨some 23, .un .not (.t 22), some (19, false)⟩,
 oo 24 (.pick (.t 19) (.c (.bool true)) (.t 23))])
 (.cond (.t 24)
 (.seq (.ops false [
 oo 6 (.mov (.c (.vec none []))),
 oo 7 (.mov (.c (.bool false)))])
 (.ret))
 (.skip)))
 (.seq (.ops false [
 oo 25 (.mov (.t 8)),
 oo 26 (.mov (.t 2)),
 oo 27 (.call false 58 [(.t 25), (.t 26)]),
 oo 9 (.alloc [.vec none []]),
 ⟨none, .store none (.t 9) (.t 27), none⟩])
 (.seq (.seq (.ops false [
 oo 28 (.load none (.t 9)),
 oo 29 (.mov (.t 1)),
 oo 30 (.iaddr none (.t 28) (.t 29)),
 oo 31 (.load none (.t 30)),
 oo 32 (.bin .lss (.t 31) (ci 0))])
 (.cond (.t 32)
 (.seq (.ops false [
 oo 6 (.mov (.c (.vec none []))),
 oo 7 (.mov (.c (.bool false)))])
 (.ret))
 (.skip)))
 (.seq (.ops false [
 oo 33 (.mov (.t 1)),
 oo 34 (.bslice none [(.t 33)] false),
 oo 10 (.mov (.t 34))])
 (.seq (.seq (.ops false [
 oo 35 (.mov (.t 1)),
 oo 11 (.alloc [.int .i64 0]),
 ⟨none, .store none (.t 11) (.t 35), none⟩])
 (.block 0 (.loop t6)))
 (.seq (.ops false [
 oo 57 (.mov (.t 10)),
 oo 6 (.mov (.t 57)),
 oo 7 (.mov (.c (.bool true)))])
 (.ret)))))))))
 [.t 6, .t 7]
set_option maxRecDepth 100000 in
theorem t8 : cb Try.prog 23 t7 = true := by kernel_rfl
def ua : bb :=
 (.seq (.ops false [
 oo 51 (.bin .lss (.t 50) (.t 49))])
 (.seq (.cond (.t 51)
 (.skip)
 (.exit 0))
 (.seq (.block 1 (.seq (.ops false [
 oo 52 (.iaddr (some 4) (.t 48) (.t 50)),
 oo 53 (.load (some 4) (.t 52)),
 oo 11 (.alloc [.int .u16 0, .int .u16 0, .int .u16 0, .int .u16 0]),
 ⟨none, .store (some 4) (.t 11) (.t 53), none⟩])
 (.block 2 (.seq (.ops false [
 oo 55 (.iaddrA 2 (some 2) (.t 11) (ci 0)),
 oo 56 (.faddr 0 (.t 55)),
 oo 57 (.load none (.t 56)),
 oo 58 (.mov (.t 8)),
 oo 59 (.bin .eql (.t 57) (.t 58)),
 oo 60 (.mov (.t 59)),
 ⟨some 61, .iaddrA 2 (some 2) (.t 11) (ci 1), some (60, true)⟩,
 ⟨some 62, .faddr 0 (.t 61), some (60, true)⟩,
 ⟨some 63, .load none (.t 62), some (60, true)⟩,
 ⟨some 64, .mov (.t 9), some (60, true)⟩,
 ⟨some 65, .bin .eql (.t 63) (.t 64), some (60, true)⟩,
 oo 66 (.pick (.t 60) (.t 65) (.c (.bool false))),
 oo 54 (.mov (.t 66))])
 (.cond (.t 54)
 (.seq (.ops false [
 oo 67 (.iaddrA 2 (some 2) (.t 11) (ci 0)),
 oo 68 (.faddr 1 (.t 67)),
 oo 69 (.load none (.t 68)),
 oo 6 (.mov (.t 69)),
 oo 7 (.mov (.c (.bool true)))])
 (.ret))
 (.seq (.ops false [
 oo 71 (.iaddrA 2 (some 2) (.t 11) (ci 1)),
 oo 72 (.faddr 0 (.t 71)),
 oo 73 (.load none (.t 72)),
 oo 74 (.mov (.t 8)),
 oo 75 (.bin .eql (.t 73) (.t 74)),
 oo 76 (.mov (.t 75)),
 ⟨some 77, .iaddrA 2 (some 2) (.t 11) (ci 0), some (76, true)⟩,
 ⟨some 78, .faddr 0 (.t 77), some (76, true)⟩,
 ⟨some 79, .load none (.t 78), some (76, true)⟩,
 ⟨some 80, .mov (.t 9), some (76, true)⟩,
 ⟨some 81, .bin .eql (.t 79) (.t 80), some (76, true)⟩,
 oo 82 (.pick (.t 76) (.t 81) (.c (.bool false))),
 oo 70 (.mov (.t 82))])
 (.cond (.t 70)
 (.seq (.ops false [
 oo 83 (.iaddrA 2 (some 2) (.t 11) (ci 1)),
 oo 84 (.faddr 1 (.t 83)),
 oo 85 (.load none (.t 84)),
 oo 6 (.mov (.t 85)),
 oo 7 (.mov (.c (.bool true)))])
 (.ret))
 (.skip))))))))
 (.ops false [
 oo 86 (.bin .add (.t 50) (ci 1)),
 oo 50 (.mov (.t 86))]))))
def a28 : b7 := .mk 87
 (.seq (.ops false [
 oo 3 (.box (some 3) (.t 0) true),
 oo 6 (.mov (.c (.int .u16 0))),
 oo 7 (.mov (.c (.bool false)))])
 (.seq (.seq (.ops false [
 oo 12 (.mov (.t 1)),
 oo 13 (.bin .lss (.t 12) (ci 0)),
 oo 14 (.mov (.t 13)),
 ⟨some 15, .mov (.t 1), some (14, false)⟩,
 ⟨some 16, .faddr 0 (.t 3), some (14, false)⟩,
 ⟨some 17, .ldI none (.t 16), some (14, false)⟩,
 ⟨some 18, .len (.t 17), some (14, false)⟩,
 ⟨some 19, .bin .geq (.t 15) (.t 18), some (14, false)⟩,
 oo 20 (.pick (.t 14) (.c (.bool true)) (.t 19)),
 oo 21 (.mov (.t 20)),
 ⟨some 22, .mov (.t 2), some (21, false)⟩,
 ⟨some 23, .bin .lss (.t 22) (ci 0), some (21, false)⟩,
 oo 24 (.pick (.t 21) (.c (.bool true)) (.t 23)),
 oo 25 (.mov (.t 24)),
 ⟨some 26, .mov (.t 2), some (25, false)⟩,
 ⟨some 27, .faddr 0 (.t 3), some (25, false)⟩,
 ⟨some 28, .ldI none (.t 27), some (25, false)⟩,
 ⟨some 29, .len (.t 28), some (25, false)⟩,
 ⟨some 30, .bin .geq (.t 26) (.t 29), some (25, false)⟩,
 oo 31 (.pick (.t 25) (.c (.bool true)) (.t 30)),
 oo 32 (.mov (.t 31)),
 ⟨some 33, .mov (.t 1), some (32, false)⟩,
 ⟨some 34, .mov (.t 2), some (32, false)⟩,
 ⟨some 35, .bin .eql (.t 33) (.t 34), some (32, false)⟩,
 oo 36 (.pick (.t 32) (.c (.bool true)) (.t 35))])
 (.cond (.t 36)
 (.seq (.ops false [
 oo 6 (.mov (.c (.int .u16 0))),
 oo 7 (.mov (.c (.bool false)))])
 (.ret))
 (.skip)))
 (.seq (.ops true [
 oo 37 (.faddr 0 (.t 3)),
 oo 38 (.ldI none (.t 37)),
 oo 39 (.mov (.t 1)),
 oo 40 (.iaddr none (.t 38) (.t 39)),
 oo 41 (.load none (.t 40)),
 oo 42 (.faddr 0 (.t 3)),
 oo 43 (.ldI none (.t 42)),
 oo 44 (.mov (.t 2)),
 oo 45 (.iaddr none (.t 43) (.t 44)),
 oo 46 (.load none (.t 45)),
 oo 8 (.mov (.t 41)),
 oo 9 (.mov (.t 46))])
 (.seq (.seq (.ops false [
 oo 47 (.faddr 1 (.t 3)),
 oo 48 (.ldI none (.t 47)),
 oo 49 (.len (.t 48)),
 oo 50 (.mov (ci 0))])
 (.block 0 (.loop ua)))
 (.seq (.ops false [
 oo 6 (.mov (.c (.int .u16 0))),
 oo 7 (.mov (.c (.bool false)))])
 (.ret))))))
 [.t 6, .t 7]
set_option maxRecDepth 100000 in
theorem ub : cb Try.prog 28 a28 = true := by kernel_rfl
def uc : bb :=
 (.seq (.ops false [
 oo 14 (.bin .lss (.t 13) (.t 12))])
 (.seq (.cond (.t 14)
 (.skip)
 (.exit 0))
 (.seq (.block 1 (.seq (.ops false [
 oo 15 (.mov (.t 13)),
 oo 5 (.mov (.t 15))])
 (.seq (.ops true [
 oo 16 (.mov (.t 0)),
 oo 17 (.mov (.t 5)),
 oo 18 (.iaddr none (.t 16) (.t 17)),
 oo 19 (.load none (.t 18)),
 oo 20 (.mov (.t 1)),
 oo 21 (.mov (.t 5)),
 oo 22 (.iaddr none (.t 20) (.t 21)),
 oo 23 (.load none (.t 22)),
 oo 24 (.bin .neq (.t 19) (.t 23))])
 (.cond (.t 24)
 (.seq (.ops false [
 oo 4 (.mov (.c (.bool false)))])
 (.ret))
 (.skip)))))
 (.ops false [
 oo 25 (.bin .add (.t 13) (ci 1)),
 oo 13 (.mov (.t 25))]))))
def ud : b7 := .mk 26
 (.seq (.ops false [
 oo 4 (.mov (.c (.bool false)))])
 (.seq (.seq (.ops false [
 oo 6 (.mov (.t 0)),
 oo 7 (.len (.t 6)),
 oo 8 (.mov (.t 1)),
 oo 9 (.len (.t 8)),
 oo 10 (.bin .neq (.t 7) (.t 9))])
 (.cond (.t 10)
 (.seq (.ops false [
 oo 4 (.mov (.c (.bool false)))])
 (.ret))
 (.skip)))
 (.seq (.seq (.ops false [
 oo 11 (.mov (.t 0)),
 oo 12 (.len (.t 11)),
 oo 13 (.mov (ci 0))])
 (.block 0 (.loop uc)))
 (.seq (.ops false [
 oo 4 (.mov (.c (.bool true)))])
 (.ret)))))
 [.t 4]
set_option maxRecDepth 100000 in
theorem ue : cb Try.prog 25 ud = true := by kernel_rfl
def uf : b7 := .mk 26
 (.seq (.ops false [
 oo 3 (.box (some 3) (.t 0) true),
 oo 6 (.mov (ci 0))])
 (.seq (.ops false [
 oo 8 (.ldI (some 3) (.t 3)),
 oo 9 (.call false 56 [(.t 8), (ci (-1))]),
 oo 7 (.mov (.t 9))])
 (.seq (.seq (.ops false [
 oo 10 (.mov (.t 7)),
 oo 11 (.mov (.t 1)),
 oo 12 (.call false 57 [(.t 10), (.t 11)]),
 oo 13 (.un .not (.t 12)),
 oo 14 (.mov (.t 13)),
 ⟨some 15, .mov (.t 7), some (14, false)⟩,
 ⟨some 16, .mov (.t 2), some (14, false)⟩,
 ⟨some 17, .call false 57 [(.t 15), (.t 16)], some (14, false)⟩,
 ⟨some 18, .un .not (.t 17), some (14, false)⟩,
 oo 19 (.pick (.t 14) (.c (.bool true)) (.t 18))])
 (.cond (.t 19)
 (.seq (.ops false [
 oo 6 (.mov (ci (-1)))])
 (.ret))
 (.skip)))
 (.seq (.ops false [
 oo 20 (.mov (.t 7)),
 oo 21 (.mov (.t 1)),
 oo 22 (.call false 58 [(.t 20), (.t 21)]),
 oo 23 (.mov (.t 2)),
 oo 24 (.iaddr none (.t 22) (.t 23)),
 oo 25 (.load none (.t 24)),
 oo 6 (.mov (.t 25))])
 (.ret)))))
 [.t 6]
set_option maxRecDepth 100000 in
theorem ug : cb Try.prog 26 uf = true := by kernel_rfl
def uh : bb :=
 (.seq (.ops false [
 oo 14 (.bin .lss (.t 13) (.t 12))])
 (.seq (.cond (.t 14)
 (.skip)
 (.exit 0))
 (.seq (.block 1 (.seq (.ops false [
 oo 15 (.mov (.t 13)),
 oo 16 (.iaddr (some 4) (.t 11) (.t 13)),
 oo 17 (.load (some 4) (.t 16)),
 oo 5 (.alloc [.int .u16 0, .int .u16 0, .int .u16 0, .int .u16 0]),
 oo 4 (.mov (.t 15)),
 ⟨none, .store (some 4) (.t 5) (.t 17), none⟩])
 (.seq (.ops false [
 oo 19 (.ldI (some 3) (.t 1)),
 oo 20 (.iaddrA 2 (some 2) (.t 5) (ci 0)),
 oo 21 (.faddr 0 (.t 20)),
 oo 22 (.load none (.t 21)),
 oo 23 (.call false 61 [(.t 19), (.t 22)]),
 oo 18 (.mov (.t 23)),
 oo 24 (.extract (.t 18) 0),
 oo 25 (.extract (.t 18) 1),
 oo 6 (.mov (.t 24)),
 oo 7 (.mov (.t 25))])
 (.seq (.ops false [
 oo 27 (.ldI (some 3) (.t 1)),
 oo 28 (.iaddrA 2 (some 2) (.t 5) (ci 1)),
 oo 29 (.faddr 0 (.t 28)),
 oo 30 (.load none (.t 29)),
 oo 31 (.call false 61 [(.t 27), (.t 30)]),
 oo 26 (.mov (.t 31)),
 oo 32 (.extract (.t 26) 0),
 oo 33 (.extract (.t 26) 1),
 oo 8 (.mov (.t 32)),
 oo 9 (.mov (.t 33))])
 (.seq (.ops false [
 oo 34 (.mov (.t 6)),
 oo 35 (.mov (.t 8)),
 oo 36 (.bin .neq (.t 34) (.t 35)),
 oo 37 (.mov (.t 36)),
 ⟨some 38, .ldI (some 3) (.t 1), some (37, true)⟩,
 ⟨some 39, .mov (.t 4), some (37, true)⟩,
 ⟨some 40, .call false 56 [(.t 38), (.t 39)], some (37, true)⟩,
 ⟨some 41, .mov (.t 6), some (37, true)⟩,
 ⟨some 42, .call false 58 [(.t 40), (.t 41)], some (37, true)⟩,
 ⟨some 43, .mov (.t 8), some (37, true)⟩,
 ⟨some 44, .iaddr none (.t 42) (.t 43), some (37, true)⟩,
 ⟨some 45, .load none (.t 44), some (37, true)⟩,
 ⟨some 46, .bin .lss (.t 45) (ci 0), some (37, true)⟩,
 oo 47 (.pick (.t 37) (.t 46) (.c (.bool false)))])
 (.cond (.t 47)
 (.ops false [
 oo 48 (.mov (.t 3)),
 oo 49 (.mov (.t 4)),
 oo 50 (.bsliceI none [(.t 49)]),
 oo 51 (.append none (.t 48) (.t 50) false),
 oo 3 (.mov (.t 51))])
 (.skip)))))))
 (.ops false [
 oo 52 (.bin .add (.t 13) (ci 1)),
 oo 13 (.mov (.t 52))]))))
def ui : b7 := .mk 54
 (.seq (.ops false [
 oo 1 (.box (some 3) (.t 0) true),
 oo 2 (.mov (.c (.vec none [])))])
 (.seq (.ops false [
 oo 3 (.mov (.c (.nils)))])
 (.seq (.seq (.ops false [
 oo 10 (.faddr 1 (.t 1)),
 oo 11 (.ldI none (.t 10)),
 oo 12 (.len (.t 11)),
 oo 13 (.mov (ci 0))])
 (.block 0 (.loop uh)))
 (.seq (.ops false [
 oo 53 (.mov (.t 3)),
 oo 2 (.mov (.t 53))])
 (.ret)))))
 [.t 2]
set_option maxRecDepth 100000 in
theorem uj : cb Try.prog 35 ui = true := by kernel_rfl
def uk : b7 := .mk 49
 (.seq (.ops false [
 oo 0 (.mov (.c (.bool false)))])
 (.seq (.ops false [
 oo 6 (.bsliceI none [(.c (.int .u16 5)), (.c (.int .u16 6)), (.c (.int .u16 7))]),
 oo 7 (.build [.int .u16 0, .int .u16 0] [(0, 1, (.c (.int .u16 5))), (1, 1, (.c (.int .u16 1)))]),
 oo 8 (.build [.int .u16 0, .int .u16 0] [(0, 1, (.c (.int .u16 6))), (1, 1, (.c (.int .u16 1)))]),
 oo 9 (.build [.int .u16 0, .int .u16 0, .int .u16 0, .int .u16 0] [(0, 2, (.t 7)), (2, 2, (.t 8))]),
 oo 10 (.build [.int .u16 0, .int .u16 0] [(0, 1, (.c (.int .u16 7))), (1, 1, (.c (.int .u16 1)))]),
 oo 11 (.build [.int .u16 0, .int .u16 0] [(0, 1, (.c (.int .u16 6))), (1, 1, (.c (.int .u16 2)))]),
 oo 12 (.build [.int .u16 0, .int .u16 0, .int .u16 0, .int .u16 0] [(0, 2, (.t 10)), (2, 2, (.t 11))]),
 oo 13 (.bsliceI (some 4) [(.t 9), (.t 12)]),
 oo 14 (.build [.vec none [], .vec (some 4) [], .vec (some 2) []] [(0, 1, (.t 6)), (1, 1, (.t 13))]),
 oo 1 (.alloc [.vec none [], .vec (some 4) [], .vec (some 2) []]),
 ⟨none, .store (some 3) (.t 1) (.t 14), none⟩])
 (.seq (.ops false [
 oo 16 (.load (some 3) (.t 1)),
 oo 17 (.call false 23 [(.t 16), (ci 0), (ci 2)]),
 oo 15 (.mov (.t 17)),
 oo 18 (.extract (.t 15) 0),
 oo 19 (.extract (.t 15) 1),
 oo 2 (.mov (.t 18)),
 oo 3 (.mov (.t 19))])
 (.seq (.ops false [
 oo 21 (.load (some 3) (.t 1)),
 oo 22 (.call false 28 [(.t 21), (ci 1), (ci 2)]),
 oo 20 (.mov (.t 22)),
 oo 23 (.extract (.t 20) 0),
 oo 24 (.extract (.t 20) 1),
 oo 4 (.mov (.t 23)),
 oo 5 (.mov (.t 24))])
 (.seq (.ops false [
 oo 25 (.mov (.t 3)),
 oo 26 (.mov (.t 25)),
 ⟨some 27, .mov (.t 5), some (26, true)⟩,
 oo 28 (.pick (.t 26) (.t 27) (.c (.bool false))),
 oo 29 (.mov (.t 28)),
 ⟨some 30, .mov (.t 2), some (29, true)⟩,
 ⟨some 31, .bsliceI none [(ci 0), (ci 1), (ci 2)], some (29, true)⟩,
 ⟨some 32, .call false 25 [(.t 30), (.t 31)], some (29, true)⟩,
 oo 33 (.pick (.t 29) (.t 32) (.c (.bool false))),
 oo 34 (.mov (.t 33)),
 ⟨some 35, .mov (.t 4), some (34, true)⟩,
 ⟨some 36, .bin .eql (.t 35) (.c (.int .u16 2)), some (34, true)⟩,
 oo 37 (.pick (.t 34) (.t 36) (.c (.bool false))),
 oo 38 (.mov (.t 37)),
 ⟨some 39, .load (some 3) (.t 1), some (38, true)⟩,
 ⟨some 40, .call false 26 [(.t 39), (ci 2), (ci 0)], some (38, true)⟩,
 ⟨some 41, .bin .eql (.t 40) (ci 2), some (38, true)⟩,
 oo 42 (.pick (.t 38) (.t 41) (.c (.bool false))),
 oo 43 (.mov (.t 42)),
 ⟨some 44, .load (some 3) (.t 1), some (43, true)⟩,
 ⟨some 45, .call false 35 [(.t 44)], some (43, true)⟩,
 ⟨some 46, .len (.t 45), some (43, true)⟩,
 ⟨some 47, .bin .eql (.t 46) (ci 2), some (43, true)⟩,
 oo 48 (.pick (.t 43) (.t 47) (.c (.bool false))),
 oo 0 (.mov (.t 48))])
 (.ret))))))
 [.t 0]
set_option maxRecDepth 100000 in
theorem um : cb Try.prog 21 uk = true := by kernel_rfl
def uo : bb :=
 (.seq (.seq (.ops false [
 oo 6 (.mov (.t 5)),
 oo 7 (.faddr 0 (.t 2)),
 oo 8 (.ldI none (.t 7)),
 oo 9 (.len (.t 8)),
 oo 10 (.bin .lss (.t 6) (.t 9))])
 (.cond (.t 10)
 (.skip)
 (.exit 0)))
 (.seq (.block 1 (.seq (.ops false [
 oo 13 (.faddr 0 (.t 2)),
 oo 14 (.ldI none (.t 13)),
 oo 15 (.mov (.t 5)),
 oo 16 (.iaddr none (.t 14) (.t 15)),
 oo 17 (.load none (.t 16)),
 oo 18 (.mov (.t 1)),
 oo 19 (.bin .eql (.t 17) (.t 18))])
 (.cond (.t 19)
 (.seq (.ops false [
 oo 20 (.mov (.t 5)),
 oo 4 (.mov (.t 20))])
 (.ret))
 (.skip))))
 (.ops false [
 oo 11 (.mov (.t 5)),
 oo 12 (.bin .add (.t 11) (ci 1)),
 oo 5 (.mov (.t 12))])))
def ur : b7 := .mk 21
 (.seq (.ops false [
 oo 2 (.box (some 3) (.t 0) true),
 oo 4 (.mov (ci 0))])
 (.seq (.seq (.ops false [
 oo 5 (.mov (ci 0))])
 (.block 0 (.loop uo)))
 (.seq (.ops false [
 oo 4 (.mov (ci (-1)))])
 (.ret))))
 [.t 4]
set_option maxRecDepth 100000 in
theorem ut : cb Try.prog 54 ur = true := by kernel_rfl
def uv : bb :=
 (.seq (.seq (.ops false [
 oo 5 (.mov (.t 4)),
 oo 6 (.faddr 1 (.t 1)),
 oo 7 (.ldI none (.t 6)),
 oo 8 (.len (.t 7)),
 oo 9 (.bin .lss (.t 5) (.t 8))])
 (.cond (.t 9)
 (.skip)
 (.exit 0)))
 (.seq (.block 1 (.opsS [] [
 oo 12 (.mov (.t 3)),
 oo 13 (.faddr 1 (.t 1)),
 oo 14 (.ldI none (.t 13)),
 oo 15 (.mov (.t 4)),
 oo 16 (.iaddr (some 4) (.t 14) (.t 15)),
 oo 17 (.iaddrA 2 (some 2) (.t 16) (ci 0)),
 oo 18 (.load (some 2) (.t 17)),
 oo 19 (.faddr 1 (.t 1)),
 oo 20 (.ldI none (.t 19)),
 oo 21 (.mov (.t 4)),
 oo 22 (.iaddr (some 4) (.t 20) (.t 21)),
 oo 23 (.iaddrA 2 (some 2) (.t 22) (ci 1)),
 oo 24 (.load (some 2) (.t 23)),
 oo 25 (.bsliceI (some 2) [(.t 18), (.t 24)]),
 oo 26 (.append (some 2) (.t 12) (.t 25) false),
 oo 3 (.mov (.t 26))]))
 (.ops false [
 oo 10 (.mov (.t 4)),
 oo 11 (.bin .add (.t 10) (ci 1)),
 oo 4 (.mov (.t 11))])))
def uw : b7 := .mk 31
 (.seq (.ops false [
 oo 1 (.box (some 3) (.t 0) true),
 oo 2 (.mov (.c (.vec (some 2) [])))])
 (.seq (.ops false [
 oo 3 (.mov (.c (.nils)))])
 (.seq (.seq (.ops false [
 oo 4 (.mov (ci 0))])
 (.block 0 (.loop uv)))
 (.seq (.ops false [
 oo 27 (.mov (.t 3)),
 oo 28 (.faddr 2 (.t 1)),
 oo 29 (.ldI none (.t 28)),
 oo 30 (.append (some 2) (.t 27) (.t 29) false),
 oo 2 (.mov (.t 30))])
 (.ret)))))
 [.t 2]
set_option maxRecDepth 100000 in
theorem uz : cb Try.prog 55 uw = true := by kernel_rfl
def uA : bb :=
 (.seq (.seq (.ops false [
 oo 24 (.mov (.t 3)),
 oo 25 (.faddr 0 (.t 1)),
 oo 26 (.ldI none (.t 25)),
 oo 27 (.len (.t 26)),
 oo 28 (.bin .lss (.t 24) (.t 27))])
 (.cond (.t 28)
 (.skip)
 (.exit 0)))
 (.seq (.block 1 (.seq (.ops true [
 oo 31 (.ldI (some 3) (.t 1)),
 oo 32 (.faddr 0 (.t 1)),
 oo 33 (.ldI none (.t 32)),
 oo 34 (.mov (.t 3)),
 oo 35 (.iaddr none (.t 33) (.t 34)),
 oo 36 (.load none (.t 35)),
 oo 37 (.call false 54 [(.t 31), (.t 36)]),
 oo 38 (.mov (.t 3)),
 oo 39 (.bin .neq (.t 37) (.t 38))])
 (.cond (.t 39)
 (.seq (.ops false [
 oo 2 (.mov (ci 12))])
 (.ret))
 (.skip))))
 (.ops false [
 oo 29 (.mov (.t 3)),
 oo 30 (.bin .add (.t 29) (ci 1)),
 oo 3 (.mov (.t 30))])))
def uB : bb :=
 (.seq (.seq (.ops false [
 oo 42 (.mov (.t 5)),
 oo 43 (.mov (.t 4)),
 oo 44 (.len (.t 43)),
 oo 45 (.bin .lss (.t 42) (.t 44))])
 (.cond (.t 45)
 (.skip)
 (.exit 2)))
 (.seq (.block 3 (.seq (.ops true [
 oo 48 (.ldI (some 3) (.t 1)),
 oo 49 (.mov (.t 4)),
 oo 50 (.mov (.t 5)),
 oo 51 (.iaddr (some 2) (.t 49) (.t 50)),
 oo 52 (.faddr 0 (.t 51)),
 oo 53 (.load none (.t 52)),
 oo 54 (.call false 54 [(.t 48), (.t 53)]),
 oo 55 (.bin .lss (.t 54) (ci 0))])
 (.cond (.t 55)
 (.seq (.ops false [
 oo 2 (.mov (ci 12))])
 (.ret))
 (.skip))))
 (.ops false [
 oo 46 (.mov (.t 5)),
 oo 47 (.bin .add (.t 46) (ci 1)),
 oo 5 (.mov (.t 47))])))
def uC : bb :=
 (.seq (.seq (.ops false [
 oo 62 (.mov (.t 7)),
 oo 63 (.mov (.t 6)),
 oo 64 (.bin .lss (.t 62) (.t 63))])
 (.cond (.t 64)
 (.skip)
 (.exit 6)))
 (.seq (.block 7 (.seq (.ops true [
 oo 67 (.mov (.t 4)),
 oo 68 (.mov (.t 6)),
 oo 69 (.iaddr (some 2) (.t 67) (.t 68)),
 oo 70 (.load (some 2) (.t 69)),
 oo 71 (.mov (.t 4)),
 oo 72 (.mov (.t 7)),
 oo 73 (.iaddr (some 2) (.t 71) (.t 72)),
 oo 74 (.load (some 2) (.t 73)),
 oo 75 (.eqS false [.int, .int] (.t 70) (.t 74))])
 (.cond (.t 75)
 (.seq (.ops false [
 oo 2 (.mov (ci 11))])
 (.ret))
 (.skip))))
 (.ops false [
 oo 65 (.mov (.t 7)),
 oo 66 (.bin .add (.t 65) (ci 1)),
 oo 7 (.mov (.t 66))])))
def uD : bb :=
 (.seq (.seq (.ops false [
 oo 56 (.mov (.t 6)),
 oo 57 (.mov (.t 4)),
 oo 58 (.len (.t 57)),
 oo 59 (.bin .lss (.t 56) (.t 58))])
 (.cond (.t 59)
 (.skip)
 (.exit 4)))
 (.seq (.block 5 (.seq (.ops false [
 oo 7 (.mov (ci 0))])
 (.block 6 (.loop uC))))
 (.ops false [
 oo 60 (.mov (.t 6)),
 oo 61 (.bin .add (.t 60) (ci 1)),
 oo 6 (.mov (.t 61))])))
def uE : b7 := .mk 76
 (.seq (.ops false [
 oo 1 (.box (some 3) (.t 0) true),
 oo 2 (.mov (ci 0))])
 (.seq (.seq (.ops false [
 oo 8 (.faddr 0 (.t 1)),
 oo 9 (.ldI none (.t 8)),
 oo 10 (.len (.t 9)),
 oo 11 (.bin .gtr (.t 10) (ci 12)),
 oo 12 (.mov (.t 11)),
 ⟨some 13, .faddr 1 (.t 1), some (12, false)⟩,
 ⟨some 14, .ldI none (.t 13), some (12, false)⟩,
 ⟨some 15, .len (.t 14), some (12, false)⟩,
 ⟨some 16, .bin .gtr (.t 15) (ci 24), some (12, false)⟩,
 oo 17 (.pick (.t 12) (.c (.bool true)) (.t 16)),
 oo 18 (.mov (.t 17)),
 ⟨some 19, .faddr 2 (.t 1), some (18, false)⟩,
 ⟨some 20, .ldI none (.t 19), some (18, false)⟩,
 ⟨some 21, .len (.t 20), some (18, false)⟩,
 ⟨some 22, .bin .gtr (.t 21) (ci 24), some (18, false)⟩,
 oo 23 (.pick (.t 18) (.c (.bool true)) (.t 22))])
 (.cond (.t 23)
 (.seq (.ops false [
 oo 2 (.mov (ci 2))])
 (.ret))
 (.skip)))
 (.seq (.seq (.ops false [
 oo 3 (.mov (ci 0))])
 (.block 0 (.loop uA)))
 (.seq (.ops false [
 oo 40 (.ldI (some 3) (.t 1)),
 oo 41 (.call false 55 [(.t 40)]),
 oo 4 (.mov (.t 41))])
 (.seq (.seq (.ops false [
 oo 5 (.mov (ci 0))])
 (.block 2 (.loop uB)))
 (.seq (.seq (.ops false [
 oo 6 (.mov (ci 0))])
 (.block 4 (.loop uD)))
 (.seq (.ops false [
 oo 2 (.mov (ci 0))])
 (.ret))))))))
 [.t 2]
set_option maxRecDepth 100000 in
theorem uF : cb Try.prog 22 uE = true := by kernel_rfl
def uG : b7 := .mk 24
 (.seq (.ops false [
 oo 2 (.box (some 3) (.t 0) true),
 oo 4 (.mov (ci 0)),
 oo 5 (.mov (ci 0))])
 (.seq (.ops true [
 oo 6 (.ldI (some 3) (.t 2)),
 oo 7 (.faddr 1 (.t 2)),
 oo 8 (.ldI none (.t 7)),
 oo 9 (.mov (.t 1)),
 oo 10 (.iaddr (some 4) (.t 8) (.t 9)),
 oo 11 (.iaddrA 2 (some 2) (.t 10) (ci 0)),
 oo 12 (.faddr 0 (.t 11)),
 oo 13 (.load none (.t 12)),
 oo 14 (.call false 54 [(.t 6), (.t 13)]),
 oo 15 (.ldI (some 3) (.t 2)),
 oo 16 (.faddr 1 (.t 2)),
 oo 17 (.ldI none (.t 16)),
 oo 18 (.mov (.t 1)),
 oo 19 (.iaddr (some 4) (.t 17) (.t 18)),
 oo 20 (.iaddrA 2 (some 2) (.t 19) (ci 1)),
 oo 21 (.faddr 0 (.t 20)),
 oo 22 (.load none (.t 21)),
 oo 23 (.call false 54 [(.t 15), (.t 22)]),
 oo 4 (.mov (.t 14)),
 oo 5 (.mov (.t 23))])
 (.ret)))
 [.t 4, .t 5]
set_option maxRecDepth 100000 in
theorem uH : cb Try.prog 34 uG = true := by kernel_rfl
def uI : bb :=
 (.seq (.seq (.ops false [
 oo 12 (.mov (.t 9)),
 oo 13 (.faddr 1 (.t 4)),
 oo 14 (.ldI none (.t 13)),
 oo 15 (.len (.t 14)),
 oo 16 (.bin .lss (.t 12) (.t 15))])
 (.cond (.t 16)
 (.skip)
 (.exit 0)))
 (.seq (.block 1 (.seq (.ops false [
 oo 20 (.ldI (some 3) (.t 4)),
 oo 21 (.mov (.t 9)),
 oo 22 (.call false 34 [(.t 20), (.t 21)]),
 oo 19 (.mov (.t 22)),
 oo 23 (.extract (.t 19) 0),
 oo 24 (.extract (.t 19) 1),
 oo 10 (.mov (.t 23)),
 oo 11 (.mov (.t 24))])
 (.seq (.ops false [
 oo 25 (.mov (.t 9)),
 oo 26 (.mov (.t 3)),
 oo 27 (.bin .neq (.t 25) (.t 26)),
 oo 28 (.mov (.t 27)),
 ⟨some 29, .mov (.t 1), some (28, true)⟩,
 ⟨some 30, .mov (.t 2), some (28, true)⟩,
 ⟨some 31, .bin .neq (.t 29) (.t 30), some (28, true)⟩,
 oo 32 (.pick (.t 28) (.t 31) (.c (.bool false))),
 oo 33 (.mov (.t 32)),
 ⟨some 34, .mov (.t 10), some (33, true)⟩,
 ⟨some 35, .mov (.t 1), some (33, true)⟩,
 ⟨some 36, .bin .eql (.t 34) (.t 35), some (33, true)⟩,
 ⟨some 37, .mov (.t 36), some (33, true)⟩,
 ⟨some 38, .mov (.t 11), some (37, true)⟩,
 ⟨some 39, .mov (.t 2), some (37, true)⟩,
 ⟨some 40, .bin .eql (.t 38) (.t 39), some (37, true)⟩,
 ⟨some 41, .pick (.t 37) (.t 40) (.c (.bool false)), some (33, true)⟩,
 ⟨some 42, .mov (.t 41), some (33, true)⟩,
 ⟨some 43, .mov (.t 10), some (42, false)⟩,
 ⟨some 44, .mov (.t 2), some (42, false)⟩,
 ⟨some 45, .bin .eql (.t 43) (.t 44), some (42, false)⟩,
 ⟨some 46, .mov (.t 45), some (42, false)⟩,
 ⟨some 47, .mov (.t 11), some (46, true)⟩,
 ⟨some 48, .mov (.t 1), some (46, true)⟩,
 ⟨some 49, .bin .eql (.t 47) (.t 48), some (46, true)⟩,
 ⟨some 50, .pick (.t 46) (.t 49) (.c (.bool false)), some (42, false)⟩,
 ⟨some 51, .pick (.t 42) (.c (.bool true)) (.t 50), some (33, true)⟩,
 oo 52 (.pick (.t 33) (.t 51) (.c (.bool false)))])
 (.cond (.t 52)
 (.seq (.ops false [
 oo 8 (.mov (.c (.bool true)))])
 (.ret))
 (.skip)))))
 (.ops false [
 oo 17 (.mov (.t 9)),
 oo 18 (.bin .add (.t 17) (ci 1)),
 oo 9 (.mov (.t 18))])))
def uJ : b7 := .mk 53
 (.seq (.ops false [
 oo 4 (.box (some 3) (.t 0) true),
 oo 8 (.mov (.c (.bool false)))])
 (.seq (.seq (.ops false [
 oo 9 (.mov (ci 0))])
 (.block 0 (.loop uI)))
 (.seq (.ops false [
 oo 8 (.mov (.c (.bool false)))])
 (.ret))))
 [.t 8]
set_option maxRecDepth 100000 in
theorem uK : cb Try.prog 29 uJ = true := by kernel_rfl
def uL : bb :=
 (.seq (.seq (.ops false [
 oo 36 (.mov (.t 11)),
 oo 37 (.mov (.t 9)),
 oo 38 (.bin .lss (.t 36) (.t 37))])
 (.cond (.t 38)
 (.skip)
 (.exit 0)))
 (.seq (.block 1 (.ops false [
 oo 41 (.mov (.t 10)),
 oo 42 (.mov (.t 11)),
 oo 43 (.iaddr none (.t 41) (.t 42)),
 ⟨none, .store none (.t 43) (ci (-1)), none⟩]))
 (.ops false [
 oo 39 (.mov (.t 11)),
 oo 40 (.bin .add (.t 39) (ci 1)),
 oo 11 (.mov (.t 40))])))
def uM : bb :=
 (.seq (.seq (.ops false [
 oo 57 (.mov (.t 14)),
 oo 58 (.mov (.t 9)),
 oo 59 (.bin .lss (.t 57) (.t 58))])
 (.cond (.t 59)
 (.skip)
 (.exit 6)))
 (.seq (.block 7 (.seq (.ops false [
 oo 62 (.mov (.t 10)),
 oo 63 (.mov (.t 13)),
 oo 64 (.iaddr none (.t 62) (.t 63)),
 oo 65 (.load none (.t 64)),
 oo 66 (.mov (.t 12)),
 oo 67 (.bin .eql (.t 65) (.t 66)),
 oo 68 (.mov (.t 67)),
 ⟨some 69, .mov (.t 10), some (68, true)⟩,
 ⟨some 70, .mov (.t 14), some (68, true)⟩,
 ⟨some 71, .iaddr none (.t 69) (.t 70), some (68, true)⟩,
 ⟨some 72, .load none (.t 71), some (68, true)⟩,
 ⟨some 73, .bin .lss (.t 72) (ci 0), some (68, true)⟩,
 oo 74 (.pick (.t 68) (.t 73) (.c (.bool false))),
 oo 75 (.mov (.t 74)),
 ⟨some 76, .ldI (some 3) (.t 4), some (75, true)⟩,
 ⟨some 77, .mov (.t 13), some (75, true)⟩,
 ⟨some 78, .mov (.t 14), some (75, true)⟩,
 ⟨some 79, .mov (.t 3), some (75, true)⟩,
 ⟨some 80, .call false 29 [(.t 76), (.t 77), (.t 78), (.t 79)], some (75, true)⟩,
 oo 81 (.pick (.t 75) (.t 80) (.c (.bool false)))])
 (.cond (.t 81)
 (.ops false [
 oo 82 (.mov (.t 10)),
 oo 83 (.mov (.t 14)),
 oo 84 (.mov (.t 12)),
 oo 85 (.bin .add (.t 84) (ci 1)),
 oo 86 (.iaddr none (.t 82) (.t 83)),
 ⟨none, .store none (.t 86) (.t 85), none⟩])
 (.skip))))
 (.ops false [
 oo 60 (.mov (.t 14)),
 oo 61 (.bin .add (.t 60) (ci 1)),
 oo 14 (.mov (.t 61))])))
def uN : bb :=
 (.seq (.seq (.ops false [
 oo 52 (.mov (.t 13)),
 oo 53 (.mov (.t 9)),
 oo 54 (.bin .lss (.t 52) (.t 53))])
 (.cond (.t 54)
 (.skip)
 (.exit 4)))
 (.seq (.block 5 (.seq (.ops false [
 oo 14 (.mov (ci 0))])
 (.block 6 (.loop uM))))
 (.ops false [
 oo 55 (.mov (.t 13)),
 oo 56 (.bin .add (.t 55) (ci 1)),
 oo 13 (.mov (.t 56))])))
def uO : bb :=
 (.seq (.seq (.ops false [
 oo 47 (.mov (.t 12)),
 oo 48 (.mov (.t 9)),
 oo 49 (.bin .lss (.t 47) (.t 48))])
 (.cond (.t 49)
 (.skip)
 (.exit 2)))
 (.seq (.block 3 (.seq (.ops false [
 oo 13 (.mov (ci 0))])
 (.block 4 (.loop uN))))
 (.ops false [
 oo 50 (.mov (.t 12)),
 oo 51 (.bin .add (.t 50) (ci 1)),
 oo 12 (.mov (.t 51))])))
def uP : b7 := .mk 91
 (.seq (.ops false [
 oo 4 (.box (some 3) (.t 0) true),
 oo 8 (.mov (ci 0))])
 (.seq (.ops false [
 oo 15 (.faddr 0 (.t 4)),
 oo 16 (.ldI none (.t 15)),
 oo 17 (.len (.t 16)),
 oo 9 (.mov (.t 17))])
 (.seq (.seq (.ops false [
 oo 18 (.mov (.t 1)),
 oo 19 (.bin .lss (.t 18) (ci 0)),
 oo 20 (.mov (.t 19)),
 ⟨some 21, .mov (.t 1), some (20, false)⟩,
 ⟨some 22, .mov (.t 9), some (20, false)⟩,
 ⟨some 23, .bin .geq (.t 21) (.t 22), some (20, false)⟩,
 oo 24 (.pick (.t 20) (.c (.bool true)) (.t 23)),
 oo 25 (.mov (.t 24)),
 ⟨some 26, .mov (.t 2), some (25, false)⟩,
 ⟨some 27, .bin .lss (.t 26) (ci 0), some (25, false)⟩,
 oo 28 (.pick (.t 25) (.c (.bool true)) (.t 27)),
 oo 29 (.mov (.t 28)),
 ⟨some 30, .mov (.t 2), some (29, false)⟩,
 ⟨some 31, .mov (.t 9), some (29, false)⟩,
 ⟨some 32, .bin .geq (.t 30) (.t 31), some (29, false)⟩,
 oo 33 (.pick (.t 29) (.c (.bool true)) (.t 32))])
 (.cond (.t 33)
 (.seq (.ops false [
 oo 8 (.mov (ci (-1)))])
 (.ret))
 (.skip)))
 (.seq (.ops false [
 oo 34 (.mov (.t 9)),
 oo 35 (.mkslice none (.int .i64 0) (.t 34) (.t 34)),
 oo 10 (.mov (.t 35))])
 (.seq (.seq (.ops false [
 oo 11 (.mov (ci 0))])
 (.block 0 (.loop uL)))
 (.seq (.ops false [
 oo 44 (.mov (.t 10)),
 oo 45 (.mov (.t 1)),
 oo 46 (.iaddr none (.t 44) (.t 45)),
 ⟨none, .store none (.t 46) (ci 0), none⟩])
 (.seq (.seq (.ops false [
 oo 12 (.mov (ci 0))])
 (.block 2 (.loop uO)))
 (.seq (.ops false [
 oo 87 (.mov (.t 10)),
 oo 88 (.mov (.t 2)),
 oo 89 (.iaddr none (.t 87) (.t 88)),
 oo 90 (.load none (.t 89)),
 oo 8 (.mov (.t 90))])
 (.ret)))))))))
 [.t 8]
set_option maxRecDepth 100000 in
theorem uQ : cb Try.prog 27 uP = true := by kernel_rfl
def uR : bb :=
 (.seq (.seq (.ops false [
 oo 26 (.mov (.t 11)),
 oo 27 (.faddr 0 (.t 3)),
 oo 28 (.ldI none (.t 27)),
 oo 29 (.len (.t 28)),
 oo 30 (.bin .lss (.t 26) (.t 29))])
 (.cond (.t 30)
 (.skip)
 (.exit 2)))
 (.seq (.block 3 (.seq (.ops false [
 oo 33 (.ldI (some 3) (.t 3)),
 oo 34 (.mov (.t 10)),
 oo 35 (.mov (.t 11)),
 oo 36 (.call false 29 [(.t 33), (.t 34), (.t 35), (ci (-1))]),
 oo 37 (.mov (.t 36)),
 ⟨some 38, .ldI (some 3) (.t 3), some (37, true)⟩,
 ⟨some 39, .mov (.t 11), some (37, true)⟩,
 ⟨some 40, .mov (.t 2), some (37, true)⟩,
 ⟨some 41, .call false 27 [(.t 38), (.t 39), (.t 40), (ci (-1))], some (37, true)⟩,
 ⟨some 42, .mov (.t 8), some (37, true)⟩,
 ⟨some 43, .bin .sub (.t 42) (ci 1), some (37, true)⟩,
 ⟨some 44, .bin .eql (.t 41) (.t 43), some (37, true)⟩,
 oo 45 (.pick (.t 37) (.t 44) (.c (.bool false)))])
 (.cond (.t 45)
 (.seq (.ops false [
 oo 46 (.mov (.t 11)),
 oo 10 (.mov (.t 46))])
 (.seq (.ops false [
 oo 47 (.mov (.t 9)),
 oo 48 (.mov (.t 11)),
 oo 49 (.bsliceI none [(.t 48)]),
 oo 50 (.append none (.t 47) (.t 49) false),
 oo 9 (.mov (.t 50))])
 (.exit 2)))
 (.skip))))
 (.ops false [
 oo 31 (.mov (.t 11)),
 oo 32 (.bin .add (.t 31) (ci 1)),
 oo 11 (.mov (.t 32))])))
def uS : bb :=
 (.seq (.seq (.ops false [
 oo 21 (.mov (.t 10)),
 oo 22 (.mov (.t 2)),
 oo 23 (.bin .neq (.t 21) (.t 22))])
 (.cond (.t 23)
 (.skip)
 (.exit 0)))
 (.seq (.block 1 (.seq (.ops false [
 oo 11 (.mov (ci 0))])
 (.block 2 (.loop uR))))
 (.ops false [
 oo 24 (.mov (.t 8)),
 oo 25 (.bin .sub (.t 24) (ci 1)),
 oo 8 (.mov (.t 25))])))
def uT : b7 := .mk 52
 (.seq (.ops false [
 oo 3 (.box (some 3) (.t 0) true),
 oo 6 (.mov (.c (.vec none []))),
 oo 7 (.mov (.c (.bool false)))])
 (.seq (.ops false [
 oo 12 (.ldI (some 3) (.t 3)),
 oo 13 (.mov (.t 1)),
 oo 14 (.mov (.t 2)),
 oo 15 (.call false 27 [(.t 12), (.t 13), (.t 14), (ci (-1))]),
 oo 8 (.mov (.t 15))])
 (.seq (.seq (.ops false [
 oo 16 (.mov (.t 8)),
 oo 17 (.bin .lss (.t 16) (ci 0))])
 (.cond (.t 17)
 (.seq (.ops false [
 oo 6 (.mov (.c (.vec none []))),
 oo 7 (.mov (.c (.bool false)))])
 (.ret))
 (.skip)))
 (.seq (.ops false [
 oo 18 (.mov (.t 1)),
 oo 19 (.bslice none [(.t 18)] false),
 oo 9 (.mov (.t 19))])
 (.seq (.seq (.ops false [
 oo 20 (.mov (.t 1)),
 oo 10 (.mov (.t 20))])
 (.block 0 (.loop uS)))
 (.seq (.ops false [
 oo 51 (.mov (.t 9)),
 oo 6 (.mov (.t 51)),
 oo 7 (.mov (.c (.bool true)))])
 (.ret)))))))
 [.t 6, .t 7]
set_option maxRecDepth 100000 in
theorem uU : cb Try.prog 24 uT = true := by kernel_rfl
def a7 : b7 := .mk 120
 (.seq (.ops false [
 oo 3 (.box (some 3) (.t 0) true),
 oo 6 (.mov (.c (.bool false)))])
 (.seq (.seq (.ops false [
 oo 16 (.call false 21 []),
 oo 17 (.un .not (.t 16))])
 (.cond (.t 17)
 (.seq (.ops false [
 oo 6 (.mov (.c (.bool false)))])
 (.ret))
 (.skip)))
 (.seq (.seq (.ops false [
 oo 18 (.ldI (some 3) (.t 3)),
 oo 19 (.call false 22 [(.t 18)]),
 oo 20 (.bin .neq (.t 19) (ci 0))])
 (.cond (.t 20)
 (.seq (.ops false [
 oo 6 (.mov (.c (.bool true)))])
 (.ret))
 (.skip)))
 (.seq (.ops false [
 oo 22 (.ldI (some 3) (.t 3)),
 oo 23 (.mov (.t 1)),
 oo 24 (.mov (.t 2)),
 oo 25 (.call false 23 [(.t 22), (.t 23), (.t 24)]),
 oo 21 (.mov (.t 25)),
 oo 26 (.extract (.t 21) 0),
 oo 27 (.extract (.t 21) 1),
 oo 7 (.mov (.t 26)),
 oo 8 (.mov (.t 27))])
 (.seq (.ops false [
 oo 29 (.ldI (some 3) (.t 3)),
 oo 30 (.mov (.t 1)),
 oo 31 (.mov (.t 2)),
 oo 32 (.call false 24 [(.t 29), (.t 30), (.t 31)]),
 oo 28 (.mov (.t 32)),
 oo 33 (.extract (.t 28) 0),
 oo 34 (.extract (.t 28) 1),
 oo 9 (.mov (.t 33)),
 oo 10 (.mov (.t 34))])
 (.seq (.seq (.ops true [
 oo 35 (.mov (.t 8)),
 oo 36 (.mov (.t 10)),
 oo 37 (.eqB true (.t 35) (.t 36)),
 oo 38 (.mov (.t 37)),
 ⟨some 39, .mov (.t 7), some (38, false)⟩,
 ⟨some 40, .mov (.t 9), some (38, false)⟩,
 ⟨some 41, .call false 25 [(.t 39), (.t 40)], some (38, false)⟩,
 ⟨some 42, .un .not (.t 41), some (38, false)⟩,
 oo 43 (.pick (.t 38) (.c (.bool true)) (.t 42)),
 oo 44 (.mov (.t 43)),
 ⟨some 45, .ldI (some 3) (.t 3), some (44, false)⟩,
 ⟨some 46, .mov (.t 1), some (44, false)⟩,
 ⟨some 47, .mov (.t 2), some (44, false)⟩,
 ⟨some 48, .call false 26 [(.t 45), (.t 46), (.t 47)], some (44, false)⟩,
 ⟨some 49, .ldI (some 3) (.t 3), some (44, false)⟩,
 ⟨some 50, .mov (.t 1), some (44, false)⟩,
 ⟨some 51, .mov (.t 2), some (44, false)⟩,
 ⟨some 52, .call false 27 [(.t 49), (.t 50), (.t 51), (ci (-1))], some (44, false)⟩,
 ⟨some 53, .bin .neq (.t 48) (.t 52), some (44, false)⟩,
 oo 54 (.pick (.t 44) (.c (.bool true)) (.t 53))])
 (.cond (.t 54)
 (.seq (.ops false [
 oo 6 (.mov (.c (.bool false)))])
 (.ret))
 (.skip)))
 (.seq (.ops false [
 oo 56 (.ldI (some 3) (.t 3)),
 oo 57 (.mov (.t 1)),
 oo 58 (.mov (.t 2)),
 oo 59 (.call false 28 [(.t 56), (.t 57), (.t 58)]),
 oo 55 (.mov (.t 59)),
 oo 60 (.extract (.t 55) 0),
 oo 61 (.extract (.t 55) 1),
 oo 11 (.mov (.t 60)),
 oo 12 (.mov (.t 61))])
 (.seq (.ops false [
 oo 62 (.faddr 0 (.t 3)),
 oo 63 (.ldI none (.t 62)),
 oo 64 (.len (.t 63)),
 oo 13 (.mov (.t 64))])
 (.seq (.seq (.ops false [
 oo 65 (.mov (.t 1)),
 oo 66 (.bin .lss (.t 65) (ci 0)),
 oo 67 (.mov (.t 66)),
 ⟨some 68, .mov (.t 1), some (67, false)⟩,
 ⟨some 69, .mov (.t 13), some (67, false)⟩,
 ⟨some 70, .bin .geq (.t 68) (.t 69), some (67, false)⟩,
 oo 71 (.pick (.t 67) (.c (.bool true)) (.t 70)),
 oo 72 (.mov (.t 71)),
 ⟨some 73, .mov (.t 2), some (72, false)⟩,
 ⟨some 74, .bin .lss (.t 73) (ci 0), some (72, false)⟩,
 oo 75 (.pick (.t 72) (.c (.bool true)) (.t 74)),
 oo 76 (.mov (.t 75)),
 ⟨some 77, .mov (.t 2), some (76, false)⟩,
 ⟨some 78, .mov (.t 13), some (76, false)⟩,
 ⟨some 79, .bin .geq (.t 77) (.t 78), some (76, false)⟩,
 oo 80 (.pick (.t 76) (.c (.bool true)) (.t 79)),
 oo 81 (.mov (.t 80)),
 ⟨some 82, .ldI (some 3) (.t 3), some (81, false)⟩,
 ⟨some 83, .mov (.t 1), some (81, false)⟩,
 ⟨some 84, .mov (.t 2), some (81, false)⟩,
 ⟨some 85, .call false 29 [(.t 82), (.t 83), (.t 84), (ci (-1))], some (81, false)⟩,
 ⟨some 86, .un .not (.t 85), some (81, false)⟩,
 oo 87 (.pick (.t 81) (.c (.bool true)) (.t 86))])
 (.cond (.t 87)
 (.seq (.ops false [
 oo 88 (.mov (.t 12)),
 oo 89 (.un .not (.t 88)),
 oo 90 (.mov (.t 89)),
 ⟨some 91, .mov (.t 11), some (90, true)⟩,
 ⟨some 92, .bin .eql (.t 91) (.c (.int .u16 0)), some (90, true)⟩,
 oo 93 (.pick (.t 90) (.t 92) (.c (.bool false))),
 oo 6 (.mov (.t 93))])
 (.ret))
 (.skip)))
 (.seq (.ops true [
 oo 95 (.ldI (some 3) (.t 3)),
 oo 96 (.faddr 0 (.t 3)),
 oo 97 (.ldI none (.t 96)),
 oo 98 (.mov (.t 1)),
 oo 99 (.iaddr none (.t 97) (.t 98)),
 oo 100 (.load none (.t 99)),
 oo 101 (.mov (.t 11)),
 oo 102 (.build [.int .u16 0, .int .u16 0] [(0, 1, (.t 100)), (1, 1, (.t 101))]),
 oo 103 (.call false 30 [(.t 95), (.t 102)]),
 oo 94 (.mov (.t 103)),
 oo 104 (.extract (.t 94) 0),
 oo 105 (.extract (.t 94) 1),
 oo 14 (.alloc [.int .u16 0, .int .u16 0]),
 ⟨none, .store (some 2) (.t 14) (.t 104), none⟩,
 oo 15 (.mov (.t 105))])
 (.seq (.ops true [
 oo 106 (.mov (.t 12)),
 oo 107 (.mov (.t 106)),
 ⟨some 108, .mov (.t 15), some (107, true)⟩,
 oo 109 (.pick (.t 107) (.t 108) (.c (.bool false))),
 oo 110 (.mov (.t 109)),
 ⟨some 111, .faddr 0 (.t 14), some (110, true)⟩,
 ⟨some 112, .load none (.t 111), some (110, true)⟩,
 ⟨some 113, .faddr 0 (.t 3), some (110, true)⟩,
 ⟨some 114, .ldI none (.t 113), some (110, true)⟩,
 ⟨some 115, .mov (.t 2), some (110, true)⟩,
 ⟨some 116, .iaddr none (.t 114) (.t 115), some (110, true)⟩,
 ⟨some 117, .load none (.t 116), some (110, true)⟩,
 ⟨some 118, .bin .eql (.t 112) (.t 117), some (110, true)⟩,
 oo 119 (.pick (.t 110) (.t 118) (.c (.bool false))),
 oo 6 (.mov (.t 119))])
 (.ret))))))))))))
 [.t 6]
def uV : b7 := .mk 16
 (.seq (.ops false [
 oo 2 (.box (some 3) (.t 0) true),
 oo 4 (.mov (.c (.vec none [])))])
 (.seq (.ops false [
 oo 6 (.ldI (some 3) (.t 2)),
 oo 7 (.call false 56 [(.t 6), (ci (-1))]),
 oo 5 (.mov (.t 7))])
 (.seq (.seq (.ops false [
 oo 8 (.mov (.t 5)),
 oo 9 (.mov (.t 1)),
 oo 10 (.call false 57 [(.t 8), (.t 9)]),
 oo 11 (.un .not (.t 10))])
 (.cond (.t 11)
 (.seq (.ops false [
 oo 4 (.mov (.c (.vec none [])))])
 (.ret))
 (.skip)))
 (.seq (.ops false [
 oo 12 (.mov (.t 5)),
 oo 13 (.mov (.t 1)),
 oo 14 (.iaddr none (.t 12) (.t 13)),
 oo 15 (.load none (.t 14)),
 oo 4 (.mov (.t 15))])
 (.ret)))))
 [.t 4]
set_option maxRecDepth 100000 in
theorem uW : cb Try.prog 31 uV = true := by kernel_rfl
def uX : bb :=
 (.seq (.ops false [
 oo 17 (.bin .lss (.t 16) (.t 15))])
 (.seq (.cond (.t 17)
 (.skip)
 (.exit 0))
 (.seq (.block 1 (.seq (.ops false [
 oo 18 (.mov (.t 16)),
 oo 5 (.mov (.t 18))])
 (.ops false [
 oo 19 (.mov (.t 4)),
 oo 20 (.mov (.t 5)),
 oo 21 (.iaddr none (.t 19) (.t 20)),
 ⟨none, .store none (.t 21) (ci (-1)), none⟩])))
 (.ops false [
 oo 22 (.bin .add (.t 16) (ci 1)),
 oo 16 (.mov (.t 22))]))))
def uY : bb :=
 (.seq (.ops false [
 oo 38 (.bin .lss (.t 37) (.t 36))])
 (.seq (.cond (.t 38)
 (.skip)
 (.exit 4))
 (.seq (.block 5 (.seq (.ops false [
 oo 39 (.mov (.t 37)),
 oo 40 (.iaddr none (.t 35) (.t 37)),
 oo 41 (.load none (.t 40)),
 oo 7 (.mov (.t 39)),
 oo 8 (.mov (.t 41))])
 (.seq (.ops false [
 oo 42 (.mov (.t 8)),
 oo 43 (.bin .geq (.t 42) (ci 0))])
 (.cond (.t 43)
 (.ops false [
 oo 44 (.mov (.t 4)),
 oo 45 (.mov (.t 7)),
 oo 46 (.mov (.t 6)),
 oo 47 (.iaddr none (.t 44) (.t 45)),
 ⟨none, .store none (.t 47) (.t 46), none⟩])
 (.skip)))))
 (.ops false [
 oo 48 (.bin .add (.t 37) (ci 1)),
 oo 37 (.mov (.t 48))]))))
def uZ : bb :=
 (.seq (.ops false [
 oo 26 (.bin .lss (.t 25) (.t 24))])
 (.seq (.cond (.t 26)
 (.skip)
 (.exit 2))
 (.seq (.block 3 (.seq (.ops false [
 oo 27 (.mov (.t 25)),
 oo 6 (.mov (.t 27))])
 (.seq (.seq (.ops false [
 oo 28 (.mov (.t 4)),
 oo 29 (.mov (.t 6)),
 oo 30 (.iaddr none (.t 28) (.t 29)),
 oo 31 (.load none (.t 30)),
 oo 32 (.bin .geq (.t 31) (ci 0))])
 (.cond (.t 32)
 (.exit 3)
 (.skip)))
 (.seq (.ops false [
 oo 33 (.mov (.t 3)),
 oo 34 (.mov (.t 6)),
 oo 35 (.call false 58 [(.t 33), (.t 34)]),
 oo 36 (.len (.t 35)),
 oo 37 (.mov (ci 0))])
 (.block 4 (.loop uY))))))
 (.ops false [
 oo 49 (.bin .add (.t 25) (ci 1)),
 oo 25 (.mov (.t 49))]))))
def u1 : b7 := .mk 51
 (.seq (.ops false [
 oo 1 (.box (some 3) (.t 0) true),
 oo 2 (.mov (.c (.vec none [])))])
 (.seq (.ops false [
 oo 9 (.ldI (some 3) (.t 1)),
 oo 10 (.call false 56 [(.t 9), (ci (-1))]),
 oo 3 (.mov (.t 10))])
 (.seq (.ops false [
 oo 11 (.mov (.t 3)),
 oo 12 (.len (.t 11)),
 oo 13 (.mkslice none (.int .i64 0) (.t 12) (.t 12)),
 oo 4 (.mov (.t 13))])
 (.seq (.seq (.ops false [
 oo 14 (.mov (.t 4)),
 oo 15 (.len (.t 14)),
 oo 16 (.mov (ci 0))])
 (.block 0 (.loop uX)))
 (.seq (.seq (.ops false [
 oo 23 (.mov (.t 3)),
 oo 24 (.len (.t 23)),
 oo 25 (.mov (ci 0))])
 (.block 2 (.loop uZ)))
 (.seq (.ops false [
 oo 50 (.mov (.t 4)),
 oo 2 (.mov (.t 50))])
 (.ret)))))))
 [.t 2]
set_option maxRecDepth 100000 in
theorem u3 : cb Try.prog 32 u1 = true := by kernel_rfl
def u4 : bb :=
 (.seq (.ops false [
 oo 18 (.bin .lss (.t 17) (.t 16))])
 (.seq (.cond (.t 18)
 (.skip)
 (.exit 0))
 (.seq (.block 1 (.seq (.ops false [
 oo 19 (.mov (.t 17)),
 oo 7 (.mov (.t 19))])
 (.seq (.ops false [
 oo 20 (.mov (.t 6)),
 oo 21 (.mov (.t 7)),
 oo 22 (.iaddr none (.t 20) (.t 21)),
 ⟨none, .store none (.t 22) (ci (-1)), none⟩])
 (.seq (.ops false [
 oo 24 (.ldI (some 3) (.t 2)),
 oo 25 (.mov (.t 1)),
 oo 26 (.mov (.t 7)),
 oo 27 (.call false 23 [(.t 24), (.t 25), (.t 26)]),
 oo 23 (.mov (.t 27)),
 oo 28 (.extract (.t 23) 0),
 oo 29 (.extract (.t 23) 1),
 oo 8 (.mov (.t 28)),
 oo 9 (.mov (.t 29))])
 (.seq (.ops false [
 oo 30 (.mov (.t 9)),
 oo 31 (.mov (.t 30)),
 ⟨some 32, .mov (.t 8), some (31, true)⟩,
 ⟨some 33, .len (.t 32), some (31, true)⟩,
 ⟨some 34, .bin .gtr (.t 33) (ci 1), some (31, true)⟩,
 oo 35 (.pick (.t 31) (.t 34) (.c (.bool false)))])
 (.cond (.t 35)
 (.ops false [
 oo 36 (.mov (.t 6)),
 oo 37 (.mov (.t 7)),
 oo 38 (.mov (.t 8)),
 oo 39 (.mov (.t 8)),
 oo 40 (.len (.t 39)),
 oo 41 (.bin .sub (.t 40) (ci 2)),
 oo 42 (.iaddr none (.t 38) (.t 41)),
 oo 43 (.load none (.t 42)),
 oo 44 (.iaddr none (.t 36) (.t 37)),
 ⟨none, .store none (.t 44) (.t 43), none⟩])
 (.skip)))))))
 (.ops false [
 oo 45 (.bin .add (.t 17) (ci 1)),
 oo 17 (.mov (.t 45))]))))
def u5 : b7 := .mk 47
 (.seq (.ops false [
 oo 2 (.box (some 3) (.t 0) true),
 oo 4 (.mov (.c (.vec none [])))])
 (.seq (.ops false [
 oo 10 (.ldI (some 3) (.t 2)),
 oo 11 (.call false 56 [(.t 10), (ci (-1))]),
 oo 5 (.mov (.t 11))])
 (.seq (.ops false [
 oo 12 (.mov (.t 5)),
 oo 13 (.len (.t 12)),
 oo 14 (.mkslice none (.int .i64 0) (.t 13) (.t 13)),
 oo 6 (.mov (.t 14))])
 (.seq (.seq (.ops false [
 oo 15 (.mov (.t 6)),
 oo 16 (.len (.t 15)),
 oo 17 (.mov (ci 0))])
 (.block 0 (.loop u4)))
 (.seq (.ops false [
 oo 46 (.mov (.t 6)),
 oo 4 (.mov (.t 46))])
 (.ret))))))
 [.t 4]
set_option maxRecDepth 100000 in
theorem u6 : cb Try.prog 33 u5 = true := by kernel_rfl
def u7 : bb :=
 (.seq (.seq (.ops false [
 oo 12 (.mov (.t 4)),
 oo 13 (.mov (.t 0)),
 oo 14 (.len (.t 13)),
 oo 15 (.bin .lss (.t 12) (.t 14))])
 (.cond (.t 15)
 (.skip)
 (.exit 0)))
 (.seq (.block 1 (.ops false [
 oo 18 (.mov (.t 3)),
 oo 19 (.mov (.t 0)),
 oo 20 (.mov (.t 4)),
 oo 21 (.iaddr none (.t 19) (.t 20)),
 oo 22 (.load none (.t 21)),
 oo 23 (.max2 (.t 18) (.t 22)),
 oo 3 (.mov (.t 23))]))
 (.ops false [
 oo 16 (.mov (.t 4)),
 oo 17 (.bin .add (.t 16) (ci 1)),
 oo 4 (.mov (.t 17))])))
def u9 : b7 := .mk 25
 (.seq (.ops false [
 oo 2 (.mov (ci 0))])
 (.seq (.seq (.ops false [
 oo 5 (.mov (.t 0)),
 oo 6 (.len (.t 5)),
 oo 7 (.bin .lss (.t 6) (ci 1))])
 (.cond (.t 7)
 (.any)
 (.skip)))
 (.seq (.ops false [
 oo 9 (.mov (.t 0)),
 oo 10 (.iaddr none (.t 9) (ci 0)),
 oo 11 (.load none (.t 10)),
 oo 3 (.mov (.t 11))])
 (.seq (.seq (.ops false [
 oo 4 (.mov (ci 1))])
 (.block 0 (.loop u7)))
 (.seq (.ops false [
 oo 24 (.mov (.t 3)),
 oo 2 (.mov (.t 24))])
 (.ret))))))
 [.t 2]
set_option maxRecDepth 100000 in
theorem va : cb Try.prog 62 u9 = true := by kernel_rfl
def vc : bb :=
 (.seq (.ops false [
 oo 11 (.bin .lss (.t 10) (.t 9))])
 (.seq (.cond (.t 11)
 (.skip)
 (.exit 0))
 (.seq (.block 1 (.seq (.ops false [
 oo 12 (.mov (.t 10)),
 oo 5 (.mov (.t 12))])
 (.ops false [
 oo 13 (.mov (.t 4)),
 oo 14 (.mov (.t 3)),
 oo 15 (.mov (.t 5)),
 oo 16 (.call false 58 [(.t 14), (.t 15)]),
 oo 17 (.call false 62 [(.t 16)]),
 oo 18 (.max2 (.t 13) (.t 17)),
 oo 4 (.mov (.t 18))])))
 (.ops false [
 oo 19 (.bin .add (.t 10) (ci 1)),
 oo 10 (.mov (.t 19))]))))
def vd : b7 := .mk 21
 (.seq (.ops false [
 oo 1 (.box (some 3) (.t 0) true),
 oo 2 (.mov (ci 0))])
 (.seq (.ops false [
 oo 6 (.ldI (some 3) (.t 1)),
 oo 7 (.call false 56 [(.t 6), (ci (-1))]),
 oo 3 (.mov (.t 7))])
 (.seq (.ops false [
 oo 4 (.mov (ci 0))])
 (.seq (.seq (.ops false [
 oo 8 (.mov (.t 3)),
 oo 9 (.len (.t 8)),
 oo 10 (.mov (ci 0))])
 (.block 0 (.loop vc)))
 (.seq (.ops false [
 oo 20 (.mov (.t 4)),
 oo 2 (.mov (.t 20))])
 (.ret))))))
 [.t 2]
set_option maxRecDepth 100000 in
theorem ve : cb Try.prog 36 vd = true := by kernel_rfl
def vf : bb :=
 (.seq (.seq (.ops false [
 oo 29 (.mov (.t 7)),
 oo 30 (.mov (.t 5)),
 oo 31 (.bin .lss (.t 29) (.t 30))])
 (.cond (.t 31)
 (.skip)
 (.exit 0)))
 (.seq (.block 1 (.seq (.ops false [
 oo 34 (.mov (.t 1)),
 oo 35 (.bin .geq (.t 34) (ci 0)),
 oo 36 (.mov (.t 35)),
 ⟨some 37, .mov (.t 1), some (36, true)⟩,
 ⟨some 38, .mov (.t 5), some (36, true)⟩,
 ⟨some 39, .bin .lss (.t 37) (.t 38), some (36, true)⟩,
 oo 40 (.pick (.t 36) (.t 39) (.c (.bool false))),
 oo 41 (.mov (.t 40)),
 ⟨some 42, .ldI (some 3) (.t 2), some (41, true)⟩,
 ⟨some 43, .mov (.t 1), some (41, true)⟩,
 ⟨some 44, .mov (.t 7), some (41, true)⟩,
 ⟨some 45, .call false 29 [(.t 42), (.t 43), (.t 44), (ci (-1))], some (41, true)⟩,
 oo 46 (.pick (.t 41) (.t 45) (.c (.bool false)))])
 (.cond (.t 46)
 (.ops false [
 oo 47 (.mov (.t 6)),
 oo 48 (.mov (.t 7)),
 oo 49 (.bsliceI none [(.t 48)]),
 oo 50 (.append none (.t 47) (.t 49) false),
 oo 6 (.mov (.t 50))])
 (.skip))))
 (.ops false [
 oo 32 (.mov (.t 7)),
 oo 33 (.bin .add (.t 32) (ci 1)),
 oo 7 (.mov (.t 33))])))
def vg : bb :=
 (.seq (.seq (.ops false [
 oo 104 (.mov (.t 15)),
 oo 105 (.mov (.t 5)),
 oo 106 (.bin .lss (.t 104) (.t 105))])
 (.cond (.t 106)
 (.skip)
 (.exit 4)))
 (.seq (.block 5 (.ops false [
 oo 109 (.mov (.t 10)),
 oo 110 (.ldI (some 3) (.t 2)),
 oo 111 (.mov (.t 11)),
 oo 112 (.mov (.t 15)),
 oo 113 (.call false 27 [(.t 110), (.t 111), (.t 112), (ci (-1))]),
 oo 114 (.max2 (.t 109) (.t 113)),
 oo 10 (.mov (.t 114))]))
 (.ops false [
 oo 107 (.mov (.t 15)),
 oo 108 (.bin .add (.t 107) (ci 1)),
 oo 15 (.mov (.t 108))])))
def vk : bb :=
 (.seq (.seq (.ops false [
 oo 115 (.ldI (some 3) (.t 2)),
 oo 116 (.mov (.t 11)),
 oo 117 (.mov (.t 16)),
 oo 118 (.call false 27 [(.t 115), (.t 116), (.t 117), (ci (-1))]),
 oo 119 (.bin .lss (.t 118) (ci 0))])
 (.cond (.t 119)
 (.skip)
 (.exit 6)))
 (.block 7 (.ops false [
 oo 120 (.mov (.t 16)),
 oo 121 (.bin .add (.t 120) (ci 1)),
 oo 16 (.mov (.t 121))])))
def vl : bb :=
 (.seq (.seq (.ops false [
 oo 74 (.mov (.t 11)),
 oo 75 (.mov (.t 5)),
 oo 76 (.bin .lss (.t 74) (.t 75))])
 (.cond (.t 76)
 (.skip)
 (.exit 2)))
 (.seq (.block 3 (.seq (.ops false [
 oo 12 (.mov (ci (-1)))])
 (.seq (.seq (.ops false [
 oo 80 (.ldI (some 3) (.t 2)),
 oo 81 (.mov (.t 1)),
 oo 82 (.mov (.t 11)),
 oo 83 (.call false 24 [(.t 80), (.t 81), (.t 82)]),
 oo 79 (.mov (.t 83)),
 oo 84 (.extract (.t 79) 0),
 oo 85 (.extract (.t 79) 1),
 oo 13 (.mov (.t 84)),
 oo 14 (.mov (.t 85))])
 (.seq (.ops false [
 oo 86 (.mov (.t 14)),
 oo 87 (.mov (.t 86)),
 ⟨some 88, .mov (.t 13), some (87, true)⟩,
 ⟨some 89, .len (.t 88), some (87, true)⟩,
 ⟨some 90, .bin .gtr (.t 89) (ci 1), some (87, true)⟩,
 oo 91 (.pick (.t 87) (.t 90) (.c (.bool false)))])
 (.cond (.t 91)
 (.ops false [
 oo 92 (.mov (.t 13)),
 oo 93 (.mov (.t 13)),
 oo 94 (.len (.t 93)),
 oo 95 (.bin .sub (.t 94) (ci 2)),
 oo 96 (.iaddr none (.t 92) (.t 95)),
 oo 97 (.load none (.t 96)),
 oo 12 (.mov (.t 97))])
 (.skip))))
 (.seq (.seq (.ops false [
 oo 98 (.mov (.t 9)),
 oo 99 (.mov (.t 11)),
 oo 100 (.iaddr none (.t 98) (.t 99)),
 oo 101 (.load none (.t 100)),
 oo 102 (.mov (.t 12)),
 oo 103 (.bin .neq (.t 101) (.t 102))])
 (.cond (.t 103)
 (.seq (.ops false [
 oo 4 (.mov (.c (.bool false)))])
 (.ret))
 (.skip)))
 (.seq (.seq (.ops false [
 oo 15 (.mov (ci 0))])
 (.block 4 (.loop vg)))
 (.seq (.ops false [
 oo 16 (.mov (ci 0))])
 (.seq (.block 6 (.loop vk))
 (.seq (.ops false [
 oo 122 (.mov (.t 8)),
 oo 123 (.mov (.t 11)),
 oo 124 (.iaddr none (.t 122) (.t 123)),
 oo 125 (.load none (.t 124)),
 oo 126 (.mov (.t 16)),
 oo 127 (.bin .neq (.t 125) (.t 126))])
 (.cond (.t 127)
 (.seq (.ops false [
 oo 4 (.mov (.c (.bool false)))])
 (.ret))
 (.skip))))))))))
 (.ops false [
 oo 77 (.mov (.t 11)),
 oo 78 (.bin .add (.t 77) (ci 1)),
 oo 11 (.mov (.t 78))])))
def vm : bb :=
 (.seq (.ops false [
 oo 132 (.bin .lss (.t 131) (.t 130))])
 (.seq (.cond (.t 132)
 (.skip)
 (.exit 8))
 (.seq (.block 9 (.seq (.ops false [
 oo 133 (.mov (.t 131)),
 oo 18 (.mov (.t 133))])
 (.seq (.ops false [
 oo 135 (.ldI (some 3) (.t 2)),
 oo 136 (.mov (.t 18)),
 oo 137 (.call false 34 [(.t 135), (.t 136)]),
 oo 134 (.mov (.t 137)),
 oo 138 (.extract (.t 134) 0),
 oo 139 (.extract (.t 134) 1),
 oo 19 (.mov (.t 138)),
 oo 20 (.mov (.t 139))])
 (.seq (.ops false [
 oo 140 (.mov (.t 19)),
 oo 141 (.mov (.t 20)),
 oo 142 (.bin .neq (.t 140) (.t 141)),
 oo 143 (.mov (.t 142)),
 ⟨some 144, .ldI (some 3) (.t 2), some (143, true)⟩,
 ⟨some 145, .mov (.t 19), some (143, true)⟩,
 ⟨some 146, .mov (.t 20), some (143, true)⟩,
 ⟨some 147, .mov (.t 18), some (143, true)⟩,
 ⟨some 148, .call false 27 [(.t 144), (.t 145), (.t 146), (.t 147)], some (143, true)⟩,
 ⟨some 149, .bin .lss (.t 148) (ci 0), some (143, true)⟩,
 oo 150 (.pick (.t 143) (.t 149) (.c (.bool false)))])
 (.cond (.t 150)
 (.ops false [
 oo 151 (.mov (.t 17)),
 oo 152 (.mov (.t 18)),
 oo 153 (.bsliceI none [(.t 152)]),
 oo 154 (.append none (.t 151) (.t 153) false),
 oo 17 (.mov (.t 154))])
 (.skip))))))
 (.ops false [
 oo 155 (.bin .add (.t 131) (ci 1)),
 oo 131 (.mov (.t 155))]))))
def a9 : b7 := .mk 166
 (.seq (.ops false [
 oo 2 (.box (some 3) (.t 0) true),
 oo 4 (.mov (.c (.bool false)))])
 (.seq (.seq (.ops false [
 oo 21 (.call false 21 []),
 oo 22 (.un .not (.t 21))])
 (.cond (.t 22)
 (.seq (.ops false [
 oo 4 (.mov (.c (.bool false)))])
 (.ret))
 (.skip)))
 (.seq (.seq (.ops false [
 oo 23 (.ldI (some 3) (.t 2)),
 oo 24 (.call false 22 [(.t 23)]),
 oo 25 (.bin .neq (.t 24) (ci 0))])
 (.cond (.t 25)
 (.seq (.ops false [
 oo 4 (.mov (.c (.bool true)))])
 (.ret))
 (.skip)))
 (.seq (.ops false [
 oo 26 (.faddr 0 (.t 2)),
 oo 27 (.ldI none (.t 26)),
 oo 28 (.len (.t 27)),
 oo 5 (.mov (.t 28))])
 (.seq (.ops false [
 oo 6 (.mov (.c (.nils)))])
 (.seq (.seq (.ops false [
 oo 7 (.mov (ci 0))])
 (.block 0 (.loop vf)))
 (.seq (.ops false [
 oo 51 (.ldI (some 3) (.t 2)),
 oo 52 (.call false 32 [(.t 51)]),
 oo 8 (.mov (.t 52))])
 (.seq (.ops false [
 oo 53 (.ldI (some 3) (.t 2)),
 oo 54 (.mov (.t 1)),
 oo 55 (.call false 33 [(.t 53), (.t 54)]),
 oo 9 (.mov (.t 55))])
 (.seq (.seq (.ops false [
 oo 56 (.ldI (some 3) (.t 2)),
 oo 57 (.mov (.t 1)),
 oo 58 (.call false 31 [(.t 56), (.t 57)]),
 oo 59 (.mov (.t 6)),
 oo 60 (.call false 25 [(.t 58), (.t 59)]),
 oo 61 (.un .not (.t 60)),
 oo 62 (.mov (.t 61)),
 ⟨some 63, .mov (.t 8), some (62, false)⟩,
 ⟨some 64, .len (.t 63), some (62, false)⟩,
 ⟨some 65, .mov (.t 5), some (62, false)⟩,
 ⟨some 66, .bin .neq (.t 64) (.t 65), some (62, false)⟩,
 oo 67 (.pick (.t 62) (.c (.bool true)) (.t 66)),
 oo 68 (.mov (.t 67)),
 ⟨some 69, .mov (.t 9), some (68, false)⟩,
 ⟨some 70, .len (.t 69), some (68, false)⟩,
 ⟨some 71, .mov (.t 5), some (68, false)⟩,
 ⟨some 72, .bin .neq (.t 70) (.t 71), some (68, false)⟩,
 oo 73 (.pick (.t 68) (.c (.bool true)) (.t 72))])
 (.cond (.t 73)
 (.seq (.ops false [
 oo 4 (.mov (.c (.bool false)))])
 (.ret))
 (.skip)))
 (.seq (.ops false [
 oo 10 (.mov (ci 0))])
 (.seq (.seq (.ops false [
 oo 11 (.mov (ci 0))])
 (.block 2 (.loop vl)))
 (.seq (.ops false [
 oo 17 (.mov (.c (.nils)))])
 (.seq (.seq (.ops false [
 oo 128 (.faddr 1 (.t 2)),
 oo 129 (.ldI none (.t 128)),
 oo 130 (.len (.t 129)),
 oo 131 (.mov (ci 0))])
 (.block 8 (.loop vm)))
 (.seq (.ops false [
 oo 156 (.ldI (some 3) (.t 2)),
 oo 157 (.call false 35 [(.t 156)]),
 oo 158 (.mov (.t 17)),
 oo 159 (.call false 25 [(.t 157), (.t 158)]),
 oo 160 (.mov (.t 159)),
 ⟨some 161, .ldI (some 3) (.t 2), some (160, true)⟩,
 ⟨some 162, .call false 36 [(.t 161)], some (160, true)⟩,
 ⟨some 163, .mov (.t 10), some (160, true)⟩,
 ⟨some 164, .bin .eql (.t 162) (.t 163), some (160, true)⟩,
 oo 165 (.pick (.t 160) (.t 164) (.c (.bool false))),
 oo 4 (.mov (.t 165))])
 (.ret)))))))))))))))
 [.t 4]
set_option maxRecDepth 100000 in
theorem vo : cb Try.prog 9 a9 = true := by kernel_rfl
@[reducible] def aw (x : List Int) : V := .d (eL none (D.int .i64) x)
@[reducible] def bI (x : List (A2 api_Port)) : V := .d (eL (some 4) (bW eapi_Port) x)
@[reducible] def b8 (x : List api_Port) : V := .d (eL (some 2) eapi_Port x)
@[reducible] def dz (x : List Int) : V := .d (eL none (D.int .u16) x)
@[reducible] def am (x : api_Topo) : V := .d (.cptr (some 3) (eapi_Topo x) 0)
@[reducible] def mK (x : api_Port) : V := .d (.cptr (some 2) (eapi_Port x) 0)
@[reducible] def vs1 (x : api_Topo) : V := .d (eapi_Topo x)
@[reducible] def iy (x : api_Port) : V := .d (eapi_Port x)
end Go.AM
