import Derived.Test.YtfjelgjfbjjopaaAmDel2
import Derived.Test.YtfjelgjfbjjopaaAmMp
import Derived.Test.YtfjelgjfbjjopaaAmIn
import Derived.Test.YtfjelgjfbjjopaaAmRf
import Derived.Test.YtfjelgjfbjjopaaAmSl
import Derived.Test.YtfjelgjfbjjopaaAmLp
import Derived.Test.YtfjelgjfbjjopaaAmW
import Derived.Test.YtfjelgjfbjjopaaUlT
import Derived.Test.YtfjelgjfbjjopaaProg
set_option linter.unusedVariables false
set_option linter.unusedSimpArgs false
namespace Go.AM
open Go Go.RowKit Go.Proofs
def aI (x : br) : D := .agg ((D.int .i64) x.F :: ((D.int .u16) x.N :: []))
def am (x : al) : D := .agg ((eL (some 2) aI) x.Match :: ((eL none (eL (some 2) aI)) x.Acts :: []))
def eW (x : cC) : D := .agg ((eL none (D.int .i64)) x.a :: ((eL none (D.int .i64)) x.b :: ((eL none (eL none (D.int .i16))) x.best :: [])))
def bm (x : bg) : D := .agg ((D.int .i64) x.At :: (D.bool x.Out :: ((am x.Row).cells ++ [])))
theorem oL (x y : br) : fJ [.int, .int] (.d (aI x)) (.d (aI y)) = some (x == y) := by
  refine (ro rfl rfl (nQ rfl (nQ rfl rfl))).trans (congrArg some ?_)
  rw [Bool.eq_iff_iff]
  obtain ⟨x0, x1⟩ := x
  obtain ⟨y0, y1⟩ := y
  simp [rp, and_assoc]
def sJ : cm := .mk 11
 (.seq (.ops false [
 oo 4 (.mov (.c (.bool false)))])
 (.seq (.ops false [
 oo 5 (.mov (.t 0)),
 oo 6 (.len (.t 5)),
 oo 7 (.mov (.t 1)),
 oo 8 (.len (.t 7)),
 oo 9 (.max2 (.t 6) (.t 8)),
 oo 10 (.bin .leq (.t 9) (ci 1000)),
 oo 4 (.mov (.t 10))])
 (.ret)))
 [.t 4]
set_option maxRecDepth 100000 in
theorem sK : cn Try.prog 42 sJ = true := by kernel_rfl
def sL : bk :=
 (.seq (.ops false [
 oo 14 (.bin .lss (.t 13) (.t 12))])
 (.seq (.cond (.t 14)
 (.skip)
 (.exit 0))
 (.seq (.block 1 (.seq (.ops false [
 oo 15 (.mov (.t 13)),
 oo 5 (.mov (.t 15))])
 (.seq (.ops true [
 oo 16 (.mov (.t 0)),
 oo 17 (.mov (.t 5)),
 oo 18 (.iaddr (some 2) (.t 16) (.t 17)),
 oo 19 (.load (some 2) (.t 18)),
 oo 20 (.mov (.t 1)),
 oo 21 (.mov (.t 5)),
 oo 22 (.iaddr (some 2) (.t 20) (.t 21)),
 oo 23 (.load (some 2) (.t 22)),
 oo 24 (.eqS true [.int, .int] (.t 19) (.t 23))])
 (.cond (.t 24)
 (.seq (.ops false [
 oo 4 (.mov (.c (.bool false)))])
 (.ret))
 (.skip)))))
 (.ops false [
 oo 25 (.bin .add (.t 13) (ci 1)),
 oo 13 (.mov (.t 25))]))))
def sM : cm := .mk 26
 (.seq (.ops false [
 oo 4 (.mov (.c (.bool false)))])
 (.seq (.seq (.ops false [
 oo 6 (.mov (.t 0)),
 oo 7 (.len (.t 6)),
 oo 8 (.mov (.t 1)),
 oo 9 (.len (.t 8)),
 oo 10 (.bin .neq (.t 7) (.t 9))])
 (.cond (.t 10)
 (.seq (.ops false [
 oo 4 (.mov (.c (.bool false)))])
 (.ret))
 (.skip)))
 (.seq (.seq (.ops false [
 oo 11 (.mov (.t 0)),
 oo 12 (.len (.t 11)),
 oo 13 (.mov (ci 0))])
 (.block 0 (.loop sL)))
 (.seq (.ops false [
 oo 4 (.mov (.c (.bool true)))])
 (.ret)))))
 [.t 4]
set_option maxRecDepth 100000 in
theorem sN : cn Try.prog 76 sM = true := by kernel_rfl
def sO : bk :=
 (.seq (.ops false [
 oo 18 (.bin .lss (.t 17) (.t 16))])
 (.seq (.cond (.t 18)
 (.skip)
 (.exit 0))
 (.seq (.block 1 (.seq (.ops false [
 oo 19 (.mov (.t 17)),
 oo 20 (.iaddr none (.t 15) (.t 17)),
 oo 21 (.load none (.t 20)),
 oo 7 (.mov (.t 19)),
 oo 8 (.mov (.t 21))])
 (.seq (.ops false [
 oo 22 (.mov (.t 1)),
 oo 23 (.mov (.t 7)),
 oo 24 (.iaddr none (.t 22) (.t 23)),
 oo 25 (.load none (.t 24)),
 oo 9 (.mov (.t 25))])
 (.seq (.ops false [
 oo 26 (.mov (.t 2)),
 oo 27 (.mov (.t 8)),
 oo 28 (.mov (.t 9)),
 oo 29 (.callv false (.t 26) [(.t 27), (.t 28)]),
 oo 30 (.un .not (.t 29))])
 (.cond (.t 30)
 (.seq (.ops false [
 oo 6 (.mov (.c (.bool false)))])
 (.ret))
 (.skip))))))
 (.ops false [
 oo 31 (.bin .add (.t 17) (ci 1)),
 oo 17 (.mov (.t 31))]))))
def sP : cm := .mk 32
 (.seq (.ops false [
 oo 6 (.mov (.c (.bool false)))])
 (.seq (.seq (.ops false [
 oo 10 (.mov (.t 0)),
 oo 11 (.len (.t 10)),
 oo 12 (.mov (.t 1)),
 oo 13 (.len (.t 12)),
 oo 14 (.bin .neq (.t 11) (.t 13))])
 (.cond (.t 14)
 (.seq (.ops false [
 oo 6 (.mov (.c (.bool false)))])
 (.ret))
 (.skip)))
 (.seq (.seq (.ops false [
 oo 15 (.mov (.t 0)),
 oo 16 (.len (.t 15)),
 oo 17 (.mov (ci 0))])
 (.block 0 (.loop sO)))
 (.seq (.ops false [
 oo 6 (.mov (.c (.bool true)))])
 (.ret)))))
 [.t 6]
set_option maxRecDepth 100000 in
theorem sQ : cn Try.prog 77 sP = true := by kernel_rfl
def sR : bk :=
 (.seq (.ops false [
 oo 14 (.bin .lss (.t 13) (.t 12))])
 (.seq (.cond (.t 14)
 (.skip)
 (.exit 0))
 (.seq (.block 1 (.seq (.ops false [
 oo 15 (.mov (.t 13)),
 oo 5 (.mov (.t 15))])
 (.seq (.ops true [
 oo 16 (.mov (.t 0)),
 oo 17 (.mov (.t 5)),
 oo 18 (.iaddr (some 2) (.t 16) (.t 17)),
 oo 19 (.load (some 2) (.t 18)),
 oo 20 (.mov (.t 1)),
 oo 21 (.mov (.t 5)),
 oo 22 (.iaddr (some 2) (.t 20) (.t 21)),
 oo 23 (.load (some 2) (.t 22)),
 oo 24 (.eqS true [.int, .int] (.t 19) (.t 23))])
 (.cond (.t 24)
 (.seq (.ops false [
 oo 4 (.mov (.c (.bool false)))])
 (.ret))
 (.skip)))))
 (.ops false [
 oo 25 (.bin .add (.t 13) (ci 1)),
 oo 13 (.mov (.t 25))]))))
def sS : cm := .mk 26
 (.seq (.ops false [
 oo 4 (.mov (.c (.bool false)))])
 (.seq (.seq (.ops false [
 oo 6 (.mov (.t 0)),
 oo 7 (.len (.t 6)),
 oo 8 (.mov (.t 1)),
 oo 9 (.len (.t 8)),
 oo 10 (.bin .neq (.t 7) (.t 9))])
 (.cond (.t 10)
 (.seq (.ops false [
 oo 4 (.mov (.c (.bool false)))])
 (.ret))
 (.skip)))
 (.seq (.seq (.ops false [
 oo 11 (.mov (.t 0)),
 oo 12 (.len (.t 11)),
 oo 13 (.mov (ci 0))])
 (.block 0 (.loop sR)))
 (.seq (.ops false [
 oo 4 (.mov (.c (.bool true)))])
 (.ret)))))
 [.t 4]
set_option maxRecDepth 100000 in
theorem sT : cn Try.prog 78 sS = true := by kernel_rfl
def sU : cm := .mk 17
 (.seq (.ops false [
 oo 2 (.box (some 2) (.t 0) true),
 oo 3 (.box (some 2) (.t 1) true),
 oo 4 (.mov (.c (.bool false)))])
 (.seq (.ops false [
 oo 5 (.faddr 0 (.t 2)),
 oo 6 (.ldI none (.t 5)),
 oo 7 (.faddr 0 (.t 3)),
 oo 8 (.ldI none (.t 7)),
 oo 9 (.call false 76 [(.t 6), (.t 8)]),
 oo 10 (.mov (.t 9)),
 ⟨some 11, .faddr 1 (.t 2), some (10, true)⟩,
 ⟨some 12, .ldI none (.t 11), some (10, true)⟩,
 ⟨some 13, .faddr 1 (.t 3), some (10, true)⟩,
 ⟨some 14, .ldI none (.t 13), some (10, true)⟩,
 ⟨some 15, .call false 77 [(.t 12), (.t 14), (.c (.func 78 []))], some (10, true)⟩,
 oo 16 (.pick (.t 10) (.t 15) (.c (.bool false))),
 oo 4 (.mov (.t 16))])
 (.ret)))
 [.t 4]
set_option maxRecDepth 100000 in
theorem sV : cn Try.prog 51 sU = true := by kernel_rfl
def sW : cm := .mk 7
 (.seq (.ops false [
 oo 2 (.box (some 2) (.t 0) true),
 oo 3 (.mov (.c (.bool false)))])
 (.seq (.ops false [
 oo 4 (.ldI (some 2) (.t 2)),
 oo 5 (.load (some 2) (.t 1)),
 oo 6 (.call false 51 [(.t 4), (.t 5)]),
 oo 3 (.mov (.t 6))])
 (.ret)))
 [.t 3]
set_option maxRecDepth 100000 in
theorem sX : cn Try.prog 94 sW = true := by kernel_rfl
def sY : bk :=
 (.seq (.ops false [
 oo 9 (.bin .lss (.t 8) (.t 7))])
 (.seq (.cond (.t 9)
 (.skip)
 (.exit 0))
 (.seq (.block 1 (.seq (.ops false [
 oo 10 (.mov (.t 8)),
 oo 5 (.mov (.t 10))])
 (.seq (.ops false [
 oo 11 (.mov (.t 1)),
 oo 12 (.mov (.t 0)),
 oo 13 (.mov (.t 5)),
 oo 14 (.iaddr (some 2) (.t 12) (.t 13)),
 oo 15 (.load (some 2) (.t 14)),
 oo 16 (.callv false (.t 11) [(.t 15)])])
 (.cond (.t 16)
 (.seq (.ops false [
 oo 17 (.mov (.t 5)),
 oo 4 (.mov (.t 17))])
 (.ret))
 (.skip)))))
 (.ops false [
 oo 18 (.bin .add (.t 8) (ci 1)),
 oo 8 (.mov (.t 18))]))))
def sZ : cm := .mk 19
 (.seq (.ops false [
 oo 4 (.mov (ci 0))])
 (.seq (.seq (.ops false [
 oo 6 (.mov (.t 0)),
 oo 7 (.len (.t 6)),
 oo 8 (.mov (ci 0))])
 (.block 0 (.loop sY)))
 (.seq (.ops false [
 oo 4 (.mov (ci (-1)))])
 (.ret))))
 [.t 4]
set_option maxRecDepth 100000 in
theorem s6 : cn Try.prog 93 sZ = true := by kernel_rfl
def s8 : bk :=
 (.seq (.seq (.ops false [
 oo 60 (.mov (.t 10)),
 oo 61 (.bin .geq (.t 60) (ci 0))])
 (.cond (.t 61)
 (.skip)
 (.exit 2)))
 (.seq (.block 3 (.seq (.ops true [
 oo 64 (.mov (.t 9)),
 oo 65 (.mov (.t 10)),
 oo 66 (.mov (.t 8)),
 oo 67 (.mov (.t 10)),
 oo 68 (.iaddr none (.t 66) (.t 67)),
 oo 69 (.load none (.t 68)),
 oo 70 (.mov (.t 9)),
 oo 71 (.mov (.t 10)),
 oo 72 (.bin .add (.t 71) (ci 1)),
 oo 73 (.iaddr none (.t 70) (.t 72)),
 oo 74 (.load none (.t 73)),
 oo 75 (.max2 (.t 69) (.t 74)),
 oo 76 (.iaddr none (.t 64) (.t 65)),
 ⟨none, .store none (.t 76) (.t 75), none⟩])
 (.seq (.ops true [
 oo 77 (.mov (.t 6)),
 oo 78 (.nilchk (.t 77)),
 oo 79 (.faddr 0 (.t 78)),
 oo 80 (.load none (.t 79)),
 oo 81 (.mov (.t 7)),
 oo 82 (.iaddr none (.t 80) (.t 81)),
 oo 83 (.load none (.t 82)),
 oo 84 (.mov (.t 6)),
 oo 85 (.nilchk (.t 84)),
 oo 86 (.faddr 1 (.t 85)),
 oo 87 (.load none (.t 86)),
 oo 88 (.mov (.t 10)),
 oo 89 (.iaddr none (.t 87) (.t 88)),
 oo 90 (.load none (.t 89)),
 oo 91 (.bin .eql (.t 83) (.t 90))])
 (.cond (.t 91)
 (.ops false [
 oo 92 (.mov (.t 9)),
 oo 93 (.mov (.t 10)),
 oo 94 (.mov (.t 8)),
 oo 95 (.mov (.t 10)),
 oo 96 (.bin .add (.t 95) (ci 1)),
 oo 97 (.iaddr none (.t 94) (.t 96)),
 oo 98 (.load none (.t 97)),
 oo 99 (.bin .add (.t 98) (.c (.int .i16 1))),
 oo 100 (.iaddr none (.t 92) (.t 93)),
 ⟨none, .store none (.t 100) (.t 99), none⟩])
 (.skip)))))
 (.ops false [
 oo 62 (.mov (.t 10)),
 oo 63 (.bin .sub (.t 62) (ci 1)),
 oo 10 (.mov (.t 63))])))
def s9 : bk :=
 (.seq (.seq (.ops false [
 oo 41 (.mov (.t 7)),
 oo 42 (.bin .geq (.t 41) (ci 0))])
 (.cond (.t 42)
 (.skip)
 (.exit 0)))
 (.seq (.block 1 (.seq (.ops false [
 oo 45 (.mov (.t 6)),
 oo 46 (.nilchk (.t 45)),
 oo 47 (.faddr 2 (.t 46)),
 oo 48 (.load none (.t 47)),
 oo 49 (.mov (.t 7)),
 oo 50 (.bin .add (.t 49) (ci 1)),
 oo 51 (.iaddr none (.t 48) (.t 50)),
 oo 52 (.load none (.t 51)),
 oo 8 (.mov (.t 52))])
 (.seq (.ops false [
 oo 53 (.mov (.t 1)),
 oo 54 (.len (.t 53)),
 oo 55 (.bin .add (.t 54) (ci 1)),
 oo 56 (.mkslice none (.int .i16 0) (.t 55) (.t 55)),
 oo 9 (.mov (.t 56))])
 (.seq (.seq (.ops false [
 oo 57 (.mov (.t 1)),
 oo 58 (.len (.t 57)),
 oo 59 (.bin .sub (.t 58) (ci 1)),
 oo 10 (.mov (.t 59))])
 (.block 2 (.loop s8)))
 (.ops false [
 oo 101 (.mov (.t 6)),
 oo 102 (.nilchk (.t 101)),
 oo 103 (.faddr 2 (.t 102)),
 oo 104 (.load none (.t 103)),
 oo 105 (.mov (.t 7)),
 oo 106 (.mov (.t 9)),
 oo 107 (.iaddr none (.t 104) (.t 105)),
 ⟨none, .store none (.t 107) (.t 106), none⟩])))))
 (.ops false [
 oo 43 (.mov (.t 7)),
 oo 44 (.bin .sub (.t 43) (ci 1)),
 oo 7 (.mov (.t 44))])))
def ta : cm := .mk 109
 (.seq (.ops false [
 oo 4 (.mov (.c (.nilp)))])
 (.seq (.ops false [
 oo 11 (.mov (.t 0)),
 oo 12 (.mov (.t 1)),
 oo 13 (.bsliceI none [(.t 11), (.t 12)]),
 oo 14 (.call false 71 [(.t 13)]),
 oo 5 (.mov (.t 14))])
 (.seq (.ops true [
 oo 15 (.mov (.t 5)),
 oo 16 (.iaddr none (.t 15) (ci 0)),
 oo 17 (.load none (.t 16)),
 oo 18 (.mov (.t 5)),
 oo 19 (.iaddr none (.t 18) (ci 1)),
 oo 20 (.load none (.t 19)),
 oo 21 (.mov (.t 0)),
 oo 22 (.len (.t 21)),
 oo 23 (.bin .add (.t 22) (ci 1)),
 oo 24 (.mkslice none (.vec none []) (.t 23) (.t 23)),
 oo 25 (.build [.vec none [], .vec none [], .nils] [(0, 1, (.t 17)), (1, 1, (.t 20)), (2, 1, (.t 24))]),
 oo 26 (.box (some 3) (.t 25) false),
 oo 6 (.mov (.t 26))])
 (.seq (.ops true [
 oo 27 (.mov (.t 6)),
 oo 28 (.nilchk (.t 27)),
 oo 29 (.faddr 2 (.t 28)),
 oo 30 (.load none (.t 29)),
 oo 31 (.mov (.t 0)),
 oo 32 (.len (.t 31)),
 oo 33 (.mov (.t 1)),
 oo 34 (.len (.t 33)),
 oo 35 (.bin .add (.t 34) (ci 1)),
 oo 36 (.mkslD none (.int .i16 0) (.t 35) (.t 35)),
 oo 37 (.iaddr none (.t 30) (.t 32)),
 ⟨none, .store none (.t 37) (.t 36), none⟩])
 (.seq (.seq (.ops false [
 oo 38 (.mov (.t 0)),
 oo 39 (.len (.t 38)),
 oo 40 (.bin .sub (.t 39) (ci 1)),
 oo 7 (.mov (.t 40))])
 (.block 0 (.loop s9)))
 (.seq (.ops false [
 oo 108 (.mov (.t 6)),
 oo 4 (.mov (.t 108))])
 (.ret)))))))
 [.t 4]
set_option maxRecDepth 100000 in
theorem tb : cn Try.prog 43 ta = true := by kernel_rfl
def tc : bk :=
 (.seq (.seq (.ops false [
 oo 11 (.mov (.t 9)),
 oo 12 (.mov (.t 0)),
 oo 13 (.nilchk (.t 12)),
 oo 14 (.faddr 1 (.t 13)),
 oo 15 (.load none (.t 14)),
 oo 16 (.len (.t 15)),
 oo 17 (.bin .lss (.t 11) (.t 16))])
 (.cond (.t 17)
 (.skip)
 (.exit 0)))
 (.seq (.block 1 (.seq (.ops true [
 oo 20 (.mov (.t 0)),
 oo 21 (.nilchk (.t 20)),
 oo 22 (.faddr 0 (.t 21)),
 oo 23 (.load none (.t 22)),
 oo 24 (.mov (.t 1)),
 oo 25 (.iaddr none (.t 23) (.t 24)),
 oo 26 (.load none (.t 25)),
 oo 27 (.mov (.t 0)),
 oo 28 (.nilchk (.t 27)),
 oo 29 (.faddr 1 (.t 28)),
 oo 30 (.load none (.t 29)),
 oo 31 (.mov (.t 9)),
 oo 32 (.iaddr none (.t 30) (.t 31)),
 oo 33 (.load none (.t 32)),
 oo 34 (.bin .eql (.t 26) (.t 33))])
 (.cond (.t 34)
 (.seq (.seq (.ops false [
 oo 35 (.mov (.t 0)),
 oo 36 (.nilchk (.t 35)),
 oo 37 (.faddr 2 (.t 36)),
 oo 38 (.load none (.t 37)),
 oo 39 (.mov (.t 1)),
 oo 40 (.bin .add (.t 39) (ci 1)),
 oo 41 (.iaddr none (.t 38) (.t 40)),
 oo 42 (.load none (.t 41)),
 oo 43 (.mov (.t 9)),
 oo 44 (.bin .add (.t 43) (ci 1)),
 oo 45 (.iaddr none (.t 42) (.t 44)),
 oo 46 (.load none (.t 45)),
 oo 47 (.bin .add (.t 46) (.c (.int .i16 1))),
 oo 48 (.mov (.t 3)),
 oo 49 (.bin .eql (.t 47) (.t 48))])
 (.cond (.t 49)
 (.seq (.ops false [
 oo 50 (.mov (.t 9)),
 oo 8 (.mov (.t 50))])
 (.ret))
 (.skip)))
 (.seq (.ops false [
 oo 8 (.mov (ci (-1)))])
 (.ret)))
 (.skip))))
 (.ops false [
 oo 18 (.mov (.t 9)),
 oo 19 (.bin .add (.t 18) (ci 1)),
 oo 9 (.mov (.t 19))])))
def td : cm := .mk 51
 (.seq (.ops false [
 oo 8 (.mov (ci 0))])
 (.seq (.seq (.ops false [
 oo 10 (.mov (.t 2)),
 oo 9 (.mov (.t 10))])
 (.block 0 (.loop tc)))
 (.seq (.ops false [
 oo 8 (.mov (ci (-1)))])
 (.ret))))
 [.t 8]
set_option maxRecDepth 100000 in
theorem te : cn Try.prog 72 td = true := by kernel_rfl
def tf : bk :=
 (.seq (.ops false [
 oo 25 (.bin .lss (.t 24) (.t 23))])
 (.seq (.cond (.t 25)
 (.skip)
 (.exit 0))
 (.seq (.block 1 (.seq (.ops false [
 oo 26 (.mov (.t 24)),
 oo 5 (.mov (.t 26))])
 (.seq (.seq (.ops false [
 oo 27 (.mov (.t 0)),
 oo 28 (.nilchk (.t 27)),
 oo 29 (.faddr 2 (.t 28)),
 oo 30 (.load none (.t 29)),
 oo 31 (.mov (.t 5)),
 oo 32 (.iaddr none (.t 30) (.t 31)),
 oo 33 (.load none (.t 32)),
 oo 34 (.mov (.t 4)),
 oo 35 (.iaddr none (.t 33) (.t 34)),
 oo 36 (.load none (.t 35)),
 oo 37 (.bin .eql (.t 36) (.c (.int .i16 0)))])
 (.cond (.t 37)
 (.exit 0)
 (.skip)))
 (.seq (.ops false [
 oo 38 (.mov (.t 0)),
 oo 39 (.mov (.t 5)),
 oo 40 (.mov (.t 4)),
 oo 41 (.mov (.t 0)),
 oo 42 (.nilchk (.t 41)),
 oo 43 (.faddr 2 (.t 42)),
 oo 44 (.load none (.t 43)),
 oo 45 (.mov (.t 5)),
 oo 46 (.iaddr none (.t 44) (.t 45)),
 oo 47 (.load none (.t 46)),
 oo 48 (.mov (.t 4)),
 oo 49 (.iaddr none (.t 47) (.t 48)),
 oo 50 (.load none (.t 49)),
 oo 51 (.call false 72 [(.t 38), (.t 39), (.t 40), (.t 50)]),
 oo 6 (.mov (.t 51))])
 (.seq (.ops false [
 oo 52 (.mov (.t 6)),
 oo 53 (.bin .geq (.t 52) (ci 0))])
 (.cond (.t 53)
 (.seq (.ops false [
 oo 54 (.mov (.t 2)),
 oo 55 (.mov (.t 5)),
 oo 56 (.mov (.t 3)),
 oo 57 (.mov (.t 6)),
 oo 58 (.iaddr none (.t 54) (.t 55)),
 ⟨none, .store none (.t 58) (.c (.bool true)), none⟩,
 oo 59 (.iaddr none (.t 56) (.t 57)),
 ⟨none, .store none (.t 59) (.c (.bool true)), none⟩])
 (.ops false [
 oo 60 (.mov (.t 6)),
 oo 61 (.bin .add (.t 60) (ci 1)),
 oo 4 (.mov (.t 61))]))
 (.skip)))))))
 (.ops false [
 oo 62 (.bin .add (.t 24) (ci 1)),
 oo 24 (.mov (.t 62))]))))
def tg : cm := .mk 65
 (.seq (.ops false [
 oo 2 (.mov (.c (.nils))),
 oo 3 (.mov (.c (.nils)))])
 (.seq (.ops true [
 oo 7 (.mov (.t 0)),
 oo 8 (.nilchk (.t 7)),
 oo 9 (.faddr 0 (.t 8)),
 oo 10 (.load none (.t 9)),
 oo 11 (.len (.t 10)),
 oo 12 (.mkslice none (.bool false) (.t 11) (.t 11)),
 oo 13 (.mov (.t 0)),
 oo 14 (.nilchk (.t 13)),
 oo 15 (.faddr 1 (.t 14)),
 oo 16 (.load none (.t 15)),
 oo 17 (.len (.t 16)),
 oo 18 (.mkslice none (.bool false) (.t 17) (.t 17)),
 oo 2 (.mov (.t 12)),
 oo 3 (.mov (.t 18))])
 (.seq (.ops false [
 oo 4 (.mov (ci 0))])
 (.seq (.seq (.ops false [
 oo 19 (.mov (.t 0)),
 oo 20 (.nilchk (.t 19)),
 oo 21 (.faddr 0 (.t 20)),
 oo 22 (.load none (.t 21)),
 oo 23 (.len (.t 22)),
 oo 24 (.mov (ci 0))])
 (.block 0 (.loop tf)))
 (.seq (.ops false [
 oo 63 (.mov (.t 2)),
 oo 64 (.mov (.t 3)),
 oo 2 (.mov (.t 63)),
 oo 3 (.mov (.t 64))])
 (.ret))))))
 [.t 2, .t 3]
set_option maxRecDepth 100000 in
theorem th : cn Try.prog 44 tg = true := by kernel_rfl
def ti : cm := .mk 7
 (.seq (.ops false [
 oo 2 (.alloc [.vec (some 2) [], .vec none []])])
 (.seq (.ops false [
 oo 3 (.mov (.t 0)),
 oo 4 (.build [.int .i64 0, .int .u16 0] [(0, 1, (ci 3)), (1, 1, (.t 3))]),
 oo 5 (.bsliceI (some 2) [(.t 4)]),
 oo 6 (.build [.vec (some 2) [], .vec none []] [(0, 1, (.t 5))]),
 ⟨none, .store (some 2) (.t 2) (.t 6), none⟩])
 (.ret)))
 [.cell 2 (some 2)]
set_option maxRecDepth 100000 in
theorem tj : cn Try.prog 40 ti = true := by kernel_rfl
def tk : cm := .mk 8
 (.seq (.ops false [
 oo 2 (.mov (.c (.nils)))])
 (.seq (.seq (.ops false [
 oo 3 (.mov (.t 0)),
 oo 4 (.eqN false 1 (.t 3) (.c (.nils)))])
 (.cond (.t 4)
 (.seq (.ops false [
 oo 2 (.mov (.c (.nils)))])
 (.ret))
 (.skip)))
 (.seq (.ops false [
 oo 5 (.bslice (some 2) [] true),
 oo 6 (.mov (.t 0)),
 oo 7 (.append (some 2) (.t 5) (.t 6) true),
 oo 2 (.mov (.t 7))])
 (.ret))))
 [.t 2]
set_option maxRecDepth 100000 in
theorem lI : cn Try.prog 49 tk = true := by kernel_rfl
def tm : cm := .mk 95
 (.seq (.ops false [
 oo 6 (.mov (.c (.nils)))])
 (.seq (.ops false [
 oo 10 (.mov (.t 0)),
 oo 11 (.mov (.t 1)),
 oo 12 (.slc (some 2) (.t 10) (some (.t 11)) none)])
 (.seq (.ops false [
 oo 13 (.mov (.t 2)),
 oo 14 (.len (.t 13)),
 oo 7 (.mov (.t 14))])
 (.seq (.seq (.ops false [
 oo 15 (.mov (.t 7)),
 oo 16 (.bin .eql (.t 15) (ci 0))])
 (.cond (.t 16)
 (.seq (.ops false [
 oo 17 (.mov (.t 0)),
 oo 6 (.mov (.t 17))])
 (.ret))
 (.skip)))
 (.seq (.ops false [
 oo 18 (.mov (.t 0)),
 oo 19 (.len (.t 18)),
 oo 8 (.mov (.t 19))])
 (.seq (.seq (.ops false [
 oo 20 (.mov (.t 1)),
 oo 21 (.mov (.t 8)),
 oo 22 (.bin .eql (.t 20) (.t 21))])
 (.cond (.t 22)
 (.seq (.ops false [
 oo 23 (.mov (.t 0)),
 oo 24 (.mov (.t 2)),
 oo 25 (.append (some 2) (.t 23) (.t 24) true),
 oo 6 (.mov (.t 25))])
 (.ret))
 (.skip)))
 (.seq (.seq (.ops false [
 oo 26 (.mov (.t 8)),
 oo 27 (.mov (.t 7)),
 oo 28 (.bin .add (.t 26) (.t 27)),
 oo 29 (.mov (.t 0)),
 oo 30 (.nop),
 oo 31 (.bin .gtr (.t 28) (.t 30))])
 (.cond (.t 31)
 (.seq (.ops false [
 oo 32 (.mov (.t 0)),
 oo 33 (.mov (.t 1)),
 oo 34 (.slc (some 2) (.t 32) none (some (.t 33))),
 oo 35 (.mov (.t 8)),
 oo 36 (.mov (.t 7)),
 oo 37 (.bin .add (.t 35) (.t 36)),
 oo 38 (.mov (.t 1)),
 oo 39 (.bin .sub (.t 37) (.t 38)),
 oo 40 (.nop),
 oo 9 (.mov (.t 40))])
 (.seq (.ops false [
 oo 41 (.mov (.t 9)),
 oo 42 (.mov (.t 1)),
 oo 43 (.slc (some 2) (.t 41) (some (.t 42)) none),
 oo 44 (.mov (.t 2)),
 oo 45 (.nop)])
 (.seq (.ops true [
 oo 46 (.mov (.t 9)),
 oo 47 (.mov (.t 1)),
 oo 48 (.mov (.t 7)),
 oo 49 (.bin .add (.t 47) (.t 48)),
 oo 50 (.slc (some 2) (.t 46) (some (.t 49)) none),
 oo 51 (.mov (.t 0)),
 oo 52 (.mov (.t 1)),
 oo 53 (.slc (some 2) (.t 51) (some (.t 52)) none),
 oo 54 (.nop)])
 (.seq (.ops false [
 oo 55 (.mov (.t 9)),
 oo 6 (.mov (.t 55))])
 (.ret)))))
 (.skip)))
 (.seq (.ops false [
 oo 56 (.mov (.t 0)),
 oo 57 (.mov (.t 8)),
 oo 58 (.mov (.t 7)),
 oo 59 (.bin .add (.t 57) (.t 58)),
 oo 60 (.slc (some 2) (.t 56) none (some (.t 59))),
 oo 0 (.mov (.t 60))])
 (.seq (.seq (.ops false [
 oo 61 (.mov (.t 2)),
 oo 62 (.mov (.t 0)),
 oo 63 (.mov (.t 1)),
 oo 64 (.mov (.t 7)),
 oo 65 (.bin .add (.t 63) (.t 64)),
 oo 66 (.slc (some 2) (.t 62) (some (.t 65)) none),
 oo 67 (.call false 74 [(.t 61), (.t 66)]),
 oo 68 (.un .not (.t 67))])
 (.cond (.t 68)
 (.seq (.ops true [
 oo 69 (.mov (.t 0)),
 oo 70 (.mov (.t 1)),
 oo 71 (.mov (.t 7)),
 oo 72 (.bin .add (.t 70) (.t 71)),
 oo 73 (.slc (some 2) (.t 69) (some (.t 72)) none),
 oo 74 (.mov (.t 0)),
 oo 75 (.mov (.t 1)),
 oo 76 (.slc (some 2) (.t 74) (some (.t 75)) none),
 oo 77 (.nop)])
 (.seq (.ops false [
 oo 78 (.mov (.t 0)),
 oo 79 (.mov (.t 1)),
 oo 80 (.slc (some 2) (.t 78) (some (.t 79)) none),
 oo 81 (.mov (.t 2)),
 oo 82 (.nop)])
 (.seq (.ops false [
 oo 83 (.mov (.t 0)),
 oo 6 (.mov (.t 83))])
 (.ret))))
 (.skip)))
 (.seq (.ops false [
 oo 84 (.mov (.t 0)),
 oo 85 (.mov (.t 8)),
 oo 86 (.slc (some 2) (.t 84) (some (.t 85)) none),
 oo 87 (.mov (.t 2)),
 oo 88 (.nop)])
 (.seq (.ops false [
 oo 89 (.mov (.t 0)),
 oo 90 (.mov (.t 1)),
 oo 91 (.slc (some 2) (.t 89) (some (.t 90)) none),
 oo 92 (.mov (.t 7)),
 oo 93 (.call false 75 [(.t 91), (.t 92)])])
 (.seq (.ops false [
 oo 94 (.mov (.t 0)),
 oo 6 (.mov (.t 94))])
 (.ret)))))))))))))
 [.t 6]
set_option maxRecDepth 100000 in
theorem tn : cn Try.prog 50 tm = true := by kernel_rfl
def tp : bk :=
 (.seq (.ops false [
 oo 13 (.bin .lss (.t 12) (.t 11))])
 (.seq (.cond (.t 13)
 (.skip)
 (.exit 0))
 (.seq (.block 1 (.seq (.ops false [
 oo 14 (.iaddr (some 4) (.t 10) (.t 12)),
 oo 15 (.load (some 4) (.t 14)),
 oo 7 (.alloc [.int .i64 0, .bool false, .vec (some 2) [], .vec none []]),
 ⟨none, .store (some 4) (.t 7) (.t 15), none⟩])
 (.block 2 (.seq (.ops false [
 oo 24 (.faddr 0 (.t 7)),
 oo 25 (.load none (.t 24)),
 oo 26 (.bin .lss (.t 25) (ci 0)),
 oo 27 (.mov (.t 26)),
 ⟨some 28, .faddr 0 (.t 7), some (27, false)⟩,
 ⟨some 29, .load none (.t 28), some (27, false)⟩,
 ⟨some 30, .mov (.t 0), some (27, false)⟩,
 ⟨some 31, .len (.t 30), some (27, false)⟩,
 ⟨some 32, .bin .gtr (.t 29) (.t 31), some (27, false)⟩,
 oo 33 (.pick (.t 27) (.c (.bool true)) (.t 32)),
 oo 23 (.mov (.t 33))])
 (.cond (.t 23)
 (.seq (.ops false [
 oo 4 (.mov (.c (.vec (some 2) []))),
 oo 5 (.mov (.c (.bool false)))])
 (.ret))
 (.seq (.ops false [
 oo 35 (.faddr 1 (.t 7)),
 oo 36 (.load none (.t 35)),
 oo 37 (.un .not (.t 36)),
 oo 34 (.mov (.t 37))])
 (.cond (.t 34)
 (.ops false [
 oo 38 (.mov (.t 0)),
 oo 39 (.faddr 0 (.t 7)),
 oo 40 (.load none (.t 39)),
 oo 41 (.faddr 2 (.t 7)),
 oo 42 (.load (some 2) (.t 41)),
 oo 43 (.bsliceI (some 2) [(.t 42)]),
 oo 44 (.call true 50 [(.t 38), (.t 40), (.t 43)]),
 oo 0 (.mov (.t 44))])
 (.seq (.ops true [
 oo 46 (.faddr 0 (.t 7)),
 oo 47 (.load none (.t 46)),
 oo 48 (.mov (.t 0)),
 oo 49 (.len (.t 48)),
 oo 50 (.bin .eql (.t 47) (.t 49)),
 oo 51 (.mov (.t 50)),
 ⟨some 52, .mov (.t 0), some (51, false)⟩,
 ⟨some 53, .faddr 0 (.t 7), some (51, false)⟩,
 ⟨some 54, .load none (.t 53), some (51, false)⟩,
 ⟨some 55, .iaddr (some 2) (.t 52) (.t 54), some (51, false)⟩,
 ⟨some 56, .load (some 2) (.t 55), some (51, false)⟩,
 ⟨some 57, .faddr 2 (.t 7), some (51, false)⟩,
 ⟨some 58, .load (some 2) (.t 57), some (51, false)⟩,
 ⟨some 59, .call false 51 [(.t 56), (.t 58)], some (51, false)⟩,
 ⟨some 60, .un .not (.t 59), some (51, false)⟩,
 oo 61 (.pick (.t 51) (.c (.bool true)) (.t 60)),
 oo 45 (.mov (.t 61))])
 (.cond (.t 45)
 (.seq (.ops false [
 oo 4 (.mov (.c (.vec (some 2) []))),
 oo 5 (.mov (.c (.bool false)))])
 (.ret))
 (.ops false [
 oo 16 (.mov (.t 0)),
 oo 17 (.faddr 0 (.t 7)),
 oo 18 (.load none (.t 17)),
 oo 19 (.faddr 0 (.t 7)),
 oo 20 (.load none (.t 19)),
 oo 21 (.bin .add (.t 20) (ci 1)),
 oo 22 (.call true 52 [(.t 16), (.t 18), (.t 21)]),
 oo 0 (.mov (.t 22))]))))))))))
 (.ops false [
 oo 62 (.bin .add (.t 12) (ci 1)),
 oo 12 (.mov (.t 62))]))))
def tq : cm := .mk 64
 (.seq (.ops false [
 oo 4 (.mov (.c (.vec (some 2) []))),
 oo 5 (.mov (.c (.bool false)))])
 (.seq (.ops false [
 oo 8 (.mov (.t 0)),
 oo 9 (.call true 49 [(.t 8)]),
 oo 0 (.mov (.t 9))])
 (.seq (.seq (.ops false [
 oo 10 (.mov (.t 1)),
 oo 11 (.len (.t 10)),
 oo 12 (.mov (ci 0))])
 (.block 0 (.loop tp)))
 (.seq (.ops false [
 oo 63 (.mov (.t 0)),
 oo 4 (.mov (.t 63)),
 oo 5 (.mov (.c (.bool true)))])
 (.ret)))))
 [.t 4, .t 5]
set_option maxRecDepth 100000 in
theorem tr : cn Try.prog 18 tq = true := by kernel_rfl
def tu : cm := .mk 20
 (.seq (.ops false [
 oo 4 (.mov (ci 0))])
 (.seq (.seq (.ops false [
 oo 5 (.mov (.t 0)),
 oo 6 (.mov (.t 1)),
 oo 7 (.call false 42 [(.t 5), (.t 6)]),
 oo 8 (.un .not (.t 7))])
 (.cond (.t 8)
 (.seq (.ops false [
 oo 4 (.mov (ci 0))])
 (.ret))
 (.skip)))
 (.seq (.ops false [
 oo 9 (.mov (.t 0)),
 oo 10 (.mov (.t 1)),
 oo 11 (.call false 43 [(.t 9), (.t 10)]),
 oo 12 (.nilchk (.t 11)),
 oo 13 (.faddr 2 (.t 12)),
 oo 14 (.load none (.t 13)),
 oo 15 (.iaddr none (.t 14) (ci 0)),
 oo 16 (.load none (.t 15)),
 oo 17 (.iaddr none (.t 16) (ci 0)),
 oo 18 (.load none (.t 17)),
 oo 19 (.convI .i64 (.t 18)),
 oo 4 (.mov (.t 19))])
 (.ret))))
 [.t 4]
set_option maxRecDepth 100000 in
theorem tv : cn Try.prog 17 tu = true := by kernel_rfl
def tw : cm := .mk 81
 (.seq (.ops false [
 oo 0 (.mov (.c (.bool false)))])
 (.seq (.ops false [
 oo 1 (.mov (.c (.func 40 [])))])
 (.seq (.ops false [
 oo 7 (.mov (.t 1)),
 oo 8 (.callv false (.t 7) [(.c (.int .u16 1))]),
 oo 9 (.mov (.t 1)),
 oo 10 (.callv false (.t 9) [(.c (.int .u16 2))]),
 oo 11 (.bsliceI (some 2) [(.t 8), (.t 10)]),
 oo 12 (.mov (.t 1)),
 oo 13 (.callv false (.t 12) [(.c (.int .u16 2))]),
 oo 14 (.mov (.t 1)),
 oo 15 (.callv false (.t 14) [(.c (.int .u16 3))]),
 oo 16 (.bsliceI (some 2) [(.t 13), (.t 15)]),
 oo 17 (.call false 13 [(.t 11), (.t 16)]),
 oo 6 (.mov (.t 17)),
 oo 18 (.extract (.t 6) 0),
 oo 19 (.extract (.t 6) 1),
 oo 2 (.mov (.t 18)),
 oo 3 (.mov (.t 19))])
 (.seq (.ops false [
 oo 21 (.mov (.t 1)),
 oo 22 (.callv false (.t 21) [(.c (.int .u16 1))]),
 oo 23 (.mov (.t 1)),
 oo 24 (.callv false (.t 23) [(.c (.int .u16 2))]),
 oo 25 (.bsliceI (some 2) [(.t 22), (.t 24)]),
 oo 26 (.mov (.t 2)),
 oo 27 (.call false 18 [(.t 25), (.t 26)]),
 oo 20 (.mov (.t 27)),
 oo 28 (.extract (.t 20) 0),
 oo 29 (.extract (.t 20) 1),
 oo 4 (.mov (.t 28)),
 oo 5 (.mov (.t 29))])
 (.seq (.ops false [
 oo 30 (.mov (.t 3)),
 oo 31 (.bin .eql (.t 30) (ci 0)),
 oo 32 (.mov (.t 31)),
 ⟨some 33, .mov (.t 5), some (32, true)⟩,
 oo 34 (.pick (.t 32) (.t 33) (.c (.bool false))),
 oo 35 (.mov (.t 34)),
 ⟨some 36, .mov (.t 2), some (35, true)⟩,
 ⟨some 37, .len (.t 36), some (35, true)⟩,
 ⟨some 38, .bin .eql (.t 37) (ci 2), some (35, true)⟩,
 oo 39 (.pick (.t 35) (.t 38) (.c (.bool false))),
 oo 40 (.mov (.t 39)),
 ⟨some 41, .mov (.t 2), some (40, true)⟩,
 ⟨some 42, .iaddr (some 4) (.t 41) (ci 0), some (40, true)⟩,
 ⟨some 43, .faddr 1 (.t 42), some (40, true)⟩,
 ⟨some 44, .load none (.t 43), some (40, true)⟩,
 oo 45 (.pick (.t 40) (.t 44) (.c (.bool false))),
 oo 46 (.mov (.t 45)),
 ⟨some 47, .mov (.t 2), some (46, true)⟩,
 ⟨some 48, .iaddr (some 4) (.t 47) (ci 0), some (46, true)⟩,
 ⟨some 49, .faddr 0 (.t 48), some (46, true)⟩,
 ⟨some 50, .load none (.t 49), some (46, true)⟩,
 ⟨some 51, .bin .eql (.t 50) (ci 0), some (46, true)⟩,
 oo 52 (.pick (.t 46) (.t 51) (.c (.bool false))),
 oo 53 (.mov (.t 52)),
 ⟨some 54, .mov (.t 2), some (53, true)⟩,
 ⟨some 55, .iaddr (some 4) (.t 54) (ci 1), some (53, true)⟩,
 ⟨some 56, .faddr 0 (.t 55), some (53, true)⟩,
 ⟨some 57, .load none (.t 56), some (53, true)⟩,
 ⟨some 58, .bin .eql (.t 57) (ci 1), some (53, true)⟩,
 oo 59 (.pick (.t 53) (.t 58) (.c (.bool false))),
 oo 60 (.mov (.t 59)),
 ⟨some 61, .mov (.t 4), some (60, true)⟩,
 ⟨some 62, .len (.t 61), some (60, true)⟩,
 ⟨some 63, .bin .eql (.t 62) (ci 2), some (60, true)⟩,
 oo 64 (.pick (.t 60) (.t 63) (.c (.bool false))),
 oo 65 (.mov (.t 64)),
 ⟨some 66, .mov (.t 4), some (65, true)⟩,
 ⟨some 67, .iaddr (some 2) (.t 66) (ci 1), some (65, true)⟩,
 ⟨some 68, .faddr 0 (.t 67), some (65, true)⟩,
 ⟨some 69, .load none (.t 68), some (65, true)⟩,
 ⟨some 70, .iaddr (some 2) (.t 69) (ci 0), some (65, true)⟩,
 ⟨some 71, .faddr 1 (.t 70), some (65, true)⟩,
 ⟨some 72, .load none (.t 71), some (65, true)⟩,
 ⟨some 73, .bin .eql (.t 72) (.c (.int .u16 3)), some (65, true)⟩,
 oo 74 (.pick (.t 65) (.t 73) (.c (.bool false))),
 oo 75 (.mov (.t 74)),
 ⟨some 76, .mov (.t 4), some (75, true)⟩,
 ⟨some 77, .mov (.t 4), some (75, true)⟩,
 ⟨some 78, .call false 17 [(.t 76), (.t 77)], some (75, true)⟩,
 ⟨some 79, .bin .eql (.t 78) (ci 2), some (75, true)⟩,
 oo 80 (.pick (.t 75) (.t 79) (.c (.bool false))),
 oo 0 (.mov (.t 80))])
 (.ret))))))
 [.t 0]
set_option maxRecDepth 100000 in
theorem tx : cn Try.prog 11 tw = true := by kernel_rfl
def tz : bk :=
 (.seq (.ops false [
 oo 23 (.bin .lss (.t 22) (.t 21))])
 (.seq (.cond (.t 23)
 (.skip)
 (.exit 0))
 (.seq (.block 1 (.seq (.ops false [
 oo 24 (.mov (.t 22)),
 oo 5 (.mov (.t 24))])
 (.ops false [
 oo 25 (.mov (.t 4)),
 oo 26 (.mov (.t 5)),
 oo 27 (.mov (.t 5)),
 oo 28 (.convI .u16 (.t 27)),
 oo 29 (.build [.int .i64 0, .int .u16 0] [(0, 1, (ci 3)), (1, 1, (.t 28))]),
 oo 30 (.bsliceI (some 2) [(.t 29)]),
 oo 31 (.iaddr (some 2) (.t 25) (.t 26)),
 oo 32 (.faddr 0 (.t 31)),
 ⟨none, .store none (.t 32) (.t 30), none⟩])))
 (.ops false [
 oo 33 (.bin .add (.t 22) (ci 1)),
 oo 22 (.mov (.t 33))]))))
def a6 : cm := .mk 107
 (.seq (.ops false [
 oo 2 (.mov (.c (.bool false)))])
 (.seq (.seq (.ops false [
 oo 12 (.call false 11 []),
 oo 13 (.un .not (.t 12))])
 (.cond (.t 13)
 (.seq (.ops false [
 oo 2 (.mov (.c (.bool false)))])
 (.ret))
 (.skip)))
 (.seq (.ops false [
 oo 14 (.mov (.t 0)),
 oo 15 (.convI .i64 (.t 14)),
 oo 16 (.bin .rem (.t 15) (ci 21)),
 oo 17 (.bin .add (ci 990) (.t 16)),
 oo 3 (.mov (.t 17))])
 (.seq (.ops false [
 oo 18 (.mov (.t 3)),
 oo 19 (.mkslice (some 2) (.agg [.vec (some 2) [], .vec none []]) (.t 18) (.t 18)),
 oo 4 (.mov (.t 19))])
 (.seq (.seq (.ops false [
 oo 20 (.mov (.t 4)),
 oo 21 (.len (.t 20)),
 oo 22 (.mov (ci 0))])
 (.block 0 (.loop tz)))
 (.seq (.ops false [
 oo 35 (.mov (.t 4)),
 oo 36 (.call false 13 [(.t 35), (.c (.nils))]),
 oo 34 (.mov (.t 36)),
 oo 37 (.extract (.t 34) 0),
 oo 38 (.extract (.t 34) 1),
 oo 6 (.mov (.t 37)),
 oo 7 (.mov (.t 38))])
 (.seq (.ops false [
 oo 40 (.mov (.t 4)),
 oo 41 (.call false 13 [(.c (.nils)), (.t 40)]),
 oo 39 (.mov (.t 41)),
 oo 42 (.extract (.t 39) 0),
 oo 43 (.extract (.t 39) 1),
 oo 8 (.mov (.t 42)),
 oo 9 (.mov (.t 43))])
 (.seq (.seq (.ops false [
 oo 44 (.mov (.t 3)),
 oo 45 (.bin .gtr (.t 44) (ci 1000))])
 (.cond (.t 45)
 (.seq (.ops false [
 oo 46 (.mov (.t 7)),
 oo 47 (.bin .eql (.t 46) (ci 2)),
 oo 48 (.mov (.t 47)),
 ⟨some 49, .mov (.t 9), some (48, true)⟩,
 ⟨some 50, .bin .eql (.t 49) (ci 2), some (48, true)⟩,
 oo 51 (.pick (.t 48) (.t 50) (.c (.bool false))),
 oo 52 (.mov (.t 51)),
 ⟨some 53, .mov (.t 6), some (52, true)⟩,
 ⟨some 54, .len (.t 53), some (52, true)⟩,
 ⟨some 55, .mov (.t 8), some (52, true)⟩,
 ⟨some 56, .len (.t 55), some (52, true)⟩,
 ⟨some 57, .bin .add (.t 54) (.t 56), some (52, true)⟩,
 ⟨some 58, .mov (.t 4), some (52, true)⟩,
 ⟨some 59, .mov (.t 4), some (52, true)⟩,
 ⟨some 60, .call false 17 [(.t 58), (.t 59)], some (52, true)⟩,
 ⟨some 61, .bin .add (.t 57) (.t 60), some (52, true)⟩,
 ⟨some 62, .bin .eql (.t 61) (ci 0), some (52, true)⟩,
 oo 63 (.pick (.t 52) (.t 62) (.c (.bool false))),
 oo 2 (.mov (.t 63))])
 (.ret))
 (.skip)))
 (.seq (.ops false [
 oo 65 (.mov (.t 4)),
 oo 66 (.mov (.t 6)),
 oo 67 (.call false 18 [(.t 65), (.t 66)]),
 oo 64 (.mov (.t 67)),
 oo 68 (.extract (.t 64) 0),
 oo 69 (.extract (.t 64) 1),
 oo 10 (.mov (.t 68)),
 oo 11 (.mov (.t 69))])
 (.seq (.ops false [
 oo 70 (.mov (.t 7)),
 oo 71 (.bin .eql (.t 70) (ci 0)),
 oo 72 (.mov (.t 71)),
 ⟨some 73, .mov (.t 9), some (72, true)⟩,
 ⟨some 74, .bin .eql (.t 73) (ci 0), some (72, true)⟩,
 oo 75 (.pick (.t 72) (.t 74) (.c (.bool false))),
 oo 76 (.mov (.t 75)),
 ⟨some 77, .mov (.t 6), some (76, true)⟩,
 ⟨some 78, .len (.t 77), some (76, true)⟩,
 ⟨some 79, .mov (.t 3), some (76, true)⟩,
 ⟨some 80, .bin .eql (.t 78) (.t 79), some (76, true)⟩,
 oo 81 (.pick (.t 76) (.t 80) (.c (.bool false))),
 oo 82 (.mov (.t 81)),
 ⟨some 83, .mov (.t 8), some (82, true)⟩,
 ⟨some 84, .len (.t 83), some (82, true)⟩,
 ⟨some 85, .mov (.t 3), some (82, true)⟩,
 ⟨some 86, .bin .eql (.t 84) (.t 85), some (82, true)⟩,
 oo 87 (.pick (.t 82) (.t 86) (.c (.bool false))),
 oo 88 (.mov (.t 87)),
 ⟨some 89, .mov (.t 11), some (88, true)⟩,
 oo 90 (.pick (.t 88) (.t 89) (.c (.bool false))),
 oo 91 (.mov (.t 90)),
 ⟨some 92, .mov (.t 10), some (91, true)⟩,
 ⟨some 93, .len (.t 92), some (91, true)⟩,
 ⟨some 94, .bin .eql (.t 93) (ci 0), some (91, true)⟩,
 oo 95 (.pick (.t 91) (.t 94) (.c (.bool false))),
 oo 96 (.mov (.t 95)),
 ⟨some 97, .mov (.t 8), some (96, true)⟩,
 ⟨some 98, .mov (.t 3), some (96, true)⟩,
 ⟨some 99, .bin .sub (.t 98) (ci 1), some (96, true)⟩,
 ⟨some 100, .iaddr (some 4) (.t 97) (.t 99), some (96, true)⟩,
 ⟨some 101, .faddr 0 (.t 100), some (96, true)⟩,
 ⟨some 102, .load none (.t 101), some (96, true)⟩,
 ⟨some 103, .mov (.t 3), some (96, true)⟩,
 ⟨some 104, .bin .sub (.t 103) (ci 1), some (96, true)⟩,
 ⟨some 105, .bin .eql (.t 102) (.t 104), some (96, true)⟩,
 oo 106 (.pick (.t 96) (.t 105) (.c (.bool false))),
 oo 2 (.mov (.t 106))])
 (.ret)))))))))))
 [.t 2]
set_option maxRecDepth 100000 in
theorem tA : cn Try.prog 6 a6 = true := by kernel_rfl
@[reducible] def aC (x : List al) : V := .d (eL (some 2) am x)
@[reducible] def aT (x : List br) : V := .d (eL (some 2) aI x)
@[reducible] def aX (x : List Int) : V := .d (eL none (D.int .i64) x)
@[reducible] def bZ (x : List bg) : V := .d (eL (some 4) bm x)
@[reducible] def c7 (x : List Int) : V := .d (eL none (D.int .i16) x)
@[reducible] def b4 (x : cC) : V := .d (.cptr (some 3) (eW x) 0)
@[reducible] def fi (x : al) : V := .d (.cptr (some 2) (am x) 0)
@[reducible] def dF (x : al) : V := .d (am x)
end Go.AM
