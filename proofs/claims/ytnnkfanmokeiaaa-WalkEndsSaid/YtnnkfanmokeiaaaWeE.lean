import Derived.Test.YtnnkfanmokeiaaaAmN8
import Derived.Test.YtnnkfanmokeiaaaAmMp
import Derived.Test.YtnnkfanmokeiaaaAmSe
import Derived.Test.YtnnkfanmokeiaaaPnD
import Derived.Test.YtnnkfanmokeiaaaWeL
import Derived.Test.YtnnkfanmokeiaaaAmW
import Derived.Test.YtnnkfanmokeiaaaWeT
import Derived.Test.YtnnkfanmokeiaaaProg
set_option linter.unusedVariables false
set_option linter.unusedSimpArgs false
namespace Go.AM
open Go Go.RowKit Go.Proofs
mutual
def bQ : am → D
  | ⟨y0, y1, y2, y3⟩ => .agg [(D.int .i64) y0, (D.int .i64) y1, (D.int .u16) y2, .vec (some 4) (g9 y3)]
def g9 : List am → List D
  | [] => []
  | x :: l => bQ x :: g9 l
end
theorem nW : ∀ l : List am, g9 l = l.map bQ
  | [] => by simp [g9]
  | x :: l => by simp [g9, nW l]
def bY (x : am) : D := .agg [D.int .i64 x.Op, D.int .i64 x.F, D.int .u16 x.N, eL (some 4) bQ x.Kids]
theorem eG (x : am) : bQ x = bY x := by
  cases x
  simp [bQ, bY, eL, nW]
def dk (x : ff) : D := .agg ((D.int .i64) x.F :: ((D.int .u16) x.N :: []))
def eapi_Port (x : api_Port) : D := .agg ((D.int .u16) x.Sw :: ((D.int .u16) x.Pt :: []))
def eapi_Topo (x : api_Topo) : D := .agg ((eL none (D.int .u16)) x.Switches :: ((eL (some 4) (b9 eapi_Port)) x.Links :: ((eL (some 2) eapi_Port) x.Hosts :: [])))
def gu (x : j4) : D := .agg ((eL (some 2) dk) x.When :: ((eL (some 2) dk) x.Guard :: ((eL (some 2) dk) x.Then :: [])))
def gv (x : gY) : D := .agg ((eL none (D.int .u16)) x.Init :: ((bY x.Pol).cells ++ ((eL (some 3) gu) x.Rules :: [])))
theorem fS (x y : (A8 Int)) : fh [.int, .int, .int, .int, .int, .int, .int, .int] (.d (eA8 (D.int .u16) x)) (.d (eA8 (D.int .u16) y)) = some (x == y) := by
  refine (mG rfl rfl (eR rfl (eR rfl (eR rfl (eR rfl (eR rfl (eR rfl (eR rfl (eR rfl rfl))))))))).trans (congrArg some ?_)
  rw [Bool.eq_iff_iff]
  obtain ⟨x0, x1, x2, x3, x4, x5, x6, x7⟩ := x
  obtain ⟨y0, y1, y2, y3, y4, y5, y6, y7⟩ := y
  simp [mH, and_assoc]
theorem fT (x y : api_Port) : fh [.int, .int] (.d (eapi_Port x)) (.d (eapi_Port y)) = some (x == y) := by
  refine (mG rfl rfl (eR rfl (eR rfl rfl))).trans (congrArg some ?_)
  rw [Bool.eq_iff_iff]
  obtain ⟨x0, x1⟩ := x
  obtain ⟨y0, y1⟩ := y
  simp [mH, and_assoc]
def rL : bA := .mk 8
 (.seq (.ops false [
 oo 2 (.mov (.c (.nils)))])
 (.seq (.seq (.ops false [
 oo 3 (.mov (.t 0)),
 oo 4 (.eqN false 1 (.t 3) (.c (.nils)))])
 (.cond (.t 4)
 (.seq (.ops false [
 oo 2 (.mov (.c (.nils)))])
 (.ret))
 (.skip)))
 (.seq (.ops false [
 oo 5 (.bslice (some 8) [] true),
 oo 6 (.mov (.t 0)),
 oo 7 (.append (some 8) (.t 5) (.t 6) true),
 oo 2 (.mov (.t 7))])
 (.ret))))
 [.t 2]
set_option maxRecDepth 100000 in
theorem kE : bB Try.prog 93 rL = true := by kernel_rfl
def rM : bv :=
 (.seq (.ops false [
 oo 10 (.bin .lss (.t 9) (.t 8))])
 (.seq (.cond (.t 10)
 (.skip)
 (.exit 0))
 (.seq (.block 1 (.seq (.ops false [
 oo 11 (.iaddr (some 4) (.t 7) (.t 9)),
 oo 12 (.load (some 4) (.t 11)),
 oo 5 (.alloc [.int .i64 0, .int .i64 0, .int .u16 0, .vec (some 4) []]),
 ⟨none, .store (some 4) (.t 5) (.t 12), none⟩])
 (.ops false [
 oo 13 (.mov (.t 3)),
 oo 14 (.load (some 4) (.t 5)),
 oo 15 (.call false 62 [(.t 14)]),
 oo 16 (.bin .add (.t 13) (.t 15)),
 oo 3 (.mov (.t 16))])))
 (.ops false [
 oo 17 (.bin .add (.t 9) (ci 1)),
 oo 9 (.mov (.t 17))]))))
def rN : bA := .mk 19
 (.seq (.ops false [
 oo 1 (.box (some 4) (.t 0) true),
 oo 2 (.mov (ci 0))])
 (.seq (.ops false [
 oo 3 (.mov (ci 1))])
 (.seq (.seq (.ops false [
 oo 6 (.faddr 3 (.t 1)),
 oo 7 (.ldI none (.t 6)),
 oo 8 (.len (.t 7)),
 oo 9 (.mov (ci 0))])
 (.block 0 (.loop rM)))
 (.seq (.ops false [
 oo 18 (.mov (.t 3)),
 oo 2 (.mov (.t 18))])
 (.ret)))))
 [.t 2]
set_option maxRecDepth 100000 in
theorem rO : bB Try.prog 62 rN = true := by kernel_rfl
def rP : bv :=
 (.seq (.ops false [
 oo 10 (.bin .lss (.t 9) (.t 8))])
 (.seq (.cond (.t 10)
 (.skip)
 (.exit 0))
 (.seq (.block 1 (.seq (.ops false [
 oo 11 (.iaddr (some 4) (.t 7) (.t 9)),
 oo 12 (.load (some 4) (.t 11)),
 oo 5 (.alloc [.int .i64 0, .int .i64 0, .int .u16 0, .vec (some 4) []]),
 ⟨none, .store (some 4) (.t 5) (.t 12), none⟩])
 (.ops false [
 oo 13 (.mov (.t 3)),
 oo 14 (.load (some 4) (.t 5)),
 oo 15 (.call false 63 [(.t 14)]),
 oo 16 (.max2 (.t 13) (.t 15)),
 oo 3 (.mov (.t 16))])))
 (.ops false [
 oo 17 (.bin .add (.t 9) (ci 1)),
 oo 9 (.mov (.t 17))]))))
def rQ : bA := .mk 20
 (.seq (.ops false [
 oo 1 (.box (some 4) (.t 0) true),
 oo 2 (.mov (ci 0))])
 (.seq (.ops false [
 oo 3 (.mov (ci 0))])
 (.seq (.seq (.ops false [
 oo 6 (.faddr 3 (.t 1)),
 oo 7 (.ldI none (.t 6)),
 oo 8 (.len (.t 7)),
 oo 9 (.mov (ci 0))])
 (.block 0 (.loop rP)))
 (.seq (.ops false [
 oo 18 (.mov (.t 3)),
 oo 19 (.bin .add (.t 18) (ci 1)),
 oo 2 (.mov (.t 19))])
 (.ret)))))
 [.t 2]
set_option maxRecDepth 100000 in
theorem rR : bB Try.prog 63 rQ = true := by kernel_rfl
def rS : bv :=
 (.seq (.ops false [
 oo 9 (.bin .lss (.t 8) (.t 7))])
 (.seq (.cond (.t 9)
 (.skip)
 (.exit 0))
 (.seq (.block 1 (.seq (.ops false [
 oo 10 (.mov (.t 8)),
 oo 5 (.mov (.t 10))])
 (.seq (.ops false [
 oo 11 (.mov (.t 1)),
 oo 12 (.mov (.t 0)),
 oo 13 (.mov (.t 5)),
 oo 14 (.iaddr (some 4) (.t 12) (.t 13)),
 oo 15 (.load (some 4) (.t 14)),
 oo 16 (.callv false (.t 11) [(.t 15)])])
 (.cond (.t 16)
 (.seq (.ops false [
 oo 17 (.mov (.t 5)),
 oo 4 (.mov (.t 17))])
 (.ret))
 (.skip)))))
 (.ops false [
 oo 18 (.bin .add (.t 8) (ci 1)),
 oo 8 (.mov (.t 18))]))))
def rT : bA := .mk 19
 (.seq (.ops false [
 oo 4 (.mov (ci 0))])
 (.seq (.seq (.ops false [
 oo 6 (.mov (.t 0)),
 oo 7 (.len (.t 6)),
 oo 8 (.mov (ci 0))])
 (.block 0 (.loop rS)))
 (.seq (.ops false [
 oo 4 (.mov (ci (-1)))])
 (.ret))))
 [.t 4]
set_option maxRecDepth 100000 in
theorem rU : bB Try.prog 110 rT = true := by kernel_rfl
def rV : bA := .mk 9
 (.seq (.ops false [
 oo 4 (.mov (.c (.bool false)))])
 (.seq (.ops false [
 oo 5 (.mov (.t 0)),
 oo 6 (.mov (.t 1)),
 oo 7 (.call false 110 [(.t 5), (.t 6)]),
 oo 8 (.bin .geq (.t 7) (ci 0)),
 oo 4 (.mov (.t 8))])
 (.ret)))
 [.t 4]
set_option maxRecDepth 100000 in
theorem rW : bB Try.prog 98 rV = true := by kernel_rfl
def rX : bA := .mk 6
 (.seq (.ops false [
 oo 1 (.box (some 4) (.t 0) true),
 oo 2 (.mov (.c (.bool false)))])
 (.seq (.ops false [
 oo 3 (.ldI (some 4) (.t 1)),
 oo 4 (.call false 97 [(.t 3)]),
 oo 5 (.un .not (.t 4)),
 oo 2 (.mov (.t 5))])
 (.ret)))
 [.t 2]
set_option maxRecDepth 100000 in
theorem rY : bB Try.prog 109 rX = true := by kernel_rfl
def rZ : bA := .mk 18
 (.seq (.ops false [
 oo 1 (.box (some 4) (.t 0) true),
 oo 2 (.mov (.c (.bool false)))])
 (.seq (.seq (.ops false [
 oo 3 (.faddr 0 (.t 1)),
 oo 4 (.ldI none (.t 3))])
 (.block 0 (.seq (.seq (.ops false [
 oo 6 (.bin .eql (.t 4) (ci 0)),
 oo 5 (.mov (.t 6))])
 (.cond (.t 5)
 (.skip)
 (.seq (.ops false [
 oo 7 (.bin .eql (.t 4) (ci 1)),
 oo 5 (.mov (.t 7))])
 (.cond (.t 5)
 (.skip)
 (.seq (.ops false [
 oo 8 (.bin .eql (.t 4) (ci 2)),
 oo 5 (.mov (.t 8))])
 (.cond (.t 5)
 (.skip)
 (.seq (.ops false [
 oo 9 (.bin .eql (.t 4) (ci 3)),
 oo 5 (.mov (.t 9))])
 (.cond (.t 5)
 (.skip)
 (.ops false [
 oo 10 (.bin .eql (.t 4) (ci 4)),
 oo 5 (.mov (.t 10))])))))))))
 (.cond (.t 5)
 (.seq (.ops false [
 oo 2 (.mov (.c (.bool true)))])
 (.ret))
 (.seq (.seq (.ops false [
 oo 12 (.bin .eql (.t 4) (ci 6)),
 oo 11 (.mov (.t 12))])
 (.cond (.t 11)
 (.skip)
 (.ops false [
 oo 13 (.bin .eql (.t 4) (ci 7)),
 oo 11 (.mov (.t 13))])))
 (.cond (.t 11)
 (.seq (.ops false [
 oo 14 (.faddr 3 (.t 1)),
 oo 15 (.ldI none (.t 14)),
 oo 16 (.call false 98 [(.t 15), (.c (.func 109 []))]),
 oo 17 (.un .not (.t 16)),
 oo 2 (.mov (.t 17))])
 (.ret))
 (.skip)))))))
 (.seq (.ops false [
 oo 2 (.mov (.c (.bool false)))])
 (.ret))))
 [.t 2]
set_option maxRecDepth 100000 in
theorem sa : bB Try.prog 97 rZ = true := by kernel_rfl
def sb : bA := .mk 8
 (.seq (.ops false [
 oo 2 (.box (some 4) (.t 0) true),
 oo 3 (.mov (.c (.bool false)))])
 (.seq (.ops false [
 oo 4 (.ldI (some 4) (.t 2)),
 oo 5 (.load none (.t 1)),
 oo 6 (.call false 75 [(.t 4), (.t 5)]),
 oo 7 (.un .not (.t 6)),
 oo 3 (.mov (.t 7))])
 (.ret)))
 [.t 3]
set_option maxRecDepth 100000 in
theorem sd : bB Try.prog 99 sb = true := by kernel_rfl
def se : bA := .mk 92
 (.seq (.ops false [
 oo 2 (.box (some 4) (.t 0) true),
 oo 3 (.box none (.t 1) true),
 oo 4 (.mov (.c (.bool false)))])
 (.seq (.ops false [
 oo 8 (.faddr 1 (.t 2)),
 oo 9 (.ldI none (.t 8)),
 oo 10 (.bin .eql (.t 9) (ci 0)),
 oo 11 (.mov (.t 10)),
 ⟨some 12, .faddr 2 (.t 2), some (11, true)⟩,
 ⟨some 13, .ldI none (.t 12), some (11, true)⟩,
 ⟨some 14, .bin .eql (.t 13) (.c (.int .u16 0)), some (11, true)⟩,
 oo 15 (.pick (.t 11) (.t 14) (.c (.bool false))),
 oo 5 (.mov (.t 15))])
 (.seq (.ops false [
 oo 6 (.mov (ci 0)),
 oo 7 (.mov (ci 8))])
 (.seq (.seq (.ops false [
 oo 16 (.faddr 0 (.t 2)),
 oo 17 (.ldI none (.t 16))])
 (.block 0 (.seq (.seq (.ops false [
 oo 19 (.bin .eql (.t 17) (ci 0)),
 oo 18 (.mov (.t 19))])
 (.cond (.t 18)
 (.skip)
 (.ops false [
 oo 20 (.bin .eql (.t 17) (ci 1)),
 oo 18 (.mov (.t 20))])))
 (.cond (.t 18)
 (.seq (.ops false [
 oo 21 (.faddr 3 (.t 2)),
 oo 22 (.ldI none (.t 21)),
 oo 23 (.len (.t 22)),
 oo 24 (.bin .eql (.t 23) (ci 0)),
 oo 25 (.mov (.t 24)),
 ⟨some 26, .mov (.t 5), some (25, true)⟩,
 oo 27 (.pick (.t 25) (.t 26) (.c (.bool false))),
 oo 4 (.mov (.t 27))])
 (.ret))
 (.seq (.ops false [
 oo 29 (.bin .eql (.t 17) (ci 4)),
 oo 28 (.mov (.t 29))])
 (.cond (.t 28)
 (.seq (.ops true [
 oo 30 (.faddr 3 (.t 2)),
 oo 31 (.ldI none (.t 30)),
 oo 32 (.len (.t 31)),
 oo 33 (.bin .eql (.t 32) (ci 1)),
 oo 34 (.mov (.t 33)),
 ⟨some 35, .mov (.t 5), some (34, true)⟩,
 oo 36 (.pick (.t 34) (.t 35) (.c (.bool false))),
 oo 37 (.mov (.t 36)),
 ⟨some 38, .faddr 3 (.t 2), some (37, true)⟩,
 ⟨some 39, .ldI none (.t 38), some (37, true)⟩,
 ⟨some 40, .iaddr (some 4) (.t 39) (ci 0), some (37, true)⟩,
 ⟨some 41, .load (some 4) (.t 40), some (37, true)⟩,
 ⟨some 42, .call false 97 [(.t 41)], some (37, true)⟩,
 oo 43 (.pick (.t 37) (.t 42) (.c (.bool false))),
 oo 44 (.mov (.t 43)),
 ⟨some 45, .faddr 3 (.t 2), some (44, true)⟩,
 ⟨some 46, .ldI none (.t 45), some (44, true)⟩,
 ⟨some 47, .iaddr (some 4) (.t 46) (ci 0), some (44, true)⟩,
 ⟨some 48, .load (some 4) (.t 47), some (44, true)⟩,
 ⟨some 49, .ldI none (.t 3), some (44, true)⟩,
 ⟨some 50, .call false 75 [(.t 48), (.t 49)], some (44, true)⟩,
 oo 51 (.pick (.t 44) (.t 50) (.c (.bool false))),
 oo 4 (.mov (.t 51))])
 (.ret))
 (.seq (.seq (.ops false [
 oo 53 (.bin .eql (.t 17) (ci 6)),
 oo 52 (.mov (.t 53))])
 (.cond (.t 52)
 (.skip)
 (.ops false [
 oo 54 (.bin .eql (.t 17) (ci 7)),
 oo 52 (.mov (.t 54))])))
 (.cond (.t 52)
 (.seq (.ops false [
 oo 55 (.faddr 3 (.t 2)),
 oo 56 (.ldI none (.t 55)),
 oo 57 (.len (.t 56)),
 oo 58 (.bin .geq (.t 57) (ci 2)),
 oo 59 (.mov (.t 58)),
 ⟨some 60, .mov (.t 5), some (59, true)⟩,
 oo 61 (.pick (.t 59) (.t 60) (.c (.bool false))),
 oo 62 (.mov (.t 61)),
 ⟨some 63, .faddr 3 (.t 2), some (62, true)⟩,
 ⟨some 64, .ldI none (.t 63), some (62, true)⟩,
 ⟨some 65, .mkfunc 99 [(.t 3)], some (62, true)⟩,
 ⟨some 66, .call false 98 [(.t 64), (.t 65)], some (62, true)⟩,
 ⟨some 67, .un .not (.t 66), some (62, true)⟩,
 oo 68 (.pick (.t 62) (.t 67) (.c (.bool false))),
 oo 4 (.mov (.t 68))])
 (.ret))
 (.seq (.ops false [
 oo 70 (.bin .eql (.t 17) (ci 2)),
 oo 69 (.mov (.t 70))])
 (.cond (.t 69)
 (.skip)
 (.seq (.ops false [
 oo 72 (.bin .eql (.t 17) (ci 5)),
 oo 71 (.mov (.t 72))])
 (.cond (.t 71)
 (.ops false [
 oo 6 (.mov (ci 1))])
 (.seq (.ops false [
 oo 74 (.bin .eql (.t 17) (ci 3)),
 oo 73 (.mov (.t 74))])
 (.cond (.t 73)
 (.ops false [
 oo 75 (.ldI none (.t 3)),
 oo 7 (.mov (.t 75))])
 (.seq (.ops false [
 oo 4 (.mov (.c (.bool false)))])
 (.ret))))))))))))))))
 (.seq (.ops false [
 oo 76 (.faddr 3 (.t 2)),
 oo 77 (.ldI none (.t 76)),
 oo 78 (.len (.t 77)),
 oo 79 (.bin .eql (.t 78) (ci 0)),
 oo 80 (.mov (.t 79)),
 ⟨some 81, .faddr 1 (.t 2), some (80, true)⟩,
 ⟨some 82, .ldI none (.t 81), some (80, true)⟩,
 ⟨some 83, .mov (.t 6), some (80, true)⟩,
 ⟨some 84, .bin .geq (.t 82) (.t 83), some (80, true)⟩,
 oo 85 (.pick (.t 80) (.t 84) (.c (.bool false))),
 oo 86 (.mov (.t 85)),
 ⟨some 87, .faddr 1 (.t 2), some (86, true)⟩,
 ⟨some 88, .ldI none (.t 87), some (86, true)⟩,
 ⟨some 89, .mov (.t 7), some (86, true)⟩,
 ⟨some 90, .bin .lss (.t 88) (.t 89), some (86, true)⟩,
 oo 91 (.pick (.t 86) (.t 90) (.c (.bool false))),
 oo 4 (.mov (.t 91))])
 (.ret))))))
 [.t 4]
set_option maxRecDepth 100000 in
theorem sf : bB Try.prog 75 se = true := by kernel_rfl
def sg : bv :=
 (.seq (.ops false [
 oo 10 (.bin .lss (.t 9) (.t 8))])
 (.seq (.cond (.t 10)
 (.skip)
 (.exit 0))
 (.seq (.block 1 (.seq (.ops false [
 oo 11 (.mov (.t 9)),
 oo 12 (.iaddr (some 2) (.t 7) (.t 9)),
 oo 13 (.load (some 2) (.t 12)),
 oo 6 (.alloc [.int .i64 0, .int .u16 0]),
 oo 5 (.mov (.t 11)),
 ⟨none, .store (some 2) (.t 6) (.t 13), none⟩])
 (.seq (.ops true [
 oo 14 (.faddr 0 (.t 6)),
 oo 15 (.load none (.t 14)),
 oo 16 (.bin .lss (.t 15) (ci 0)),
 oo 17 (.mov (.t 16)),
 ⟨some 18, .faddr 0 (.t 6), some (17, false)⟩,
 ⟨some 19, .load none (.t 18), some (17, false)⟩,
 ⟨some 20, .mov (.t 1), some (17, false)⟩,
 ⟨some 21, .bin .geq (.t 19) (.t 20), some (17, false)⟩,
 oo 22 (.pick (.t 17) (.c (.bool true)) (.t 21)),
 oo 23 (.mov (.t 22)),
 ⟨some 24, .mov (.t 5), some (23, false)⟩,
 ⟨some 25, .bin .gtr (.t 24) (ci 0), some (23, false)⟩,
 ⟨some 26, .mov (.t 25), some (23, false)⟩,
 ⟨some 27, .mov (.t 0), some (26, true)⟩,
 ⟨some 28, .mov (.t 5), some (26, true)⟩,
 ⟨some 29, .bin .sub (.t 28) (ci 1), some (26, true)⟩,
 ⟨some 30, .iaddr (some 2) (.t 27) (.t 29), some (26, true)⟩,
 ⟨some 31, .faddr 0 (.t 30), some (26, true)⟩,
 ⟨some 32, .load none (.t 31), some (26, true)⟩,
 ⟨some 33, .faddr 0 (.t 6), some (26, true)⟩,
 ⟨some 34, .load none (.t 33), some (26, true)⟩,
 ⟨some 35, .bin .geq (.t 32) (.t 34), some (26, true)⟩,
 ⟨some 36, .pick (.t 26) (.t 35) (.c (.bool false)), some (23, false)⟩,
 oo 37 (.pick (.t 23) (.c (.bool true)) (.t 36))])
 (.cond (.t 37)
 (.seq (.ops false [
 oo 4 (.mov (.c (.bool false)))])
 (.ret))
 (.skip)))))
 (.ops false [
 oo 38 (.bin .add (.t 9) (ci 1)),
 oo 9 (.mov (.t 38))]))))
def sh : bA := .mk 39
 (.seq (.ops false [
 oo 4 (.mov (.c (.bool false)))])
 (.seq (.seq (.ops false [
 oo 7 (.mov (.t 0)),
 oo 8 (.len (.t 7)),
 oo 9 (.mov (ci 0))])
 (.block 0 (.loop sg)))
 (.seq (.ops false [
 oo 4 (.mov (.c (.bool true)))])
 (.ret))))
 [.t 4]
set_option maxRecDepth 100000 in
theorem si : bB Try.prog 76 sh = true := by kernel_rfl
def sj : bv :=
 (.seq (.ops false [
 oo 43 (.bin .lss (.t 42) (.t 41))])
 (.seq (.cond (.t 43)
 (.skip)
 (.exit 0))
 (.seq (.block 1 (.seq (.ops false [
 oo 44 (.iaddr (some 3) (.t 40) (.t 42)),
 oo 45 (.load (some 3) (.t 44)),
 oo 5 (.alloc [.vec (some 2) [], .vec (some 2) [], .vec (some 2) []]),
 ⟨none, .store (some 3) (.t 5) (.t 45), none⟩])
 (.seq (.ops false [
 oo 46 (.faddr 0 (.t 5)),
 oo 47 (.load none (.t 46)),
 oo 48 (.len (.t 47)),
 oo 49 (.bin .geq (.t 48) (ci 2)),
 oo 50 (.mov (.t 49)),
 ⟨some 51, .faddr 0 (.t 5), some (50, true)⟩,
 ⟨some 52, .load none (.t 51), some (50, true)⟩,
 ⟨some 53, .iaddr (some 2) (.t 52) (ci 0), some (50, true)⟩,
 ⟨some 54, .faddr 0 (.t 53), some (50, true)⟩,
 ⟨some 55, .load none (.t 54), some (50, true)⟩,
 ⟨some 56, .bin .eql (.t 55) (ci 0), some (50, true)⟩,
 oo 57 (.pick (.t 50) (.t 56) (.c (.bool false))),
 oo 58 (.mov (.t 57)),
 ⟨some 59, .faddr 0 (.t 5), some (58, true)⟩,
 ⟨some 60, .load none (.t 59), some (58, true)⟩,
 ⟨some 61, .iaddr (some 2) (.t 60) (ci 1), some (58, true)⟩,
 ⟨some 62, .faddr 0 (.t 61), some (58, true)⟩,
 ⟨some 63, .load none (.t 62), some (58, true)⟩,
 ⟨some 64, .bin .eql (.t 63) (ci 1), some (58, true)⟩,
 oo 65 (.pick (.t 58) (.t 64) (.c (.bool false))),
 oo 6 (.mov (.t 65))])
 (.seq (.ops false [
 oo 66 (.mov (.t 6)),
 oo 67 (.un .not (.t 66)),
 oo 68 (.mov (.t 67)),
 ⟨some 69, .faddr 0 (.t 5), some (68, false)⟩,
 ⟨some 70, .load none (.t 69), some (68, false)⟩,
 ⟨some 71, .call false 76 [(.t 70), (ci 8)], some (68, false)⟩,
 ⟨some 72, .un .not (.t 71), some (68, false)⟩,
 oo 73 (.pick (.t 68) (.c (.bool true)) (.t 72)),
 oo 74 (.mov (.t 73)),
 ⟨some 75, .faddr 1 (.t 5), some (74, false)⟩,
 ⟨some 76, .load none (.t 75), some (74, false)⟩,
 ⟨some 77, .mov (.t 3), some (74, false)⟩,
 ⟨some 78, .call false 76 [(.t 76), (.t 77)], some (74, false)⟩,
 ⟨some 79, .un .not (.t 78), some (74, false)⟩,
 oo 80 (.pick (.t 74) (.c (.bool true)) (.t 79)),
 oo 81 (.mov (.t 80)),
 ⟨some 82, .faddr 2 (.t 5), some (81, false)⟩,
 ⟨some 83, .load none (.t 82), some (81, false)⟩,
 ⟨some 84, .mov (.t 3), some (81, false)⟩,
 ⟨some 85, .call false 76 [(.t 83), (.t 84)], some (81, false)⟩,
 ⟨some 86, .un .not (.t 85), some (81, false)⟩,
 oo 87 (.pick (.t 81) (.c (.bool true)) (.t 86)),
 oo 88 (.mov (.t 87)),
 ⟨some 89, .faddr 2 (.t 5), some (88, false)⟩,
 ⟨some 90, .load none (.t 89), some (88, false)⟩,
 ⟨some 91, .len (.t 90), some (88, false)⟩,
 ⟨some 92, .bin .eql (.t 91) (ci 0), some (88, false)⟩,
 oo 93 (.pick (.t 88) (.c (.bool true)) (.t 92))])
 (.cond (.t 93)
 (.seq (.ops false [
 oo 2 (.mov (ci 11))])
 (.ret))
 (.skip))))))
 (.ops false [
 oo 94 (.bin .add (.t 42) (ci 1)),
 oo 42 (.mov (.t 94))]))))
def sk : bA := .mk 95
 (.seq (.ops false [
 oo 1 (.box (some 6) (.t 0) true),
 oo 2 (.mov (ci 0))])
 (.seq (.ops false [
 oo 7 (.faddr 0 (.t 1)),
 oo 8 (.ldI none (.t 7)),
 oo 9 (.len (.t 8)),
 oo 3 (.mov (.t 9))])
 (.seq (.seq (.ops false [
 oo 10 (.mov (.t 3)),
 oo 11 (.bin .lss (.t 10) (ci 1)),
 oo 12 (.mov (.t 11)),
 ⟨some 13, .mov (.t 3), some (12, false)⟩,
 ⟨some 14, .bin .gtr (.t 13) (ci 4), some (12, false)⟩,
 oo 15 (.pick (.t 12) (.c (.bool true)) (.t 14)),
 oo 16 (.mov (.t 15)),
 ⟨some 17, .faddr 1 (.t 1), some (16, false)⟩,
 ⟨some 18, .ldI (some 4) (.t 17), some (16, false)⟩,
 ⟨some 19, .call false 62 [(.t 18)], some (16, false)⟩,
 ⟨some 20, .bin .gtr (.t 19) (ci 300), some (16, false)⟩,
 oo 21 (.pick (.t 16) (.c (.bool true)) (.t 20)),
 oo 22 (.mov (.t 21)),
 ⟨some 23, .faddr 1 (.t 1), some (22, false)⟩,
 ⟨some 24, .ldI (some 4) (.t 23), some (22, false)⟩,
 ⟨some 25, .call false 63 [(.t 24)], some (22, false)⟩,
 ⟨some 26, .bin .gtr (.t 25) (ci 20), some (22, false)⟩,
 oo 27 (.pick (.t 22) (.c (.bool true)) (.t 26)),
 oo 28 (.mov (.t 27)),
 ⟨some 29, .faddr 5 (.t 1), some (28, false)⟩,
 ⟨some 30, .ldI none (.t 29), some (28, false)⟩,
 ⟨some 31, .len (.t 30), some (28, false)⟩,
 ⟨some 32, .bin .gtr (.t 31) (ci 24), some (28, false)⟩,
 oo 33 (.pick (.t 28) (.c (.bool true)) (.t 32))])
 (.cond (.t 33)
 (.seq (.ops false [
 oo 2 (.mov (ci 2))])
 (.ret))
 (.skip)))
 (.seq (.seq (.ops false [
 oo 34 (.faddr 1 (.t 1)),
 oo 35 (.ldI (some 4) (.t 34)),
 oo 36 (.mov (.t 3)),
 oo 37 (.call false 75 [(.t 35), (.t 36)]),
 oo 38 (.un .not (.t 37))])
 (.cond (.t 38)
 (.seq (.ops false [
 oo 2 (.mov (ci 11))])
 (.ret))
 (.skip)))
 (.seq (.seq (.ops false [
 oo 39 (.faddr 5 (.t 1)),
 oo 40 (.ldI none (.t 39)),
 oo 41 (.len (.t 40)),
 oo 42 (.mov (ci 0))])
 (.block 0 (.loop sj)))
 (.seq (.ops false [
 oo 2 (.mov (ci 0))])
 (.ret)))))))
 [.t 2]
set_option maxRecDepth 100000 in
theorem sl : bB Try.prog 48 sk = true := by kernel_rfl
def sm : bA := .mk 9
 (.seq (.ops false [
 oo 3 (.box (some 8) (.t 1) true),
 oo 4 (.mov (.c (.vec (some 8) [])))])
 (.seq (.seq (.ops false [
 oo 5 (.mov (.t 0)),
 oo 6 (.un .not (.t 5))])
 (.cond (.t 6)
 (.seq (.ops false [
 oo 4 (.mov (.c (.vec (some 8) [])))])
 (.ret))
 (.skip)))
 (.seq (.ops false [
 oo 7 (.ldI (some 8) (.t 3)),
 oo 8 (.bsliceI (some 8) [(.t 7)]),
 oo 4 (.mov (.t 8))])
 (.ret))))
 [.t 4]
set_option maxRecDepth 100000 in
theorem sn : bB Try.prog 77 sm = true := by kernel_rfl
def sp : bA := .mk 25
 (.seq (.ops false [
 oo 3 (.box (some 4) (.t 1) true),
 oo 4 (.mov (.c (.bool false)))])
 (.seq (.ops true [
 oo 5 (.faddr 1 (.t 3)),
 oo 6 (.ldI none (.t 5)),
 oo 7 (.bin .geq (.t 6) (ci 0)),
 oo 8 (.mov (.t 7)),
 ⟨some 9, .faddr 1 (.t 3), some (8, true)⟩,
 ⟨some 10, .ldI none (.t 9), some (8, true)⟩,
 ⟨some 11, .mov (.t 0), some (8, true)⟩,
 ⟨some 12, .len (.t 11), some (8, true)⟩,
 ⟨some 13, .bin .lss (.t 10) (.t 12), some (8, true)⟩,
 oo 14 (.pick (.t 8) (.t 13) (.c (.bool false))),
 oo 15 (.mov (.t 14)),
 ⟨some 16, .mov (.t 0), some (15, true)⟩,
 ⟨some 17, .faddr 1 (.t 3), some (15, true)⟩,
 ⟨some 18, .ldI none (.t 17), some (15, true)⟩,
 ⟨some 19, .iaddr none (.t 16) (.t 18), some (15, true)⟩,
 ⟨some 20, .load none (.t 19), some (15, true)⟩,
 ⟨some 21, .faddr 2 (.t 3), some (15, true)⟩,
 ⟨some 22, .ldI none (.t 21), some (15, true)⟩,
 ⟨some 23, .bin .eql (.t 20) (.t 22), some (15, true)⟩,
 oo 24 (.pick (.t 15) (.t 23) (.c (.bool false))),
 oo 4 (.mov (.t 24))])
 (.ret)))
 [.t 4]
set_option maxRecDepth 100000 in
theorem sq : bB Try.prog 54 sp = true := by kernel_rfl
def sr : bA := .mk 9
 (.seq (.ops false [
 oo 2 (.mov (.c (.bool false)))])
 (.seq (.ops false [
 oo 3 (.mov (.t 0)),
 oo 4 (.bin .geq (.t 3) (ci 0)),
 oo 5 (.mov (.t 4)),
 ⟨some 6, .mov (.t 0), some (5, true)⟩,
 ⟨some 7, .bin .lss (.t 6) (ci 8), some (5, true)⟩,
 oo 8 (.pick (.t 5) (.t 7) (.c (.bool false))),
 oo 2 (.mov (.t 8))])
 (.ret)))
 [.t 2]
set_option maxRecDepth 100000 in
theorem ss : bB Try.prog 100 sr = true := by kernel_rfl
def su : bA := .mk 13
 (.seq (.ops false [
 oo 3 (.box (some 8) (.t 0) false),
 oo 6 (.alloc [.int .u16 0, .int .u16 0, .int .u16 0, .int .u16 0, .int .u16 0, .int .u16 0, .int .u16 0, .int .u16 0])])
 (.seq (.seq (.ops false [
 oo 7 (.mov (.t 1)),
 oo 8 (.call false 100 [(.t 7)])])
 (.cond (.t 8)
 (.ops false [
 oo 9 (.mov (.t 1)),
 oo 10 (.mov (.t 2)),
 oo 11 (.iaddrA 8 none (.t 3) (.t 9)),
 ⟨none, .store none (.t 11) (.t 10), none⟩])
 (.skip)))
 (.seq (.ops false [
 oo 12 (.load (some 8) (.t 3)),
 ⟨none, .store (some 8) (.t 6) (.t 12), none⟩])
 (.ret))))
 [.cell 6 (some 8)]
set_option maxRecDepth 100000 in
theorem sv : bB Try.prog 78 su = true := by kernel_rfl
def sw : bA := .mk 25
 (.seq (.ops false [
 oo 2 (.mov (ci 0))])
 (.seq (.seq (.ops false [
 oo 3 (.mov (.t 0)),
 oo 4 (.bin .geq (.t 3) (.c (.int .u64 4294967296)))])
 (.cond (.t 4)
 (.seq (.ops false [
 oo 5 (.mov (.t 0)),
 oo 6 (.bin .shr (.t 5) (.c (.int .u64 32))),
 oo 0 (.mov (.t 6))])
 (.ops false [
 oo 2 (.mov (ci 32))]))
 (.skip)))
 (.seq (.seq (.ops false [
 oo 7 (.mov (.t 0)),
 oo 8 (.bin .geq (.t 7) (.c (.int .u64 65536)))])
 (.cond (.t 8)
 (.seq (.ops false [
 oo 9 (.mov (.t 0)),
 oo 10 (.bin .shr (.t 9) (.c (.int .u64 16))),
 oo 0 (.mov (.t 10))])
 (.ops false [
 oo 11 (.mov (.t 2)),
 oo 12 (.bin .add (.t 11) (ci 16)),
 oo 2 (.mov (.t 12))]))
 (.skip)))
 (.seq (.seq (.ops false [
 oo 13 (.mov (.t 0)),
 oo 14 (.bin .geq (.t 13) (.c (.int .u64 256)))])
 (.cond (.t 14)
 (.seq (.ops false [
 oo 15 (.mov (.t 0)),
 oo 16 (.bin .shr (.t 15) (.c (.int .u64 8))),
 oo 0 (.mov (.t 16))])
 (.ops false [
 oo 17 (.mov (.t 2)),
 oo 18 (.bin .add (.t 17) (ci 8)),
 oo 2 (.mov (.t 18))]))
 (.skip)))
 (.seq (.ops false [
 oo 19 (.mov (.t 2)),
 oo 20 (.mov (.t 0)),
 oo 21 (.convI .u8 (.t 20)),
 oo 22 (.idxS (.c (.str ⟨#[0, 1, 2, 2, 3, 3, 3, 3, 4, 4, 4, 4, 4, 4, 4, 4, 5, 5, 5, 5, 5, 5, 5, 5, 5, 5, 5, 5, 5, 5, 5, 5, 6, 6, 6, 6, 6, 6, 6, 6, 6, 6, 6, 6, 6, 6, 6, 6, 6, 6, 6, 6, 6, 6, 6, 6, 6, 6, 6, 6, 6, 6, 6, 6, 7, 7, 7, 7, 7, 7, 7, 7, 7, 7, 7, 7, 7, 7, 7, 7, 7, 7, 7, 7, 7, 7, 7, 7, 7, 7, 7, 7, 7, 7, 7, 7, 7, 7, 7, 7, 7, 7, 7, 7, 7, 7, 7, 7, 7, 7, 7, 7, 7, 7, 7, 7, 7, 7, 7, 7, 7, 7, 7, 7, 7, 7, 7, 7, 8, 8, 8, 8, 8, 8, 8, 8, 8, 8, 8, 8, 8, 8, 8, 8, 8, 8, 8, 8, 8, 8, 8, 8, 8, 8, 8, 8, 8, 8, 8, 8, 8, 8, 8, 8, 8, 8, 8, 8, 8, 8, 8, 8, 8, 8, 8, 8, 8, 8, 8, 8, 8, 8, 8, 8, 8, 8, 8, 8, 8, 8, 8, 8, 8, 8, 8, 8, 8, 8, 8, 8, 8, 8, 8, 8, 8, 8, 8, 8, 8, 8, 8, 8, 8, 8, 8, 8, 8, 8, 8, 8, 8, 8, 8, 8, 8, 8, 8, 8, 8, 8, 8, 8, 8, 8, 8, 8, 8, 8, 8, 8, 8, 8, 8, 8, 8, 8, 8, 8, 8, 8, 8, 8, 8, 8, 8, 8]⟩)) (.t 21)),
 oo 23 (.convI .i64 (.t 22)),
 oo 24 (.bin .add (.t 19) (.t 23)),
 oo 2 (.mov (.t 24))])
 (.ret))))))
 [.t 2]
set_option maxRecDepth 100000 in
theorem sx : bB Try.prog 135 sw = true := by kernel_rfl
def sy : bA := .mk 8
 (.seq (.ops false [
 oo 2 (.mov (ci 0))])
 (.seq (.cond (.c (.bool false))
 (.seq (.ops false [
 oo 3 (.mov (.t 0)),
 oo 4 (.convI .u32 (.t 3)),
 oo 5 (.call false 134 [(.t 4)]),
 oo 2 (.mov (.t 5))])
 (.ret))
 (.skip))
 (.seq (.ops false [
 oo 6 (.mov (.t 0)),
 oo 7 (.call false 135 [(.t 6)]),
 oo 2 (.mov (.t 7))])
 (.ret))))
 [.t 2]
set_option maxRecDepth 100000 in
theorem sA : bB Try.prog 122 sy = true := by kernel_rfl
def sB : bv :=
 (.seq (.seq (.ops true [
 oo 18 (.mov (.t 9)),
 oo 19 (.mov (.t 1)),
 oo 20 (.bin .gtr (.t 18) (.t 19)),
 oo 21 (.mov (.t 20)),
 ⟨some 22, .mov (.t 3), some (21, true)⟩,
 ⟨some 23, .mov (.t 0), some (21, true)⟩,
 ⟨some 24, .mov (.t 9), some (21, true)⟩,
 ⟨some 25, .iaddr (some 8) (.t 23) (.t 24), some (21, true)⟩,
 ⟨some 26, .load (some 8) (.t 25), some (21, true)⟩,
 ⟨some 27, .mov (.t 0), some (21, true)⟩,
 ⟨some 28, .mov (.t 9), some (21, true)⟩,
 ⟨some 29, .bin .sub (.t 28) (ci 1), some (21, true)⟩,
 ⟨some 30, .iaddr (some 8) (.t 27) (.t 29), some (21, true)⟩,
 ⟨some 31, .load (some 8) (.t 30), some (21, true)⟩,
 ⟨some 32, .callv false (.t 22) [(.t 26), (.t 31)], some (21, true)⟩,
 ⟨some 33, .bin .lss (.t 32) (ci 0), some (21, true)⟩,
 oo 34 (.pick (.t 21) (.t 33) (.c (.bool false)))])
 (.cond (.t 34)
 (.skip)
 (.exit 2)))
 (.seq (.block 3 (.opsS [] [
 oo 37 (.mov (.t 0)),
 oo 38 (.mov (.t 9)),
 oo 39 (.mov (.t 0)),
 oo 40 (.mov (.t 9)),
 oo 41 (.bin .sub (.t 40) (ci 1)),
 oo 42 (.mov (.t 0)),
 oo 43 (.mov (.t 9)),
 oo 44 (.bin .sub (.t 43) (ci 1)),
 oo 45 (.iaddr (some 8) (.t 42) (.t 44)),
 oo 46 (.load (some 8) (.t 45)),
 oo 47 (.mov (.t 0)),
 oo 48 (.mov (.t 9)),
 oo 49 (.iaddr (some 8) (.t 47) (.t 48)),
 oo 50 (.load (some 8) (.t 49)),
 oo 51 (.iaddr (some 8) (.t 37) (.t 38)),
 ⟨none, .store (some 8) (.t 51) (.t 46), none⟩,
 oo 52 (.iaddr (some 8) (.t 39) (.t 41)),
 ⟨none, .store (some 8) (.t 52) (.t 50), none⟩]))
 (.ops false [
 oo 35 (.mov (.t 9)),
 oo 36 (.bin .sub (.t 35) (ci 1)),
 oo 9 (.mov (.t 36))])))
def sC : bv :=
 (.seq (.seq (.ops false [
 oo 12 (.mov (.t 8)),
 oo 13 (.mov (.t 2)),
 oo 14 (.bin .lss (.t 12) (.t 13))])
 (.cond (.t 14)
 (.skip)
 (.exit 0)))
 (.seq (.block 1 (.seq (.ops false [
 oo 17 (.mov (.t 8)),
 oo 9 (.mov (.t 17))])
 (.block 2 (.loop sB))))
 (.ops false [
 oo 15 (.mov (.t 8)),
 oo 16 (.bin .add (.t 15) (ci 1)),
 oo 8 (.mov (.t 16))])))
def sD : bA := .mk 53
 (.seq (.ops false [
 oo 10 (.mov (.t 1)),
 oo 11 (.bin .add (.t 10) (ci 1)),
 oo 8 (.mov (.t 11))])
 (.block 0 (.loop sC)))
 []
set_option maxRecDepth 100000 in
theorem sE : bB Try.prog 126 sD = true := by kernel_rfl
def sF : bv :=
 (.block 1 (.seq (.ops false [
 oo 21 (.mov (.t 2)),
 oo 22 (.mov (.t 1)),
 oo 23 (.bin .sub (.t 21) (.t 22)),
 oo 12 (.mov (.t 23))])
 (.seq (.seq (.ops false [
 oo 24 (.mov (.t 12)),
 oo 25 (.bin .leq (.t 24) (ci 12))])
 (.cond (.t 25)
 (.seq (.ops false [
 oo 26 (.mov (.t 0)),
 oo 27 (.mov (.t 1)),
 oo 28 (.mov (.t 2)),
 oo 29 (.mov (.t 4)),
 oo 30 (.call true 126 [(.t 26), (.t 27), (.t 28), (.t 29)])])
 (.ret))
 (.skip)))
 (.seq (.seq (.ops false [
 oo 31 (.mov (.t 3)),
 oo 32 (.bin .eql (.t 31) (ci 0))])
 (.cond (.t 32)
 (.seq (.ops false [
 oo 33 (.mov (.t 0)),
 oo 34 (.mov (.t 1)),
 oo 35 (.mov (.t 2)),
 oo 36 (.mov (.t 4)),
 oo 37 (.call false 127 [(.t 33), (.t 34), (.t 35), (.t 36)])])
 (.ret))
 (.skip)))
 (.seq (.seq (.ops false [
 oo 38 (.mov (.t 10)),
 oo 39 (.un .not (.t 38))])
 (.cond (.t 39)
 (.seq (.ops false [
 oo 40 (.mov (.t 0)),
 oo 41 (.mov (.t 1)),
 oo 42 (.mov (.t 2)),
 oo 43 (.mov (.t 4)),
 oo 44 (.call false 128 [(.t 40), (.t 41), (.t 42), (.t 43)])])
 (.ops false [
 oo 45 (.mov (.t 3)),
 oo 46 (.bin .sub (.t 45) (ci 1)),
 oo 3 (.mov (.t 46))]))
 (.skip)))
 (.seq (.ops false [
 oo 48 (.mov (.t 0)),
 oo 49 (.mov (.t 1)),
 oo 50 (.mov (.t 2)),
 oo 51 (.mov (.t 4)),
 oo 52 (.call false 129 [(.t 48), (.t 49), (.t 50), (.t 51)]),
 oo 47 (.mov (.t 52)),
 oo 53 (.extract (.t 47) 0),
 oo 54 (.extract (.t 47) 1),
 oo 13 (.mov (.t 53)),
 oo 14 (.mov (.t 54))])
 (.seq (.seq (.ops false [
 oo 55 (.mov (.t 14)),
 oo 56 (.bin .eql (.t 55) (ci 2))])
 (.cond (.t 56)
 (.seq (.ops false [
 oo 57 (.mov (.t 0)),
 oo 58 (.mov (.t 1)),
 oo 59 (.mov (.t 2)),
 oo 60 (.mov (.t 4)),
 oo 61 (.call false 130 [(.t 57), (.t 58), (.t 59), (.t 60)])])
 (.seq (.ops false [
 oo 62 (.mov (.t 2)),
 oo 63 (.bin .sub (.t 62) (ci 1)),
 oo 64 (.mov (.t 13)),
 oo 65 (.mov (.t 1)),
 oo 66 (.bin .sub (.t 64) (.t 65)),
 oo 67 (.bin .sub (.t 63) (.t 66)),
 oo 13 (.mov (.t 67))])
 (.ops false [
 oo 14 (.mov (ci 1))])))
 (.skip)))
 (.seq (.seq (.ops false [
 oo 68 (.mov (.t 10)),
 oo 69 (.mov (.t 68)),
 ⟨some 70, .mov (.t 11), some (69, true)⟩,
 oo 71 (.pick (.t 69) (.t 70) (.c (.bool false))),
 oo 72 (.mov (.t 71)),
 ⟨some 73, .mov (.t 14), some (72, true)⟩,
 ⟨some 74, .bin .eql (.t 73) (ci 1), some (72, true)⟩,
 oo 75 (.pick (.t 72) (.t 74) (.c (.bool false)))])
 (.cond (.t 75)
 (.seq (.ops false [
 oo 76 (.mov (.t 0)),
 oo 77 (.mov (.t 1)),
 oo 78 (.mov (.t 2)),
 oo 79 (.mov (.t 4)),
 oo 80 (.call false 131 [(.t 76), (.t 77), (.t 78), (.t 79)])])
 (.cond (.t 80)
 (.ret)
 (.skip)))
 (.skip)))
 (.seq (.seq (.ops true [
 oo 81 (.mov (.t 1)),
 oo 82 (.bin .gtr (.t 81) (ci 0)),
 oo 83 (.mov (.t 82)),
 ⟨some 84, .mov (.t 4), some (83, true)⟩,
 ⟨some 85, .mov (.t 0), some (83, true)⟩,
 ⟨some 86, .mov (.t 1), some (83, true)⟩,
 ⟨some 87, .bin .sub (.t 86) (ci 1), some (83, true)⟩,
 ⟨some 88, .iaddr (some 8) (.t 85) (.t 87), some (83, true)⟩,
 ⟨some 89, .load (some 8) (.t 88), some (83, true)⟩,
 ⟨some 90, .mov (.t 0), some (83, true)⟩,
 ⟨some 91, .mov (.t 13), some (83, true)⟩,
 ⟨some 92, .iaddr (some 8) (.t 90) (.t 91), some (83, true)⟩,
 ⟨some 93, .load (some 8) (.t 92), some (83, true)⟩,
 ⟨some 94, .callv false (.t 84) [(.t 89), (.t 93)], some (83, true)⟩,
 ⟨some 95, .bin .lss (.t 94) (ci 0), some (83, true)⟩,
 ⟨some 96, .un .not (.t 95), some (83, true)⟩,
 oo 97 (.pick (.t 83) (.t 96) (.c (.bool false)))])
 (.cond (.t 97)
 (.seq (.ops false [
 oo 98 (.mov (.t 0)),
 oo 99 (.mov (.t 1)),
 oo 100 (.mov (.t 2)),
 oo 101 (.mov (.t 13)),
 oo 102 (.mov (.t 4)),
 oo 103 (.call false 132 [(.t 98), (.t 99), (.t 100), (.t 101), (.t 102)]),
 oo 15 (.mov (.t 103))])
 (.seq (.ops false [
 oo 104 (.mov (.t 15)),
 oo 1 (.mov (.t 104))])
 (.exit 1)))
 (.skip)))
 (.seq (.ops false [
 oo 106 (.mov (.t 0)),
 oo 107 (.mov (.t 1)),
 oo 108 (.mov (.t 2)),
 oo 109 (.mov (.t 13)),
 oo 110 (.mov (.t 4)),
 oo 111 (.call false 133 [(.t 106), (.t 107), (.t 108), (.t 109), (.t 110)]),
 oo 105 (.mov (.t 111)),
 oo 112 (.extract (.t 105) 0),
 oo 113 (.extract (.t 105) 1),
 oo 16 (.mov (.t 112)),
 oo 17 (.mov (.t 113))])
 (.seq (.ops false [
 oo 114 (.mov (.t 17)),
 oo 11 (.mov (.t 114))])
 (.seq (.ops false [
 oo 115 (.mov (.t 16)),
 oo 116 (.mov (.t 1)),
 oo 117 (.bin .sub (.t 115) (.t 116)),
 oo 118 (.mov (.t 2)),
 oo 119 (.mov (.t 16)),
 oo 120 (.bin .sub (.t 118) (.t 119)),
 oo 18 (.mov (.t 117)),
 oo 19 (.mov (.t 120))])
 (.seq (.ops false [
 oo 121 (.mov (.t 12)),
 oo 122 (.bin .quo (.t 121) (ci 8)),
 oo 20 (.mov (.t 122))])
 (.seq (.ops false [
 oo 123 (.mov (.t 18)),
 oo 124 (.mov (.t 19)),
 oo 125 (.bin .lss (.t 123) (.t 124))])
 (.cond (.t 125)
 (.seq (.ops false [
 oo 126 (.mov (.t 18)),
 oo 127 (.mov (.t 20)),
 oo 128 (.bin .geq (.t 126) (.t 127)),
 oo 10 (.mov (.t 128))])
 (.seq (.ops false [
 oo 129 (.mov (.t 0)),
 oo 130 (.mov (.t 1)),
 oo 131 (.mov (.t 16)),
 oo 132 (.mov (.t 3)),
 oo 133 (.mov (.t 4)),
 oo 134 (.call true 121 [(.t 129), (.t 130), (.t 131), (.t 132), (.t 133)])])
 (.ops false [
 oo 135 (.mov (.t 16)),
 oo 136 (.bin .add (.t 135) (ci 1)),
 oo 1 (.mov (.t 136))])))
 (.seq (.ops false [
 oo 137 (.mov (.t 19)),
 oo 138 (.mov (.t 20)),
 oo 139 (.bin .geq (.t 137) (.t 138)),
 oo 10 (.mov (.t 139))])
 (.seq (.ops false [
 oo 140 (.mov (.t 0)),
 oo 141 (.mov (.t 16)),
 oo 142 (.bin .add (.t 141) (ci 1)),
 oo 143 (.mov (.t 2)),
 oo 144 (.mov (.t 3)),
 oo 145 (.mov (.t 4)),
 oo 146 (.call true 121 [(.t 140), (.t 142), (.t 143), (.t 144), (.t 145)])])
 (.ops false [
 oo 147 (.mov (.t 16)),
 oo 2 (.mov (.t 147))]))))))))))))))))))
def sG : bA := .mk 148
 (.seq (.ops false [
 oo 10 (.mov (.c (.bool true)))])
 (.seq (.ops false [
 oo 11 (.mov (.c (.bool true)))])
 (.block 0 (.loop sF))))
 []
set_option maxRecDepth 100000 in
theorem sH : bB Try.prog 121 sG = true := by kernel_rfl
def sI : bA := .mk 14
 (.seq (.ops false [
 oo 5 (.mov (.t 0)),
 oo 6 (.len (.t 5)),
 oo 4 (.mov (.t 6))])
 (.ops false [
 oo 7 (.mov (.t 0)),
 oo 8 (.mov (.t 4)),
 oo 9 (.mov (.t 4)),
 oo 10 (.convI .u64 (.t 9)),
 oo 11 (.call false 122 [(.t 10)]),
 oo 12 (.mov (.t 1)),
 oo 13 (.call true 121 [(.t 7), (ci 0), (.t 8), (.t 11), (.t 12)])]))
 []
set_option maxRecDepth 100000 in
theorem sJ : bB Try.prog 111 sI = true := by kernel_rfl
def sK : bA := .mk 6
 (.seq (.ops false [
 oo 2 (.mov (.c (.bool false)))])
 (.seq (.ops false [
 oo 3 (.mov (.t 0)),
 oo 4 (.mov (.t 0)),
 oo 5 (.bin .neq (.t 3) (.t 4)),
 oo 2 (.mov (.t 5))])
 (.ret)))
 [.t 2]
set_option maxRecDepth 100000 in
theorem sL : bB Try.prog 136 sK = true := by kernel_rfl
def sM : bA := .mk 20
 (.seq (.ops false [
 oo 4 (.mov (ci 0))])
 (.seq (.ops false [
 oo 7 (.mov (.t 0)),
 oo 8 (.call false 136 [(.t 7)]),
 oo 5 (.mov (.t 8))])
 (.seq (.ops false [
 oo 9 (.mov (.t 1)),
 oo 10 (.call false 136 [(.t 9)]),
 oo 6 (.mov (.t 10))])
 (.seq (.seq (.ops false [
 oo 11 (.mov (.t 5))])
 (.cond (.t 11)
 (.seq (.seq (.ops false [
 oo 12 (.mov (.t 6))])
 (.cond (.t 12)
 (.seq (.ops false [
 oo 4 (.mov (ci 0))])
 (.ret))
 (.skip)))
 (.seq (.ops false [
 oo 4 (.mov (ci (-1)))])
 (.ret)))
 (.skip)))
 (.seq (.seq (.ops false [
 oo 13 (.mov (.t 6))])
 (.cond (.t 13)
 (.seq (.ops false [
 oo 4 (.mov (ci 1))])
 (.ret))
 (.skip)))
 (.seq (.seq (.ops false [
 oo 14 (.mov (.t 0)),
 oo 15 (.mov (.t 1)),
 oo 16 (.bin .lss (.t 14) (.t 15))])
 (.cond (.t 16)
 (.seq (.ops false [
 oo 4 (.mov (ci (-1)))])
 (.ret))
 (.skip)))
 (.seq (.seq (.ops false [
 oo 17 (.mov (.t 0)),
 oo 18 (.mov (.t 1)),
 oo 19 (.bin .gtr (.t 17) (.t 18))])
 (.cond (.t 19)
 (.seq (.ops false [
 oo 4 (.mov (ci 1))])
 (.ret))
 (.skip)))
 (.seq (.ops false [
 oo 4 (.mov (ci 0))])
 (.ret)))))))))
 [.t 4]
set_option maxRecDepth 100000 in
theorem sN : bB Try.prog 123 sM = true := by kernel_rfl
def sO : bv :=
 (.seq (.ops false [
 oo 8 (.bin .lss (.t 7) (ci 8))])
 (.seq (.cond (.t 8)
 (.skip)
 (.exit 0))
 (.seq (.block 1 (.seq (.ops false [
 oo 9 (.mov (.t 7)),
 oo 5 (.mov (.t 9))])
 (.seq (.ops true [
 oo 10 (.mov (.t 5)),
 oo 11 (.iaddrA 8 none (.t 2) (.t 10)),
 oo 12 (.ldI none (.t 11)),
 oo 13 (.mov (.t 5)),
 oo 14 (.iaddrA 8 none (.t 3) (.t 13)),
 oo 15 (.ldI none (.t 14)),
 oo 16 (.call false 123 [(.t 12), (.t 15)]),
 oo 6 (.mov (.t 16))])
 (.seq (.ops false [
 oo 17 (.mov (.t 6)),
 oo 18 (.bin .neq (.t 17) (ci 0))])
 (.cond (.t 18)
 (.seq (.ops false [
 oo 19 (.mov (.t 6)),
 oo 4 (.mov (.t 19))])
 (.ret))
 (.skip))))))
 (.ops false [
 oo 20 (.bin .add (.t 7) (ci 1)),
 oo 7 (.mov (.t 20))]))))
def sP : bA := .mk 21
 (.seq (.ops false [
 oo 2 (.box (some 8) (.t 0) true),
 oo 3 (.box (some 8) (.t 1) true),
 oo 4 (.mov (ci 0))])
 (.seq (.seq (.ops false [
 oo 7 (.mov (ci 0))])
 (.block 0 (.loop sO)))
 (.seq (.ops false [
 oo 4 (.mov (ci 0))])
 (.ret))))
 [.t 4]
set_option maxRecDepth 100000 in
theorem sQ : bB Try.prog 112 sP = true := by kernel_rfl
def sR : bv :=
 (.seq (.seq (.ops false [
 oo 29 (.mov (.t 5)),
 oo 30 (.mov (.t 4)),
 oo 31 (.len (.t 30)),
 oo 32 (.bin .lss (.t 29) (.t 31))])
 (.cond (.t 32)
 (.skip)
 (.exit 2)))
 (.seq (.block 3 (.seq (.ops true [
 oo 35 (.mov (.t 4)),
 oo 36 (.mov (.t 5)),
 oo 37 (.iaddr (some 8) (.t 35) (.t 36)),
 oo 38 (.load (some 8) (.t 37)),
 oo 39 (.mov (.t 4)),
 oo 40 (.mov (.t 5)),
 oo 41 (.bin .sub (.t 40) (ci 1)),
 oo 42 (.iaddr (some 8) (.t 39) (.t 41)),
 oo 43 (.load (some 8) (.t 42)),
 oo 44 (.eqS true [.int, .int, .int, .int, .int, .int, .int, .int] (.t 38) (.t 43))])
 (.cond (.t 44)
 (.seq (.ops false [
 oo 45 (.mov (.t 0)),
 oo 46 (.mov (.t 3)),
 oo 47 (.mov (.t 4)),
 oo 48 (.mov (.t 5)),
 oo 49 (.iaddr (some 8) (.t 47) (.t 48)),
 oo 50 (.load (some 8) (.t 49)),
 oo 51 (.iaddr (some 8) (.t 45) (.t 46)),
 ⟨none, .store (some 8) (.t 51) (.t 50), none⟩])
 (.ops false [
 oo 52 (.mov (.t 3)),
 oo 53 (.bin .add (.t 52) (ci 1)),
 oo 3 (.mov (.t 53))]))
 (.skip))))
 (.ops false [
 oo 33 (.mov (.t 5)),
 oo 34 (.bin .add (.t 33) (ci 1)),
 oo 5 (.mov (.t 34))])))
def sS : bv :=
 (.seq (.seq (.ops false [
 oo 10 (.mov (.t 3)),
 oo 11 (.mov (.t 0)),
 oo 12 (.len (.t 11)),
 oo 13 (.bin .lss (.t 10) (.t 12))])
 (.cond (.t 13)
 (.skip)
 (.exit 0)))
 (.seq (.block 1 (.seq (.ops true [
 oo 16 (.mov (.t 0)),
 oo 17 (.mov (.t 3)),
 oo 18 (.iaddr (some 8) (.t 16) (.t 17)),
 oo 19 (.load (some 8) (.t 18)),
 oo 20 (.mov (.t 0)),
 oo 21 (.mov (.t 3)),
 oo 22 (.bin .sub (.t 21) (ci 1)),
 oo 23 (.iaddr (some 8) (.t 20) (.t 22)),
 oo 24 (.load (some 8) (.t 23)),
 oo 25 (.eqS false [.int, .int, .int, .int, .int, .int, .int, .int] (.t 19) (.t 24))])
 (.cond (.t 25)
 (.seq (.ops false [
 oo 26 (.mov (.t 0)),
 oo 27 (.mov (.t 3)),
 oo 28 (.slc (some 8) (.t 26) (some (.t 27)) none),
 oo 4 (.mov (.t 28))])
 (.seq (.seq (.ops false [
 oo 5 (.mov (ci 1))])
 (.block 2 (.loop sR)))
 (.seq (.ops false [
 oo 54 (.mov (.t 0)),
 oo 55 (.mov (.t 3)),
 oo 56 (.slc (some 8) (.t 54) (some (.t 55)) none),
 ⟨none, .clear (some 8) [.int .u16 0, .int .u16 0, .int .u16 0, .int .u16 0, .int .u16 0, .int .u16 0, .int .u16 0, .int .u16 0] (.t 56), none⟩])
 (.seq (.ops false [
 oo 57 (.mov (.t 0)),
 oo 58 (.mov (.t 3)),
 oo 59 (.slc (some 8) (.t 57) none (some (.t 58))),
 oo 2 (.mov (.t 59))])
 (.ret)))))
 (.skip))))
 (.ops false [
 oo 14 (.mov (.t 3)),
 oo 15 (.bin .add (.t 14) (ci 1)),
 oo 3 (.mov (.t 15))])))
def sT : bA := .mk 61
 (.seq (.ops false [
 oo 2 (.mov (.c (.nils)))])
 (.seq (.seq (.ops false [
 oo 6 (.mov (.t 0)),
 oo 7 (.len (.t 6)),
 oo 8 (.bin .lss (.t 7) (ci 2))])
 (.cond (.t 8)
 (.seq (.ops false [
 oo 9 (.mov (.t 0)),
 oo 2 (.mov (.t 9))])
 (.ret))
 (.skip)))
 (.seq (.seq (.ops false [
 oo 3 (.mov (ci 1))])
 (.block 0 (.loop sS)))
 (.seq (.ops false [
 oo 60 (.mov (.t 0)),
 oo 2 (.mov (.t 60))])
 (.ret)))))
 [.t 2]
set_option maxRecDepth 100000 in
theorem sU : bB Try.prog 113 sT = true := by kernel_rfl
def sV : bA := .mk 9
 (.seq (.ops false [
 oo 2 (.mov (.c (.nils)))])
 (.seq (.ops false [
 oo 3 (.mov (.t 0)),
 oo 4 (.call true 93 [(.t 3)]),
 oo 0 (.mov (.t 4))])
 (.seq (.ops false [
 oo 5 (.mov (.t 0)),
 oo 6 (.call true 111 [(.t 5), (.c (.func 112 []))])])
 (.seq (.ops false [
 oo 7 (.mov (.t 0)),
 oo 8 (.call true 113 [(.t 7)]),
 oo 2 (.mov (.t 8))])
 (.ret)))))
 [.t 2]
set_option maxRecDepth 100000 in
theorem sW : bB Try.prog 101 sV = true := by kernel_rfl
def sX : bA := .mk 11
 (.seq (.ops false [
 oo 2 (.mov (.c (.nils)))])
 (.seq (.ops false [
 oo 3 (.mov (.t 0)),
 oo 4 (.call true 101 [(.t 3)]),
 oo 0 (.mov (.t 4))])
 (.seq (.seq (.ops false [
 oo 5 (.mov (.t 0)),
 oo 6 (.len (.t 5)),
 oo 7 (.bin .gtr (.t 6) (ci 64))])
 (.cond (.t 7)
 (.any)
 (.skip)))
 (.seq (.ops false [
 oo 10 (.mov (.t 0)),
 oo 2 (.mov (.t 10))])
 (.ret)))))
 [.t 2]
set_option maxRecDepth 100000 in
theorem sY : bB Try.prog 79 sX = true := by kernel_rfl
def sZ : bv :=
 (.seq (.ops false [
 oo 68 (.bin .lss (.t 67) (.t 66))])
 (.seq (.cond (.t 68)
 (.skip)
 (.exit 1))
 (.seq (.block 2 (.seq (.ops false [
 oo 69 (.iaddr (some 4) (.t 65) (.t 67)),
 oo 70 (.load (some 4) (.t 69)),
 oo 9 (.alloc [.int .i64 0, .int .i64 0, .int .u16 0, .vec (some 4) []]),
 ⟨none, .store (some 4) (.t 9) (.t 70), none⟩])
 (.ops false [
 oo 71 (.mov (.t 7)),
 oo 72 (.load (some 4) (.t 9)),
 oo 73 (.mov (.t 1)),
 oo 74 (.ldI (some 8) (.t 5)),
 oo 75 (.call false 50 [(.t 72), (.t 73), (.t 74)]),
 oo 76 (.append (some 8) (.t 71) (.t 75) false),
 oo 77 (.call true 79 [(.t 76)]),
 oo 7 (.mov (.t 77))])))
 (.ops false [
 oo 78 (.bin .add (.t 67) (ci 1)),
 oo 67 (.mov (.t 78))]))))
def s6 : bv :=
 (.seq (.ops false [
 oo 94 (.bin .lss (.t 93) (.t 92))])
 (.seq (.cond (.t 94)
 (.skip)
 (.exit 5))
 (.seq (.block 6 (.seq (.ops false [
 oo 95 (.iaddr (some 8) (.t 91) (.t 93)),
 oo 96 (.load (some 8) (.t 95)),
 oo 15 (.alloc [.int .u16 0, .int .u16 0, .int .u16 0, .int .u16 0, .int .u16 0, .int .u16 0, .int .u16 0, .int .u16 0]),
 ⟨none, .store (some 8) (.t 15) (.t 96), none⟩])
 (.ops false [
 oo 97 (.mov (.t 13)),
 oo 98 (.load (some 4) (.t 12)),
 oo 99 (.mov (.t 1)),
 oo 100 (.load (some 8) (.t 15)),
 oo 101 (.call false 50 [(.t 98), (.t 99), (.t 100)]),
 oo 102 (.append (some 8) (.t 97) (.t 101) false),
 oo 13 (.mov (.t 102))])))
 (.ops false [
 oo 103 (.bin .add (.t 93) (ci 1)),
 oo 93 (.mov (.t 103))]))))
def s7 : bv :=
 (.seq (.ops false [
 oo 88 (.bin .lss (.t 87) (.t 86))])
 (.seq (.cond (.t 88)
 (.skip)
 (.exit 3))
 (.seq (.block 4 (.seq (.ops false [
 oo 89 (.iaddr (some 4) (.t 85) (.t 87)),
 oo 90 (.load (some 4) (.t 89)),
 oo 12 (.alloc [.int .i64 0, .int .i64 0, .int .u16 0, .vec (some 4) []]),
 ⟨none, .store (some 4) (.t 12) (.t 90), none⟩])
 (.seq (.ops false [
 oo 13 (.mov (.c (.nils)))])
 (.seq (.seq (.ops false [
 oo 91 (.mov (.t 10)),
 oo 92 (.len (.t 91)),
 oo 93 (.mov (ci 0))])
 (.block 5 (.loop s6)))
 (.ops false [
 oo 104 (.mov (.t 13)),
 oo 105 (.call true 79 [(.t 104)]),
 oo 10 (.mov (.t 105))])))))
 (.ops false [
 oo 106 (.bin .add (.t 87) (ci 1)),
 oo 87 (.mov (.t 106))]))))
def s8 : bA := .mk 108
 (.seq (.ops false [
 oo 3 (.box (some 4) (.t 0) true),
 oo 5 (.box (some 8) (.t 2) true),
 oo 6 (.mov (.c (.vec (some 8) [])))])
 (.seq (.seq (.ops false [
 oo 16 (.faddr 0 (.t 3)),
 oo 17 (.ldI none (.t 16))])
 (.block 0 (.seq (.ops false [
 oo 19 (.bin .eql (.t 17) (ci 1)),
 oo 18 (.mov (.t 19))])
 (.cond (.t 18)
 (.seq (.ops false [
 oo 20 (.ldI (some 8) (.t 5)),
 oo 21 (.call false 77 [(.c (.bool true)), (.t 20)]),
 oo 6 (.mov (.t 21))])
 (.ret))
 (.seq (.ops false [
 oo 23 (.bin .eql (.t 17) (ci 2)),
 oo 22 (.mov (.t 23))])
 (.cond (.t 22)
 (.seq (.ops true [
 oo 24 (.faddr 1 (.t 3)),
 oo 25 (.ldI none (.t 24)),
 oo 26 (.iaddrA 8 none (.t 5) (.t 25)),
 oo 27 (.ldI none (.t 26)),
 oo 28 (.faddr 2 (.t 3)),
 oo 29 (.ldI none (.t 28)),
 oo 30 (.bin .eql (.t 27) (.t 29)),
 oo 31 (.ldI (some 8) (.t 5)),
 oo 32 (.call false 77 [(.t 30), (.t 31)]),
 oo 6 (.mov (.t 32))])
 (.ret))
 (.seq (.ops false [
 oo 34 (.bin .eql (.t 17) (ci 3)),
 oo 33 (.mov (.t 34))])
 (.cond (.t 33)
 (.seq (.ops true [
 oo 35 (.mov (.t 1)),
 oo 36 (.ldI (some 4) (.t 3)),
 oo 37 (.call false 54 [(.t 35), (.t 36)]),
 oo 38 (.ldI (some 8) (.t 5)),
 oo 39 (.call false 77 [(.t 37), (.t 38)]),
 oo 6 (.mov (.t 39))])
 (.ret))
 (.seq (.ops false [
 oo 41 (.bin .eql (.t 17) (ci 4)),
 oo 40 (.mov (.t 41))])
 (.cond (.t 40)
 (.seq (.ops true [
 oo 42 (.faddr 3 (.t 3)),
 oo 43 (.ldI none (.t 42)),
 oo 44 (.iaddr (some 4) (.t 43) (ci 0)),
 oo 45 (.load (some 4) (.t 44)),
 oo 46 (.mov (.t 1)),
 oo 47 (.ldI (some 8) (.t 5)),
 oo 48 (.call false 50 [(.t 45), (.t 46), (.t 47)]),
 oo 49 (.len (.t 48)),
 oo 50 (.bin .eql (.t 49) (ci 0)),
 oo 51 (.ldI (some 8) (.t 5)),
 oo 52 (.call false 77 [(.t 50), (.t 51)]),
 oo 6 (.mov (.t 52))])
 (.ret))
 (.seq (.ops false [
 oo 54 (.bin .eql (.t 17) (ci 5)),
 oo 53 (.mov (.t 54))])
 (.cond (.t 53)
 (.seq (.ops false [
 oo 55 (.ldI (some 8) (.t 5)),
 oo 56 (.faddr 1 (.t 3)),
 oo 57 (.ldI none (.t 56)),
 oo 58 (.faddr 2 (.t 3)),
 oo 59 (.ldI none (.t 58)),
 oo 60 (.call false 78 [(.t 55), (.t 57), (.t 59)]),
 oo 61 (.call false 77 [(.c (.bool true)), (.t 60)]),
 oo 6 (.mov (.t 61))])
 (.ret))
 (.seq (.ops false [
 oo 63 (.bin .eql (.t 17) (ci 7)),
 oo 62 (.mov (.t 63))])
 (.cond (.t 62)
 (.seq (.ops false [
 oo 7 (.mov (.c (.nils)))])
 (.seq (.seq (.ops false [
 oo 64 (.faddr 3 (.t 3)),
 oo 65 (.ldI none (.t 64)),
 oo 66 (.len (.t 65)),
 oo 67 (.mov (ci 0))])
 (.block 1 (.loop sZ)))
 (.seq (.ops false [
 oo 79 (.mov (.t 7)),
 oo 6 (.mov (.t 79))])
 (.ret))))
 (.seq (.ops false [
 oo 81 (.bin .eql (.t 17) (ci 6)),
 oo 80 (.mov (.t 81))])
 (.cond (.t 80)
 (.seq (.ops false [
 oo 82 (.ldI (some 8) (.t 5)),
 oo 83 (.call false 77 [(.c (.bool true)), (.t 82)]),
 oo 10 (.mov (.t 83))])
 (.seq (.seq (.ops false [
 oo 84 (.faddr 3 (.t 3)),
 oo 85 (.ldI none (.t 84)),
 oo 86 (.len (.t 85)),
 oo 87 (.mov (ci 0))])
 (.block 3 (.loop s7)))
 (.seq (.ops false [
 oo 107 (.mov (.t 10)),
 oo 6 (.mov (.t 107))])
 (.ret))))
 (.skip)))))))))))))))))
 (.seq (.ops false [
 oo 6 (.mov (.c (.vec (some 8) [])))])
 (.ret))))
 [.t 6]
set_option maxRecDepth 100000 in
theorem s9 : bB Try.prog 50 s8 = true := by kernel_rfl
def ta : bA := .mk 18
 (.seq (.ops false [
 oo 3 (.box (some 4) (.t 0) true),
 oo 5 (.box (some 8) (.t 2) true),
 oo 6 (.alloc [.vec (some 8) []]),
 oo 7 (.alloc [.int .i64 0])])
 (.seq (.seq (.ops true [
 oo 8 (.mkslF none (.int .u16 0) (ci 4) (ci 4)),
 oo 9 (.ldI (some 4) (.t 3)),
 oo 10 (.build [.vec none [], .int .i64 0, .int .i64 0, .int .u16 0, .vec (some 4) [], .vec (some 3) []] [(0, 1, (.t 8)), (1, 4, (.t 9))]),
 oo 11 (.call false 48 [(.t 10)]),
 oo 12 (.bin .neq (.t 11) (ci 0))])
 (.cond (.t 12)
 (.seq (.ops false [
 ⟨none, .store none (.t 6) (.c (.vec (some 8) [])), none⟩,
 ⟨none, .store none (.t 7) (ci 11), none⟩])
 (.ret))
 (.skip)))
 (.seq (.dfr 13 49)
 (.seq (.ops false [
 oo 14 (.ldI (some 4) (.t 3)),
 oo 15 (.mov (.t 1)),
 oo 16 (.ldI (some 8) (.t 5)),
 oo 17 (.call false 50 [(.t 14), (.t 15), (.t 16)]),
 ⟨none, .store none (.t 6) (.t 17), none⟩,
 ⟨none, .store none (.t 7) (ci 0), none⟩])
 (.ret)))))
 [.cell 6 none, .cell 7 none]
set_option maxRecDepth 100000 in
theorem tb : bB Try.prog 14 ta = true := by kernel_rfl
def tc : bA := .mk 14
 (.seq (.ops false [
 oo 3 (.box (some 4) (.t 0) true),
 oo 5 (.box (some 8) (.t 2) true),
 oo 6 (.mov (.c (.vec (some 8) []))),
 oo 7 (.mov (ci 0))])
 (.seq (.ops false [
 oo 8 (.ldI (some 4) (.t 3)),
 oo 9 (.mov (.t 1)),
 oo 10 (.ldI (some 8) (.t 5)),
 oo 11 (.call false 14 [(.t 8), (.t 9), (.t 10)]),
 oo 12 (.extract (.t 11) 0),
 oo 13 (.extract (.t 11) 1),
 oo 6 (.mov (.t 12)),
 oo 7 (.mov (.t 13))])
 (.ret)))
 [.t 6, .t 7]
set_option maxRecDepth 100000 in
theorem td : bB Try.prog 44 tc = true := by kernel_rfl
def te : bA := .mk 21
 (.seq (.ops false [
 oo 4 (.mov (ci 0))])
 (.seq (.seq (.ops false [
 oo 5 (.mov (.t 0)),
 oo 6 (.nilchk (.t 5)),
 oo 7 (.faddr 8 (.t 6)),
 oo 8 (.load none (.t 7)),
 oo 9 (.len (.t 8)),
 oo 10 (.bin .eql (.t 9) (ci 200))])
 (.cond (.t 10)
 (.seq (.ops false [
 oo 4 (.mov (ci 24))])
 (.ret))
 (.skip)))
 (.seq (.ops false [
 oo 11 (.mov (.t 0)),
 oo 12 (.mov (.t 0)),
 oo 13 (.nilchk (.t 12)),
 oo 14 (.faddr 8 (.t 13)),
 oo 15 (.load none (.t 14)),
 oo 16 (.mov (.t 1)),
 oo 17 (.bsliceI none [(.t 16)]),
 oo 18 (.append none (.t 15) (.t 17) false),
 oo 19 (.nilchk (.t 11)),
 oo 20 (.faddr 8 (.t 19)),
 ⟨none, .store none (.t 20) (.t 18), none⟩])
 (.seq (.ops false [
 oo 4 (.mov (ci 0))])
 (.ret)))))
 [.t 4]
set_option maxRecDepth 100000 in
theorem tf : bB Try.prog 94 te = true := by kernel_rfl
def tg : bA := .mk 8
 (.seq (.ops false [
 oo 1 (.box (some 8) (.t 0) true),
 oo 2 (.alloc [.int .u16 0, .int .u16 0])])
 (.seq (.ops false [
 oo 3 (.iaddrA 8 none (.t 1) (ci 0)),
 oo 4 (.ldI none (.t 3)),
 oo 5 (.iaddrA 8 none (.t 1) (ci 1)),
 oo 6 (.ldI none (.t 5)),
 oo 7 (.build [.int .u16 0, .int .u16 0] [(0, 1, (.t 4)), (1, 1, (.t 6))]),
 ⟨none, .store (some 2) (.t 2) (.t 7), none⟩])
 (.ret)))
 [.cell 2 (some 2)]
set_option maxRecDepth 100000 in
theorem th : bB Try.prog 71 tg = true := by kernel_rfl
def ti : bv :=
 (.seq (.ops false [
 oo 12 (.bin .lss (.t 11) (.t 10))])
 (.seq (.cond (.t 12)
 (.skip)
 (.exit 0))
 (.seq (.block 1 (.seq (.ops false [
 oo 13 (.iaddr (some 4) (.t 9) (.t 11)),
 oo 14 (.load (some 4) (.t 13)),
 oo 7 (.alloc [.int .u16 0, .int .u16 0, .int .u16 0, .int .u16 0]),
 ⟨none, .store (some 4) (.t 7) (.t 14), none⟩])
 (.seq (.ops false [
 oo 15 (.ldI (some 2) (.t 3))])
 (.block 2 (.seq (.ops false [
 oo 17 (.iaddrA 2 (some 2) (.t 7) (ci 0)),
 oo 18 (.load (some 2) (.t 17)),
 oo 19 (.eqS false [.int, .int] (.t 15) (.t 18)),
 oo 16 (.mov (.t 19))])
 (.cond (.t 16)
 (.seq (.ops false [
 oo 20 (.iaddrA 2 (some 2) (.t 7) (ci 1)),
 oo 21 (.load (some 2) (.t 20)),
 ⟨none, .store (some 2) (.t 4) (.t 21), none⟩,
 oo 5 (.mov (.c (.bool true)))])
 (.ret))
 (.seq (.ops false [
 oo 23 (.iaddrA 2 (some 2) (.t 7) (ci 1)),
 oo 24 (.load (some 2) (.t 23)),
 oo 25 (.eqS false [.int, .int] (.t 15) (.t 24)),
 oo 22 (.mov (.t 25))])
 (.cond (.t 22)
 (.seq (.ops false [
 oo 26 (.iaddrA 2 (some 2) (.t 7) (ci 0)),
 oo 27 (.load (some 2) (.t 26)),
 ⟨none, .store (some 2) (.t 4) (.t 27), none⟩,
 oo 5 (.mov (.c (.bool true)))])
 (.ret))
 (.skip)))))))))
 (.ops false [
 oo 28 (.bin .add (.t 11) (ci 1)),
 oo 11 (.mov (.t 28))]))))
def tj : bA := .mk 30
 (.seq (.ops false [
 oo 2 (.box (some 3) (.t 0) true),
 oo 3 (.box (some 2) (.t 1) true),
 oo 4 (.alloc [.int .u16 0, .int .u16 0]),
 oo 5 (.mov (.c (.bool false)))])
 (.seq (.seq (.ops false [
 oo 8 (.faddr 1 (.t 2)),
 oo 9 (.ldI none (.t 8)),
 oo 10 (.len (.t 9)),
 oo 11 (.mov (ci 0))])
 (.block 0 (.loop ti)))
 (.seq (.ops false [
 oo 29 (.build [.int .u16 0, .int .u16 0] []),
 ⟨none, .store (some 2) (.t 4) (.t 29), none⟩,
 oo 5 (.mov (.c (.bool false)))])
 (.ret))))
 [.cell 4 (some 2), .t 5]
set_option maxRecDepth 100000 in
theorem tk : bB Try.prog 72 tj = true := by kernel_rfl
def tm : bA := .mk 12
 (.seq (.ops false [
 oo 2 (.box (some 8) (.t 0) false),
 oo 3 (.box (some 2) (.t 1) true),
 oo 4 (.alloc [.int .u16 0, .int .u16 0, .int .u16 0, .int .u16 0, .int .u16 0, .int .u16 0, .int .u16 0, .int .u16 0])])
 (.seq (.ops true [
 oo 5 (.faddr 0 (.t 3)),
 oo 6 (.ldI none (.t 5)),
 oo 7 (.faddr 1 (.t 3)),
 oo 8 (.ldI none (.t 7)),
 oo 9 (.iaddrA 8 none (.t 2) (ci 0)),
 ⟨none, .store none (.t 9) (.t 6), none⟩,
 oo 10 (.iaddrA 8 none (.t 2) (ci 1)),
 ⟨none, .store none (.t 10) (.t 8), none⟩])
 (.seq (.ops false [
 oo 11 (.load (some 8) (.t 2)),
 ⟨none, .store (some 8) (.t 4) (.t 11), none⟩])
 (.ret))))
 [.cell 4 (some 8)]
set_option maxRecDepth 100000 in
theorem tn : bB Try.prog 73 tm = true := by kernel_rfl
def tp : bv :=
 (.seq (.ops false [
 oo 9 (.bin .lss (.t 8) (.t 7))])
 (.seq (.cond (.t 9)
 (.skip)
 (.exit 0))
 (.seq (.block 1 (.seq (.ops false [
 oo 10 (.mov (.t 8)),
 oo 5 (.mov (.t 10))])
 (.seq (.ops true [
 oo 11 (.ldI (some 2) (.t 3)),
 oo 12 (.mov (.t 0)),
 oo 13 (.mov (.t 5)),
 oo 14 (.iaddr (some 2) (.t 12) (.t 13)),
 oo 15 (.load (some 2) (.t 14)),
 oo 16 (.eqS false [.int, .int] (.t 11) (.t 15))])
 (.cond (.t 16)
 (.seq (.ops false [
 oo 17 (.mov (.t 5)),
 oo 4 (.mov (.t 17))])
 (.ret))
 (.skip)))))
 (.ops false [
 oo 18 (.bin .add (.t 8) (ci 1)),
 oo 8 (.mov (.t 18))]))))
def tq : bA := .mk 19
 (.seq (.ops false [
 oo 3 (.box (some 2) (.t 1) true),
 oo 4 (.mov (ci 0))])
 (.seq (.seq (.ops false [
 oo 6 (.mov (.t 0)),
 oo 7 (.len (.t 6)),
 oo 8 (.mov (ci 0))])
 (.block 0 (.loop tp)))
 (.seq (.ops false [
 oo 4 (.mov (ci (-1)))])
 (.ret))))
 [.t 4]
set_option maxRecDepth 100000 in
theorem tr : bB Try.prog 108 tq = true := by kernel_rfl
def tu : bA := .mk 9
 (.seq (.ops false [
 oo 3 (.box (some 2) (.t 1) true),
 oo 4 (.mov (.c (.bool false)))])
 (.seq (.ops false [
 oo 5 (.mov (.t 0)),
 oo 6 (.ldI (some 2) (.t 3)),
 oo 7 (.call false 108 [(.t 5), (.t 6)]),
 oo 8 (.bin .geq (.t 7) (ci 0)),
 oo 4 (.mov (.t 8))])
 (.ret)))
 [.t 4]
set_option maxRecDepth 100000 in
theorem tv : bB Try.prog 96 tu = true := by kernel_rfl
def tw : bA := .mk 9
 (.seq (.ops false [
 oo 2 (.box (some 3) (.t 0) true),
 oo 3 (.box (some 2) (.t 1) true),
 oo 4 (.mov (.c (.bool false)))])
 (.seq (.ops false [
 oo 5 (.faddr 2 (.t 2)),
 oo 6 (.ldI none (.t 5)),
 oo 7 (.ldI (some 2) (.t 3)),
 oo 8 (.call false 96 [(.t 6), (.t 7)]),
 oo 4 (.mov (.t 8))])
 (.ret)))
 [.t 4]
set_option maxRecDepth 100000 in
theorem tx : bB Try.prog 74 tw = true := by kernel_rfl
def tz : bA := .mk 26
 (.seq (.ops false [
 oo 2 (.box (some 3) (.t 0) true),
 oo 3 (.box (some 8) (.t 1) true),
 oo 4 (.alloc [.int .u16 0, .int .u16 0, .int .u16 0, .int .u16 0, .int .u16 0, .int .u16 0, .int .u16 0, .int .u16 0]),
 oo 5 (.mov (ci 0))])
 (.seq (.ops false [
 oo 9 (.ldI (some 8) (.t 3)),
 oo 10 (.call false 71 [(.t 9)]),
 oo 6 (.alloc [.int .u16 0, .int .u16 0]),
 ⟨none, .store (some 2) (.t 6) (.t 10), none⟩])
 (.seq (.seq (.ops false [
 oo 12 (.ldI (some 3) (.t 2)),
 oo 13 (.load (some 2) (.t 6)),
 oo 14 (.call false 72 [(.t 12), (.t 13)]),
 oo 11 (.mov (.t 14)),
 oo 15 (.extract (.t 11) 0),
 oo 16 (.extract (.t 11) 1),
 oo 7 (.alloc [.int .u16 0, .int .u16 0]),
 ⟨none, .store (some 2) (.t 7) (.t 15), none⟩,
 oo 8 (.mov (.t 16))])
 (.seq (.ops false [
 oo 17 (.mov (.t 8))])
 (.cond (.t 17)
 (.seq (.ops false [
 oo 18 (.ldI (some 8) (.t 3)),
 oo 19 (.load (some 2) (.t 7)),
 oo 20 (.call false 73 [(.t 18), (.t 19)]),
 ⟨none, .store (some 8) (.t 4) (.t 20), none⟩,
 oo 5 (.mov (ci 0))])
 (.ret))
 (.skip))))
 (.seq (.seq (.ops false [
 oo 21 (.ldI (some 3) (.t 2)),
 oo 22 (.load (some 2) (.t 6)),
 oo 23 (.call false 74 [(.t 21), (.t 22)])])
 (.cond (.t 23)
 (.seq (.ops false [
 oo 24 (.ldI (some 8) (.t 3)),
 ⟨none, .store (some 8) (.t 4) (.t 24), none⟩,
 oo 5 (.mov (ci 1))])
 (.ret))
 (.skip)))
 (.seq (.ops false [
 oo 25 (.ldI (some 8) (.t 3)),
 ⟨none, .store (some 8) (.t 4) (.t 25), none⟩,
 oo 5 (.mov (ci 2))])
 (.ret))))))
 [.cell 4 (some 8), .t 5]
set_option maxRecDepth 100000 in
theorem tA : bB Try.prog 45 tz = true := by kernel_rfl
def tB : bv :=
 (.seq (.ops false [
 oo 43 (.bin .lss (.t 42) (.t 41))])
 (.seq (.cond (.t 43)
 (.skip)
 (.exit 0))
 (.seq (.block 1 (.seq (.ops false [
 oo 44 (.iaddr (some 8) (.t 40) (.t 42)),
 oo 45 (.load (some 8) (.t 44)),
 oo 10 (.alloc [.int .u16 0, .int .u16 0, .int .u16 0, .int .u16 0, .int .u16 0, .int .u16 0, .int .u16 0, .int .u16 0]),
 ⟨none, .store (some 8) (.t 10) (.t 45), none⟩])
 (.seq (.ops true [
 oo 47 (.mov (.t 0)),
 oo 48 (.nilchk (.t 47)),
 oo 49 (.faddr 0 (.t 48)),
 oo 50 (.load (some 3) (.t 49)),
 oo 51 (.load (some 8) (.t 10)),
 oo 52 (.call false 45 [(.t 50), (.t 51)]),
 oo 46 (.mov (.t 52)),
 oo 53 (.extract (.t 46) 0),
 oo 54 (.extract (.t 46) 1),
 oo 11 (.alloc [.int .u16 0, .int .u16 0, .int .u16 0, .int .u16 0, .int .u16 0, .int .u16 0, .int .u16 0, .int .u16 0]),
 ⟨none, .store (some 8) (.t 11) (.t 53), none⟩,
 oo 12 (.mov (.t 54))])
 (.seq (.seq (.ops false [
 oo 55 (.mov (.t 12)),
 oo 56 (.bin .eql (.t 55) (ci 0)),
 oo 57 (.mov (.t 56)),
 ⟨some 58, .mov (.t 1), some (57, true)⟩,
 ⟨some 59, .len (.t 58), some (57, true)⟩,
 ⟨some 60, .bin .lss (.t 59) (ci 23), some (57, true)⟩,
 oo 61 (.pick (.t 57) (.t 60) (.c (.bool false)))])
 (.cond (.t 61)
 (.opsS [(2, 3), (2, 6), (5, 6)] [
 oo 62 (.mov (.t 0)),
 oo 63 (.mov (.t 1)),
 oo 64 (.call true 93 [(.t 63)]),
 oo 65 (.load (some 8) (.t 10)),
 oo 66 (.bsliceI (some 8) [(.t 65)]),
 oo 67 (.append (some 8) (.t 64) (.t 66) false),
 oo 68 (.load (some 8) (.t 11)),
 oo 69 (.call true 68 [(.t 62), (.t 67), (.t 68)]),
 oo 8 (.mov (.t 69))])
 (.opsS [(2, 3)] [
 oo 70 (.mov (.t 0)),
 oo 71 (.mov (.t 1)),
 oo 72 (.call true 93 [(.t 71)]),
 oo 73 (.load (some 8) (.t 10)),
 oo 74 (.bsliceI (some 8) [(.t 73)]),
 oo 75 (.append (some 8) (.t 72) (.t 74) false),
 oo 76 (.call true 94 [(.t 70), (.t 75)]),
 oo 8 (.mov (.t 76))])))
 (.seq (.ops false [
 oo 77 (.mov (.t 8)),
 oo 78 (.bin .neq (.t 77) (ci 0))])
 (.cond (.t 78)
 (.seq (.ops false [
 oo 79 (.mov (.t 8)),
 oo 6 (.mov (.t 79))])
 (.ret))
 (.skip)))))))
 (.ops false [
 oo 80 (.bin .add (.t 42) (ci 1)),
 oo 42 (.mov (.t 80))]))))
def tC : bA := .mk 81
 (.seq (.ops false [
 oo 5 (.box (some 8) (.t 2) true),
 oo 6 (.mov (ci 0))])
 (.seq (.ops true [
 oo 13 (.mov (.t 1)),
 oo 14 (.call true 93 [(.t 13)]),
 oo 15 (.ldI (some 8) (.t 5)),
 oo 16 (.bsliceI (some 8) [(.t 15)]),
 oo 17 (.append (some 8) (.t 14) (.t 16) false),
 oo 1 (.mov (.t 17))])
 (.seq (.ops true [
 oo 19 (.mov (.t 0)),
 oo 20 (.nilchk (.t 19)),
 oo 21 (.faddr 3 (.t 20)),
 oo 22 (.load (some 4) (.t 21)),
 oo 23 (.mov (.t 0)),
 oo 24 (.nilchk (.t 23)),
 oo 25 (.faddr 7 (.t 24)),
 oo 26 (.load none (.t 25)),
 oo 27 (.ldI (some 8) (.t 5)),
 oo 28 (.call false 44 [(.t 22), (.t 26), (.t 27)]),
 oo 18 (.mov (.t 28)),
 oo 29 (.extract (.t 18) 0),
 oo 30 (.extract (.t 18) 1),
 oo 7 (.mov (.t 29)),
 oo 8 (.mov (.t 30))])
 (.seq (.seq (.ops false [
 oo 31 (.mov (.t 8)),
 oo 32 (.bin .neq (.t 31) (ci 0))])
 (.cond (.t 32)
 (.seq (.ops false [
 oo 33 (.mov (.t 8)),
 oo 6 (.mov (.t 33))])
 (.ret))
 (.skip)))
 (.seq (.seq (.ops false [
 oo 34 (.mov (.t 7)),
 oo 35 (.len (.t 34)),
 oo 36 (.bin .eql (.t 35) (ci 0))])
 (.cond (.t 36)
 (.seq (.ops false [
 oo 37 (.mov (.t 0)),
 oo 38 (.mov (.t 1)),
 oo 39 (.call true 94 [(.t 37), (.t 38)]),
 oo 6 (.mov (.t 39))])
 (.ret))
 (.skip)))
 (.seq (.seq (.ops false [
 oo 40 (.mov (.t 7)),
 oo 41 (.len (.t 40)),
 oo 42 (.mov (ci 0))])
 (.block 0 (.loop tB)))
 (.seq (.ops false [
 oo 6 (.mov (ci 0))])
 (.ret))))))))
 [.t 6]
set_option maxRecDepth 100000 in
theorem tD : bB Try.prog 68 tC = true := by kernel_rfl
def tE : bA := .mk 27
 (.seq (.ops false [
 oo 4 (.box (some 3) (.t 0) true),
 oo 5 (.box (some 4) (.t 1) true),
 oo 7 (.box (some 8) (.t 3) true),
 oo 8 (.mov (.c (.vec none []))),
 oo 9 (.mov (ci 0))])
 (.seq (.ops false [
 oo 12 (.ldI (some 3) (.t 4)),
 oo 13 (.ldI (some 4) (.t 5)),
 oo 14 (.mov (.t 2)),
 oo 15 (.build [.vec none [], .vec (some 4) [], .vec (some 2) [], .int .i64 0, .int .i64 0, .int .u16 0, .vec (some 4) [], .vec none [], .nils] [(0, 3, (.t 12)), (3, 4, (.t 13)), (7, 1, (.t 14))]),
 oo 16 (.box (some 9) (.t 15) false),
 oo 10 (.mov (.t 16))])
 (.seq (.seq (.ops false [
 oo 17 (.mov (.t 10)),
 oo 18 (.ldI (some 8) (.t 7)),
 oo 19 (.call true 68 [(.t 17), (.c (.nils)), (.t 18)]),
 oo 11 (.mov (.t 19))])
 (.seq (.ops false [
 oo 20 (.mov (.t 11)),
 oo 21 (.bin .neq (.t 20) (ci 0))])
 (.cond (.t 21)
 (.seq (.ops false [
 oo 22 (.mov (.t 11)),
 oo 8 (.mov (.c (.vec none []))),
 oo 9 (.mov (.t 22))])
 (.ret))
 (.skip))))
 (.seq (.ops false [
 oo 23 (.mov (.t 10)),
 oo 24 (.nilchk (.t 23)),
 oo 25 (.faddr 8 (.t 24)),
 oo 26 (.load none (.t 25)),
 oo 8 (.mov (.t 26)),
 oo 9 (.mov (ci 0))])
 (.ret)))))
 [.t 8, .t 9]
set_option maxRecDepth 100000 in
theorem tF : bB Try.prog 40 tE = true := by kernel_rfl
def tG : bv :=
 (.seq (.ops false [
 oo 9 (.bin .lss (.t 8) (.t 7))])
 (.seq (.cond (.t 9)
 (.skip)
 (.exit 0))
 (.seq (.block 1 (.seq (.ops false [
 oo 10 (.mov (.t 8)),
 oo 5 (.mov (.t 10))])
 (.seq (.ops true [
 oo 11 (.ldI (some 8) (.t 3)),
 oo 12 (.mov (.t 0)),
 oo 13 (.mov (.t 5)),
 oo 14 (.iaddr (some 8) (.t 12) (.t 13)),
 oo 15 (.load (some 8) (.t 14)),
 oo 16 (.eqS false [.int, .int, .int, .int, .int, .int, .int, .int] (.t 11) (.t 15))])
 (.cond (.t 16)
 (.seq (.ops false [
 oo 17 (.mov (.t 5)),
 oo 4 (.mov (.t 17))])
 (.ret))
 (.skip)))))
 (.ops false [
 oo 18 (.bin .add (.t 8) (ci 1)),
 oo 8 (.mov (.t 18))]))))
def tH : bA := .mk 19
 (.seq (.ops false [
 oo 3 (.box (some 8) (.t 1) true),
 oo 4 (.mov (ci 0))])
 (.seq (.seq (.ops false [
 oo 6 (.mov (.t 0)),
 oo 7 (.len (.t 6)),
 oo 8 (.mov (ci 0))])
 (.block 0 (.loop tG)))
 (.seq (.ops false [
 oo 4 (.mov (ci (-1)))])
 (.ret))))
 [.t 4]
set_option maxRecDepth 100000 in
theorem tI : bB Try.prog 95 tH = true := by kernel_rfl
def tJ : bA := .mk 9
 (.seq (.ops false [
 oo 3 (.box (some 8) (.t 1) true),
 oo 4 (.mov (.c (.bool false)))])
 (.seq (.ops false [
 oo 5 (.mov (.t 0)),
 oo 6 (.ldI (some 8) (.t 3)),
 oo 7 (.call false 95 [(.t 5), (.t 6)]),
 oo 8 (.bin .geq (.t 7) (ci 0)),
 oo 4 (.mov (.t 8))])
 (.ret)))
 [.t 4]
set_option maxRecDepth 100000 in
theorem tK : bB Try.prog 70 tJ = true := by kernel_rfl
def tL : bv :=
 (.seq (.seq (.ops false [
 oo 14 (.mov (.t 9)),
 oo 15 (.mov (.t 3)),
 oo 16 (.len (.t 15)),
 oo 17 (.bin .lss (.t 14) (.t 16))])
 (.cond (.t 17)
 (.skip)
 (.exit 0)))
 (.seq (.block 1 (.seq (.seq (.ops false [
 oo 20 (.mov (.t 9)),
 oo 21 (.bin .rem (.t 20) (ci 2)),
 oo 22 (.bin .eql (.t 21) (ci 0))])
 (.cond (.t 22)
 (.seq (.seq (.ops true [
 oo 24 (.ldI (some 3) (.t 4)),
 oo 25 (.mov (.t 3)),
 oo 26 (.mov (.t 9)),
 oo 27 (.bin .sub (.t 26) (ci 1)),
 oo 28 (.iaddr (some 8) (.t 25) (.t 27)),
 oo 29 (.load (some 8) (.t 28)),
 oo 30 (.call false 45 [(.t 24), (.t 29)]),
 oo 23 (.mov (.t 30)),
 oo 31 (.extract (.t 23) 0),
 oo 32 (.extract (.t 23) 1),
 oo 10 (.alloc [.int .u16 0, .int .u16 0, .int .u16 0, .int .u16 0, .int .u16 0, .int .u16 0, .int .u16 0, .int .u16 0]),
 ⟨none, .store (some 8) (.t 10) (.t 31), none⟩,
 oo 11 (.mov (.t 32))])
 (.seq (.ops true [
 oo 33 (.mov (.t 11)),
 oo 34 (.bin .neq (.t 33) (ci 0)),
 oo 35 (.mov (.t 34)),
 ⟨some 36, .load (some 8) (.t 10), some (35, false)⟩,
 ⟨some 37, .mov (.t 3), some (35, false)⟩,
 ⟨some 38, .mov (.t 9), some (35, false)⟩,
 ⟨some 39, .iaddr (some 8) (.t 37) (.t 38), some (35, false)⟩,
 ⟨some 40, .load (some 8) (.t 39), some (35, false)⟩,
 ⟨some 41, .eqS true [.int, .int, .int, .int, .int, .int, .int, .int] (.t 36) (.t 40), some (35, false)⟩,
 oo 42 (.pick (.t 35) (.c (.bool true)) (.t 41))])
 (.cond (.t 42)
 (.seq (.ops false [
 oo 8 (.mov (.c (.bool false)))])
 (.ret))
 (.skip))))
 (.exit 1))
 (.skip)))
 (.seq (.ops true [
 oo 44 (.ldI (some 4) (.t 5)),
 oo 45 (.mov (.t 2)),
 oo 46 (.mov (.t 3)),
 oo 47 (.mov (.t 9)),
 oo 48 (.bin .sub (.t 47) (ci 1)),
 oo 49 (.iaddr (some 8) (.t 46) (.t 48)),
 oo 50 (.load (some 8) (.t 49)),
 oo 51 (.call false 44 [(.t 44), (.t 45), (.t 50)]),
 oo 43 (.mov (.t 51)),
 oo 52 (.extract (.t 43) 0),
 oo 53 (.extract (.t 43) 1),
 oo 12 (.mov (.t 52)),
 oo 13 (.mov (.t 53))])
 (.seq (.ops false [
 oo 54 (.mov (.t 12)),
 oo 55 (.mov (.t 3)),
 oo 56 (.mov (.t 9)),
 oo 57 (.iaddr (some 8) (.t 55) (.t 56)),
 oo 58 (.load (some 8) (.t 57)),
 oo 59 (.call false 70 [(.t 54), (.t 58)]),
 oo 60 (.un .not (.t 59))])
 (.cond (.t 60)
 (.seq (.ops false [
 oo 8 (.mov (.c (.bool false)))])
 (.ret))
 (.skip))))))
 (.ops false [
 oo 18 (.mov (.t 9)),
 oo 19 (.bin .add (.t 18) (ci 1)),
 oo 9 (.mov (.t 19))])))
def tM : bA := .mk 69
 (.seq (.ops false [
 oo 4 (.box (some 3) (.t 0) true),
 oo 5 (.box (some 4) (.t 1) true),
 oo 8 (.mov (.c (.bool false)))])
 (.seq (.seq (.ops false [
 oo 9 (.mov (ci 1))])
 (.block 0 (.loop tL)))
 (.seq (.ops false [
 oo 61 (.mov (.t 3)),
 oo 62 (.len (.t 61)),
 oo 63 (.bin .gtr (.t 62) (ci 0)),
 oo 64 (.mov (.t 63)),
 ⟨some 65, .mov (.t 3), some (64, true)⟩,
 ⟨some 66, .len (.t 65), some (64, true)⟩,
 ⟨some 67, .bin .leq (.t 66) (ci 24), some (64, true)⟩,
 oo 68 (.pick (.t 64) (.t 67) (.c (.bool false))),
 oo 8 (.mov (.t 68))])
 (.ret))))
 [.t 8]
set_option maxRecDepth 100000 in
theorem tN : bB Try.prog 43 tM = true := by kernel_rfl
def tO : bA := .mk 57
 (.seq (.ops false [
 oo 4 (.box (some 3) (.t 0) true),
 oo 5 (.box (some 4) (.t 1) true),
 oo 8 (.mov (.c (.bool false)))])
 (.seq (.seq (.ops false [
 oo 14 (.ldI (some 3) (.t 4)),
 oo 15 (.ldI (some 4) (.t 5)),
 oo 16 (.mov (.t 2)),
 oo 17 (.mov (.t 3)),
 oo 18 (.call false 43 [(.t 14), (.t 15), (.t 16), (.t 17)]),
 oo 19 (.un .not (.t 18))])
 (.cond (.t 19)
 (.seq (.ops false [
 oo 8 (.mov (.c (.bool false)))])
 (.ret))
 (.skip)))
 (.seq (.ops false [
 oo 20 (.mov (.t 3)),
 oo 21 (.mov (.t 3)),
 oo 22 (.len (.t 21)),
 oo 23 (.bin .sub (.t 22) (ci 1)),
 oo 24 (.iaddr (some 8) (.t 20) (.t 23)),
 oo 25 (.load (some 8) (.t 24)),
 oo 9 (.alloc [.int .u16 0, .int .u16 0, .int .u16 0, .int .u16 0, .int .u16 0, .int .u16 0, .int .u16 0, .int .u16 0]),
 ⟨none, .store (some 8) (.t 9) (.t 25), none⟩])
 (.seq (.seq (.ops false [
 oo 26 (.mov (.t 3)),
 oo 27 (.len (.t 26)),
 oo 28 (.bin .rem (.t 27) (ci 2)),
 oo 29 (.bin .eql (.t 28) (ci 1))])
 (.cond (.t 29)
 (.seq (.ops false [
 oo 31 (.ldI (some 4) (.t 5)),
 oo 32 (.mov (.t 2)),
 oo 33 (.load (some 8) (.t 9)),
 oo 34 (.call false 44 [(.t 31), (.t 32), (.t 33)]),
 oo 30 (.mov (.t 34)),
 oo 35 (.extract (.t 30) 0),
 oo 36 (.extract (.t 30) 1),
 oo 10 (.mov (.t 35)),
 oo 11 (.mov (.t 36))])
 (.seq (.ops false [
 oo 37 (.mov (.t 11)),
 oo 38 (.bin .eql (.t 37) (ci 0)),
 oo 39 (.mov (.t 38)),
 ⟨some 40, .mov (.t 10), some (39, true)⟩,
 ⟨some 41, .len (.t 40), some (39, true)⟩,
 ⟨some 42, .bin .eql (.t 41) (ci 0), some (39, true)⟩,
 oo 43 (.pick (.t 39) (.t 42) (.c (.bool false))),
 oo 8 (.mov (.t 43))])
 (.ret)))
 (.skip)))
 (.seq (.ops false [
 oo 45 (.ldI (some 3) (.t 4)),
 oo 46 (.load (some 8) (.t 9)),
 oo 47 (.call false 45 [(.t 45), (.t 46)]),
 oo 44 (.mov (.t 47)),
 oo 48 (.extract (.t 44) 0),
 oo 49 (.extract (.t 44) 1),
 oo 12 (.alloc [.int .u16 0, .int .u16 0, .int .u16 0, .int .u16 0, .int .u16 0, .int .u16 0, .int .u16 0, .int .u16 0]),
 ⟨none, .store (some 8) (.t 12) (.t 48), none⟩,
 oo 13 (.mov (.t 49))])
 (.seq (.ops false [
 oo 50 (.mov (.t 13)),
 oo 51 (.bin .neq (.t 50) (ci 0)),
 oo 52 (.mov (.t 51)),
 ⟨some 53, .mov (.t 3), some (52, false)⟩,
 ⟨some 54, .len (.t 53), some (52, false)⟩,
 ⟨some 55, .bin .eql (.t 54) (ci 24), some (52, false)⟩,
 oo 56 (.pick (.t 52) (.c (.bool true)) (.t 55)),
 oo 8 (.mov (.t 56))])
 (.ret)))))))
 [.t 8]
set_option maxRecDepth 100000 in
theorem tP : bB Try.prog 41 tO = true := by kernel_rfl
def tQ : bA := .mk 80
 (.seq (.ops false [
 oo 0 (.mov (.c (.bool false)))])
 (.seq (.ops false [
 oo 5 (.bsliceI none [(.c (.int .u16 1)), (.c (.int .u16 2))]),
 oo 6 (.build [.int .u16 0, .int .u16 0] [(0, 1, (.c (.int .u16 1))), (1, 1, (.c (.int .u16 2)))]),
 oo 7 (.build [.int .u16 0, .int .u16 0] [(0, 1, (.c (.int .u16 2))), (1, 1, (.c (.int .u16 2)))]),
 oo 8 (.build [.int .u16 0, .int .u16 0, .int .u16 0, .int .u16 0] [(0, 2, (.t 6)), (2, 2, (.t 7))]),
 oo 9 (.bsliceI (some 4) [(.t 8)]),
 oo 10 (.build [.int .u16 0, .int .u16 0] [(0, 1, (.c (.int .u16 1))), (1, 1, (.c (.int .u16 1)))]),
 oo 11 (.build [.int .u16 0, .int .u16 0] [(0, 1, (.c (.int .u16 2))), (1, 1, (.c (.int .u16 1)))]),
 oo 12 (.bsliceI (some 2) [(.t 10), (.t 11)]),
 oo 13 (.build [.vec none [], .vec (some 4) [], .vec (some 2) []] [(0, 1, (.t 5)), (1, 1, (.t 9)), (2, 1, (.t 12))]),
 oo 1 (.alloc [.vec none [], .vec (some 4) [], .vec (some 2) []]),
 ⟨none, .store (some 3) (.t 1) (.t 13), none⟩])
 (.seq (.ops false [
 oo 14 (.build [.int .i64 0, .int .i64 0, .int .u16 0, .vec (some 4) []] [(0, 1, (ci 2)), (1, 1, (ci 0)), (2, 1, (.c (.int .u16 1)))]),
 oo 15 (.build [.int .i64 0, .int .i64 0, .int .u16 0, .vec (some 4) []] [(0, 1, (ci 5)), (1, 1, (ci 1)), (2, 1, (.c (.int .u16 2)))]),
 oo 16 (.bsliceI (some 4) [(.t 14), (.t 15)]),
 oo 17 (.build [.int .i64 0, .int .i64 0, .int .u16 0, .vec (some 4) []] [(0, 1, (ci 6)), (3, 1, (.t 16))]),
 oo 18 (.build [.int .i64 0, .int .i64 0, .int .u16 0, .vec (some 4) []] [(0, 1, (ci 2)), (1, 1, (ci 0)), (2, 1, (.c (.int .u16 2)))]),
 oo 19 (.build [.int .i64 0, .int .i64 0, .int .u16 0, .vec (some 4) []] [(0, 1, (ci 5)), (1, 1, (ci 1)), (2, 1, (.c (.int .u16 1)))]),
 oo 20 (.bsliceI (some 4) [(.t 18), (.t 19)]),
 oo 21 (.build [.int .i64 0, .int .i64 0, .int .u16 0, .vec (some 4) []] [(0, 1, (ci 6)), (3, 1, (.t 20))]),
 oo 22 (.bsliceI (some 4) [(.t 17), (.t 21)]),
 oo 23 (.build [.int .i64 0, .int .i64 0, .int .u16 0, .vec (some 4) []] [(0, 1, (ci 7)), (3, 1, (.t 22))]),
 oo 2 (.alloc [.int .i64 0, .int .i64 0, .int .u16 0, .vec (some 4) []]),
 ⟨none, .store (some 4) (.t 2) (.t 23), none⟩])
 (.seq (.ops false [
 oo 25 (.load (some 3) (.t 1)),
 oo 26 (.load (some 4) (.t 2)),
 oo 27 (.build [.int .u16 0, .int .u16 0, .int .u16 0, .int .u16 0, .int .u16 0, .int .u16 0, .int .u16 0, .int .u16 0] [(0, 1, (.c (.int .u16 1))), (1, 1, (.c (.int .u16 1)))]),
 oo 28 (.call false 40 [(.t 25), (.t 26), (.c (.nils)), (.t 27)]),
 oo 24 (.mov (.t 28)),
 oo 29 (.extract (.t 24) 0),
 oo 30 (.extract (.t 24) 1),
 oo 3 (.mov (.t 29)),
 oo 4 (.mov (.t 30))])
 (.seq (.ops true [
 oo 31 (.mov (.t 4)),
 oo 32 (.bin .eql (.t 31) (ci 0)),
 oo 33 (.mov (.t 32)),
 ⟨some 34, .mov (.t 3), some (33, true)⟩,
 ⟨some 35, .len (.t 34), some (33, true)⟩,
 ⟨some 36, .bin .eql (.t 35) (ci 1), some (33, true)⟩,
 oo 37 (.pick (.t 33) (.t 36) (.c (.bool false))),
 oo 38 (.mov (.t 37)),
 ⟨some 39, .mov (.t 3), some (38, true)⟩,
 ⟨some 40, .iaddr none (.t 39) (ci 0), some (38, true)⟩,
 ⟨some 41, .load none (.t 40), some (38, true)⟩,
 ⟨some 42, .len (.t 41), some (38, true)⟩,
 ⟨some 43, .bin .eql (.t 42) (ci 4), some (38, true)⟩,
 oo 44 (.pick (.t 38) (.t 43) (.c (.bool false))),
 oo 45 (.mov (.t 44)),
 ⟨some 46, .mov (.t 3), some (45, true)⟩,
 ⟨some 47, .iaddr none (.t 46) (ci 0), some (45, true)⟩,
 ⟨some 48, .load none (.t 47), some (45, true)⟩,
 ⟨some 49, .iaddr (some 8) (.t 48) (ci 3), some (45, true)⟩,
 ⟨some 50, .load (some 8) (.t 49), some (45, true)⟩,
 ⟨some 51, .build [.int .u16 0, .int .u16 0, .int .u16 0, .int .u16 0, .int .u16 0, .int .u16 0, .int .u16 0, .int .u16 0] [(0, 1, (.c (.int .u16 2))), (1, 1, (.c (.int .u16 1)))], some (45, true)⟩,
 ⟨some 52, .eqS false [.int, .int, .int, .int, .int, .int, .int, .int] (.t 50) (.t 51), some (45, true)⟩,
 oo 53 (.pick (.t 45) (.t 52) (.c (.bool false))),
 oo 54 (.mov (.t 53)),
 ⟨some 55, .load (some 3) (.t 1), some (54, true)⟩,
 ⟨some 56, .load (some 4) (.t 2), some (54, true)⟩,
 ⟨some 57, .mov (.t 3), some (54, true)⟩,
 ⟨some 58, .iaddr none (.t 57) (ci 0), some (54, true)⟩,
 ⟨some 59, .load none (.t 58), some (54, true)⟩,
 ⟨some 60, .call false 43 [(.t 55), (.t 56), (.c (.nils)), (.t 59)], some (54, true)⟩,
 oo 61 (.pick (.t 54) (.t 60) (.c (.bool false))),
 oo 62 (.mov (.t 61)),
 ⟨some 63, .load (some 3) (.t 1), some (62, true)⟩,
 ⟨some 64, .load (some 4) (.t 2), some (62, true)⟩,
 ⟨some 65, .mov (.t 3), some (62, true)⟩,
 ⟨some 66, .iaddr none (.t 65) (ci 0), some (62, true)⟩,
 ⟨some 67, .load none (.t 66), some (62, true)⟩,
 ⟨some 68, .call false 41 [(.t 63), (.t 64), (.c (.nils)), (.t 67)], some (62, true)⟩,
 oo 69 (.pick (.t 62) (.t 68) (.c (.bool false))),
 oo 70 (.mov (.t 69)),
 ⟨some 71, .load (some 3) (.t 1), some (70, true)⟩,
 ⟨some 72, .load (some 4) (.t 2), some (70, true)⟩,
 ⟨some 73, .mov (.t 3), some (70, true)⟩,
 ⟨some 74, .iaddr none (.t 73) (ci 0), some (70, true)⟩,
 ⟨some 75, .load none (.t 74), some (70, true)⟩,
 ⟨some 76, .slc (some 8) (.t 75) none (some (ci 3)), some (70, true)⟩,
 ⟨some 77, .call false 41 [(.t 71), (.t 72), (.c (.nils)), (.t 76)], some (70, true)⟩,
 ⟨some 78, .un .not (.t 77), some (70, true)⟩,
 oo 79 (.pick (.t 70) (.t 78) (.c (.bool false))),
 oo 0 (.mov (.t 79))])
 (.ret))))))
 [.t 0]
set_option maxRecDepth 100000 in
theorem tR : bB Try.prog 38 tQ = true := by kernel_rfl
def tS : bv :=
 (.seq (.seq (.ops false [
 oo 6 (.mov (.t 5)),
 oo 7 (.faddr 0 (.t 2)),
 oo 8 (.ldI none (.t 7)),
 oo 9 (.len (.t 8)),
 oo 10 (.bin .lss (.t 6) (.t 9))])
 (.cond (.t 10)
 (.skip)
 (.exit 0)))
 (.seq (.block 1 (.seq (.ops false [
 oo 13 (.faddr 0 (.t 2)),
 oo 14 (.ldI none (.t 13)),
 oo 15 (.mov (.t 5)),
 oo 16 (.iaddr none (.t 14) (.t 15)),
 oo 17 (.load none (.t 16)),
 oo 18 (.mov (.t 1)),
 oo 19 (.bin .eql (.t 17) (.t 18))])
 (.cond (.t 19)
 (.seq (.ops false [
 oo 20 (.mov (.t 5)),
 oo 4 (.mov (.t 20))])
 (.ret))
 (.skip))))
 (.ops false [
 oo 11 (.mov (.t 5)),
 oo 12 (.bin .add (.t 11) (ci 1)),
 oo 5 (.mov (.t 12))])))
def tT : bA := .mk 21
 (.seq (.ops false [
 oo 2 (.box (some 3) (.t 0) true),
 oo 4 (.mov (ci 0))])
 (.seq (.seq (.ops false [
 oo 5 (.mov (ci 0))])
 (.block 0 (.loop tS)))
 (.seq (.ops false [
 oo 4 (.mov (ci (-1)))])
 (.ret))))
 [.t 4]
set_option maxRecDepth 100000 in
theorem tU : bB Try.prog 65 tT = true := by kernel_rfl
def tV : bv :=
 (.seq (.seq (.ops false [
 oo 5 (.mov (.t 4)),
 oo 6 (.faddr 1 (.t 1)),
 oo 7 (.ldI none (.t 6)),
 oo 8 (.len (.t 7)),
 oo 9 (.bin .lss (.t 5) (.t 8))])
 (.cond (.t 9)
 (.skip)
 (.exit 0)))
 (.seq (.block 1 (.opsS [] [
 oo 12 (.mov (.t 3)),
 oo 13 (.faddr 1 (.t 1)),
 oo 14 (.ldI none (.t 13)),
 oo 15 (.mov (.t 4)),
 oo 16 (.iaddr (some 4) (.t 14) (.t 15)),
 oo 17 (.iaddrA 2 (some 2) (.t 16) (ci 0)),
 oo 18 (.load (some 2) (.t 17)),
 oo 19 (.faddr 1 (.t 1)),
 oo 20 (.ldI none (.t 19)),
 oo 21 (.mov (.t 4)),
 oo 22 (.iaddr (some 4) (.t 20) (.t 21)),
 oo 23 (.iaddrA 2 (some 2) (.t 22) (ci 1)),
 oo 24 (.load (some 2) (.t 23)),
 oo 25 (.bsliceI (some 2) [(.t 18), (.t 24)]),
 oo 26 (.append (some 2) (.t 12) (.t 25) false),
 oo 3 (.mov (.t 26))]))
 (.ops false [
 oo 10 (.mov (.t 4)),
 oo 11 (.bin .add (.t 10) (ci 1)),
 oo 4 (.mov (.t 11))])))
def tW : bA := .mk 31
 (.seq (.ops false [
 oo 1 (.box (some 3) (.t 0) true),
 oo 2 (.mov (.c (.vec (some 2) [])))])
 (.seq (.ops false [
 oo 3 (.mov (.c (.nils)))])
 (.seq (.seq (.ops false [
 oo 4 (.mov (ci 0))])
 (.block 0 (.loop tV)))
 (.seq (.ops false [
 oo 27 (.mov (.t 3)),
 oo 28 (.faddr 2 (.t 1)),
 oo 29 (.ldI none (.t 28)),
 oo 30 (.append (some 2) (.t 27) (.t 29) false),
 oo 2 (.mov (.t 30))])
 (.ret)))))
 [.t 2]
set_option maxRecDepth 100000 in
theorem tX : bB Try.prog 66 tW = true := by kernel_rfl
def tY : bv :=
 (.seq (.seq (.ops false [
 oo 24 (.mov (.t 3)),
 oo 25 (.faddr 0 (.t 1)),
 oo 26 (.ldI none (.t 25)),
 oo 27 (.len (.t 26)),
 oo 28 (.bin .lss (.t 24) (.t 27))])
 (.cond (.t 28)
 (.skip)
 (.exit 0)))
 (.seq (.block 1 (.seq (.ops true [
 oo 31 (.ldI (some 3) (.t 1)),
 oo 32 (.faddr 0 (.t 1)),
 oo 33 (.ldI none (.t 32)),
 oo 34 (.mov (.t 3)),
 oo 35 (.iaddr none (.t 33) (.t 34)),
 oo 36 (.load none (.t 35)),
 oo 37 (.call false 65 [(.t 31), (.t 36)]),
 oo 38 (.mov (.t 3)),
 oo 39 (.bin .neq (.t 37) (.t 38))])
 (.cond (.t 39)
 (.seq (.ops false [
 oo 2 (.mov (ci 12))])
 (.ret))
 (.skip))))
 (.ops false [
 oo 29 (.mov (.t 3)),
 oo 30 (.bin .add (.t 29) (ci 1)),
 oo 3 (.mov (.t 30))])))
def tZ : bv :=
 (.seq (.seq (.ops false [
 oo 42 (.mov (.t 5)),
 oo 43 (.mov (.t 4)),
 oo 44 (.len (.t 43)),
 oo 45 (.bin .lss (.t 42) (.t 44))])
 (.cond (.t 45)
 (.skip)
 (.exit 2)))
 (.seq (.block 3 (.seq (.ops true [
 oo 48 (.ldI (some 3) (.t 1)),
 oo 49 (.mov (.t 4)),
 oo 50 (.mov (.t 5)),
 oo 51 (.iaddr (some 2) (.t 49) (.t 50)),
 oo 52 (.faddr 0 (.t 51)),
 oo 53 (.load none (.t 52)),
 oo 54 (.call false 65 [(.t 48), (.t 53)]),
 oo 55 (.bin .lss (.t 54) (ci 0))])
 (.cond (.t 55)
 (.seq (.ops false [
 oo 2 (.mov (ci 12))])
 (.ret))
 (.skip))))
 (.ops false [
 oo 46 (.mov (.t 5)),
 oo 47 (.bin .add (.t 46) (ci 1)),
 oo 5 (.mov (.t 47))])))
def t0 : bv :=
 (.seq (.seq (.ops false [
 oo 62 (.mov (.t 7)),
 oo 63 (.mov (.t 6)),
 oo 64 (.bin .lss (.t 62) (.t 63))])
 (.cond (.t 64)
 (.skip)
 (.exit 6)))
 (.seq (.block 7 (.seq (.ops true [
 oo 67 (.mov (.t 4)),
 oo 68 (.mov (.t 6)),
 oo 69 (.iaddr (some 2) (.t 67) (.t 68)),
 oo 70 (.load (some 2) (.t 69)),
 oo 71 (.mov (.t 4)),
 oo 72 (.mov (.t 7)),
 oo 73 (.iaddr (some 2) (.t 71) (.t 72)),
 oo 74 (.load (some 2) (.t 73)),
 oo 75 (.eqS false [.int, .int] (.t 70) (.t 74))])
 (.cond (.t 75)
 (.seq (.ops false [
 oo 2 (.mov (ci 11))])
 (.ret))
 (.skip))))
 (.ops false [
 oo 65 (.mov (.t 7)),
 oo 66 (.bin .add (.t 65) (ci 1)),
 oo 7 (.mov (.t 66))])))
def t1 : bv :=
 (.seq (.seq (.ops false [
 oo 56 (.mov (.t 6)),
 oo 57 (.mov (.t 4)),
 oo 58 (.len (.t 57)),
 oo 59 (.bin .lss (.t 56) (.t 58))])
 (.cond (.t 59)
 (.skip)
 (.exit 4)))
 (.seq (.block 5 (.seq (.ops false [
 oo 7 (.mov (ci 0))])
 (.block 6 (.loop t0))))
 (.ops false [
 oo 60 (.mov (.t 6)),
 oo 61 (.bin .add (.t 60) (ci 1)),
 oo 6 (.mov (.t 61))])))
def t3 : bA := .mk 76
 (.seq (.ops false [
 oo 1 (.box (some 3) (.t 0) true),
 oo 2 (.mov (ci 0))])
 (.seq (.seq (.ops false [
 oo 8 (.faddr 0 (.t 1)),
 oo 9 (.ldI none (.t 8)),
 oo 10 (.len (.t 9)),
 oo 11 (.bin .gtr (.t 10) (ci 12)),
 oo 12 (.mov (.t 11)),
 ⟨some 13, .faddr 1 (.t 1), some (12, false)⟩,
 ⟨some 14, .ldI none (.t 13), some (12, false)⟩,
 ⟨some 15, .len (.t 14), some (12, false)⟩,
 ⟨some 16, .bin .gtr (.t 15) (ci 24), some (12, false)⟩,
 oo 17 (.pick (.t 12) (.c (.bool true)) (.t 16)),
 oo 18 (.mov (.t 17)),
 ⟨some 19, .faddr 2 (.t 1), some (18, false)⟩,
 ⟨some 20, .ldI none (.t 19), some (18, false)⟩,
 ⟨some 21, .len (.t 20), some (18, false)⟩,
 ⟨some 22, .bin .gtr (.t 21) (ci 24), some (18, false)⟩,
 oo 23 (.pick (.t 18) (.c (.bool true)) (.t 22))])
 (.cond (.t 23)
 (.seq (.ops false [
 oo 2 (.mov (ci 2))])
 (.ret))
 (.skip)))
 (.seq (.seq (.ops false [
 oo 3 (.mov (ci 0))])
 (.block 0 (.loop tY)))
 (.seq (.ops false [
 oo 40 (.ldI (some 3) (.t 1)),
 oo 41 (.call false 66 [(.t 40)]),
 oo 4 (.mov (.t 41))])
 (.seq (.seq (.ops false [
 oo 5 (.mov (ci 0))])
 (.block 2 (.loop tZ)))
 (.seq (.seq (.ops false [
 oo 6 (.mov (ci 0))])
 (.block 4 (.loop t1)))
 (.seq (.ops false [
 oo 2 (.mov (ci 0))])
 (.ret))))))))
 [.t 2]
set_option maxRecDepth 100000 in
theorem t4 : bB Try.prog 35 t3 = true := by kernel_rfl
def t5 : bv :=
 (.seq (.seq (.ops false [
 oo 6 (.mov (.t 5)),
 oo 7 (.faddr 2 (.t 2)),
 oo 8 (.ldI none (.t 7)),
 oo 9 (.len (.t 8)),
 oo 10 (.bin .lss (.t 6) (.t 9))])
 (.cond (.t 10)
 (.skip)
 (.exit 0)))
 (.seq (.block 1 (.seq (.ops true [
 oo 13 (.faddr 2 (.t 2)),
 oo 14 (.ldI none (.t 13)),
 oo 15 (.mov (.t 5)),
 oo 16 (.iaddr (some 2) (.t 14) (.t 15)),
 oo 17 (.load (some 2) (.t 16)),
 oo 18 (.ldI (some 2) (.t 3)),
 oo 19 (.eqS false [.int, .int] (.t 17) (.t 18))])
 (.cond (.t 19)
 (.seq (.ops false [
 oo 4 (.mov (.c (.bool true)))])
 (.ret))
 (.skip))))
 (.ops false [
 oo 11 (.mov (.t 5)),
 oo 12 (.bin .add (.t 11) (ci 1)),
 oo 5 (.mov (.t 12))])))
def t6 : bA := .mk 20
 (.seq (.ops false [
 oo 2 (.box (some 3) (.t 0) true),
 oo 3 (.box (some 2) (.t 1) true),
 oo 4 (.mov (.c (.bool false)))])
 (.seq (.seq (.ops false [
 oo 5 (.mov (ci 0))])
 (.block 0 (.loop t5)))
 (.seq (.ops false [
 oo 4 (.mov (.c (.bool false)))])
 (.ret))))
 [.t 4]
set_option maxRecDepth 100000 in
theorem t7 : bB Try.prog 46 t6 = true := by kernel_rfl
def t8 : bv :=
 (.seq (.seq (.ops false [
 oo 7 (.mov (.t 6)),
 oo 8 (.faddr 1 (.t 2)),
 oo 9 (.ldI none (.t 8)),
 oo 10 (.len (.t 9)),
 oo 11 (.bin .lss (.t 7) (.t 10))])
 (.cond (.t 11)
 (.skip)
 (.exit 0)))
 (.seq (.block 1 (.seq (.seq (.ops true [
 oo 14 (.faddr 1 (.t 2)),
 oo 15 (.ldI none (.t 14)),
 oo 16 (.mov (.t 6)),
 oo 17 (.iaddr (some 4) (.t 15) (.t 16)),
 oo 18 (.iaddrA 2 (some 2) (.t 17) (ci 0)),
 oo 19 (.load (some 2) (.t 18)),
 oo 20 (.ldI (some 2) (.t 3)),
 oo 21 (.eqS false [.int, .int] (.t 19) (.t 20))])
 (.cond (.t 21)
 (.seq (.ops false [
 oo 22 (.faddr 1 (.t 2)),
 oo 23 (.ldI none (.t 22)),
 oo 24 (.mov (.t 6)),
 oo 25 (.iaddr (some 4) (.t 23) (.t 24)),
 oo 26 (.iaddrA 2 (some 2) (.t 25) (ci 1)),
 oo 27 (.load (some 2) (.t 26)),
 ⟨none, .store (some 2) (.t 4) (.t 27), none⟩,
 oo 5 (.mov (.c (.bool true)))])
 (.ret))
 (.skip)))
 (.seq (.ops true [
 oo 28 (.faddr 1 (.t 2)),
 oo 29 (.ldI none (.t 28)),
 oo 30 (.mov (.t 6)),
 oo 31 (.iaddr (some 4) (.t 29) (.t 30)),
 oo 32 (.iaddrA 2 (some 2) (.t 31) (ci 1)),
 oo 33 (.load (some 2) (.t 32)),
 oo 34 (.ldI (some 2) (.t 3)),
 oo 35 (.eqS false [.int, .int] (.t 33) (.t 34))])
 (.cond (.t 35)
 (.seq (.ops false [
 oo 36 (.faddr 1 (.t 2)),
 oo 37 (.ldI none (.t 36)),
 oo 38 (.mov (.t 6)),
 oo 39 (.iaddr (some 4) (.t 37) (.t 38)),
 oo 40 (.iaddrA 2 (some 2) (.t 39) (ci 0)),
 oo 41 (.load (some 2) (.t 40)),
 ⟨none, .store (some 2) (.t 4) (.t 41), none⟩,
 oo 5 (.mov (.c (.bool true)))])
 (.ret))
 (.skip)))))
 (.ops false [
 oo 12 (.mov (.t 6)),
 oo 13 (.bin .add (.t 12) (ci 1)),
 oo 6 (.mov (.t 13))])))
def t9 : bA := .mk 43
 (.seq (.ops false [
 oo 2 (.box (some 3) (.t 0) true),
 oo 3 (.box (some 2) (.t 1) true),
 oo 4 (.alloc [.int .u16 0, .int .u16 0]),
 oo 5 (.mov (.c (.bool false)))])
 (.seq (.seq (.ops false [
 oo 6 (.mov (ci 0))])
 (.block 0 (.loop t8)))
 (.seq (.ops false [
 oo 42 (.build [.int .u16 0, .int .u16 0] []),
 ⟨none, .store (some 2) (.t 4) (.t 42), none⟩,
 oo 5 (.mov (.c (.bool false)))])
 (.ret))))
 [.cell 4 (some 2), .t 5]
set_option maxRecDepth 100000 in
theorem ua : bB Try.prog 47 t9 = true := by kernel_rfl
def ub : bA := .mk 73
 (.seq (.ops false [
 oo 2 (.box (some 3) (.t 0) true),
 oo 3 (.box (some 8) (.t 1) true),
 oo 4 (.mov (.c (.bool false)))])
 (.seq (.seq (.ops false [
 oo 11 (.call false 38 []),
 oo 12 (.un .not (.t 11))])
 (.cond (.t 12)
 (.seq (.ops false [
 oo 4 (.mov (.c (.bool false)))])
 (.ret))
 (.skip)))
 (.seq (.seq (.ops false [
 oo 13 (.ldI (some 3) (.t 2)),
 oo 14 (.call false 35 [(.t 13)]),
 oo 15 (.bin .neq (.t 14) (ci 0))])
 (.cond (.t 15)
 (.seq (.ops false [
 oo 4 (.mov (.c (.bool true)))])
 (.ret))
 (.skip)))
 (.seq (.ops false [
 oo 17 (.ldI (some 3) (.t 2)),
 oo 18 (.ldI (some 8) (.t 3)),
 oo 19 (.call false 45 [(.t 17), (.t 18)]),
 oo 16 (.mov (.t 19)),
 oo 20 (.extract (.t 16) 0),
 oo 21 (.extract (.t 16) 1),
 oo 5 (.alloc [.int .u16 0, .int .u16 0, .int .u16 0, .int .u16 0, .int .u16 0, .int .u16 0, .int .u16 0, .int .u16 0]),
 ⟨none, .store (some 8) (.t 5) (.t 20), none⟩,
 oo 6 (.mov (.t 21))])
 (.seq (.seq (.ops false [
 oo 22 (.mov (.t 6))])
 (.block 0 (.seq (.ops false [
 oo 24 (.bin .eql (.t 22) (ci 0)),
 oo 23 (.mov (.t 24))])
 (.cond (.t 23)
 (.seq (.ops false [
 oo 26 (.ldI (some 3) (.t 2)),
 oo 27 (.load (some 8) (.t 5)),
 oo 28 (.call false 45 [(.t 26), (.t 27)]),
 oo 25 (.mov (.t 28)),
 oo 29 (.extract (.t 25) 0),
 oo 30 (.extract (.t 25) 1),
 oo 7 (.alloc [.int .u16 0, .int .u16 0, .int .u16 0, .int .u16 0, .int .u16 0, .int .u16 0, .int .u16 0, .int .u16 0]),
 ⟨none, .store (some 8) (.t 7) (.t 29), none⟩,
 oo 8 (.mov (.t 30))])
 (.seq (.ops false [
 oo 31 (.mov (.t 8)),
 oo 32 (.bin .eql (.t 31) (ci 0)),
 oo 33 (.mov (.t 32)),
 ⟨some 34, .load (some 8) (.t 7), some (33, true)⟩,
 ⟨some 35, .ldI (some 8) (.t 3), some (33, true)⟩,
 ⟨some 36, .eqS false [.int, .int, .int, .int, .int, .int, .int, .int] (.t 34) (.t 35), some (33, true)⟩,
 oo 37 (.pick (.t 33) (.t 36) (.c (.bool false))),
 oo 4 (.mov (.t 37))])
 (.ret)))
 (.seq (.ops false [
 oo 39 (.bin .eql (.t 22) (ci 1)),
 oo 38 (.mov (.t 39))])
 (.cond (.t 38)
 (.seq (.ops false [
 oo 40 (.load (some 8) (.t 5)),
 oo 41 (.ldI (some 8) (.t 3)),
 oo 42 (.eqS false [.int, .int, .int, .int, .int, .int, .int, .int] (.t 40) (.t 41)),
 oo 43 (.mov (.t 42)),
 ⟨some 44, .ldI (some 3) (.t 2), some (43, true)⟩,
 ⟨some 45, .iaddrA 8 none (.t 3) (ci 0), some (43, true)⟩,
 ⟨some 46, .ldI none (.t 45), some (43, true)⟩,
 ⟨some 47, .iaddrA 8 none (.t 3) (ci 1), some (43, true)⟩,
 ⟨some 48, .ldI none (.t 47), some (43, true)⟩,
 ⟨some 49, .build [.int .u16 0, .int .u16 0] [(0, 1, (.t 46)), (1, 1, (.t 48))], some (43, true)⟩,
 ⟨some 50, .call false 46 [(.t 44), (.t 49)], some (43, true)⟩,
 oo 51 (.pick (.t 43) (.t 50) (.c (.bool false))),
 oo 4 (.mov (.t 51))])
 (.ret))
 (.skip)))))))
 (.seq (.ops false [
 oo 53 (.ldI (some 3) (.t 2)),
 oo 54 (.iaddrA 8 none (.t 3) (ci 0)),
 oo 55 (.ldI none (.t 54)),
 oo 56 (.iaddrA 8 none (.t 3) (ci 1)),
 oo 57 (.ldI none (.t 56)),
 oo 58 (.build [.int .u16 0, .int .u16 0] [(0, 1, (.t 55)), (1, 1, (.t 57))]),
 oo 59 (.call false 47 [(.t 53), (.t 58)]),
 oo 52 (.mov (.t 59)),
 oo 60 (.extract (.t 52) 0),
 oo 61 (.extract (.t 52) 1),
 oo 9 (.alloc [.int .u16 0, .int .u16 0]),
 ⟨none, .store (some 2) (.t 9) (.t 60), none⟩,
 oo 10 (.mov (.t 61))])
 (.seq (.ops false [
 oo 62 (.mov (.t 6)),
 oo 63 (.bin .eql (.t 62) (ci 2)),
 oo 64 (.mov (.t 63)),
 ⟨some 65, .load (some 8) (.t 5), some (64, true)⟩,
 ⟨some 66, .ldI (some 8) (.t 3), some (64, true)⟩,
 ⟨some 67, .eqS false [.int, .int, .int, .int, .int, .int, .int, .int] (.t 65) (.t 66), some (64, true)⟩,
 oo 68 (.pick (.t 64) (.t 67) (.c (.bool false))),
 oo 69 (.mov (.t 68)),
 ⟨some 70, .mov (.t 10), some (69, true)⟩,
 ⟨some 71, .un .not (.t 70), some (69, true)⟩,
 oo 72 (.pick (.t 69) (.t 71) (.c (.bool false))),
 oo 4 (.mov (.t 72))])
 (.ret))))))))
 [.t 4]
set_option maxRecDepth 100000 in
theorem uc : bB Try.prog 11 ub = true := by kernel_rfl
@[reducible] def aq (x : List Int) : V := .d (eL none (D.int .u16) x)
@[reducible] def aC (x : List am) : V := .d (eL (some 4) bQ x)
@[reducible] def aG (x : List api_Port) : V := .d (eL (some 2) eapi_Port x)
@[reducible] def aW (x : List (A2 api_Port)) : V := .d (eL (some 4) (b9 eapi_Port) x)
@[reducible] def b6 (x : List ff) : V := .d (eL (some 2) dk x)
@[reducible] def eU (x : List j4) : V := .d (eL (some 3) gu x)
@[reducible] def aZ (x : api_Topo) : V := .d (.cptr (some 3) (eapi_Topo x) 0)
@[reducible] def bf (x : am) : V := .d (.cptr (some 4) (bY x) 0)
@[reducible] def bI (x : api_Port) : V := .d (.cptr (some 2) (eapi_Port x) 0)
@[reducible] def cg (x : am) : V := .d (bY x)
@[reducible] def cq (x : api_Port) : V := .d (eapi_Port x)
@[reducible] def c7 (x : api_Topo) : V := .d (eapi_Topo x)
@[reducible] def bJ : aQ := .var [vh 0, vh 0]
@[reducible] def bR : aQ := .var [vh 0, vh 0, vh 0, vh 0, vh 0, vh 0, vh 0, vh 0]
@[reducible] def cw (x : am) : aQ := .var [vi x.Op, vi x.F, vh x.N, aC x.Kids]
end Go.AM
