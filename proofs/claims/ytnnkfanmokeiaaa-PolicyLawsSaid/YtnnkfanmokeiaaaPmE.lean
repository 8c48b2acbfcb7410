import Derived.Test.YtnnkfanmokeiaaaAmMp
import Derived.Test.YtnnkfanmokeiaaaAmPan
import Derived.Test.YtnnkfanmokeiaaaAmW
import Derived.Test.YtnnkfanmokeiaaaPmT
import Derived.Test.YtnnkfanmokeiaaaProg
set_option linter.unusedVariables false
set_option linter.unusedSimpArgs false
namespace Go.AM
open Go Go.RowKit Go.Proofs
mutual
def ax : ah → D
  | ⟨y0, y1, y2, y3⟩ => .agg [(D.int .i64) y0, (D.int .i64) y1, (D.int .u16) y2, .vec (some 4) (jh y3)]
def jh : List ah → List D
  | [] => []
  | x :: l => ax x :: jh l
end
theorem oe : ∀ l : List ah, jh l = l.map ax
  | [] => by simp [jh]
  | x :: l => by simp [jh, oe l]
theorem wo [Glob] {σ : az} {id len : Nat} {k : Option Nat} {xs : List ah} (hid : σ id = some (.lst false k (xs.map ax))) (hl : len = xs.length) : cD σ (.loc id 0 len) = some (.vec k (jh xs)) := by
  rw [oe]; exact jO hid hl
def a8 (x : ah) : D := .agg [D.int .i64 x.Op, D.int .i64 x.F, D.int .u16 x.N, eL (some 4) ax x.Kids]
theorem bD (x : ah) : ax x = a8 x := by
  cases x
  simp [ax, a8, eL, oe]
def cI (x : eT) : D := .agg ((D.int .i64) x.F :: ((D.int .u16) x.N :: []))
def fH (x : mP) : D := .agg ((eL (some 2) cI) x.When :: ((eL (some 2) cI) x.Guard :: ((eL (some 2) cI) x.Then :: [])))
def ji (x : dL) : D := .agg ((eL none (D.int .u16)) x.Init :: ((a8 x.Pol).cells ++ ((eL (some 3) fH) x.Rules :: [])))
def elaw05_Step (x : law05_Step) : D := .agg ((D.int .i64) x.What :: ((D.int .i64) x.F :: ((D.int .u16) x.N :: ((D.int .u8) x.K :: []))))
theorem lI (x y : (A8 Int)) : hJ [.int, .int, .int, .int, .int, .int, .int, .int] (.d (eA8 (D.int .u16) x)) (.d (eA8 (D.int .u16) y)) = some (x == y) := by
  refine (uw rfl rfl (gQ rfl (gQ rfl (gQ rfl (gQ rfl (gQ rfl (gQ rfl (gQ rfl (gQ rfl rfl))))))))).trans (congrArg some ?_)
  rw [Bool.eq_iff_iff]
  obtain ⟨x0, x1, x2, x3, x4, x5, x6, x7⟩ := x
  obtain ⟨y0, y1, y2, y3, y4, y5, y6, y7⟩ := y
  simp [uz, and_assoc]
def wq : bH := .mk 5
 (.seq (.ops false [
 oo 2 (.alloc [.int .i64 0, .int .i64 0, .int .u16 0, .vec (some 4) []])])
 (.seq (.ops false [
 oo 3 (.mov (.t 0)),
 oo 4 (.build [.int .i64 0, .int .i64 0, .int .u16 0, .vec (some 4) []] [(0, 1, (ci 7)), (3, 1, (.t 3))]),
 ⟨none, .store (some 4) (.t 2) (.t 4), none⟩])
 (.ret)))
 [.cell 2 (some 4)]
set_option maxRecDepth 100000 in
theorem ws : bL Try.prog 20 wq = true := by kernel_rfl
def wt : bH := .mk 5
 (.seq (.ops false [
 oo 2 (.alloc [.int .i64 0, .int .i64 0, .int .u16 0, .vec (some 4) []])])
 (.seq (.ops false [
 oo 3 (.mov (.t 0)),
 oo 4 (.build [.int .i64 0, .int .i64 0, .int .u16 0, .vec (some 4) []] [(0, 1, (ci 6)), (3, 1, (.t 3))]),
 ⟨none, .store (some 4) (.t 2) (.t 4), none⟩])
 (.ret)))
 [.cell 2 (some 4)]
set_option maxRecDepth 100000 in
theorem wu : bL Try.prog 21 wt = true := by kernel_rfl
def wv : bB :=
 (.seq (.ops false [
 oo 10 (.bin .lss (.t 9) (.t 8))])
 (.seq (.cond (.t 10)
 (.skip)
 (.exit 0))
 (.seq (.block 1 (.seq (.ops false [
 oo 11 (.iaddr (some 4) (.t 7) (.t 9)),
 oo 12 (.load (some 4) (.t 11)),
 oo 5 (.alloc [.int .i64 0, .int .i64 0, .int .u16 0, .vec (some 4) []]),
 ⟨none, .store (some 4) (.t 5) (.t 12), none⟩])
 (.ops false [
 oo 13 (.mov (.t 3)),
 oo 14 (.load (some 4) (.t 5)),
 oo 15 (.call false 62 [(.t 14)]),
 oo 16 (.bin .add (.t 13) (.t 15)),
 oo 3 (.mov (.t 16))])))
 (.ops false [
 oo 17 (.bin .add (.t 9) (ci 1)),
 oo 9 (.mov (.t 17))]))))
def ww : bH := .mk 19
 (.seq (.ops false [
 oo 1 (.box (some 4) (.t 0) true),
 oo 2 (.mov (ci 0))])
 (.seq (.ops false [
 oo 3 (.mov (ci 1))])
 (.seq (.seq (.ops false [
 oo 6 (.faddr 3 (.t 1)),
 oo 7 (.ldI none (.t 6)),
 oo 8 (.len (.t 7)),
 oo 9 (.mov (ci 0))])
 (.block 0 (.loop wv)))
 (.seq (.ops false [
 oo 18 (.mov (.t 3)),
 oo 2 (.mov (.t 18))])
 (.ret)))))
 [.t 2]
set_option maxRecDepth 100000 in
theorem wx : bL Try.prog 62 ww = true := by kernel_rfl
def wy : bB :=
 (.seq (.ops false [
 oo 10 (.bin .lss (.t 9) (.t 8))])
 (.seq (.cond (.t 10)
 (.skip)
 (.exit 0))
 (.seq (.block 1 (.seq (.ops false [
 oo 11 (.iaddr (some 4) (.t 7) (.t 9)),
 oo 12 (.load (some 4) (.t 11)),
 oo 5 (.alloc [.int .i64 0, .int .i64 0, .int .u16 0, .vec (some 4) []]),
 ⟨none, .store (some 4) (.t 5) (.t 12), none⟩])
 (.ops false [
 oo 13 (.mov (.t 3)),
 oo 14 (.load (some 4) (.t 5)),
 oo 15 (.call false 63 [(.t 14)]),
 oo 16 (.max2 (.t 13) (.t 15)),
 oo 3 (.mov (.t 16))])))
 (.ops false [
 oo 17 (.bin .add (.t 9) (ci 1)),
 oo 9 (.mov (.t 17))]))))
def wz : bH := .mk 20
 (.seq (.ops false [
 oo 1 (.box (some 4) (.t 0) true),
 oo 2 (.mov (ci 0))])
 (.seq (.ops false [
 oo 3 (.mov (ci 0))])
 (.seq (.seq (.ops false [
 oo 6 (.faddr 3 (.t 1)),
 oo 7 (.ldI none (.t 6)),
 oo 8 (.len (.t 7)),
 oo 9 (.mov (ci 0))])
 (.block 0 (.loop wy)))
 (.seq (.ops false [
 oo 18 (.mov (.t 3)),
 oo 19 (.bin .add (.t 18) (ci 1)),
 oo 2 (.mov (.t 19))])
 (.ret)))))
 [.t 2]
set_option maxRecDepth 100000 in
theorem wA : bL Try.prog 63 wz = true := by kernel_rfl
def wB : bB :=
 (.seq (.ops false [
 oo 9 (.bin .lss (.t 8) (.t 7))])
 (.seq (.cond (.t 9)
 (.skip)
 (.exit 0))
 (.seq (.block 1 (.seq (.ops false [
 oo 10 (.mov (.t 8)),
 oo 5 (.mov (.t 10))])
 (.seq (.ops false [
 oo 11 (.mov (.t 1)),
 oo 12 (.mov (.t 0)),
 oo 13 (.mov (.t 5)),
 oo 14 (.iaddr (some 4) (.t 12) (.t 13)),
 oo 15 (.load (some 4) (.t 14)),
 oo 16 (.callv false (.t 11) [(.t 15)])])
 (.cond (.t 16)
 (.seq (.ops false [
 oo 17 (.mov (.t 5)),
 oo 4 (.mov (.t 17))])
 (.ret))
 (.skip)))))
 (.ops false [
 oo 18 (.bin .add (.t 8) (ci 1)),
 oo 8 (.mov (.t 18))]))))
def wC : bH := .mk 19
 (.seq (.ops false [
 oo 4 (.mov (ci 0))])
 (.seq (.seq (.ops false [
 oo 6 (.mov (.t 0)),
 oo 7 (.len (.t 6)),
 oo 8 (.mov (ci 0))])
 (.block 0 (.loop wB)))
 (.seq (.ops false [
 oo 4 (.mov (ci (-1)))])
 (.ret))))
 [.t 4]
set_option maxRecDepth 100000 in
theorem wD : bL Try.prog 110 wC = true := by kernel_rfl
def wE : bH := .mk 9
 (.seq (.ops false [
 oo 4 (.mov (.c (.bool false)))])
 (.seq (.ops false [
 oo 5 (.mov (.t 0)),
 oo 6 (.mov (.t 1)),
 oo 7 (.call false 110 [(.t 5), (.t 6)]),
 oo 8 (.bin .geq (.t 7) (ci 0)),
 oo 4 (.mov (.t 8))])
 (.ret)))
 [.t 4]
set_option maxRecDepth 100000 in
theorem wF : bL Try.prog 98 wE = true := by kernel_rfl
def wG : bH := .mk 6
 (.seq (.ops false [
 oo 1 (.box (some 4) (.t 0) true),
 oo 2 (.mov (.c (.bool false)))])
 (.seq (.ops false [
 oo 3 (.ldI (some 4) (.t 1)),
 oo 4 (.call false 97 [(.t 3)]),
 oo 5 (.un .not (.t 4)),
 oo 2 (.mov (.t 5))])
 (.ret)))
 [.t 2]
set_option maxRecDepth 100000 in
theorem wH : bL Try.prog 109 wG = true := by kernel_rfl
def wI : bH := .mk 18
 (.seq (.ops false [
 oo 1 (.box (some 4) (.t 0) true),
 oo 2 (.mov (.c (.bool false)))])
 (.seq (.seq (.ops false [
 oo 3 (.faddr 0 (.t 1)),
 oo 4 (.ldI none (.t 3))])
 (.block 0 (.seq (.seq (.ops false [
 oo 6 (.bin .eql (.t 4) (ci 0)),
 oo 5 (.mov (.t 6))])
 (.cond (.t 5)
 (.skip)
 (.seq (.ops false [
 oo 7 (.bin .eql (.t 4) (ci 1)),
 oo 5 (.mov (.t 7))])
 (.cond (.t 5)
 (.skip)
 (.seq (.ops false [
 oo 8 (.bin .eql (.t 4) (ci 2)),
 oo 5 (.mov (.t 8))])
 (.cond (.t 5)
 (.skip)
 (.seq (.ops false [
 oo 9 (.bin .eql (.t 4) (ci 3)),
 oo 5 (.mov (.t 9))])
 (.cond (.t 5)
 (.skip)
 (.ops false [
 oo 10 (.bin .eql (.t 4) (ci 4)),
 oo 5 (.mov (.t 10))])))))))))
 (.cond (.t 5)
 (.seq (.ops false [
 oo 2 (.mov (.c (.bool true)))])
 (.ret))
 (.seq (.seq (.ops false [
 oo 12 (.bin .eql (.t 4) (ci 6)),
 oo 11 (.mov (.t 12))])
 (.cond (.t 11)
 (.skip)
 (.ops false [
 oo 13 (.bin .eql (.t 4) (ci 7)),
 oo 11 (.mov (.t 13))])))
 (.cond (.t 11)
 (.seq (.ops false [
 oo 14 (.faddr 3 (.t 1)),
 oo 15 (.ldI none (.t 14)),
 oo 16 (.call false 98 [(.t 15), (.c (.func 109 []))]),
 oo 17 (.un .not (.t 16)),
 oo 2 (.mov (.t 17))])
 (.ret))
 (.skip)))))))
 (.seq (.ops false [
 oo 2 (.mov (.c (.bool false)))])
 (.ret))))
 [.t 2]
set_option maxRecDepth 100000 in
theorem wJ : bL Try.prog 97 wI = true := by kernel_rfl
def wK : bH := .mk 8
 (.seq (.ops false [
 oo 2 (.box (some 4) (.t 0) true),
 oo 3 (.mov (.c (.bool false)))])
 (.seq (.ops false [
 oo 4 (.ldI (some 4) (.t 2)),
 oo 5 (.load none (.t 1)),
 oo 6 (.call false 75 [(.t 4), (.t 5)]),
 oo 7 (.un .not (.t 6)),
 oo 3 (.mov (.t 7))])
 (.ret)))
 [.t 3]
set_option maxRecDepth 100000 in
theorem wL : bL Try.prog 99 wK = true := by kernel_rfl
def wM : bH := .mk 92
 (.seq (.ops false [
 oo 2 (.box (some 4) (.t 0) true),
 oo 3 (.box none (.t 1) true),
 oo 4 (.mov (.c (.bool false)))])
 (.seq (.ops false [
 oo 8 (.faddr 1 (.t 2)),
 oo 9 (.ldI none (.t 8)),
 oo 10 (.bin .eql (.t 9) (ci 0)),
 oo 11 (.mov (.t 10)),
 ⟨some 12, .faddr 2 (.t 2), some (11, true)⟩,
 ⟨some 13, .ldI none (.t 12), some (11, true)⟩,
 ⟨some 14, .bin .eql (.t 13) (.c (.int .u16 0)), some (11, true)⟩,
 oo 15 (.pick (.t 11) (.t 14) (.c (.bool false))),
 oo 5 (.mov (.t 15))])
 (.seq (.ops false [
 oo 6 (.mov (ci 0)),
 oo 7 (.mov (ci 8))])
 (.seq (.seq (.ops false [
 oo 16 (.faddr 0 (.t 2)),
 oo 17 (.ldI none (.t 16))])
 (.block 0 (.seq (.seq (.ops false [
 oo 19 (.bin .eql (.t 17) (ci 0)),
 oo 18 (.mov (.t 19))])
 (.cond (.t 18)
 (.skip)
 (.ops false [
 oo 20 (.bin .eql (.t 17) (ci 1)),
 oo 18 (.mov (.t 20))])))
 (.cond (.t 18)
 (.seq (.ops false [
 oo 21 (.faddr 3 (.t 2)),
 oo 22 (.ldI none (.t 21)),
 oo 23 (.len (.t 22)),
 oo 24 (.bin .eql (.t 23) (ci 0)),
 oo 25 (.mov (.t 24)),
 ⟨some 26, .mov (.t 5), some (25, true)⟩,
 oo 27 (.pick (.t 25) (.t 26) (.c (.bool false))),
 oo 4 (.mov (.t 27))])
 (.ret))
 (.seq (.ops false [
 oo 29 (.bin .eql (.t 17) (ci 4)),
 oo 28 (.mov (.t 29))])
 (.cond (.t 28)
 (.seq (.ops true [
 oo 30 (.faddr 3 (.t 2)),
 oo 31 (.ldI none (.t 30)),
 oo 32 (.len (.t 31)),
 oo 33 (.bin .eql (.t 32) (ci 1)),
 oo 34 (.mov (.t 33)),
 ⟨some 35, .mov (.t 5), some (34, true)⟩,
 oo 36 (.pick (.t 34) (.t 35) (.c (.bool false))),
 oo 37 (.mov (.t 36)),
 ⟨some 38, .faddr 3 (.t 2), some (37, true)⟩,
 ⟨some 39, .ldI none (.t 38), some (37, true)⟩,
 ⟨some 40, .iaddr (some 4) (.t 39) (ci 0), some (37, true)⟩,
 ⟨some 41, .load (some 4) (.t 40), some (37, true)⟩,
 ⟨some 42, .call false 97 [(.t 41)], some (37, true)⟩,
 oo 43 (.pick (.t 37) (.t 42) (.c (.bool false))),
 oo 44 (.mov (.t 43)),
 ⟨some 45, .faddr 3 (.t 2), some (44, true)⟩,
 ⟨some 46, .ldI none (.t 45), some (44, true)⟩,
 ⟨some 47, .iaddr (some 4) (.t 46) (ci 0), some (44, true)⟩,
 ⟨some 48, .load (some 4) (.t 47), some (44, true)⟩,
 ⟨some 49, .ldI none (.t 3), some (44, true)⟩,
 ⟨some 50, .call false 75 [(.t 48), (.t 49)], some (44, true)⟩,
 oo 51 (.pick (.t 44) (.t 50) (.c (.bool false))),
 oo 4 (.mov (.t 51))])
 (.ret))
 (.seq (.seq (.ops false [
 oo 53 (.bin .eql (.t 17) (ci 6)),
 oo 52 (.mov (.t 53))])
 (.cond (.t 52)
 (.skip)
 (.ops false [
 oo 54 (.bin .eql (.t 17) (ci 7)),
 oo 52 (.mov (.t 54))])))
 (.cond (.t 52)
 (.seq (.ops false [
 oo 55 (.faddr 3 (.t 2)),
 oo 56 (.ldI none (.t 55)),
 oo 57 (.len (.t 56)),
 oo 58 (.bin .geq (.t 57) (ci 2)),
 oo 59 (.mov (.t 58)),
 ⟨some 60, .mov (.t 5), some (59, true)⟩,
 oo 61 (.pick (.t 59) (.t 60) (.c (.bool false))),
 oo 62 (.mov (.t 61)),
 ⟨some 63, .faddr 3 (.t 2), some (62, true)⟩,
 ⟨some 64, .ldI none (.t 63), some (62, true)⟩,
 ⟨some 65, .mkfunc 99 [(.t 3)], some (62, true)⟩,
 ⟨some 66, .call false 98 [(.t 64), (.t 65)], some (62, true)⟩,
 ⟨some 67, .un .not (.t 66), some (62, true)⟩,
 oo 68 (.pick (.t 62) (.t 67) (.c (.bool false))),
 oo 4 (.mov (.t 68))])
 (.ret))
 (.seq (.ops false [
 oo 70 (.bin .eql (.t 17) (ci 2)),
 oo 69 (.mov (.t 70))])
 (.cond (.t 69)
 (.skip)
 (.seq (.ops false [
 oo 72 (.bin .eql (.t 17) (ci 5)),
 oo 71 (.mov (.t 72))])
 (.cond (.t 71)
 (.ops false [
 oo 6 (.mov (ci 1))])
 (.seq (.ops false [
 oo 74 (.bin .eql (.t 17) (ci 3)),
 oo 73 (.mov (.t 74))])
 (.cond (.t 73)
 (.ops false [
 oo 75 (.ldI none (.t 3)),
 oo 7 (.mov (.t 75))])
 (.seq (.ops false [
 oo 4 (.mov (.c (.bool false)))])
 (.ret))))))))))))))))
 (.seq (.ops false [
 oo 76 (.faddr 3 (.t 2)),
 oo 77 (.ldI none (.t 76)),
 oo 78 (.len (.t 77)),
 oo 79 (.bin .eql (.t 78) (ci 0)),
 oo 80 (.mov (.t 79)),
 ⟨some 81, .faddr 1 (.t 2), some (80, true)⟩,
 ⟨some 82, .ldI none (.t 81), some (80, true)⟩,
 ⟨some 83, .mov (.t 6), some (80, true)⟩,
 ⟨some 84, .bin .geq (.t 82) (.t 83), some (80, true)⟩,
 oo 85 (.pick (.t 80) (.t 84) (.c (.bool false))),
 oo 86 (.mov (.t 85)),
 ⟨some 87, .faddr 1 (.t 2), some (86, true)⟩,
 ⟨some 88, .ldI none (.t 87), some (86, true)⟩,
 ⟨some 89, .mov (.t 7), some (86, true)⟩,
 ⟨some 90, .bin .lss (.t 88) (.t 89), some (86, true)⟩,
 oo 91 (.pick (.t 86) (.t 90) (.c (.bool false))),
 oo 4 (.mov (.t 91))])
 (.ret))))))
 [.t 4]
set_option maxRecDepth 100000 in
theorem wN : bL Try.prog 75 wM = true := by kernel_rfl
def wO : bB :=
 (.seq (.ops false [
 oo 10 (.bin .lss (.t 9) (.t 8))])
 (.seq (.cond (.t 10)
 (.skip)
 (.exit 0))
 (.seq (.block 1 (.seq (.ops false [
 oo 11 (.mov (.t 9)),
 oo 12 (.iaddr (some 2) (.t 7) (.t 9)),
 oo 13 (.load (some 2) (.t 12)),
 oo 6 (.alloc [.int .i64 0, .int .u16 0]),
 oo 5 (.mov (.t 11)),
 ⟨none, .store (some 2) (.t 6) (.t 13), none⟩])
 (.seq (.ops true [
 oo 14 (.faddr 0 (.t 6)),
 oo 15 (.load none (.t 14)),
 oo 16 (.bin .lss (.t 15) (ci 0)),
 oo 17 (.mov (.t 16)),
 ⟨some 18, .faddr 0 (.t 6), some (17, false)⟩,
 ⟨some 19, .load none (.t 18), some (17, false)⟩,
 ⟨some 20, .mov (.t 1), some (17, false)⟩,
 ⟨some 21, .bin .geq (.t 19) (.t 20), some (17, false)⟩,
 oo 22 (.pick (.t 17) (.c (.bool true)) (.t 21)),
 oo 23 (.mov (.t 22)),
 ⟨some 24, .mov (.t 5), some (23, false)⟩,
 ⟨some 25, .bin .gtr (.t 24) (ci 0), some (23, false)⟩,
 ⟨some 26, .mov (.t 25), some (23, false)⟩,
 ⟨some 27, .mov (.t 0), some (26, true)⟩,
 ⟨some 28, .mov (.t 5), some (26, true)⟩,
 ⟨some 29, .bin .sub (.t 28) (ci 1), some (26, true)⟩,
 ⟨some 30, .iaddr (some 2) (.t 27) (.t 29), some (26, true)⟩,
 ⟨some 31, .faddr 0 (.t 30), some (26, true)⟩,
 ⟨some 32, .load none (.t 31), some (26, true)⟩,
 ⟨some 33, .faddr 0 (.t 6), some (26, true)⟩,
 ⟨some 34, .load none (.t 33), some (26, true)⟩,
 ⟨some 35, .bin .geq (.t 32) (.t 34), some (26, true)⟩,
 ⟨some 36, .pick (.t 26) (.t 35) (.c (.bool false)), some (23, false)⟩,
 oo 37 (.pick (.t 23) (.c (.bool true)) (.t 36))])
 (.cond (.t 37)
 (.seq (.ops false [
 oo 4 (.mov (.c (.bool false)))])
 (.ret))
 (.skip)))))
 (.ops false [
 oo 38 (.bin .add (.t 9) (ci 1)),
 oo 9 (.mov (.t 38))]))))
def a76 : bH := .mk 39
 (.seq (.ops false [
 oo 4 (.mov (.c (.bool false)))])
 (.seq (.seq (.ops false [
 oo 7 (.mov (.t 0)),
 oo 8 (.len (.t 7)),
 oo 9 (.mov (ci 0))])
 (.block 0 (.loop wO)))
 (.seq (.ops false [
 oo 4 (.mov (.c (.bool true)))])
 (.ret))))
 [.t 4]
set_option maxRecDepth 100000 in
theorem wP : bL Try.prog 76 a76 = true := by kernel_rfl
def wQ : bB :=
 (.seq (.ops false [
 oo 43 (.bin .lss (.t 42) (.t 41))])
 (.seq (.cond (.t 43)
 (.skip)
 (.exit 0))
 (.seq (.block 1 (.seq (.ops false [
 oo 44 (.iaddr (some 3) (.t 40) (.t 42)),
 oo 45 (.load (some 3) (.t 44)),
 oo 5 (.alloc [.vec (some 2) [], .vec (some 2) [], .vec (some 2) []]),
 ⟨none, .store (some 3) (.t 5) (.t 45), none⟩])
 (.seq (.ops false [
 oo 46 (.faddr 0 (.t 5)),
 oo 47 (.load none (.t 46)),
 oo 48 (.len (.t 47)),
 oo 49 (.bin .geq (.t 48) (ci 2)),
 oo 50 (.mov (.t 49)),
 ⟨some 51, .faddr 0 (.t 5), some (50, true)⟩,
 ⟨some 52, .load none (.t 51), some (50, true)⟩,
 ⟨some 53, .iaddr (some 2) (.t 52) (ci 0), some (50, true)⟩,
 ⟨some 54, .faddr 0 (.t 53), some (50, true)⟩,
 ⟨some 55, .load none (.t 54), some (50, true)⟩,
 ⟨some 56, .bin .eql (.t 55) (ci 0), some (50, true)⟩,
 oo 57 (.pick (.t 50) (.t 56) (.c (.bool false))),
 oo 58 (.mov (.t 57)),
 ⟨some 59, .faddr 0 (.t 5), some (58, true)⟩,
 ⟨some 60, .load none (.t 59), some (58, true)⟩,
 ⟨some 61, .iaddr (some 2) (.t 60) (ci 1), some (58, true)⟩,
 ⟨some 62, .faddr 0 (.t 61), some (58, true)⟩,
 ⟨some 63, .load none (.t 62), some (58, true)⟩,
 ⟨some 64, .bin .eql (.t 63) (ci 1), some (58, true)⟩,
 oo 65 (.pick (.t 58) (.t 64) (.c (.bool false))),
 oo 6 (.mov (.t 65))])
 (.seq (.ops false [
 oo 66 (.mov (.t 6)),
 oo 67 (.un .not (.t 66)),
 oo 68 (.mov (.t 67)),
 ⟨some 69, .faddr 0 (.t 5), some (68, false)⟩,
 ⟨some 70, .load none (.t 69), some (68, false)⟩,
 ⟨some 71, .call false 76 [(.t 70), (ci 8)], some (68, false)⟩,
 ⟨some 72, .un .not (.t 71), some (68, false)⟩,
 oo 73 (.pick (.t 68) (.c (.bool true)) (.t 72)),
 oo 74 (.mov (.t 73)),
 ⟨some 75, .faddr 1 (.t 5), some (74, false)⟩,
 ⟨some 76, .load none (.t 75), some (74, false)⟩,
 ⟨some 77, .mov (.t 3), some (74, false)⟩,
 ⟨some 78, .call false 76 [(.t 76), (.t 77)], some (74, false)⟩,
 ⟨some 79, .un .not (.t 78), some (74, false)⟩,
 oo 80 (.pick (.t 74) (.c (.bool true)) (.t 79)),
 oo 81 (.mov (.t 80)),
 ⟨some 82, .faddr 2 (.t 5), some (81, false)⟩,
 ⟨some 83, .load none (.t 82), some (81, false)⟩,
 ⟨some 84, .mov (.t 3), some (81, false)⟩,
 ⟨some 85, .call false 76 [(.t 83), (.t 84)], some (81, false)⟩,
 ⟨some 86, .un .not (.t 85), some (81, false)⟩,
 oo 87 (.pick (.t 81) (.c (.bool true)) (.t 86)),
 oo 88 (.mov (.t 87)),
 ⟨some 89, .faddr 2 (.t 5), some (88, false)⟩,
 ⟨some 90, .load none (.t 89), some (88, false)⟩,
 ⟨some 91, .len (.t 90), some (88, false)⟩,
 ⟨some 92, .bin .eql (.t 91) (ci 0), some (88, false)⟩,
 oo 93 (.pick (.t 88) (.c (.bool true)) (.t 92))])
 (.cond (.t 93)
 (.seq (.ops false [
 oo 2 (.mov (ci 11))])
 (.ret))
 (.skip))))))
 (.ops false [
 oo 94 (.bin .add (.t 42) (ci 1)),
 oo 42 (.mov (.t 94))]))))
def wR : bH := .mk 95
 (.seq (.ops false [
 oo 1 (.box (some 6) (.t 0) true),
 oo 2 (.mov (ci 0))])
 (.seq (.ops false [
 oo 7 (.faddr 0 (.t 1)),
 oo 8 (.ldI none (.t 7)),
 oo 9 (.len (.t 8)),
 oo 3 (.mov (.t 9))])
 (.seq (.seq (.ops false [
 oo 10 (.mov (.t 3)),
 oo 11 (.bin .lss (.t 10) (ci 1)),
 oo 12 (.mov (.t 11)),
 ⟨some 13, .mov (.t 3), some (12, false)⟩,
 ⟨some 14, .bin .gtr (.t 13) (ci 4), some (12, false)⟩,
 oo 15 (.pick (.t 12) (.c (.bool true)) (.t 14)),
 oo 16 (.mov (.t 15)),
 ⟨some 17, .faddr 1 (.t 1), some (16, false)⟩,
 ⟨some 18, .ldI (some 4) (.t 17), some (16, false)⟩,
 ⟨some 19, .call false 62 [(.t 18)], some (16, false)⟩,
 ⟨some 20, .bin .gtr (.t 19) (ci 300), some (16, false)⟩,
 oo 21 (.pick (.t 16) (.c (.bool true)) (.t 20)),
 oo 22 (.mov (.t 21)),
 ⟨some 23, .faddr 1 (.t 1), some (22, false)⟩,
 ⟨some 24, .ldI (some 4) (.t 23), some (22, false)⟩,
 ⟨some 25, .call false 63 [(.t 24)], some (22, false)⟩,
 ⟨some 26, .bin .gtr (.t 25) (ci 20), some (22, false)⟩,
 oo 27 (.pick (.t 22) (.c (.bool true)) (.t 26)),
 oo 28 (.mov (.t 27)),
 ⟨some 29, .faddr 5 (.t 1), some (28, false)⟩,
 ⟨some 30, .ldI none (.t 29), some (28, false)⟩,
 ⟨some 31, .len (.t 30), some (28, false)⟩,
 ⟨some 32, .bin .gtr (.t 31) (ci 24), some (28, false)⟩,
 oo 33 (.pick (.t 28) (.c (.bool true)) (.t 32))])
 (.cond (.t 33)
 (.seq (.ops false [
 oo 2 (.mov (ci 2))])
 (.ret))
 (.skip)))
 (.seq (.seq (.ops false [
 oo 34 (.faddr 1 (.t 1)),
 oo 35 (.ldI (some 4) (.t 34)),
 oo 36 (.mov (.t 3)),
 oo 37 (.call false 75 [(.t 35), (.t 36)]),
 oo 38 (.un .not (.t 37))])
 (.cond (.t 38)
 (.seq (.ops false [
 oo 2 (.mov (ci 11))])
 (.ret))
 (.skip)))
 (.seq (.seq (.ops false [
 oo 39 (.faddr 5 (.t 1)),
 oo 40 (.ldI none (.t 39)),
 oo 41 (.len (.t 40)),
 oo 42 (.mov (ci 0))])
 (.block 0 (.loop wQ)))
 (.seq (.ops false [
 oo 2 (.mov (ci 0))])
 (.ret)))))))
 [.t 2]
set_option maxRecDepth 100000 in
theorem wS : bL Try.prog 48 wR = true := by kernel_rfl
def a77 : bH := .mk 9
 (.seq (.ops false [
 oo 3 (.box (some 8) (.t 1) true),
 oo 4 (.mov (.c (.vec (some 8) [])))])
 (.seq (.seq (.ops false [
 oo 5 (.mov (.t 0)),
 oo 6 (.un .not (.t 5))])
 (.cond (.t 6)
 (.seq (.ops false [
 oo 4 (.mov (.c (.vec (some 8) [])))])
 (.ret))
 (.skip)))
 (.seq (.ops false [
 oo 7 (.ldI (some 8) (.t 3)),
 oo 8 (.bsliceI (some 8) [(.t 7)]),
 oo 4 (.mov (.t 8))])
 (.ret))))
 [.t 4]
set_option maxRecDepth 100000 in
theorem wT : bL Try.prog 77 a77 = true := by kernel_rfl
def wU : bH := .mk 25
 (.seq (.ops false [
 oo 3 (.box (some 4) (.t 1) true),
 oo 4 (.mov (.c (.bool false)))])
 (.seq (.ops true [
 oo 5 (.faddr 1 (.t 3)),
 oo 6 (.ldI none (.t 5)),
 oo 7 (.bin .geq (.t 6) (ci 0)),
 oo 8 (.mov (.t 7)),
 ⟨some 9, .faddr 1 (.t 3), some (8, true)⟩,
 ⟨some 10, .ldI none (.t 9), some (8, true)⟩,
 ⟨some 11, .mov (.t 0), some (8, true)⟩,
 ⟨some 12, .len (.t 11), some (8, true)⟩,
 ⟨some 13, .bin .lss (.t 10) (.t 12), some (8, true)⟩,
 oo 14 (.pick (.t 8) (.t 13) (.c (.bool false))),
 oo 15 (.mov (.t 14)),
 ⟨some 16, .mov (.t 0), some (15, true)⟩,
 ⟨some 17, .faddr 1 (.t 3), some (15, true)⟩,
 ⟨some 18, .ldI none (.t 17), some (15, true)⟩,
 ⟨some 19, .iaddr none (.t 16) (.t 18), some (15, true)⟩,
 ⟨some 20, .load none (.t 19), some (15, true)⟩,
 ⟨some 21, .faddr 2 (.t 3), some (15, true)⟩,
 ⟨some 22, .ldI none (.t 21), some (15, true)⟩,
 ⟨some 23, .bin .eql (.t 20) (.t 22), some (15, true)⟩,
 oo 24 (.pick (.t 15) (.t 23) (.c (.bool false))),
 oo 4 (.mov (.t 24))])
 (.ret)))
 [.t 4]
set_option maxRecDepth 100000 in
theorem wV : bL Try.prog 54 wU = true := by kernel_rfl
def wW : bH := .mk 9
 (.seq (.ops false [
 oo 2 (.mov (.c (.bool false)))])
 (.seq (.ops false [
 oo 3 (.mov (.t 0)),
 oo 4 (.bin .geq (.t 3) (ci 0)),
 oo 5 (.mov (.t 4)),
 ⟨some 6, .mov (.t 0), some (5, true)⟩,
 ⟨some 7, .bin .lss (.t 6) (ci 8), some (5, true)⟩,
 oo 8 (.pick (.t 5) (.t 7) (.c (.bool false))),
 oo 2 (.mov (.t 8))])
 (.ret)))
 [.t 2]
set_option maxRecDepth 100000 in
theorem wX : bL Try.prog 100 wW = true := by kernel_rfl
def wY : bH := .mk 13
 (.seq (.ops false [
 oo 3 (.box (some 8) (.t 0) false),
 oo 6 (.alloc [.int .u16 0, .int .u16 0, .int .u16 0, .int .u16 0, .int .u16 0, .int .u16 0, .int .u16 0, .int .u16 0])])
 (.seq (.seq (.ops false [
 oo 7 (.mov (.t 1)),
 oo 8 (.call false 100 [(.t 7)])])
 (.cond (.t 8)
 (.ops false [
 oo 9 (.mov (.t 1)),
 oo 10 (.mov (.t 2)),
 oo 11 (.iaddrA 8 none (.t 3) (.t 9)),
 ⟨none, .store none (.t 11) (.t 10), none⟩])
 (.skip)))
 (.seq (.ops false [
 oo 12 (.load (some 8) (.t 3)),
 ⟨none, .store (some 8) (.t 6) (.t 12), none⟩])
 (.ret))))
 [.cell 6 (some 8)]
set_option maxRecDepth 100000 in
theorem wZ : bL Try.prog 78 wY = true := by kernel_rfl
def w4 : bH := .mk 8
 (.seq (.ops false [
 oo 2 (.mov (.c (.nils)))])
 (.seq (.seq (.ops false [
 oo 3 (.mov (.t 0)),
 oo 4 (.eqN false 1 (.t 3) (.c (.nils)))])
 (.cond (.t 4)
 (.seq (.ops false [
 oo 2 (.mov (.c (.nils)))])
 (.ret))
 (.skip)))
 (.seq (.ops false [
 oo 5 (.bslice (some 8) [] true),
 oo 6 (.mov (.t 0)),
 oo 7 (.append (some 8) (.t 5) (.t 6) true),
 oo 2 (.mov (.t 7))])
 (.ret))))
 [.t 2]
set_option maxRecDepth 100000 in
theorem og : bL Try.prog 93 w4 = true := by kernel_rfl
def w5 : bH := .mk 6
 (.seq (.ops false [
 oo 2 (.mov (.c (.bool false)))])
 (.seq (.ops false [
 oo 3 (.mov (.t 0)),
 oo 4 (.mov (.t 0)),
 oo 5 (.bin .neq (.t 3) (.t 4)),
 oo 2 (.mov (.t 5))])
 (.ret)))
 [.t 2]
set_option maxRecDepth 100000 in
theorem w6 : bL Try.prog 136 w5 = true := by kernel_rfl
def w7 : bH := .mk 20
 (.seq (.ops false [
 oo 4 (.mov (ci 0))])
 (.seq (.ops false [
 oo 7 (.mov (.t 0)),
 oo 8 (.call false 136 [(.t 7)]),
 oo 5 (.mov (.t 8))])
 (.seq (.ops false [
 oo 9 (.mov (.t 1)),
 oo 10 (.call false 136 [(.t 9)]),
 oo 6 (.mov (.t 10))])
 (.seq (.seq (.ops false [
 oo 11 (.mov (.t 5))])
 (.cond (.t 11)
 (.seq (.seq (.ops false [
 oo 12 (.mov (.t 6))])
 (.cond (.t 12)
 (.seq (.ops false [
 oo 4 (.mov (ci 0))])
 (.ret))
 (.skip)))
 (.seq (.ops false [
 oo 4 (.mov (ci (-1)))])
 (.ret)))
 (.skip)))
 (.seq (.seq (.ops false [
 oo 13 (.mov (.t 6))])
 (.cond (.t 13)
 (.seq (.ops false [
 oo 4 (.mov (ci 1))])
 (.ret))
 (.skip)))
 (.seq (.seq (.ops false [
 oo 14 (.mov (.t 0)),
 oo 15 (.mov (.t 1)),
 oo 16 (.bin .lss (.t 14) (.t 15))])
 (.cond (.t 16)
 (.seq (.ops false [
 oo 4 (.mov (ci (-1)))])
 (.ret))
 (.skip)))
 (.seq (.seq (.ops false [
 oo 17 (.mov (.t 0)),
 oo 18 (.mov (.t 1)),
 oo 19 (.bin .gtr (.t 17) (.t 18))])
 (.cond (.t 19)
 (.seq (.ops false [
 oo 4 (.mov (ci 1))])
 (.ret))
 (.skip)))
 (.seq (.ops false [
 oo 4 (.mov (ci 0))])
 (.ret)))))))))
 [.t 4]
set_option maxRecDepth 100000 in
theorem w8 : bL Try.prog 123 w7 = true := by kernel_rfl
def w9 : bB :=
 (.seq (.ops false [
 oo 8 (.bin .lss (.t 7) (ci 8))])
 (.seq (.cond (.t 8)
 (.skip)
 (.exit 0))
 (.seq (.block 1 (.seq (.ops false [
 oo 9 (.mov (.t 7)),
 oo 5 (.mov (.t 9))])
 (.seq (.ops true [
 oo 10 (.mov (.t 5)),
 oo 11 (.iaddrA 8 none (.t 2) (.t 10)),
 oo 12 (.ldI none (.t 11)),
 oo 13 (.mov (.t 5)),
 oo 14 (.iaddrA 8 none (.t 3) (.t 13)),
 oo 15 (.ldI none (.t 14)),
 oo 16 (.call false 123 [(.t 12), (.t 15)]),
 oo 6 (.mov (.t 16))])
 (.seq (.ops false [
 oo 17 (.mov (.t 6)),
 oo 18 (.bin .neq (.t 17) (ci 0))])
 (.cond (.t 18)
 (.seq (.ops false [
 oo 19 (.mov (.t 6)),
 oo 4 (.mov (.t 19))])
 (.ret))
 (.skip))))))
 (.ops false [
 oo 20 (.bin .add (.t 7) (ci 1)),
 oo 7 (.mov (.t 20))]))))
def xa : bH := .mk 21
 (.seq (.ops false [
 oo 2 (.box (some 8) (.t 0) true),
 oo 3 (.box (some 8) (.t 1) true),
 oo 4 (.mov (ci 0))])
 (.seq (.seq (.ops false [
 oo 7 (.mov (ci 0))])
 (.block 0 (.loop w9)))
 (.seq (.ops false [
 oo 4 (.mov (ci 0))])
 (.ret))))
 [.t 4]
set_option maxRecDepth 100000 in
theorem xb : bL Try.prog 112 xa = true := by kernel_rfl
def xc : bB :=
 (.seq (.seq (.ops false [
 oo 29 (.mov (.t 5)),
 oo 30 (.mov (.t 4)),
 oo 31 (.len (.t 30)),
 oo 32 (.bin .lss (.t 29) (.t 31))])
 (.cond (.t 32)
 (.skip)
 (.exit 2)))
 (.seq (.block 3 (.seq (.ops true [
 oo 35 (.mov (.t 4)),
 oo 36 (.mov (.t 5)),
 oo 37 (.iaddr (some 8) (.t 35) (.t 36)),
 oo 38 (.load (some 8) (.t 37)),
 oo 39 (.mov (.t 4)),
 oo 40 (.mov (.t 5)),
 oo 41 (.bin .sub (.t 40) (ci 1)),
 oo 42 (.iaddr (some 8) (.t 39) (.t 41)),
 oo 43 (.load (some 8) (.t 42)),
 oo 44 (.eqS true [.int, .int, .int, .int, .int, .int, .int, .int] (.t 38) (.t 43))])
 (.cond (.t 44)
 (.seq (.ops false [
 oo 45 (.mov (.t 0)),
 oo 46 (.mov (.t 3)),
 oo 47 (.mov (.t 4)),
 oo 48 (.mov (.t 5)),
 oo 49 (.iaddr (some 8) (.t 47) (.t 48)),
 oo 50 (.load (some 8) (.t 49)),
 oo 51 (.iaddr (some 8) (.t 45) (.t 46)),
 ⟨none, .store (some 8) (.t 51) (.t 50), none⟩])
 (.ops false [
 oo 52 (.mov (.t 3)),
 oo 53 (.bin .add (.t 52) (ci 1)),
 oo 3 (.mov (.t 53))]))
 (.skip))))
 (.ops false [
 oo 33 (.mov (.t 5)),
 oo 34 (.bin .add (.t 33) (ci 1)),
 oo 5 (.mov (.t 34))])))
def xd : bB :=
 (.seq (.seq (.ops false [
 oo 10 (.mov (.t 3)),
 oo 11 (.mov (.t 0)),
 oo 12 (.len (.t 11)),
 oo 13 (.bin .lss (.t 10) (.t 12))])
 (.cond (.t 13)
 (.skip)
 (.exit 0)))
 (.seq (.block 1 (.seq (.ops true [
 oo 16 (.mov (.t 0)),
 oo 17 (.mov (.t 3)),
 oo 18 (.iaddr (some 8) (.t 16) (.t 17)),
 oo 19 (.load (some 8) (.t 18)),
 oo 20 (.mov (.t 0)),
 oo 21 (.mov (.t 3)),
 oo 22 (.bin .sub (.t 21) (ci 1)),
 oo 23 (.iaddr (some 8) (.t 20) (.t 22)),
 oo 24 (.load (some 8) (.t 23)),
 oo 25 (.eqS false [.int, .int, .int, .int, .int, .int, .int, .int] (.t 19) (.t 24))])
 (.cond (.t 25)
 (.seq (.ops false [
 oo 26 (.mov (.t 0)),
 oo 27 (.mov (.t 3)),
 oo 28 (.slc (some 8) (.t 26) (some (.t 27)) none),
 oo 4 (.mov (.t 28))])
 (.seq (.seq (.ops false [
 oo 5 (.mov (ci 1))])
 (.block 2 (.loop xc)))
 (.seq (.ops false [
 oo 54 (.mov (.t 0)),
 oo 55 (.mov (.t 3)),
 oo 56 (.slc (some 8) (.t 54) (some (.t 55)) none),
 ⟨none, .clear (some 8) [.int .u16 0, .int .u16 0, .int .u16 0, .int .u16 0, .int .u16 0, .int .u16 0, .int .u16 0, .int .u16 0] (.t 56), none⟩])
 (.seq (.ops false [
 oo 57 (.mov (.t 0)),
 oo 58 (.mov (.t 3)),
 oo 59 (.slc (some 8) (.t 57) none (some (.t 58))),
 oo 2 (.mov (.t 59))])
 (.ret)))))
 (.skip))))
 (.ops false [
 oo 14 (.mov (.t 3)),
 oo 15 (.bin .add (.t 14) (ci 1)),
 oo 3 (.mov (.t 15))])))
def xe : bH := .mk 61
 (.seq (.ops false [
 oo 2 (.mov (.c (.nils)))])
 (.seq (.seq (.ops false [
 oo 6 (.mov (.t 0)),
 oo 7 (.len (.t 6)),
 oo 8 (.bin .lss (.t 7) (ci 2))])
 (.cond (.t 8)
 (.seq (.ops false [
 oo 9 (.mov (.t 0)),
 oo 2 (.mov (.t 9))])
 (.ret))
 (.skip)))
 (.seq (.seq (.ops false [
 oo 3 (.mov (ci 1))])
 (.block 0 (.loop xd)))
 (.seq (.ops false [
 oo 60 (.mov (.t 0)),
 oo 2 (.mov (.t 60))])
 (.ret)))))
 [.t 2]
set_option maxRecDepth 100000 in
theorem xf : bL Try.prog 113 xe = true := by kernel_rfl
def xg : bH := .mk 9
 (.seq (.ops false [
 oo 2 (.mov (.c (.nils)))])
 (.seq (.ops false [
 oo 3 (.mov (.t 0)),
 oo 4 (.call true 93 [(.t 3)]),
 oo 0 (.mov (.t 4))])
 (.seq (.ops false [
 oo 5 (.mov (.t 0)),
 oo 6 (.call true 111 [(.t 5), (.c (.func 112 []))])])
 (.seq (.ops false [
 oo 7 (.mov (.t 0)),
 oo 8 (.call true 113 [(.t 7)]),
 oo 2 (.mov (.t 8))])
 (.ret)))))
 [.t 2]
set_option maxRecDepth 100000 in
theorem xh : bL Try.prog 101 xg = true := by kernel_rfl
def xi : bH := .mk 11
 (.seq (.ops false [
 oo 2 (.mov (.c (.nils)))])
 (.seq (.ops false [
 oo 3 (.mov (.t 0)),
 oo 4 (.call true 101 [(.t 3)]),
 oo 0 (.mov (.t 4))])
 (.seq (.seq (.ops false [
 oo 5 (.mov (.t 0)),
 oo 6 (.len (.t 5)),
 oo 7 (.bin .gtr (.t 6) (ci 64))])
 (.cond (.t 7)
 (.any)
 (.skip)))
 (.seq (.ops false [
 oo 10 (.mov (.t 0)),
 oo 2 (.mov (.t 10))])
 (.ret)))))
 [.t 2]
set_option maxRecDepth 100000 in
theorem xj : bL Try.prog 79 xi = true := by kernel_rfl
def xk : bB :=
 (.seq (.ops false [
 oo 68 (.bin .lss (.t 67) (.t 66))])
 (.seq (.cond (.t 68)
 (.skip)
 (.exit 1))
 (.seq (.block 2 (.seq (.ops false [
 oo 69 (.iaddr (some 4) (.t 65) (.t 67)),
 oo 70 (.load (some 4) (.t 69)),
 oo 9 (.alloc [.int .i64 0, .int .i64 0, .int .u16 0, .vec (some 4) []]),
 ⟨none, .store (some 4) (.t 9) (.t 70), none⟩])
 (.ops false [
 oo 71 (.mov (.t 7)),
 oo 72 (.load (some 4) (.t 9)),
 oo 73 (.mov (.t 1)),
 oo 74 (.ldI (some 8) (.t 5)),
 oo 75 (.call false 50 [(.t 72), (.t 73), (.t 74)]),
 oo 76 (.append (some 8) (.t 71) (.t 75) false),
 oo 77 (.call true 79 [(.t 76)]),
 oo 7 (.mov (.t 77))])))
 (.ops false [
 oo 78 (.bin .add (.t 67) (ci 1)),
 oo 67 (.mov (.t 78))]))))
def xl : bB :=
 (.seq (.ops false [
 oo 94 (.bin .lss (.t 93) (.t 92))])
 (.seq (.cond (.t 94)
 (.skip)
 (.exit 5))
 (.seq (.block 6 (.seq (.ops false [
 oo 95 (.iaddr (some 8) (.t 91) (.t 93)),
 oo 96 (.load (some 8) (.t 95)),
 oo 15 (.alloc [.int .u16 0, .int .u16 0, .int .u16 0, .int .u16 0, .int .u16 0, .int .u16 0, .int .u16 0, .int .u16 0]),
 ⟨none, .store (some 8) (.t 15) (.t 96), none⟩])
 (.ops false [
 oo 97 (.mov (.t 13)),
 oo 98 (.load (some 4) (.t 12)),
 oo 99 (.mov (.t 1)),
 oo 100 (.load (some 8) (.t 15)),
 oo 101 (.call false 50 [(.t 98), (.t 99), (.t 100)]),
 oo 102 (.append (some 8) (.t 97) (.t 101) false),
 oo 13 (.mov (.t 102))])))
 (.ops false [
 oo 103 (.bin .add (.t 93) (ci 1)),
 oo 93 (.mov (.t 103))]))))
def xm : bB :=
 (.seq (.ops false [
 oo 88 (.bin .lss (.t 87) (.t 86))])
 (.seq (.cond (.t 88)
 (.skip)
 (.exit 3))
 (.seq (.block 4 (.seq (.ops false [
 oo 89 (.iaddr (some 4) (.t 85) (.t 87)),
 oo 90 (.load (some 4) (.t 89)),
 oo 12 (.alloc [.int .i64 0, .int .i64 0, .int .u16 0, .vec (some 4) []]),
 ⟨none, .store (some 4) (.t 12) (.t 90), none⟩])
 (.seq (.ops false [
 oo 13 (.mov (.c (.nils)))])
 (.seq (.seq (.ops false [
 oo 91 (.mov (.t 10)),
 oo 92 (.len (.t 91)),
 oo 93 (.mov (ci 0))])
 (.block 5 (.loop xl)))
 (.ops false [
 oo 104 (.mov (.t 13)),
 oo 105 (.call true 79 [(.t 104)]),
 oo 10 (.mov (.t 105))])))))
 (.ops false [
 oo 106 (.bin .add (.t 87) (ci 1)),
 oo 87 (.mov (.t 106))]))))
def a50 : bH := .mk 108
 (.seq (.ops false [
 oo 3 (.box (some 4) (.t 0) true),
 oo 5 (.box (some 8) (.t 2) true),
 oo 6 (.mov (.c (.vec (some 8) [])))])
 (.seq (.seq (.ops false [
 oo 16 (.faddr 0 (.t 3)),
 oo 17 (.ldI none (.t 16))])
 (.block 0 (.seq (.ops false [
 oo 19 (.bin .eql (.t 17) (ci 1)),
 oo 18 (.mov (.t 19))])
 (.cond (.t 18)
 (.seq (.ops false [
 oo 20 (.ldI (some 8) (.t 5)),
 oo 21 (.call false 77 [(.c (.bool true)), (.t 20)]),
 oo 6 (.mov (.t 21))])
 (.ret))
 (.seq (.ops false [
 oo 23 (.bin .eql (.t 17) (ci 2)),
 oo 22 (.mov (.t 23))])
 (.cond (.t 22)
 (.seq (.ops true [
 oo 24 (.faddr 1 (.t 3)),
 oo 25 (.ldI none (.t 24)),
 oo 26 (.iaddrA 8 none (.t 5) (.t 25)),
 oo 27 (.ldI none (.t 26)),
 oo 28 (.faddr 2 (.t 3)),
 oo 29 (.ldI none (.t 28)),
 oo 30 (.bin .eql (.t 27) (.t 29)),
 oo 31 (.ldI (some 8) (.t 5)),
 oo 32 (.call false 77 [(.t 30), (.t 31)]),
 oo 6 (.mov (.t 32))])
 (.ret))
 (.seq (.ops false [
 oo 34 (.bin .eql (.t 17) (ci 3)),
 oo 33 (.mov (.t 34))])
 (.cond (.t 33)
 (.seq (.ops true [
 oo 35 (.mov (.t 1)),
 oo 36 (.ldI (some 4) (.t 3)),
 oo 37 (.call false 54 [(.t 35), (.t 36)]),
 oo 38 (.ldI (some 8) (.t 5)),
 oo 39 (.call false 77 [(.t 37), (.t 38)]),
 oo 6 (.mov (.t 39))])
 (.ret))
 (.seq (.ops false [
 oo 41 (.bin .eql (.t 17) (ci 4)),
 oo 40 (.mov (.t 41))])
 (.cond (.t 40)
 (.seq (.ops true [
 oo 42 (.faddr 3 (.t 3)),
 oo 43 (.ldI none (.t 42)),
 oo 44 (.iaddr (some 4) (.t 43) (ci 0)),
 oo 45 (.load (some 4) (.t 44)),
 oo 46 (.mov (.t 1)),
 oo 47 (.ldI (some 8) (.t 5)),
 oo 48 (.call false 50 [(.t 45), (.t 46), (.t 47)]),
 oo 49 (.len (.t 48)),
 oo 50 (.bin .eql (.t 49) (ci 0)),
 oo 51 (.ldI (some 8) (.t 5)),
 oo 52 (.call false 77 [(.t 50), (.t 51)]),
 oo 6 (.mov (.t 52))])
 (.ret))
 (.seq (.ops false [
 oo 54 (.bin .eql (.t 17) (ci 5)),
 oo 53 (.mov (.t 54))])
 (.cond (.t 53)
 (.seq (.ops false [
 oo 55 (.ldI (some 8) (.t 5)),
 oo 56 (.faddr 1 (.t 3)),
 oo 57 (.ldI none (.t 56)),
 oo 58 (.faddr 2 (.t 3)),
 oo 59 (.ldI none (.t 58)),
 oo 60 (.call false 78 [(.t 55), (.t 57), (.t 59)]),
 oo 61 (.call false 77 [(.c (.bool true)), (.t 60)]),
 oo 6 (.mov (.t 61))])
 (.ret))
 (.seq (.ops false [
 oo 63 (.bin .eql (.t 17) (ci 7)),
 oo 62 (.mov (.t 63))])
 (.cond (.t 62)
 (.seq (.ops false [
 oo 7 (.mov (.c (.nils)))])
 (.seq (.seq (.ops false [
 oo 64 (.faddr 3 (.t 3)),
 oo 65 (.ldI none (.t 64)),
 oo 66 (.len (.t 65)),
 oo 67 (.mov (ci 0))])
 (.block 1 (.loop xk)))
 (.seq (.ops false [
 oo 79 (.mov (.t 7)),
 oo 6 (.mov (.t 79))])
 (.ret))))
 (.seq (.ops false [
 oo 81 (.bin .eql (.t 17) (ci 6)),
 oo 80 (.mov (.t 81))])
 (.cond (.t 80)
 (.seq (.ops false [
 oo 82 (.ldI (some 8) (.t 5)),
 oo 83 (.call false 77 [(.c (.bool true)), (.t 82)]),
 oo 10 (.mov (.t 83))])
 (.seq (.seq (.ops false [
 oo 84 (.faddr 3 (.t 3)),
 oo 85 (.ldI none (.t 84)),
 oo 86 (.len (.t 85)),
 oo 87 (.mov (ci 0))])
 (.block 3 (.loop xm)))
 (.seq (.ops false [
 oo 107 (.mov (.t 10)),
 oo 6 (.mov (.t 107))])
 (.ret))))
 (.skip)))))))))))))))))
 (.seq (.ops false [
 oo 6 (.mov (.c (.vec (some 8) [])))])
 (.ret))))
 [.t 6]
set_option maxRecDepth 100000 in
theorem xn : bL Try.prog 50 a50 = true := by kernel_rfl
def xo : bH := .mk 23
 (.seq (.ops false [
 oo 3 (.box (some 4) (.t 0) true),
 oo 5 (.box (some 8) (.t 2) true),
 oo 6 (.mov (.c (.bool false)))])
 (.seq (.ops false [
 oo 10 (.ldI (some 4) (.t 3)),
 oo 11 (.mov (.t 1)),
 oo 12 (.ldI (some 8) (.t 5)),
 oo 13 (.call false 14 [(.t 10), (.t 11), (.t 12)]),
 oo 9 (.mov (.t 13)),
 oo 14 (.extract (.t 9) 0),
 oo 15 (.extract (.t 9) 1),
 oo 7 (.mov (.t 14)),
 oo 8 (.mov (.t 15))])
 (.seq (.ops false [
 oo 16 (.mov (.t 8)),
 oo 17 (.bin .eql (.t 16) (ci 0)),
 oo 18 (.mov (.t 17)),
 ⟨some 19, .mov (.t 7), some (18, true)⟩,
 ⟨some 20, .len (.t 19), some (18, true)⟩,
 ⟨some 21, .bin .gtr (.t 20) (ci 0), some (18, true)⟩,
 oo 22 (.pick (.t 18) (.t 21) (.c (.bool false))),
 oo 6 (.mov (.t 22))])
 (.ret))))
 [.t 6]
set_option maxRecDepth 100000 in
theorem xp : bL Try.prog 17 xo = true := by kernel_rfl
def xq : bH := .mk 56
 (.seq (.ops false [
 oo 0 (.mov (.c (.bool false)))])
 (.seq (.ops false [
 oo 6 (.build [.int .i64 0, .int .i64 0, .int .u16 0, .vec (some 4) []] [(0, 1, (ci 5)), (1, 1, (ci 1)), (2, 1, (.c (.int .u16 1)))]),
 oo 7 (.build [.int .i64 0, .int .i64 0, .int .u16 0, .vec (some 4) []] [(0, 1, (ci 5)), (1, 1, (ci 1)), (2, 1, (.c (.int .u16 2)))]),
 oo 8 (.bsliceI (some 4) [(.t 6), (.t 7)]),
 oo 9 (.call false 20 [(.t 8)]),
 oo 10 (.build [.int .i64 0, .int .i64 0, .int .u16 0, .vec (some 4) []] [(0, 1, (ci 3)), (1, 1, (ci 0)), (2, 1, (.c (.int .u16 5)))]),
 oo 11 (.bsliceI (some 4) [(.t 9), (.t 10)]),
 oo 12 (.call false 21 [(.t 11)]),
 oo 1 (.alloc [.int .i64 0, .int .i64 0, .int .u16 0, .vec (some 4) []]),
 ⟨none, .store (some 4) (.t 1) (.t 12), none⟩])
 (.seq (.ops false [
 oo 14 (.load (some 4) (.t 1)),
 oo 15 (.bsliceI none [(.c (.int .u16 5))]),
 oo 16 (.build [.int .u16 0, .int .u16 0, .int .u16 0, .int .u16 0, .int .u16 0, .int .u16 0, .int .u16 0, .int .u16 0] [(0, 1, (.c (.int .u16 9)))]),
 oo 17 (.call false 14 [(.t 14), (.t 15), (.t 16)]),
 oo 13 (.mov (.t 17)),
 oo 18 (.extract (.t 13) 0),
 oo 19 (.extract (.t 13) 1),
 oo 2 (.mov (.t 18)),
 oo 3 (.mov (.t 19))])
 (.seq (.ops false [
 oo 21 (.load (some 4) (.t 1)),
 oo 22 (.bsliceI none [(.c (.int .u16 6))]),
 oo 23 (.build [.int .u16 0, .int .u16 0, .int .u16 0, .int .u16 0, .int .u16 0, .int .u16 0, .int .u16 0, .int .u16 0] [(0, 1, (.c (.int .u16 9)))]),
 oo 24 (.call false 14 [(.t 21), (.t 22), (.t 23)]),
 oo 20 (.mov (.t 24)),
 oo 25 (.extract (.t 20) 0),
 oo 26 (.extract (.t 20) 1),
 oo 4 (.mov (.t 25)),
 oo 5 (.mov (.t 26))])
 (.seq (.ops false [
 oo 27 (.mov (.t 3)),
 oo 28 (.bin .eql (.t 27) (ci 0)),
 oo 29 (.mov (.t 28)),
 ⟨some 30, .mov (.t 5), some (29, true)⟩,
 ⟨some 31, .bin .eql (.t 30) (ci 0), some (29, true)⟩,
 oo 32 (.pick (.t 29) (.t 31) (.c (.bool false))),
 oo 33 (.mov (.t 32)),
 ⟨some 34, .mov (.t 2), some (33, true)⟩,
 ⟨some 35, .len (.t 34), some (33, true)⟩,
 ⟨some 36, .bin .eql (.t 35) (ci 2), some (33, true)⟩,
 oo 37 (.pick (.t 33) (.t 36) (.c (.bool false))),
 oo 38 (.mov (.t 37)),
 ⟨some 39, .mov (.t 2), some (38, true)⟩,
 ⟨some 40, .iaddr (some 8) (.t 39) (ci 1), some (38, true)⟩,
 ⟨some 41, .load (some 8) (.t 40), some (38, true)⟩,
 ⟨some 42, .build [.int .u16 0, .int .u16 0, .int .u16 0, .int .u16 0, .int .u16 0, .int .u16 0, .int .u16 0, .int .u16 0] [(0, 1, (.c (.int .u16 9))), (1, 1, (.c (.int .u16 2)))], some (38, true)⟩,
 ⟨some 43, .eqS false [.int, .int, .int, .int, .int, .int, .int, .int] (.t 41) (.t 42), some (38, true)⟩,
 oo 44 (.pick (.t 38) (.t 43) (.c (.bool false))),
 oo 45 (.mov (.t 44)),
 ⟨some 46, .mov (.t 4), some (45, true)⟩,
 ⟨some 47, .len (.t 46), some (45, true)⟩,
 ⟨some 48, .bin .eql (.t 47) (ci 0), some (45, true)⟩,
 oo 49 (.pick (.t 45) (.t 48) (.c (.bool false))),
 oo 50 (.mov (.t 49)),
 ⟨some 51, .load (some 4) (.t 1), some (50, true)⟩,
 ⟨some 52, .bsliceI none [(.c (.int .u16 5))], some (50, true)⟩,
 ⟨some 53, .build [.int .u16 0, .int .u16 0, .int .u16 0, .int .u16 0, .int .u16 0, .int .u16 0, .int .u16 0, .int .u16 0] [], some (50, true)⟩,
 ⟨some 54, .call false 17 [(.t 51), (.t 52), (.t 53)], some (50, true)⟩,
 oo 55 (.pick (.t 50) (.t 54) (.c (.bool false))),
 oo 0 (.mov (.t 55))])
 (.ret))))))
 [.t 0]
set_option maxRecDepth 100000 in
theorem xr : bL Try.prog 12 xq = true := by kernel_rfl
def xt : bB :=
 (.seq (.ops false [
 oo 17 (.bin .lss (.t 16) (.t 15))])
 (.seq (.cond (.t 17)
 (.skip)
 (.exit 0))
 (.seq (.block 1 (.seq (.ops false [
 oo 18 (.iaddr (some 4) (.t 14) (.t 16)),
 oo 19 (.load (some 4) (.t 18)),
 oo 6 (.alloc [.int .i64 0, .int .i64 0, .int .u16 0, .int .u8 0]),
 ⟨none, .store (some 4) (.t 6) (.t 19), none⟩])
 (.seq (.ops false [
 oo 20 (.mov (.t 4)),
 oo 21 (.len (.t 20)),
 oo 7 (.mov (.t 21))])
 (.block 2 (.seq (.ops false [
 oo 23 (.faddr 0 (.t 6)),
 oo 24 (.load none (.t 23)),
 oo 25 (.bin .eql (.t 24) (ci 0)),
 oo 26 (.mov (.t 25)),
 ⟨some 27, .faddr 0 (.t 6), some (26, false)⟩,
 ⟨some 28, .load none (.t 27), some (26, false)⟩,
 ⟨some 29, .bin .eql (.t 28) (ci 1), some (26, false)⟩,
 oo 30 (.pick (.t 26) (.c (.bool true)) (.t 29)),
 oo 22 (.mov (.t 30))])
 (.cond (.t 22)
 (.ops false [
 oo 31 (.mov (.t 4)),
 oo 32 (.faddr 0 (.t 6)),
 oo 33 (.load none (.t 32)),
 oo 34 (.build [.int .i64 0, .int .i64 0, .int .u16 0, .vec (some 4) []] [(0, 1, (.t 33))]),
 oo 35 (.bsliceI (some 4) [(.t 34)]),
 oo 36 (.append (some 4) (.t 31) (.t 35) true),
 oo 4 (.mov (.t 36))])
 (.seq (.ops false [
 oo 38 (.faddr 0 (.t 6)),
 oo 39 (.load none (.t 38)),
 oo 40 (.bin .eql (.t 39) (ci 2)),
 oo 41 (.mov (.t 40)),
 ⟨some 42, .faddr 0 (.t 6), some (41, false)⟩,
 ⟨some 43, .load none (.t 42), some (41, false)⟩,
 ⟨some 44, .bin .eql (.t 43) (ci 3), some (41, false)⟩,
 oo 45 (.pick (.t 41) (.c (.bool true)) (.t 44)),
 oo 46 (.mov (.t 45)),
 ⟨some 47, .faddr 0 (.t 6), some (46, false)⟩,
 ⟨some 48, .load none (.t 47), some (46, false)⟩,
 ⟨some 49, .bin .eql (.t 48) (ci 5), some (46, false)⟩,
 oo 50 (.pick (.t 46) (.c (.bool true)) (.t 49)),
 oo 37 (.mov (.t 50))])
 (.cond (.t 37)
 (.ops false [
 oo 51 (.mov (.t 4)),
 oo 52 (.faddr 0 (.t 6)),
 oo 53 (.load none (.t 52)),
 oo 54 (.faddr 1 (.t 6)),
 oo 55 (.load none (.t 54)),
 oo 56 (.faddr 2 (.t 6)),
 oo 57 (.load none (.t 56)),
 oo 58 (.build [.int .i64 0, .int .i64 0, .int .u16 0, .vec (some 4) []] [(0, 1, (.t 53)), (1, 1, (.t 55)), (2, 1, (.t 57))]),
 oo 59 (.bsliceI (some 4) [(.t 58)]),
 oo 60 (.append (some 4) (.t 51) (.t 59) true),
 oo 4 (.mov (.t 60))])
 (.seq (.ops false [
 oo 62 (.faddr 0 (.t 6)),
 oo 63 (.load none (.t 62)),
 oo 64 (.bin .eql (.t 63) (ci 4)),
 oo 65 (.mov (.t 64)),
 ⟨some 66, .mov (.t 7), some (65, true)⟩,
 ⟨some 67, .bin .gtr (.t 66) (ci 0), some (65, true)⟩,
 oo 68 (.pick (.t 65) (.t 67) (.c (.bool false))),
 oo 61 (.mov (.t 68))])
 (.cond (.t 61)
 (.ops false [
 oo 69 (.mov (.t 4)),
 oo 70 (.mov (.t 7)),
 oo 71 (.bin .sub (.t 70) (ci 1)),
 oo 72 (.mov (.t 4)),
 oo 73 (.mov (.t 7)),
 oo 74 (.bin .sub (.t 73) (ci 1)),
 oo 75 (.iaddr (some 4) (.t 72) (.t 74)),
 oo 76 (.load (some 4) (.t 75)),
 oo 77 (.bsliceI (some 4) [(.t 76)]),
 oo 78 (.build [.int .i64 0, .int .i64 0, .int .u16 0, .vec (some 4) []] [(0, 1, (ci 4)), (3, 1, (.t 77))]),
 oo 79 (.iaddr (some 4) (.t 69) (.t 71)),
 ⟨none, .store (some 4) (.t 79) (.t 78), none⟩])
 (.seq (.ops false [
 oo 81 (.faddr 0 (.t 6)),
 oo 82 (.load none (.t 81)),
 oo 83 (.bin .eql (.t 82) (ci 6)),
 oo 84 (.mov (.t 83)),
 ⟨some 85, .faddr 0 (.t 6), some (84, false)⟩,
 ⟨some 86, .load none (.t 85), some (84, false)⟩,
 ⟨some 87, .bin .eql (.t 86) (ci 7), some (84, false)⟩,
 oo 88 (.pick (.t 84) (.c (.bool true)) (.t 87)),
 oo 80 (.mov (.t 88))])
 (.cond (.t 80)
 (.seq (.ops false [
 oo 89 (.faddr 3 (.t 6)),
 oo 90 (.load none (.t 89)),
 oo 91 (.convI .i64 (.t 90)),
 oo 92 (.mov (.t 7)),
 oo 93 (.min2 (.t 91) (.t 92)),
 oo 8 (.mov (.t 93))])
 (.seq (.ops false [
 oo 94 (.bslice (some 4) [] false),
 oo 95 (.mov (.t 4)),
 oo 96 (.mov (.t 7)),
 oo 97 (.mov (.t 8)),
 oo 98 (.bin .sub (.t 96) (.t 97)),
 oo 99 (.slc (some 4) (.t 95) (some (.t 98)) none),
 oo 100 (.append (some 4) (.t 94) (.t 99) false),
 oo 9 (.mov (.t 100))])
 (.opsS [(4, 9)] [
 oo 101 (.mov (.t 4)),
 oo 102 (.mov (.t 7)),
 oo 103 (.mov (.t 8)),
 oo 104 (.bin .sub (.t 102) (.t 103)),
 oo 105 (.slc (some 4) (.t 101) none (some (.t 104))),
 oo 106 (.faddr 0 (.t 6)),
 oo 107 (.load none (.t 106)),
 oo 108 (.mov (.t 9)),
 oo 109 (.build [.int .i64 0, .int .i64 0, .int .u16 0, .vec (some 4) []] [(0, 1, (.t 107)), (3, 1, (.t 108))]),
 oo 110 (.bsliceV (some 4) [(.t 109)] false),
 oo 111 (.appendC (some 4) (.t 105) (.t 110) true),
 oo 4 (.mov (.t 111))])))
 (.skip)))))))))))))
 (.ops false [
 oo 112 (.bin .add (.t 16) (ci 1)),
 oo 16 (.mov (.t 112))]))))
def xu : bH := .mk 123
 (.seq (.ops false [
 oo 2 (.alloc [.int .i64 0, .int .i64 0, .int .u16 0, .vec (some 4) []]),
 oo 3 (.mov (.c (.bool false)))])
 (.seq (.seq (.ops false [
 oo 10 (.mov (.t 0)),
 oo 11 (.len (.t 10)),
 oo 12 (.bin .gtr (.t 11) (ci 60))])
 (.cond (.t 12)
 (.seq (.ops false [
 oo 13 (.build [.int .i64 0, .int .i64 0, .int .u16 0, .vec (some 4) []] []),
 ⟨none, .store (some 4) (.t 2) (.t 13), none⟩,
 oo 3 (.mov (.c (.bool false)))])
 (.ret))
 (.skip)))
 (.seq (.ops false [
 oo 4 (.mov (.c (.nils)))])
 (.seq (.seq (.ops false [
 oo 14 (.mov (.t 0)),
 oo 15 (.len (.t 14)),
 oo 16 (.mov (ci 0))])
 (.block 0 (.loop xt)))
 (.seq (.seq (.ops false [
 oo 113 (.mov (.t 4)),
 oo 114 (.len (.t 113)),
 oo 115 (.bin .eql (.t 114) (ci 0))])
 (.cond (.t 115)
 (.seq (.ops false [
 oo 116 (.build [.int .i64 0, .int .i64 0, .int .u16 0, .vec (some 4) []] []),
 ⟨none, .store (some 4) (.t 2) (.t 116), none⟩,
 oo 3 (.mov (.c (.bool false)))])
 (.ret))
 (.skip)))
 (.seq (.ops false [
 oo 117 (.mov (.t 4)),
 oo 118 (.mov (.t 4)),
 oo 119 (.len (.t 118)),
 oo 120 (.bin .sub (.t 119) (ci 1)),
 oo 121 (.iaddr (some 4) (.t 117) (.t 120)),
 oo 122 (.load (some 4) (.t 121)),
 ⟨none, .store (some 4) (.t 2) (.t 122), none⟩,
 oo 3 (.mov (.c (.bool true)))])
 (.ret)))))))
 [.cell 2 (some 4), .t 3]
set_option maxRecDepth 100000 in
theorem xw : bL Try.prog 13 xu = true := by kernel_rfl
def xx : bB :=
 (.seq (.seq (.ops false [
 oo 5 (.mov (.t 4)),
 oo 6 (.faddr 3 (.t 1)),
 oo 7 (.ldI none (.t 6)),
 oo 8 (.len (.t 7)),
 oo 9 (.bin .lss (.t 5) (.t 8))])
 (.cond (.t 9)
 (.skip)
 (.exit 0)))
 (.seq (.block 1 (.ops false [
 oo 12 (.mov (.t 3)),
 oo 13 (.faddr 3 (.t 1)),
 oo 14 (.ldI none (.t 13)),
 oo 15 (.mov (.t 4)),
 oo 16 (.iaddr (some 4) (.t 14) (.t 15)),
 oo 17 (.load (some 4) (.t 16)),
 oo 18 (.call false 52 [(.t 17)]),
 oo 19 (.bin .add (.t 12) (.t 18)),
 oo 3 (.mov (.t 19))]))
 (.ops false [
 oo 10 (.mov (.t 4)),
 oo 11 (.bin .add (.t 10) (ci 1)),
 oo 4 (.mov (.t 11))])))
def xy : bH := .mk 21
 (.seq (.ops false [
 oo 1 (.box (some 4) (.t 0) true),
 oo 2 (.mov (ci 0))])
 (.seq (.ops false [
 oo 3 (.mov (ci 1))])
 (.seq (.seq (.ops false [
 oo 4 (.mov (ci 0))])
 (.block 0 (.loop xx)))
 (.seq (.ops false [
 oo 20 (.mov (.t 3)),
 oo 2 (.mov (.t 20))])
 (.ret)))))
 [.t 2]
set_option maxRecDepth 100000 in
theorem xz : bL Try.prog 52 xy = true := by kernel_rfl
def xA : bB :=
 (.seq (.seq (.ops false [
 oo 5 (.mov (.t 4)),
 oo 6 (.faddr 3 (.t 1)),
 oo 7 (.ldI none (.t 6)),
 oo 8 (.len (.t 7)),
 oo 9 (.bin .lss (.t 5) (.t 8))])
 (.cond (.t 9)
 (.skip)
 (.exit 0)))
 (.seq (.block 1 (.ops false [
 oo 12 (.mov (.t 3)),
 oo 13 (.faddr 3 (.t 1)),
 oo 14 (.ldI none (.t 13)),
 oo 15 (.mov (.t 4)),
 oo 16 (.iaddr (some 4) (.t 14) (.t 15)),
 oo 17 (.load (some 4) (.t 16)),
 oo 18 (.call false 53 [(.t 17)]),
 oo 19 (.max2 (.t 12) (.t 18)),
 oo 3 (.mov (.t 19))]))
 (.ops false [
 oo 10 (.mov (.t 4)),
 oo 11 (.bin .add (.t 10) (ci 1)),
 oo 4 (.mov (.t 11))])))
def a53 : bH := .mk 22
 (.seq (.ops false [
 oo 1 (.box (some 4) (.t 0) true),
 oo 2 (.mov (ci 0))])
 (.seq (.ops false [
 oo 3 (.mov (ci 0))])
 (.seq (.seq (.ops false [
 oo 4 (.mov (ci 0))])
 (.block 0 (.loop xA)))
 (.seq (.ops false [
 oo 20 (.mov (.t 3)),
 oo 21 (.bin .add (.t 20) (ci 1)),
 oo 2 (.mov (.t 21))])
 (.ret)))))
 [.t 2]
set_option maxRecDepth 100000 in
theorem xB : bL Try.prog 53 a53 = true := by kernel_rfl
def xC : bB :=
 (.seq (.seq (.ops false [
 oo 25 (.mov (.t 3)),
 oo 26 (.faddr 3 (.t 1)),
 oo 27 (.ldI none (.t 26)),
 oo 28 (.len (.t 27)),
 oo 29 (.bin .lss (.t 25) (.t 28))])
 (.cond (.t 29)
 (.skip)
 (.exit 0)))
 (.seq (.block 1 (.seq (.ops false [
 oo 32 (.faddr 3 (.t 1)),
 oo 33 (.ldI none (.t 32)),
 oo 34 (.mov (.t 3)),
 oo 35 (.iaddr (some 4) (.t 33) (.t 34)),
 oo 36 (.load (some 4) (.t 35)),
 oo 37 (.call false 22 [(.t 36)]),
 oo 38 (.un .not (.t 37))])
 (.cond (.t 38)
 (.seq (.ops false [
 oo 2 (.mov (.c (.bool false)))])
 (.ret))
 (.skip))))
 (.ops false [
 oo 30 (.mov (.t 3)),
 oo 31 (.bin .add (.t 30) (ci 1)),
 oo 3 (.mov (.t 31))])))
def a22 : bH := .mk 39
 (.seq (.ops false [
 oo 1 (.box (some 4) (.t 0) true),
 oo 2 (.mov (.c (.bool false)))])
 (.seq (.seq (.ops false [
 oo 4 (.faddr 0 (.t 1)),
 oo 5 (.ldI none (.t 4)),
 oo 6 (.bin .eql (.t 5) (ci 5)),
 oo 7 (.mov (.t 6)),
 ⟨some 8, .faddr 0 (.t 1), some (7, false)⟩,
 ⟨some 9, .ldI none (.t 8), some (7, false)⟩,
 ⟨some 10, .bin .lss (.t 9) (ci 0), some (7, false)⟩,
 oo 11 (.pick (.t 7) (.c (.bool true)) (.t 10)),
 oo 12 (.mov (.t 11)),
 ⟨some 13, .faddr 0 (.t 1), some (12, false)⟩,
 ⟨some 14, .ldI none (.t 13), some (12, false)⟩,
 ⟨some 15, .bin .gtr (.t 14) (ci 7), some (12, false)⟩,
 oo 16 (.pick (.t 12) (.c (.bool true)) (.t 15))])
 (.cond (.t 16)
 (.seq (.ops false [
 oo 2 (.mov (.c (.bool false)))])
 (.ret))
 (.skip)))
 (.seq (.seq (.ops false [
 oo 17 (.faddr 0 (.t 1)),
 oo 18 (.ldI none (.t 17)),
 oo 19 (.bin .eql (.t 18) (ci 6)),
 oo 20 (.mov (.t 19)),
 ⟨some 21, .faddr 0 (.t 1), some (20, false)⟩,
 ⟨some 22, .ldI none (.t 21), some (20, false)⟩,
 ⟨some 23, .bin .eql (.t 22) (ci 7), some (20, false)⟩,
 oo 24 (.pick (.t 20) (.c (.bool true)) (.t 23))])
 (.cond (.t 24)
 (.seq (.ops false [
 oo 3 (.mov (ci 0))])
 (.block 0 (.loop xC)))
 (.skip)))
 (.seq (.ops false [
 oo 2 (.mov (.c (.bool true)))])
 (.ret)))))
 [.t 2]
set_option maxRecDepth 100000 in
theorem xD : bL Try.prog 22 a22 = true := by kernel_rfl
def xE : bB :=
 (.seq (.seq (.ops false [
 oo 114 (.mov (.t 6)),
 oo 115 (.mov (.t 5)),
 oo 116 (.bin .lss (.t 114) (.t 115))])
 (.cond (.t 116)
 (.skip)
 (.exit 1)))
 (.seq (.block 2 (.seq (.ops false [
 oo 119 (.faddr 3 (.t 2)),
 oo 120 (.ldI none (.t 119)),
 oo 121 (.mov (.t 6)),
 oo 122 (.iaddr (some 4) (.t 120) (.t 121)),
 oo 123 (.load (some 4) (.t 122)),
 oo 124 (.mov (.t 1)),
 oo 125 (.call false 82 [(.t 123), (.t 124)]),
 oo 126 (.un .not (.t 125))])
 (.cond (.t 126)
 (.seq (.ops false [
 oo 4 (.mov (.c (.bool false)))])
 (.ret))
 (.skip))))
 (.ops false [
 oo 117 (.mov (.t 6)),
 oo 118 (.bin .add (.t 117) (ci 1)),
 oo 6 (.mov (.t 118))])))
def xF : bH := .mk 127
 (.seq (.ops false [
 oo 2 (.box (some 4) (.t 0) true),
 oo 4 (.mov (.c (.bool false)))])
 (.seq (.ops false [
 oo 7 (.faddr 3 (.t 2)),
 oo 8 (.ldI none (.t 7)),
 oo 9 (.len (.t 8)),
 oo 5 (.mov (.t 9))])
 (.seq (.seq (.ops false [
 oo 10 (.faddr 0 (.t 2)),
 oo 11 (.ldI none (.t 10))])
 (.block 0 (.seq (.seq (.ops false [
 oo 13 (.bin .eql (.t 11) (ci 0)),
 oo 12 (.mov (.t 13))])
 (.cond (.t 12)
 (.skip)
 (.ops false [
 oo 14 (.bin .eql (.t 11) (ci 1)),
 oo 12 (.mov (.t 14))])))
 (.cond (.t 12)
 (.seq (.ops false [
 oo 15 (.mov (.t 5)),
 oo 16 (.bin .eql (.t 15) (ci 0)),
 oo 17 (.mov (.t 16)),
 ⟨some 18, .faddr 1 (.t 2), some (17, true)⟩,
 ⟨some 19, .ldI none (.t 18), some (17, true)⟩,
 ⟨some 20, .bin .eql (.t 19) (ci 0), some (17, true)⟩,
 oo 21 (.pick (.t 17) (.t 20) (.c (.bool false))),
 oo 22 (.mov (.t 21)),
 ⟨some 23, .faddr 2 (.t 2), some (22, true)⟩,
 ⟨some 24, .ldI none (.t 23), some (22, true)⟩,
 ⟨some 25, .bin .eql (.t 24) (.c (.int .u16 0)), some (22, true)⟩,
 oo 26 (.pick (.t 22) (.t 25) (.c (.bool false))),
 oo 4 (.mov (.t 26))])
 (.ret))
 (.seq (.ops false [
 oo 28 (.bin .eql (.t 11) (ci 2)),
 oo 27 (.mov (.t 28))])
 (.cond (.t 27)
 (.seq (.ops false [
 oo 29 (.mov (.t 5)),
 oo 30 (.bin .eql (.t 29) (ci 0)),
 oo 31 (.mov (.t 30)),
 ⟨some 32, .faddr 1 (.t 2), some (31, true)⟩,
 ⟨some 33, .ldI none (.t 32), some (31, true)⟩,
 ⟨some 34, .bin .geq (.t 33) (ci 0), some (31, true)⟩,
 oo 35 (.pick (.t 31) (.t 34) (.c (.bool false))),
 oo 36 (.mov (.t 35)),
 ⟨some 37, .faddr 1 (.t 2), some (36, true)⟩,
 ⟨some 38, .ldI none (.t 37), some (36, true)⟩,
 ⟨some 39, .bin .lss (.t 38) (ci 8), some (36, true)⟩,
 oo 40 (.pick (.t 36) (.t 39) (.c (.bool false))),
 oo 4 (.mov (.t 40))])
 (.ret))
 (.seq (.ops false [
 oo 42 (.bin .eql (.t 11) (ci 3)),
 oo 41 (.mov (.t 42))])
 (.cond (.t 41)
 (.seq (.ops false [
 oo 43 (.mov (.t 5)),
 oo 44 (.bin .eql (.t 43) (ci 0)),
 oo 45 (.mov (.t 44)),
 ⟨some 46, .faddr 1 (.t 2), some (45, true)⟩,
 ⟨some 47, .ldI none (.t 46), some (45, true)⟩,
 ⟨some 48, .bin .geq (.t 47) (ci 0), some (45, true)⟩,
 oo 49 (.pick (.t 45) (.t 48) (.c (.bool false))),
 oo 50 (.mov (.t 49)),
 ⟨some 51, .faddr 1 (.t 2), some (50, true)⟩,
 ⟨some 52, .ldI none (.t 51), some (50, true)⟩,
 ⟨some 53, .mov (.t 1), some (50, true)⟩,
 ⟨some 54, .bin .lss (.t 52) (.t 53), some (50, true)⟩,
 oo 55 (.pick (.t 50) (.t 54) (.c (.bool false))),
 oo 4 (.mov (.t 55))])
 (.ret))
 (.seq (.ops false [
 oo 57 (.bin .eql (.t 11) (ci 5)),
 oo 56 (.mov (.t 57))])
 (.cond (.t 56)
 (.seq (.ops false [
 oo 58 (.mov (.t 5)),
 oo 59 (.bin .eql (.t 58) (ci 0)),
 oo 60 (.mov (.t 59)),
 ⟨some 61, .faddr 1 (.t 2), some (60, true)⟩,
 ⟨some 62, .ldI none (.t 61), some (60, true)⟩,
 ⟨some 63, .bin .geq (.t 62) (ci 1), some (60, true)⟩,
 oo 64 (.pick (.t 60) (.t 63) (.c (.bool false))),
 oo 65 (.mov (.t 64)),
 ⟨some 66, .faddr 1 (.t 2), some (65, true)⟩,
 ⟨some 67, .ldI none (.t 66), some (65, true)⟩,
 ⟨some 68, .bin .lss (.t 67) (ci 8), some (65, true)⟩,
 oo 69 (.pick (.t 65) (.t 68) (.c (.bool false))),
 oo 4 (.mov (.t 69))])
 (.ret))
 (.seq (.ops false [
 oo 71 (.bin .eql (.t 11) (ci 4)),
 oo 70 (.mov (.t 71))])
 (.cond (.t 70)
 (.seq (.ops false [
 oo 72 (.mov (.t 5)),
 oo 73 (.bin .eql (.t 72) (ci 1)),
 oo 74 (.mov (.t 73)),
 ⟨some 75, .faddr 1 (.t 2), some (74, true)⟩,
 ⟨some 76, .ldI none (.t 75), some (74, true)⟩,
 ⟨some 77, .bin .eql (.t 76) (ci 0), some (74, true)⟩,
 oo 78 (.pick (.t 74) (.t 77) (.c (.bool false))),
 oo 79 (.mov (.t 78)),
 ⟨some 80, .faddr 2 (.t 2), some (79, true)⟩,
 ⟨some 81, .ldI none (.t 80), some (79, true)⟩,
 ⟨some 82, .bin .eql (.t 81) (.c (.int .u16 0)), some (79, true)⟩,
 oo 83 (.pick (.t 79) (.t 82) (.c (.bool false))),
 oo 84 (.mov (.t 83)),
 ⟨some 85, .faddr 3 (.t 2), some (84, true)⟩,
 ⟨some 86, .ldI none (.t 85), some (84, true)⟩,
 ⟨some 87, .iaddr (some 4) (.t 86) (ci 0), some (84, true)⟩,
 ⟨some 88, .load (some 4) (.t 87), some (84, true)⟩,
 ⟨some 89, .call false 22 [(.t 88)], some (84, true)⟩,
 oo 90 (.pick (.t 84) (.t 89) (.c (.bool false))),
 oo 91 (.mov (.t 90)),
 ⟨some 92, .faddr 3 (.t 2), some (91, true)⟩,
 ⟨some 93, .ldI none (.t 92), some (91, true)⟩,
 ⟨some 94, .iaddr (some 4) (.t 93) (ci 0), some (91, true)⟩,
 ⟨some 95, .load (some 4) (.t 94), some (91, true)⟩,
 ⟨some 96, .mov (.t 1), some (91, true)⟩,
 ⟨some 97, .call false 82 [(.t 95), (.t 96)], some (91, true)⟩,
 oo 98 (.pick (.t 91) (.t 97) (.c (.bool false))),
 oo 4 (.mov (.t 98))])
 (.ret))
 (.seq (.seq (.ops false [
 oo 100 (.bin .eql (.t 11) (ci 6)),
 oo 99 (.mov (.t 100))])
 (.cond (.t 99)
 (.skip)
 (.ops false [
 oo 101 (.bin .eql (.t 11) (ci 7)),
 oo 99 (.mov (.t 101))])))
 (.cond (.t 99)
 (.seq (.seq (.ops false [
 oo 102 (.mov (.t 5)),
 oo 103 (.bin .lss (.t 102) (ci 2)),
 oo 104 (.mov (.t 103)),
 ⟨some 105, .faddr 1 (.t 2), some (104, false)⟩,
 ⟨some 106, .ldI none (.t 105), some (104, false)⟩,
 ⟨some 107, .bin .neq (.t 106) (ci 0), some (104, false)⟩,
 oo 108 (.pick (.t 104) (.c (.bool true)) (.t 107)),
 oo 109 (.mov (.t 108)),
 ⟨some 110, .faddr 2 (.t 2), some (109, false)⟩,
 ⟨some 111, .ldI none (.t 110), some (109, false)⟩,
 ⟨some 112, .bin .neq (.t 111) (.c (.int .u16 0)), some (109, false)⟩,
 oo 113 (.pick (.t 109) (.c (.bool true)) (.t 112))])
 (.cond (.t 113)
 (.seq (.ops false [
 oo 4 (.mov (.c (.bool false)))])
 (.ret))
 (.skip)))
 (.seq (.seq (.ops false [
 oo 6 (.mov (ci 0))])
 (.block 1 (.loop xE)))
 (.seq (.ops false [
 oo 4 (.mov (.c (.bool true)))])
 (.ret))))
 (.skip)))))))))))))))
 (.seq (.ops false [
 oo 4 (.mov (.c (.bool false)))])
 (.ret)))))
 [.t 4]
set_option maxRecDepth 100000 in
theorem xG : bL Try.prog 82 xF = true := by kernel_rfl
def xH : bB :=
 (.seq (.seq (.ops false [
 oo 6 (.mov (.t 5)),
 oo 7 (.mov (.t 0)),
 oo 8 (.len (.t 7)),
 oo 9 (.bin .lss (.t 6) (.t 8))])
 (.cond (.t 9)
 (.skip)
 (.exit 0)))
 (.seq (.block 1 (.seq (.ops true [
 oo 12 (.mov (.t 0)),
 oo 13 (.mov (.t 5)),
 oo 14 (.iaddr (some 2) (.t 12) (.t 13)),
 oo 15 (.faddr 0 (.t 14)),
 oo 16 (.load none (.t 15)),
 oo 17 (.bin .lss (.t 16) (ci 0)),
 oo 18 (.mov (.t 17)),
 ⟨some 19, .mov (.t 0), some (18, false)⟩,
 ⟨some 20, .mov (.t 5), some (18, false)⟩,
 ⟨some 21, .iaddr (some 2) (.t 19) (.t 20), some (18, false)⟩,
 ⟨some 22, .faddr 0 (.t 21), some (18, false)⟩,
 ⟨some 23, .load none (.t 22), some (18, false)⟩,
 ⟨some 24, .mov (.t 1), some (18, false)⟩,
 ⟨some 25, .bin .geq (.t 23) (.t 24), some (18, false)⟩,
 oo 26 (.pick (.t 18) (.c (.bool true)) (.t 25)),
 oo 27 (.mov (.t 26)),
 ⟨some 28, .mov (.t 5), some (27, false)⟩,
 ⟨some 29, .bin .gtr (.t 28) (ci 0), some (27, false)⟩,
 ⟨some 30, .mov (.t 29), some (27, false)⟩,
 ⟨some 31, .mov (.t 0), some (30, true)⟩,
 ⟨some 32, .mov (.t 5), some (30, true)⟩,
 ⟨some 33, .bin .sub (.t 32) (ci 1), some (30, true)⟩,
 ⟨some 34, .iaddr (some 2) (.t 31) (.t 33), some (30, true)⟩,
 ⟨some 35, .faddr 0 (.t 34), some (30, true)⟩,
 ⟨some 36, .load none (.t 35), some (30, true)⟩,
 ⟨some 37, .mov (.t 0), some (30, true)⟩,
 ⟨some 38, .mov (.t 5), some (30, true)⟩,
 ⟨some 39, .iaddr (some 2) (.t 37) (.t 38), some (30, true)⟩,
 ⟨some 40, .faddr 0 (.t 39), some (30, true)⟩,
 ⟨some 41, .load none (.t 40), some (30, true)⟩,
 ⟨some 42, .bin .geq (.t 36) (.t 41), some (30, true)⟩,
 ⟨some 43, .pick (.t 30) (.t 42) (.c (.bool false)), some (27, false)⟩,
 oo 44 (.pick (.t 27) (.c (.bool true)) (.t 43))])
 (.cond (.t 44)
 (.seq (.ops false [
 oo 4 (.mov (.c (.bool false)))])
 (.ret))
 (.skip))))
 (.ops false [
 oo 10 (.mov (.t 5)),
 oo 11 (.bin .add (.t 10) (ci 1)),
 oo 5 (.mov (.t 11))])))
def xI : bH := .mk 45
 (.seq (.ops false [
 oo 4 (.mov (.c (.bool false)))])
 (.seq (.seq (.ops false [
 oo 5 (.mov (ci 0))])
 (.block 0 (.loop xH)))
 (.seq (.ops false [
 oo 4 (.mov (.c (.bool true)))])
 (.ret))))
 [.t 4]
set_option maxRecDepth 100000 in
theorem xJ : bL Try.prog 83 xI = true := by kernel_rfl
def xK : bB :=
 (.seq (.seq (.ops false [
 oo 40 (.mov (.t 3)),
 oo 41 (.faddr 5 (.t 1)),
 oo 42 (.ldI none (.t 41)),
 oo 43 (.len (.t 42)),
 oo 44 (.bin .lss (.t 40) (.t 43))])
 (.cond (.t 44)
 (.skip)
 (.exit 0)))
 (.seq (.block 1 (.seq (.ops false [
 oo 47 (.faddr 5 (.t 1)),
 oo 48 (.ldI none (.t 47)),
 oo 49 (.mov (.t 3)),
 oo 50 (.iaddr (some 3) (.t 48) (.t 49)),
 oo 51 (.load (some 3) (.t 50)),
 oo 4 (.alloc [.vec (some 2) [], .vec (some 2) [], .vec (some 2) []]),
 ⟨none, .store (some 3) (.t 4) (.t 51), none⟩])
 (.seq (.ops false [
 oo 52 (.faddr 0 (.t 4)),
 oo 53 (.load none (.t 52)),
 oo 54 (.len (.t 53)),
 oo 55 (.bin .lss (.t 54) (ci 2)),
 oo 56 (.mov (.t 55)),
 ⟨some 57, .faddr 0 (.t 4), some (56, false)⟩,
 ⟨some 58, .load none (.t 57), some (56, false)⟩,
 ⟨some 59, .iaddr (some 2) (.t 58) (ci 0), some (56, false)⟩,
 ⟨some 60, .faddr 0 (.t 59), some (56, false)⟩,
 ⟨some 61, .load none (.t 60), some (56, false)⟩,
 ⟨some 62, .bin .neq (.t 61) (ci 0), some (56, false)⟩,
 oo 63 (.pick (.t 56) (.c (.bool true)) (.t 62)),
 oo 64 (.mov (.t 63)),
 ⟨some 65, .faddr 0 (.t 4), some (64, false)⟩,
 ⟨some 66, .load none (.t 65), some (64, false)⟩,
 ⟨some 67, .iaddr (some 2) (.t 66) (ci 1), some (64, false)⟩,
 ⟨some 68, .faddr 0 (.t 67), some (64, false)⟩,
 ⟨some 69, .load none (.t 68), some (64, false)⟩,
 ⟨some 70, .bin .neq (.t 69) (ci 1), some (64, false)⟩,
 oo 71 (.pick (.t 64) (.c (.bool true)) (.t 70)),
 oo 72 (.mov (.t 71)),
 ⟨some 73, .faddr 0 (.t 4), some (72, false)⟩,
 ⟨some 74, .load none (.t 73), some (72, false)⟩,
 ⟨some 75, .call false 83 [(.t 74), (ci 8)], some (72, false)⟩,
 ⟨some 76, .un .not (.t 75), some (72, false)⟩,
 oo 77 (.pick (.t 72) (.c (.bool true)) (.t 76)),
 oo 78 (.mov (.t 77)),
 ⟨some 79, .faddr 1 (.t 4), some (78, false)⟩,
 ⟨some 80, .load none (.t 79), some (78, false)⟩,
 ⟨some 81, .faddr 0 (.t 1), some (78, false)⟩,
 ⟨some 82, .ldI none (.t 81), some (78, false)⟩,
 ⟨some 83, .len (.t 82), some (78, false)⟩,
 ⟨some 84, .call false 83 [(.t 80), (.t 83)], some (78, false)⟩,
 ⟨some 85, .un .not (.t 84), some (78, false)⟩,
 oo 86 (.pick (.t 78) (.c (.bool true)) (.t 85)),
 oo 87 (.mov (.t 86)),
 ⟨some 88, .faddr 2 (.t 4), some (87, false)⟩,
 ⟨some 89, .load none (.t 88), some (87, false)⟩,
 ⟨some 90, .faddr 0 (.t 1), some (87, false)⟩,
 ⟨some 91, .ldI none (.t 90), some (87, false)⟩,
 ⟨some 92, .len (.t 91), some (87, false)⟩,
 ⟨some 93, .call false 83 [(.t 89), (.t 92)], some (87, false)⟩,
 ⟨some 94, .un .not (.t 93), some (87, false)⟩,
 oo 95 (.pick (.t 87) (.c (.bool true)) (.t 94)),
 oo 96 (.mov (.t 95)),
 ⟨some 97, .faddr 2 (.t 4), some (96, false)⟩,
 ⟨some 98, .load none (.t 97), some (96, false)⟩,
 ⟨some 99, .len (.t 98), some (96, false)⟩,
 ⟨some 100, .bin .eql (.t 99) (ci 0), some (96, false)⟩,
 oo 101 (.pick (.t 96) (.c (.bool true)) (.t 100))])
 (.cond (.t 101)
 (.seq (.ops false [
 oo 2 (.mov (ci 11))])
 (.ret))
 (.skip)))))
 (.ops false [
 oo 45 (.mov (.t 3)),
 oo 46 (.bin .add (.t 45) (ci 1)),
 oo 3 (.mov (.t 46))])))
def xL : bH := .mk 102
 (.seq (.ops false [
 oo 1 (.box (some 6) (.t 0) true),
 oo 2 (.mov (ci 0))])
 (.seq (.seq (.ops false [
 oo 5 (.faddr 0 (.t 1)),
 oo 6 (.ldI none (.t 5)),
 oo 7 (.len (.t 6)),
 oo 8 (.bin .lss (.t 7) (ci 1)),
 oo 9 (.mov (.t 8)),
 ⟨some 10, .faddr 0 (.t 1), some (9, false)⟩,
 ⟨some 11, .ldI none (.t 10), some (9, false)⟩,
 ⟨some 12, .len (.t 11), some (9, false)⟩,
 ⟨some 13, .bin .gtr (.t 12) (ci 4), some (9, false)⟩,
 oo 14 (.pick (.t 9) (.c (.bool true)) (.t 13)),
 oo 15 (.mov (.t 14)),
 ⟨some 16, .faddr 1 (.t 1), some (15, false)⟩,
 ⟨some 17, .ldI (some 4) (.t 16), some (15, false)⟩,
 ⟨some 18, .call false 52 [(.t 17)], some (15, false)⟩,
 ⟨some 19, .bin .gtr (.t 18) (ci 300), some (15, false)⟩,
 oo 20 (.pick (.t 15) (.c (.bool true)) (.t 19)),
 oo 21 (.mov (.t 20)),
 ⟨some 22, .faddr 1 (.t 1), some (21, false)⟩,
 ⟨some 23, .ldI (some 4) (.t 22), some (21, false)⟩,
 ⟨some 24, .call false 53 [(.t 23)], some (21, false)⟩,
 ⟨some 25, .bin .gtr (.t 24) (ci 20), some (21, false)⟩,
 oo 26 (.pick (.t 21) (.c (.bool true)) (.t 25)),
 oo 27 (.mov (.t 26)),
 ⟨some 28, .faddr 5 (.t 1), some (27, false)⟩,
 ⟨some 29, .ldI none (.t 28), some (27, false)⟩,
 ⟨some 30, .len (.t 29), some (27, false)⟩,
 ⟨some 31, .bin .gtr (.t 30) (ci 24), some (27, false)⟩,
 oo 32 (.pick (.t 27) (.c (.bool true)) (.t 31))])
 (.cond (.t 32)
 (.seq (.ops false [
 oo 2 (.mov (ci 2))])
 (.ret))
 (.skip)))
 (.seq (.seq (.ops false [
 oo 33 (.faddr 1 (.t 1)),
 oo 34 (.ldI (some 4) (.t 33)),
 oo 35 (.faddr 0 (.t 1)),
 oo 36 (.ldI none (.t 35)),
 oo 37 (.len (.t 36)),
 oo 38 (.call false 82 [(.t 34), (.t 37)]),
 oo 39 (.un .not (.t 38))])
 (.cond (.t 39)
 (.seq (.ops false [
 oo 2 (.mov (ci 11))])
 (.ret))
 (.skip)))
 (.seq (.seq (.ops false [
 oo 3 (.mov (ci 0))])
 (.block 0 (.loop xK)))
 (.seq (.ops false [
 oo 2 (.mov (ci 0))])
 (.ret))))))
 [.t 2]
set_option maxRecDepth 100000 in
theorem xM : bL Try.prog 56 xL = true := by kernel_rfl
def xN : bH := .mk 8
 (.seq (.ops false [
 oo 1 (.box (some 4) (.t 0) true),
 oo 2 (.mov (.c (.bool false)))])
 (.seq (.ops true [
 oo 3 (.mkslF none (.int .u16 0) (ci 4) (ci 4)),
 oo 4 (.ldI (some 4) (.t 1)),
 oo 5 (.build [.vec none [], .int .i64 0, .int .i64 0, .int .u16 0, .vec (some 4) [], .vec (some 3) []] [(0, 1, (.t 3)), (1, 4, (.t 4))]),
 oo 6 (.call false 56 [(.t 5)]),
 oo 7 (.bin .eql (.t 6) (ci 0)),
 oo 2 (.mov (.t 7))])
 (.ret)))
 [.t 2]
set_option maxRecDepth 100000 in
theorem xO : bL Try.prog 27 xN = true := by kernel_rfl
def xP : bB :=
 (.seq (.seq (.ops false [
 oo 11 (.mov (.t 5)),
 oo 12 (.mov (.t 0)),
 oo 13 (.len (.t 12)),
 oo 14 (.bin .lss (.t 11) (.t 13))])
 (.cond (.t 14)
 (.skip)
 (.exit 0)))
 (.seq (.block 1 (.seq (.ops true [
 oo 17 (.mov (.t 0)),
 oo 18 (.mov (.t 5)),
 oo 19 (.iaddr (some 8) (.t 17) (.t 18)),
 oo 20 (.load (some 8) (.t 19)),
 oo 21 (.mov (.t 1)),
 oo 22 (.mov (.t 5)),
 oo 23 (.iaddr (some 8) (.t 21) (.t 22)),
 oo 24 (.load (some 8) (.t 23)),
 oo 25 (.eqS true [.int, .int, .int, .int, .int, .int, .int, .int] (.t 20) (.t 24))])
 (.cond (.t 25)
 (.seq (.ops false [
 oo 4 (.mov (.c (.bool false)))])
 (.ret))
 (.skip))))
 (.ops false [
 oo 15 (.mov (.t 5)),
 oo 16 (.bin .add (.t 15) (ci 1)),
 oo 5 (.mov (.t 16))])))
def xQ : bH := .mk 26
 (.seq (.ops false [
 oo 4 (.mov (.c (.bool false)))])
 (.seq (.seq (.ops false [
 oo 6 (.mov (.t 0)),
 oo 7 (.len (.t 6)),
 oo 8 (.mov (.t 1)),
 oo 9 (.len (.t 8)),
 oo 10 (.bin .neq (.t 7) (.t 9))])
 (.cond (.t 10)
 (.seq (.ops false [
 oo 4 (.mov (.c (.bool false)))])
 (.ret))
 (.skip)))
 (.seq (.seq (.ops false [
 oo 5 (.mov (ci 0))])
 (.block 0 (.loop xP)))
 (.seq (.ops false [
 oo 4 (.mov (.c (.bool true)))])
 (.ret)))))
 [.t 4]
set_option maxRecDepth 100000 in
theorem xR : bL Try.prog 16 xQ = true := by kernel_rfl
def a3 : bH := .mk 63
 (.seq (.ops false [
 oo 5 (.box (some 8) (.t 2) true),
 oo 6 (.mov (.c (.bool false)))])
 (.seq (.seq (.ops false [
 oo 13 (.call false 12 []),
 oo 14 (.un .not (.t 13))])
 (.cond (.t 14)
 (.seq (.ops false [
 oo 6 (.mov (.c (.bool false)))])
 (.ret))
 (.skip)))
 (.seq (.ops false [
 oo 16 (.mov (.t 0)),
 oo 17 (.call false 13 [(.t 16)]),
 oo 15 (.mov (.t 17)),
 oo 18 (.extract (.t 15) 0),
 oo 19 (.extract (.t 15) 1),
 oo 7 (.alloc [.int .i64 0, .int .i64 0, .int .u16 0, .vec (some 4) []]),
 ⟨none, .store (some 4) (.t 7) (.t 18), none⟩,
 oo 8 (.mov (.t 19))])
 (.seq (.seq (.ops false [
 oo 20 (.mov (.t 8)),
 oo 21 (.un .not (.t 20)),
 oo 22 (.mov (.t 21)),
 ⟨some 23, .mov (.t 1), some (22, false)⟩,
 ⟨some 24, .len (.t 23), some (22, false)⟩,
 ⟨some 25, .bin .gtr (.t 24) (ci 6), some (22, false)⟩,
 oo 26 (.pick (.t 22) (.c (.bool true)) (.t 25))])
 (.cond (.t 26)
 (.seq (.ops false [
 oo 6 (.mov (.c (.bool true)))])
 (.ret))
 (.skip)))
 (.seq (.ops false [
 oo 28 (.load (some 4) (.t 7)),
 oo 29 (.mov (.t 1)),
 oo 30 (.ldI (some 8) (.t 5)),
 oo 31 (.call false 14 [(.t 28), (.t 29), (.t 30)]),
 oo 27 (.mov (.t 31)),
 oo 32 (.extract (.t 27) 0),
 oo 33 (.extract (.t 27) 1),
 oo 9 (.mov (.t 32)),
 oo 10 (.mov (.t 33))])
 (.seq (.ops false [
 oo 35 (.load (some 4) (.t 7)),
 oo 36 (.mov (.t 1)),
 oo 37 (.ldI (some 8) (.t 5)),
 oo 38 (.call false 15 [(.t 35), (.t 36), (.t 37)]),
 oo 34 (.mov (.t 38)),
 oo 39 (.extract (.t 34) 0),
 oo 40 (.extract (.t 34) 1),
 oo 11 (.mov (.t 39)),
 oo 12 (.mov (.t 40))])
 (.seq (.ops false [
 oo 41 (.mov (.t 10)),
 oo 42 (.mov (.t 12)),
 oo 43 (.bin .eql (.t 41) (.t 42)),
 oo 44 (.mov (.t 43)),
 ⟨some 45, .mov (.t 9), some (44, true)⟩,
 ⟨some 46, .mov (.t 11), some (44, true)⟩,
 ⟨some 47, .call false 16 [(.t 45), (.t 46)], some (44, true)⟩,
 oo 48 (.pick (.t 44) (.t 47) (.c (.bool false))),
 oo 49 (.mov (.t 48)),
 ⟨some 50, .load (some 4) (.t 7), some (49, true)⟩,
 ⟨some 51, .mov (.t 1), some (49, true)⟩,
 ⟨some 52, .ldI (some 8) (.t 5), some (49, true)⟩,
 ⟨some 53, .call false 17 [(.t 50), (.t 51), (.t 52)], some (49, true)⟩,
 ⟨some 54, .mov (.t 12), some (49, true)⟩,
 ⟨some 55, .bin .eql (.t 54) (ci 0), some (49, true)⟩,
 ⟨some 56, .mov (.t 55), some (49, true)⟩,
 ⟨some 57, .mov (.t 11), some (56, true)⟩,
 ⟨some 58, .len (.t 57), some (56, true)⟩,
 ⟨some 59, .bin .gtr (.t 58) (ci 0), some (56, true)⟩,
 ⟨some 60, .pick (.t 56) (.t 59) (.c (.bool false)), some (49, true)⟩,
 ⟨some 61, .eqB false (.t 53) (.t 60), some (49, true)⟩,
 oo 62 (.pick (.t 49) (.t 61) (.c (.bool false))),
 oo 6 (.mov (.t 62))])
 (.ret))))))))
 [.t 6]
def xS : bB :=
 (.seq (.ops false [
 oo 8 (.bin .lss (.t 7) (.t 6))])
 (.seq (.cond (.t 8)
 (.skip)
 (.exit 0))
 (.seq (.block 1 (.seq (.ops false [
 oo 9 (.iaddr (some 4) (.t 5) (.t 7)),
 oo 10 (.load (some 4) (.t 9)),
 oo 4 (.alloc [.int .i64 0, .int .i64 0, .int .u16 0, .vec (some 4) []]),
 ⟨none, .store (some 4) (.t 4) (.t 10), none⟩])
 (.seq (.ops false [
 oo 11 (.load (some 4) (.t 4)),
 oo 12 (.call false 27 [(.t 11)]),
 oo 13 (.un .not (.t 12)),
 oo 14 (.mov (.t 13)),
 ⟨some 15, .load (some 4) (.t 4), some (14, false)⟩,
 ⟨some 16, .call false 52 [(.t 15)], some (14, false)⟩,
 ⟨some 17, .bin .gtr (.t 16) (ci 40), some (14, false)⟩,
 oo 18 (.pick (.t 14) (.c (.bool true)) (.t 17)),
 oo 19 (.mov (.t 18)),
 ⟨some 20, .load (some 4) (.t 4), some (19, false)⟩,
 ⟨some 21, .call false 53 [(.t 20)], some (19, false)⟩,
 ⟨some 22, .bin .gtr (.t 21) (ci 12), some (19, false)⟩,
 oo 23 (.pick (.t 19) (.c (.bool true)) (.t 22))])
 (.cond (.t 23)
 (.seq (.ops false [
 oo 2 (.mov (.c (.bool false)))])
 (.ret))
 (.skip)))))
 (.ops false [
 oo 24 (.bin .add (.t 7) (ci 1)),
 oo 7 (.mov (.t 24))]))))
def xT : bH := .mk 25
 (.seq (.ops false [
 oo 2 (.mov (.c (.bool false)))])
 (.seq (.seq (.ops false [
 oo 5 (.mov (.t 0)),
 oo 6 (.len (.t 5)),
 oo 7 (.mov (ci 0))])
 (.block 0 (.loop xS)))
 (.seq (.ops false [
 oo 2 (.mov (.c (.bool true)))])
 (.ret))))
 [.t 2]
set_option maxRecDepth 100000 in
theorem xU : bL Try.prog 18 xT = true := by kernel_rfl
def xV : bB :=
 (.seq (.ops false [
 oo 15 (.bin .lss (.t 14) (.t 13))])
 (.seq (.cond (.t 15)
 (.skip)
 (.exit 0))
 (.seq (.block 1 (.seq (.ops false [
 oo 16 (.mov (.t 14)),
 oo 17 (.iaddr (some 4) (.t 12) (.t 14)),
 oo 18 (.load (some 4) (.t 17)),
 oo 9 (.alloc [.int .i64 0, .int .i64 0, .int .u16 0, .vec (some 4) []]),
 oo 8 (.mov (.t 16)),
 ⟨none, .store (some 4) (.t 9) (.t 18), none⟩])
 (.seq (.ops false [
 oo 20 (.load (some 4) (.t 9)),
 oo 21 (.mov (.t 0)),
 oo 22 (.ldI (some 8) (.t 4)),
 oo 23 (.call false 14 [(.t 20), (.t 21), (.t 22)]),
 oo 19 (.mov (.t 23)),
 oo 24 (.extract (.t 19) 0),
 oo 25 (.extract (.t 19) 1),
 oo 10 (.mov (.t 24)),
 oo 11 (.mov (.t 25))])
 (.seq (.seq (.ops false [
 oo 26 (.mov (.t 11)),
 oo 27 (.bin .eql (.t 26) (ci 24))])
 (.cond (.t 27)
 (.seq (.ops false [
 oo 6 (.mov (.c (.bool true)))])
 (.ret))
 (.skip)))
 (.seq (.seq (.ops false [
 oo 28 (.mov (.t 11)),
 oo 29 (.bin .neq (.t 28) (ci 0)),
 oo 30 (.mov (.t 29)),
 ⟨some 31, .mov (.t 8), some (30, false)⟩,
 ⟨some 32, .bin .gtr (.t 31) (ci 0), some (30, false)⟩,
 ⟨some 33, .mov (.t 32), some (30, false)⟩,
 ⟨some 34, .mov (.t 10), some (33, true)⟩,
 ⟨some 35, .mov (.t 7), some (33, true)⟩,
 ⟨some 36, .call false 16 [(.t 34), (.t 35)], some (33, true)⟩,
 ⟨some 37, .un .not (.t 36), some (33, true)⟩,
 ⟨some 38, .pick (.t 33) (.t 37) (.c (.bool false)), some (30, false)⟩,
 oo 39 (.pick (.t 30) (.c (.bool true)) (.t 38))])
 (.cond (.t 39)
 (.seq (.ops false [
 oo 6 (.mov (.c (.bool false)))])
 (.ret))
 (.skip)))
 (.ops false [
 oo 40 (.mov (.t 10)),
 oo 7 (.mov (.t 40))]))))))
 (.ops false [
 oo 41 (.bin .add (.t 14) (ci 1)),
 oo 14 (.mov (.t 41))]))))
def xW : bH := .mk 42
 (.seq (.ops false [
 oo 4 (.box (some 8) (.t 1) true),
 oo 6 (.mov (.c (.bool false)))])
 (.seq (.ops false [
 oo 7 (.mov (.c (.vec (some 8) [])))])
 (.seq (.seq (.ops false [
 oo 12 (.mov (.t 2)),
 oo 13 (.len (.t 12)),
 oo 14 (.mov (ci 0))])
 (.block 0 (.loop xV)))
 (.seq (.ops false [
 oo 6 (.mov (.c (.bool true)))])
 (.ret)))))
 [.t 6]
set_option maxRecDepth 100000 in
theorem xX : bL Try.prog 19 xW = true := by kernel_rfl
def xY : bB :=
 (.seq (.ops false [
 oo 22 (.bin .lss (.t 21) (ci 3))])
 (.seq (.cond (.t 22)
 (.skip)
 (.exit 0))
 (.seq (.block 1 (.seq (.ops false [
 oo 23 (.mov (.t 21)),
 oo 8 (.mov (.t 23))])
 (.seq (.ops false [
 oo 25 (.mov (.t 8)),
 oo 26 (.iaddrA 3 none (.t 3) (.t 25)),
 oo 27 (.ldI none (.t 26)),
 oo 28 (.call false 13 [(.t 27)]),
 oo 24 (.mov (.t 28)),
 oo 29 (.extract (.t 24) 0),
 oo 30 (.extract (.t 24) 1),
 oo 9 (.alloc [.int .i64 0, .int .i64 0, .int .u16 0, .vec (some 4) []]),
 ⟨none, .store (some 4) (.t 9) (.t 29), none⟩,
 oo 10 (.mov (.t 30))])
 (.seq (.seq (.ops false [
 oo 31 (.mov (.t 10)),
 oo 32 (.un .not (.t 31)),
 oo 33 (.mov (.t 32)),
 ⟨some 34, .load (some 4) (.t 9), some (33, false)⟩,
 ⟨some 35, .bsliceI (some 4) [(.t 34)], some (33, false)⟩,
 ⟨some 36, .call false 18 [(.t 35)], some (33, false)⟩,
 ⟨some 37, .un .not (.t 36), some (33, false)⟩,
 oo 38 (.pick (.t 33) (.c (.bool true)) (.t 37))])
 (.cond (.t 38)
 (.seq (.ops false [
 oo 6 (.mov (.c (.bool true)))])
 (.ret))
 (.skip)))
 (.ops false [
 oo 39 (.mov (.t 8)),
 oo 40 (.load (some 4) (.t 9)),
 oo 41 (.iaddrA 3 (some 4) (.t 7) (.t 39)),
 ⟨none, .store (some 4) (.t 41) (.t 40), none⟩])))))
 (.ops false [
 oo 42 (.bin .add (.t 21) (ci 1)),
 oo 21 (.mov (.t 42))]))))
def a4 : bH := .mk 188
 (.seq (.ops false [
 oo 3 (.box (some 3) (.t 0) true),
 oo 5 (.box (some 8) (.t 2) true),
 oo 6 (.mov (.c (.bool false)))])
 (.seq (.seq (.ops false [
 oo 16 (.call false 12 []),
 oo 17 (.un .not (.t 16))])
 (.cond (.t 17)
 (.seq (.ops false [
 oo 6 (.mov (.c (.bool false)))])
 (.ret))
 (.skip)))
 (.seq (.seq (.ops false [
 oo 18 (.mov (.t 1)),
 oo 19 (.len (.t 18)),
 oo 20 (.bin .gtr (.t 19) (ci 6))])
 (.cond (.t 20)
 (.seq (.ops false [
 oo 6 (.mov (.c (.bool true)))])
 (.ret))
 (.skip)))
 (.seq (.ops false [
 oo 7 (.alloc [.int .i64 0, .int .i64 0, .int .u16 0, .vec (some 4) [], .int .i64 0, .int .i64 0, .int .u16 0, .vec (some 4) [], .int .i64 0, .int .i64 0, .int .u16 0, .vec (some 4) []])])
 (.seq (.seq (.ops false [
 oo 21 (.mov (ci 0))])
 (.block 0 (.loop xY)))
 (.seq (.opsS [(1, 6), (3, 6), (5, 6), (1, 7), (3, 7), (5, 7), (6, 7), (1, 8), (3, 8), (5, 8), (6, 8), (7, 8), (3, 9), (5, 9), (5, 10)] [
 oo 43 (.iaddrA 3 (some 4) (.t 7) (ci 0)),
 oo 44 (.load (some 4) (.t 43)),
 oo 45 (.iaddrA 3 (some 4) (.t 7) (ci 1)),
 oo 46 (.load (some 4) (.t 45)),
 oo 47 (.iaddrA 3 (some 4) (.t 7) (ci 2)),
 oo 48 (.load (some 4) (.t 47)),
 oo 11 (.alloc [.int .i64 0, .int .i64 0, .int .u16 0, .vec (some 4) []]),
 oo 12 (.alloc [.int .i64 0, .int .i64 0, .int .u16 0, .vec (some 4) []]),
 oo 13 (.alloc [.int .i64 0, .int .i64 0, .int .u16 0, .vec (some 4) []]),
 ⟨none, .store (some 4) (.t 11) (.t 44), none⟩,
 ⟨none, .store (some 4) (.t 12) (.t 46), none⟩,
 ⟨none, .store (some 4) (.t 13) (.t 48), none⟩])
 (.seq (.ops false [
 oo 49 (.build [.int .i64 0, .int .i64 0, .int .u16 0, .vec (some 4) []] [(0, 1, (ci 1))]),
 oo 50 (.build [.int .i64 0, .int .i64 0, .int .u16 0, .vec (some 4) []] []),
 oo 14 (.alloc [.int .i64 0, .int .i64 0, .int .u16 0, .vec (some 4) []]),
 oo 15 (.alloc [.int .i64 0, .int .i64 0, .int .u16 0, .vec (some 4) []]),
 ⟨none, .store (some 4) (.t 14) (.t 49), none⟩,
 ⟨none, .store (some 4) (.t 15) (.t 50), none⟩])
 (.seq (.ops true [
 oo 51 (.mov (.t 1)),
 oo 52 (.ldI (some 8) (.t 5)),
 oo 53 (.load (some 4) (.t 11)),
 oo 54 (.load (some 4) (.t 12)),
 oo 55 (.load (some 4) (.t 13)),
 oo 56 (.bsliceI (some 4) [(.t 54), (.t 55)]),
 oo 57 (.call false 20 [(.t 56)]),
 oo 58 (.bsliceI (some 4) [(.t 53), (.t 57)]),
 oo 59 (.call false 20 [(.t 58)]),
 oo 60 (.load (some 4) (.t 11)),
 oo 61 (.load (some 4) (.t 12)),
 oo 62 (.bsliceI (some 4) [(.t 60), (.t 61)]),
 oo 63 (.call false 20 [(.t 62)]),
 oo 64 (.load (some 4) (.t 13)),
 oo 65 (.bsliceI (some 4) [(.t 63), (.t 64)]),
 oo 66 (.call false 20 [(.t 65)]),
 oo 67 (.load (some 4) (.t 11)),
 oo 68 (.load (some 4) (.t 12)),
 oo 69 (.load (some 4) (.t 13)),
 oo 70 (.bsliceI (some 4) [(.t 67), (.t 68), (.t 69)]),
 oo 71 (.call false 20 [(.t 70)]),
 oo 72 (.load (some 4) (.t 13)),
 oo 73 (.load (some 4) (.t 12)),
 oo 74 (.load (some 4) (.t 11)),
 oo 75 (.bsliceI (some 4) [(.t 72), (.t 73), (.t 74)]),
 oo 76 (.call false 20 [(.t 75)]),
 oo 77 (.bsliceI (some 4) [(.t 59), (.t 66), (.t 71), (.t 76)]),
 oo 78 (.call false 19 [(.t 51), (.t 52), (.t 77)]),
 oo 79 (.mov (.t 78)),
 ⟨some 80, .mov (.t 1), some (79, true)⟩,
 ⟨some 81, .ldI (some 8) (.t 5), some (79, true)⟩,
 ⟨some 82, .load (some 4) (.t 11), some (79, true)⟩,
 ⟨some 83, .load (some 4) (.t 12), some (79, true)⟩,
 ⟨some 84, .load (some 4) (.t 13), some (79, true)⟩,
 ⟨some 85, .bsliceI (some 4) [(.t 83), (.t 84)], some (79, true)⟩,
 ⟨some 86, .call false 21 [(.t 85)], some (79, true)⟩,
 ⟨some 87, .bsliceI (some 4) [(.t 82), (.t 86)], some (79, true)⟩,
 ⟨some 88, .call false 21 [(.t 87)], some (79, true)⟩,
 ⟨some 89, .load (some 4) (.t 11), some (79, true)⟩,
 ⟨some 90, .load (some 4) (.t 12), some (79, true)⟩,
 ⟨some 91, .bsliceI (some 4) [(.t 89), (.t 90)], some (79, true)⟩,
 ⟨some 92, .call false 21 [(.t 91)], some (79, true)⟩,
 ⟨some 93, .load (some 4) (.t 13), some (79, true)⟩,
 ⟨some 94, .bsliceI (some 4) [(.t 92), (.t 93)], some (79, true)⟩,
 ⟨some 95, .call false 21 [(.t 94)], some (79, true)⟩,
 ⟨some 96, .load (some 4) (.t 11), some (79, true)⟩,
 ⟨some 97, .load (some 4) (.t 12), some (79, true)⟩,
 ⟨some 98, .load (some 4) (.t 13), some (79, true)⟩,
 ⟨some 99, .bsliceI (some 4) [(.t 96), (.t 97), (.t 98)], some (79, true)⟩,
 ⟨some 100, .call false 21 [(.t 99)], some (79, true)⟩,
 ⟨some 101, .bsliceI (some 4) [(.t 88), (.t 95), (.t 100)], some (79, true)⟩,
 ⟨some 102, .call false 19 [(.t 80), (.t 81), (.t 101)], some (79, true)⟩,
 oo 103 (.pick (.t 79) (.t 102) (.c (.bool false))),
 oo 104 (.mov (.t 103)),
 ⟨some 105, .mov (.t 1), some (104, true)⟩,
 ⟨some 106, .ldI (some 8) (.t 5), some (104, true)⟩,
 ⟨some 107, .load (some 4) (.t 11), some (104, true)⟩,
 ⟨some 108, .load (some 4) (.t 11), some (104, true)⟩,
 ⟨some 109, .bsliceI (some 4) [(.t 107), (.t 108)], some (104, true)⟩,
 ⟨some 110, .call false 20 [(.t 109)], some (104, true)⟩,
 ⟨some 111, .load (some 4) (.t 11), some (104, true)⟩,
 ⟨some 112, .load (some 4) (.t 11), some (104, true)⟩,
 ⟨some 113, .load (some 4) (.t 15), some (104, true)⟩,
 ⟨some 114, .bsliceI (some 4) [(.t 112), (.t 113)], some (104, true)⟩,
 ⟨some 115, .call false 20 [(.t 114)], some (104, true)⟩,
 ⟨some 116, .load (some 4) (.t 11), some (104, true)⟩,
 ⟨some 117, .load (some 4) (.t 14), some (104, true)⟩,
 ⟨some 118, .bsliceI (some 4) [(.t 116), (.t 117)], some (104, true)⟩,
 ⟨some 119, .call false 21 [(.t 118)], some (104, true)⟩,
 ⟨some 120, .load (some 4) (.t 14), some (104, true)⟩,
 ⟨some 121, .load (some 4) (.t 11), some (104, true)⟩,
 ⟨some 122, .bsliceI (some 4) [(.t 120), (.t 121)], some (104, true)⟩,
 ⟨some 123, .call false 21 [(.t 122)], some (104, true)⟩,
 ⟨some 124, .bsliceI (some 4) [(.t 110), (.t 111), (.t 115), (.t 119), (.t 123)], some (104, true)⟩,
 ⟨some 125, .call false 19 [(.t 105), (.t 106), (.t 124)], some (104, true)⟩,
 oo 126 (.pick (.t 104) (.t 125) (.c (.bool false))),
 oo 127 (.mov (.t 126)),
 ⟨some 128, .mov (.t 1), some (127, true)⟩,
 ⟨some 129, .ldI (some 8) (.t 5), some (127, true)⟩,
 ⟨some 130, .load (some 4) (.t 11), some (127, true)⟩,
 ⟨some 131, .load (some 4) (.t 15), some (127, true)⟩,
 ⟨some 132, .bsliceI (some 4) [(.t 130), (.t 131)], some (127, true)⟩,
 ⟨some 133, .call false 21 [(.t 132)], some (127, true)⟩,
 ⟨some 134, .load (some 4) (.t 15), some (127, true)⟩,
 ⟨some 135, .load (some 4) (.t 11), some (127, true)⟩,
 ⟨some 136, .bsliceI (some 4) [(.t 134), (.t 135)], some (127, true)⟩,
 ⟨some 137, .call false 21 [(.t 136)], some (127, true)⟩,
 ⟨some 138, .load (some 4) (.t 15), some (127, true)⟩,
 ⟨some 139, .bsliceI (some 4) [(.t 133), (.t 137), (.t 138)], some (127, true)⟩,
 ⟨some 140, .call false 19 [(.t 128), (.t 129), (.t 139)], some (127, true)⟩,
 oo 141 (.pick (.t 127) (.t 140) (.c (.bool false))),
 oo 142 (.mov (.t 141)),
 ⟨some 143, .mov (.t 1), some (142, true)⟩,
 ⟨some 144, .ldI (some 8) (.t 5), some (142, true)⟩,
 ⟨some 145, .load (some 4) (.t 11), some (142, true)⟩,
 ⟨some 146, .load (some 4) (.t 12), some (142, true)⟩,
 ⟨some 147, .load (some 4) (.t 13), some (142, true)⟩,
 ⟨some 148, .bsliceI (some 4) [(.t 146), (.t 147)], some (142, true)⟩,
 ⟨some 149, .call false 20 [(.t 148)], some (142, true)⟩,
 ⟨some 150, .bsliceI (some 4) [(.t 145), (.t 149)], some (142, true)⟩,
 ⟨some 151, .call false 21 [(.t 150)], some (142, true)⟩,
 ⟨some 152, .load (some 4) (.t 11), some (142, true)⟩,
 ⟨some 153, .load (some 4) (.t 12), some (142, true)⟩,
 ⟨some 154, .bsliceI (some 4) [(.t 152), (.t 153)], some (142, true)⟩,
 ⟨some 155, .call false 21 [(.t 154)], some (142, true)⟩,
 ⟨some 156, .load (some 4) (.t 11), some (142, true)⟩,
 ⟨some 157, .load (some 4) (.t 13), some (142, true)⟩,
 ⟨some 158, .bsliceI (some 4) [(.t 156), (.t 157)], some (142, true)⟩,
 ⟨some 159, .call false 21 [(.t 158)], some (142, true)⟩,
 ⟨some 160, .bsliceI (some 4) [(.t 155), (.t 159)], some (142, true)⟩,
 ⟨some 161, .call false 20 [(.t 160)], some (142, true)⟩,
 ⟨some 162, .bsliceI (some 4) [(.t 151), (.t 161)], some (142, true)⟩,
 ⟨some 163, .call false 19 [(.t 143), (.t 144), (.t 162)], some (142, true)⟩,
 oo 164 (.pick (.t 142) (.t 163) (.c (.bool false))),
 oo 165 (.mov (.t 164)),
 ⟨some 166, .mov (.t 1), some (165, true)⟩,
 ⟨some 167, .ldI (some 8) (.t 5), some (165, true)⟩,
 ⟨some 168, .load (some 4) (.t 11), some (165, true)⟩,
 ⟨some 169, .load (some 4) (.t 12), some (165, true)⟩,
 ⟨some 170, .bsliceI (some 4) [(.t 168), (.t 169)], some (165, true)⟩,
 ⟨some 171, .call false 20 [(.t 170)], some (165, true)⟩,
 ⟨some 172, .load (some 4) (.t 13), some (165, true)⟩,
 ⟨some 173, .bsliceI (some 4) [(.t 171), (.t 172)], some (165, true)⟩,
 ⟨some 174, .call false 21 [(.t 173)], some (165, true)⟩,
 ⟨some 175, .load (some 4) (.t 11), some (165, true)⟩,
 ⟨some 176, .load (some 4) (.t 13), some (165, true)⟩,
 ⟨some 177, .bsliceI (some 4) [(.t 175), (.t 176)], some (165, true)⟩,
 ⟨some 178, .call false 21 [(.t 177)], some (165, true)⟩,
 ⟨some 179, .load (some 4) (.t 12), some (165, true)⟩,
 ⟨some 180, .load (some 4) (.t 13), some (165, true)⟩,
 ⟨some 181, .bsliceI (some 4) [(.t 179), (.t 180)], some (165, true)⟩,
 ⟨some 182, .call false 21 [(.t 181)], some (165, true)⟩,
 ⟨some 183, .bsliceI (some 4) [(.t 178), (.t 182)], some (165, true)⟩,
 ⟨some 184, .call false 20 [(.t 183)], some (165, true)⟩,
 ⟨some 185, .bsliceI (some 4) [(.t 174), (.t 184)], some (165, true)⟩,
 ⟨some 186, .call false 19 [(.t 166), (.t 167), (.t 185)], some (165, true)⟩,
 oo 187 (.pick (.t 165) (.t 186) (.c (.bool false))),
 oo 6 (.mov (.t 187))])
 (.ret)))))))))
 [.t 6]
set_option maxRecDepth 100000 in
theorem xZ : bL Try.prog 4 a4 = true := by kernel_rfl
def a55 : bH := .mk 8
 (.seq (.ops false [
 oo 2 (.mov (.c (.nils)))])
 (.seq (.seq (.ops false [
 oo 3 (.mov (.t 0)),
 oo 4 (.eqN false 1 (.t 3) (.c (.nils)))])
 (.cond (.t 4)
 (.seq (.ops false [
 oo 2 (.mov (.c (.nils)))])
 (.ret))
 (.skip)))
 (.seq (.ops false [
 oo 5 (.bslice (some 4) [] true),
 oo 6 (.mov (.t 0)),
 oo 7 (.append (some 4) (.t 5) (.t 6) true),
 oo 2 (.mov (.t 7))])
 (.ret))))
 [.t 2]
def ya : bB :=
 (.seq (.seq (.ops false [
 oo 34 (.mov (.t 5)),
 oo 35 (.faddr 3 (.t 2)),
 oo 36 (.ldI none (.t 35)),
 oo 37 (.len (.t 36)),
 oo 38 (.bin .lss (.t 34) (.t 37))])
 (.cond (.t 38)
 (.skip)
 (.exit 0)))
 (.seq (.block 1 (.seq (.ops true [
 oo 41 (.faddr 3 (.t 2)),
 oo 42 (.ldI none (.t 41)),
 oo 43 (.mov (.t 5)),
 oo 44 (.iaddr (some 4) (.t 42) (.t 43)),
 oo 45 (.load (some 4) (.t 44)),
 oo 46 (.faddr 3 (.t 3)),
 oo 47 (.ldI none (.t 46)),
 oo 48 (.mov (.t 5)),
 oo 49 (.iaddr (some 4) (.t 47) (.t 48)),
 oo 50 (.load (some 4) (.t 49)),
 oo 51 (.call false 25 [(.t 45), (.t 50)]),
 oo 52 (.un .not (.t 51))])
 (.cond (.t 52)
 (.seq (.ops false [
 oo 4 (.mov (.c (.bool false)))])
 (.ret))
 (.skip))))
 (.ops false [
 oo 39 (.mov (.t 5)),
 oo 40 (.bin .add (.t 39) (ci 1)),
 oo 5 (.mov (.t 40))])))
def a25 : bH := .mk 53
 (.seq (.ops false [
 oo 2 (.box (some 4) (.t 0) true),
 oo 3 (.box (some 4) (.t 1) true),
 oo 4 (.mov (.c (.bool false)))])
 (.seq (.seq (.ops false [
 oo 6 (.faddr 0 (.t 2)),
 oo 7 (.ldI none (.t 6)),
 oo 8 (.faddr 0 (.t 3)),
 oo 9 (.ldI none (.t 8)),
 oo 10 (.bin .neq (.t 7) (.t 9)),
 oo 11 (.mov (.t 10)),
 ⟨some 12, .faddr 1 (.t 2), some (11, false)⟩,
 ⟨some 13, .ldI none (.t 12), some (11, false)⟩,
 ⟨some 14, .faddr 1 (.t 3), some (11, false)⟩,
 ⟨some 15, .ldI none (.t 14), some (11, false)⟩,
 ⟨some 16, .bin .neq (.t 13) (.t 15), some (11, false)⟩,
 oo 17 (.pick (.t 11) (.c (.bool true)) (.t 16)),
 oo 18 (.mov (.t 17)),
 ⟨some 19, .faddr 2 (.t 2), some (18, false)⟩,
 ⟨some 20, .ldI none (.t 19), some (18, false)⟩,
 ⟨some 21, .faddr 2 (.t 3), some (18, false)⟩,
 ⟨some 22, .ldI none (.t 21), some (18, false)⟩,
 ⟨some 23, .bin .neq (.t 20) (.t 22), some (18, false)⟩,
 oo 24 (.pick (.t 18) (.c (.bool true)) (.t 23)),
 oo 25 (.mov (.t 24)),
 ⟨some 26, .faddr 3 (.t 2), some (25, false)⟩,
 ⟨some 27, .ldI none (.t 26), some (25, false)⟩,
 ⟨some 28, .len (.t 27), some (25, false)⟩,
 ⟨some 29, .faddr 3 (.t 3), some (25, false)⟩,
 ⟨some 30, .ldI none (.t 29), some (25, false)⟩,
 ⟨some 31, .len (.t 30), some (25, false)⟩,
 ⟨some 32, .bin .neq (.t 28) (.t 31), some (25, false)⟩,
 oo 33 (.pick (.t 25) (.c (.bool true)) (.t 32))])
 (.cond (.t 33)
 (.seq (.ops false [
 oo 4 (.mov (.c (.bool false)))])
 (.ret))
 (.skip)))
 (.seq (.seq (.ops false [
 oo 5 (.mov (ci 0))])
 (.block 0 (.loop ya)))
 (.seq (.ops false [
 oo 4 (.mov (.c (.bool true)))])
 (.ret)))))
 [.t 4]
def a6 : bH := .mk 73
 (.seq (.ops false [
 oo 4 (.box (some 2) (.t 1) true),
 oo 5 (.box (some 8) (.t 2) true),
 oo 6 (.mov (.c (.bool false)))])
 (.seq (.seq (.ops false [
 oo 14 (.call false 12 []),
 oo 15 (.un .not (.t 14))])
 (.cond (.t 15)
 (.seq (.ops false [
 oo 6 (.mov (.c (.bool false)))])
 (.ret))
 (.skip)))
 (.seq (.ops false [
 oo 17 (.mov (.t 0)),
 oo 18 (.call false 13 [(.t 17)]),
 oo 16 (.mov (.t 18)),
 oo 19 (.extract (.t 16) 0),
 oo 20 (.extract (.t 16) 1),
 oo 7 (.alloc [.int .i64 0, .int .i64 0, .int .u16 0, .vec (some 4) []]),
 ⟨none, .store (some 4) (.t 7) (.t 19), none⟩,
 oo 8 (.mov (.t 20))])
 (.seq (.seq (.ops false [
 oo 21 (.mov (.t 8)),
 oo 22 (.un .not (.t 21)),
 oo 23 (.mov (.t 22)),
 ⟨some 24, .iaddrA 2 none (.t 4) (ci 0), some (23, false)⟩,
 ⟨some 25, .ldI none (.t 24), some (23, false)⟩,
 ⟨some 26, .len (.t 25), some (23, false)⟩,
 ⟨some 27, .bin .gtr (.t 26) (ci 6), some (23, false)⟩,
 oo 28 (.pick (.t 23) (.c (.bool true)) (.t 27)),
 oo 29 (.mov (.t 28)),
 ⟨some 30, .iaddrA 2 none (.t 4) (ci 1), some (29, false)⟩,
 ⟨some 31, .ldI none (.t 30), some (29, false)⟩,
 ⟨some 32, .len (.t 31), some (29, false)⟩,
 ⟨some 33, .bin .gtr (.t 32) (ci 6), some (29, false)⟩,
 oo 34 (.pick (.t 29) (.c (.bool true)) (.t 33))])
 (.cond (.t 34)
 (.seq (.ops false [
 oo 6 (.mov (.c (.bool true)))])
 (.ret))
 (.skip)))
 (.seq (.ops false [
 oo 35 (.load (some 4) (.t 7)),
 oo 36 (.iaddrA 2 none (.t 4) (ci 0)),
 oo 37 (.ldI none (.t 36)),
 oo 38 (.call false 24 [(.t 35), (.t 37)]),
 oo 9 (.alloc [.int .i64 0, .int .i64 0, .int .u16 0, .vec (some 4) []]),
 ⟨none, .store (some 4) (.t 9) (.t 38), none⟩])
 (.seq (.seq (.ops true [
 oo 39 (.load (some 4) (.t 9)),
 oo 40 (.load (some 4) (.t 7)),
 oo 41 (.iaddrA 2 none (.t 4) (ci 0)),
 oo 42 (.ldI none (.t 41)),
 oo 43 (.call false 26 [(.t 40), (.t 42)]),
 oo 44 (.call false 25 [(.t 39), (.t 43)]),
 oo 45 (.un .not (.t 44))])
 (.cond (.t 45)
 (.seq (.ops false [
 oo 6 (.mov (.c (.bool false)))])
 (.ret))
 (.skip)))
 (.seq (.seq (.ops false [
 oo 46 (.load (some 4) (.t 7)),
 oo 47 (.call false 27 [(.t 46)]),
 oo 48 (.un .not (.t 47))])
 (.cond (.t 48)
 (.seq (.ops false [
 oo 6 (.mov (.c (.bool true)))])
 (.ret))
 (.skip)))
 (.seq (.ops false [
 oo 50 (.load (some 4) (.t 7)),
 oo 51 (.iaddrA 2 none (.t 4) (ci 0)),
 oo 52 (.ldI none (.t 51)),
 oo 53 (.ldI (some 8) (.t 5)),
 oo 54 (.call false 14 [(.t 50), (.t 52), (.t 53)]),
 oo 49 (.mov (.t 54)),
 oo 55 (.extract (.t 49) 0),
 oo 56 (.extract (.t 49) 1),
 oo 10 (.mov (.t 55)),
 oo 11 (.mov (.t 56))])
 (.seq (.ops false [
 oo 58 (.load (some 4) (.t 9)),
 oo 59 (.iaddrA 2 none (.t 4) (ci 1)),
 oo 60 (.ldI none (.t 59)),
 oo 61 (.ldI (some 8) (.t 5)),
 oo 62 (.call false 14 [(.t 58), (.t 60), (.t 61)]),
 oo 57 (.mov (.t 62)),
 oo 63 (.extract (.t 57) 0),
 oo 64 (.extract (.t 57) 1),
 oo 12 (.mov (.t 63)),
 oo 13 (.mov (.t 64))])
 (.seq (.ops false [
 oo 65 (.mov (.t 11)),
 oo 66 (.mov (.t 13)),
 oo 67 (.bin .eql (.t 65) (.t 66)),
 oo 68 (.mov (.t 67)),
 ⟨some 69, .mov (.t 10), some (68, true)⟩,
 ⟨some 70, .mov (.t 12), some (68, true)⟩,
 ⟨some 71, .call false 16 [(.t 69), (.t 70)], some (68, true)⟩,
 oo 72 (.pick (.t 68) (.t 71) (.c (.bool false))),
 oo 6 (.mov (.t 72))])
 (.ret)))))))))))
 [.t 6]
@[reducible] def aq (x : List ah) : V := .d (eL (some 4) ax x)
@[reducible] def aU (x : List Int) : V := .d (eL none (D.int .u16) x)
@[reducible] def bE (x : List eT) : V := .d (eL (some 2) cI x)
@[reducible] def cy (x : List law05_Step) : V := .d (eL (some 4) elaw05_Step x)
@[reducible] def fX (x : List mP) : V := .d (eL (some 3) fH x)
@[reducible] def aH (x : ah) : V := .d (.cptr (some 4) (a8 x) 0)
@[reducible] def dV (x : dL) : V := .d (.cptr (some 6) (ji x) 0)
@[reducible] def fY (x : eT) : V := .d (.cptr (some 2) (cI x) 0)
@[reducible] def vs1 (x : ah) : V := .d (a8 x)
@[reducible] def aY : bf := .var [vi 0, vi 0, vh 0, aq []]
@[reducible] def cb (x : ah) : bf := .var [vi x.Op, vi x.F, vh x.N, aq x.Kids]
@[reducible] def fZ : bf := .var [vh 0, vh 0, vh 0, vh 0, vh 0, vh 0, vh 0, vh 0]
@[reducible] def dW (x : law05_Step) : bf := .var [vi x.What, vi x.F, vh x.N, v8 x.K]
@[reducible] def f5 : bf := .var [vi 0, vi 0, vh 0, aq [], vi 0, vi 0, vh 0, aq [], vi 0, vi 0, vh 0, aq []]
end Go.AM
