import Derived.Test.YtnnkfanmokeiaaaAmK8
import Derived.Test.YtnnkfanmokeiaaaAmPan
import Derived.Test.YtnnkfanmokeiaaaPmS
import Derived.Test.YtnnkfanmokeiaaaAmW
import Derived.Test.YtnnkfanmokeiaaaWtT
import Derived.Test.YtnnkfanmokeiaaaProg
set_option linter.unusedVariables false
set_option linter.unusedSimpArgs false
namespace Go.AM
open Go Go.RowKit Go.Proofs
mutual
def aN : ai → D
  | ⟨y0, y1, y2, y3⟩ => .agg [(D.int .i64) y0, (D.int .i64) y1, (D.int .u16) y2, .vec (some 4) (js y3)]
def js : List ai → List D
  | [] => []
  | x :: l => aN x :: js l
end
theorem oE : ∀ l : List ai, js l = l.map aN
  | [] => by simp [js]
  | x :: l => by simp [js, oE l]
theorem xe [Glob] {σ : aB} {id len : Nat} {k : Option Nat} {xs : List ai} (hid : σ id = some (.lst false k (xs.map aN))) (hl : len = xs.length) : cZ σ (.loc id 0 len) = some (.vec k (js xs)) := by
  rw [oE]; exact kS hid hl
def bN (x : ai) : D := .agg [D.int .i64 x.Op, D.int .i64 x.F, D.int .u16 x.N, eL (some 4) aN x.Kids]
theorem dX (x : ai) : aN x = bN x := by
  cases x
  simp [aN, bN, eL, oE]
def fp (x : f8) : D := .agg ((D.int .i64) x.F :: ((D.int .u16) x.N :: []))
def jt (x : nk) : D := .agg ((eL (some 2) fp) x.When :: ((eL (some 2) fp) x.Guard :: ((eL (some 2) fp) x.Then :: [])))
def l3 (x : fC) : D := .agg ((eL none (D.int .u16)) x.Init :: ((bN x.Pol).cells ++ ((eL (some 3) jt) x.Rules :: [])))
def elaw05_Step (x : law05_Step) : D := .agg ((D.int .i64) x.What :: ((D.int .i64) x.F :: ((D.int .u16) x.N :: ((D.int .u8) x.K :: []))))
def eapi_Port (x : api_Port) : D := .agg ((D.int .u16) x.Sw :: ((D.int .u16) x.Pt :: []))
def eapi_Topo (x : api_Topo) : D := .agg ((eL none (D.int .u16)) x.Switches :: ((eL (some 4) (cX eapi_Port)) x.Links :: ((eL (some 2) eapi_Port) x.Hosts :: [])))
def elaw14_Net (x : law14_Net) : D := .agg ((eapi_Topo x.T).cells ++ ((eL (some 4) elaw05_Step) x.L :: ((eL none (D.int .u16)) x.State :: [])))
theorem ju (x y : (A8 Int)) : gM [.int, .int, .int, .int, .int, .int, .int, .int] (.d (eA8 (D.int .u16) x)) (.d (eA8 (D.int .u16) y)) = some (x == y) := by
  refine (qI rfl rfl (fZ rfl (fZ rfl (fZ rfl (fZ rfl (fZ rfl (fZ rfl (fZ rfl (fZ rfl rfl))))))))).trans (congrArg some ?_)
  rw [Bool.eq_iff_iff]
  obtain ⟨x0, x1, x2, x3, x4, x5, x6, x7⟩ := x
  obtain ⟨y0, y1, y2, y3, y4, y5, y6, y7⟩ := y
  simp [qJ, and_assoc]
theorem l4 (x y : api_Port) : gM [.int, .int] (.d (eapi_Port x)) (.d (eapi_Port y)) = some (x == y) := by
  refine (qI rfl rfl (fZ rfl (fZ rfl rfl))).trans (congrArg some ?_)
  rw [Bool.eq_iff_iff]
  obtain ⟨x0, x1⟩ := x
  obtain ⟨y0, y1⟩ := y
  simp [qJ, and_assoc]
def xf : bA :=
 (.seq (.ops false [
 oo 10 (.bin .lss (.t 9) (.t 8))])
 (.seq (.cond (.t 10)
 (.skip)
 (.exit 0))
 (.seq (.block 1 (.seq (.ops false [
 oo 11 (.iaddr (some 4) (.t 7) (.t 9)),
 oo 12 (.load (some 4) (.t 11)),
 oo 5 (.alloc [.int .i64 0, .int .i64 0, .int .u16 0, .vec (some 4) []]),
 ⟨none, .store (some 4) (.t 5) (.t 12), none⟩])
 (.ops false [
 oo 13 (.mov (.t 3)),
 oo 14 (.load (some 4) (.t 5)),
 oo 15 (.call false 62 [(.t 14)]),
 oo 16 (.bin .add (.t 13) (.t 15)),
 oo 3 (.mov (.t 16))])))
 (.ops false [
 oo 17 (.bin .add (.t 9) (ci 1)),
 oo 9 (.mov (.t 17))]))))
def xg : bI := .mk 19
 (.seq (.ops false [
 oo 1 (.box (some 4) (.t 0) true),
 oo 2 (.mov (ci 0))])
 (.seq (.ops false [
 oo 3 (.mov (ci 1))])
 (.seq (.seq (.ops false [
 oo 6 (.faddr 3 (.t 1)),
 oo 7 (.ldI none (.t 6)),
 oo 8 (.len (.t 7)),
 oo 9 (.mov (ci 0))])
 (.block 0 (.loop xf)))
 (.seq (.ops false [
 oo 18 (.mov (.t 3)),
 oo 2 (.mov (.t 18))])
 (.ret)))))
 [.t 2]
set_option maxRecDepth 100000 in
theorem xh : bL Try.prog 62 xg = true := by kernel_rfl
def xi : bA :=
 (.seq (.ops false [
 oo 10 (.bin .lss (.t 9) (.t 8))])
 (.seq (.cond (.t 10)
 (.skip)
 (.exit 0))
 (.seq (.block 1 (.seq (.ops false [
 oo 11 (.iaddr (some 4) (.t 7) (.t 9)),
 oo 12 (.load (some 4) (.t 11)),
 oo 5 (.alloc [.int .i64 0, .int .i64 0, .int .u16 0, .vec (some 4) []]),
 ⟨none, .store (some 4) (.t 5) (.t 12), none⟩])
 (.ops false [
 oo 13 (.mov (.t 3)),
 oo 14 (.load (some 4) (.t 5)),
 oo 15 (.call false 63 [(.t 14)]),
 oo 16 (.max2 (.t 13) (.t 15)),
 oo 3 (.mov (.t 16))])))
 (.ops false [
 oo 17 (.bin .add (.t 9) (ci 1)),
 oo 9 (.mov (.t 17))]))))
def xj : bI := .mk 20
 (.seq (.ops false [
 oo 1 (.box (some 4) (.t 0) true),
 oo 2 (.mov (ci 0))])
 (.seq (.ops false [
 oo 3 (.mov (ci 0))])
 (.seq (.seq (.ops false [
 oo 6 (.faddr 3 (.t 1)),
 oo 7 (.ldI none (.t 6)),
 oo 8 (.len (.t 7)),
 oo 9 (.mov (ci 0))])
 (.block 0 (.loop xi)))
 (.seq (.ops false [
 oo 18 (.mov (.t 3)),
 oo 19 (.bin .add (.t 18) (ci 1)),
 oo 2 (.mov (.t 19))])
 (.ret)))))
 [.t 2]
set_option maxRecDepth 100000 in
theorem xk : bL Try.prog 63 xj = true := by kernel_rfl
def xl : bA :=
 (.seq (.ops false [
 oo 9 (.bin .lss (.t 8) (.t 7))])
 (.seq (.cond (.t 9)
 (.skip)
 (.exit 0))
 (.seq (.block 1 (.seq (.ops false [
 oo 10 (.mov (.t 8)),
 oo 5 (.mov (.t 10))])
 (.seq (.ops false [
 oo 11 (.mov (.t 1)),
 oo 12 (.mov (.t 0)),
 oo 13 (.mov (.t 5)),
 oo 14 (.iaddr (some 4) (.t 12) (.t 13)),
 oo 15 (.load (some 4) (.t 14)),
 oo 16 (.callv false (.t 11) [(.t 15)])])
 (.cond (.t 16)
 (.seq (.ops false [
 oo 17 (.mov (.t 5)),
 oo 4 (.mov (.t 17))])
 (.ret))
 (.skip)))))
 (.ops false [
 oo 18 (.bin .add (.t 8) (ci 1)),
 oo 8 (.mov (.t 18))]))))
def xm : bI := .mk 19
 (.seq (.ops false [
 oo 4 (.mov (ci 0))])
 (.seq (.seq (.ops false [
 oo 6 (.mov (.t 0)),
 oo 7 (.len (.t 6)),
 oo 8 (.mov (ci 0))])
 (.block 0 (.loop xl)))
 (.seq (.ops false [
 oo 4 (.mov (ci (-1)))])
 (.ret))))
 [.t 4]
set_option maxRecDepth 100000 in
theorem xn : bL Try.prog 110 xm = true := by kernel_rfl
def xo : bI := .mk 9
 (.seq (.ops false [
 oo 4 (.mov (.c (.bool false)))])
 (.seq (.ops false [
 oo 5 (.mov (.t 0)),
 oo 6 (.mov (.t 1)),
 oo 7 (.call false 110 [(.t 5), (.t 6)]),
 oo 8 (.bin .geq (.t 7) (ci 0)),
 oo 4 (.mov (.t 8))])
 (.ret)))
 [.t 4]
set_option maxRecDepth 100000 in
theorem xp : bL Try.prog 98 xo = true := by kernel_rfl
def xq : bI := .mk 6
 (.seq (.ops false [
 oo 1 (.box (some 4) (.t 0) true),
 oo 2 (.mov (.c (.bool false)))])
 (.seq (.ops false [
 oo 3 (.ldI (some 4) (.t 1)),
 oo 4 (.call false 97 [(.t 3)]),
 oo 5 (.un .not (.t 4)),
 oo 2 (.mov (.t 5))])
 (.ret)))
 [.t 2]
set_option maxRecDepth 100000 in
theorem xr : bL Try.prog 109 xq = true := by kernel_rfl
def xt : bI := .mk 18
 (.seq (.ops false [
 oo 1 (.box (some 4) (.t 0) true),
 oo 2 (.mov (.c (.bool false)))])
 (.seq (.seq (.ops false [
 oo 3 (.faddr 0 (.t 1)),
 oo 4 (.ldI none (.t 3))])
 (.block 0 (.seq (.seq (.ops false [
 oo 6 (.bin .eql (.t 4) (ci 0)),
 oo 5 (.mov (.t 6))])
 (.cond (.t 5)
 (.skip)
 (.seq (.ops false [
 oo 7 (.bin .eql (.t 4) (ci 1)),
 oo 5 (.mov (.t 7))])
 (.cond (.t 5)
 (.skip)
 (.seq (.ops false [
 oo 8 (.bin .eql (.t 4) (ci 2)),
 oo 5 (.mov (.t 8))])
 (.cond (.t 5)
 (.skip)
 (.seq (.ops false [
 oo 9 (.bin .eql (.t 4) (ci 3)),
 oo 5 (.mov (.t 9))])
 (.cond (.t 5)
 (.skip)
 (.ops false [
 oo 10 (.bin .eql (.t 4) (ci 4)),
 oo 5 (.mov (.t 10))])))))))))
 (.cond (.t 5)
 (.seq (.ops false [
 oo 2 (.mov (.c (.bool true)))])
 (.ret))
 (.seq (.seq (.ops false [
 oo 12 (.bin .eql (.t 4) (ci 6)),
 oo 11 (.mov (.t 12))])
 (.cond (.t 11)
 (.skip)
 (.ops false [
 oo 13 (.bin .eql (.t 4) (ci 7)),
 oo 11 (.mov (.t 13))])))
 (.cond (.t 11)
 (.seq (.ops false [
 oo 14 (.faddr 3 (.t 1)),
 oo 15 (.ldI none (.t 14)),
 oo 16 (.call false 98 [(.t 15), (.c (.func 109 []))]),
 oo 17 (.un .not (.t 16)),
 oo 2 (.mov (.t 17))])
 (.ret))
 (.skip)))))))
 (.seq (.ops false [
 oo 2 (.mov (.c (.bool false)))])
 (.ret))))
 [.t 2]
set_option maxRecDepth 100000 in
theorem xu : bL Try.prog 97 xt = true := by kernel_rfl
def xw : bI := .mk 8
 (.seq (.ops false [
 oo 2 (.box (some 4) (.t 0) true),
 oo 3 (.mov (.c (.bool false)))])
 (.seq (.ops false [
 oo 4 (.ldI (some 4) (.t 2)),
 oo 5 (.load none (.t 1)),
 oo 6 (.call false 75 [(.t 4), (.t 5)]),
 oo 7 (.un .not (.t 6)),
 oo 3 (.mov (.t 7))])
 (.ret)))
 [.t 3]
set_option maxRecDepth 100000 in
theorem xx : bL Try.prog 99 xw = true := by kernel_rfl
def xy : bI := .mk 92
 (.seq (.ops false [
 oo 2 (.box (some 4) (.t 0) true),
 oo 3 (.box none (.t 1) true),
 oo 4 (.mov (.c (.bool false)))])
 (.seq (.ops false [
 oo 8 (.faddr 1 (.t 2)),
 oo 9 (.ldI none (.t 8)),
 oo 10 (.bin .eql (.t 9) (ci 0)),
 oo 11 (.mov (.t 10)),
 ⟨some 12, .faddr 2 (.t 2), some (11, true)⟩,
 ⟨some 13, .ldI none (.t 12), some (11, true)⟩,
 ⟨some 14, .bin .eql (.t 13) (.c (.int .u16 0)), some (11, true)⟩,
 oo 15 (.pick (.t 11) (.t 14) (.c (.bool false))),
 oo 5 (.mov (.t 15))])
 (.seq (.ops false [
 oo 6 (.mov (ci 0)),
 oo 7 (.mov (ci 8))])
 (.seq (.seq (.ops false [
 oo 16 (.faddr 0 (.t 2)),
 oo 17 (.ldI none (.t 16))])
 (.block 0 (.seq (.seq (.ops false [
 oo 19 (.bin .eql (.t 17) (ci 0)),
 oo 18 (.mov (.t 19))])
 (.cond (.t 18)
 (.skip)
 (.ops false [
 oo 20 (.bin .eql (.t 17) (ci 1)),
 oo 18 (.mov (.t 20))])))
 (.cond (.t 18)
 (.seq (.ops false [
 oo 21 (.faddr 3 (.t 2)),
 oo 22 (.ldI none (.t 21)),
 oo 23 (.len (.t 22)),
 oo 24 (.bin .eql (.t 23) (ci 0)),
 oo 25 (.mov (.t 24)),
 ⟨some 26, .mov (.t 5), some (25, true)⟩,
 oo 27 (.pick (.t 25) (.t 26) (.c (.bool false))),
 oo 4 (.mov (.t 27))])
 (.ret))
 (.seq (.ops false [
 oo 29 (.bin .eql (.t 17) (ci 4)),
 oo 28 (.mov (.t 29))])
 (.cond (.t 28)
 (.seq (.ops true [
 oo 30 (.faddr 3 (.t 2)),
 oo 31 (.ldI none (.t 30)),
 oo 32 (.len (.t 31)),
 oo 33 (.bin .eql (.t 32) (ci 1)),
 oo 34 (.mov (.t 33)),
 ⟨some 35, .mov (.t 5), some (34, true)⟩,
 oo 36 (.pick (.t 34) (.t 35) (.c (.bool false))),
 oo 37 (.mov (.t 36)),
 ⟨some 38, .faddr 3 (.t 2), some (37, true)⟩,
 ⟨some 39, .ldI none (.t 38), some (37, true)⟩,
 ⟨some 40, .iaddr (some 4) (.t 39) (ci 0), some (37, true)⟩,
 ⟨some 41, .load (some 4) (.t 40), some (37, true)⟩,
 ⟨some 42, .call false 97 [(.t 41)], some (37, true)⟩,
 oo 43 (.pick (.t 37) (.t 42) (.c (.bool false))),
 oo 44 (.mov (.t 43)),
 ⟨some 45, .faddr 3 (.t 2), some (44, true)⟩,
 ⟨some 46, .ldI none (.t 45), some (44, true)⟩,
 ⟨some 47, .iaddr (some 4) (.t 46) (ci 0), some (44, true)⟩,
 ⟨some 48, .load (some 4) (.t 47), some (44, true)⟩,
 ⟨some 49, .ldI none (.t 3), some (44, true)⟩,
 ⟨some 50, .call false 75 [(.t 48), (.t 49)], some (44, true)⟩,
 oo 51 (.pick (.t 44) (.t 50) (.c (.bool false))),
 oo 4 (.mov (.t 51))])
 (.ret))
 (.seq (.seq (.ops false [
 oo 53 (.bin .eql (.t 17) (ci 6)),
 oo 52 (.mov (.t 53))])
 (.cond (.t 52)
 (.skip)
 (.ops false [
 oo 54 (.bin .eql (.t 17) (ci 7)),
 oo 52 (.mov (.t 54))])))
 (.cond (.t 52)
 (.seq (.ops false [
 oo 55 (.faddr 3 (.t 2)),
 oo 56 (.ldI none (.t 55)),
 oo 57 (.len (.t 56)),
 oo 58 (.bin .geq (.t 57) (ci 2)),
 oo 59 (.mov (.t 58)),
 ⟨some 60, .mov (.t 5), some (59, true)⟩,
 oo 61 (.pick (.t 59) (.t 60) (.c (.bool false))),
 oo 62 (.mov (.t 61)),
 ⟨some 63, .faddr 3 (.t 2), some (62, true)⟩,
 ⟨some 64, .ldI none (.t 63), some (62, true)⟩,
 ⟨some 65, .mkfunc 99 [(.t 3)], some (62, true)⟩,
 ⟨some 66, .call false 98 [(.t 64), (.t 65)], some (62, true)⟩,
 ⟨some 67, .un .not (.t 66), some (62, true)⟩,
 oo 68 (.pick (.t 62) (.t 67) (.c (.bool false))),
 oo 4 (.mov (.t 68))])
 (.ret))
 (.seq (.ops false [
 oo 70 (.bin .eql (.t 17) (ci 2)),
 oo 69 (.mov (.t 70))])
 (.cond (.t 69)
 (.skip)
 (.seq (.ops false [
 oo 72 (.bin .eql (.t 17) (ci 5)),
 oo 71 (.mov (.t 72))])
 (.cond (.t 71)
 (.ops false [
 oo 6 (.mov (ci 1))])
 (.seq (.ops false [
 oo 74 (.bin .eql (.t 17) (ci 3)),
 oo 73 (.mov (.t 74))])
 (.cond (.t 73)
 (.ops false [
 oo 75 (.ldI none (.t 3)),
 oo 7 (.mov (.t 75))])
 (.seq (.ops false [
 oo 4 (.mov (.c (.bool false)))])
 (.ret))))))))))))))))
 (.seq (.ops false [
 oo 76 (.faddr 3 (.t 2)),
 oo 77 (.ldI none (.t 76)),
 oo 78 (.len (.t 77)),
 oo 79 (.bin .eql (.t 78) (ci 0)),
 oo 80 (.mov (.t 79)),
 ⟨some 81, .faddr 1 (.t 2), some (80, true)⟩,
 ⟨some 82, .ldI none (.t 81), some (80, true)⟩,
 ⟨some 83, .mov (.t 6), some (80, true)⟩,
 ⟨some 84, .bin .geq (.t 82) (.t 83), some (80, true)⟩,
 oo 85 (.pick (.t 80) (.t 84) (.c (.bool false))),
 oo 86 (.mov (.t 85)),
 ⟨some 87, .faddr 1 (.t 2), some (86, true)⟩,
 ⟨some 88, .ldI none (.t 87), some (86, true)⟩,
 ⟨some 89, .mov (.t 7), some (86, true)⟩,
 ⟨some 90, .bin .lss (.t 88) (.t 89), some (86, true)⟩,
 oo 91 (.pick (.t 86) (.t 90) (.c (.bool false))),
 oo 4 (.mov (.t 91))])
 (.ret))))))
 [.t 4]
set_option maxRecDepth 100000 in
theorem xz : bL Try.prog 75 xy = true := by kernel_rfl
def xA : bA :=
 (.seq (.ops false [
 oo 10 (.bin .lss (.t 9) (.t 8))])
 (.seq (.cond (.t 10)
 (.skip)
 (.exit 0))
 (.seq (.block 1 (.seq (.ops false [
 oo 11 (.mov (.t 9)),
 oo 12 (.iaddr (some 2) (.t 7) (.t 9)),
 oo 13 (.load (some 2) (.t 12)),
 oo 6 (.alloc [.int .i64 0, .int .u16 0]),
 oo 5 (.mov (.t 11)),
 ⟨none, .store (some 2) (.t 6) (.t 13), none⟩])
 (.seq (.ops true [
 oo 14 (.faddr 0 (.t 6)),
 oo 15 (.load none (.t 14)),
 oo 16 (.bin .lss (.t 15) (ci 0)),
 oo 17 (.mov (.t 16)),
 ⟨some 18, .faddr 0 (.t 6), some (17, false)⟩,
 ⟨some 19, .load none (.t 18), some (17, false)⟩,
 ⟨some 20, .mov (.t 1), some (17, false)⟩,
 ⟨some 21, .bin .geq (.t 19) (.t 20), some (17, false)⟩,
 oo 22 (.pick (.t 17) (.c (.bool true)) (.t 21)),
 oo 23 (.mov (.t 22)),
 ⟨some 24, .mov (.t 5), some (23, false)⟩,
 ⟨some 25, .bin .gtr (.t 24) (ci 0), some (23, false)⟩,
 ⟨some 26, .mov (.t 25), some (23, false)⟩,
 ⟨some 27, .mov (.t 0), some (26, true)⟩,
 ⟨some 28, .mov (.t 5), some (26, true)⟩,
 ⟨some 29, .bin .sub (.t 28) (ci 1), some (26, true)⟩,
 ⟨some 30, .iaddr (some 2) (.t 27) (.t 29), some (26, true)⟩,
 ⟨some 31, .faddr 0 (.t 30), some (26, true)⟩,
 ⟨some 32, .load none (.t 31), some (26, true)⟩,
 ⟨some 33, .faddr 0 (.t 6), some (26, true)⟩,
 ⟨some 34, .load none (.t 33), some (26, true)⟩,
 ⟨some 35, .bin .geq (.t 32) (.t 34), some (26, true)⟩,
 ⟨some 36, .pick (.t 26) (.t 35) (.c (.bool false)), some (23, false)⟩,
 oo 37 (.pick (.t 23) (.c (.bool true)) (.t 36))])
 (.cond (.t 37)
 (.seq (.ops false [
 oo 4 (.mov (.c (.bool false)))])
 (.ret))
 (.skip)))))
 (.ops false [
 oo 38 (.bin .add (.t 9) (ci 1)),
 oo 9 (.mov (.t 38))]))))
def a76 : bI := .mk 39
 (.seq (.ops false [
 oo 4 (.mov (.c (.bool false)))])
 (.seq (.seq (.ops false [
 oo 7 (.mov (.t 0)),
 oo 8 (.len (.t 7)),
 oo 9 (.mov (ci 0))])
 (.block 0 (.loop xA)))
 (.seq (.ops false [
 oo 4 (.mov (.c (.bool true)))])
 (.ret))))
 [.t 4]
set_option maxRecDepth 100000 in
theorem xB : bL Try.prog 76 a76 = true := by kernel_rfl
def xC : bA :=
 (.seq (.ops false [
 oo 43 (.bin .lss (.t 42) (.t 41))])
 (.seq (.cond (.t 43)
 (.skip)
 (.exit 0))
 (.seq (.block 1 (.seq (.ops false [
 oo 44 (.iaddr (some 3) (.t 40) (.t 42)),
 oo 45 (.load (some 3) (.t 44)),
 oo 5 (.alloc [.vec (some 2) [], .vec (some 2) [], .vec (some 2) []]),
 ⟨none, .store (some 3) (.t 5) (.t 45), none⟩])
 (.seq (.ops false [
 oo 46 (.faddr 0 (.t 5)),
 oo 47 (.load none (.t 46)),
 oo 48 (.len (.t 47)),
 oo 49 (.bin .geq (.t 48) (ci 2)),
 oo 50 (.mov (.t 49)),
 ⟨some 51, .faddr 0 (.t 5), some (50, true)⟩,
 ⟨some 52, .load none (.t 51), some (50, true)⟩,
 ⟨some 53, .iaddr (some 2) (.t 52) (ci 0), some (50, true)⟩,
 ⟨some 54, .faddr 0 (.t 53), some (50, true)⟩,
 ⟨some 55, .load none (.t 54), some (50, true)⟩,
 ⟨some 56, .bin .eql (.t 55) (ci 0), some (50, true)⟩,
 oo 57 (.pick (.t 50) (.t 56) (.c (.bool false))),
 oo 58 (.mov (.t 57)),
 ⟨some 59, .faddr 0 (.t 5), some (58, true)⟩,
 ⟨some 60, .load none (.t 59), some (58, true)⟩,
 ⟨some 61, .iaddr (some 2) (.t 60) (ci 1), some (58, true)⟩,
 ⟨some 62, .faddr 0 (.t 61), some (58, true)⟩,
 ⟨some 63, .load none (.t 62), some (58, true)⟩,
 ⟨some 64, .bin .eql (.t 63) (ci 1), some (58, true)⟩,
 oo 65 (.pick (.t 58) (.t 64) (.c (.bool false))),
 oo 6 (.mov (.t 65))])
 (.seq (.ops false [
 oo 66 (.mov (.t 6)),
 oo 67 (.un .not (.t 66)),
 oo 68 (.mov (.t 67)),
 ⟨some 69, .faddr 0 (.t 5), some (68, false)⟩,
 ⟨some 70, .load none (.t 69), some (68, false)⟩,
 ⟨some 71, .call false 76 [(.t 70), (ci 8)], some (68, false)⟩,
 ⟨some 72, .un .not (.t 71), some (68, false)⟩,
 oo 73 (.pick (.t 68) (.c (.bool true)) (.t 72)),
 oo 74 (.mov (.t 73)),
 ⟨some 75, .faddr 1 (.t 5), some (74, false)⟩,
 ⟨some 76, .load none (.t 75), some (74, false)⟩,
 ⟨some 77, .mov (.t 3), some (74, false)⟩,
 ⟨some 78, .call false 76 [(.t 76), (.t 77)], some (74, false)⟩,
 ⟨some 79, .un .not (.t 78), some (74, false)⟩,
 oo 80 (.pick (.t 74) (.c (.bool true)) (.t 79)),
 oo 81 (.mov (.t 80)),
 ⟨some 82, .faddr 2 (.t 5), some (81, false)⟩,
 ⟨some 83, .load none (.t 82), some (81, false)⟩,
 ⟨some 84, .mov (.t 3), some (81, false)⟩,
 ⟨some 85, .call false 76 [(.t 83), (.t 84)], some (81, false)⟩,
 ⟨some 86, .un .not (.t 85), some (81, false)⟩,
 oo 87 (.pick (.t 81) (.c (.bool true)) (.t 86)),
 oo 88 (.mov (.t 87)),
 ⟨some 89, .faddr 2 (.t 5), some (88, false)⟩,
 ⟨some 90, .load none (.t 89), some (88, false)⟩,
 ⟨some 91, .len (.t 90), some (88, false)⟩,
 ⟨some 92, .bin .eql (.t 91) (ci 0), some (88, false)⟩,
 oo 93 (.pick (.t 88) (.c (.bool true)) (.t 92))])
 (.cond (.t 93)
 (.seq (.ops false [
 oo 2 (.mov (ci 11))])
 (.ret))
 (.skip))))))
 (.ops false [
 oo 94 (.bin .add (.t 42) (ci 1)),
 oo 42 (.mov (.t 94))]))))
def xD : bI := .mk 95
 (.seq (.ops false [
 oo 1 (.box (some 6) (.t 0) true),
 oo 2 (.mov (ci 0))])
 (.seq (.ops false [
 oo 7 (.faddr 0 (.t 1)),
 oo 8 (.ldI none (.t 7)),
 oo 9 (.len (.t 8)),
 oo 3 (.mov (.t 9))])
 (.seq (.seq (.ops false [
 oo 10 (.mov (.t 3)),
 oo 11 (.bin .lss (.t 10) (ci 1)),
 oo 12 (.mov (.t 11)),
 ⟨some 13, .mov (.t 3), some (12, false)⟩,
 ⟨some 14, .bin .gtr (.t 13) (ci 4), some (12, false)⟩,
 oo 15 (.pick (.t 12) (.c (.bool true)) (.t 14)),
 oo 16 (.mov (.t 15)),
 ⟨some 17, .faddr 1 (.t 1), some (16, false)⟩,
 ⟨some 18, .ldI (some 4) (.t 17), some (16, false)⟩,
 ⟨some 19, .call false 62 [(.t 18)], some (16, false)⟩,
 ⟨some 20, .bin .gtr (.t 19) (ci 300), some (16, false)⟩,
 oo 21 (.pick (.t 16) (.c (.bool true)) (.t 20)),
 oo 22 (.mov (.t 21)),
 ⟨some 23, .faddr 1 (.t 1), some (22, false)⟩,
 ⟨some 24, .ldI (some 4) (.t 23), some (22, false)⟩,
 ⟨some 25, .call false 63 [(.t 24)], some (22, false)⟩,
 ⟨some 26, .bin .gtr (.t 25) (ci 20), some (22, false)⟩,
 oo 27 (.pick (.t 22) (.c (.bool true)) (.t 26)),
 oo 28 (.mov (.t 27)),
 ⟨some 29, .faddr 5 (.t 1), some (28, false)⟩,
 ⟨some 30, .ldI none (.t 29), some (28, false)⟩,
 ⟨some 31, .len (.t 30), some (28, false)⟩,
 ⟨some 32, .bin .gtr (.t 31) (ci 24), some (28, false)⟩,
 oo 33 (.pick (.t 28) (.c (.bool true)) (.t 32))])
 (.cond (.t 33)
 (.seq (.ops false [
 oo 2 (.mov (ci 2))])
 (.ret))
 (.skip)))
 (.seq (.seq (.ops false [
 oo 34 (.faddr 1 (.t 1)),
 oo 35 (.ldI (some 4) (.t 34)),
 oo 36 (.mov (.t 3)),
 oo 37 (.call false 75 [(.t 35), (.t 36)]),
 oo 38 (.un .not (.t 37))])
 (.cond (.t 38)
 (.seq (.ops false [
 oo 2 (.mov (ci 11))])
 (.ret))
 (.skip)))
 (.seq (.seq (.ops false [
 oo 39 (.faddr 5 (.t 1)),
 oo 40 (.ldI none (.t 39)),
 oo 41 (.len (.t 40)),
 oo 42 (.mov (ci 0))])
 (.block 0 (.loop xC)))
 (.seq (.ops false [
 oo 2 (.mov (ci 0))])
 (.ret)))))))
 [.t 2]
set_option maxRecDepth 100000 in
theorem xE : bL Try.prog 48 xD = true := by kernel_rfl
def a77 : bI := .mk 9
 (.seq (.ops false [
 oo 3 (.box (some 8) (.t 1) true),
 oo 4 (.mov (.c (.vec (some 8) [])))])
 (.seq (.seq (.ops false [
 oo 5 (.mov (.t 0)),
 oo 6 (.un .not (.t 5))])
 (.cond (.t 6)
 (.seq (.ops false [
 oo 4 (.mov (.c (.vec (some 8) [])))])
 (.ret))
 (.skip)))
 (.seq (.ops false [
 oo 7 (.ldI (some 8) (.t 3)),
 oo 8 (.bsliceI (some 8) [(.t 7)]),
 oo 4 (.mov (.t 8))])
 (.ret))))
 [.t 4]
set_option maxRecDepth 100000 in
theorem xF : bL Try.prog 77 a77 = true := by kernel_rfl
def xG : bI := .mk 25
 (.seq (.ops false [
 oo 3 (.box (some 4) (.t 1) true),
 oo 4 (.mov (.c (.bool false)))])
 (.seq (.ops true [
 oo 5 (.faddr 1 (.t 3)),
 oo 6 (.ldI none (.t 5)),
 oo 7 (.bin .geq (.t 6) (ci 0)),
 oo 8 (.mov (.t 7)),
 ⟨some 9, .faddr 1 (.t 3), some (8, true)⟩,
 ⟨some 10, .ldI none (.t 9), some (8, true)⟩,
 ⟨some 11, .mov (.t 0), some (8, true)⟩,
 ⟨some 12, .len (.t 11), some (8, true)⟩,
 ⟨some 13, .bin .lss (.t 10) (.t 12), some (8, true)⟩,
 oo 14 (.pick (.t 8) (.t 13) (.c (.bool false))),
 oo 15 (.mov (.t 14)),
 ⟨some 16, .mov (.t 0), some (15, true)⟩,
 ⟨some 17, .faddr 1 (.t 3), some (15, true)⟩,
 ⟨some 18, .ldI none (.t 17), some (15, true)⟩,
 ⟨some 19, .iaddr none (.t 16) (.t 18), some (15, true)⟩,
 ⟨some 20, .load none (.t 19), some (15, true)⟩,
 ⟨some 21, .faddr 2 (.t 3), some (15, true)⟩,
 ⟨some 22, .ldI none (.t 21), some (15, true)⟩,
 ⟨some 23, .bin .eql (.t 20) (.t 22), some (15, true)⟩,
 oo 24 (.pick (.t 15) (.t 23) (.c (.bool false))),
 oo 4 (.mov (.t 24))])
 (.ret)))
 [.t 4]
set_option maxRecDepth 100000 in
theorem xH : bL Try.prog 54 xG = true := by kernel_rfl
def xI : bI := .mk 9
 (.seq (.ops false [
 oo 2 (.mov (.c (.bool false)))])
 (.seq (.ops false [
 oo 3 (.mov (.t 0)),
 oo 4 (.bin .geq (.t 3) (ci 0)),
 oo 5 (.mov (.t 4)),
 ⟨some 6, .mov (.t 0), some (5, true)⟩,
 ⟨some 7, .bin .lss (.t 6) (ci 8), some (5, true)⟩,
 oo 8 (.pick (.t 5) (.t 7) (.c (.bool false))),
 oo 2 (.mov (.t 8))])
 (.ret)))
 [.t 2]
set_option maxRecDepth 100000 in
theorem xJ : bL Try.prog 100 xI = true := by kernel_rfl
def xK : bI := .mk 13
 (.seq (.ops false [
 oo 3 (.box (some 8) (.t 0) false),
 oo 6 (.alloc [.int .u16 0, .int .u16 0, .int .u16 0, .int .u16 0, .int .u16 0, .int .u16 0, .int .u16 0, .int .u16 0])])
 (.seq (.seq (.ops false [
 oo 7 (.mov (.t 1)),
 oo 8 (.call false 100 [(.t 7)])])
 (.cond (.t 8)
 (.ops false [
 oo 9 (.mov (.t 1)),
 oo 10 (.mov (.t 2)),
 oo 11 (.iaddrA 8 none (.t 3) (.t 9)),
 ⟨none, .store none (.t 11) (.t 10), none⟩])
 (.skip)))
 (.seq (.ops false [
 oo 12 (.load (some 8) (.t 3)),
 ⟨none, .store (some 8) (.t 6) (.t 12), none⟩])
 (.ret))))
 [.cell 6 (some 8)]
set_option maxRecDepth 100000 in
theorem xL : bL Try.prog 78 xK = true := by kernel_rfl
def xM : bI := .mk 8
 (.seq (.ops false [
 oo 2 (.mov (.c (.nils)))])
 (.seq (.seq (.ops false [
 oo 3 (.mov (.t 0)),
 oo 4 (.eqN false 1 (.t 3) (.c (.nils)))])
 (.cond (.t 4)
 (.seq (.ops false [
 oo 2 (.mov (.c (.nils)))])
 (.ret))
 (.skip)))
 (.seq (.ops false [
 oo 5 (.bslice (some 8) [] true),
 oo 6 (.mov (.t 0)),
 oo 7 (.append (some 8) (.t 5) (.t 6) true),
 oo 2 (.mov (.t 7))])
 (.ret))))
 [.t 2]
set_option maxRecDepth 100000 in
theorem oF : bL Try.prog 93 xM = true := by kernel_rfl
def xN : bI := .mk 6
 (.seq (.ops false [
 oo 2 (.mov (.c (.bool false)))])
 (.seq (.ops false [
 oo 3 (.mov (.t 0)),
 oo 4 (.mov (.t 0)),
 oo 5 (.bin .neq (.t 3) (.t 4)),
 oo 2 (.mov (.t 5))])
 (.ret)))
 [.t 2]
set_option maxRecDepth 100000 in
theorem xO : bL Try.prog 136 xN = true := by kernel_rfl
def xP : bI := .mk 20
 (.seq (.ops false [
 oo 4 (.mov (ci 0))])
 (.seq (.ops false [
 oo 7 (.mov (.t 0)),
 oo 8 (.call false 136 [(.t 7)]),
 oo 5 (.mov (.t 8))])
 (.seq (.ops false [
 oo 9 (.mov (.t 1)),
 oo 10 (.call false 136 [(.t 9)]),
 oo 6 (.mov (.t 10))])
 (.seq (.seq (.ops false [
 oo 11 (.mov (.t 5))])
 (.cond (.t 11)
 (.seq (.seq (.ops false [
 oo 12 (.mov (.t 6))])
 (.cond (.t 12)
 (.seq (.ops false [
 oo 4 (.mov (ci 0))])
 (.ret))
 (.skip)))
 (.seq (.ops false [
 oo 4 (.mov (ci (-1)))])
 (.ret)))
 (.skip)))
 (.seq (.seq (.ops false [
 oo 13 (.mov (.t 6))])
 (.cond (.t 13)
 (.seq (.ops false [
 oo 4 (.mov (ci 1))])
 (.ret))
 (.skip)))
 (.seq (.seq (.ops false [
 oo 14 (.mov (.t 0)),
 oo 15 (.mov (.t 1)),
 oo 16 (.bin .lss (.t 14) (.t 15))])
 (.cond (.t 16)
 (.seq (.ops false [
 oo 4 (.mov (ci (-1)))])
 (.ret))
 (.skip)))
 (.seq (.seq (.ops false [
 oo 17 (.mov (.t 0)),
 oo 18 (.mov (.t 1)),
 oo 19 (.bin .gtr (.t 17) (.t 18))])
 (.cond (.t 19)
 (.seq (.ops false [
 oo 4 (.mov (ci 1))])
 (.ret))
 (.skip)))
 (.seq (.ops false [
 oo 4 (.mov (ci 0))])
 (.ret)))))))))
 [.t 4]
set_option maxRecDepth 100000 in
theorem xQ : bL Try.prog 123 xP = true := by kernel_rfl
def xR : bA :=
 (.seq (.ops false [
 oo 8 (.bin .lss (.t 7) (ci 8))])
 (.seq (.cond (.t 8)
 (.skip)
 (.exit 0))
 (.seq (.block 1 (.seq (.ops false [
 oo 9 (.mov (.t 7)),
 oo 5 (.mov (.t 9))])
 (.seq (.ops true [
 oo 10 (.mov (.t 5)),
 oo 11 (.iaddrA 8 none (.t 2) (.t 10)),
 oo 12 (.ldI none (.t 11)),
 oo 13 (.mov (.t 5)),
 oo 14 (.iaddrA 8 none (.t 3) (.t 13)),
 oo 15 (.ldI none (.t 14)),
 oo 16 (.call false 123 [(.t 12), (.t 15)]),
 oo 6 (.mov (.t 16))])
 (.seq (.ops false [
 oo 17 (.mov (.t 6)),
 oo 18 (.bin .neq (.t 17) (ci 0))])
 (.cond (.t 18)
 (.seq (.ops false [
 oo 19 (.mov (.t 6)),
 oo 4 (.mov (.t 19))])
 (.ret))
 (.skip))))))
 (.ops false [
 oo 20 (.bin .add (.t 7) (ci 1)),
 oo 7 (.mov (.t 20))]))))
def xS : bI := .mk 21
 (.seq (.ops false [
 oo 2 (.box (some 8) (.t 0) true),
 oo 3 (.box (some 8) (.t 1) true),
 oo 4 (.mov (ci 0))])
 (.seq (.seq (.ops false [
 oo 7 (.mov (ci 0))])
 (.block 0 (.loop xR)))
 (.seq (.ops false [
 oo 4 (.mov (ci 0))])
 (.ret))))
 [.t 4]
set_option maxRecDepth 100000 in
theorem xT : bL Try.prog 112 xS = true := by kernel_rfl
def xU : bA :=
 (.seq (.seq (.ops false [
 oo 29 (.mov (.t 5)),
 oo 30 (.mov (.t 4)),
 oo 31 (.len (.t 30)),
 oo 32 (.bin .lss (.t 29) (.t 31))])
 (.cond (.t 32)
 (.skip)
 (.exit 2)))
 (.seq (.block 3 (.seq (.ops true [
 oo 35 (.mov (.t 4)),
 oo 36 (.mov (.t 5)),
 oo 37 (.iaddr (some 8) (.t 35) (.t 36)),
 oo 38 (.load (some 8) (.t 37)),
 oo 39 (.mov (.t 4)),
 oo 40 (.mov (.t 5)),
 oo 41 (.bin .sub (.t 40) (ci 1)),
 oo 42 (.iaddr (some 8) (.t 39) (.t 41)),
 oo 43 (.load (some 8) (.t 42)),
 oo 44 (.eqS true [.int, .int, .int, .int, .int, .int, .int, .int] (.t 38) (.t 43))])
 (.cond (.t 44)
 (.seq (.ops false [
 oo 45 (.mov (.t 0)),
 oo 46 (.mov (.t 3)),
 oo 47 (.mov (.t 4)),
 oo 48 (.mov (.t 5)),
 oo 49 (.iaddr (some 8) (.t 47) (.t 48)),
 oo 50 (.load (some 8) (.t 49)),
 oo 51 (.iaddr (some 8) (.t 45) (.t 46)),
 ⟨none, .store (some 8) (.t 51) (.t 50), none⟩])
 (.ops false [
 oo 52 (.mov (.t 3)),
 oo 53 (.bin .add (.t 52) (ci 1)),
 oo 3 (.mov (.t 53))]))
 (.skip))))
 (.ops false [
 oo 33 (.mov (.t 5)),
 oo 34 (.bin .add (.t 33) (ci 1)),
 oo 5 (.mov (.t 34))])))
def xV : bA :=
 (.seq (.seq (.ops false [
 oo 10 (.mov (.t 3)),
 oo 11 (.mov (.t 0)),
 oo 12 (.len (.t 11)),
 oo 13 (.bin .lss (.t 10) (.t 12))])
 (.cond (.t 13)
 (.skip)
 (.exit 0)))
 (.seq (.block 1 (.seq (.ops true [
 oo 16 (.mov (.t 0)),
 oo 17 (.mov (.t 3)),
 oo 18 (.iaddr (some 8) (.t 16) (.t 17)),
 oo 19 (.load (some 8) (.t 18)),
 oo 20 (.mov (.t 0)),
 oo 21 (.mov (.t 3)),
 oo 22 (.bin .sub (.t 21) (ci 1)),
 oo 23 (.iaddr (some 8) (.t 20) (.t 22)),
 oo 24 (.load (some 8) (.t 23)),
 oo 25 (.eqS false [.int, .int, .int, .int, .int, .int, .int, .int] (.t 19) (.t 24))])
 (.cond (.t 25)
 (.seq (.ops false [
 oo 26 (.mov (.t 0)),
 oo 27 (.mov (.t 3)),
 oo 28 (.slc (some 8) (.t 26) (some (.t 27)) none),
 oo 4 (.mov (.t 28))])
 (.seq (.seq (.ops false [
 oo 5 (.mov (ci 1))])
 (.block 2 (.loop xU)))
 (.seq (.ops false [
 oo 54 (.mov (.t 0)),
 oo 55 (.mov (.t 3)),
 oo 56 (.slc (some 8) (.t 54) (some (.t 55)) none),
 ⟨none, .clear (some 8) [.int .u16 0, .int .u16 0, .int .u16 0, .int .u16 0, .int .u16 0, .int .u16 0, .int .u16 0, .int .u16 0] (.t 56), none⟩])
 (.seq (.ops false [
 oo 57 (.mov (.t 0)),
 oo 58 (.mov (.t 3)),
 oo 59 (.slc (some 8) (.t 57) none (some (.t 58))),
 oo 2 (.mov (.t 59))])
 (.ret)))))
 (.skip))))
 (.ops false [
 oo 14 (.mov (.t 3)),
 oo 15 (.bin .add (.t 14) (ci 1)),
 oo 3 (.mov (.t 15))])))
def xW : bI := .mk 61
 (.seq (.ops false [
 oo 2 (.mov (.c (.nils)))])
 (.seq (.seq (.ops false [
 oo 6 (.mov (.t 0)),
 oo 7 (.len (.t 6)),
 oo 8 (.bin .lss (.t 7) (ci 2))])
 (.cond (.t 8)
 (.seq (.ops false [
 oo 9 (.mov (.t 0)),
 oo 2 (.mov (.t 9))])
 (.ret))
 (.skip)))
 (.seq (.seq (.ops false [
 oo 3 (.mov (ci 1))])
 (.block 0 (.loop xV)))
 (.seq (.ops false [
 oo 60 (.mov (.t 0)),
 oo 2 (.mov (.t 60))])
 (.ret)))))
 [.t 2]
set_option maxRecDepth 100000 in
theorem xX : bL Try.prog 113 xW = true := by kernel_rfl
def xY : bI := .mk 9
 (.seq (.ops false [
 oo 2 (.mov (.c (.nils)))])
 (.seq (.ops false [
 oo 3 (.mov (.t 0)),
 oo 4 (.call true 93 [(.t 3)]),
 oo 0 (.mov (.t 4))])
 (.seq (.ops false [
 oo 5 (.mov (.t 0)),
 oo 6 (.call true 111 [(.t 5), (.c (.func 112 []))])])
 (.seq (.ops false [
 oo 7 (.mov (.t 0)),
 oo 8 (.call true 113 [(.t 7)]),
 oo 2 (.mov (.t 8))])
 (.ret)))))
 [.t 2]
set_option maxRecDepth 100000 in
theorem xZ : bL Try.prog 101 xY = true := by kernel_rfl
def ya : bI := .mk 11
 (.seq (.ops false [
 oo 2 (.mov (.c (.nils)))])
 (.seq (.ops false [
 oo 3 (.mov (.t 0)),
 oo 4 (.call true 101 [(.t 3)]),
 oo 0 (.mov (.t 4))])
 (.seq (.seq (.ops false [
 oo 5 (.mov (.t 0)),
 oo 6 (.len (.t 5)),
 oo 7 (.bin .gtr (.t 6) (ci 64))])
 (.cond (.t 7)
 (.any)
 (.skip)))
 (.seq (.ops false [
 oo 10 (.mov (.t 0)),
 oo 2 (.mov (.t 10))])
 (.ret)))))
 [.t 2]
set_option maxRecDepth 100000 in
theorem yb : bL Try.prog 79 ya = true := by kernel_rfl
def yc : bA :=
 (.seq (.ops false [
 oo 68 (.bin .lss (.t 67) (.t 66))])
 (.seq (.cond (.t 68)
 (.skip)
 (.exit 1))
 (.seq (.block 2 (.seq (.ops false [
 oo 69 (.iaddr (some 4) (.t 65) (.t 67)),
 oo 70 (.load (some 4) (.t 69)),
 oo 9 (.alloc [.int .i64 0, .int .i64 0, .int .u16 0, .vec (some 4) []]),
 ⟨none, .store (some 4) (.t 9) (.t 70), none⟩])
 (.ops false [
 oo 71 (.mov (.t 7)),
 oo 72 (.load (some 4) (.t 9)),
 oo 73 (.mov (.t 1)),
 oo 74 (.ldI (some 8) (.t 5)),
 oo 75 (.call false 50 [(.t 72), (.t 73), (.t 74)]),
 oo 76 (.append (some 8) (.t 71) (.t 75) false),
 oo 77 (.call true 79 [(.t 76)]),
 oo 7 (.mov (.t 77))])))
 (.ops false [
 oo 78 (.bin .add (.t 67) (ci 1)),
 oo 67 (.mov (.t 78))]))))
def yd : bA :=
 (.seq (.ops false [
 oo 94 (.bin .lss (.t 93) (.t 92))])
 (.seq (.cond (.t 94)
 (.skip)
 (.exit 5))
 (.seq (.block 6 (.seq (.ops false [
 oo 95 (.iaddr (some 8) (.t 91) (.t 93)),
 oo 96 (.load (some 8) (.t 95)),
 oo 15 (.alloc [.int .u16 0, .int .u16 0, .int .u16 0, .int .u16 0, .int .u16 0, .int .u16 0, .int .u16 0, .int .u16 0]),
 ⟨none, .store (some 8) (.t 15) (.t 96), none⟩])
 (.ops false [
 oo 97 (.mov (.t 13)),
 oo 98 (.load (some 4) (.t 12)),
 oo 99 (.mov (.t 1)),
 oo 100 (.load (some 8) (.t 15)),
 oo 101 (.call false 50 [(.t 98), (.t 99), (.t 100)]),
 oo 102 (.append (some 8) (.t 97) (.t 101) false),
 oo 13 (.mov (.t 102))])))
 (.ops false [
 oo 103 (.bin .add (.t 93) (ci 1)),
 oo 93 (.mov (.t 103))]))))
def ye : bA :=
 (.seq (.ops false [
 oo 88 (.bin .lss (.t 87) (.t 86))])
 (.seq (.cond (.t 88)
 (.skip)
 (.exit 3))
 (.seq (.block 4 (.seq (.ops false [
 oo 89 (.iaddr (some 4) (.t 85) (.t 87)),
 oo 90 (.load (some 4) (.t 89)),
 oo 12 (.alloc [.int .i64 0, .int .i64 0, .int .u16 0, .vec (some 4) []]),
 ⟨none, .store (some 4) (.t 12) (.t 90), none⟩])
 (.seq (.ops false [
 oo 13 (.mov (.c (.nils)))])
 (.seq (.seq (.ops false [
 oo 91 (.mov (.t 10)),
 oo 92 (.len (.t 91)),
 oo 93 (.mov (ci 0))])
 (.block 5 (.loop yd)))
 (.ops false [
 oo 104 (.mov (.t 13)),
 oo 105 (.call true 79 [(.t 104)]),
 oo 10 (.mov (.t 105))])))))
 (.ops false [
 oo 106 (.bin .add (.t 87) (ci 1)),
 oo 87 (.mov (.t 106))]))))
def a50 : bI := .mk 108
 (.seq (.ops false [
 oo 3 (.box (some 4) (.t 0) true),
 oo 5 (.box (some 8) (.t 2) true),
 oo 6 (.mov (.c (.vec (some 8) [])))])
 (.seq (.seq (.ops false [
 oo 16 (.faddr 0 (.t 3)),
 oo 17 (.ldI none (.t 16))])
 (.block 0 (.seq (.ops false [
 oo 19 (.bin .eql (.t 17) (ci 1)),
 oo 18 (.mov (.t 19))])
 (.cond (.t 18)
 (.seq (.ops false [
 oo 20 (.ldI (some 8) (.t 5)),
 oo 21 (.call false 77 [(.c (.bool true)), (.t 20)]),
 oo 6 (.mov (.t 21))])
 (.ret))
 (.seq (.ops false [
 oo 23 (.bin .eql (.t 17) (ci 2)),
 oo 22 (.mov (.t 23))])
 (.cond (.t 22)
 (.seq (.ops true [
 oo 24 (.faddr 1 (.t 3)),
 oo 25 (.ldI none (.t 24)),
 oo 26 (.iaddrA 8 none (.t 5) (.t 25)),
 oo 27 (.ldI none (.t 26)),
 oo 28 (.faddr 2 (.t 3)),
 oo 29 (.ldI none (.t 28)),
 oo 30 (.bin .eql (.t 27) (.t 29)),
 oo 31 (.ldI (some 8) (.t 5)),
 oo 32 (.call false 77 [(.t 30), (.t 31)]),
 oo 6 (.mov (.t 32))])
 (.ret))
 (.seq (.ops false [
 oo 34 (.bin .eql (.t 17) (ci 3)),
 oo 33 (.mov (.t 34))])
 (.cond (.t 33)
 (.seq (.ops true [
 oo 35 (.mov (.t 1)),
 oo 36 (.ldI (some 4) (.t 3)),
 oo 37 (.call false 54 [(.t 35), (.t 36)]),
 oo 38 (.ldI (some 8) (.t 5)),
 oo 39 (.call false 77 [(.t 37), (.t 38)]),
 oo 6 (.mov (.t 39))])
 (.ret))
 (.seq (.ops false [
 oo 41 (.bin .eql (.t 17) (ci 4)),
 oo 40 (.mov (.t 41))])
 (.cond (.t 40)
 (.seq (.ops true [
 oo 42 (.faddr 3 (.t 3)),
 oo 43 (.ldI none (.t 42)),
 oo 44 (.iaddr (some 4) (.t 43) (ci 0)),
 oo 45 (.load (some 4) (.t 44)),
 oo 46 (.mov (.t 1)),
 oo 47 (.ldI (some 8) (.t 5)),
 oo 48 (.call false 50 [(.t 45), (.t 46), (.t 47)]),
 oo 49 (.len (.t 48)),
 oo 50 (.bin .eql (.t 49) (ci 0)),
 oo 51 (.ldI (some 8) (.t 5)),
 oo 52 (.call false 77 [(.t 50), (.t 51)]),
 oo 6 (.mov (.t 52))])
 (.ret))
 (.seq (.ops false [
 oo 54 (.bin .eql (.t 17) (ci 5)),
 oo 53 (.mov (.t 54))])
 (.cond (.t 53)
 (.seq (.ops false [
 oo 55 (.ldI (some 8) (.t 5)),
 oo 56 (.faddr 1 (.t 3)),
 oo 57 (.ldI none (.t 56)),
 oo 58 (.faddr 2 (.t 3)),
 oo 59 (.ldI none (.t 58)),
 oo 60 (.call false 78 [(.t 55), (.t 57), (.t 59)]),
 oo 61 (.call false 77 [(.c (.bool true)), (.t 60)]),
 oo 6 (.mov (.t 61))])
 (.ret))
 (.seq (.ops false [
 oo 63 (.bin .eql (.t 17) (ci 7)),
 oo 62 (.mov (.t 63))])
 (.cond (.t 62)
 (.seq (.ops false [
 oo 7 (.mov (.c (.nils)))])
 (.seq (.seq (.ops false [
 oo 64 (.faddr 3 (.t 3)),
 oo 65 (.ldI none (.t 64)),
 oo 66 (.len (.t 65)),
 oo 67 (.mov (ci 0))])
 (.block 1 (.loop yc)))
 (.seq (.ops false [
 oo 79 (.mov (.t 7)),
 oo 6 (.mov (.t 79))])
 (.ret))))
 (.seq (.ops false [
 oo 81 (.bin .eql (.t 17) (ci 6)),
 oo 80 (.mov (.t 81))])
 (.cond (.t 80)
 (.seq (.ops false [
 oo 82 (.ldI (some 8) (.t 5)),
 oo 83 (.call false 77 [(.c (.bool true)), (.t 82)]),
 oo 10 (.mov (.t 83))])
 (.seq (.seq (.ops false [
 oo 84 (.faddr 3 (.t 3)),
 oo 85 (.ldI none (.t 84)),
 oo 86 (.len (.t 85)),
 oo 87 (.mov (ci 0))])
 (.block 3 (.loop ye)))
 (.seq (.ops false [
 oo 107 (.mov (.t 10)),
 oo 6 (.mov (.t 107))])
 (.ret))))
 (.skip)))))))))))))))))
 (.seq (.ops false [
 oo 6 (.mov (.c (.vec (some 8) [])))])
 (.ret))))
 [.t 6]
set_option maxRecDepth 100000 in
theorem yf : bL Try.prog 50 a50 = true := by kernel_rfl
def yg : bA :=
 (.seq (.ops false [
 oo 17 (.bin .lss (.t 16) (.t 15))])
 (.seq (.cond (.t 17)
 (.skip)
 (.exit 0))
 (.seq (.block 1 (.seq (.ops false [
 oo 18 (.iaddr (some 4) (.t 14) (.t 16)),
 oo 19 (.load (some 4) (.t 18)),
 oo 6 (.alloc [.int .i64 0, .int .i64 0, .int .u16 0, .int .u8 0]),
 ⟨none, .store (some 4) (.t 6) (.t 19), none⟩])
 (.seq (.ops false [
 oo 20 (.mov (.t 4)),
 oo 21 (.len (.t 20)),
 oo 7 (.mov (.t 21))])
 (.block 2 (.seq (.ops false [
 oo 23 (.faddr 0 (.t 6)),
 oo 24 (.load none (.t 23)),
 oo 25 (.bin .eql (.t 24) (ci 0)),
 oo 26 (.mov (.t 25)),
 ⟨some 27, .faddr 0 (.t 6), some (26, false)⟩,
 ⟨some 28, .load none (.t 27), some (26, false)⟩,
 ⟨some 29, .bin .eql (.t 28) (ci 1), some (26, false)⟩,
 oo 30 (.pick (.t 26) (.c (.bool true)) (.t 29)),
 oo 22 (.mov (.t 30))])
 (.cond (.t 22)
 (.ops false [
 oo 31 (.mov (.t 4)),
 oo 32 (.faddr 0 (.t 6)),
 oo 33 (.load none (.t 32)),
 oo 34 (.build [.int .i64 0, .int .i64 0, .int .u16 0, .vec (some 4) []] [(0, 1, (.t 33))]),
 oo 35 (.bsliceI (some 4) [(.t 34)]),
 oo 36 (.append (some 4) (.t 31) (.t 35) true),
 oo 4 (.mov (.t 36))])
 (.seq (.ops false [
 oo 38 (.faddr 0 (.t 6)),
 oo 39 (.load none (.t 38)),
 oo 40 (.bin .eql (.t 39) (ci 2)),
 oo 41 (.mov (.t 40)),
 ⟨some 42, .faddr 0 (.t 6), some (41, false)⟩,
 ⟨some 43, .load none (.t 42), some (41, false)⟩,
 ⟨some 44, .bin .eql (.t 43) (ci 3), some (41, false)⟩,
 oo 45 (.pick (.t 41) (.c (.bool true)) (.t 44)),
 oo 46 (.mov (.t 45)),
 ⟨some 47, .faddr 0 (.t 6), some (46, false)⟩,
 ⟨some 48, .load none (.t 47), some (46, false)⟩,
 ⟨some 49, .bin .eql (.t 48) (ci 5), some (46, false)⟩,
 oo 50 (.pick (.t 46) (.c (.bool true)) (.t 49)),
 oo 37 (.mov (.t 50))])
 (.cond (.t 37)
 (.ops false [
 oo 51 (.mov (.t 4)),
 oo 52 (.faddr 0 (.t 6)),
 oo 53 (.load none (.t 52)),
 oo 54 (.faddr 1 (.t 6)),
 oo 55 (.load none (.t 54)),
 oo 56 (.faddr 2 (.t 6)),
 oo 57 (.load none (.t 56)),
 oo 58 (.build [.int .i64 0, .int .i64 0, .int .u16 0, .vec (some 4) []] [(0, 1, (.t 53)), (1, 1, (.t 55)), (2, 1, (.t 57))]),
 oo 59 (.bsliceI (some 4) [(.t 58)]),
 oo 60 (.append (some 4) (.t 51) (.t 59) true),
 oo 4 (.mov (.t 60))])
 (.seq (.ops false [
 oo 62 (.faddr 0 (.t 6)),
 oo 63 (.load none (.t 62)),
 oo 64 (.bin .eql (.t 63) (ci 4)),
 oo 65 (.mov (.t 64)),
 ⟨some 66, .mov (.t 7), some (65, true)⟩,
 ⟨some 67, .bin .gtr (.t 66) (ci 0), some (65, true)⟩,
 oo 68 (.pick (.t 65) (.t 67) (.c (.bool false))),
 oo 61 (.mov (.t 68))])
 (.cond (.t 61)
 (.ops false [
 oo 69 (.mov (.t 4)),
 oo 70 (.mov (.t 7)),
 oo 71 (.bin .sub (.t 70) (ci 1)),
 oo 72 (.mov (.t 4)),
 oo 73 (.mov (.t 7)),
 oo 74 (.bin .sub (.t 73) (ci 1)),
 oo 75 (.iaddr (some 4) (.t 72) (.t 74)),
 oo 76 (.load (some 4) (.t 75)),
 oo 77 (.bsliceI (some 4) [(.t 76)]),
 oo 78 (.build [.int .i64 0, .int .i64 0, .int .u16 0, .vec (some 4) []] [(0, 1, (ci 4)), (3, 1, (.t 77))]),
 oo 79 (.iaddr (some 4) (.t 69) (.t 71)),
 ⟨none, .store (some 4) (.t 79) (.t 78), none⟩])
 (.seq (.ops false [
 oo 81 (.faddr 0 (.t 6)),
 oo 82 (.load none (.t 81)),
 oo 83 (.bin .eql (.t 82) (ci 6)),
 oo 84 (.mov (.t 83)),
 ⟨some 85, .faddr 0 (.t 6), some (84, false)⟩,
 ⟨some 86, .load none (.t 85), some (84, false)⟩,
 ⟨some 87, .bin .eql (.t 86) (ci 7), some (84, false)⟩,
 oo 88 (.pick (.t 84) (.c (.bool true)) (.t 87)),
 oo 80 (.mov (.t 88))])
 (.cond (.t 80)
 (.seq (.ops false [
 oo 89 (.faddr 3 (.t 6)),
 oo 90 (.load none (.t 89)),
 oo 91 (.convI .i64 (.t 90)),
 oo 92 (.mov (.t 7)),
 oo 93 (.min2 (.t 91) (.t 92)),
 oo 8 (.mov (.t 93))])
 (.seq (.ops false [
 oo 94 (.bslice (some 4) [] false),
 oo 95 (.mov (.t 4)),
 oo 96 (.mov (.t 7)),
 oo 97 (.mov (.t 8)),
 oo 98 (.bin .sub (.t 96) (.t 97)),
 oo 99 (.slc (some 4) (.t 95) (some (.t 98)) none),
 oo 100 (.append (some 4) (.t 94) (.t 99) false),
 oo 9 (.mov (.t 100))])
 (.opsS [(4, 9)] [
 oo 101 (.mov (.t 4)),
 oo 102 (.mov (.t 7)),
 oo 103 (.mov (.t 8)),
 oo 104 (.bin .sub (.t 102) (.t 103)),
 oo 105 (.slc (some 4) (.t 101) none (some (.t 104))),
 oo 106 (.faddr 0 (.t 6)),
 oo 107 (.load none (.t 106)),
 oo 108 (.mov (.t 9)),
 oo 109 (.build [.int .i64 0, .int .i64 0, .int .u16 0, .vec (some 4) []] [(0, 1, (.t 107)), (3, 1, (.t 108))]),
 oo 110 (.bsliceV (some 4) [(.t 109)] false),
 oo 111 (.appendC (some 4) (.t 105) (.t 110) true),
 oo 4 (.mov (.t 111))])))
 (.skip)))))))))))))
 (.ops false [
 oo 112 (.bin .add (.t 16) (ci 1)),
 oo 16 (.mov (.t 112))]))))
def yh : bI := .mk 123
 (.seq (.ops false [
 oo 2 (.alloc [.int .i64 0, .int .i64 0, .int .u16 0, .vec (some 4) []]),
 oo 3 (.mov (.c (.bool false)))])
 (.seq (.seq (.ops false [
 oo 10 (.mov (.t 0)),
 oo 11 (.len (.t 10)),
 oo 12 (.bin .gtr (.t 11) (ci 60))])
 (.cond (.t 12)
 (.seq (.ops false [
 oo 13 (.build [.int .i64 0, .int .i64 0, .int .u16 0, .vec (some 4) []] []),
 ⟨none, .store (some 4) (.t 2) (.t 13), none⟩,
 oo 3 (.mov (.c (.bool false)))])
 (.ret))
 (.skip)))
 (.seq (.ops false [
 oo 4 (.mov (.c (.nils)))])
 (.seq (.seq (.ops false [
 oo 14 (.mov (.t 0)),
 oo 15 (.len (.t 14)),
 oo 16 (.mov (ci 0))])
 (.block 0 (.loop yg)))
 (.seq (.seq (.ops false [
 oo 113 (.mov (.t 4)),
 oo 114 (.len (.t 113)),
 oo 115 (.bin .eql (.t 114) (ci 0))])
 (.cond (.t 115)
 (.seq (.ops false [
 oo 116 (.build [.int .i64 0, .int .i64 0, .int .u16 0, .vec (some 4) []] []),
 ⟨none, .store (some 4) (.t 2) (.t 116), none⟩,
 oo 3 (.mov (.c (.bool false)))])
 (.ret))
 (.skip)))
 (.seq (.ops false [
 oo 117 (.mov (.t 4)),
 oo 118 (.mov (.t 4)),
 oo 119 (.len (.t 118)),
 oo 120 (.bin .sub (.t 119) (ci 1)),
 oo 121 (.iaddr (some 4) (.t 117) (.t 120)),
 oo 122 (.load (some 4) (.t 121)),
 ⟨none, .store (some 4) (.t 2) (.t 122), none⟩,
 oo 3 (.mov (.c (.bool true)))])
 (.ret)))))))
 [.cell 2 (some 4), .t 3]
set_option maxRecDepth 100000 in
theorem yi : bL Try.prog 13 yh = true := by kernel_rfl
def yj : bA :=
 (.seq (.seq (.ops false [
 oo 5 (.mov (.t 4)),
 oo 6 (.faddr 3 (.t 1)),
 oo 7 (.ldI none (.t 6)),
 oo 8 (.len (.t 7)),
 oo 9 (.bin .lss (.t 5) (.t 8))])
 (.cond (.t 9)
 (.skip)
 (.exit 0)))
 (.seq (.block 1 (.ops false [
 oo 12 (.mov (.t 3)),
 oo 13 (.faddr 3 (.t 1)),
 oo 14 (.ldI none (.t 13)),
 oo 15 (.mov (.t 4)),
 oo 16 (.iaddr (some 4) (.t 14) (.t 15)),
 oo 17 (.load (some 4) (.t 16)),
 oo 18 (.call false 53 [(.t 17)]),
 oo 19 (.max2 (.t 12) (.t 18)),
 oo 3 (.mov (.t 19))]))
 (.ops false [
 oo 10 (.mov (.t 4)),
 oo 11 (.bin .add (.t 10) (ci 1)),
 oo 4 (.mov (.t 11))])))
def a53 : bI := .mk 22
 (.seq (.ops false [
 oo 1 (.box (some 4) (.t 0) true),
 oo 2 (.mov (ci 0))])
 (.seq (.ops false [
 oo 3 (.mov (ci 0))])
 (.seq (.seq (.ops false [
 oo 4 (.mov (ci 0))])
 (.block 0 (.loop yj)))
 (.seq (.ops false [
 oo 20 (.mov (.t 3)),
 oo 21 (.bin .add (.t 20) (ci 1)),
 oo 2 (.mov (.t 21))])
 (.ret)))))
 [.t 2]
def yk : bA :=
 (.seq (.seq (.ops false [
 oo 25 (.mov (.t 3)),
 oo 26 (.faddr 3 (.t 1)),
 oo 27 (.ldI none (.t 26)),
 oo 28 (.len (.t 27)),
 oo 29 (.bin .lss (.t 25) (.t 28))])
 (.cond (.t 29)
 (.skip)
 (.exit 0)))
 (.seq (.block 1 (.seq (.ops false [
 oo 32 (.faddr 3 (.t 1)),
 oo 33 (.ldI none (.t 32)),
 oo 34 (.mov (.t 3)),
 oo 35 (.iaddr (some 4) (.t 33) (.t 34)),
 oo 36 (.load (some 4) (.t 35)),
 oo 37 (.call false 22 [(.t 36)]),
 oo 38 (.un .not (.t 37))])
 (.cond (.t 38)
 (.seq (.ops false [
 oo 2 (.mov (.c (.bool false)))])
 (.ret))
 (.skip))))
 (.ops false [
 oo 30 (.mov (.t 3)),
 oo 31 (.bin .add (.t 30) (ci 1)),
 oo 3 (.mov (.t 31))])))
def a22 : bI := .mk 39
 (.seq (.ops false [
 oo 1 (.box (some 4) (.t 0) true),
 oo 2 (.mov (.c (.bool false)))])
 (.seq (.seq (.ops false [
 oo 4 (.faddr 0 (.t 1)),
 oo 5 (.ldI none (.t 4)),
 oo 6 (.bin .eql (.t 5) (ci 5)),
 oo 7 (.mov (.t 6)),
 ⟨some 8, .faddr 0 (.t 1), some (7, false)⟩,
 ⟨some 9, .ldI none (.t 8), some (7, false)⟩,
 ⟨some 10, .bin .lss (.t 9) (ci 0), some (7, false)⟩,
 oo 11 (.pick (.t 7) (.c (.bool true)) (.t 10)),
 oo 12 (.mov (.t 11)),
 ⟨some 13, .faddr 0 (.t 1), some (12, false)⟩,
 ⟨some 14, .ldI none (.t 13), some (12, false)⟩,
 ⟨some 15, .bin .gtr (.t 14) (ci 7), some (12, false)⟩,
 oo 16 (.pick (.t 12) (.c (.bool true)) (.t 15))])
 (.cond (.t 16)
 (.seq (.ops false [
 oo 2 (.mov (.c (.bool false)))])
 (.ret))
 (.skip)))
 (.seq (.seq (.ops false [
 oo 17 (.faddr 0 (.t 1)),
 oo 18 (.ldI none (.t 17)),
 oo 19 (.bin .eql (.t 18) (ci 6)),
 oo 20 (.mov (.t 19)),
 ⟨some 21, .faddr 0 (.t 1), some (20, false)⟩,
 ⟨some 22, .ldI none (.t 21), some (20, false)⟩,
 ⟨some 23, .bin .eql (.t 22) (ci 7), some (20, false)⟩,
 oo 24 (.pick (.t 20) (.c (.bool true)) (.t 23))])
 (.cond (.t 24)
 (.seq (.ops false [
 oo 3 (.mov (ci 0))])
 (.block 0 (.loop yk)))
 (.skip)))
 (.seq (.ops false [
 oo 2 (.mov (.c (.bool true)))])
 (.ret)))))
 [.t 2]
def yl : bA :=
 (.seq (.seq (.ops false [
 oo 6 (.mov (.t 5)),
 oo 7 (.bin .lss (.t 6) (ci 8))])
 (.cond (.t 7)
 (.skip)
 (.exit 0)))
 (.seq (.block 1 (.seq (.seq (.ops true [
 oo 10 (.mov (.t 5)),
 oo 11 (.iaddrA 8 none (.t 2) (.t 10)),
 oo 12 (.ldI none (.t 11)),
 oo 13 (.mov (.t 5)),
 oo 14 (.iaddrA 8 none (.t 3) (.t 13)),
 oo 15 (.ldI none (.t 14)),
 oo 16 (.bin .lss (.t 12) (.t 15))])
 (.cond (.t 16)
 (.seq (.ops false [
 oo 4 (.mov (ci (-1)))])
 (.ret))
 (.skip)))
 (.seq (.ops true [
 oo 17 (.mov (.t 5)),
 oo 18 (.iaddrA 8 none (.t 2) (.t 17)),
 oo 19 (.ldI none (.t 18)),
 oo 20 (.mov (.t 5)),
 oo 21 (.iaddrA 8 none (.t 3) (.t 20)),
 oo 22 (.ldI none (.t 21)),
 oo 23 (.bin .gtr (.t 19) (.t 22))])
 (.cond (.t 23)
 (.seq (.ops false [
 oo 4 (.mov (ci 1))])
 (.ret))
 (.skip)))))
 (.ops false [
 oo 8 (.mov (.t 5)),
 oo 9 (.bin .add (.t 8) (ci 1)),
 oo 5 (.mov (.t 9))])))
def ym : bI := .mk 24
 (.seq (.ops false [
 oo 2 (.box (some 8) (.t 0) true),
 oo 3 (.box (some 8) (.t 1) true),
 oo 4 (.mov (ci 0))])
 (.seq (.seq (.ops false [
 oo 5 (.mov (ci 0))])
 (.block 0 (.loop yl)))
 (.seq (.ops false [
 oo 4 (.mov (ci 0))])
 (.ret))))
 [.t 4]
set_option maxRecDepth 100000 in
theorem yn : bL Try.prog 69 ym = true := by kernel_rfl
def a3 : bI := .mk 63
 (.seq (.ops false [
 oo 5 (.box (some 8) (.t 2) true),
 oo 6 (.mov (.c (.bool false)))])
 (.seq (.seq (.ops false [
 oo 13 (.call false 12 []),
 oo 14 (.un .not (.t 13))])
 (.cond (.t 14)
 (.seq (.ops false [
 oo 6 (.mov (.c (.bool false)))])
 (.ret))
 (.skip)))
 (.seq (.ops false [
 oo 16 (.mov (.t 0)),
 oo 17 (.call false 13 [(.t 16)]),
 oo 15 (.mov (.t 17)),
 oo 18 (.extract (.t 15) 0),
 oo 19 (.extract (.t 15) 1),
 oo 7 (.alloc [.int .i64 0, .int .i64 0, .int .u16 0, .vec (some 4) []]),
 ⟨none, .store (some 4) (.t 7) (.t 18), none⟩,
 oo 8 (.mov (.t 19))])
 (.seq (.seq (.ops false [
 oo 20 (.mov (.t 8)),
 oo 21 (.un .not (.t 20)),
 oo 22 (.mov (.t 21)),
 ⟨some 23, .mov (.t 1), some (22, false)⟩,
 ⟨some 24, .len (.t 23), some (22, false)⟩,
 ⟨some 25, .bin .gtr (.t 24) (ci 6), some (22, false)⟩,
 oo 26 (.pick (.t 22) (.c (.bool true)) (.t 25))])
 (.cond (.t 26)
 (.seq (.ops false [
 oo 6 (.mov (.c (.bool true)))])
 (.ret))
 (.skip)))
 (.seq (.ops false [
 oo 28 (.load (some 4) (.t 7)),
 oo 29 (.mov (.t 1)),
 oo 30 (.ldI (some 8) (.t 5)),
 oo 31 (.call false 14 [(.t 28), (.t 29), (.t 30)]),
 oo 27 (.mov (.t 31)),
 oo 32 (.extract (.t 27) 0),
 oo 33 (.extract (.t 27) 1),
 oo 9 (.mov (.t 32)),
 oo 10 (.mov (.t 33))])
 (.seq (.ops false [
 oo 35 (.load (some 4) (.t 7)),
 oo 36 (.mov (.t 1)),
 oo 37 (.ldI (some 8) (.t 5)),
 oo 38 (.call false 15 [(.t 35), (.t 36), (.t 37)]),
 oo 34 (.mov (.t 38)),
 oo 39 (.extract (.t 34) 0),
 oo 40 (.extract (.t 34) 1),
 oo 11 (.mov (.t 39)),
 oo 12 (.mov (.t 40))])
 (.seq (.ops false [
 oo 41 (.mov (.t 10)),
 oo 42 (.mov (.t 12)),
 oo 43 (.bin .eql (.t 41) (.t 42)),
 oo 44 (.mov (.t 43)),
 ⟨some 45, .mov (.t 9), some (44, true)⟩,
 ⟨some 46, .mov (.t 11), some (44, true)⟩,
 ⟨some 47, .call false 16 [(.t 45), (.t 46)], some (44, true)⟩,
 oo 48 (.pick (.t 44) (.t 47) (.c (.bool false))),
 oo 49 (.mov (.t 48)),
 ⟨some 50, .load (some 4) (.t 7), some (49, true)⟩,
 ⟨some 51, .mov (.t 1), some (49, true)⟩,
 ⟨some 52, .ldI (some 8) (.t 5), some (49, true)⟩,
 ⟨some 53, .call false 17 [(.t 50), (.t 51), (.t 52)], some (49, true)⟩,
 ⟨some 54, .mov (.t 12), some (49, true)⟩,
 ⟨some 55, .bin .eql (.t 54) (ci 0), some (49, true)⟩,
 ⟨some 56, .mov (.t 55), some (49, true)⟩,
 ⟨some 57, .mov (.t 11), some (56, true)⟩,
 ⟨some 58, .len (.t 57), some (56, true)⟩,
 ⟨some 59, .bin .gtr (.t 58) (ci 0), some (56, true)⟩,
 ⟨some 60, .pick (.t 56) (.t 59) (.c (.bool false)), some (49, true)⟩,
 ⟨some 61, .eqB false (.t 53) (.t 60), some (49, true)⟩,
 oo 62 (.pick (.t 49) (.t 61) (.c (.bool false))),
 oo 6 (.mov (.t 62))])
 (.ret))))))))
 [.t 6]
def yo : bI := .mk 14
 (.seq (.ops false [
 oo 3 (.box (some 4) (.t 0) true),
 oo 5 (.box (some 8) (.t 2) true),
 oo 6 (.mov (.c (.vec (some 8) []))),
 oo 7 (.mov (ci 0))])
 (.seq (.ops false [
 oo 8 (.ldI (some 4) (.t 3)),
 oo 9 (.mov (.t 1)),
 oo 10 (.ldI (some 8) (.t 5)),
 oo 11 (.call false 14 [(.t 8), (.t 9), (.t 10)]),
 oo 12 (.extract (.t 11) 0),
 oo 13 (.extract (.t 11) 1),
 oo 6 (.mov (.t 12)),
 oo 7 (.mov (.t 13))])
 (.ret)))
 [.t 6, .t 7]
set_option maxRecDepth 100000 in
theorem yp : bL Try.prog 44 yo = true := by kernel_rfl
def yq : bI := .mk 21
 (.seq (.ops false [
 oo 4 (.mov (ci 0))])
 (.seq (.seq (.ops false [
 oo 5 (.mov (.t 0)),
 oo 6 (.nilchk (.t 5)),
 oo 7 (.faddr 8 (.t 6)),
 oo 8 (.load none (.t 7)),
 oo 9 (.len (.t 8)),
 oo 10 (.bin .eql (.t 9) (ci 200))])
 (.cond (.t 10)
 (.seq (.ops false [
 oo 4 (.mov (ci 24))])
 (.ret))
 (.skip)))
 (.seq (.ops false [
 oo 11 (.mov (.t 0)),
 oo 12 (.mov (.t 0)),
 oo 13 (.nilchk (.t 12)),
 oo 14 (.faddr 8 (.t 13)),
 oo 15 (.load none (.t 14)),
 oo 16 (.mov (.t 1)),
 oo 17 (.bsliceI none [(.t 16)]),
 oo 18 (.append none (.t 15) (.t 17) false),
 oo 19 (.nilchk (.t 11)),
 oo 20 (.faddr 8 (.t 19)),
 ⟨none, .store none (.t 20) (.t 18), none⟩])
 (.seq (.ops false [
 oo 4 (.mov (ci 0))])
 (.ret)))))
 [.t 4]
set_option maxRecDepth 100000 in
theorem yr : bL Try.prog 94 yq = true := by kernel_rfl
def yt : bI := .mk 8
 (.seq (.ops false [
 oo 1 (.box (some 8) (.t 0) true),
 oo 2 (.alloc [.int .u16 0, .int .u16 0])])
 (.seq (.ops false [
 oo 3 (.iaddrA 8 none (.t 1) (ci 0)),
 oo 4 (.ldI none (.t 3)),
 oo 5 (.iaddrA 8 none (.t 1) (ci 1)),
 oo 6 (.ldI none (.t 5)),
 oo 7 (.build [.int .u16 0, .int .u16 0] [(0, 1, (.t 4)), (1, 1, (.t 6))]),
 ⟨none, .store (some 2) (.t 2) (.t 7), none⟩])
 (.ret)))
 [.cell 2 (some 2)]
set_option maxRecDepth 100000 in
theorem yu : bL Try.prog 71 yt = true := by kernel_rfl
def yv : bA :=
 (.seq (.ops false [
 oo 12 (.bin .lss (.t 11) (.t 10))])
 (.seq (.cond (.t 12)
 (.skip)
 (.exit 0))
 (.seq (.block 1 (.seq (.ops false [
 oo 13 (.iaddr (some 4) (.t 9) (.t 11)),
 oo 14 (.load (some 4) (.t 13)),
 oo 7 (.alloc [.int .u16 0, .int .u16 0, .int .u16 0, .int .u16 0]),
 ⟨none, .store (some 4) (.t 7) (.t 14), none⟩])
 (.seq (.ops false [
 oo 15 (.ldI (some 2) (.t 3))])
 (.block 2 (.seq (.ops false [
 oo 17 (.iaddrA 2 (some 2) (.t 7) (ci 0)),
 oo 18 (.load (some 2) (.t 17)),
 oo 19 (.eqS false [.int, .int] (.t 15) (.t 18)),
 oo 16 (.mov (.t 19))])
 (.cond (.t 16)
 (.seq (.ops false [
 oo 20 (.iaddrA 2 (some 2) (.t 7) (ci 1)),
 oo 21 (.load (some 2) (.t 20)),
 ⟨none, .store (some 2) (.t 4) (.t 21), none⟩,
 oo 5 (.mov (.c (.bool true)))])
 (.ret))
 (.seq (.ops false [
 oo 23 (.iaddrA 2 (some 2) (.t 7) (ci 1)),
 oo 24 (.load (some 2) (.t 23)),
 oo 25 (.eqS false [.int, .int] (.t 15) (.t 24)),
 oo 22 (.mov (.t 25))])
 (.cond (.t 22)
 (.seq (.ops false [
 oo 26 (.iaddrA 2 (some 2) (.t 7) (ci 0)),
 oo 27 (.load (some 2) (.t 26)),
 ⟨none, .store (some 2) (.t 4) (.t 27), none⟩,
 oo 5 (.mov (.c (.bool true)))])
 (.ret))
 (.skip)))))))))
 (.ops false [
 oo 28 (.bin .add (.t 11) (ci 1)),
 oo 11 (.mov (.t 28))]))))
def yw : bI := .mk 30
 (.seq (.ops false [
 oo 2 (.box (some 3) (.t 0) true),
 oo 3 (.box (some 2) (.t 1) true),
 oo 4 (.alloc [.int .u16 0, .int .u16 0]),
 oo 5 (.mov (.c (.bool false)))])
 (.seq (.seq (.ops false [
 oo 8 (.faddr 1 (.t 2)),
 oo 9 (.ldI none (.t 8)),
 oo 10 (.len (.t 9)),
 oo 11 (.mov (ci 0))])
 (.block 0 (.loop yv)))
 (.seq (.ops false [
 oo 29 (.build [.int .u16 0, .int .u16 0] []),
 ⟨none, .store (some 2) (.t 4) (.t 29), none⟩,
 oo 5 (.mov (.c (.bool false)))])
 (.ret))))
 [.cell 4 (some 2), .t 5]
set_option maxRecDepth 100000 in
theorem yx : bL Try.prog 72 yw = true := by kernel_rfl
def yy : bI := .mk 12
 (.seq (.ops false [
 oo 2 (.box (some 8) (.t 0) false),
 oo 3 (.box (some 2) (.t 1) true),
 oo 4 (.alloc [.int .u16 0, .int .u16 0, .int .u16 0, .int .u16 0, .int .u16 0, .int .u16 0, .int .u16 0, .int .u16 0])])
 (.seq (.ops true [
 oo 5 (.faddr 0 (.t 3)),
 oo 6 (.ldI none (.t 5)),
 oo 7 (.faddr 1 (.t 3)),
 oo 8 (.ldI none (.t 7)),
 oo 9 (.iaddrA 8 none (.t 2) (ci 0)),
 ⟨none, .store none (.t 9) (.t 6), none⟩,
 oo 10 (.iaddrA 8 none (.t 2) (ci 1)),
 ⟨none, .store none (.t 10) (.t 8), none⟩])
 (.seq (.ops false [
 oo 11 (.load (some 8) (.t 2)),
 ⟨none, .store (some 8) (.t 4) (.t 11), none⟩])
 (.ret))))
 [.cell 4 (some 8)]
set_option maxRecDepth 100000 in
theorem yz : bL Try.prog 73 yy = true := by kernel_rfl
def yA : bA :=
 (.seq (.ops false [
 oo 9 (.bin .lss (.t 8) (.t 7))])
 (.seq (.cond (.t 9)
 (.skip)
 (.exit 0))
 (.seq (.block 1 (.seq (.ops false [
 oo 10 (.mov (.t 8)),
 oo 5 (.mov (.t 10))])
 (.seq (.ops true [
 oo 11 (.ldI (some 2) (.t 3)),
 oo 12 (.mov (.t 0)),
 oo 13 (.mov (.t 5)),
 oo 14 (.iaddr (some 2) (.t 12) (.t 13)),
 oo 15 (.load (some 2) (.t 14)),
 oo 16 (.eqS false [.int, .int] (.t 11) (.t 15))])
 (.cond (.t 16)
 (.seq (.ops false [
 oo 17 (.mov (.t 5)),
 oo 4 (.mov (.t 17))])
 (.ret))
 (.skip)))))
 (.ops false [
 oo 18 (.bin .add (.t 8) (ci 1)),
 oo 8 (.mov (.t 18))]))))
def yB : bI := .mk 19
 (.seq (.ops false [
 oo 3 (.box (some 2) (.t 1) true),
 oo 4 (.mov (ci 0))])
 (.seq (.seq (.ops false [
 oo 6 (.mov (.t 0)),
 oo 7 (.len (.t 6)),
 oo 8 (.mov (ci 0))])
 (.block 0 (.loop yA)))
 (.seq (.ops false [
 oo 4 (.mov (ci (-1)))])
 (.ret))))
 [.t 4]
set_option maxRecDepth 100000 in
theorem yC : bL Try.prog 108 yB = true := by kernel_rfl
def yD : bI := .mk 9
 (.seq (.ops false [
 oo 3 (.box (some 2) (.t 1) true),
 oo 4 (.mov (.c (.bool false)))])
 (.seq (.ops false [
 oo 5 (.mov (.t 0)),
 oo 6 (.ldI (some 2) (.t 3)),
 oo 7 (.call false 108 [(.t 5), (.t 6)]),
 oo 8 (.bin .geq (.t 7) (ci 0)),
 oo 4 (.mov (.t 8))])
 (.ret)))
 [.t 4]
set_option maxRecDepth 100000 in
theorem yE : bL Try.prog 96 yD = true := by kernel_rfl
def yF : bI := .mk 9
 (.seq (.ops false [
 oo 2 (.box (some 3) (.t 0) true),
 oo 3 (.box (some 2) (.t 1) true),
 oo 4 (.mov (.c (.bool false)))])
 (.seq (.ops false [
 oo 5 (.faddr 2 (.t 2)),
 oo 6 (.ldI none (.t 5)),
 oo 7 (.ldI (some 2) (.t 3)),
 oo 8 (.call false 96 [(.t 6), (.t 7)]),
 oo 4 (.mov (.t 8))])
 (.ret)))
 [.t 4]
set_option maxRecDepth 100000 in
theorem yG : bL Try.prog 74 yF = true := by kernel_rfl
def a45 : bI := .mk 26
 (.seq (.ops false [
 oo 2 (.box (some 3) (.t 0) true),
 oo 3 (.box (some 8) (.t 1) true),
 oo 4 (.alloc [.int .u16 0, .int .u16 0, .int .u16 0, .int .u16 0, .int .u16 0, .int .u16 0, .int .u16 0, .int .u16 0]),
 oo 5 (.mov (ci 0))])
 (.seq (.ops false [
 oo 9 (.ldI (some 8) (.t 3)),
 oo 10 (.call false 71 [(.t 9)]),
 oo 6 (.alloc [.int .u16 0, .int .u16 0]),
 ⟨none, .store (some 2) (.t 6) (.t 10), none⟩])
 (.seq (.seq (.ops false [
 oo 12 (.ldI (some 3) (.t 2)),
 oo 13 (.load (some 2) (.t 6)),
 oo 14 (.call false 72 [(.t 12), (.t 13)]),
 oo 11 (.mov (.t 14)),
 oo 15 (.extract (.t 11) 0),
 oo 16 (.extract (.t 11) 1),
 oo 7 (.alloc [.int .u16 0, .int .u16 0]),
 ⟨none, .store (some 2) (.t 7) (.t 15), none⟩,
 oo 8 (.mov (.t 16))])
 (.seq (.ops false [
 oo 17 (.mov (.t 8))])
 (.cond (.t 17)
 (.seq (.ops false [
 oo 18 (.ldI (some 8) (.t 3)),
 oo 19 (.load (some 2) (.t 7)),
 oo 20 (.call false 73 [(.t 18), (.t 19)]),
 ⟨none, .store (some 8) (.t 4) (.t 20), none⟩,
 oo 5 (.mov (ci 0))])
 (.ret))
 (.skip))))
 (.seq (.seq (.ops false [
 oo 21 (.ldI (some 3) (.t 2)),
 oo 22 (.load (some 2) (.t 6)),
 oo 23 (.call false 74 [(.t 21), (.t 22)])])
 (.cond (.t 23)
 (.seq (.ops false [
 oo 24 (.ldI (some 8) (.t 3)),
 ⟨none, .store (some 8) (.t 4) (.t 24), none⟩,
 oo 5 (.mov (ci 1))])
 (.ret))
 (.skip)))
 (.seq (.ops false [
 oo 25 (.ldI (some 8) (.t 3)),
 ⟨none, .store (some 8) (.t 4) (.t 25), none⟩,
 oo 5 (.mov (ci 2))])
 (.ret))))))
 [.cell 4 (some 8), .t 5]
set_option maxRecDepth 100000 in
theorem yH : bL Try.prog 45 a45 = true := by kernel_rfl
def yI : bA :=
 (.seq (.ops false [
 oo 43 (.bin .lss (.t 42) (.t 41))])
 (.seq (.cond (.t 43)
 (.skip)
 (.exit 0))
 (.seq (.block 1 (.seq (.ops false [
 oo 44 (.iaddr (some 8) (.t 40) (.t 42)),
 oo 45 (.load (some 8) (.t 44)),
 oo 10 (.alloc [.int .u16 0, .int .u16 0, .int .u16 0, .int .u16 0, .int .u16 0, .int .u16 0, .int .u16 0, .int .u16 0]),
 ⟨none, .store (some 8) (.t 10) (.t 45), none⟩])
 (.seq (.ops true [
 oo 47 (.mov (.t 0)),
 oo 48 (.nilchk (.t 47)),
 oo 49 (.faddr 0 (.t 48)),
 oo 50 (.load (some 3) (.t 49)),
 oo 51 (.load (some 8) (.t 10)),
 oo 52 (.call false 45 [(.t 50), (.t 51)]),
 oo 46 (.mov (.t 52)),
 oo 53 (.extract (.t 46) 0),
 oo 54 (.extract (.t 46) 1),
 oo 11 (.alloc [.int .u16 0, .int .u16 0, .int .u16 0, .int .u16 0, .int .u16 0, .int .u16 0, .int .u16 0, .int .u16 0]),
 ⟨none, .store (some 8) (.t 11) (.t 53), none⟩,
 oo 12 (.mov (.t 54))])
 (.seq (.seq (.ops false [
 oo 55 (.mov (.t 12)),
 oo 56 (.bin .eql (.t 55) (ci 0)),
 oo 57 (.mov (.t 56)),
 ⟨some 58, .mov (.t 1), some (57, true)⟩,
 ⟨some 59, .len (.t 58), some (57, true)⟩,
 ⟨some 60, .bin .lss (.t 59) (ci 23), some (57, true)⟩,
 oo 61 (.pick (.t 57) (.t 60) (.c (.bool false)))])
 (.cond (.t 61)
 (.opsS [(2, 3), (2, 6), (5, 6)] [
 oo 62 (.mov (.t 0)),
 oo 63 (.mov (.t 1)),
 oo 64 (.call true 93 [(.t 63)]),
 oo 65 (.load (some 8) (.t 10)),
 oo 66 (.bsliceI (some 8) [(.t 65)]),
 oo 67 (.append (some 8) (.t 64) (.t 66) false),
 oo 68 (.load (some 8) (.t 11)),
 oo 69 (.call true 68 [(.t 62), (.t 67), (.t 68)]),
 oo 8 (.mov (.t 69))])
 (.opsS [(2, 3)] [
 oo 70 (.mov (.t 0)),
 oo 71 (.mov (.t 1)),
 oo 72 (.call true 93 [(.t 71)]),
 oo 73 (.load (some 8) (.t 10)),
 oo 74 (.bsliceI (some 8) [(.t 73)]),
 oo 75 (.append (some 8) (.t 72) (.t 74) false),
 oo 76 (.call true 94 [(.t 70), (.t 75)]),
 oo 8 (.mov (.t 76))])))
 (.seq (.ops false [
 oo 77 (.mov (.t 8)),
 oo 78 (.bin .neq (.t 77) (ci 0))])
 (.cond (.t 78)
 (.seq (.ops false [
 oo 79 (.mov (.t 8)),
 oo 6 (.mov (.t 79))])
 (.ret))
 (.skip)))))))
 (.ops false [
 oo 80 (.bin .add (.t 42) (ci 1)),
 oo 42 (.mov (.t 80))]))))
def yJ : bI := .mk 81
 (.seq (.ops false [
 oo 5 (.box (some 8) (.t 2) true),
 oo 6 (.mov (ci 0))])
 (.seq (.ops true [
 oo 13 (.mov (.t 1)),
 oo 14 (.call true 93 [(.t 13)]),
 oo 15 (.ldI (some 8) (.t 5)),
 oo 16 (.bsliceI (some 8) [(.t 15)]),
 oo 17 (.append (some 8) (.t 14) (.t 16) false),
 oo 1 (.mov (.t 17))])
 (.seq (.ops true [
 oo 19 (.mov (.t 0)),
 oo 20 (.nilchk (.t 19)),
 oo 21 (.faddr 3 (.t 20)),
 oo 22 (.load (some 4) (.t 21)),
 oo 23 (.mov (.t 0)),
 oo 24 (.nilchk (.t 23)),
 oo 25 (.faddr 7 (.t 24)),
 oo 26 (.load none (.t 25)),
 oo 27 (.ldI (some 8) (.t 5)),
 oo 28 (.call false 44 [(.t 22), (.t 26), (.t 27)]),
 oo 18 (.mov (.t 28)),
 oo 29 (.extract (.t 18) 0),
 oo 30 (.extract (.t 18) 1),
 oo 7 (.mov (.t 29)),
 oo 8 (.mov (.t 30))])
 (.seq (.seq (.ops false [
 oo 31 (.mov (.t 8)),
 oo 32 (.bin .neq (.t 31) (ci 0))])
 (.cond (.t 32)
 (.seq (.ops false [
 oo 33 (.mov (.t 8)),
 oo 6 (.mov (.t 33))])
 (.ret))
 (.skip)))
 (.seq (.seq (.ops false [
 oo 34 (.mov (.t 7)),
 oo 35 (.len (.t 34)),
 oo 36 (.bin .eql (.t 35) (ci 0))])
 (.cond (.t 36)
 (.seq (.ops false [
 oo 37 (.mov (.t 0)),
 oo 38 (.mov (.t 1)),
 oo 39 (.call true 94 [(.t 37), (.t 38)]),
 oo 6 (.mov (.t 39))])
 (.ret))
 (.skip)))
 (.seq (.seq (.ops false [
 oo 40 (.mov (.t 7)),
 oo 41 (.len (.t 40)),
 oo 42 (.mov (ci 0))])
 (.block 0 (.loop yI)))
 (.seq (.ops false [
 oo 6 (.mov (ci 0))])
 (.ret))))))))
 [.t 6]
set_option maxRecDepth 100000 in
theorem yK : bL Try.prog 68 yJ = true := by kernel_rfl
def yL : bI := .mk 27
 (.seq (.ops false [
 oo 4 (.box (some 3) (.t 0) true),
 oo 5 (.box (some 4) (.t 1) true),
 oo 7 (.box (some 8) (.t 3) true),
 oo 8 (.mov (.c (.vec none []))),
 oo 9 (.mov (ci 0))])
 (.seq (.ops false [
 oo 12 (.ldI (some 3) (.t 4)),
 oo 13 (.ldI (some 4) (.t 5)),
 oo 14 (.mov (.t 2)),
 oo 15 (.build [.vec none [], .vec (some 4) [], .vec (some 2) [], .int .i64 0, .int .i64 0, .int .u16 0, .vec (some 4) [], .vec none [], .nils] [(0, 3, (.t 12)), (3, 4, (.t 13)), (7, 1, (.t 14))]),
 oo 16 (.box (some 9) (.t 15) false),
 oo 10 (.mov (.t 16))])
 (.seq (.seq (.ops false [
 oo 17 (.mov (.t 10)),
 oo 18 (.ldI (some 8) (.t 7)),
 oo 19 (.call true 68 [(.t 17), (.c (.nils)), (.t 18)]),
 oo 11 (.mov (.t 19))])
 (.seq (.ops false [
 oo 20 (.mov (.t 11)),
 oo 21 (.bin .neq (.t 20) (ci 0))])
 (.cond (.t 21)
 (.seq (.ops false [
 oo 22 (.mov (.t 11)),
 oo 8 (.mov (.c (.vec none []))),
 oo 9 (.mov (.t 22))])
 (.ret))
 (.skip))))
 (.seq (.ops false [
 oo 23 (.mov (.t 10)),
 oo 24 (.nilchk (.t 23)),
 oo 25 (.faddr 8 (.t 24)),
 oo 26 (.load none (.t 25)),
 oo 8 (.mov (.t 26)),
 oo 9 (.mov (ci 0))])
 (.ret)))))
 [.t 8, .t 9]
set_option maxRecDepth 100000 in
theorem yM : bL Try.prog 40 yL = true := by kernel_rfl
def yN : bA :=
 (.seq (.ops false [
 oo 9 (.bin .lss (.t 8) (.t 7))])
 (.seq (.cond (.t 9)
 (.skip)
 (.exit 0))
 (.seq (.block 1 (.seq (.ops false [
 oo 10 (.mov (.t 8)),
 oo 5 (.mov (.t 10))])
 (.seq (.ops true [
 oo 11 (.ldI (some 8) (.t 3)),
 oo 12 (.mov (.t 0)),
 oo 13 (.mov (.t 5)),
 oo 14 (.iaddr (some 8) (.t 12) (.t 13)),
 oo 15 (.load (some 8) (.t 14)),
 oo 16 (.eqS false [.int, .int, .int, .int, .int, .int, .int, .int] (.t 11) (.t 15))])
 (.cond (.t 16)
 (.seq (.ops false [
 oo 17 (.mov (.t 5)),
 oo 4 (.mov (.t 17))])
 (.ret))
 (.skip)))))
 (.ops false [
 oo 18 (.bin .add (.t 8) (ci 1)),
 oo 8 (.mov (.t 18))]))))
def yO : bI := .mk 19
 (.seq (.ops false [
 oo 3 (.box (some 8) (.t 1) true),
 oo 4 (.mov (ci 0))])
 (.seq (.seq (.ops false [
 oo 6 (.mov (.t 0)),
 oo 7 (.len (.t 6)),
 oo 8 (.mov (ci 0))])
 (.block 0 (.loop yN)))
 (.seq (.ops false [
 oo 4 (.mov (ci (-1)))])
 (.ret))))
 [.t 4]
set_option maxRecDepth 100000 in
theorem yP : bL Try.prog 95 yO = true := by kernel_rfl
def a70 : bI := .mk 9
 (.seq (.ops false [
 oo 3 (.box (some 8) (.t 1) true),
 oo 4 (.mov (.c (.bool false)))])
 (.seq (.ops false [
 oo 5 (.mov (.t 0)),
 oo 6 (.ldI (some 8) (.t 3)),
 oo 7 (.call false 95 [(.t 5), (.t 6)]),
 oo 8 (.bin .geq (.t 7) (ci 0)),
 oo 4 (.mov (.t 8))])
 (.ret)))
 [.t 4]
set_option maxRecDepth 100000 in
theorem yQ : bL Try.prog 70 a70 = true := by kernel_rfl
def yR : bA :=
 (.seq (.seq (.ops false [
 oo 14 (.mov (.t 9)),
 oo 15 (.mov (.t 3)),
 oo 16 (.len (.t 15)),
 oo 17 (.bin .lss (.t 14) (.t 16))])
 (.cond (.t 17)
 (.skip)
 (.exit 0)))
 (.seq (.block 1 (.seq (.seq (.ops false [
 oo 20 (.mov (.t 9)),
 oo 21 (.bin .rem (.t 20) (ci 2)),
 oo 22 (.bin .eql (.t 21) (ci 0))])
 (.cond (.t 22)
 (.seq (.seq (.ops true [
 oo 24 (.ldI (some 3) (.t 4)),
 oo 25 (.mov (.t 3)),
 oo 26 (.mov (.t 9)),
 oo 27 (.bin .sub (.t 26) (ci 1)),
 oo 28 (.iaddr (some 8) (.t 25) (.t 27)),
 oo 29 (.load (some 8) (.t 28)),
 oo 30 (.call false 45 [(.t 24), (.t 29)]),
 oo 23 (.mov (.t 30)),
 oo 31 (.extract (.t 23) 0),
 oo 32 (.extract (.t 23) 1),
 oo 10 (.alloc [.int .u16 0, .int .u16 0, .int .u16 0, .int .u16 0, .int .u16 0, .int .u16 0, .int .u16 0, .int .u16 0]),
 ⟨none, .store (some 8) (.t 10) (.t 31), none⟩,
 oo 11 (.mov (.t 32))])
 (.seq (.ops true [
 oo 33 (.mov (.t 11)),
 oo 34 (.bin .neq (.t 33) (ci 0)),
 oo 35 (.mov (.t 34)),
 ⟨some 36, .load (some 8) (.t 10), some (35, false)⟩,
 ⟨some 37, .mov (.t 3), some (35, false)⟩,
 ⟨some 38, .mov (.t 9), some (35, false)⟩,
 ⟨some 39, .iaddr (some 8) (.t 37) (.t 38), some (35, false)⟩,
 ⟨some 40, .load (some 8) (.t 39), some (35, false)⟩,
 ⟨some 41, .eqS true [.int, .int, .int, .int, .int, .int, .int, .int] (.t 36) (.t 40), some (35, false)⟩,
 oo 42 (.pick (.t 35) (.c (.bool true)) (.t 41))])
 (.cond (.t 42)
 (.seq (.ops false [
 oo 8 (.mov (.c (.bool false)))])
 (.ret))
 (.skip))))
 (.exit 1))
 (.skip)))
 (.seq (.ops true [
 oo 44 (.ldI (some 4) (.t 5)),
 oo 45 (.mov (.t 2)),
 oo 46 (.mov (.t 3)),
 oo 47 (.mov (.t 9)),
 oo 48 (.bin .sub (.t 47) (ci 1)),
 oo 49 (.iaddr (some 8) (.t 46) (.t 48)),
 oo 50 (.load (some 8) (.t 49)),
 oo 51 (.call false 44 [(.t 44), (.t 45), (.t 50)]),
 oo 43 (.mov (.t 51)),
 oo 52 (.extract (.t 43) 0),
 oo 53 (.extract (.t 43) 1),
 oo 12 (.mov (.t 52)),
 oo 13 (.mov (.t 53))])
 (.seq (.ops false [
 oo 54 (.mov (.t 12)),
 oo 55 (.mov (.t 3)),
 oo 56 (.mov (.t 9)),
 oo 57 (.iaddr (some 8) (.t 55) (.t 56)),
 oo 58 (.load (some 8) (.t 57)),
 oo 59 (.call false 70 [(.t 54), (.t 58)]),
 oo 60 (.un .not (.t 59))])
 (.cond (.t 60)
 (.seq (.ops false [
 oo 8 (.mov (.c (.bool false)))])
 (.ret))
 (.skip))))))
 (.ops false [
 oo 18 (.mov (.t 9)),
 oo 19 (.bin .add (.t 18) (ci 1)),
 oo 9 (.mov (.t 19))])))
def yS : bI := .mk 69
 (.seq (.ops false [
 oo 4 (.box (some 3) (.t 0) true),
 oo 5 (.box (some 4) (.t 1) true),
 oo 8 (.mov (.c (.bool false)))])
 (.seq (.seq (.ops false [
 oo 9 (.mov (ci 1))])
 (.block 0 (.loop yR)))
 (.seq (.ops false [
 oo 61 (.mov (.t 3)),
 oo 62 (.len (.t 61)),
 oo 63 (.bin .gtr (.t 62) (ci 0)),
 oo 64 (.mov (.t 63)),
 ⟨some 65, .mov (.t 3), some (64, true)⟩,
 ⟨some 66, .len (.t 65), some (64, true)⟩,
 ⟨some 67, .bin .leq (.t 66) (ci 24), some (64, true)⟩,
 oo 68 (.pick (.t 64) (.t 67) (.c (.bool false))),
 oo 8 (.mov (.t 68))])
 (.ret))))
 [.t 8]
set_option maxRecDepth 100000 in
theorem yT : bL Try.prog 43 yS = true := by kernel_rfl
def yU : bI := .mk 57
 (.seq (.ops false [
 oo 4 (.box (some 3) (.t 0) true),
 oo 5 (.box (some 4) (.t 1) true),
 oo 8 (.mov (.c (.bool false)))])
 (.seq (.seq (.ops false [
 oo 14 (.ldI (some 3) (.t 4)),
 oo 15 (.ldI (some 4) (.t 5)),
 oo 16 (.mov (.t 2)),
 oo 17 (.mov (.t 3)),
 oo 18 (.call false 43 [(.t 14), (.t 15), (.t 16), (.t 17)]),
 oo 19 (.un .not (.t 18))])
 (.cond (.t 19)
 (.seq (.ops false [
 oo 8 (.mov (.c (.bool false)))])
 (.ret))
 (.skip)))
 (.seq (.ops false [
 oo 20 (.mov (.t 3)),
 oo 21 (.mov (.t 3)),
 oo 22 (.len (.t 21)),
 oo 23 (.bin .sub (.t 22) (ci 1)),
 oo 24 (.iaddr (some 8) (.t 20) (.t 23)),
 oo 25 (.load (some 8) (.t 24)),
 oo 9 (.alloc [.int .u16 0, .int .u16 0, .int .u16 0, .int .u16 0, .int .u16 0, .int .u16 0, .int .u16 0, .int .u16 0]),
 ⟨none, .store (some 8) (.t 9) (.t 25), none⟩])
 (.seq (.seq (.ops false [
 oo 26 (.mov (.t 3)),
 oo 27 (.len (.t 26)),
 oo 28 (.bin .rem (.t 27) (ci 2)),
 oo 29 (.bin .eql (.t 28) (ci 1))])
 (.cond (.t 29)
 (.seq (.ops false [
 oo 31 (.ldI (some 4) (.t 5)),
 oo 32 (.mov (.t 2)),
 oo 33 (.load (some 8) (.t 9)),
 oo 34 (.call false 44 [(.t 31), (.t 32), (.t 33)]),
 oo 30 (.mov (.t 34)),
 oo 35 (.extract (.t 30) 0),
 oo 36 (.extract (.t 30) 1),
 oo 10 (.mov (.t 35)),
 oo 11 (.mov (.t 36))])
 (.seq (.ops false [
 oo 37 (.mov (.t 11)),
 oo 38 (.bin .eql (.t 37) (ci 0)),
 oo 39 (.mov (.t 38)),
 ⟨some 40, .mov (.t 10), some (39, true)⟩,
 ⟨some 41, .len (.t 40), some (39, true)⟩,
 ⟨some 42, .bin .eql (.t 41) (ci 0), some (39, true)⟩,
 oo 43 (.pick (.t 39) (.t 42) (.c (.bool false))),
 oo 8 (.mov (.t 43))])
 (.ret)))
 (.skip)))
 (.seq (.ops false [
 oo 45 (.ldI (some 3) (.t 4)),
 oo 46 (.load (some 8) (.t 9)),
 oo 47 (.call false 45 [(.t 45), (.t 46)]),
 oo 44 (.mov (.t 47)),
 oo 48 (.extract (.t 44) 0),
 oo 49 (.extract (.t 44) 1),
 oo 12 (.alloc [.int .u16 0, .int .u16 0, .int .u16 0, .int .u16 0, .int .u16 0, .int .u16 0, .int .u16 0, .int .u16 0]),
 ⟨none, .store (some 8) (.t 12) (.t 48), none⟩,
 oo 13 (.mov (.t 49))])
 (.seq (.ops false [
 oo 50 (.mov (.t 13)),
 oo 51 (.bin .neq (.t 50) (ci 0)),
 oo 52 (.mov (.t 51)),
 ⟨some 53, .mov (.t 3), some (52, false)⟩,
 ⟨some 54, .len (.t 53), some (52, false)⟩,
 ⟨some 55, .bin .eql (.t 54) (ci 24), some (52, false)⟩,
 oo 56 (.pick (.t 52) (.c (.bool true)) (.t 55)),
 oo 8 (.mov (.t 56))])
 (.ret)))))))
 [.t 8]
set_option maxRecDepth 100000 in
theorem yV : bL Try.prog 41 yU = true := by kernel_rfl
def yW : bI := .mk 80
 (.seq (.ops false [
 oo 0 (.mov (.c (.bool false)))])
 (.seq (.ops false [
 oo 5 (.bsliceI none [(.c (.int .u16 1)), (.c (.int .u16 2))]),
 oo 6 (.build [.int .u16 0, .int .u16 0] [(0, 1, (.c (.int .u16 1))), (1, 1, (.c (.int .u16 2)))]),
 oo 7 (.build [.int .u16 0, .int .u16 0] [(0, 1, (.c (.int .u16 2))), (1, 1, (.c (.int .u16 2)))]),
 oo 8 (.build [.int .u16 0, .int .u16 0, .int .u16 0, .int .u16 0] [(0, 2, (.t 6)), (2, 2, (.t 7))]),
 oo 9 (.bsliceI (some 4) [(.t 8)]),
 oo 10 (.build [.int .u16 0, .int .u16 0] [(0, 1, (.c (.int .u16 1))), (1, 1, (.c (.int .u16 1)))]),
 oo 11 (.build [.int .u16 0, .int .u16 0] [(0, 1, (.c (.int .u16 2))), (1, 1, (.c (.int .u16 1)))]),
 oo 12 (.bsliceI (some 2) [(.t 10), (.t 11)]),
 oo 13 (.build [.vec none [], .vec (some 4) [], .vec (some 2) []] [(0, 1, (.t 5)), (1, 1, (.t 9)), (2, 1, (.t 12))]),
 oo 1 (.alloc [.vec none [], .vec (some 4) [], .vec (some 2) []]),
 ⟨none, .store (some 3) (.t 1) (.t 13), none⟩])
 (.seq (.ops false [
 oo 14 (.build [.int .i64 0, .int .i64 0, .int .u16 0, .vec (some 4) []] [(0, 1, (ci 2)), (1, 1, (ci 0)), (2, 1, (.c (.int .u16 1)))]),
 oo 15 (.build [.int .i64 0, .int .i64 0, .int .u16 0, .vec (some 4) []] [(0, 1, (ci 5)), (1, 1, (ci 1)), (2, 1, (.c (.int .u16 2)))]),
 oo 16 (.bsliceI (some 4) [(.t 14), (.t 15)]),
 oo 17 (.build [.int .i64 0, .int .i64 0, .int .u16 0, .vec (some 4) []] [(0, 1, (ci 6)), (3, 1, (.t 16))]),
 oo 18 (.build [.int .i64 0, .int .i64 0, .int .u16 0, .vec (some 4) []] [(0, 1, (ci 2)), (1, 1, (ci 0)), (2, 1, (.c (.int .u16 2)))]),
 oo 19 (.build [.int .i64 0, .int .i64 0, .int .u16 0, .vec (some 4) []] [(0, 1, (ci 5)), (1, 1, (ci 1)), (2, 1, (.c (.int .u16 1)))]),
 oo 20 (.bsliceI (some 4) [(.t 18), (.t 19)]),
 oo 21 (.build [.int .i64 0, .int .i64 0, .int .u16 0, .vec (some 4) []] [(0, 1, (ci 6)), (3, 1, (.t 20))]),
 oo 22 (.bsliceI (some 4) [(.t 17), (.t 21)]),
 oo 23 (.build [.int .i64 0, .int .i64 0, .int .u16 0, .vec (some 4) []] [(0, 1, (ci 7)), (3, 1, (.t 22))]),
 oo 2 (.alloc [.int .i64 0, .int .i64 0, .int .u16 0, .vec (some 4) []]),
 ⟨none, .store (some 4) (.t 2) (.t 23), none⟩])
 (.seq (.ops false [
 oo 25 (.load (some 3) (.t 1)),
 oo 26 (.load (some 4) (.t 2)),
 oo 27 (.build [.int .u16 0, .int .u16 0, .int .u16 0, .int .u16 0, .int .u16 0, .int .u16 0, .int .u16 0, .int .u16 0] [(0, 1, (.c (.int .u16 1))), (1, 1, (.c (.int .u16 1)))]),
 oo 28 (.call false 40 [(.t 25), (.t 26), (.c (.nils)), (.t 27)]),
 oo 24 (.mov (.t 28)),
 oo 29 (.extract (.t 24) 0),
 oo 30 (.extract (.t 24) 1),
 oo 3 (.mov (.t 29)),
 oo 4 (.mov (.t 30))])
 (.seq (.ops true [
 oo 31 (.mov (.t 4)),
 oo 32 (.bin .eql (.t 31) (ci 0)),
 oo 33 (.mov (.t 32)),
 ⟨some 34, .mov (.t 3), some (33, true)⟩,
 ⟨some 35, .len (.t 34), some (33, true)⟩,
 ⟨some 36, .bin .eql (.t 35) (ci 1), some (33, true)⟩,
 oo 37 (.pick (.t 33) (.t 36) (.c (.bool false))),
 oo 38 (.mov (.t 37)),
 ⟨some 39, .mov (.t 3), some (38, true)⟩,
 ⟨some 40, .iaddr none (.t 39) (ci 0), some (38, true)⟩,
 ⟨some 41, .load none (.t 40), some (38, true)⟩,
 ⟨some 42, .len (.t 41), some (38, true)⟩,
 ⟨some 43, .bin .eql (.t 42) (ci 4), some (38, true)⟩,
 oo 44 (.pick (.t 38) (.t 43) (.c (.bool false))),
 oo 45 (.mov (.t 44)),
 ⟨some 46, .mov (.t 3), some (45, true)⟩,
 ⟨some 47, .iaddr none (.t 46) (ci 0), some (45, true)⟩,
 ⟨some 48, .load none (.t 47), some (45, true)⟩,
 ⟨some 49, .iaddr (some 8) (.t 48) (ci 3), some (45, true)⟩,
 ⟨some 50, .load (some 8) (.t 49), some (45, true)⟩,
 ⟨some 51, .build [.int .u16 0, .int .u16 0, .int .u16 0, .int .u16 0, .int .u16 0, .int .u16 0, .int .u16 0, .int .u16 0] [(0, 1, (.c (.int .u16 2))), (1, 1, (.c (.int .u16 1)))], some (45, true)⟩,
 ⟨some 52, .eqS false [.int, .int, .int, .int, .int, .int, .int, .int] (.t 50) (.t 51), some (45, true)⟩,
 oo 53 (.pick (.t 45) (.t 52) (.c (.bool false))),
 oo 54 (.mov (.t 53)),
 ⟨some 55, .load (some 3) (.t 1), some (54, true)⟩,
 ⟨some 56, .load (some 4) (.t 2), some (54, true)⟩,
 ⟨some 57, .mov (.t 3), some (54, true)⟩,
 ⟨some 58, .iaddr none (.t 57) (ci 0), some (54, true)⟩,
 ⟨some 59, .load none (.t 58), some (54, true)⟩,
 ⟨some 60, .call false 43 [(.t 55), (.t 56), (.c (.nils)), (.t 59)], some (54, true)⟩,
 oo 61 (.pick (.t 54) (.t 60) (.c (.bool false))),
 oo 62 (.mov (.t 61)),
 ⟨some 63, .load (some 3) (.t 1), some (62, true)⟩,
 ⟨some 64, .load (some 4) (.t 2), some (62, true)⟩,
 ⟨some 65, .mov (.t 3), some (62, true)⟩,
 ⟨some 66, .iaddr none (.t 65) (ci 0), some (62, true)⟩,
 ⟨some 67, .load none (.t 66), some (62, true)⟩,
 ⟨some 68, .call false 41 [(.t 63), (.t 64), (.c (.nils)), (.t 67)], some (62, true)⟩,
 oo 69 (.pick (.t 62) (.t 68) (.c (.bool false))),
 oo 70 (.mov (.t 69)),
 ⟨some 71, .load (some 3) (.t 1), some (70, true)⟩,
 ⟨some 72, .load (some 4) (.t 2), some (70, true)⟩,
 ⟨some 73, .mov (.t 3), some (70, true)⟩,
 ⟨some 74, .iaddr none (.t 73) (ci 0), some (70, true)⟩,
 ⟨some 75, .load none (.t 74), some (70, true)⟩,
 ⟨some 76, .slc (some 8) (.t 75) none (some (ci 3)), some (70, true)⟩,
 ⟨some 77, .call false 41 [(.t 71), (.t 72), (.c (.nils)), (.t 76)], some (70, true)⟩,
 ⟨some 78, .un .not (.t 77), some (70, true)⟩,
 oo 79 (.pick (.t 70) (.t 78) (.c (.bool false))),
 oo 0 (.mov (.t 79))])
 (.ret))))))
 [.t 0]
set_option maxRecDepth 100000 in
theorem yX : bL Try.prog 38 yW = true := by kernel_rfl
def yY : bA :=
 (.seq (.seq (.ops false [
 oo 6 (.mov (.t 5)),
 oo 7 (.faddr 0 (.t 2)),
 oo 8 (.ldI none (.t 7)),
 oo 9 (.len (.t 8)),
 oo 10 (.bin .lss (.t 6) (.t 9))])
 (.cond (.t 10)
 (.skip)
 (.exit 0)))
 (.seq (.block 1 (.seq (.ops false [
 oo 13 (.faddr 0 (.t 2)),
 oo 14 (.ldI none (.t 13)),
 oo 15 (.mov (.t 5)),
 oo 16 (.iaddr none (.t 14) (.t 15)),
 oo 17 (.load none (.t 16)),
 oo 18 (.mov (.t 1)),
 oo 19 (.bin .eql (.t 17) (.t 18))])
 (.cond (.t 19)
 (.seq (.ops false [
 oo 20 (.mov (.t 5)),
 oo 4 (.mov (.t 20))])
 (.ret))
 (.skip))))
 (.ops false [
 oo 11 (.mov (.t 5)),
 oo 12 (.bin .add (.t 11) (ci 1)),
 oo 5 (.mov (.t 12))])))
def yZ : bI := .mk 21
 (.seq (.ops false [
 oo 2 (.box (some 3) (.t 0) true),
 oo 4 (.mov (ci 0))])
 (.seq (.seq (.ops false [
 oo 5 (.mov (ci 0))])
 (.block 0 (.loop yY)))
 (.seq (.ops false [
 oo 4 (.mov (ci (-1)))])
 (.ret))))
 [.t 4]
set_option maxRecDepth 100000 in
theorem za : bL Try.prog 65 yZ = true := by kernel_rfl
def zb : bA :=
 (.seq (.seq (.ops false [
 oo 5 (.mov (.t 4)),
 oo 6 (.faddr 1 (.t 1)),
 oo 7 (.ldI none (.t 6)),
 oo 8 (.len (.t 7)),
 oo 9 (.bin .lss (.t 5) (.t 8))])
 (.cond (.t 9)
 (.skip)
 (.exit 0)))
 (.seq (.block 1 (.opsS [] [
 oo 12 (.mov (.t 3)),
 oo 13 (.faddr 1 (.t 1)),
 oo 14 (.ldI none (.t 13)),
 oo 15 (.mov (.t 4)),
 oo 16 (.iaddr (some 4) (.t 14) (.t 15)),
 oo 17 (.iaddrA 2 (some 2) (.t 16) (ci 0)),
 oo 18 (.load (some 2) (.t 17)),
 oo 19 (.faddr 1 (.t 1)),
 oo 20 (.ldI none (.t 19)),
 oo 21 (.mov (.t 4)),
 oo 22 (.iaddr (some 4) (.t 20) (.t 21)),
 oo 23 (.iaddrA 2 (some 2) (.t 22) (ci 1)),
 oo 24 (.load (some 2) (.t 23)),
 oo 25 (.bsliceI (some 2) [(.t 18), (.t 24)]),
 oo 26 (.append (some 2) (.t 12) (.t 25) false),
 oo 3 (.mov (.t 26))]))
 (.ops false [
 oo 10 (.mov (.t 4)),
 oo 11 (.bin .add (.t 10) (ci 1)),
 oo 4 (.mov (.t 11))])))
def a66 : bI := .mk 31
 (.seq (.ops false [
 oo 1 (.box (some 3) (.t 0) true),
 oo 2 (.mov (.c (.vec (some 2) [])))])
 (.seq (.ops false [
 oo 3 (.mov (.c (.nils)))])
 (.seq (.seq (.ops false [
 oo 4 (.mov (ci 0))])
 (.block 0 (.loop zb)))
 (.seq (.ops false [
 oo 27 (.mov (.t 3)),
 oo 28 (.faddr 2 (.t 1)),
 oo 29 (.ldI none (.t 28)),
 oo 30 (.append (some 2) (.t 27) (.t 29) false),
 oo 2 (.mov (.t 30))])
 (.ret)))))
 [.t 2]
set_option maxRecDepth 100000 in
theorem ze : bL Try.prog 66 a66 = true := by kernel_rfl
def zf : bA :=
 (.seq (.seq (.ops false [
 oo 24 (.mov (.t 3)),
 oo 25 (.faddr 0 (.t 1)),
 oo 26 (.ldI none (.t 25)),
 oo 27 (.len (.t 26)),
 oo 28 (.bin .lss (.t 24) (.t 27))])
 (.cond (.t 28)
 (.skip)
 (.exit 0)))
 (.seq (.block 1 (.seq (.ops true [
 oo 31 (.ldI (some 3) (.t 1)),
 oo 32 (.faddr 0 (.t 1)),
 oo 33 (.ldI none (.t 32)),
 oo 34 (.mov (.t 3)),
 oo 35 (.iaddr none (.t 33) (.t 34)),
 oo 36 (.load none (.t 35)),
 oo 37 (.call false 65 [(.t 31), (.t 36)]),
 oo 38 (.mov (.t 3)),
 oo 39 (.bin .neq (.t 37) (.t 38))])
 (.cond (.t 39)
 (.seq (.ops false [
 oo 2 (.mov (ci 12))])
 (.ret))
 (.skip))))
 (.ops false [
 oo 29 (.mov (.t 3)),
 oo 30 (.bin .add (.t 29) (ci 1)),
 oo 3 (.mov (.t 30))])))
def zg : bA :=
 (.seq (.seq (.ops false [
 oo 42 (.mov (.t 5)),
 oo 43 (.mov (.t 4)),
 oo 44 (.len (.t 43)),
 oo 45 (.bin .lss (.t 42) (.t 44))])
 (.cond (.t 45)
 (.skip)
 (.exit 2)))
 (.seq (.block 3 (.seq (.ops true [
 oo 48 (.ldI (some 3) (.t 1)),
 oo 49 (.mov (.t 4)),
 oo 50 (.mov (.t 5)),
 oo 51 (.iaddr (some 2) (.t 49) (.t 50)),
 oo 52 (.faddr 0 (.t 51)),
 oo 53 (.load none (.t 52)),
 oo 54 (.call false 65 [(.t 48), (.t 53)]),
 oo 55 (.bin .lss (.t 54) (ci 0))])
 (.cond (.t 55)
 (.seq (.ops false [
 oo 2 (.mov (ci 12))])
 (.ret))
 (.skip))))
 (.ops false [
 oo 46 (.mov (.t 5)),
 oo 47 (.bin .add (.t 46) (ci 1)),
 oo 5 (.mov (.t 47))])))
def zh : bA :=
 (.seq (.seq (.ops false [
 oo 62 (.mov (.t 7)),
 oo 63 (.mov (.t 6)),
 oo 64 (.bin .lss (.t 62) (.t 63))])
 (.cond (.t 64)
 (.skip)
 (.exit 6)))
 (.seq (.block 7 (.seq (.ops true [
 oo 67 (.mov (.t 4)),
 oo 68 (.mov (.t 6)),
 oo 69 (.iaddr (some 2) (.t 67) (.t 68)),
 oo 70 (.load (some 2) (.t 69)),
 oo 71 (.mov (.t 4)),
 oo 72 (.mov (.t 7)),
 oo 73 (.iaddr (some 2) (.t 71) (.t 72)),
 oo 74 (.load (some 2) (.t 73)),
 oo 75 (.eqS false [.int, .int] (.t 70) (.t 74))])
 (.cond (.t 75)
 (.seq (.ops false [
 oo 2 (.mov (ci 11))])
 (.ret))
 (.skip))))
 (.ops false [
 oo 65 (.mov (.t 7)),
 oo 66 (.bin .add (.t 65) (ci 1)),
 oo 7 (.mov (.t 66))])))
def zj : bA :=
 (.seq (.seq (.ops false [
 oo 56 (.mov (.t 6)),
 oo 57 (.mov (.t 4)),
 oo 58 (.len (.t 57)),
 oo 59 (.bin .lss (.t 56) (.t 58))])
 (.cond (.t 59)
 (.skip)
 (.exit 4)))
 (.seq (.block 5 (.seq (.ops false [
 oo 7 (.mov (ci 0))])
 (.block 6 (.loop zh))))
 (.ops false [
 oo 60 (.mov (.t 6)),
 oo 61 (.bin .add (.t 60) (ci 1)),
 oo 6 (.mov (.t 61))])))
def zk : bI := .mk 76
 (.seq (.ops false [
 oo 1 (.box (some 3) (.t 0) true),
 oo 2 (.mov (ci 0))])
 (.seq (.seq (.ops false [
 oo 8 (.faddr 0 (.t 1)),
 oo 9 (.ldI none (.t 8)),
 oo 10 (.len (.t 9)),
 oo 11 (.bin .gtr (.t 10) (ci 12)),
 oo 12 (.mov (.t 11)),
 ⟨some 13, .faddr 1 (.t 1), some (12, false)⟩,
 ⟨some 14, .ldI none (.t 13), some (12, false)⟩,
 ⟨some 15, .len (.t 14), some (12, false)⟩,
 ⟨some 16, .bin .gtr (.t 15) (ci 24), some (12, false)⟩,
 oo 17 (.pick (.t 12) (.c (.bool true)) (.t 16)),
 oo 18 (.mov (.t 17)),
 ⟨some 19, .faddr 2 (.t 1), some (18, false)⟩,
 ⟨some 20, .ldI none (.t 19), some (18, false)⟩,
 ⟨some 21, .len (.t 20), some (18, false)⟩,
 ⟨some 22, .bin .gtr (.t 21) (ci 24), some (18, false)⟩,
 oo 23 (.pick (.t 18) (.c (.bool true)) (.t 22))])
 (.cond (.t 23)
 (.seq (.ops false [
 oo 2 (.mov (ci 2))])
 (.ret))
 (.skip)))
 (.seq (.seq (.ops false [
 oo 3 (.mov (ci 0))])
 (.block 0 (.loop zf)))
 (.seq (.ops false [
 oo 40 (.ldI (some 3) (.t 1)),
 oo 41 (.call false 66 [(.t 40)]),
 oo 4 (.mov (.t 41))])
 (.seq (.seq (.ops false [
 oo 5 (.mov (ci 0))])
 (.block 2 (.loop zg)))
 (.seq (.seq (.ops false [
 oo 6 (.mov (ci 0))])
 (.block 4 (.loop zj)))
 (.seq (.ops false [
 oo 2 (.mov (ci 0))])
 (.ret))))))))
 [.t 2]
set_option maxRecDepth 100000 in
theorem zl : bL Try.prog 35 zk = true := by kernel_rfl
def a39 : bI := .mk 47
 (.seq (.ops false [
 oo 1 (.box (some 5) (.t 0) true),
 oo 2 (.alloc [.int .i64 0, .int .i64 0, .int .u16 0, .vec (some 4) []]),
 oo 3 (.mov (.c (.bool false)))])
 (.seq (.ops false [
 oo 7 (.faddr 3 (.t 1)),
 oo 8 (.ldI none (.t 7)),
 oo 9 (.call false 13 [(.t 8)]),
 oo 6 (.mov (.t 9)),
 oo 10 (.extract (.t 6) 0),
 oo 11 (.extract (.t 6) 1),
 oo 4 (.alloc [.int .i64 0, .int .i64 0, .int .u16 0, .vec (some 4) []]),
 ⟨none, .store (some 4) (.t 4) (.t 10), none⟩,
 oo 5 (.mov (.t 11))])
 (.seq (.ops true [
 oo 12 (.load (some 4) (.t 4)),
 oo 13 (.mov (.t 5)),
 oo 14 (.mov (.t 13)),
 ⟨some 15, .faddr 0 (.t 1), some (14, true)⟩,
 ⟨some 16, .faddr 0 (.t 15), some (14, true)⟩,
 ⟨some 17, .ldI none (.t 16), some (14, true)⟩,
 ⟨some 18, .len (.t 17), some (14, true)⟩,
 ⟨some 19, .bin .leq (.t 18) (ci 30), some (14, true)⟩,
 oo 20 (.pick (.t 14) (.t 19) (.c (.bool false))),
 oo 21 (.mov (.t 20)),
 ⟨some 22, .faddr 0 (.t 1), some (21, true)⟩,
 ⟨some 23, .faddr 1 (.t 22), some (21, true)⟩,
 ⟨some 24, .ldI none (.t 23), some (21, true)⟩,
 ⟨some 25, .len (.t 24), some (21, true)⟩,
 ⟨some 26, .bin .leq (.t 25) (ci 30), some (21, true)⟩,
 oo 27 (.pick (.t 21) (.t 26) (.c (.bool false))),
 oo 28 (.mov (.t 27)),
 ⟨some 29, .faddr 0 (.t 1), some (28, true)⟩,
 ⟨some 30, .faddr 2 (.t 29), some (28, true)⟩,
 ⟨some 31, .ldI none (.t 30), some (28, true)⟩,
 ⟨some 32, .len (.t 31), some (28, true)⟩,
 ⟨some 33, .bin .leq (.t 32) (ci 30), some (28, true)⟩,
 oo 34 (.pick (.t 28) (.t 33) (.c (.bool false))),
 oo 35 (.mov (.t 34)),
 ⟨some 36, .faddr 4 (.t 1), some (35, true)⟩,
 ⟨some 37, .ldI none (.t 36), some (35, true)⟩,
 ⟨some 38, .len (.t 37), some (35, true)⟩,
 ⟨some 39, .bin .leq (.t 38) (ci 6), some (35, true)⟩,
 oo 40 (.pick (.t 35) (.t 39) (.c (.bool false))),
 oo 41 (.mov (.t 40)),
 ⟨some 42, .faddr 0 (.t 1), some (41, true)⟩,
 ⟨some 43, .ldI (some 3) (.t 42), some (41, true)⟩,
 ⟨some 44, .call false 35 [(.t 43)], some (41, true)⟩,
 ⟨some 45, .bin .eql (.t 44) (ci 0), some (41, true)⟩,
 oo 46 (.pick (.t 41) (.t 45) (.c (.bool false))),
 ⟨none, .store (some 4) (.t 2) (.t 12), none⟩,
 oo 3 (.mov (.t 46))])
 (.ret))))
 [.cell 2 (some 4), .t 3]
set_option maxRecDepth 100000 in
theorem zm : bL Try.prog 39 a39 = true := by kernel_rfl
def zn : bA :=
 (.seq (.seq (.ops false [
 oo 7 (.mov (.t 5)),
 oo 8 (.mov (.t 0)),
 oo 9 (.len (.t 8)),
 oo 10 (.bin .lss (.t 7) (.t 9)),
 oo 11 (.mov (.t 10)),
 ⟨some 12, .mov (.t 5), some (11, true)⟩,
 ⟨some 13, .mov (.t 1), some (11, true)⟩,
 ⟨some 14, .len (.t 13), some (11, true)⟩,
 ⟨some 15, .bin .lss (.t 12) (.t 14), some (11, true)⟩,
 oo 16 (.pick (.t 11) (.t 15) (.c (.bool false)))])
 (.cond (.t 16)
 (.skip)
 (.exit 0)))
 (.seq (.block 1 (.seq (.ops true [
 oo 19 (.mov (.t 0)),
 oo 20 (.mov (.t 5)),
 oo 21 (.iaddr (some 8) (.t 19) (.t 20)),
 oo 22 (.load (some 8) (.t 21)),
 oo 23 (.mov (.t 1)),
 oo 24 (.mov (.t 5)),
 oo 25 (.iaddr (some 8) (.t 23) (.t 24)),
 oo 26 (.load (some 8) (.t 25)),
 oo 27 (.call false 69 [(.t 22), (.t 26)]),
 oo 6 (.mov (.t 27))])
 (.seq (.ops false [
 oo 28 (.mov (.t 6)),
 oo 29 (.bin .neq (.t 28) (ci 0))])
 (.cond (.t 29)
 (.seq (.ops false [
 oo 30 (.mov (.t 6)),
 oo 31 (.bin .lss (.t 30) (ci 0)),
 oo 4 (.mov (.t 31))])
 (.ret))
 (.skip)))))
 (.ops false [
 oo 17 (.mov (.t 5)),
 oo 18 (.bin .add (.t 17) (ci 1)),
 oo 5 (.mov (.t 18))])))
def zo : bI := .mk 32
 (.seq (.ops false [
 oo 4 (.mov (.c (.bool false)))])
 (.seq (.seq (.ops false [
 oo 5 (.mov (ci 0))])
 (.block 0 (.loop zn)))
 (.seq (.ops false [
 oo 4 (.mov (.c (.bool false)))])
 (.ret))))
 [.t 4]
set_option maxRecDepth 100000 in
theorem zp : bL Try.prog 42 zo = true := by kernel_rfl
def zq : bA :=
 (.seq (.ops false [
 oo 92 (.bin .lss (.t 91) (.t 90))])
 (.seq (.cond (.t 92)
 (.skip)
 (.exit 2))
 (.seq (.block 3 (.seq (.ops false [
 oo 93 (.mov (.t 91)),
 oo 12 (.mov (.t 93))])
 (.seq (.ops true [
 oo 94 (.faddr 0 (.t 2)),
 oo 95 (.ldI (some 3) (.t 94)),
 oo 96 (.load (some 4) (.t 5)),
 oo 97 (.faddr 4 (.t 2)),
 oo 98 (.ldI none (.t 97)),
 oo 99 (.mov (.t 11)),
 oo 100 (.mov (.t 12)),
 oo 101 (.bin .add (.t 100) (ci 1)),
 oo 102 (.slc (some 8) (.t 99) none (some (.t 101))),
 oo 103 (.call false 43 [(.t 95), (.t 96), (.t 98), (.t 102)]),
 oo 104 (.un .not (.t 103))])
 (.cond (.t 104)
 (.seq (.ops false [
 oo 4 (.mov (.c (.bool false)))])
 (.ret))
 (.skip)))))
 (.ops false [
 oo 105 (.bin .add (.t 91) (ci 1)),
 oo 91 (.mov (.t 105))]))))
def zr : bA :=
 (.seq (.ops false [
 oo 51 (.bin .lss (.t 50) (.t 49))])
 (.seq (.cond (.t 51)
 (.skip)
 (.exit 0))
 (.seq (.block 1 (.seq (.ops false [
 oo 52 (.mov (.t 50)),
 oo 53 (.iaddr none (.t 48) (.t 50)),
 oo 54 (.load none (.t 53)),
 oo 10 (.mov (.t 52)),
 oo 11 (.mov (.t 54))])
 (.seq (.seq (.ops true [
 oo 55 (.mov (.t 11)),
 oo 56 (.len (.t 55)),
 oo 57 (.bin .eql (.t 56) (ci 0)),
 oo 58 (.mov (.t 57)),
 ⟨some 59, .mov (.t 11), some (58, false)⟩,
 ⟨some 60, .iaddr (some 8) (.t 59) (ci 0), some (58, false)⟩,
 ⟨some 61, .load (some 8) (.t 60), some (58, false)⟩,
 ⟨some 62, .ldI (some 8) (.t 3), some (58, false)⟩,
 ⟨some 63, .eqS true [.int, .int, .int, .int, .int, .int, .int, .int] (.t 61) (.t 62), some (58, false)⟩,
 oo 64 (.pick (.t 58) (.c (.bool true)) (.t 63)),
 oo 65 (.mov (.t 64)),
 ⟨some 66, .faddr 0 (.t 2), some (65, false)⟩,
 ⟨some 67, .ldI (some 3) (.t 66), some (65, false)⟩,
 ⟨some 68, .load (some 4) (.t 5), some (65, false)⟩,
 ⟨some 69, .faddr 4 (.t 2), some (65, false)⟩,
 ⟨some 70, .ldI none (.t 69), some (65, false)⟩,
 ⟨some 71, .mov (.t 11), some (65, false)⟩,
 ⟨some 72, .call false 41 [(.t 67), (.t 68), (.t 70), (.t 71)], some (65, false)⟩,
 ⟨some 73, .un .not (.t 72), some (65, false)⟩,
 oo 74 (.pick (.t 65) (.c (.bool true)) (.t 73)),
 oo 75 (.mov (.t 74)),
 ⟨some 76, .mov (.t 10), some (75, false)⟩,
 ⟨some 77, .bin .gtr (.t 76) (ci 0), some (75, false)⟩,
 ⟨some 78, .mov (.t 77), some (75, false)⟩,
 ⟨some 79, .mov (.t 7), some (78, true)⟩,
 ⟨some 80, .mov (.t 10), some (78, true)⟩,
 ⟨some 81, .bin .sub (.t 80) (ci 1), some (78, true)⟩,
 ⟨some 82, .iaddr none (.t 79) (.t 81), some (78, true)⟩,
 ⟨some 83, .load none (.t 82), some (78, true)⟩,
 ⟨some 84, .mov (.t 11), some (78, true)⟩,
 ⟨some 85, .call false 42 [(.t 83), (.t 84)], some (78, true)⟩,
 ⟨some 86, .un .not (.t 85), some (78, true)⟩,
 ⟨some 87, .pick (.t 78) (.t 86) (.c (.bool false)), some (75, false)⟩,
 oo 88 (.pick (.t 75) (.c (.bool true)) (.t 87))])
 (.cond (.t 88)
 (.seq (.ops false [
 oo 4 (.mov (.c (.bool false)))])
 (.ret))
 (.skip)))
 (.seq (.seq (.ops false [
 oo 89 (.mov (.t 11)),
 oo 90 (.len (.t 89)),
 oo 91 (.mov (ci 0))])
 (.block 2 (.loop zq)))
 (.seq (.ops false [
 oo 106 (.mov (.t 11)),
 oo 107 (.len (.t 106)),
 oo 108 (.bin .gtr (.t 107) (ci 1))])
 (.cond (.t 108)
 (.ops false [
 oo 109 (.mov (.t 9)),
 oo 110 (.mov (.t 11)),
 oo 111 (.iaddr (some 8) (.t 110) (ci 1)),
 oo 112 (.load (some 8) (.t 111)),
 ⟨none, .mset (.st [.int, .int, .int, .int, .int, .int, .int, .int]) (.t 109) (.t 112) (.c (.bool true)), none⟩])
 (.skip)))))))
 (.ops false [
 oo 113 (.bin .add (.t 50) (ci 1)),
 oo 50 (.mov (.t 113))]))))
def zt : bI := .mk 127
 (.seq (.ops false [
 oo 2 (.box (some 5) (.t 0) true),
 oo 3 (.box (some 8) (.t 1) true),
 oo 4 (.mov (.c (.bool false)))])
 (.seq (.seq (.ops false [
 oo 15 (.call false 38 []),
 oo 16 (.un .not (.t 15))])
 (.cond (.t 16)
 (.seq (.ops false [
 oo 4 (.mov (.c (.bool false)))])
 (.ret))
 (.skip)))
 (.seq (.ops false [
 oo 18 (.ldI (some 5) (.t 2)),
 oo 19 (.call false 39 [(.t 18)]),
 oo 17 (.mov (.t 19)),
 oo 20 (.extract (.t 17) 0),
 oo 21 (.extract (.t 17) 1),
 oo 5 (.alloc [.int .i64 0, .int .i64 0, .int .u16 0, .vec (some 4) []]),
 ⟨none, .store (some 4) (.t 5) (.t 20), none⟩,
 oo 6 (.mov (.t 21))])
 (.seq (.seq (.ops false [
 oo 22 (.mov (.t 6)),
 oo 23 (.un .not (.t 22))])
 (.cond (.t 23)
 (.seq (.ops false [
 oo 4 (.mov (.c (.bool true)))])
 (.ret))
 (.skip)))
 (.seq (.ops false [
 oo 25 (.faddr 0 (.t 2)),
 oo 26 (.ldI (some 3) (.t 25)),
 oo 27 (.load (some 4) (.t 5)),
 oo 28 (.faddr 4 (.t 2)),
 oo 29 (.ldI none (.t 28)),
 oo 30 (.ldI (some 8) (.t 3)),
 oo 31 (.call false 40 [(.t 26), (.t 27), (.t 29), (.t 30)]),
 oo 24 (.mov (.t 31)),
 oo 32 (.extract (.t 24) 0),
 oo 33 (.extract (.t 24) 1),
 oo 7 (.mov (.t 32)),
 oo 8 (.mov (.t 33))])
 (.seq (.seq (.ops false [
 oo 34 (.mov (.t 8)),
 oo 35 (.bin .neq (.t 34) (ci 0))])
 (.cond (.t 35)
 (.seq (.ops false [
 oo 36 (.mov (.t 7)),
 oo 37 (.len (.t 36)),
 oo 38 (.bin .eql (.t 37) (ci 0)),
 oo 4 (.mov (.t 38))])
 (.ret))
 (.skip)))
 (.seq (.seq (.ops false [
 oo 39 (.mov (.t 7)),
 oo 40 (.len (.t 39)),
 oo 41 (.bin .eql (.t 40) (ci 0)),
 oo 42 (.mov (.t 41)),
 ⟨some 43, .mov (.t 7), some (42, false)⟩,
 ⟨some 44, .len (.t 43), some (42, false)⟩,
 ⟨some 45, .bin .gtr (.t 44) (ci 200), some (42, false)⟩,
 oo 46 (.pick (.t 42) (.c (.bool true)) (.t 45))])
 (.cond (.t 46)
 (.seq (.ops false [
 oo 4 (.mov (.c (.bool false)))])
 (.ret))
 (.skip)))
 (.seq (.ops false [
 oo 47 (.mkmap),
 oo 9 (.mov (.t 47))])
 (.seq (.seq (.ops false [
 oo 48 (.mov (.t 7)),
 oo 49 (.len (.t 48)),
 oo 50 (.mov (ci 0))])
 (.block 0 (.loop zr)))
 (.seq (.ops false [
 oo 115 (.load (some 4) (.t 5)),
 oo 116 (.faddr 4 (.t 2)),
 oo 117 (.ldI none (.t 116)),
 oo 118 (.ldI (some 8) (.t 3)),
 oo 119 (.call false 44 [(.t 115), (.t 117), (.t 118)]),
 oo 114 (.mov (.t 119)),
 oo 120 (.extract (.t 114) 0),
 oo 121 (.extract (.t 114) 1),
 oo 13 (.mov (.t 120)),
 oo 14 (.mov (.t 121))])
 (.seq (.ops false [
 oo 122 (.mov (.t 9)),
 oo 123 (.mlen (.t 122)),
 oo 124 (.mov (.t 13)),
 oo 125 (.len (.t 124)),
 oo 126 (.bin .eql (.t 123) (.t 125)),
 oo 4 (.mov (.t 126))])
 (.ret))))))))))))
 [.t 4]
set_option maxRecDepth 100000 in
theorem zu : bL Try.prog 10 zt = true := by kernel_rfl
@[reducible] def ax (x : List ai) : V := .d (eL (some 4) aN x)
@[reducible] def ar (x : List Int) : V := .d (eL none (D.int .u16) x)
@[reducible] def aL (x : List api_Port) : V := .d (eL (some 2) eapi_Port x)
@[reducible] def ba (x : List (A2 api_Port)) : V := .d (eL (some 4) (cX eapi_Port) x)
@[reducible] def ct (x : List f8) : V := .d (eL (some 2) fp x)
@[reducible] def cN (x : List law05_Step) : V := .d (eL (some 4) elaw05_Step x)
@[reducible] def gm (x : List nk) : V := .d (eL (some 3) jt x)
@[reducible] def bk (x : ai) : V := .d (.cptr (some 4) (bN x) 0)
@[reducible] def bx (x : api_Topo) : V := .d (.cptr (some 3) (eapi_Topo x) 0)
@[reducible] def cn (x : law14_Net) : V := .d (.cptr (some 5) (elaw14_Net x) 0)
@[reducible] def cF (x : api_Port) : V := .d (.cptr (some 2) (eapi_Port x) 0)
@[reducible] def l5 (x : fC) : V := .d (.cptr (some 6) (l3 x) 0)
@[reducible] def l8 (x : f8) : V := .d (.cptr (some 2) (fp x) 0)
@[reducible] def vs1 (x : ai) : V := .d (bN x)
@[reducible] def dl (x : api_Port) : V := .d (eapi_Port x)
@[reducible] def eG (x : api_Topo) : V := .d (eapi_Topo x)
@[reducible] def bz : aX := .var [vi 0, vi 0, vh 0, ax []]
@[reducible] def ce : aX := .var [vh 0, vh 0, vh 0, vh 0, vh 0, vh 0, vh 0, vh 0]
@[reducible] def cK (x : ai) : aX := .var [vi x.Op, vi x.F, vh x.N, ax x.Kids]
@[reducible] def en (x : law05_Step) : aX := .var [vi x.What, vi x.F, vh x.N, v8 x.K]
end Go.AM
