import Derived.Test.YtkgegocfjalcbaaDoorAmN8
import Derived.Test.YtkgegocfjalcbaaDoorAmMp
import Derived.Test.YtkgegocfjalcbaaDoorAmW
import Derived.Test.YtkgegocfjalcbaaDoorCzT
import Derived.Test.YtkgegocfjalcbaaDoorProg
/-  What they are in the program: data and code. -/
set_option linter.unusedVariables false
set_option linter.unusedSimpArgs false
namespace Go.AM
open Go Go.RowKit Go.Proofs

instance tabs : Glob := ⟨[(0, gtab0)]⟩
@[reducible] def gp0 : D := .cptr (some 64) (.agg (gtab0.map (D.int .u8))) 0

def eapi_Hop (x : api_Hop) : D := .agg (((eA8 (D.int .u16)) x.In).cells ++ (D.bool x.Fresh :: ((D.int .u16) x.Tag :: ((D.int .u64) x.Was :: ((D.int .u64) x.Now :: ((D.int .u64) x.New :: ((eL (some 8) (eA8 (D.int .u16))) x.Out :: ((D.int .i64) x.Err :: []))))))))

def eapi_Step (x : api_Step) : D := .agg ((D.int .i64) x.What :: ((D.int .i64) x.Switch :: ((eapi_Hop x.Hop).cells ++ ((D.int .i64) x.Path :: []))))

def eapi_Path (x : api_Path) : D := .agg ((eL (some 8) (eA8 (D.int .u16))) x.L :: ((D.int .u16) x.Tag :: ((D.int .i64) x.Born :: ((D.int .i64) x.End :: ((D.int .i64) x.Of :: ((D.int .i64) x.At :: []))))))


/-- (*pointsman/cause.looker).from -/
def a25 : AFn := .mk 57
 (.seq (.ops false [
 oo 4 (.mov (ci 0)),
 oo 5 (.mov (.c (.bool false))),
 oo 6 (.mov (.c (.bool false)))])
 (.seq (.ops false [
 oo 11 (.mov (.t 0)),
 oo 12 (.nilchk (.t 11)),
 oo 13 (.faddr 1 (.t 12)),
 oo 14 (.load none (.t 13)),
 oo 15 (.mov (.t 1)),
 oo 16 (.iaddr (some 18) (.t 14) (.t 15)),
 oo 17 (.faddr 17 (.t 16)),
 oo 18 (.load none (.t 17)),
 oo 7 (.mov (.t 18))])
 (.seq (.seq (.ops false [
 oo 19 (.mov (.t 7)),
 oo 20 (.bin .lss (.t 19) (ci 0))])
 (.cond (.t 20)
 (.seq (.ops false [
 oo 4 (.mov (ci 0)),
 oo 5 (.mov (.c (.bool false))),
 oo 6 (.mov (.c (.bool true)))])
 (.ret))
 (.skip)))
 (.seq (.seq (.ops false [
 oo 22 (.mov (.t 0)),
 oo 23 (.nilchk (.t 22)),
 oo 24 (.faddr 5 (.t 23)),
 oo 25 (.load none (.t 24)),
 oo 26 (.mov (.t 7)),
 oo 27 (.mget .int (.int .i64 0) true (.t 25) (.t 26)),
 oo 21 (.mov (.t 27)),
 oo 28 (.extract (.t 21) 0),
 oo 29 (.extract (.t 21) 1),
 oo 8 (.mov (.t 28)),
 oo 9 (.mov (.t 29))])
 (.seq (.ops false [
 oo 30 (.mov (.t 9))])
 (.cond (.t 30)
 (.seq (.ops false [
 oo 31 (.mov (.t 8)),
 oo 4 (.mov (.t 31)),
 oo 5 (.mov (.c (.bool true))),
 oo 6 (.mov (.c (.bool true)))])
 (.ret))
 (.skip))))
 (.seq (.seq (.ops false [
 oo 32 (.mov (.t 0)),
 oo 33 (.nilchk (.t 32)),
 oo 34 (.faddr 0 (.t 33)),
 oo 35 (.load none (.t 34)),
 oo 36 (.mov (.t 7)),
 oo 37 (.iaddr (some 6) (.t 35) (.t 36)),
 oo 38 (.faddr 4 (.t 37)),
 oo 39 (.load none (.t 38)),
 oo 40 (.bin .lss (.t 39) (ci 0))])
 (.cond (.t 40)
 (.seq (.ops false [
 oo 4 (.mov (ci 0)),
 oo 5 (.mov (.c (.bool false))),
 oo 6 (.mov (.c (.bool true)))])
 (.ret))
 (.skip)))
 (.seq (.ops false [
 oo 41 (.mov (.t 0)),
 oo 42 (.nilchk (.t 41)),
 oo 43 (.faddr 0 (.t 42)),
 oo 44 (.load none (.t 43)),
 oo 45 (.mov (.t 7)),
 oo 46 (.iaddr (some 6) (.t 44) (.t 45)),
 oo 47 (.faddr 5 (.t 46)),
 oo 48 (.load none (.t 47)),
 oo 10 (.mov (.t 48))])
 (.seq (.ops false [
 oo 49 (.mov (.t 10)),
 oo 50 (.mov (.t 10)),
 oo 51 (.bin .geq (.t 50) (ci 0)),
 oo 52 (.mov (.t 51)),
 ⟨some 53, .mov (.t 10), some (52, true)⟩,
 ⟨some 54, .mov (.t 1), some (52, true)⟩,
 ⟨some 55, .bin .lss (.t 53) (.t 54), some (52, true)⟩,
 oo 56 (.pick (.t 52) (.t 55) (.c (.bool false))),
 oo 4 (.mov (.t 49)),
 oo 5 (.mov (.c (.bool true))),
 oo 6 (.mov (.t 56))])
 (.ret))))))))
 [.t 4, .t 5, .t 6]

set_option maxRecDepth 100000 in
theorem ok25 : chkFn Tryd.prog 25 a25 = true := by kernel_rfl

/-- slices.Clone[pointsman/cause.steps,uint64] -/
def a27 : AFn := .mk 8
 (.seq (.ops false [
 oo 2 (.mov (.c (.nils)))])
 (.seq (.seq (.ops false [
 oo 3 (.mov (.t 0)),
 oo 4 (.eqN false 1 (.t 3) (.c (.nils)))])
 (.cond (.t 4)
 (.seq (.ops false [
 oo 2 (.mov (.c (.nils)))])
 (.ret))
 (.skip)))
 (.seq (.ops false [
 oo 5 (.bslice none [] true),
 oo 6 (.mov (.t 0)),
 oo 7 (.append none (.t 5) (.t 6) true),
 oo 2 (.mov (.t 7))])
 (.ret))))
 [.t 2]

set_option maxRecDepth 100000 in
theorem ok27 : chkFn Tryd.prog 27 a27 = true := by kernel_rfl

def b24_0 : ACode :=
 (.seq (.seq (.ops false [
 oo 10 (.mov (.t 5)),
 oo 11 (.len (.t 10)),
 oo 12 (.mov (.t 1)),
 oo 13 (.len (.t 12)),
 oo 14 (.bin .lss (.t 11) (.t 13))])
 (.cond (.t 14)
 (.skip)
 (.exit 0)))
 (.block 1 (.ops false [
 oo 15 (.mov (.t 5)),
 oo 16 (.bsliceI none [(.c (.int .u64 0))]),
 oo 17 (.append none (.t 15) (.t 16) true),
 oo 5 (.mov (.t 17))])))

def b24_1 : ACode :=
 (.seq (.ops false [
 oo 21 (.bin .lss (.t 20) (.t 19))])
 (.seq (.cond (.t 21)
 (.skip)
 (.exit 2))
 (.seq (.block 3 (.seq (.ops false [
 oo 22 (.mov (.t 20)),
 oo 23 (.iaddr none (.t 18) (.t 20)),
 oo 24 (.load none (.t 23)),
 oo 6 (.mov (.t 22)),
 oo 7 (.mov (.t 24))])
 (.ops false [
 oo 25 (.mov (.t 5)),
 oo 26 (.mov (.t 6)),
 oo 27 (.iaddr none (.t 25) (.t 26)),
 oo 28 (.load none (.t 27)),
 oo 29 (.mov (.t 7)),
 oo 30 (.bin .or (.t 28) (.t 29)),
 oo 31 (.iaddr none (.t 25) (.t 26)),
 ⟨none, .store none (.t 31) (.t 30), none⟩])))
 (.ops false [
 oo 32 (.bin .add (.t 20) (ci 1)),
 oo 20 (.mov (.t 32))]))))

/-- (pointsman/cause.steps).with -/
def a24 : AFn := .mk 34
 (.seq (.ops false [
 oo 4 (.mov (.c (.vec none [])))])
 (.seq (.ops false [
 oo 8 (.mov (.t 0)),
 oo 9 (.call true 27 [(.t 8)]),
 oo 5 (.mov (.t 9))])
 (.seq (.block 0 (.loop b24_0))
 (.seq (.seq (.ops false [
 oo 18 (.mov (.t 1)),
 oo 19 (.len (.t 18)),
 oo 20 (.mov (ci 0))])
 (.block 2 (.loop b24_1)))
 (.seq (.ops false [
 oo 33 (.mov (.t 5)),
 oo 4 (.mov (.t 33))])
 (.ret))))))
 [.t 4]

set_option maxRecDepth 100000 in
theorem ok24 : chkFn Tryd.prog 24 a24 = true := by kernel_rfl

/-- (pointsman/cause.steps).and -/
def a26 : AFn := .mk 20
 (.seq (.ops false [
 oo 4 (.mov (.c (.vec none [])))])
 (.seq (.ops false [
 oo 6 (.mov (.t 1)),
 oo 7 (.bin .quo (.t 6) (ci 64)),
 oo 8 (.bin .add (.t 7) (ci 1)),
 oo 9 (.mkslice none (.int .u64 0) (.t 8) (.t 8)),
 oo 5 (.mov (.t 9))])
 (.seq (.ops false [
 oo 10 (.mov (.t 5)),
 oo 11 (.mov (.t 1)),
 oo 12 (.bin .quo (.t 11) (ci 64)),
 oo 13 (.mov (.t 1)),
 oo 14 (.bin .rem (.t 13) (ci 64)),
 oo 15 (.bin .shl (.c (.int .u64 1)) (.t 14)),
 oo 16 (.iaddr none (.t 10) (.t 12)),
 ⟨none, .store none (.t 16) (.t 15), none⟩])
 (.seq (.ops false [
 oo 17 (.mov (.t 0)),
 oo 18 (.mov (.t 5)),
 oo 19 (.call false 24 [(.t 17), (.t 18)]),
 oo 4 (.mov (.t 19))])
 (.ret)))))
 [.t 4]

set_option maxRecDepth 100000 in
theorem ok26 : chkFn Tryd.prog 26 a26 = true := by kernel_rfl

/-- (*pointsman/cause.looker).step -/
def a23 : AFn := .mk 82
 (.seq (.ops false [
 oo 4 (.mov (.c (.bool false)))])
 (.seq (.ops false [
 oo 10 (.mov (.t 0)),
 oo 11 (.nilchk (.t 10)),
 oo 12 (.faddr 1 (.t 11)),
 oo 13 (.load none (.t 12)),
 oo 14 (.mov (.t 1)),
 oo 15 (.iaddr (some 18) (.t 13) (.t 14)),
 oo 16 (.load (some 18) (.t 15)),
 oo 5 (.alloc [.int .i64 0, .int .i64 0, .int .u16 0, .int .u16 0, .int .u16 0, .int .u16 0, .int .u16 0, .int .u16 0, .int .u16 0, .int .u16 0, .bool false, .int .u16 0, .int .u64 0, .int .u64 0, .int .u64 0, .vec (some 8) [], .int .i64 0, .int .i64 0]),
 ⟨none, .store (some 18) (.t 5) (.t 16), none⟩])
 (.seq (.ops true [
 oo 17 (.mov (.t 0)),
 oo 18 (.nilchk (.t 17)),
 oo 19 (.faddr 2 (.t 18)),
 oo 20 (.load none (.t 19)),
 oo 21 (.faddr 1 (.t 5)),
 oo 22 (.load none (.t 21)),
 oo 23 (.iaddr none (.t 20) (.t 22)),
 oo 24 (.load none (.t 23)),
 oo 6 (.mov (.t 24))])
 (.seq (.ops false [
 oo 26 (.mov (.t 0)),
 oo 27 (.mov (.t 1)),
 oo 28 (.call true 25 [(.t 26), (.t 27)]),
 oo 25 (.mov (.t 28)),
 oo 29 (.extract (.t 25) 0),
 oo 30 (.extract (.t 25) 1),
 oo 31 (.extract (.t 25) 2),
 oo 7 (.mov (.t 29)),
 oo 8 (.mov (.t 30)),
 oo 9 (.mov (.t 31))])
 (.seq (.seq (.ops false [
 oo 32 (.mov (.t 9)),
 oo 33 (.un .not (.t 32))])
 (.cond (.t 33)
 (.seq (.ops false [
 oo 4 (.mov (.c (.bool false)))])
 (.ret))
 (.skip)))
 (.seq (.seq (.ops false [
 oo 34 (.mov (.t 8)),
 oo 35 (.mov (.t 34)),
 ⟨some 36, .faddr 2 (.t 5), some (35, true)⟩,
 ⟨some 37, .faddr 14 (.t 36), some (35, true)⟩,
 ⟨some 38, .load none (.t 37), some (35, true)⟩,
 ⟨some 39, .bin .eql (.t 38) (ci 0), some (35, true)⟩,
 oo 40 (.pick (.t 35) (.t 39) (.c (.bool false)))])
 (.cond (.t 40)
 (.ops false [
 oo 41 (.mov (.t 6)),
 oo 42 (.mov (.t 0)),
 oo 43 (.nilchk (.t 42)),
 oo 44 (.faddr 4 (.t 43)),
 oo 45 (.load none (.t 44)),
 oo 46 (.mov (.t 7)),
 oo 47 (.iaddr none (.t 45) (.t 46)),
 oo 48 (.load none (.t 47)),
 oo 49 (.call false 24 [(.t 41), (.t 48)]),
 oo 50 (.mov (.t 7)),
 oo 51 (.call false 26 [(.t 49), (.t 50)]),
 oo 6 (.mov (.t 51))])
 (.skip)))
 (.seq (.ops false [
 oo 52 (.mov (.t 0)),
 oo 53 (.mov (.t 0)),
 oo 54 (.nilchk (.t 53)),
 oo 55 (.faddr 4 (.t 54)),
 oo 56 (.load none (.t 55)),
 oo 57 (.mov (.t 6)),
 oo 58 (.bsliceI none [(.t 57)]),
 oo 59 (.append none (.t 56) (.t 58) false),
 oo 60 (.nilchk (.t 52)),
 oo 61 (.faddr 4 (.t 60)),
 ⟨none, .store none (.t 61) (.t 59), none⟩])
 (.seq (.ops true [
 oo 62 (.mov (.t 0)),
 oo 63 (.nilchk (.t 62)),
 oo 64 (.faddr 2 (.t 63)),
 oo 65 (.load none (.t 64)),
 oo 66 (.faddr 1 (.t 5)),
 oo 67 (.load none (.t 66)),
 oo 68 (.mov (.t 6)),
 oo 69 (.mov (.t 1)),
 oo 70 (.call false 26 [(.t 68), (.t 69)]),
 oo 71 (.iaddr none (.t 65) (.t 67)),
 ⟨none, .store none (.t 71) (.t 70), none⟩])
 (.seq (.seq (.ops false [
 oo 72 (.faddr 17 (.t 5)),
 oo 73 (.load none (.t 72)),
 oo 74 (.bin .geq (.t 73) (ci 0))])
 (.cond (.t 74)
 (.ops true [
 oo 75 (.mov (.t 0)),
 oo 76 (.nilchk (.t 75)),
 oo 77 (.faddr 5 (.t 76)),
 oo 78 (.load none (.t 77)),
 oo 79 (.faddr 17 (.t 5)),
 oo 80 (.load none (.t 79)),
 oo 81 (.mov (.t 1)),
 ⟨none, .mset .int (.t 78) (.t 80) (.t 81), none⟩])
 (.skip)))
 (.seq (.ops false [
 oo 4 (.mov (.c (.bool true)))])
 (.ret)))))))))))
 [.t 4]

set_option maxRecDepth 100000 in
theorem ok23 : chkFn Tryd.prog 23 a23 = true := by kernel_rfl

/-- (*pointsman/cause.looker).one -/
def a21 : AFn := .mk 97
 (.seq (.ops false [
 oo 4 (.mov (.c (.bool false)))])
 (.seq (.ops false [
 oo 6 (.mov (.t 0)),
 oo 7 (.nilchk (.t 6)),
 oo 8 (.faddr 1 (.t 7)),
 oo 9 (.load none (.t 8)),
 oo 10 (.mov (.t 1)),
 oo 11 (.iaddr (some 18) (.t 9) (.t 10)),
 oo 12 (.load (some 18) (.t 11)),
 oo 5 (.alloc [.int .i64 0, .int .i64 0, .int .u16 0, .int .u16 0, .int .u16 0, .int .u16 0, .int .u16 0, .int .u16 0, .int .u16 0, .int .u16 0, .bool false, .int .u16 0, .int .u64 0, .int .u64 0, .int .u64 0, .vec (some 8) [], .int .i64 0, .int .i64 0]),
 ⟨none, .store (some 18) (.t 5) (.t 12), none⟩])
 (.seq (.seq (.ops true [
 oo 13 (.faddr 1 (.t 5)),
 oo 14 (.load none (.t 13)),
 oo 15 (.bin .lss (.t 14) (ci 0)),
 oo 16 (.mov (.t 15)),
 ⟨some 17, .faddr 1 (.t 5), some (16, false)⟩,
 ⟨some 18, .load none (.t 17), some (16, false)⟩,
 ⟨some 19, .mov (.t 0), some (16, false)⟩,
 ⟨some 20, .nilchk (.t 19), some (16, false)⟩,
 ⟨some 21, .faddr 2 (.t 20), some (16, false)⟩,
 ⟨some 22, .load none (.t 21), some (16, false)⟩,
 ⟨some 23, .len (.t 22), some (16, false)⟩,
 ⟨some 24, .bin .geq (.t 18) (.t 23), some (16, false)⟩,
 oo 25 (.pick (.t 16) (.c (.bool true)) (.t 24)),
 oo 26 (.mov (.t 25)),
 ⟨some 27, .faddr 17 (.t 5), some (26, false)⟩,
 ⟨some 28, .load none (.t 27), some (26, false)⟩,
 ⟨some 29, .bin .lss (.t 28) (ci (-1)), some (26, false)⟩,
 oo 30 (.pick (.t 26) (.c (.bool true)) (.t 29)),
 oo 31 (.mov (.t 30)),
 ⟨some 32, .faddr 17 (.t 5), some (31, false)⟩,
 ⟨some 33, .load none (.t 32), some (31, false)⟩,
 ⟨some 34, .mov (.t 0), some (31, false)⟩,
 ⟨some 35, .nilchk (.t 34), some (31, false)⟩,
 ⟨some 36, .faddr 0 (.t 35), some (31, false)⟩,
 ⟨some 37, .load none (.t 36), some (31, false)⟩,
 ⟨some 38, .len (.t 37), some (31, false)⟩,
 ⟨some 39, .bin .geq (.t 33) (.t 38), some (31, false)⟩,
 oo 40 (.pick (.t 31) (.c (.bool true)) (.t 39))])
 (.cond (.t 40)
 (.seq (.ops false [
 oo 4 (.mov (.c (.bool false)))])
 (.ret))
 (.skip)))
 (.seq (.seq (.ops false [
 oo 41 (.faddr 0 (.t 5)),
 oo 42 (.load none (.t 41))])
 (.block 0 (.seq (.ops false [
 oo 44 (.bin .eql (.t 42) (ci 2)),
 oo 43 (.mov (.t 44))])
 (.cond (.t 43)
 (.seq (.ops false [
 oo 45 (.mov (.t 0)),
 oo 46 (.mov (.t 1)),
 oo 47 (.call true 23 [(.t 45), (.t 46)]),
 oo 4 (.mov (.t 47))])
 (.ret))
 (.seq (.ops false [
 oo 49 (.bin .eql (.t 42) (ci 5)),
 oo 48 (.mov (.t 49))])
 (.cond (.t 48)
 (.ops true [
 oo 50 (.mov (.t 0)),
 oo 51 (.mov (.t 0)),
 oo 52 (.nilchk (.t 51)),
 oo 53 (.faddr 3 (.t 52)),
 oo 54 (.load none (.t 53)),
 oo 55 (.mov (.t 0)),
 oo 56 (.nilchk (.t 55)),
 oo 57 (.faddr 2 (.t 56)),
 oo 58 (.load none (.t 57)),
 oo 59 (.faddr 1 (.t 5)),
 oo 60 (.load none (.t 59)),
 oo 61 (.iaddr none (.t 58) (.t 60)),
 oo 62 (.load none (.t 61)),
 oo 63 (.call false 24 [(.t 54), (.t 62)]),
 oo 64 (.nilchk (.t 50)),
 oo 65 (.faddr 3 (.t 64)),
 ⟨none, .store none (.t 65) (.t 63), none⟩])
 (.seq (.ops false [
 oo 67 (.bin .eql (.t 42) (ci 6)),
 oo 66 (.mov (.t 67))])
 (.cond (.t 66)
 (.ops true [
 oo 68 (.mov (.t 0)),
 oo 69 (.nilchk (.t 68)),
 oo 70 (.faddr 2 (.t 69)),
 oo 71 (.load none (.t 70)),
 oo 72 (.faddr 1 (.t 5)),
 oo 73 (.load none (.t 72)),
 oo 74 (.mov (.t 0)),
 oo 75 (.nilchk (.t 74)),
 oo 76 (.faddr 2 (.t 75)),
 oo 77 (.load none (.t 76)),
 oo 78 (.faddr 1 (.t 5)),
 oo 79 (.load none (.t 78)),
 oo 80 (.iaddr none (.t 77) (.t 79)),
 oo 81 (.load none (.t 80)),
 oo 82 (.mov (.t 0)),
 oo 83 (.nilchk (.t 82)),
 oo 84 (.faddr 3 (.t 83)),
 oo 85 (.load none (.t 84)),
 oo 86 (.call false 24 [(.t 81), (.t 85)]),
 oo 87 (.iaddr none (.t 71) (.t 73)),
 ⟨none, .store none (.t 87) (.t 86), none⟩])
 (.seq (.ops false [
 oo 4 (.mov (.c (.bool false)))])
 (.ret))))))))))
 (.seq (.ops false [
 oo 88 (.mov (.t 0)),
 oo 89 (.mov (.t 0)),
 oo 90 (.nilchk (.t 89)),
 oo 91 (.faddr 4 (.t 90)),
 oo 92 (.load none (.t 91)),
 oo 93 (.bsliceI none [(.c (.vec none []))]),
 oo 94 (.append none (.t 92) (.t 93) false),
 oo 95 (.nilchk (.t 88)),
 oo 96 (.faddr 4 (.t 95)),
 ⟨none, .store none (.t 96) (.t 94), none⟩])
 (.seq (.ops false [
 oo 4 (.mov (.c (.bool true)))])
 (.ret)))))))
 [.t 4]

set_option maxRecDepth 100000 in
theorem ok21 : chkFn Tryd.prog 21 a21 = true := by kernel_rfl

def b16_0 : ACode :=
 (.seq (.ops false [
 oo 22 (.bin .lss (.t 21) (.t 20))])
 (.seq (.cond (.t 22)
 (.skip)
 (.exit 0))
 (.seq (.block 1 (.seq (.ops false [
 oo 23 (.mov (.t 21)),
 oo 9 (.mov (.t 23))])
 (.seq (.ops false [
 oo 24 (.mov (.t 8)),
 oo 25 (.mov (.t 9)),
 oo 26 (.call true 21 [(.t 24), (.t 25)]),
 oo 27 (.un .not (.t 26))])
 (.cond (.t 27)
 (.seq (.ops false [
 oo 6 (.mov (.c (.vec none []))),
 oo 7 (.mov (.c (.bool false)))])
 (.ret))
 (.skip)))))
 (.ops false [
 oo 28 (.bin .add (.t 21) (ci 1)),
 oo 21 (.mov (.t 28))]))))

/-- pointsman/cause.look -/
def a16 : AFn := .mk 33
 (.seq (.ops false [
 oo 6 (.mov (.c (.vec none []))),
 oo 7 (.mov (.c (.bool false)))])
 (.seq (.ops false [
 oo 10 (.mov (.t 0)),
 oo 11 (.mov (.t 1)),
 oo 12 (.mov (.t 2)),
 oo 13 (.max2 (.t 12) (ci 0)),
 oo 14 (.min2 (.t 13) (ci 100)),
 oo 15 (.mkslice none (.vec none []) (.t 14) (.t 14)),
 oo 16 (.mkmap),
 oo 17 (.build [.vec (some 6) [], .vec (some 18) [], .nils, .vec none [], .nils, .nilm] [(0, 1, (.t 10)), (1, 1, (.t 11)), (2, 1, (.t 15)), (5, 1, (.t 16))]),
 oo 18 (.box (some 6) (.t 17) false),
 oo 8 (.mov (.t 18))])
 (.seq (.seq (.ops false [
 oo 19 (.mov (.t 1)),
 oo 20 (.len (.t 19)),
 oo 21 (.mov (ci 0))])
 (.block 0 (.loop b16_0)))
 (.seq (.ops false [
 oo 29 (.mov (.t 8)),
 oo 30 (.nilchk (.t 29)),
 oo 31 (.faddr 4 (.t 30)),
 oo 32 (.load none (.t 31)),
 oo 6 (.mov (.t 32)),
 oo 7 (.mov (.c (.bool true)))])
 (.ret)))))
 [.t 6, .t 7]

set_option maxRecDepth 100000 in
theorem ok16 : chkFn Tryd.prog 16 a16 = true := by kernel_rfl

/-- math/bits.TrailingZeros64 -/
def a22 : AFn := .mk 14
 (.seq (.ops false [
 oo 2 (.mov (ci 0))])
 (.seq (.seq (.ops false [
 oo 3 (.mov (.t 0)),
 oo 4 (.bin .eql (.t 3) (.c (.int .u64 0)))])
 (.cond (.t 4)
 (.seq (.ops false [
 oo 2 (.mov (ci 64))])
 (.ret))
 (.skip)))
 (.seq (.ops false [
 oo 5 (.mov (.t 0)),
 oo 6 (.mov (.t 0)),
 oo 7 (.un .neg (.t 6)),
 oo 8 (.bin .and (.t 5) (.t 7)),
 oo 9 (.bin .mul (.t 8) (.c (.int .u64 285870213051353865))),
 oo 10 (.bin .shr (.t 9) (.c (.int .u64 58))),
 oo 11 (.iaddrA 64 none (.c (gp0)) (.t 10)),
 oo 12 (.load none (.t 11)),
 oo 13 (.convI .i64 (.t 12)),
 oo 2 (.mov (.t 13))])
 (.ret))))
 [.t 2]

set_option maxRecDepth 100000 in
theorem ok22 : chkFn Tryd.prog 22 a22 = true := by kernel_rfl

def b17_1 : ACode :=
 (.seq (.seq (.ops false [
 oo 13 (.mov (.t 5)),
 oo 14 (.bin .neq (.t 13) (.c (.int .u64 0)))])
 (.cond (.t 14)
 (.skip)
 (.exit 2)))
 (.seq (.block 3 (.ops false [
 oo 19 (.mov (.t 3)),
 oo 20 (.mov (.t 4)),
 oo 21 (.bin .mul (ci 64) (.t 20)),
 oo 22 (.mov (.t 5)),
 oo 23 (.call false 22 [(.t 22)]),
 oo 24 (.bin .add (.t 21) (.t 23)),
 oo 25 (.bsliceI none [(.t 24)]),
 oo 26 (.append none (.t 19) (.t 25) false),
 oo 3 (.mov (.t 26))]))
 (.ops false [
 oo 15 (.mov (.t 5)),
 oo 16 (.mov (.t 5)),
 oo 17 (.bin .sub (.t 16) (.c (.int .u64 1))),
 oo 18 (.bin .and (.t 15) (.t 17)),
 oo 5 (.mov (.t 18))])))

def b17_0 : ACode :=
 (.seq (.ops false [
 oo 9 (.bin .lss (.t 8) (.t 7))])
 (.seq (.cond (.t 9)
 (.skip)
 (.exit 0))
 (.seq (.block 1 (.seq (.ops false [
 oo 10 (.mov (.t 8)),
 oo 11 (.iaddr none (.t 6) (.t 8)),
 oo 12 (.load none (.t 11)),
 oo 4 (.mov (.t 10)),
 oo 5 (.mov (.t 12))])
 (.block 2 (.loop b17_1))))
 (.ops false [
 oo 27 (.bin .add (.t 8) (ci 1)),
 oo 8 (.mov (.t 27))]))))

/-- (pointsman/cause.steps).list -/
def a17 : AFn := .mk 29
 (.seq (.ops false [
 oo 2 (.mov (.c (.vec none [])))])
 (.seq (.ops false [
 oo 3 (.mov (.c (.nils)))])
 (.seq (.seq (.ops false [
 oo 6 (.mov (.t 0)),
 oo 7 (.len (.t 6)),
 oo 8 (.mov (ci 0))])
 (.block 0 (.loop b17_0)))
 (.seq (.ops false [
 oo 28 (.mov (.t 3)),
 oo 2 (.mov (.t 28))])
 (.ret)))))
 [.t 2]

set_option maxRecDepth 100000 in
theorem ok17 : chkFn Tryd.prog 17 a17 = true := by kernel_rfl

def b8_0 : ACode :=
 (.seq (.ops false [
 oo 28 (.bin .lss (.t 27) (.t 26))])
 (.seq (.cond (.t 28)
 (.skip)
 (.exit 0))
 (.seq (.block 1 (.seq (.ops false [
 oo 29 (.mov (.t 27)),
 oo 30 (.iaddr none (.t 25) (.t 27)),
 oo 31 (.load none (.t 30)),
 oo 11 (.mov (.t 29)),
 oo 12 (.mov (.t 31))])
 (.ops false [
 oo 32 (.mov (.t 10)),
 oo 33 (.mov (.t 11)),
 oo 34 (.mov (.t 12)),
 oo 35 (.call false 17 [(.t 34)]),
 oo 36 (.iaddr none (.t 32) (.t 33)),
 ⟨none, .store none (.t 36) (.t 35), none⟩])))
 (.ops false [
 oo 37 (.bin .add (.t 27) (ci 1)),
 oo 27 (.mov (.t 37))]))))

/-- pointsman/cause.Ahead -/
def a8 : AFn := .mk 39
 (.seq (.ops false [
 oo 6 (.mov (.c (.vec none []))),
 oo 7 (.mov (.c (.bool false)))])
 (.seq (.ops false [
 oo 14 (.mov (.t 0)),
 oo 15 (.mov (.t 1)),
 oo 16 (.mov (.t 2)),
 oo 17 (.call false 16 [(.t 14), (.t 15), (.t 16)]),
 oo 13 (.mov (.t 17)),
 oo 18 (.extract (.t 13) 0),
 oo 19 (.extract (.t 13) 1),
 oo 8 (.mov (.t 18)),
 oo 9 (.mov (.t 19))])
 (.seq (.seq (.ops false [
 oo 20 (.mov (.t 9)),
 oo 21 (.un .not (.t 20))])
 (.cond (.t 21)
 (.seq (.ops false [
 oo 6 (.mov (.c (.vec none []))),
 oo 7 (.mov (.c (.bool false)))])
 (.ret))
 (.skip)))
 (.seq (.ops false [
 oo 22 (.mov (.t 8)),
 oo 23 (.len (.t 22)),
 oo 24 (.mkslice none (.vec none []) (.t 23) (.t 23)),
 oo 10 (.mov (.t 24))])
 (.seq (.seq (.ops false [
 oo 25 (.mov (.t 8)),
 oo 26 (.len (.t 25)),
 oo 27 (.mov (ci 0))])
 (.block 0 (.loop b8_0)))
 (.seq (.ops false [
 oo 38 (.mov (.t 10)),
 oo 6 (.mov (.t 38)),
 oo 7 (.mov (.c (.bool true)))])
 (.ret)))))))
 [.t 6, .t 7]

set_option maxRecDepth 100000 in
theorem ok8 : chkFn Tryd.prog 8 a8 = true := by kernel_rfl

def b9_1 : ACode :=
 (.seq (.ops false [
 oo 38 (.bin .lss (.t 37) (.t 36))])
 (.seq (.cond (.t 38)
 (.skip)
 (.exit 2))
 (.seq (.block 3 (.seq (.ops false [
 oo 39 (.iaddr none (.t 35) (.t 37)),
 oo 40 (.load none (.t 39)),
 oo 14 (.mov (.t 40))])
 (.ops true [
 oo 41 (.mov (.t 10)),
 oo 42 (.mov (.t 11)),
 oo 43 (.iaddr none (.t 41) (.t 42)),
 oo 44 (.load none (.t 43)),
 oo 45 (.mov (.t 1)),
 oo 46 (.mov (.t 14)),
 oo 47 (.iaddr (some 18) (.t 45) (.t 46)),
 oo 48 (.faddr 2 (.t 47)),
 oo 49 (.faddr 12 (.t 48)),
 oo 50 (.load none (.t 49)),
 oo 51 (.bin .or (.t 44) (.t 50)),
 oo 52 (.iaddr none (.t 41) (.t 42)),
 ⟨none, .store none (.t 52) (.t 51), none⟩])))
 (.ops false [
 oo 53 (.bin .add (.t 37) (ci 1)),
 oo 37 (.mov (.t 53))]))))

def b9_0 : ACode :=
 (.seq (.ops false [
 oo 30 (.bin .lss (.t 29) (.t 28))])
 (.seq (.cond (.t 30)
 (.skip)
 (.exit 0))
 (.seq (.block 1 (.seq (.ops false [
 oo 31 (.mov (.t 29)),
 oo 32 (.iaddr none (.t 27) (.t 29)),
 oo 33 (.load none (.t 32)),
 oo 11 (.mov (.t 31)),
 oo 12 (.mov (.t 33))])
 (.seq (.ops false [
 oo 34 (.mov (.t 12)),
 oo 35 (.call false 17 [(.t 34)]),
 oo 36 (.len (.t 35)),
 oo 37 (.mov (ci 0))])
 (.block 2 (.loop b9_1)))))
 (.ops false [
 oo 54 (.bin .add (.t 29) (ci 1)),
 oo 29 (.mov (.t 54))]))))

/-- pointsman/cause.Known -/
def a9 : AFn := .mk 56
 (.seq (.ops false [
 oo 6 (.mov (.c (.vec none []))),
 oo 7 (.mov (.c (.bool false)))])
 (.seq (.ops false [
 oo 16 (.mov (.t 0)),
 oo 17 (.mov (.t 1)),
 oo 18 (.mov (.t 2)),
 oo 19 (.call false 16 [(.t 16), (.t 17), (.t 18)]),
 oo 15 (.mov (.t 19)),
 oo 20 (.extract (.t 15) 0),
 oo 21 (.extract (.t 15) 1),
 oo 8 (.mov (.t 20)),
 oo 9 (.mov (.t 21))])
 (.seq (.seq (.ops false [
 oo 22 (.mov (.t 9)),
 oo 23 (.un .not (.t 22))])
 (.cond (.t 23)
 (.seq (.ops false [
 oo 6 (.mov (.c (.vec none []))),
 oo 7 (.mov (.c (.bool false)))])
 (.ret))
 (.skip)))
 (.seq (.ops false [
 oo 24 (.mov (.t 8)),
 oo 25 (.len (.t 24)),
 oo 26 (.mkslice none (.int .u64 0) (.t 25) (.t 25)),
 oo 10 (.mov (.t 26))])
 (.seq (.seq (.ops false [
 oo 27 (.mov (.t 8)),
 oo 28 (.len (.t 27)),
 oo 29 (.mov (ci 0))])
 (.block 0 (.loop b9_0)))
 (.seq (.ops false [
 oo 55 (.mov (.t 10)),
 oo 6 (.mov (.t 55)),
 oo 7 (.mov (.c (.bool true)))])
 (.ret)))))))
 [.t 6, .t 7]

set_option maxRecDepth 100000 in
theorem ok9 : chkFn Tryd.prog 9 a9 = true := by kernel_rfl

/-- pointsman/events.bit -/
def a18 : AFn := .mk 11
 (.seq (.ops false [
 oo 2 (.mov (.c (.int .u64 0)))])
 (.seq (.seq (.ops false [
 oo 3 (.mov (.t 0)),
 oo 4 (.bin .lss (.t 3) (ci 0)),
 oo 5 (.mov (.t 4)),
 ⟨some 6, .mov (.t 0), some (5, false)⟩,
 ⟨some 7, .bin .geq (.t 6) (ci 64), some (5, false)⟩,
 oo 8 (.pick (.t 5) (.c (.bool true)) (.t 7))])
 (.cond (.t 8)
 (.seq (.ops false [
 oo 2 (.mov (.c (.int .u64 0)))])
 (.ret))
 (.skip)))
 (.seq (.ops false [
 oo 9 (.mov (.t 0)),
 oo 10 (.bin .shl (.c (.int .u64 1)) (.t 9)),
 oo 2 (.mov (.t 10))])
 (.ret))))
 [.t 2]

set_option maxRecDepth 100000 in
theorem ok18 : chkFn Tryd.prog 18 a18 = true := by kernel_rfl

/-- pointsman/events.Has -/
def a13 : AFn := .mk 10
 (.seq (.ops false [
 oo 4 (.mov (.c (.bool false)))])
 (.seq (.ops false [
 oo 5 (.mov (.t 0)),
 oo 6 (.mov (.t 1)),
 oo 7 (.call false 18 [(.t 6)]),
 oo 8 (.bin .and (.t 5) (.t 7)),
 oo 9 (.bin .neq (.t 8) (.c (.int .u64 0))),
 oo 4 (.mov (.t 9))])
 (.ret)))
 [.t 4]

set_option maxRecDepth 100000 in
theorem ok13 : chkFn Tryd.prog 13 a13 = true := by kernel_rfl

/-- pointsman/cause.First$1 -/
def a12 : AFn := .mk 9
 (.seq (.ops false [
 oo 2 (.box (some 18) (.t 0) true),
 oo 3 (.mov (.c (.bool false)))])
 (.seq (.ops false [
 oo 4 (.faddr 2 (.t 2)),
 oo 5 (.faddr 12 (.t 4)),
 oo 6 (.ldI none (.t 5)),
 oo 7 (.load none (.t 1)),
 oo 8 (.call false 13 [(.t 6), (.t 7)]),
 oo 3 (.mov (.t 8))])
 (.ret)))
 [.t 3]

set_option maxRecDepth 100000 in
theorem ok12 : chkFn Tryd.prog 12 a12 = true := by kernel_rfl

def b11_0 : ACode :=
 (.seq (.ops false [
 oo 9 (.bin .lss (.t 8) (.t 7))])
 (.seq (.cond (.t 9)
 (.skip)
 (.exit 0))
 (.seq (.block 1 (.seq (.ops false [
 oo 10 (.mov (.t 8)),
 oo 5 (.mov (.t 10))])
 (.seq (.ops false [
 oo 11 (.mov (.t 1)),
 oo 12 (.mov (.t 0)),
 oo 13 (.mov (.t 5)),
 oo 14 (.iaddr (some 18) (.t 12) (.t 13)),
 oo 15 (.load (some 18) (.t 14)),
 oo 16 (.callv false (.t 11) [(.t 15)])])
 (.cond (.t 16)
 (.seq (.ops false [
 oo 17 (.mov (.t 5)),
 oo 4 (.mov (.t 17))])
 (.ret))
 (.skip)))))
 (.ops false [
 oo 18 (.bin .add (.t 8) (ci 1)),
 oo 8 (.mov (.t 18))]))))

/-- slices.IndexFunc[[]pointsman/api.Step,pointsman/api.Step] -/
def a11 : AFn := .mk 19
 (.seq (.ops false [
 oo 4 (.mov (ci 0))])
 (.seq (.seq (.ops false [
 oo 6 (.mov (.t 0)),
 oo 7 (.len (.t 6)),
 oo 8 (.mov (ci 0))])
 (.block 0 (.loop b11_0)))
 (.seq (.ops false [
 oo 4 (.mov (ci (-1)))])
 (.ret))))
 [.t 4]

set_option maxRecDepth 100000 in
theorem ok11 : chkFn Tryd.prog 11 a11 = true := by kernel_rfl

/-- pointsman/cause.First -/
def a6 : AFn := .mk 8
 (.seq (.ops false [
 oo 3 (.box none (.t 1) true),
 oo 4 (.mov (ci 0))])
 (.seq (.ops false [
 oo 5 (.mov (.t 0)),
 oo 6 (.mkfunc 12 [(.t 3)]),
 oo 7 (.call false 11 [(.t 5), (.t 6)]),
 oo 4 (.mov (.t 7))])
 (.ret)))
 [.t 4]

set_option maxRecDepth 100000 in
theorem ok6 : chkFn Tryd.prog 6 a6 = true := by kernel_rfl

/-- pointsman/pointsmanlaw21.awake -/
def a4 : AFn := .mk 68
 (.seq (.ops false [
 oo 0 (.mov (.c (.bool false)))])
 (.seq (.ops false [
 oo 6 (.build [.int .u16 0, .int .u16 0, .int .u16 0, .int .u16 0, .int .u16 0, .int .u16 0, .int .u16 0, .int .u16 0, .bool false, .int .u16 0, .int .u64 0, .int .u64 0, .int .u64 0, .vec (some 8) [], .int .i64 0] [(12, 1, (.c (.int .u64 4)))]),
 oo 7 (.build [.int .i64 0, .int .i64 0, .int .u16 0, .int .u16 0, .int .u16 0, .int .u16 0, .int .u16 0, .int .u16 0, .int .u16 0, .int .u16 0, .bool false, .int .u16 0, .int .u64 0, .int .u64 0, .int .u64 0, .vec (some 8) [], .int .i64 0, .int .i64 0] [(2, 15, (.t 6)), (0, 1, (ci 2)), (17, 1, (ci (-1)))]),
 oo 8 (.build [.int .i64 0, .int .i64 0, .int .u16 0, .int .u16 0, .int .u16 0, .int .u16 0, .int .u16 0, .int .u16 0, .int .u16 0, .int .u16 0, .bool false, .int .u16 0, .int .u64 0, .int .u64 0, .int .u64 0, .vec (some 8) [], .int .i64 0, .int .i64 0] [(0, 1, (ci 5)), (17, 1, (ci (-1)))]),
 oo 9 (.build [.int .i64 0, .int .i64 0, .int .u16 0, .int .u16 0, .int .u16 0, .int .u16 0, .int .u16 0, .int .u16 0, .int .u16 0, .int .u16 0, .bool false, .int .u16 0, .int .u64 0, .int .u64 0, .int .u64 0, .vec (some 8) [], .int .i64 0, .int .i64 0] [(0, 1, (ci 6)), (1, 1, (ci 1)), (17, 1, (ci (-1)))]),
 oo 10 (.build [.int .i64 0, .int .i64 0, .int .u16 0, .int .u16 0, .int .u16 0, .int .u16 0, .int .u16 0, .int .u16 0, .int .u16 0, .int .u16 0, .bool false, .int .u16 0, .int .u64 0, .int .u64 0, .int .u64 0, .vec (some 8) [], .int .i64 0, .int .i64 0] [(0, 1, (ci 2)), (1, 1, (ci 1)), (17, 1, (ci (-1)))]),
 oo 11 (.bsliceI (some 18) [(.t 7), (.t 8), (.t 9), (.t 10)]),
 oo 1 (.mov (.t 11))])
 (.seq (.ops false [
 oo 13 (.mov (.t 1)),
 oo 14 (.call false 8 [(.c (.nils)), (.t 13), (ci 2)]),
 oo 12 (.mov (.t 14)),
 oo 15 (.extract (.t 12) 0),
 oo 16 (.extract (.t 12) 1),
 oo 2 (.mov (.t 15)),
 oo 3 (.mov (.t 16))])
 (.seq (.ops false [
 oo 18 (.mov (.t 1)),
 oo 19 (.call false 9 [(.c (.nils)), (.t 18), (ci 2)]),
 oo 17 (.mov (.t 19)),
 oo 20 (.extract (.t 17) 0),
 oo 21 (.extract (.t 17) 1),
 oo 4 (.mov (.t 20)),
 oo 5 (.mov (.t 21))])
 (.seq (.ops false [
 oo 22 (.mov (.t 3)),
 oo 23 (.mov (.t 22)),
 ⟨some 24, .mov (.t 5), some (23, true)⟩,
 oo 25 (.pick (.t 23) (.t 24) (.c (.bool false))),
 oo 26 (.mov (.t 25)),
 ⟨some 27, .mov (.t 2), some (26, true)⟩,
 ⟨some 28, .len (.t 27), some (26, true)⟩,
 ⟨some 29, .bin .eql (.t 28) (ci 4), some (26, true)⟩,
 oo 30 (.pick (.t 26) (.t 29) (.c (.bool false))),
 oo 31 (.mov (.t 30)),
 ⟨some 32, .mov (.t 2), some (31, true)⟩,
 ⟨some 33, .iaddr none (.t 32) (ci 3), some (31, true)⟩,
 ⟨some 34, .load none (.t 33), some (31, true)⟩,
 ⟨some 35, .len (.t 34), some (31, true)⟩,
 ⟨some 36, .bin .eql (.t 35) (ci 1), some (31, true)⟩,
 oo 37 (.pick (.t 31) (.t 36) (.c (.bool false))),
 oo 38 (.mov (.t 37)),
 ⟨some 39, .mov (.t 2), some (38, true)⟩,
 ⟨some 40, .iaddr none (.t 39) (ci 3), some (38, true)⟩,
 ⟨some 41, .load none (.t 40), some (38, true)⟩,
 ⟨some 42, .iaddr none (.t 41) (ci 0), some (38, true)⟩,
 ⟨some 43, .load none (.t 42), some (38, true)⟩,
 ⟨some 44, .bin .eql (.t 43) (ci 0), some (38, true)⟩,
 oo 45 (.pick (.t 38) (.t 44) (.c (.bool false))),
 oo 46 (.mov (.t 45)),
 ⟨some 47, .mov (.t 4), some (46, true)⟩,
 ⟨some 48, .iaddr none (.t 47) (ci 3), some (46, true)⟩,
 ⟨some 49, .load none (.t 48), some (46, true)⟩,
 ⟨some 50, .bin .eql (.t 49) (.c (.int .u64 4)), some (46, true)⟩,
 oo 51 (.pick (.t 46) (.t 50) (.c (.bool false))),
 oo 52 (.mov (.t 51)),
 ⟨some 53, .mov (.t 4), some (52, true)⟩,
 ⟨some 54, .iaddr none (.t 53) (ci 0), some (52, true)⟩,
 ⟨some 55, .load none (.t 54), some (52, true)⟩,
 ⟨some 56, .bin .eql (.t 55) (.c (.int .u64 0)), some (52, true)⟩,
 oo 57 (.pick (.t 52) (.t 56) (.c (.bool false))),
 oo 58 (.mov (.t 57)),
 ⟨some 59, .mov (.t 1), some (58, true)⟩,
 ⟨some 60, .call false 6 [(.t 59), (ci 2)], some (58, true)⟩,
 ⟨some 61, .bin .eql (.t 60) (ci 0), some (58, true)⟩,
 oo 62 (.pick (.t 58) (.t 61) (.c (.bool false))),
 oo 63 (.mov (.t 62)),
 ⟨some 64, .mov (.t 1), some (63, true)⟩,
 ⟨some 65, .call false 6 [(.t 64), (ci 1)], some (63, true)⟩,
 ⟨some 66, .bin .eql (.t 65) (ci (-1)), some (63, true)⟩,
 oo 67 (.pick (.t 63) (.t 66) (.c (.bool false))),
 oo 0 (.mov (.t 67))])
 (.ret))))))
 [.t 0]

set_option maxRecDepth 100000 in
theorem ok4 : chkFn Tryd.prog 4 a4 = true := by kernel_rfl

def b10_0 : ACode :=
 (.seq (.seq (.ops false [
 oo 5 (.mov (.t 4)),
 oo 6 (.mov (.t 0)),
 oo 7 (.bin .lss (.t 5) (.t 6))])
 (.cond (.t 7)
 (.skip)
 (.exit 0)))
 (.seq (.block 1 (.ops false [
 oo 10 (.mov (.t 3)),
 oo 11 (.bin .mul (.c (.int .u64 2)) (.t 10)),
 oo 3 (.mov (.t 11))]))
 (.ops false [
 oo 8 (.mov (.t 4)),
 oo 9 (.bin .add (.t 8) (ci 1)),
 oo 4 (.mov (.t 9))])))

/-- pointsman/pointsmanref02.pow -/
def a10 : AFn := .mk 13
 (.seq (.ops false [
 oo 2 (.mov (.c (.int .u64 0)))])
 (.seq (.ops false [
 oo 3 (.mov (.c (.int .u64 1)))])
 (.seq (.seq (.ops false [
 oo 4 (.mov (ci 0))])
 (.block 0 (.loop b10_0)))
 (.seq (.ops false [
 oo 12 (.mov (.t 3)),
 oo 2 (.mov (.t 12))])
 (.ret)))))
 [.t 2]

set_option maxRecDepth 100000 in
theorem ok10 : chkFn Tryd.prog 10 a10 = true := by kernel_rfl

/-- pointsman/pointsmanref02.Has -/
def a5 : AFn := .mk 19
 (.seq (.ops false [
 oo 4 (.mov (.c (.bool false)))])
 (.seq (.ops false [
 oo 5 (.mov (.t 1)),
 oo 6 (.bin .geq (.t 5) (ci 0)),
 oo 7 (.mov (.t 6)),
 ⟨some 8, .mov (.t 1), some (7, true)⟩,
 ⟨some 9, .bin .lss (.t 8) (ci 64), some (7, true)⟩,
 oo 10 (.pick (.t 7) (.t 9) (.c (.bool false))),
 oo 11 (.mov (.t 10)),
 ⟨some 12, .mov (.t 0), some (11, true)⟩,
 ⟨some 13, .mov (.t 1), some (11, true)⟩,
 ⟨some 14, .call false 10 [(.t 13)], some (11, true)⟩,
 ⟨some 15, .bin .quo (.t 12) (.t 14), some (11, true)⟩,
 ⟨some 16, .bin .rem (.t 15) (.c (.int .u64 2)), some (11, true)⟩,
 ⟨some 17, .bin .eql (.t 16) (.c (.int .u64 1)), some (11, true)⟩,
 oo 18 (.pick (.t 11) (.t 17) (.c (.bool false))),
 oo 4 (.mov (.t 18))])
 (.ret)))
 [.t 4]

set_option maxRecDepth 100000 in
theorem ok5 : chkFn Tryd.prog 5 a5 = true := by kernel_rfl

def b19_0 : ACode :=
 (.seq (.seq (.ops false [
 oo 10 (.mov (.t 6)),
 oo 11 (.mov (.t 0)),
 oo 12 (.len (.t 11)),
 oo 13 (.bin .lss (.t 10) (.t 12))])
 (.cond (.t 13)
 (.skip)
 (.exit 0)))
 (.seq (.block 1 (.ops false [
 oo 16 (.mov (.t 5)),
 oo 17 (.mov (.t 6)),
 oo 18 (.mov (.t 0)),
 oo 19 (.mov (.t 6)),
 oo 20 (.iaddr none (.t 18) (.t 19)),
 oo 21 (.load none (.t 20)),
 oo 22 (.mov (.t 21)),
 ⟨some 23, .mov (.t 1), some (22, false)⟩,
 ⟨some 24, .mov (.t 6), some (22, false)⟩,
 ⟨some 25, .iaddr none (.t 23) (.t 24), some (22, false)⟩,
 ⟨some 26, .load none (.t 25), some (22, false)⟩,
 oo 27 (.pick (.t 22) (.c (.bool true)) (.t 26)),
 oo 28 (.iaddr none (.t 16) (.t 17)),
 ⟨none, .store none (.t 28) (.t 27), none⟩]))
 (.ops false [
 oo 14 (.mov (.t 6)),
 oo 15 (.bin .add (.t 14) (ci 1)),
 oo 6 (.mov (.t 15))])))

/-- pointsman/pointsmanref21.union -/
def a19 : AFn := .mk 30
 (.seq (.ops false [
 oo 4 (.mov (.c (.nils)))])
 (.seq (.ops false [
 oo 7 (.mov (.t 0)),
 oo 8 (.len (.t 7)),
 oo 9 (.mkslice none (.bool false) (.t 8) (.t 8)),
 oo 5 (.mov (.t 9))])
 (.seq (.seq (.ops false [
 oo 6 (.mov (ci 0))])
 (.block 0 (.loop b19_0)))
 (.seq (.ops false [
 oo 29 (.mov (.t 5)),
 oo 4 (.mov (.t 29))])
 (.ret)))))
 [.t 4]

set_option maxRecDepth 100000 in
theorem ok19 : chkFn Tryd.prog 19 a19 = true := by kernel_rfl

def b20_0 : ACode :=
 (.seq (.seq (.ops false [
 oo 19 (.mov (.t 9)),
 oo 20 (.bin .geq (.t 19) (ci 0))])
 (.cond (.t 20)
 (.skip)
 (.exit 0)))
 (.seq (.block 1 (.seq (.ops false [
 oo 23 (.mov (.t 1)),
 oo 24 (.mov (.t 9)),
 oo 25 (.iaddr (some 18) (.t 23) (.t 24)),
 oo 26 (.faddr 0 (.t 25)),
 oo 27 (.load none (.t 26)),
 oo 28 (.bin .eql (.t 27) (ci 2)),
 oo 29 (.mov (.t 28)),
 ⟨some 30, .mov (.t 1), some (29, true)⟩,
 ⟨some 31, .mov (.t 9), some (29, true)⟩,
 ⟨some 32, .iaddr (some 18) (.t 30) (.t 31), some (29, true)⟩,
 ⟨some 33, .faddr 17 (.t 32), some (29, true)⟩,
 ⟨some 34, .load none (.t 33), some (29, true)⟩,
 ⟨some 35, .mov (.t 8), some (29, true)⟩,
 ⟨some 36, .bin .eql (.t 34) (.t 35), some (29, true)⟩,
 oo 37 (.pick (.t 29) (.t 36) (.c (.bool false)))])
 (.cond (.t 37)
 (.seq (.ops false [
 oo 38 (.mov (.t 9)),
 oo 6 (.mov (.t 38)),
 oo 7 (.mov (.c (.bool true)))])
 (.ret))
 (.skip))))
 (.ops false [
 oo 21 (.mov (.t 9)),
 oo 22 (.bin .sub (.t 21) (ci 1)),
 oo 9 (.mov (.t 22))])))

/-- pointsman/pointsmanref21.earlier -/
def a20 : AFn := .mk 65
 (.seq (.ops false [
 oo 6 (.mov (ci 0)),
 oo 7 (.mov (.c (.bool false)))])
 (.seq (.ops false [
 oo 10 (.mov (.t 1)),
 oo 11 (.mov (.t 2)),
 oo 12 (.iaddr (some 18) (.t 10) (.t 11)),
 oo 13 (.faddr 17 (.t 12)),
 oo 14 (.load none (.t 13)),
 oo 8 (.mov (.t 14))])
 (.seq (.seq (.ops false [
 oo 15 (.mov (.t 8)),
 oo 16 (.bin .lss (.t 15) (ci 0))])
 (.cond (.t 16)
 (.seq (.ops false [
 oo 6 (.mov (ci (-1))),
 oo 7 (.mov (.c (.bool true)))])
 (.ret))
 (.skip)))
 (.seq (.seq (.ops false [
 oo 17 (.mov (.t 2)),
 oo 18 (.bin .sub (.t 17) (ci 1)),
 oo 9 (.mov (.t 18))])
 (.block 0 (.loop b20_0)))
 (.seq (.seq (.ops false [
 oo 39 (.mov (.t 0)),
 oo 40 (.mov (.t 8)),
 oo 41 (.iaddr (some 6) (.t 39) (.t 40)),
 oo 42 (.faddr 4 (.t 41)),
 oo 43 (.load none (.t 42)),
 oo 44 (.bin .geq (.t 43) (ci 0))])
 (.cond (.t 44)
 (.seq (.ops true [
 oo 45 (.mov (.t 0)),
 oo 46 (.mov (.t 8)),
 oo 47 (.iaddr (some 6) (.t 45) (.t 46)),
 oo 48 (.faddr 5 (.t 47)),
 oo 49 (.load none (.t 48)),
 oo 50 (.mov (.t 0)),
 oo 51 (.mov (.t 8)),
 oo 52 (.iaddr (some 6) (.t 50) (.t 51)),
 oo 53 (.faddr 5 (.t 52)),
 oo 54 (.load none (.t 53)),
 oo 55 (.bin .geq (.t 54) (ci 0)),
 oo 56 (.mov (.t 55)),
 ⟨some 57, .mov (.t 0), some (56, true)⟩,
 ⟨some 58, .mov (.t 8), some (56, true)⟩,
 ⟨some 59, .iaddr (some 6) (.t 57) (.t 58), some (56, true)⟩,
 ⟨some 60, .faddr 5 (.t 59), some (56, true)⟩,
 ⟨some 61, .load none (.t 60), some (56, true)⟩,
 ⟨some 62, .mov (.t 2), some (56, true)⟩,
 ⟨some 63, .bin .lss (.t 61) (.t 62), some (56, true)⟩,
 oo 64 (.pick (.t 56) (.t 63) (.c (.bool false))),
 oo 6 (.mov (.t 49)),
 oo 7 (.mov (.t 64))])
 (.ret))
 (.skip)))
 (.seq (.ops false [
 oo 6 (.mov (ci (-1))),
 oo 7 (.mov (.c (.bool true)))])
 (.ret)))))))
 [.t 6, .t 7]

set_option maxRecDepth 100000 in
theorem ok20 : chkFn Tryd.prog 20 a20 = true := by kernel_rfl

def b14_0 : ACode :=
 (.seq (.seq (.ops false [
 oo 22 (.mov (.t 10)),
 oo 23 (.mov (.t 2)),
 oo 24 (.bin .lss (.t 22) (.t 23)),
 oo 25 (.mov (.t 24)),
 ⟨some 26, .mov (.t 10), some (25, true)⟩,
 ⟨some 27, .bin .lss (.t 26) (ci 100), some (25, true)⟩,
 oo 28 (.pick (.t 25) (.t 27) (.c (.bool false)))])
 (.cond (.t 28)
 (.skip)
 (.exit 0)))
 (.seq (.block 1 (.ops false [
 oo 31 (.mov (.t 9)),
 oo 32 (.mov (.t 8)),
 oo 33 (.bsliceV none [(.t 32)] false),
 oo 34 (.append none (.t 31) (.t 33) true),
 oo 9 (.mov (.t 34))]))
 (.ops false [
 oo 29 (.mov (.t 10)),
 oo 30 (.bin .add (.t 29) (ci 1)),
 oo 10 (.mov (.t 30))])))

def b14_1 : ACode :=
 (.seq (.seq (.ops false [
 oo 36 (.mov (.t 13)),
 oo 37 (.mov (.t 1)),
 oo 38 (.len (.t 37)),
 oo 39 (.bin .lss (.t 36) (.t 38))])
 (.cond (.t 39)
 (.skip)
 (.exit 2)))
 (.seq (.block 3 (.seq (.ops false [
 oo 42 (.mov (.t 1)),
 oo 43 (.mov (.t 13)),
 oo 44 (.iaddr (some 18) (.t 42) (.t 43)),
 oo 45 (.load (some 18) (.t 44)),
 oo 14 (.alloc [.int .i64 0, .int .i64 0, .int .u16 0, .int .u16 0, .int .u16 0, .int .u16 0, .int .u16 0, .int .u16 0, .int .u16 0, .int .u16 0, .bool false, .int .u16 0, .int .u64 0, .int .u64 0, .int .u64 0, .vec (some 8) [], .int .i64 0, .int .i64 0]),
 ⟨none, .store (some 18) (.t 14) (.t 45), none⟩])
 (.seq (.seq (.ops false [
 oo 46 (.faddr 1 (.t 14)),
 oo 47 (.load none (.t 46)),
 oo 48 (.bin .lss (.t 47) (ci 0)),
 oo 49 (.mov (.t 48)),
 ⟨some 50, .faddr 1 (.t 14), some (49, false)⟩,
 ⟨some 51, .load none (.t 50), some (49, false)⟩,
 ⟨some 52, .mov (.t 9), some (49, false)⟩,
 ⟨some 53, .len (.t 52), some (49, false)⟩,
 ⟨some 54, .bin .geq (.t 51) (.t 53), some (49, false)⟩,
 oo 55 (.pick (.t 49) (.c (.bool true)) (.t 54)),
 oo 56 (.mov (.t 55)),
 ⟨some 57, .faddr 17 (.t 14), some (56, false)⟩,
 ⟨some 58, .load none (.t 57), some (56, false)⟩,
 ⟨some 59, .bin .lss (.t 58) (ci (-1)), some (56, false)⟩,
 oo 60 (.pick (.t 56) (.c (.bool true)) (.t 59)),
 oo 61 (.mov (.t 60)),
 ⟨some 62, .faddr 17 (.t 14), some (61, false)⟩,
 ⟨some 63, .load none (.t 62), some (61, false)⟩,
 ⟨some 64, .mov (.t 0), some (61, false)⟩,
 ⟨some 65, .len (.t 64), some (61, false)⟩,
 ⟨some 66, .bin .geq (.t 63) (.t 65), some (61, false)⟩,
 oo 67 (.pick (.t 61) (.c (.bool true)) (.t 66))])
 (.cond (.t 67)
 (.seq (.ops false [
 oo 6 (.mov (.c (.vec none []))),
 oo 7 (.mov (.c (.bool false)))])
 (.ret))
 (.skip)))
 (.seq (.ops false [
 oo 68 (.faddr 0 (.t 14)),
 oo 69 (.load none (.t 68))])
 (.block 4 (.seq (.ops false [
 oo 71 (.bin .eql (.t 69) (ci 5)),
 oo 70 (.mov (.t 71))])
 (.cond (.t 70)
 (.seq (.ops false [
 oo 72 (.mov (.t 11)),
 oo 73 (.mov (.t 9)),
 oo 74 (.faddr 1 (.t 14)),
 oo 75 (.load none (.t 74)),
 oo 76 (.iaddr none (.t 73) (.t 75)),
 oo 77 (.load none (.t 76)),
 oo 78 (.call true 19 [(.t 72), (.t 77)]),
 oo 11 (.mov (.t 78))])
 (.ops false [
 oo 79 (.mov (.t 12)),
 oo 80 (.mov (.t 8)),
 oo 81 (.bsliceV none [(.t 80)] false),
 oo 82 (.append none (.t 79) (.t 81) false),
 oo 12 (.mov (.t 82))]))
 (.seq (.ops false [
 oo 84 (.bin .eql (.t 69) (ci 6)),
 oo 83 (.mov (.t 84))])
 (.cond (.t 83)
 (.seq (.opsS [(2, 9)] [
 oo 85 (.mov (.t 9)),
 oo 86 (.faddr 1 (.t 14)),
 oo 87 (.load none (.t 86)),
 oo 88 (.mov (.t 9)),
 oo 89 (.faddr 1 (.t 14)),
 oo 90 (.load none (.t 89)),
 oo 91 (.iaddr none (.t 88) (.t 90)),
 oo 92 (.load none (.t 91)),
 oo 93 (.mov (.t 11)),
 oo 94 (.call true 19 [(.t 92), (.t 93)]),
 oo 95 (.iaddr none (.t 85) (.t 87)),
 ⟨none, .store none (.t 95) (.t 94), none⟩])
 (.ops false [
 oo 96 (.mov (.t 12)),
 oo 97 (.mov (.t 8)),
 oo 98 (.bsliceV none [(.t 97)] false),
 oo 99 (.append none (.t 96) (.t 98) false),
 oo 12 (.mov (.t 99))]))
 (.seq (.ops false [
 oo 101 (.bin .eql (.t 69) (ci 2)),
 oo 100 (.mov (.t 101))])
 (.cond (.t 100)
 (.seq (.ops false [
 oo 102 (.mov (.t 9)),
 oo 103 (.faddr 1 (.t 14)),
 oo 104 (.load none (.t 103)),
 oo 105 (.iaddr none (.t 102) (.t 104)),
 oo 106 (.load none (.t 105)),
 oo 15 (.mov (.t 106))])
 (.seq (.ops false [
 oo 108 (.mov (.t 0)),
 oo 109 (.mov (.t 1)),
 oo 110 (.mov (.t 13)),
 oo 111 (.call false 20 [(.t 108), (.t 109), (.t 110)]),
 oo 107 (.mov (.t 111)),
 oo 112 (.extract (.t 107) 0),
 oo 113 (.extract (.t 107) 1),
 oo 16 (.mov (.t 112)),
 oo 17 (.mov (.t 113))])
 (.seq (.seq (.ops false [
 oo 114 (.mov (.t 17)),
 oo 115 (.un .not (.t 114))])
 (.cond (.t 115)
 (.seq (.ops false [
 oo 6 (.mov (.c (.vec none []))),
 oo 7 (.mov (.c (.bool false)))])
 (.ret))
 (.skip)))
 (.seq (.seq (.ops false [
 oo 116 (.mov (.t 16)),
 oo 117 (.bin .geq (.t 116) (ci 0)),
 oo 118 (.mov (.t 117)),
 ⟨some 119, .faddr 2 (.t 14), some (118, true)⟩,
 ⟨some 120, .faddr 14 (.t 119), some (118, true)⟩,
 ⟨some 121, .load none (.t 120), some (118, true)⟩,
 ⟨some 122, .bin .eql (.t 121) (ci 0), some (118, true)⟩,
 oo 123 (.pick (.t 118) (.t 122) (.c (.bool false)))])
 (.cond (.t 123)
 (.seq (.ops false [
 oo 124 (.mov (.t 15)),
 oo 125 (.mov (.t 12)),
 oo 126 (.mov (.t 16)),
 oo 127 (.iaddr none (.t 125) (.t 126)),
 oo 128 (.load none (.t 127)),
 oo 129 (.call true 19 [(.t 124), (.t 128)]),
 oo 15 (.mov (.t 129))])
 (.ops false [
 oo 130 (.mov (.t 15)),
 oo 131 (.mov (.t 16)),
 oo 132 (.iaddr none (.t 130) (.t 131)),
 ⟨none, .store none (.t 132) (.c (.bool true)), none⟩]))
 (.skip)))
 (.seq (.ops false [
 oo 133 (.mov (.t 12)),
 oo 134 (.mov (.t 15)),
 oo 135 (.bsliceI none [(.t 134)]),
 oo 136 (.append none (.t 133) (.t 135) false),
 oo 12 (.mov (.t 136))])
 (.seq (.ops false [
 oo 137 (.mov (.t 15)),
 oo 138 (.mov (.t 8)),
 oo 139 (.call true 19 [(.t 137), (.t 138)]),
 oo 18 (.mov (.t 139))])
 (.seq (.ops false [
 oo 140 (.mov (.t 18)),
 oo 141 (.mov (.t 13)),
 oo 142 (.iaddr none (.t 140) (.t 141)),
 ⟨none, .store none (.t 142) (.c (.bool true)), none⟩])
 (.ops false [
 oo 143 (.mov (.t 9)),
 oo 144 (.faddr 1 (.t 14)),
 oo 145 (.load none (.t 144)),
 oo 146 (.mov (.t 18)),
 oo 147 (.iaddr none (.t 143) (.t 145)),
 ⟨none, .store none (.t 147) (.t 146), none⟩]))))))))
 (.seq (.ops false [
 oo 6 (.mov (.c (.vec none []))),
 oo 7 (.mov (.c (.bool false)))])
 (.ret)))))))))))))
 (.ops false [
 oo 40 (.mov (.t 13)),
 oo 41 (.bin .add (.t 40) (ci 1)),
 oo 13 (.mov (.t 41))])))

/-- pointsman/pointsmanref21.Ahead -/
def a14 : AFn := .mk 149
 (.seq (.ops false [
 oo 6 (.mov (.c (.vec none []))),
 oo 7 (.mov (.c (.bool false)))])
 (.seq (.ops false [
 oo 19 (.mov (.t 1)),
 oo 20 (.len (.t 19)),
 oo 21 (.mkslF none (.bool false) (.t 20) (.t 20)),
 oo 8 (.mov (.t 21))])
 (.seq (.ops false [
 oo 9 (.mov (.c (.nils)))])
 (.seq (.seq (.ops false [
 oo 10 (.mov (ci 0))])
 (.block 0 (.loop b14_0)))
 (.seq (.ops false [
 oo 35 (.mov (.t 8)),
 oo 11 (.mov (.t 35))])
 (.seq (.ops false [
 oo 12 (.mov (.c (.nils)))])
 (.seq (.seq (.ops false [
 oo 13 (.mov (ci 0))])
 (.block 2 (.loop b14_1)))
 (.seq (.ops false [
 oo 148 (.mov (.t 12)),
 oo 6 (.mov (.t 148)),
 oo 7 (.mov (.c (.bool true)))])
 (.ret)))))))))
 [.t 6, .t 7]

set_option maxRecDepth 100000 in
theorem ok14 : chkFn Tryd.prog 14 a14 = true := by kernel_rfl

def b15_0 : ACode :=
 (.seq (.seq (.ops false [
 oo 7 (.mov (.t 6)),
 oo 8 (.mov (.t 1)),
 oo 9 (.len (.t 8)),
 oo 10 (.bin .lss (.t 7) (.t 9))])
 (.cond (.t 10)
 (.skip)
 (.exit 0)))
 (.seq (.block 1 (.seq (.ops false [
 oo 13 (.mov (.t 1)),
 oo 14 (.mov (.t 6)),
 oo 15 (.iaddr none (.t 13) (.t 14)),
 oo 16 (.load none (.t 15))])
 (.cond (.t 16)
 (.ops false [
 oo 17 (.mov (.t 5)),
 oo 18 (.mov (.t 0)),
 oo 19 (.mov (.t 6)),
 oo 20 (.iaddr (some 18) (.t 18) (.t 19)),
 oo 21 (.faddr 2 (.t 20)),
 oo 22 (.faddr 12 (.t 21)),
 oo 23 (.load none (.t 22)),
 oo 24 (.bin .or (.t 17) (.t 23)),
 oo 5 (.mov (.t 24))])
 (.skip))))
 (.ops false [
 oo 11 (.mov (.t 6)),
 oo 12 (.bin .add (.t 11) (ci 1)),
 oo 6 (.mov (.t 12))])))

/-- pointsman/pointsmanref21.Known -/
def a15 : AFn := .mk 26
 (.seq (.ops false [
 oo 4 (.mov (.c (.int .u64 0)))])
 (.seq (.ops false [
 oo 5 (.mov (.c (.int .u64 0)))])
 (.seq (.seq (.ops false [
 oo 6 (.mov (ci 0))])
 (.block 0 (.loop b15_0)))
 (.seq (.ops false [
 oo 25 (.mov (.t 5)),
 oo 4 (.mov (.t 25))])
 (.ret)))))
 [.t 4]

set_option maxRecDepth 100000 in
theorem ok15 : chkFn Tryd.prog 15 a15 = true := by kernel_rfl

def b7_1 : ACode :=
 (.seq (.ops false [
 oo 71 (.bin .lss (.t 70) (.t 69))])
 (.seq (.cond (.t 71)
 (.skip)
 (.exit 2))
 (.seq (.block 3 (.seq (.ops false [
 oo 72 (.mov (.t 70)),
 oo 73 (.iaddr none (.t 68) (.t 70)),
 oo 74 (.load none (.t 73)),
 oo 15 (.mov (.t 72)),
 oo 16 (.mov (.t 74))])
 (.seq (.seq (.ops false [
 oo 75 (.mov (.t 16)),
 oo 76 (.un .not (.t 75))])
 (.cond (.t 76)
 (.exit 3)
 (.skip)))
 (.seq (.seq (.ops false [
 oo 77 (.mov (.t 14)),
 oo 78 (.mov (.t 7)),
 oo 79 (.mov (.t 13)),
 oo 80 (.iaddr none (.t 78) (.t 79)),
 oo 81 (.load none (.t 80)),
 oo 82 (.len (.t 81)),
 oo 83 (.bin .geq (.t 77) (.t 82)),
 oo 84 (.mov (.t 83)),
 ⟨some 85, .mov (.t 7), some (84, false)⟩,
 ⟨some 86, .mov (.t 13), some (84, false)⟩,
 ⟨some 87, .iaddr none (.t 85) (.t 86), some (84, false)⟩,
 ⟨some 88, .load none (.t 87), some (84, false)⟩,
 ⟨some 89, .mov (.t 14), some (84, false)⟩,
 ⟨some 90, .iaddr none (.t 88) (.t 89), some (84, false)⟩,
 ⟨some 91, .load none (.t 90), some (84, false)⟩,
 ⟨some 92, .mov (.t 15), some (84, false)⟩,
 ⟨some 93, .bin .neq (.t 91) (.t 92), some (84, false)⟩,
 oo 94 (.pick (.t 84) (.c (.bool true)) (.t 93))])
 (.cond (.t 94)
 (.seq (.ops false [
 oo 6 (.mov (.c (.bool false)))])
 (.ret))
 (.skip)))
 (.ops false [
 oo 95 (.mov (.t 14)),
 oo 96 (.bin .add (.t 95) (ci 1)),
 oo 14 (.mov (.t 96))])))))
 (.ops false [
 oo 97 (.bin .add (.t 70) (ci 1)),
 oo 70 (.mov (.t 97))]))))

def b7_0 : ACode :=
 (.seq (.ops false [
 oo 63 (.bin .lss (.t 62) (.t 61))])
 (.seq (.cond (.t 63)
 (.skip)
 (.exit 0))
 (.seq (.block 1 (.seq (.ops false [
 oo 64 (.mov (.t 62)),
 oo 13 (.mov (.t 64))])
 (.seq (.ops false [
 oo 14 (.mov (ci 0))])
 (.seq (.seq (.ops false [
 oo 65 (.mov (.t 11)),
 oo 66 (.mov (.t 13)),
 oo 67 (.iaddr none (.t 65) (.t 66)),
 oo 68 (.load none (.t 67)),
 oo 69 (.len (.t 68)),
 oo 70 (.mov (ci 0))])
 (.block 2 (.loop b7_1)))
 (.seq (.ops true [
 oo 98 (.mov (.t 14)),
 oo 99 (.mov (.t 7)),
 oo 100 (.mov (.t 13)),
 oo 101 (.iaddr none (.t 99) (.t 100)),
 oo 102 (.load none (.t 101)),
 oo 103 (.len (.t 102)),
 oo 104 (.bin .neq (.t 98) (.t 103)),
 oo 105 (.mov (.t 104)),
 ⟨some 106, .mov (.t 9), some (105, false)⟩,
 ⟨some 107, .mov (.t 13), some (105, false)⟩,
 ⟨some 108, .iaddr none (.t 106) (.t 107), some (105, false)⟩,
 ⟨some 109, .load none (.t 108), some (105, false)⟩,
 ⟨some 110, .mov (.t 1), some (105, false)⟩,
 ⟨some 111, .mov (.t 11), some (105, false)⟩,
 ⟨some 112, .mov (.t 13), some (105, false)⟩,
 ⟨some 113, .iaddr none (.t 111) (.t 112), some (105, false)⟩,
 ⟨some 114, .load none (.t 113), some (105, false)⟩,
 ⟨some 115, .call false 15 [(.t 110), (.t 114)], some (105, false)⟩,
 ⟨some 116, .bin .neq (.t 109) (.t 115), some (105, false)⟩,
 oo 117 (.pick (.t 105) (.c (.bool true)) (.t 116))])
 (.cond (.t 117)
 (.seq (.ops false [
 oo 6 (.mov (.c (.bool false)))])
 (.ret))
 (.skip)))))))
 (.ops false [
 oo 118 (.bin .add (.t 62) (ci 1)),
 oo 62 (.mov (.t 118))]))))

/-- pointsman/pointsmanlaw21.same -/
def a7 : AFn := .mk 119
 (.seq (.ops false [
 oo 6 (.mov (.c (.bool false)))])
 (.seq (.ops false [
 oo 18 (.mov (.t 0)),
 oo 19 (.mov (.t 1)),
 oo 20 (.mov (.t 2)),
 oo 21 (.call false 8 [(.t 18), (.t 19), (.t 20)]),
 oo 17 (.mov (.t 21)),
 oo 22 (.extract (.t 17) 0),
 oo 23 (.extract (.t 17) 1),
 oo 7 (.mov (.t 22)),
 oo 8 (.mov (.t 23))])
 (.seq (.ops false [
 oo 25 (.mov (.t 0)),
 oo 26 (.mov (.t 1)),
 oo 27 (.mov (.t 2)),
 oo 28 (.call false 9 [(.t 25), (.t 26), (.t 27)]),
 oo 24 (.mov (.t 28)),
 oo 29 (.extract (.t 24) 0),
 oo 30 (.extract (.t 24) 1),
 oo 9 (.mov (.t 29)),
 oo 10 (.mov (.t 30))])
 (.seq (.ops false [
 oo 32 (.mov (.t 0)),
 oo 33 (.mov (.t 1)),
 oo 34 (.mov (.t 2)),
 oo 35 (.call false 14 [(.t 32), (.t 33), (.t 34)]),
 oo 31 (.mov (.t 35)),
 oo 36 (.extract (.t 31) 0),
 oo 37 (.extract (.t 31) 1),
 oo 11 (.mov (.t 36)),
 oo 12 (.mov (.t 37))])
 (.seq (.seq (.ops false [
 oo 38 (.mov (.t 8)),
 oo 39 (.mov (.t 12)),
 oo 40 (.eqB true (.t 38) (.t 39)),
 oo 41 (.mov (.t 40)),
 ⟨some 42, .mov (.t 10), some (41, false)⟩,
 ⟨some 43, .mov (.t 12), some (41, false)⟩,
 ⟨some 44, .eqB true (.t 42) (.t 43), some (41, false)⟩,
 oo 45 (.pick (.t 41) (.c (.bool true)) (.t 44)),
 oo 46 (.mov (.t 45)),
 ⟨some 47, .mov (.t 7), some (46, false)⟩,
 ⟨some 48, .len (.t 47), some (46, false)⟩,
 ⟨some 49, .mov (.t 11), some (46, false)⟩,
 ⟨some 50, .len (.t 49), some (46, false)⟩,
 ⟨some 51, .bin .neq (.t 48) (.t 50), some (46, false)⟩,
 oo 52 (.pick (.t 46) (.c (.bool true)) (.t 51)),
 oo 53 (.mov (.t 52)),
 ⟨some 54, .mov (.t 9), some (53, false)⟩,
 ⟨some 55, .len (.t 54), some (53, false)⟩,
 ⟨some 56, .mov (.t 11), some (53, false)⟩,
 ⟨some 57, .len (.t 56), some (53, false)⟩,
 ⟨some 58, .bin .neq (.t 55) (.t 57), some (53, false)⟩,
 oo 59 (.pick (.t 53) (.c (.bool true)) (.t 58))])
 (.cond (.t 59)
 (.seq (.ops false [
 oo 6 (.mov (.c (.bool false)))])
 (.ret))
 (.skip)))
 (.seq (.seq (.ops false [
 oo 60 (.mov (.t 11)),
 oo 61 (.len (.t 60)),
 oo 62 (.mov (ci 0))])
 (.block 0 (.loop b7_0)))
 (.seq (.ops false [
 oo 6 (.mov (.c (.bool true)))])
 (.ret))))))))
 [.t 6]

set_option maxRecDepth 100000 in
theorem ok7 : chkFn Tryd.prog 7 a7 = true := by kernel_rfl

def b3_1 : ACode :=
 (.seq (.seq (.ops false [
 oo 26 (.mov (.t 9)),
 oo 27 (.bin .geq (.t 26) (ci 0))])
 (.cond (.t 27)
 (.skip)
 (.exit 2)))
 (.seq (.block 3 (.seq (.ops false [
 oo 30 (.mov (.t 1)),
 oo 31 (.mov (.t 9)),
 oo 32 (.iaddr (some 18) (.t 30) (.t 31)),
 oo 33 (.faddr 2 (.t 32)),
 oo 34 (.faddr 12 (.t 33)),
 oo 35 (.load none (.t 34)),
 oo 36 (.mov (.t 7)),
 oo 37 (.call false 5 [(.t 35), (.t 36)])])
 (.cond (.t 37)
 (.ops false [
 oo 38 (.mov (.t 9)),
 oo 8 (.mov (.t 38))])
 (.skip))))
 (.ops false [
 oo 28 (.mov (.t 9)),
 oo 29 (.bin .sub (.t 28) (ci 1)),
 oo 9 (.mov (.t 29))])))

def b3_0 : ACode :=
 (.seq (.ops false [
 oo 21 (.bin .lss (.t 20) (ci 8))])
 (.seq (.cond (.t 21)
 (.skip)
 (.exit 0))
 (.seq (.block 1 (.seq (.ops false [
 oo 22 (.mov (.t 20)),
 oo 7 (.mov (.t 22))])
 (.seq (.ops false [
 oo 8 (.mov (ci (-1)))])
 (.seq (.seq (.ops false [
 oo 23 (.mov (.t 1)),
 oo 24 (.len (.t 23)),
 oo 25 (.bin .sub (.t 24) (ci 1)),
 oo 9 (.mov (.t 25))])
 (.block 2 (.loop b3_1)))
 (.seq (.ops false [
 oo 39 (.mov (.t 1)),
 oo 40 (.mov (.t 7)),
 oo 41 (.call false 6 [(.t 39), (.t 40)]),
 oo 42 (.mov (.t 8)),
 oo 43 (.bin .neq (.t 41) (.t 42))])
 (.cond (.t 43)
 (.seq (.ops false [
 oo 6 (.mov (.c (.bool false)))])
 (.ret))
 (.skip)))))))
 (.ops false [
 oo 44 (.bin .add (.t 20) (ci 1)),
 oo 20 (.mov (.t 44))]))))

/-- pointsman/pointsmanlaw21.CauseRaw -/
def a3 : AFn := .mk 49
 (.seq (.ops false [
 oo 6 (.mov (.c (.bool false)))])
 (.seq (.seq (.ops false [
 oo 10 (.call false 4 []),
 oo 11 (.un .not (.t 10))])
 (.cond (.t 11)
 (.seq (.ops false [
 oo 6 (.mov (.c (.bool false)))])
 (.ret))
 (.skip)))
 (.seq (.seq (.ops false [
 oo 12 (.mov (.t 0)),
 oo 13 (.len (.t 12)),
 oo 14 (.bin .gtr (.t 13) (ci 8)),
 oo 15 (.mov (.t 14)),
 ⟨some 16, .mov (.t 1), some (15, false)⟩,
 ⟨some 17, .len (.t 16), some (15, false)⟩,
 ⟨some 18, .bin .gtr (.t 17) (ci 20), some (15, false)⟩,
 oo 19 (.pick (.t 15) (.c (.bool true)) (.t 18))])
 (.cond (.t 19)
 (.seq (.ops false [
 oo 6 (.mov (.c (.bool true)))])
 (.ret))
 (.skip)))
 (.seq (.seq (.ops false [
 oo 20 (.mov (ci 0))])
 (.block 0 (.loop b3_0)))
 (.seq (.ops false [
 oo 45 (.mov (.t 0)),
 oo 46 (.mov (.t 1)),
 oo 47 (.mov (.t 2)),
 oo 48 (.call false 7 [(.t 45), (.t 46), (.t 47)]),
 oo 6 (.mov (.t 48))])
 (.ret))))))
 [.t 6]

set_option maxRecDepth 100000 in
theorem ok3 : chkFn Tryd.prog 3 a3 = true := by kernel_rfl

@[reducible] def vl0 (x : List api_Step) : V := .d (eL (some 18) eapi_Step x)
@[reducible] def vl1 (x : List api_Path) : V := .d (eL (some 6) eapi_Path x)
@[reducible] def vl2 (x : List Int) : V := .d (eL none (D.int .u64) x)
@[reducible] def vl3 (x : List (List Bool)) : V := .d (eL none (eL none D.bool) x)
@[reducible] def vl4 (x : List Int) : V := .d (eL none (D.int .i64) x)
@[reducible] def vp0 (x : api_Step) : V := .d (.cptr (some 18) (eapi_Step x) 0)

end Go.AM
