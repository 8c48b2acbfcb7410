import Derived.Test.YtjdaaclkihjjnaaAmDel2
import Derived.Test.YtjdaaclkihjjnaaAmN8
import Derived.Test.YtjdaaclkihjjnaaSlT
import Derived.Test.YtjdaaclkihjjnaaProg
/-  What they are in the program: data and code. -/
set_option linter.unusedVariables false
set_option linter.unusedSimpArgs false
namespace Go.AM
open Go Go.RowKit Go.Proofs

def eapi_Pair (x : api_Pair) : D := .agg ((D.int .i64) x.F :: ((D.int .u16) x.N :: []))

def eapi_Row (x : api_Row) : D := .agg ((eL (some 2) eapi_Pair) x.Match :: ((eL none (eL (some 2) eapi_Pair)) x.Acts :: []))

theorem eqS_api_Pair (x y : api_Pair) : eqSV [.int, .int] (.d (eapi_Pair x)) (.d (eapi_Pair y)) = some (x == y) := by
  refine (eqSV_agg rfl rfl (eqT_cons rfl (eqT_cons rfl rfl))).trans (congrArg some ?_)
  rw [Bool.eq_iff_iff]
  obtain ⟨x0, x1⟩ := x
  obtain ⟨y0, y1⟩ := y
  simp [ba_toList_inj, and_assoc]

theorem eqS_A8_Int (x y : (A8 Int)) : eqSV [.int, .int, .int, .int, .int, .int, .int, .int] (.d (eA8 (D.int .u16) x)) (.d (eA8 (D.int .u16) y)) = some (x == y) := by
  refine (eqSV_agg rfl rfl (eqT_cons rfl (eqT_cons rfl (eqT_cons rfl (eqT_cons rfl (eqT_cons rfl (eqT_cons rfl (eqT_cons rfl (eqT_cons rfl rfl))))))))).trans (congrArg some ?_)
  rw [Bool.eq_iff_iff]
  obtain ⟨x0, x1, x2, x3, x4, x5, x6, x7⟩ := x
  obtain ⟨y0, y1, y2, y3, y4, y5, y6, y7⟩ := y
  simp [ba_toList_inj, and_assoc]

/-- slices.Clone[[]pointsman/api.Row,pointsman/api.Row] -/
def a59 : AFn := .mk 8
 (.seq (.ops false [
      ⟨some 2, .mov (.c (.nils)), none⟩])
   (.seq (.seq (.ops false [
        ⟨some 3, .mov (.t 0), none⟩,
        ⟨some 4, .eqN false 1 (.t 3) (.c (.nils)), none⟩])
     (.cond (.t 4)
     (.seq (.ops false [
          ⟨some 2, .mov (.c (.nils)), none⟩])
       (.ret))
     (.skip)))
   (.seq (.ops false [
      ⟨some 5, .bslice (some 2) [] true, none⟩,
      ⟨some 6, .mov (.t 0), none⟩,
      ⟨some 7, .append (some 2) (.t 5) (.t 6) true, none⟩,
      ⟨some 2, .mov (.t 7), none⟩])
   (.ret))))
 [.t 2]

set_option maxRecDepth 100000 in
theorem ok59 : chkFn Try.prog 59 a59 = true := by kernel_rfl

def b78_0 : ACode :=
  (.seq (.ops false [
      ⟨some 9, .bin .lss (.t 8) (.t 7), none⟩])
   (.seq (.cond (.t 9)
     (.skip)
     (.exit 0))
   (.seq (.block 1 (.seq (.ops false [
        ⟨some 10, .mov (.t 8), none⟩,
        ⟨some 5, .mov (.t 10), none⟩])
     (.seq (.ops true [
        ⟨some 11, .ldI (some 2) (.t 3), none⟩,
        ⟨some 12, .mov (.t 0), none⟩,
        ⟨some 13, .mov (.t 5), none⟩,
        ⟨some 14, .iaddr (some 2) (.t 12) (.t 13), none⟩,
        ⟨some 15, .load (some 2) (.t 14), none⟩,
        ⟨some 16, .eqS false [.int, .int] (.t 11) (.t 15), none⟩])
     (.cond (.t 16)
     (.seq (.ops false [
          ⟨some 17, .mov (.t 5), none⟩,
          ⟨some 4, .mov (.t 17), none⟩])
       (.ret))
     (.skip)))))
   (.ops false [
    ⟨some 18, .bin .add (.t 8) (.c (.int .i64 1)), none⟩,
    ⟨some 8, .mov (.t 18), none⟩]))))

/-- slices.Index[[]pointsman/api.Pair,pointsman/api.Pair] -/
def a78 : AFn := .mk 19
 (.seq (.ops false [
      ⟨some 3, .box (some 2) (.t 1) true, none⟩,
      ⟨some 4, .mov (.c (.int .i64 0)), none⟩])
   (.seq (.seq (.ops false [
        ⟨some 6, .mov (.t 0), none⟩,
        ⟨some 7, .len (.t 6), none⟩,
        ⟨some 8, .mov (.c (.int .i64 0)), none⟩])
     (.block 0 (.loop b78_0)))
   (.seq (.ops false [
      ⟨some 4, .mov (.c (.int .i64 (-1))), none⟩])
   (.ret))))
 [.t 4]

set_option maxRecDepth 100000 in
theorem ok78 : chkFn Try.prog 78 a78 = true := by kernel_rfl

/-- slices.Contains[[]pointsman/api.Pair,pointsman/api.Pair] -/
def a73 : AFn := .mk 9
 (.seq (.ops false [
      ⟨some 3, .box (some 2) (.t 1) true, none⟩,
      ⟨some 4, .mov (.c (.bool false)), none⟩])
   (.seq (.ops false [
      ⟨some 5, .mov (.t 0), none⟩,
      ⟨some 6, .ldI (some 2) (.t 3), none⟩,
      ⟨some 7, .call false 78 [(.t 5), (.t 6)], none⟩,
      ⟨some 8, .bin .geq (.t 7) (.c (.int .i64 0)), none⟩,
      ⟨some 4, .mov (.t 8), none⟩])
   (.ret)))
 [.t 4]

set_option maxRecDepth 100000 in
theorem ok73 : chkFn Try.prog 73 a73 = true := by kernel_rfl

/-- pointsman/table.Covers$1 -/
def a72 : AFn := .mk 9
 (.seq (.ops false [
      ⟨some 2, .box (some 2) (.t 0) true, none⟩,
      ⟨some 3, .mov (.c (.bool false)), none⟩])
   (.seq (.ops false [
      ⟨some 4, .faddr 0 (.t 1), none⟩,
      ⟨some 5, .load none (.t 4), none⟩,
      ⟨some 6, .ldI (some 2) (.t 2), none⟩,
      ⟨some 7, .call false 73 [(.t 5), (.t 6)], none⟩,
      ⟨some 8, .un .not (.t 7), none⟩,
      ⟨some 3, .mov (.t 8), none⟩])
   (.ret)))
 [.t 3]

set_option maxRecDepth 100000 in
theorem ok72 : chkFn Try.prog 72 a72 = true := by kernel_rfl

def b68_0 : ACode :=
  (.seq (.ops false [
      ⟨some 9, .bin .lss (.t 8) (.t 7), none⟩])
   (.seq (.cond (.t 9)
     (.skip)
     (.exit 0))
   (.seq (.block 1 (.seq (.ops false [
        ⟨some 10, .mov (.t 8), none⟩,
        ⟨some 5, .mov (.t 10), none⟩])
     (.seq (.ops false [
        ⟨some 11, .mov (.t 1), none⟩,
        ⟨some 12, .mov (.t 0), none⟩,
        ⟨some 13, .mov (.t 5), none⟩,
        ⟨some 14, .iaddr (some 2) (.t 12) (.t 13), none⟩,
        ⟨some 15, .load (some 2) (.t 14), none⟩,
        ⟨some 16, .callv false (.t 11) [(.t 15)], none⟩])
     (.cond (.t 16)
     (.seq (.ops false [
          ⟨some 17, .mov (.t 5), none⟩,
          ⟨some 4, .mov (.t 17), none⟩])
       (.ret))
     (.skip)))))
   (.ops false [
    ⟨some 18, .bin .add (.t 8) (.c (.int .i64 1)), none⟩,
    ⟨some 8, .mov (.t 18), none⟩]))))

/-- slices.IndexFunc[[]pointsman/api.Pair,pointsman/api.Pair] -/
def a68 : AFn := .mk 19
 (.seq (.ops false [
      ⟨some 4, .mov (.c (.int .i64 0)), none⟩])
   (.seq (.seq (.ops false [
        ⟨some 6, .mov (.t 0), none⟩,
        ⟨some 7, .len (.t 6), none⟩,
        ⟨some 8, .mov (.c (.int .i64 0)), none⟩])
     (.block 0 (.loop b68_0)))
   (.seq (.ops false [
      ⟨some 4, .mov (.c (.int .i64 (-1))), none⟩])
   (.ret))))
 [.t 4]

set_option maxRecDepth 100000 in
theorem ok68 : chkFn Try.prog 68 a68 = true := by kernel_rfl

/-- slices.ContainsFunc[[]pointsman/api.Pair,pointsman/api.Pair] -/
def a55 : AFn := .mk 9
 (.seq (.ops false [
      ⟨some 4, .mov (.c (.bool false)), none⟩])
   (.seq (.ops false [
      ⟨some 5, .mov (.t 0), none⟩,
      ⟨some 6, .mov (.t 1), none⟩,
      ⟨some 7, .call false 68 [(.t 5), (.t 6)], none⟩,
      ⟨some 8, .bin .geq (.t 7) (.c (.int .i64 0)), none⟩,
      ⟨some 4, .mov (.t 8), none⟩])
   (.ret)))
 [.t 4]

set_option maxRecDepth 100000 in
theorem ok55 : chkFn Try.prog 55 a55 = true := by kernel_rfl

/-- pointsman/table.Covers -/
def a65 : AFn := .mk 10
 (.seq (.ops false [
      ⟨some 2, .box (some 2) (.t 0) true, none⟩,
      ⟨some 3, .box (some 2) (.t 1) true, none⟩,
      ⟨some 4, .mov (.c (.bool false)), none⟩])
   (.seq (.ops false [
      ⟨some 5, .faddr 0 (.t 2), none⟩,
      ⟨some 6, .ldI none (.t 5), none⟩,
      ⟨some 7, .mkfunc 72 [(.t 3)], none⟩,
      ⟨some 8, .call false 55 [(.t 6), (.t 7)], none⟩,
      ⟨some 9, .un .not (.t 8), none⟩,
      ⟨some 4, .mov (.t 9), none⟩])
   (.ret)))
 [.t 4]

set_option maxRecDepth 100000 in
theorem ok65 : chkFn Try.prog 65 a65 = true := by kernel_rfl

/-- pointsman/slim.covered$1 -/
def a64 : AFn := .mk 11
 (.seq (.ops false [
      ⟨some 3, .box (some 2) (.t 0) true, none⟩,
      ⟨some 4, .mov (.c (.bool false)), none⟩])
   (.seq (.ops true [
      ⟨some 5, .ldI (some 2) (.t 3), none⟩,
      ⟨some 6, .load none (.t 1), none⟩,
      ⟨some 7, .load none (.t 2), none⟩,
      ⟨some 8, .iaddr (some 2) (.t 6) (.t 7), none⟩,
      ⟨some 9, .load (some 2) (.t 8), none⟩,
      ⟨some 10, .call false 65 [(.t 5), (.t 9)], none⟩,
      ⟨some 4, .mov (.t 10), none⟩])
   (.ret)))
 [.t 4]

set_option maxRecDepth 100000 in
theorem ok64 : chkFn Try.prog 64 a64 = true := by kernel_rfl

def b71_0 : ACode :=
  (.seq (.ops false [
      ⟨some 9, .bin .lss (.t 8) (.t 7), none⟩])
   (.seq (.cond (.t 9)
     (.skip)
     (.exit 0))
   (.seq (.block 1 (.seq (.ops false [
        ⟨some 10, .mov (.t 8), none⟩,
        ⟨some 5, .mov (.t 10), none⟩])
     (.seq (.ops false [
        ⟨some 11, .mov (.t 1), none⟩,
        ⟨some 12, .mov (.t 0), none⟩,
        ⟨some 13, .mov (.t 5), none⟩,
        ⟨some 14, .iaddr (some 2) (.t 12) (.t 13), none⟩,
        ⟨some 15, .load (some 2) (.t 14), none⟩,
        ⟨some 16, .callv false (.t 11) [(.t 15)], none⟩])
     (.cond (.t 16)
     (.seq (.ops false [
          ⟨some 17, .mov (.t 5), none⟩,
          ⟨some 4, .mov (.t 17), none⟩])
       (.ret))
     (.skip)))))
   (.ops false [
    ⟨some 18, .bin .add (.t 8) (.c (.int .i64 1)), none⟩,
    ⟨some 8, .mov (.t 18), none⟩]))))

/-- slices.IndexFunc[[]pointsman/api.Row,pointsman/api.Row] -/
def a71 : AFn := .mk 19
 (.seq (.ops false [
      ⟨some 4, .mov (.c (.int .i64 0)), none⟩])
   (.seq (.seq (.ops false [
        ⟨some 6, .mov (.t 0), none⟩,
        ⟨some 7, .len (.t 6), none⟩,
        ⟨some 8, .mov (.c (.int .i64 0)), none⟩])
     (.block 0 (.loop b71_0)))
   (.seq (.ops false [
      ⟨some 4, .mov (.c (.int .i64 (-1))), none⟩])
   (.ret))))
 [.t 4]

set_option maxRecDepth 100000 in
theorem ok71 : chkFn Try.prog 71 a71 = true := by kernel_rfl

/-- slices.ContainsFunc[[]pointsman/api.Row,pointsman/api.Row] -/
def a63 : AFn := .mk 9
 (.seq (.ops false [
      ⟨some 4, .mov (.c (.bool false)), none⟩])
   (.seq (.ops false [
      ⟨some 5, .mov (.t 0), none⟩,
      ⟨some 6, .mov (.t 1), none⟩,
      ⟨some 7, .call false 71 [(.t 5), (.t 6)], none⟩,
      ⟨some 8, .bin .geq (.t 7) (.c (.int .i64 0)), none⟩,
      ⟨some 4, .mov (.t 8), none⟩])
   (.ret)))
 [.t 4]

set_option maxRecDepth 100000 in
theorem ok63 : chkFn Try.prog 63 a63 = true := by kernel_rfl

/-- pointsman/slim.covered -/
def a51 : AFn := .mk 10
 (.seq (.ops false [
      ⟨some 2, .box none (.t 0) true, none⟩,
      ⟨some 3, .box none (.t 1) true, none⟩,
      ⟨some 4, .mov (.c (.bool false)), none⟩])
   (.seq (.ops false [
      ⟨some 5, .ldI none (.t 2), none⟩,
      ⟨some 6, .ldI none (.t 3), none⟩,
      ⟨some 7, .slc (some 2) (.t 5) none (some (.t 6)), none⟩,
      ⟨some 8, .mkfunc 64 [(.t 2), (.t 3)], none⟩,
      ⟨some 9, .call false 63 [(.t 7), (.t 8)], none⟩,
      ⟨some 4, .mov (.t 9), none⟩])
   (.ret)))
 [.t 4]

set_option maxRecDepth 100000 in
theorem ok51 : chkFn Try.prog 51 a51 = true := by kernel_rfl

def b74_0 : ACode :=
  (.seq (.ops false [
      ⟨some 18, .bin .lss (.t 17) (.t 16), none⟩])
   (.seq (.cond (.t 18)
     (.skip)
     (.exit 0))
   (.seq (.block 1 (.seq (.ops false [
        ⟨some 19, .mov (.t 17), none⟩,
        ⟨some 20, .iaddr none (.t 15) (.t 17), none⟩,
        ⟨some 21, .load none (.t 20), none⟩,
        ⟨some 7, .mov (.t 19), none⟩,
        ⟨some 8, .mov (.t 21), none⟩])
     (.seq (.ops false [
        ⟨some 22, .mov (.t 1), none⟩,
        ⟨some 23, .mov (.t 7), none⟩,
        ⟨some 24, .iaddr none (.t 22) (.t 23), none⟩,
        ⟨some 25, .load none (.t 24), none⟩,
        ⟨some 9, .mov (.t 25), none⟩])
     (.seq (.ops false [
        ⟨some 26, .mov (.t 2), none⟩,
        ⟨some 27, .mov (.t 8), none⟩,
        ⟨some 28, .mov (.t 9), none⟩,
        ⟨some 29, .callv false (.t 26) [(.t 27), (.t 28)], none⟩,
        ⟨some 30, .un .not (.t 29), none⟩])
     (.cond (.t 30)
     (.seq (.ops false [
          ⟨some 6, .mov (.c (.bool false)), none⟩])
       (.ret))
     (.skip))))))
   (.ops false [
    ⟨some 31, .bin .add (.t 17) (.c (.int .i64 1)), none⟩,
    ⟨some 17, .mov (.t 31), none⟩]))))

/-- slices.EqualFunc[[]pointsman/api.Act,[]pointsman/api.Act,pointsman/api.Act,pointsman/api.Act] -/
def a74 : AFn := .mk 32
 (.seq (.ops false [
      ⟨some 6, .mov (.c (.bool false)), none⟩])
   (.seq (.seq (.ops false [
        ⟨some 10, .mov (.t 0), none⟩,
        ⟨some 11, .len (.t 10), none⟩,
        ⟨some 12, .mov (.t 1), none⟩,
        ⟨some 13, .len (.t 12), none⟩,
        ⟨some 14, .bin .neq (.t 11) (.t 13), none⟩])
     (.cond (.t 14)
     (.seq (.ops false [
          ⟨some 6, .mov (.c (.bool false)), none⟩])
       (.ret))
     (.skip)))
   (.seq (.seq (.ops false [
        ⟨some 15, .mov (.t 0), none⟩,
        ⟨some 16, .len (.t 15), none⟩,
        ⟨some 17, .mov (.c (.int .i64 0)), none⟩])
     (.block 0 (.loop b74_0)))
   (.seq (.ops false [
      ⟨some 6, .mov (.c (.bool true)), none⟩])
   (.ret)))))
 [.t 6]

set_option maxRecDepth 100000 in
theorem ok74 : chkFn Try.prog 74 a74 = true := by kernel_rfl

def b75_0 : ACode :=
  (.seq (.ops false [
      ⟨some 14, .bin .lss (.t 13) (.t 12), none⟩])
   (.seq (.cond (.t 14)
     (.skip)
     (.exit 0))
   (.seq (.block 1 (.seq (.ops false [
        ⟨some 15, .mov (.t 13), none⟩,
        ⟨some 5, .mov (.t 15), none⟩])
     (.seq (.ops true [
        ⟨some 16, .mov (.t 0), none⟩,
        ⟨some 17, .mov (.t 5), none⟩,
        ⟨some 18, .iaddr (some 2) (.t 16) (.t 17), none⟩,
        ⟨some 19, .load (some 2) (.t 18), none⟩,
        ⟨some 20, .mov (.t 1), none⟩,
        ⟨some 21, .mov (.t 5), none⟩,
        ⟨some 22, .iaddr (some 2) (.t 20) (.t 21), none⟩,
        ⟨some 23, .load (some 2) (.t 22), none⟩,
        ⟨some 24, .eqS true [.int, .int] (.t 19) (.t 23), none⟩])
     (.cond (.t 24)
     (.seq (.ops false [
          ⟨some 4, .mov (.c (.bool false)), none⟩])
       (.ret))
     (.skip)))))
   (.ops false [
    ⟨some 25, .bin .add (.t 13) (.c (.int .i64 1)), none⟩,
    ⟨some 13, .mov (.t 25), none⟩]))))

/-- slices.Equal[pointsman/api.Act,pointsman/api.Pair] -/
def a75 : AFn := .mk 26
 (.seq (.ops false [
      ⟨some 4, .mov (.c (.bool false)), none⟩])
   (.seq (.seq (.ops false [
        ⟨some 6, .mov (.t 0), none⟩,
        ⟨some 7, .len (.t 6), none⟩,
        ⟨some 8, .mov (.t 1), none⟩,
        ⟨some 9, .len (.t 8), none⟩,
        ⟨some 10, .bin .neq (.t 7) (.t 9), none⟩])
     (.cond (.t 10)
     (.seq (.ops false [
          ⟨some 4, .mov (.c (.bool false)), none⟩])
       (.ret))
     (.skip)))
   (.seq (.seq (.ops false [
        ⟨some 11, .mov (.t 0), none⟩,
        ⟨some 12, .len (.t 11), none⟩,
        ⟨some 13, .mov (.c (.int .i64 0)), none⟩])
     (.block 0 (.loop b75_0)))
   (.seq (.ops false [
      ⟨some 4, .mov (.c (.bool true)), none⟩])
   (.ret)))))
 [.t 4]

set_option maxRecDepth 100000 in
theorem ok75 : chkFn Try.prog 75 a75 = true := by kernel_rfl

/-- pointsman/slim.alike -/
def a66 : AFn := .mk 10
 (.seq (.ops false [
      ⟨some 2, .box (some 2) (.t 0) true, none⟩,
      ⟨some 3, .box (some 2) (.t 1) true, none⟩,
      ⟨some 4, .mov (.c (.bool false)), none⟩])
   (.seq (.ops false [
      ⟨some 5, .faddr 1 (.t 2), none⟩,
      ⟨some 6, .ldI none (.t 5), none⟩,
      ⟨some 7, .faddr 1 (.t 3), none⟩,
      ⟨some 8, .ldI none (.t 7), none⟩,
      ⟨some 9, .call false 74 [(.t 6), (.t 8), (.c (.func 75 []))], none⟩,
      ⟨some 4, .mov (.t 9), none⟩])
   (.ret)))
 [.t 4]

set_option maxRecDepth 100000 in
theorem ok66 : chkFn Try.prog 66 a66 = true := by kernel_rfl

/-- pointsman/slim.Apart$1$1 -/
def a57 : AFn := .mk 16
 (.seq (.ops false [
      ⟨some 2, .box (some 2) (.t 0) true, none⟩,
      ⟨some 3, .mov (.c (.bool false)), none⟩])
   (.seq (.ops false [
      ⟨some 4, .faddr 0 (.t 1), none⟩,
      ⟨some 5, .load none (.t 4), none⟩,
      ⟨some 6, .faddr 0 (.t 2), none⟩,
      ⟨some 7, .ldI none (.t 6), none⟩,
      ⟨some 8, .bin .eql (.t 5) (.t 7), none⟩,
      ⟨some 9, .mov (.t 8), none⟩,
      ⟨some 10, .faddr 1 (.t 1), some (9, true)⟩,
      ⟨some 11, .load none (.t 10), some (9, true)⟩,
      ⟨some 12, .faddr 1 (.t 2), some (9, true)⟩,
      ⟨some 13, .ldI none (.t 12), some (9, true)⟩,
      ⟨some 14, .bin .neq (.t 11) (.t 13), some (9, true)⟩,
      ⟨some 15, .pick (.t 9) (.t 14) (.c (.bool false)), none⟩,
      ⟨some 3, .mov (.t 15), none⟩])
   (.ret)))
 [.t 3]

set_option maxRecDepth 100000 in
theorem ok57 : chkFn Try.prog 57 a57 = true := by kernel_rfl

/-- pointsman/slim.Apart$1 -/
def a56 : AFn := .mk 8
 (.seq (.ops false [
      ⟨some 2, .box (some 2) (.t 0) true, none⟩,
      ⟨some 3, .mov (.c (.bool false)), none⟩])
   (.seq (.ops false [
      ⟨some 4, .faddr 0 (.t 1), none⟩,
      ⟨some 5, .load none (.t 4), none⟩,
      ⟨some 6, .mkfunc 57 [(.t 2)], none⟩,
      ⟨some 7, .call false 55 [(.t 5), (.t 6)], none⟩,
      ⟨some 3, .mov (.t 7), none⟩])
   (.ret)))
 [.t 3]

set_option maxRecDepth 100000 in
theorem ok56 : chkFn Try.prog 56 a56 = true := by kernel_rfl

/-- pointsman/slim.Apart -/
def a35 : AFn := .mk 9
 (.seq (.ops false [
      ⟨some 2, .box (some 2) (.t 0) true, none⟩,
      ⟨some 3, .box (some 2) (.t 1) true, none⟩,
      ⟨some 4, .mov (.c (.bool false)), none⟩])
   (.seq (.ops false [
      ⟨some 5, .faddr 0 (.t 2), none⟩,
      ⟨some 6, .ldI none (.t 5), none⟩,
      ⟨some 7, .mkfunc 56 [(.t 3)], none⟩,
      ⟨some 8, .call false 55 [(.t 6), (.t 7)], none⟩,
      ⟨some 4, .mov (.t 8), none⟩])
   (.ret)))
 [.t 4]

set_option maxRecDepth 100000 in
theorem ok35 : chkFn Try.prog 35 a35 = true := by kernel_rfl

def b52_0 : ACode :=
  (.seq (.ops false [
      ⟨some 14, .bin .lss (.t 13) (.t 12), none⟩])
   (.seq (.cond (.t 14)
     (.skip)
     (.exit 0))
   (.seq (.block 1 (.seq (.ops false [
        ⟨some 15, .iaddr (some 2) (.t 11) (.t 13), none⟩,
        ⟨some 16, .load (some 2) (.t 15), none⟩,
        ⟨some 6, .alloc [.vec (some 2) [], .vec none []], none⟩,
        ⟨none, .store (some 2) (.t 6) (.t 16), none⟩])
     (.seq (.ops true [
        ⟨some 17, .load (some 2) (.t 6), none⟩,
        ⟨some 18, .mov (.t 0), none⟩,
        ⟨some 19, .mov (.t 1), none⟩,
        ⟨some 20, .iaddr (some 2) (.t 18) (.t 19), none⟩,
        ⟨some 21, .load (some 2) (.t 20), none⟩,
        ⟨some 22, .call false 66 [(.t 17), (.t 21)], none⟩,
        ⟨some 7, .mov (.t 22), none⟩])
     (.block 2 (.seq (.ops true [
        ⟨some 24, .mov (.t 7), none⟩,
        ⟨some 25, .mov (.t 24), none⟩,
        ⟨some 26, .load (some 2) (.t 6), some (25, true)⟩,
        ⟨some 27, .mov (.t 0), some (25, true)⟩,
        ⟨some 28, .mov (.t 1), some (25, true)⟩,
        ⟨some 29, .iaddr (some 2) (.t 27) (.t 28), some (25, true)⟩,
        ⟨some 30, .load (some 2) (.t 29), some (25, true)⟩,
        ⟨some 31, .call false 65 [(.t 26), (.t 30)], some (25, true)⟩,
        ⟨some 32, .pick (.t 25) (.t 31) (.c (.bool false)), none⟩,
        ⟨some 23, .mov (.t 32), none⟩])
     (.cond (.t 23)
     (.seq (.ops false [
          ⟨some 4, .mov (.c (.bool true)), none⟩])
       (.ret))
     (.seq (.ops true [
          ⟨some 34, .mov (.t 7), none⟩,
          ⟨some 35, .un .not (.t 34), none⟩,
          ⟨some 36, .mov (.t 35), none⟩,
          ⟨some 37, .load (some 2) (.t 6), some (36, true)⟩,
          ⟨some 38, .mov (.t 0), some (36, true)⟩,
          ⟨some 39, .mov (.t 1), some (36, true)⟩,
          ⟨some 40, .iaddr (some 2) (.t 38) (.t 39), some (36, true)⟩,
          ⟨some 41, .load (some 2) (.t 40), some (36, true)⟩,
          ⟨some 42, .call false 35 [(.t 37), (.t 41)], some (36, true)⟩,
          ⟨some 43, .un .not (.t 42), some (36, true)⟩,
          ⟨some 44, .pick (.t 36) (.t 43) (.c (.bool false)), none⟩,
          ⟨some 33, .mov (.t 44), none⟩])
       (.cond (.t 33)
       (.seq (.ops false [
            ⟨some 4, .mov (.c (.bool false)), none⟩])
         (.ret))
       (.skip)))))))))
   (.ops false [
    ⟨some 45, .bin .add (.t 13) (.c (.int .i64 1)), none⟩,
    ⟨some 13, .mov (.t 45), none⟩]))))

/-- pointsman/slim.spared -/
def a52 : AFn := .mk 46
 (.seq (.ops false [
      ⟨some 4, .mov (.c (.bool false)), none⟩])
   (.seq (.seq (.ops false [
        ⟨some 8, .mov (.t 0), none⟩,
        ⟨some 9, .mov (.t 1), none⟩,
        ⟨some 10, .bin .add (.t 9) (.c (.int .i64 1)), none⟩,
        ⟨some 11, .slc (some 2) (.t 8) (some (.t 10)) none, none⟩,
        ⟨some 12, .len (.t 11), none⟩,
        ⟨some 13, .mov (.c (.int .i64 0)), none⟩])
     (.block 0 (.loop b52_0)))
   (.seq (.ops false [
      ⟨some 4, .mov (.c (.bool false)), none⟩])
   (.ret))))
 [.t 4]

set_option maxRecDepth 100000 in
theorem ok52 : chkFn Try.prog 52 a52 = true := by kernel_rfl

/-- pointsman/slim.Idle -/
def a33 : AFn := .mk 23
 (.seq (.ops false [
      ⟨some 4, .mov (.c (.bool false)), none⟩])
   (.seq (.ops false [
      ⟨some 5, .mov (.t 1), none⟩,
      ⟨some 6, .bin .geq (.t 5) (.c (.int .i64 0)), none⟩,
      ⟨some 7, .mov (.t 6), none⟩,
      ⟨some 8, .mov (.t 1), some (7, true)⟩,
      ⟨some 9, .mov (.t 0), some (7, true)⟩,
      ⟨some 10, .len (.t 9), some (7, true)⟩,
      ⟨some 11, .bin .lss (.t 8) (.t 10), some (7, true)⟩,
      ⟨some 12, .pick (.t 7) (.t 11) (.c (.bool false)), none⟩,
      ⟨some 13, .mov (.t 12), none⟩,
      ⟨some 14, .mov (.t 0), some (13, true)⟩,
      ⟨some 15, .mov (.t 1), some (13, true)⟩,
      ⟨some 16, .call false 51 [(.t 14), (.t 15)], some (13, true)⟩,
      ⟨some 17, .mov (.t 16), some (13, true)⟩,
      ⟨some 18, .mov (.t 0), some (17, false)⟩,
      ⟨some 19, .mov (.t 1), some (17, false)⟩,
      ⟨some 20, .call false 52 [(.t 18), (.t 19)], some (17, false)⟩,
      ⟨some 21, .pick (.t 17) (.c (.bool true)) (.t 20), some (13, true)⟩,
      ⟨some 22, .pick (.t 13) (.t 21) (.c (.bool false)), none⟩,
      ⟨some 4, .mov (.t 22), none⟩])
   (.ret)))
 [.t 4]

set_option maxRecDepth 100000 in
theorem ok33 : chkFn Try.prog 33 a33 = true := by kernel_rfl

def b38_0 : ACode :=
  (.seq (.seq (.ops false [
        ⟨some 9, .mov (.t 3), none⟩,
        ⟨some 10, .bin .geq (.t 9) (.c (.int .i64 0)), none⟩])
     (.cond (.t 10)
     (.skip)
     (.exit 0)))
   (.seq (.block 1 (.seq (.ops false [
        ⟨some 13, .mov (.t 0), none⟩,
        ⟨some 14, .mov (.t 3), none⟩,
        ⟨some 15, .call true 33 [(.t 13), (.t 14)], none⟩])
     (.cond (.t 15)
     (.ops false [
        ⟨some 16, .mov (.t 0), none⟩,
        ⟨some 17, .mov (.t 3), none⟩,
        ⟨some 18, .mov (.t 3), none⟩,
        ⟨some 19, .bin .add (.t 18) (.c (.int .i64 1)), none⟩,
        ⟨some 20, .call true 60 [(.t 16), (.t 17), (.t 19)], none⟩,
        ⟨some 0, .mov (.t 20), none⟩])
     (.skip))))
   (.ops false [
    ⟨some 11, .mov (.t 3), none⟩,
    ⟨some 12, .bin .sub (.t 11) (.c (.int .i64 1)), none⟩,
    ⟨some 3, .mov (.t 12), none⟩])))

/-- pointsman/slim.Slim -/
def a38 : AFn := .mk 22
 (.seq (.ops false [
      ⟨some 2, .mov (.c (.vec (some 2) [])), none⟩])
   (.seq (.ops false [
      ⟨some 4, .mov (.t 0), none⟩,
      ⟨some 5, .call true 59 [(.t 4)], none⟩,
      ⟨some 0, .mov (.t 5), none⟩])
   (.seq (.seq (.ops false [
        ⟨some 6, .mov (.t 0), none⟩,
        ⟨some 7, .len (.t 6), none⟩,
        ⟨some 8, .bin .sub (.t 7) (.c (.int .i64 1)), none⟩,
        ⟨some 3, .mov (.t 8), none⟩])
     (.block 0 (.loop b38_0)))
   (.seq (.ops false [
      ⟨some 21, .mov (.t 0), none⟩,
      ⟨some 2, .mov (.t 21), none⟩])
   (.ret)))))
 [.t 2]

set_option maxRecDepth 100000 in
theorem ok38 : chkFn Try.prog 38 a38 = true := by kernel_rfl

/-- pointsman/pointsmanlaw26.awake -/
def a30 : AFn := .mk 28
 (.seq (.ops false [
      ⟨some 0, .mov (.c (.bool false)), none⟩])
   (.seq (.ops false [
      ⟨some 2, .build [.int .i64 0, .int .u16 0] [(0, 1, (.c (.int .i64 3))), (1, 1, (.c (.int .u16 1)))], none⟩,
      ⟨some 3, .bsliceI (some 2) [(.t 2)], none⟩,
      ⟨some 4, .build [.vec (some 2) [], .vec none []] [(0, 1, (.t 3))], none⟩,
      ⟨some 5, .build [.vec (some 2) [], .vec none []] [], none⟩,
      ⟨some 6, .bsliceI (some 2) [(.t 4), (.t 5)], none⟩,
      ⟨some 7, .call false 38 [(.t 6)], none⟩,
      ⟨some 1, .mov (.t 7), none⟩])
   (.seq (.ops false [
      ⟨some 8, .mov (.t 1), none⟩,
      ⟨some 9, .len (.t 8), none⟩,
      ⟨some 10, .bin .eql (.t 9) (.c (.int .i64 1)), none⟩,
      ⟨some 11, .mov (.t 10), none⟩,
      ⟨some 12, .mov (.t 1), some (11, true)⟩,
      ⟨some 13, .iaddr (some 2) (.t 12) (.c (.int .i64 0)), some (11, true)⟩,
      ⟨some 14, .faddr 0 (.t 13), some (11, true)⟩,
      ⟨some 15, .load none (.t 14), some (11, true)⟩,
      ⟨some 16, .len (.t 15), some (11, true)⟩,
      ⟨some 17, .bin .eql (.t 16) (.c (.int .i64 0)), some (11, true)⟩,
      ⟨some 18, .pick (.t 11) (.t 17) (.c (.bool false)), none⟩,
      ⟨some 19, .mov (.t 18), none⟩,
      ⟨some 20, .build [.int .i64 0, .int .u16 0] [(0, 1, (.c (.int .i64 3))), (1, 1, (.c (.int .u16 1)))], some (19, true)⟩,
      ⟨some 21, .bsliceI (some 2) [(.t 20)], some (19, true)⟩,
      ⟨some 22, .build [.vec (some 2) [], .vec none []] [(0, 1, (.t 21))], some (19, true)⟩,
      ⟨some 23, .build [.int .i64 0, .int .u16 0] [(0, 1, (.c (.int .i64 3))), (1, 1, (.c (.int .u16 2)))], some (19, true)⟩,
      ⟨some 24, .bsliceI (some 2) [(.t 23)], some (19, true)⟩,
      ⟨some 25, .build [.vec (some 2) [], .vec none []] [(0, 1, (.t 24))], some (19, true)⟩,
      ⟨some 26, .call false 35 [(.t 22), (.t 25)], some (19, true)⟩,
      ⟨some 27, .pick (.t 19) (.t 26) (.c (.bool false)), none⟩,
      ⟨some 0, .mov (.t 27), none⟩])
   (.ret))))
 [.t 0]

set_option maxRecDepth 100000 in
theorem ok30 : chkFn Try.prog 30 a30 = true := by kernel_rfl

def b31_1 : ACode :=
  (.seq (.ops false [
      ⟨some 30, .bin .lss (.t 29) (.t 28), none⟩])
   (.seq (.cond (.t 30)
     (.skip)
     (.exit 2))
   (.seq (.block 3 (.seq (.ops false [
        ⟨some 31, .iaddr none (.t 27) (.t 29), none⟩,
        ⟨some 32, .load none (.t 31), none⟩,
        ⟨some 6, .mov (.t 32), none⟩])
     (.seq (.ops false [
        ⟨some 33, .mov (.t 6), none⟩,
        ⟨some 34, .len (.t 33), none⟩,
        ⟨some 35, .bin .gtr (.t 34) (.c (.int .i64 10)), none⟩])
     (.cond (.t 35)
     (.seq (.ops false [
          ⟨some 2, .mov (.c (.bool false)), none⟩])
       (.ret))
     (.skip)))))
   (.ops false [
    ⟨some 36, .bin .add (.t 29) (.c (.int .i64 1)), none⟩,
    ⟨some 29, .mov (.t 36), none⟩]))))

def b31_0 : ACode :=
  (.seq (.ops false [
      ⟨some 13, .bin .lss (.t 12) (.t 11), none⟩])
   (.seq (.cond (.t 13)
     (.skip)
     (.exit 0))
   (.seq (.block 1 (.seq (.ops false [
        ⟨some 14, .iaddr (some 2) (.t 10) (.t 12), none⟩,
        ⟨some 15, .load (some 2) (.t 14), none⟩,
        ⟨some 4, .alloc [.vec (some 2) [], .vec none []], none⟩,
        ⟨none, .store (some 2) (.t 4) (.t 15), none⟩])
     (.seq (.seq (.ops false [
          ⟨some 16, .faddr 0 (.t 4), none⟩,
          ⟨some 17, .load none (.t 16), none⟩,
          ⟨some 18, .len (.t 17), none⟩,
          ⟨some 19, .bin .gtr (.t 18) (.c (.int .i64 10)), none⟩,
          ⟨some 20, .mov (.t 19), none⟩,
          ⟨some 21, .faddr 1 (.t 4), some (20, false)⟩,
          ⟨some 22, .load none (.t 21), some (20, false)⟩,
          ⟨some 23, .len (.t 22), some (20, false)⟩,
          ⟨some 24, .bin .gtr (.t 23) (.c (.int .i64 40)), some (20, false)⟩,
          ⟨some 25, .pick (.t 20) (.c (.bool true)) (.t 24), none⟩])
       (.cond (.t 25)
       (.seq (.ops false [
            ⟨some 2, .mov (.c (.bool false)), none⟩])
         (.ret))
       (.skip)))
     (.seq (.ops false [
        ⟨some 26, .faddr 1 (.t 4), none⟩,
        ⟨some 27, .load none (.t 26), none⟩,
        ⟨some 28, .len (.t 27), none⟩,
        ⟨some 29, .mov (.c (.int .i64 0)), none⟩])
     (.block 2 (.loop b31_1))))))
   (.ops false [
    ⟨some 37, .bin .add (.t 12) (.c (.int .i64 1)), none⟩,
    ⟨some 12, .mov (.t 37), none⟩]))))

/-- pointsman/pointsmanlaw09.Few -/
def a31 : AFn := .mk 38
 (.seq (.ops false [
      ⟨some 2, .mov (.c (.bool false)), none⟩])
   (.seq (.seq (.ops false [
        ⟨some 7, .mov (.t 0), none⟩,
        ⟨some 8, .len (.t 7), none⟩,
        ⟨some 9, .bin .gtr (.t 8) (.c (.int .i64 20)), none⟩])
     (.cond (.t 9)
     (.seq (.ops false [
          ⟨some 2, .mov (.c (.bool false)), none⟩])
       (.ret))
     (.skip)))
   (.seq (.seq (.ops false [
        ⟨some 10, .mov (.t 0), none⟩,
        ⟨some 11, .len (.t 10), none⟩,
        ⟨some 12, .mov (.c (.int .i64 0)), none⟩])
     (.block 0 (.loop b31_0)))
   (.seq (.ops false [
      ⟨some 2, .mov (.c (.bool true)), none⟩])
   (.ret)))))
 [.t 2]

set_option maxRecDepth 100000 in
theorem ok31 : chkFn Try.prog 31 a31 = true := by kernel_rfl

def b50_0 : ACode :=
  (.seq (.seq (.ops false [
        ⟨some 4, .mov (.t 3), none⟩,
        ⟨some 5, .mov (.t 0), none⟩,
        ⟨some 6, .len (.t 5), none⟩,
        ⟨some 7, .bin .lss (.t 4) (.t 6), none⟩])
     (.cond (.t 7)
     (.skip)
     (.exit 0)))
   (.seq (.block 1 (.seq (.ops true [
        ⟨some 10, .mov (.t 0), none⟩,
        ⟨some 11, .mov (.t 3), none⟩,
        ⟨some 12, .iaddr (some 2) (.t 10) (.t 11), none⟩,
        ⟨some 13, .faddr 0 (.t 12), none⟩,
        ⟨some 14, .load none (.t 13), none⟩,
        ⟨some 15, .bin .lss (.t 14) (.c (.int .i64 0)), none⟩,
        ⟨some 16, .mov (.t 15), none⟩,
        ⟨some 17, .mov (.t 0), some (16, false)⟩,
        ⟨some 18, .mov (.t 3), some (16, false)⟩,
        ⟨some 19, .iaddr (some 2) (.t 17) (.t 18), some (16, false)⟩,
        ⟨some 20, .faddr 0 (.t 19), some (16, false)⟩,
        ⟨some 21, .load none (.t 20), some (16, false)⟩,
        ⟨some 22, .bin .gtr (.t 21) (.c (.int .i64 7)), some (16, false)⟩,
        ⟨some 23, .pick (.t 16) (.c (.bool true)) (.t 22), none⟩,
        ⟨some 24, .mov (.t 23), none⟩,
        ⟨some 25, .mov (.t 3), some (24, false)⟩,
        ⟨some 26, .bin .gtr (.t 25) (.c (.int .i64 0)), some (24, false)⟩,
        ⟨some 27, .mov (.t 26), some (24, false)⟩,
        ⟨some 28, .mov (.t 0), some (27, true)⟩,
        ⟨some 29, .mov (.t 3), some (27, true)⟩,
        ⟨some 30, .bin .sub (.t 29) (.c (.int .i64 1)), some (27, true)⟩,
        ⟨some 31, .iaddr (some 2) (.t 28) (.t 30), some (27, true)⟩,
        ⟨some 32, .faddr 0 (.t 31), some (27, true)⟩,
        ⟨some 33, .load none (.t 32), some (27, true)⟩,
        ⟨some 34, .mov (.t 0), some (27, true)⟩,
        ⟨some 35, .mov (.t 3), some (27, true)⟩,
        ⟨some 36, .iaddr (some 2) (.t 34) (.t 35), some (27, true)⟩,
        ⟨some 37, .faddr 0 (.t 36), some (27, true)⟩,
        ⟨some 38, .load none (.t 37), some (27, true)⟩,
        ⟨some 39, .bin .geq (.t 33) (.t 38), some (27, true)⟩,
        ⟨some 40, .pick (.t 27) (.t 39) (.c (.bool false)), some (24, false)⟩,
        ⟨some 41, .pick (.t 24) (.c (.bool true)) (.t 40), none⟩])
     (.cond (.t 41)
     (.seq (.ops false [
          ⟨some 2, .mov (.c (.bool false)), none⟩])
       (.ret))
     (.skip))))
   (.ops false [
    ⟨some 8, .mov (.t 3), none⟩,
    ⟨some 9, .bin .add (.t 8) (.c (.int .i64 1)), none⟩,
    ⟨some 3, .mov (.t 9), none⟩])))

/-- pointsman/pointsmanref08.Rising -/
def a50 : AFn := .mk 42
 (.seq (.ops false [
      ⟨some 2, .mov (.c (.bool false)), none⟩])
   (.seq (.seq (.ops false [
        ⟨some 3, .mov (.c (.int .i64 0)), none⟩])
     (.block 0 (.loop b50_0)))
   (.seq (.ops false [
      ⟨some 2, .mov (.c (.bool true)), none⟩])
   (.ret))))
 [.t 2]

set_option maxRecDepth 100000 in
theorem ok50 : chkFn Try.prog 50 a50 = true := by kernel_rfl

def b32_1 : ACode :=
  (.seq (.seq (.ops false [
        ⟨some 27, .mov (.t 4), none⟩,
        ⟨some 28, .mov (.t 0), none⟩,
        ⟨some 29, .mov (.t 3), none⟩,
        ⟨some 30, .iaddr (some 2) (.t 28) (.t 29), none⟩,
        ⟨some 31, .faddr 1 (.t 30), none⟩,
        ⟨some 32, .load none (.t 31), none⟩,
        ⟨some 33, .len (.t 32), none⟩,
        ⟨some 34, .bin .lss (.t 27) (.t 33), none⟩])
     (.cond (.t 34)
     (.skip)
     (.exit 2)))
   (.seq (.block 3 (.seq (.ops false [
        ⟨some 37, .mov (.t 0), none⟩,
        ⟨some 38, .mov (.t 3), none⟩,
        ⟨some 39, .iaddr (some 2) (.t 37) (.t 38), none⟩,
        ⟨some 40, .faddr 1 (.t 39), none⟩,
        ⟨some 41, .load none (.t 40), none⟩,
        ⟨some 42, .mov (.t 4), none⟩,
        ⟨some 43, .iaddr none (.t 41) (.t 42), none⟩,
        ⟨some 44, .load none (.t 43), none⟩,
        ⟨some 45, .call false 50 [(.t 44)], none⟩,
        ⟨some 46, .un .not (.t 45), none⟩])
     (.cond (.t 46)
     (.seq (.ops false [
          ⟨some 2, .mov (.c (.bool false)), none⟩])
       (.ret))
     (.skip))))
   (.ops false [
    ⟨some 35, .mov (.t 4), none⟩,
    ⟨some 36, .bin .add (.t 35) (.c (.int .i64 1)), none⟩,
    ⟨some 4, .mov (.t 36), none⟩])))

def b32_0 : ACode :=
  (.seq (.seq (.ops false [
        ⟨some 5, .mov (.t 3), none⟩,
        ⟨some 6, .mov (.t 0), none⟩,
        ⟨some 7, .len (.t 6), none⟩,
        ⟨some 8, .bin .lss (.t 5) (.t 7), none⟩])
     (.cond (.t 8)
     (.skip)
     (.exit 0)))
   (.seq (.block 1 (.seq (.seq (.ops false [
          ⟨some 11, .mov (.t 0), none⟩,
          ⟨some 12, .mov (.t 3), none⟩,
          ⟨some 13, .iaddr (some 2) (.t 11) (.t 12), none⟩,
          ⟨some 14, .faddr 0 (.t 13), none⟩,
          ⟨some 15, .load none (.t 14), none⟩,
          ⟨some 16, .call false 50 [(.t 15)], none⟩,
          ⟨some 17, .un .not (.t 16), none⟩,
          ⟨some 18, .mov (.t 17), none⟩,
          ⟨some 19, .mov (.t 0), some (18, false)⟩,
          ⟨some 20, .mov (.t 3), some (18, false)⟩,
          ⟨some 21, .iaddr (some 2) (.t 19) (.t 20), some (18, false)⟩,
          ⟨some 22, .faddr 1 (.t 21), some (18, false)⟩,
          ⟨some 23, .load none (.t 22), some (18, false)⟩,
          ⟨some 24, .len (.t 23), some (18, false)⟩,
          ⟨some 25, .bin .gtr (.t 24) (.c (.int .i64 32)), some (18, false)⟩,
          ⟨some 26, .pick (.t 18) (.c (.bool true)) (.t 25), none⟩])
       (.cond (.t 26)
       (.seq (.ops false [
            ⟨some 2, .mov (.c (.bool false)), none⟩])
         (.ret))
       (.skip)))
     (.seq (.ops false [
        ⟨some 4, .mov (.c (.int .i64 0)), none⟩])
     (.block 2 (.loop b32_1)))))
   (.ops false [
    ⟨some 9, .mov (.t 3), none⟩,
    ⟨some 10, .bin .add (.t 9) (.c (.int .i64 1)), none⟩,
    ⟨some 3, .mov (.t 10), none⟩])))

/-- pointsman/pointsmanref09.Right -/
def a32 : AFn := .mk 50
 (.seq (.ops false [
      ⟨some 2, .mov (.c (.bool false)), none⟩])
   (.seq (.seq (.ops false [
        ⟨some 3, .mov (.c (.int .i64 0)), none⟩])
     (.block 0 (.loop b32_0)))
   (.seq (.ops false [
      ⟨some 47, .mov (.t 0), none⟩,
      ⟨some 48, .len (.t 47), none⟩,
      ⟨some 49, .bin .leq (.t 48) (.c (.int .i64 1000)), none⟩,
      ⟨some 2, .mov (.t 49), none⟩])
   (.ret))))
 [.t 2]

set_option maxRecDepth 100000 in
theorem ok32 : chkFn Try.prog 32 a32 = true := by kernel_rfl

def b67_0 : ACode :=
  (.seq (.seq (.ops false [
        ⟨some 6, .mov (.t 5), none⟩,
        ⟨some 7, .mov (.t 0), none⟩,
        ⟨some 8, .len (.t 7), none⟩,
        ⟨some 9, .bin .lss (.t 6) (.t 8), none⟩])
     (.cond (.t 9)
     (.skip)
     (.exit 0)))
   (.seq (.block 1 (.seq (.ops true [
        ⟨some 12, .mov (.t 0), none⟩,
        ⟨some 13, .mov (.t 5), none⟩,
        ⟨some 14, .iaddr (some 2) (.t 12) (.t 13), none⟩,
        ⟨some 15, .load (some 2) (.t 14), none⟩,
        ⟨some 16, .ldI (some 2) (.t 3), none⟩,
        ⟨some 17, .eqS false [.int, .int] (.t 15) (.t 16), none⟩])
     (.cond (.t 17)
     (.seq (.ops false [
          ⟨some 4, .mov (.c (.bool true)), none⟩])
       (.ret))
     (.skip))))
   (.ops false [
    ⟨some 10, .mov (.t 5), none⟩,
    ⟨some 11, .bin .add (.t 10) (.c (.int .i64 1)), none⟩,
    ⟨some 5, .mov (.t 11), none⟩])))

/-- pointsman/pointsmanref09.has -/
def a67 : AFn := .mk 18
 (.seq (.ops false [
      ⟨some 3, .box (some 2) (.t 1) true, none⟩,
      ⟨some 4, .mov (.c (.bool false)), none⟩])
   (.seq (.seq (.ops false [
        ⟨some 5, .mov (.c (.int .i64 0)), none⟩])
     (.block 0 (.loop b67_0)))
   (.seq (.ops false [
      ⟨some 4, .mov (.c (.bool false)), none⟩])
   (.ret))))
 [.t 4]

set_option maxRecDepth 100000 in
theorem ok67 : chkFn Try.prog 67 a67 = true := by kernel_rfl

def b53_0 : ACode :=
  (.seq (.seq (.ops false [
        ⟨some 6, .mov (.t 5), none⟩,
        ⟨some 7, .faddr 0 (.t 2), none⟩,
        ⟨some 8, .ldI none (.t 7), none⟩,
        ⟨some 9, .len (.t 8), none⟩,
        ⟨some 10, .bin .lss (.t 6) (.t 9), none⟩])
     (.cond (.t 10)
     (.skip)
     (.exit 0)))
   (.seq (.block 1 (.seq (.ops true [
        ⟨some 13, .faddr 0 (.t 3), none⟩,
        ⟨some 14, .ldI none (.t 13), none⟩,
        ⟨some 15, .faddr 0 (.t 2), none⟩,
        ⟨some 16, .ldI none (.t 15), none⟩,
        ⟨some 17, .mov (.t 5), none⟩,
        ⟨some 18, .iaddr (some 2) (.t 16) (.t 17), none⟩,
        ⟨some 19, .load (some 2) (.t 18), none⟩,
        ⟨some 20, .call false 67 [(.t 14), (.t 19)], none⟩,
        ⟨some 21, .un .not (.t 20), none⟩])
     (.cond (.t 21)
     (.seq (.ops false [
          ⟨some 4, .mov (.c (.bool false)), none⟩])
       (.ret))
     (.skip))))
   (.ops false [
    ⟨some 11, .mov (.t 5), none⟩,
    ⟨some 12, .bin .add (.t 11) (.c (.int .i64 1)), none⟩,
    ⟨some 5, .mov (.t 12), none⟩])))

/-- pointsman/pointsmanref09.Covers -/
def a53 : AFn := .mk 22
 (.seq (.ops false [
      ⟨some 2, .box (some 2) (.t 0) true, none⟩,
      ⟨some 3, .box (some 2) (.t 1) true, none⟩,
      ⟨some 4, .mov (.c (.bool false)), none⟩])
   (.seq (.seq (.ops false [
        ⟨some 5, .mov (.c (.int .i64 0)), none⟩])
     (.block 0 (.loop b53_0)))
   (.seq (.ops false [
      ⟨some 4, .mov (.c (.bool true)), none⟩])
   (.ret))))
 [.t 4]

set_option maxRecDepth 100000 in
theorem ok53 : chkFn Try.prog 53 a53 = true := by kernel_rfl

def b58_0 : ACode :=
  (.seq (.seq (.ops false [
        ⟨some 11, .mov (.t 5), none⟩,
        ⟨some 12, .mov (.t 0), none⟩,
        ⟨some 13, .len (.t 12), none⟩,
        ⟨some 14, .bin .lss (.t 11) (.t 13), none⟩])
     (.cond (.t 14)
     (.skip)
     (.exit 0)))
   (.seq (.block 1 (.seq (.ops true [
        ⟨some 17, .mov (.t 0), none⟩,
        ⟨some 18, .mov (.t 5), none⟩,
        ⟨some 19, .iaddr (some 2) (.t 17) (.t 18), none⟩,
        ⟨some 20, .load (some 2) (.t 19), none⟩,
        ⟨some 21, .mov (.t 1), none⟩,
        ⟨some 22, .mov (.t 5), none⟩,
        ⟨some 23, .iaddr (some 2) (.t 21) (.t 22), none⟩,
        ⟨some 24, .load (some 2) (.t 23), none⟩,
        ⟨some 25, .eqS true [.int, .int] (.t 20) (.t 24), none⟩])
     (.cond (.t 25)
     (.seq (.ops false [
          ⟨some 4, .mov (.c (.bool false)), none⟩])
       (.ret))
     (.skip))))
   (.ops false [
    ⟨some 15, .mov (.t 5), none⟩,
    ⟨some 16, .bin .add (.t 15) (.c (.int .i64 1)), none⟩,
    ⟨some 5, .mov (.t 16), none⟩])))

/-- pointsman/pointsmanref05.SamePairs -/
def a58 : AFn := .mk 26
 (.seq (.ops false [
      ⟨some 4, .mov (.c (.bool false)), none⟩])
   (.seq (.seq (.ops false [
        ⟨some 6, .mov (.t 0), none⟩,
        ⟨some 7, .len (.t 6), none⟩,
        ⟨some 8, .mov (.t 1), none⟩,
        ⟨some 9, .len (.t 8), none⟩,
        ⟨some 10, .bin .neq (.t 7) (.t 9), none⟩])
     (.cond (.t 10)
     (.seq (.ops false [
          ⟨some 4, .mov (.c (.bool false)), none⟩])
       (.ret))
     (.skip)))
   (.seq (.seq (.ops false [
        ⟨some 5, .mov (.c (.int .i64 0)), none⟩])
     (.block 0 (.loop b58_0)))
   (.seq (.ops false [
      ⟨some 4, .mov (.c (.bool true)), none⟩])
   (.ret)))))
 [.t 4]

set_option maxRecDepth 100000 in
theorem ok58 : chkFn Try.prog 58 a58 = true := by kernel_rfl

def b37_1 : ACode :=
  (.seq (.seq (.ops false [
        ⟨some 45, .mov (.t 6), none⟩,
        ⟨some 46, .mov (.t 0), none⟩,
        ⟨some 47, .mov (.t 5), none⟩,
        ⟨some 48, .iaddr (some 2) (.t 46) (.t 47), none⟩,
        ⟨some 49, .faddr 1 (.t 48), none⟩,
        ⟨some 50, .load none (.t 49), none⟩,
        ⟨some 51, .len (.t 50), none⟩,
        ⟨some 52, .bin .lss (.t 45) (.t 51), none⟩])
     (.cond (.t 52)
     (.skip)
     (.exit 2)))
   (.seq (.block 3 (.seq (.ops true [
        ⟨some 55, .mov (.t 0), none⟩,
        ⟨some 56, .mov (.t 5), none⟩,
        ⟨some 57, .iaddr (some 2) (.t 55) (.t 56), none⟩,
        ⟨some 58, .faddr 1 (.t 57), none⟩,
        ⟨some 59, .load none (.t 58), none⟩,
        ⟨some 60, .mov (.t 6), none⟩,
        ⟨some 61, .iaddr none (.t 59) (.t 60), none⟩,
        ⟨some 62, .load none (.t 61), none⟩,
        ⟨some 63, .mov (.t 1), none⟩,
        ⟨some 64, .mov (.t 5), none⟩,
        ⟨some 65, .iaddr (some 2) (.t 63) (.t 64), none⟩,
        ⟨some 66, .faddr 1 (.t 65), none⟩,
        ⟨some 67, .load none (.t 66), none⟩,
        ⟨some 68, .mov (.t 6), none⟩,
        ⟨some 69, .iaddr none (.t 67) (.t 68), none⟩,
        ⟨some 70, .load none (.t 69), none⟩,
        ⟨some 71, .call false 58 [(.t 62), (.t 70)], none⟩,
        ⟨some 72, .un .not (.t 71), none⟩])
     (.cond (.t 72)
     (.seq (.ops false [
          ⟨some 4, .mov (.c (.bool false)), none⟩])
       (.ret))
     (.skip))))
   (.ops false [
    ⟨some 53, .mov (.t 6), none⟩,
    ⟨some 54, .bin .add (.t 53) (.c (.int .i64 1)), none⟩,
    ⟨some 6, .mov (.t 54), none⟩])))

def b37_0 : ACode :=
  (.seq (.seq (.ops false [
        ⟨some 12, .mov (.t 5), none⟩,
        ⟨some 13, .mov (.t 0), none⟩,
        ⟨some 14, .len (.t 13), none⟩,
        ⟨some 15, .bin .lss (.t 12) (.t 14), none⟩])
     (.cond (.t 15)
     (.skip)
     (.exit 0)))
   (.seq (.block 1 (.seq (.seq (.ops true [
          ⟨some 18, .mov (.t 0), none⟩,
          ⟨some 19, .mov (.t 5), none⟩,
          ⟨some 20, .iaddr (some 2) (.t 18) (.t 19), none⟩,
          ⟨some 21, .faddr 0 (.t 20), none⟩,
          ⟨some 22, .load none (.t 21), none⟩,
          ⟨some 23, .mov (.t 1), none⟩,
          ⟨some 24, .mov (.t 5), none⟩,
          ⟨some 25, .iaddr (some 2) (.t 23) (.t 24), none⟩,
          ⟨some 26, .faddr 0 (.t 25), none⟩,
          ⟨some 27, .load none (.t 26), none⟩,
          ⟨some 28, .call false 58 [(.t 22), (.t 27)], none⟩,
          ⟨some 29, .un .not (.t 28), none⟩,
          ⟨some 30, .mov (.t 29), none⟩,
          ⟨some 31, .mov (.t 0), some (30, false)⟩,
          ⟨some 32, .mov (.t 5), some (30, false)⟩,
          ⟨some 33, .iaddr (some 2) (.t 31) (.t 32), some (30, false)⟩,
          ⟨some 34, .faddr 1 (.t 33), some (30, false)⟩,
          ⟨some 35, .load none (.t 34), some (30, false)⟩,
          ⟨some 36, .len (.t 35), some (30, false)⟩,
          ⟨some 37, .mov (.t 1), some (30, false)⟩,
          ⟨some 38, .mov (.t 5), some (30, false)⟩,
          ⟨some 39, .iaddr (some 2) (.t 37) (.t 38), some (30, false)⟩,
          ⟨some 40, .faddr 1 (.t 39), some (30, false)⟩,
          ⟨some 41, .load none (.t 40), some (30, false)⟩,
          ⟨some 42, .len (.t 41), some (30, false)⟩,
          ⟨some 43, .bin .neq (.t 36) (.t 42), some (30, false)⟩,
          ⟨some 44, .pick (.t 30) (.c (.bool true)) (.t 43), none⟩])
       (.cond (.t 44)
       (.seq (.ops false [
            ⟨some 4, .mov (.c (.bool false)), none⟩])
         (.ret))
       (.skip)))
     (.seq (.ops false [
        ⟨some 6, .mov (.c (.int .i64 0)), none⟩])
     (.block 2 (.loop b37_1)))))
   (.ops false [
    ⟨some 16, .mov (.t 5), none⟩,
    ⟨some 17, .bin .add (.t 16) (.c (.int .i64 1)), none⟩,
    ⟨some 5, .mov (.t 17), none⟩])))

/-- pointsman/pointsmanref09.Same -/
def a37 : AFn := .mk 73
 (.seq (.ops false [
      ⟨some 4, .mov (.c (.bool false)), none⟩])
   (.seq (.seq (.ops false [
        ⟨some 7, .mov (.t 0), none⟩,
        ⟨some 8, .len (.t 7), none⟩,
        ⟨some 9, .mov (.t 1), none⟩,
        ⟨some 10, .len (.t 9), none⟩,
        ⟨some 11, .bin .neq (.t 8) (.t 10), none⟩])
     (.cond (.t 11)
     (.seq (.ops false [
          ⟨some 4, .mov (.c (.bool false)), none⟩])
       (.ret))
     (.skip)))
   (.seq (.seq (.ops false [
        ⟨some 5, .mov (.c (.int .i64 0)), none⟩])
     (.block 0 (.loop b37_0)))
   (.seq (.ops false [
      ⟨some 4, .mov (.c (.bool true)), none⟩])
   (.ret)))))
 [.t 4]

set_option maxRecDepth 100000 in
theorem ok37 : chkFn Try.prog 37 a37 = true := by kernel_rfl

/-- pointsman/pointsmanref26.same -/
def a54 : AFn := .mk 12
 (.seq (.ops false [
      ⟨some 2, .box (some 2) (.t 0) false, none⟩,
      ⟨some 3, .box (some 2) (.t 1) false, none⟩,
      ⟨some 4, .mov (.c (.bool false)), none⟩])
   (.seq (.ops false [
      ⟨some 5, .faddr 0 (.t 2), none⟩,
      ⟨none, .store none (.t 5) (.c (.vec (some 2) [])), none⟩])
   (.seq (.ops false [
      ⟨some 6, .faddr 0 (.t 3), none⟩,
      ⟨none, .store none (.t 6) (.c (.vec (some 2) [])), none⟩])
   (.seq (.ops false [
      ⟨some 7, .load (some 2) (.t 2), none⟩,
      ⟨some 8, .bsliceI (some 2) [(.t 7)], none⟩,
      ⟨some 9, .load (some 2) (.t 3), none⟩,
      ⟨some 10, .bsliceI (some 2) [(.t 9)], none⟩,
      ⟨some 11, .call false 37 [(.t 8), (.t 10)], none⟩,
      ⟨some 4, .mov (.t 11), none⟩])
   (.ret)))))
 [.t 4]

set_option maxRecDepth 100000 in
theorem ok54 : chkFn Try.prog 54 a54 = true := by kernel_rfl

def b36_1 : ACode :=
  (.seq (.seq (.ops false [
        ⟨some 14, .mov (.t 6), none⟩,
        ⟨some 15, .faddr 0 (.t 3), none⟩,
        ⟨some 16, .ldI none (.t 15), none⟩,
        ⟨some 17, .len (.t 16), none⟩,
        ⟨some 18, .bin .lss (.t 14) (.t 17), none⟩])
     (.cond (.t 18)
     (.skip)
     (.exit 2)))
   (.seq (.block 3 (.seq (.ops true [
        ⟨some 21, .faddr 0 (.t 2), none⟩,
        ⟨some 22, .ldI none (.t 21), none⟩,
        ⟨some 23, .mov (.t 5), none⟩,
        ⟨some 24, .iaddr (some 2) (.t 22) (.t 23), none⟩,
        ⟨some 25, .faddr 0 (.t 24), none⟩,
        ⟨some 26, .load none (.t 25), none⟩,
        ⟨some 27, .faddr 0 (.t 3), none⟩,
        ⟨some 28, .ldI none (.t 27), none⟩,
        ⟨some 29, .mov (.t 6), none⟩,
        ⟨some 30, .iaddr (some 2) (.t 28) (.t 29), none⟩,
        ⟨some 31, .faddr 0 (.t 30), none⟩,
        ⟨some 32, .load none (.t 31), none⟩,
        ⟨some 33, .bin .eql (.t 26) (.t 32), none⟩,
        ⟨some 34, .mov (.t 33), none⟩,
        ⟨some 35, .faddr 0 (.t 2), some (34, true)⟩,
        ⟨some 36, .ldI none (.t 35), some (34, true)⟩,
        ⟨some 37, .mov (.t 5), some (34, true)⟩,
        ⟨some 38, .iaddr (some 2) (.t 36) (.t 37), some (34, true)⟩,
        ⟨some 39, .faddr 1 (.t 38), some (34, true)⟩,
        ⟨some 40, .load none (.t 39), some (34, true)⟩,
        ⟨some 41, .faddr 0 (.t 3), some (34, true)⟩,
        ⟨some 42, .ldI none (.t 41), some (34, true)⟩,
        ⟨some 43, .mov (.t 6), some (34, true)⟩,
        ⟨some 44, .iaddr (some 2) (.t 42) (.t 43), some (34, true)⟩,
        ⟨some 45, .faddr 1 (.t 44), some (34, true)⟩,
        ⟨some 46, .load none (.t 45), some (34, true)⟩,
        ⟨some 47, .bin .neq (.t 40) (.t 46), some (34, true)⟩,
        ⟨some 48, .pick (.t 34) (.t 47) (.c (.bool false)), none⟩])
     (.cond (.t 48)
     (.seq (.ops false [
          ⟨some 4, .mov (.c (.bool true)), none⟩])
       (.ret))
     (.skip))))
   (.ops false [
    ⟨some 19, .mov (.t 6), none⟩,
    ⟨some 20, .bin .add (.t 19) (.c (.int .i64 1)), none⟩,
    ⟨some 6, .mov (.t 20), none⟩])))

def b36_0 : ACode :=
  (.seq (.seq (.ops false [
        ⟨some 7, .mov (.t 5), none⟩,
        ⟨some 8, .faddr 0 (.t 2), none⟩,
        ⟨some 9, .ldI none (.t 8), none⟩,
        ⟨some 10, .len (.t 9), none⟩,
        ⟨some 11, .bin .lss (.t 7) (.t 10), none⟩])
     (.cond (.t 11)
     (.skip)
     (.exit 0)))
   (.seq (.block 1 (.seq (.ops false [
        ⟨some 6, .mov (.c (.int .i64 0)), none⟩])
     (.block 2 (.loop b36_1))))
   (.ops false [
    ⟨some 12, .mov (.t 5), none⟩,
    ⟨some 13, .bin .add (.t 12) (.c (.int .i64 1)), none⟩,
    ⟨some 5, .mov (.t 13), none⟩])))

/-- pointsman/pointsmanref26.Apart -/
def a36 : AFn := .mk 49
 (.seq (.ops false [
      ⟨some 2, .box (some 2) (.t 0) true, none⟩,
      ⟨some 3, .box (some 2) (.t 1) true, none⟩,
      ⟨some 4, .mov (.c (.bool false)), none⟩])
   (.seq (.seq (.ops false [
        ⟨some 5, .mov (.c (.int .i64 0)), none⟩])
     (.block 0 (.loop b36_0)))
   (.seq (.ops false [
      ⟨some 4, .mov (.c (.bool false)), none⟩])
   (.ret))))
 [.t 4]

set_option maxRecDepth 100000 in
theorem ok36 : chkFn Try.prog 36 a36 = true := by kernel_rfl

def b34_0 : ACode :=
  (.seq (.seq (.ops false [
        ⟨some 15, .mov (.t 5), none⟩,
        ⟨some 16, .mov (.t 1), none⟩,
        ⟨some 17, .bin .lss (.t 15) (.t 16), none⟩])
     (.cond (.t 17)
     (.skip)
     (.exit 0)))
   (.seq (.block 1 (.seq (.ops true [
        ⟨some 20, .mov (.t 0), none⟩,
        ⟨some 21, .mov (.t 5), none⟩,
        ⟨some 22, .iaddr (some 2) (.t 20) (.t 21), none⟩,
        ⟨some 23, .load (some 2) (.t 22), none⟩,
        ⟨some 24, .mov (.t 0), none⟩,
        ⟨some 25, .mov (.t 1), none⟩,
        ⟨some 26, .iaddr (some 2) (.t 24) (.t 25), none⟩,
        ⟨some 27, .load (some 2) (.t 26), none⟩,
        ⟨some 28, .call false 53 [(.t 23), (.t 27)], none⟩])
     (.cond (.t 28)
     (.seq (.ops false [
          ⟨some 4, .mov (.c (.bool true)), none⟩])
       (.ret))
     (.skip))))
   (.ops false [
    ⟨some 18, .mov (.t 5), none⟩,
    ⟨some 19, .bin .add (.t 18) (.c (.int .i64 1)), none⟩,
    ⟨some 5, .mov (.t 19), none⟩])))

def b34_1 : ACode :=
  (.seq (.seq (.ops false [
        ⟨some 31, .mov (.t 6), none⟩,
        ⟨some 32, .mov (.t 0), none⟩,
        ⟨some 33, .len (.t 32), none⟩,
        ⟨some 34, .bin .lss (.t 31) (.t 33), none⟩])
     (.cond (.t 34)
     (.skip)
     (.exit 2)))
   (.seq (.block 3 (.seq (.seq (.ops true [
          ⟨some 37, .mov (.t 0), none⟩,
          ⟨some 38, .mov (.t 6), none⟩,
          ⟨some 39, .iaddr (some 2) (.t 37) (.t 38), none⟩,
          ⟨some 40, .load (some 2) (.t 39), none⟩,
          ⟨some 41, .mov (.t 0), none⟩,
          ⟨some 42, .mov (.t 1), none⟩,
          ⟨some 43, .iaddr (some 2) (.t 41) (.t 42), none⟩,
          ⟨some 44, .load (some 2) (.t 43), none⟩,
          ⟨some 45, .call false 54 [(.t 40), (.t 44)], none⟩,
          ⟨some 46, .un .not (.t 45), none⟩])
       (.cond (.t 46)
       (.seq (.seq (.ops true [
              ⟨some 47, .mov (.t 0), none⟩,
              ⟨some 48, .mov (.t 6), none⟩,
              ⟨some 49, .iaddr (some 2) (.t 47) (.t 48), none⟩,
              ⟨some 50, .load (some 2) (.t 49), none⟩,
              ⟨some 51, .mov (.t 0), none⟩,
              ⟨some 52, .mov (.t 1), none⟩,
              ⟨some 53, .iaddr (some 2) (.t 51) (.t 52), none⟩,
              ⟨some 54, .load (some 2) (.t 53), none⟩,
              ⟨some 55, .call false 36 [(.t 50), (.t 54)], none⟩,
              ⟨some 56, .un .not (.t 55), none⟩])
           (.cond (.t 56)
           (.seq (.ops false [
                ⟨some 4, .mov (.c (.bool false)), none⟩])
             (.ret))
           (.skip)))
         (.exit 3))
       (.skip)))
     (.seq (.ops true [
        ⟨some 57, .mov (.t 0), none⟩,
        ⟨some 58, .mov (.t 6), none⟩,
        ⟨some 59, .iaddr (some 2) (.t 57) (.t 58), none⟩,
        ⟨some 60, .load (some 2) (.t 59), none⟩,
        ⟨some 61, .mov (.t 0), none⟩,
        ⟨some 62, .mov (.t 1), none⟩,
        ⟨some 63, .iaddr (some 2) (.t 61) (.t 62), none⟩,
        ⟨some 64, .load (some 2) (.t 63), none⟩,
        ⟨some 65, .call false 53 [(.t 60), (.t 64)], none⟩])
     (.cond (.t 65)
     (.seq (.ops false [
          ⟨some 4, .mov (.c (.bool true)), none⟩])
       (.ret))
     (.skip)))))
   (.ops false [
    ⟨some 35, .mov (.t 6), none⟩,
    ⟨some 36, .bin .add (.t 35) (.c (.int .i64 1)), none⟩,
    ⟨some 6, .mov (.t 36), none⟩])))

/-- pointsman/pointsmanref26.Idle -/
def a34 : AFn := .mk 66
 (.seq (.ops false [
      ⟨some 4, .mov (.c (.bool false)), none⟩])
   (.seq (.seq (.ops false [
        ⟨some 7, .mov (.t 1), none⟩,
        ⟨some 8, .bin .lss (.t 7) (.c (.int .i64 0)), none⟩,
        ⟨some 9, .mov (.t 8), none⟩,
        ⟨some 10, .mov (.t 1), some (9, false)⟩,
        ⟨some 11, .mov (.t 0), some (9, false)⟩,
        ⟨some 12, .len (.t 11), some (9, false)⟩,
        ⟨some 13, .bin .geq (.t 10) (.t 12), some (9, false)⟩,
        ⟨some 14, .pick (.t 9) (.c (.bool true)) (.t 13), none⟩])
     (.cond (.t 14)
     (.seq (.ops false [
          ⟨some 4, .mov (.c (.bool false)), none⟩])
       (.ret))
     (.skip)))
   (.seq (.seq (.ops false [
        ⟨some 5, .mov (.c (.int .i64 0)), none⟩])
     (.block 0 (.loop b34_0)))
   (.seq (.seq (.ops false [
        ⟨some 29, .mov (.t 1), none⟩,
        ⟨some 30, .bin .add (.t 29) (.c (.int .i64 1)), none⟩,
        ⟨some 6, .mov (.t 30), none⟩])
     (.block 2 (.loop b34_1)))
   (.seq (.ops false [
      ⟨some 4, .mov (.c (.bool false)), none⟩])
   (.ret))))))
 [.t 4]

set_option maxRecDepth 100000 in
theorem ok34 : chkFn Try.prog 34 a34 = true := by kernel_rfl

def b39_0 : ACode :=
  (.seq (.seq (.ops false [
        ⟨some 8, .mov (.t 3), none⟩,
        ⟨some 9, .bin .geq (.t 8) (.c (.int .i64 0)), none⟩])
     (.cond (.t 9)
     (.skip)
     (.exit 0)))
   (.seq (.block 1 (.seq (.ops false [
        ⟨some 12, .mov (.t 0), none⟩,
        ⟨some 13, .mov (.t 3), none⟩,
        ⟨some 14, .call false 34 [(.t 12), (.t 13)], none⟩])
     (.cond (.t 14)
     (.seq (.ops false [
          ⟨some 4, .mov (.c (.nils)), none⟩])
       (.seq (.ops false [
          ⟨some 15, .mov (.t 4), none⟩,
          ⟨some 16, .mov (.t 0), none⟩,
          ⟨some 17, .mov (.t 3), none⟩,
          ⟨some 18, .slc (some 2) (.t 16) none (some (.t 17)), none⟩,
          ⟨some 19, .append (some 2) (.t 15) (.t 18) false, none⟩,
          ⟨some 4, .mov (.t 19), none⟩])
       (.seq (.ops false [
          ⟨some 20, .mov (.t 4), none⟩,
          ⟨some 21, .mov (.t 0), none⟩,
          ⟨some 22, .mov (.t 3), none⟩,
          ⟨some 23, .bin .add (.t 22) (.c (.int .i64 1)), none⟩,
          ⟨some 24, .slc (some 2) (.t 21) (some (.t 23)) none, none⟩,
          ⟨some 25, .append (some 2) (.t 20) (.t 24) false, none⟩,
          ⟨some 26, .call false 39 [(.t 25)], none⟩,
          ⟨some 2, .mov (.t 26), none⟩])
       (.ret))))
     (.skip))))
   (.ops false [
    ⟨some 10, .mov (.t 3), none⟩,
    ⟨some 11, .bin .sub (.t 10) (.c (.int .i64 1)), none⟩,
    ⟨some 3, .mov (.t 11), none⟩])))

/-- pointsman/pointsmanref26.Slim -/
def a39 : AFn := .mk 28
 (.seq (.ops false [
      ⟨some 2, .mov (.c (.vec (some 2) [])), none⟩])
   (.seq (.seq (.ops false [
        ⟨some 5, .mov (.t 0), none⟩,
        ⟨some 6, .len (.t 5), none⟩,
        ⟨some 7, .bin .sub (.t 6) (.c (.int .i64 1)), none⟩,
        ⟨some 3, .mov (.t 7), none⟩])
     (.block 0 (.loop b39_0)))
   (.seq (.ops false [
      ⟨some 27, .mov (.t 0), none⟩,
      ⟨some 2, .mov (.t 27), none⟩])
   (.ret))))
 [.t 2]

set_option maxRecDepth 100000 in
theorem ok39 : chkFn Try.prog 39 a39 = true := by kernel_rfl

def b9_0 : ACode :=
  (.seq (.seq (.ops false [
        ⟨some 23, .mov (.t 3), none⟩,
        ⟨some 24, .mov (.t 0), none⟩,
        ⟨some 25, .len (.t 24), none⟩,
        ⟨some 26, .bin .leq (.t 23) (.t 25), none⟩])
     (.cond (.t 26)
     (.skip)
     (.exit 0)))
   (.seq (.block 1 (.seq (.ops false [
        ⟨some 29, .mov (.t 0), none⟩,
        ⟨some 30, .mov (.t 3), none⟩,
        ⟨some 31, .call false 33 [(.t 29), (.t 30)], none⟩,
        ⟨some 32, .mov (.t 0), none⟩,
        ⟨some 33, .mov (.t 3), none⟩,
        ⟨some 34, .call false 34 [(.t 32), (.t 33)], none⟩,
        ⟨some 35, .eqB true (.t 31) (.t 34), none⟩])
     (.cond (.t 35)
     (.seq (.ops false [
          ⟨some 2, .mov (.c (.bool false)), none⟩])
       (.ret))
     (.skip))))
   (.ops false [
    ⟨some 27, .mov (.t 3), none⟩,
    ⟨some 28, .bin .add (.t 27) (.c (.int .i64 1)), none⟩,
    ⟨some 3, .mov (.t 28), none⟩])))

def b9_2 : ACode :=
  (.seq (.ops false [
      ⟨some 45, .bin .lss (.t 44) (.t 43), none⟩])
   (.seq (.cond (.t 45)
     (.skip)
     (.exit 4))
   (.seq (.block 5 (.seq (.ops false [
        ⟨some 46, .iaddr (some 2) (.t 42) (.t 44), none⟩,
        ⟨some 47, .load (some 2) (.t 46), none⟩,
        ⟨some 7, .alloc [.vec (some 2) [], .vec none []], none⟩,
        ⟨none, .store (some 2) (.t 7) (.t 47), none⟩])
     (.seq (.ops true [
        ⟨some 48, .load (some 2) (.t 5), none⟩,
        ⟨some 49, .load (some 2) (.t 7), none⟩,
        ⟨some 50, .call false 35 [(.t 48), (.t 49)], none⟩,
        ⟨some 51, .load (some 2) (.t 5), none⟩,
        ⟨some 52, .load (some 2) (.t 7), none⟩,
        ⟨some 53, .call false 36 [(.t 51), (.t 52)], none⟩,
        ⟨some 54, .eqB true (.t 50) (.t 53), none⟩])
     (.cond (.t 54)
     (.seq (.ops false [
          ⟨some 2, .mov (.c (.bool false)), none⟩])
       (.ret))
     (.skip)))))
   (.ops false [
    ⟨some 55, .bin .add (.t 44) (.c (.int .i64 1)), none⟩,
    ⟨some 44, .mov (.t 55), none⟩]))))

def b9_1 : ACode :=
  (.seq (.ops false [
      ⟨some 39, .bin .lss (.t 38) (.t 37), none⟩])
   (.seq (.cond (.t 39)
     (.skip)
     (.exit 2))
   (.seq (.block 3 (.seq (.ops false [
        ⟨some 40, .iaddr (some 2) (.t 36) (.t 38), none⟩,
        ⟨some 41, .load (some 2) (.t 40), none⟩,
        ⟨some 5, .alloc [.vec (some 2) [], .vec none []], none⟩,
        ⟨none, .store (some 2) (.t 5) (.t 41), none⟩])
     (.seq (.ops false [
        ⟨some 42, .mov (.t 0), none⟩,
        ⟨some 43, .len (.t 42), none⟩,
        ⟨some 44, .mov (.c (.int .i64 0)), none⟩])
     (.block 4 (.loop b9_2)))))
   (.ops false [
    ⟨some 56, .bin .add (.t 38) (.c (.int .i64 1)), none⟩,
    ⟨some 38, .mov (.t 56), none⟩]))))

/-- pointsman/pointsmanlaw26.SlimTells -/
def a9 : AFn := .mk 62
 (.seq (.ops false [
      ⟨some 2, .mov (.c (.bool false)), none⟩])
   (.seq (.seq (.ops false [
        ⟨some 8, .call false 30 [], none⟩,
        ⟨some 9, .un .not (.t 8), none⟩])
     (.cond (.t 9)
     (.seq (.ops false [
          ⟨some 2, .mov (.c (.bool false)), none⟩])
       (.ret))
     (.skip)))
   (.seq (.seq (.ops false [
        ⟨some 10, .mov (.t 0), none⟩,
        ⟨some 11, .len (.t 10), none⟩,
        ⟨some 12, .bin .gtr (.t 11) (.c (.int .i64 14)), none⟩,
        ⟨some 13, .mov (.t 12), none⟩,
        ⟨some 14, .mov (.t 0), some (13, false)⟩,
        ⟨some 15, .call false 31 [(.t 14)], some (13, false)⟩,
        ⟨some 16, .un .not (.t 15), some (13, false)⟩,
        ⟨some 17, .pick (.t 13) (.c (.bool true)) (.t 16), none⟩,
        ⟨some 18, .mov (.t 17), none⟩,
        ⟨some 19, .mov (.t 0), some (18, false)⟩,
        ⟨some 20, .call false 32 [(.t 19)], some (18, false)⟩,
        ⟨some 21, .un .not (.t 20), some (18, false)⟩,
        ⟨some 22, .pick (.t 18) (.c (.bool true)) (.t 21), none⟩])
     (.cond (.t 22)
     (.seq (.ops false [
          ⟨some 2, .mov (.c (.bool true)), none⟩])
       (.ret))
     (.skip)))
   (.seq (.seq (.ops false [
        ⟨some 3, .mov (.c (.int .i64 (-1))), none⟩])
     (.block 0 (.loop b9_0)))
   (.seq (.seq (.ops false [
        ⟨some 36, .mov (.t 0), none⟩,
        ⟨some 37, .len (.t 36), none⟩,
        ⟨some 38, .mov (.c (.int .i64 0)), none⟩])
     (.block 2 (.loop b9_1)))
   (.seq (.ops false [
      ⟨some 57, .mov (.t 0), none⟩,
      ⟨some 58, .call false 38 [(.t 57)], none⟩,
      ⟨some 59, .mov (.t 0), none⟩,
      ⟨some 60, .call false 39 [(.t 59)], none⟩,
      ⟨some 61, .call false 37 [(.t 58), (.t 60)], none⟩,
      ⟨some 2, .mov (.t 61), none⟩])
   (.ret)))))))
 [.t 2]

set_option maxRecDepth 100000 in
theorem ok9 : chkFn Try.prog 9 a9 = true := by kernel_rfl

def b61_0 : ACode :=
  (.seq (.seq (.ops false [
        ⟨some 6, .mov (.t 5), none⟩,
        ⟨some 7, .mov (.t 1), none⟩,
        ⟨some 8, .len (.t 7), none⟩,
        ⟨some 9, .bin .lss (.t 6) (.t 8), none⟩])
     (.cond (.t 9)
     (.skip)
     (.exit 0)))
   (.seq (.block 1 (.seq (.ops true [
        ⟨some 12, .mov (.t 1), none⟩,
        ⟨some 13, .mov (.t 5), none⟩,
        ⟨some 14, .iaddr (some 2) (.t 12) (.t 13), none⟩,
        ⟨some 15, .faddr 0 (.t 14), none⟩,
        ⟨some 16, .load none (.t 15), none⟩,
        ⟨some 17, .bin .lss (.t 16) (.c (.int .i64 0)), none⟩,
        ⟨some 18, .mov (.t 17), none⟩,
        ⟨some 19, .mov (.t 1), some (18, false)⟩,
        ⟨some 20, .mov (.t 5), some (18, false)⟩,
        ⟨some 21, .iaddr (some 2) (.t 19) (.t 20), some (18, false)⟩,
        ⟨some 22, .faddr 0 (.t 21), some (18, false)⟩,
        ⟨some 23, .load none (.t 22), some (18, false)⟩,
        ⟨some 24, .bin .gtr (.t 23) (.c (.int .i64 7)), some (18, false)⟩,
        ⟨some 25, .pick (.t 18) (.c (.bool true)) (.t 24), none⟩,
        ⟨some 26, .mov (.t 25), none⟩,
        ⟨some 27, .mov (.t 1), some (26, false)⟩,
        ⟨some 28, .mov (.t 5), some (26, false)⟩,
        ⟨some 29, .iaddr (some 2) (.t 27) (.t 28), some (26, false)⟩,
        ⟨some 30, .faddr 0 (.t 29), some (26, false)⟩,
        ⟨some 31, .load none (.t 30), some (26, false)⟩,
        ⟨some 32, .iaddrA 8 none (.t 2) (.t 31), some (26, false)⟩,
        ⟨some 33, .ldI none (.t 32), some (26, false)⟩,
        ⟨some 34, .mov (.t 1), some (26, false)⟩,
        ⟨some 35, .mov (.t 5), some (26, false)⟩,
        ⟨some 36, .iaddr (some 2) (.t 34) (.t 35), some (26, false)⟩,
        ⟨some 37, .faddr 1 (.t 36), some (26, false)⟩,
        ⟨some 38, .load none (.t 37), some (26, false)⟩,
        ⟨some 39, .bin .neq (.t 33) (.t 38), some (26, false)⟩,
        ⟨some 40, .pick (.t 26) (.c (.bool true)) (.t 39), none⟩])
     (.cond (.t 40)
     (.seq (.ops false [
          ⟨some 4, .mov (.c (.bool false)), none⟩])
       (.ret))
     (.skip))))
   (.ops false [
    ⟨some 10, .mov (.t 5), none⟩,
    ⟨some 11, .bin .add (.t 10) (.c (.int .i64 1)), none⟩,
    ⟨some 5, .mov (.t 11), none⟩])))

/-- pointsman/pointsmanref01.Has -/
def a61 : AFn := .mk 41
 (.seq (.ops false [
      ⟨some 2, .box (some 8) (.t 0) true, none⟩,
      ⟨some 4, .mov (.c (.bool false)), none⟩])
   (.seq (.seq (.ops false [
        ⟨some 5, .mov (.c (.int .i64 0)), none⟩])
     (.block 0 (.loop b61_0)))
   (.seq (.ops false [
      ⟨some 4, .mov (.c (.bool true)), none⟩])
   (.ret))))
 [.t 4]

set_option maxRecDepth 100000 in
theorem ok61 : chkFn Try.prog 61 a61 = true := by kernel_rfl

/-- pointsman/pointsmanref01.With -/
def a77 : AFn := .mk 17
 (.seq (.ops false [
      ⟨some 3, .box (some 8) (.t 0) false, none⟩,
      ⟨some 6, .alloc [.int .u16 0, .int .u16 0, .int .u16 0, .int .u16 0, .int .u16 0, .int .u16 0, .int .u16 0, .int .u16 0], none⟩])
   (.seq (.seq (.ops false [
        ⟨some 7, .mov (.t 1), none⟩,
        ⟨some 8, .bin .geq (.t 7) (.c (.int .i64 0)), none⟩,
        ⟨some 9, .mov (.t 8), none⟩,
        ⟨some 10, .mov (.t 1), some (9, true)⟩,
        ⟨some 11, .bin .lss (.t 10) (.c (.int .i64 8)), some (9, true)⟩,
        ⟨some 12, .pick (.t 9) (.t 11) (.c (.bool false)), none⟩])
     (.cond (.t 12)
     (.ops false [
        ⟨some 13, .mov (.t 1), none⟩,
        ⟨some 14, .mov (.t 2), none⟩,
        ⟨some 15, .iaddrA 8 none (.t 3) (.t 13), none⟩,
        ⟨none, .store none (.t 15) (.t 14), none⟩])
     (.skip)))
   (.seq (.ops false [
      ⟨some 16, .load (some 8) (.t 3), none⟩,
      ⟨none, .store (some 8) (.t 6) (.t 16), none⟩])
   (.ret))))
 [.cell 6 (some 8)]

set_option maxRecDepth 100000 in
theorem ok77 : chkFn Try.prog 77 a77 = true := by kernel_rfl

def b70_0 : ACode :=
  (.seq (.seq (.ops false [
        ⟨some 6, .mov (.t 5), none⟩,
        ⟨some 7, .mov (.t 1), none⟩,
        ⟨some 8, .len (.t 7), none⟩,
        ⟨some 9, .bin .lss (.t 6) (.t 8), none⟩])
     (.cond (.t 9)
     (.skip)
     (.exit 0)))
   (.seq (.block 1 (.ops true [
      ⟨some 12, .load (some 8) (.t 2), none⟩,
      ⟨some 13, .mov (.t 1), none⟩,
      ⟨some 14, .mov (.t 5), none⟩,
      ⟨some 15, .iaddr (some 2) (.t 13) (.t 14), none⟩,
      ⟨some 16, .faddr 0 (.t 15), none⟩,
      ⟨some 17, .load none (.t 16), none⟩,
      ⟨some 18, .mov (.t 1), none⟩,
      ⟨some 19, .mov (.t 5), none⟩,
      ⟨some 20, .iaddr (some 2) (.t 18) (.t 19), none⟩,
      ⟨some 21, .faddr 1 (.t 20), none⟩,
      ⟨some 22, .load none (.t 21), none⟩,
      ⟨some 23, .call false 77 [(.t 12), (.t 17), (.t 22)], none⟩,
      ⟨none, .store (some 8) (.t 2) (.t 23), none⟩]))
   (.ops false [
    ⟨some 10, .mov (.t 5), none⟩,
    ⟨some 11, .bin .add (.t 10) (.c (.int .i64 1)), none⟩,
    ⟨some 5, .mov (.t 11), none⟩])))

/-- pointsman/pointsmanref01.Do -/
def a70 : AFn := .mk 25
 (.seq (.ops false [
      ⟨some 2, .box (some 8) (.t 0) false, none⟩,
      ⟨some 4, .alloc [.int .u16 0, .int .u16 0, .int .u16 0, .int .u16 0, .int .u16 0, .int .u16 0, .int .u16 0, .int .u16 0], none⟩])
   (.seq (.seq (.ops false [
        ⟨some 5, .mov (.c (.int .i64 0)), none⟩])
     (.block 0 (.loop b70_0)))
   (.seq (.ops false [
      ⟨some 24, .load (some 8) (.t 2), none⟩,
      ⟨none, .store (some 8) (.t 4) (.t 24), none⟩])
   (.ret))))
 [.cell 4 (some 8)]

set_option maxRecDepth 100000 in
theorem ok70 : chkFn Try.prog 70 a70 = true := by kernel_rfl

def b76_0 : ACode :=
  (.seq (.seq (.ops false [
        ⟨some 6, .mov (.t 5), none⟩,
        ⟨some 7, .bin .lss (.t 6) (.c (.int .i64 8)), none⟩])
     (.cond (.t 7)
     (.skip)
     (.exit 0)))
   (.seq (.block 1 (.seq (.seq (.ops true [
          ⟨some 10, .mov (.t 5), none⟩,
          ⟨some 11, .iaddrA 8 none (.t 2) (.t 10), none⟩,
          ⟨some 12, .ldI none (.t 11), none⟩,
          ⟨some 13, .mov (.t 5), none⟩,
          ⟨some 14, .iaddrA 8 none (.t 3) (.t 13), none⟩,
          ⟨some 15, .ldI none (.t 14), none⟩,
          ⟨some 16, .bin .lss (.t 12) (.t 15), none⟩])
       (.cond (.t 16)
       (.seq (.ops false [
            ⟨some 4, .mov (.c (.int .i64 (-1))), none⟩])
         (.ret))
       (.skip)))
     (.seq (.ops true [
        ⟨some 17, .mov (.t 5), none⟩,
        ⟨some 18, .iaddrA 8 none (.t 2) (.t 17), none⟩,
        ⟨some 19, .ldI none (.t 18), none⟩,
        ⟨some 20, .mov (.t 5), none⟩,
        ⟨some 21, .iaddrA 8 none (.t 3) (.t 20), none⟩,
        ⟨some 22, .ldI none (.t 21), none⟩,
        ⟨some 23, .bin .gtr (.t 19) (.t 22), none⟩])
     (.cond (.t 23)
     (.seq (.ops false [
          ⟨some 4, .mov (.c (.int .i64 1)), none⟩])
       (.ret))
     (.skip)))))
   (.ops false [
    ⟨some 8, .mov (.t 5), none⟩,
    ⟨some 9, .bin .add (.t 8) (.c (.int .i64 1)), none⟩,
    ⟨some 5, .mov (.t 9), none⟩])))

/-- pointsman/pointsmanref01.Compare -/
def a76 : AFn := .mk 24
 (.seq (.ops false [
      ⟨some 2, .box (some 8) (.t 0) true, none⟩,
      ⟨some 3, .box (some 8) (.t 1) true, none⟩,
      ⟨some 4, .mov (.c (.int .i64 0)), none⟩])
   (.seq (.seq (.ops false [
        ⟨some 5, .mov (.c (.int .i64 0)), none⟩])
     (.block 0 (.loop b76_0)))
   (.seq (.ops false [
      ⟨some 4, .mov (.c (.int .i64 0)), none⟩])
   (.ret))))
 [.t 4]

set_option maxRecDepth 100000 in
theorem ok76 : chkFn Try.prog 76 a76 = true := by kernel_rfl

def b69_0 : ACode :=
  (.seq (.seq (.ops false [
        ⟨some 9, .mov (.t 7), none⟩,
        ⟨some 10, .mov (.t 0), none⟩,
        ⟨some 11, .len (.t 10), none⟩,
        ⟨some 12, .bin .lss (.t 9) (.t 11), none⟩])
     (.cond (.t 12)
     (.skip)
     (.exit 0)))
   (.seq (.block 1 (.seq (.ops true [
        ⟨some 15, .ldI (some 8) (.t 3), none⟩,
        ⟨some 16, .mov (.t 0), none⟩,
        ⟨some 17, .mov (.t 7), none⟩,
        ⟨some 18, .iaddr (some 8) (.t 16) (.t 17), none⟩,
        ⟨some 19, .load (some 8) (.t 18), none⟩,
        ⟨some 20, .call false 76 [(.t 15), (.t 19)], none⟩,
        ⟨some 8, .mov (.t 20), none⟩])
     (.seq (.seq (.ops false [
          ⟨some 21, .mov (.t 6), none⟩,
          ⟨some 22, .un .not (.t 21), none⟩,
          ⟨some 23, .mov (.t 22), none⟩,
          ⟨some 24, .mov (.t 8), some (23, true)⟩,
          ⟨some 25, .bin .leq (.t 24) (.c (.int .i64 0)), some (23, true)⟩,
          ⟨some 26, .pick (.t 23) (.t 25) (.c (.bool false)), none⟩])
       (.cond (.t 26)
       (.seq (.ops false [
            ⟨some 27, .mov (.t 5), none⟩,
            ⟨some 28, .ldI (some 8) (.t 3), none⟩,
            ⟨some 29, .bsliceI (some 8) [(.t 28)], none⟩,
            ⟨some 30, .append (some 8) (.t 27) (.t 29) false, none⟩,
            ⟨some 5, .mov (.t 30), none⟩])
         (.ops false [
          ⟨some 6, .mov (.c (.bool true)), none⟩]))
       (.skip)))
     (.seq (.ops false [
        ⟨some 31, .mov (.t 8), none⟩,
        ⟨some 32, .bin .neq (.t 31) (.c (.int .i64 0)), none⟩])
     (.cond (.t 32)
     (.ops false [
        ⟨some 33, .mov (.t 5), none⟩,
        ⟨some 34, .mov (.t 0), none⟩,
        ⟨some 35, .mov (.t 7), none⟩,
        ⟨some 36, .iaddr (some 8) (.t 34) (.t 35), none⟩,
        ⟨some 37, .load (some 8) (.t 36), none⟩,
        ⟨some 38, .bsliceI (some 8) [(.t 37)], none⟩,
        ⟨some 39, .append (some 8) (.t 33) (.t 38) false, none⟩,
        ⟨some 5, .mov (.t 39), none⟩])
     (.skip))))))
   (.ops false [
    ⟨some 13, .mov (.t 7), none⟩,
    ⟨some 14, .bin .add (.t 13) (.c (.int .i64 1)), none⟩,
    ⟨some 7, .mov (.t 14), none⟩])))

/-- pointsman/pointsmanref01.Add -/
def a69 : AFn := .mk 47
 (.seq (.ops false [
      ⟨some 3, .box (some 8) (.t 1) true, none⟩,
      ⟨some 4, .mov (.c (.vec (some 8) [])), none⟩])
   (.seq (.ops false [
      ⟨some 5, .mov (.c (.nils)), none⟩])
   (.seq (.ops false [
      ⟨some 6, .mov (.c (.bool false)), none⟩])
   (.seq (.seq (.ops false [
        ⟨some 7, .mov (.c (.int .i64 0)), none⟩])
     (.block 0 (.loop b69_0)))
   (.seq (.seq (.ops false [
        ⟨some 40, .mov (.t 6), none⟩,
        ⟨some 41, .un .not (.t 40), none⟩])
     (.cond (.t 41)
     (.ops false [
        ⟨some 42, .mov (.t 5), none⟩,
        ⟨some 43, .ldI (some 8) (.t 3), none⟩,
        ⟨some 44, .bsliceI (some 8) [(.t 43)], none⟩,
        ⟨some 45, .append (some 8) (.t 42) (.t 44) false, none⟩,
        ⟨some 5, .mov (.t 45), none⟩])
     (.skip)))
   (.seq (.ops false [
      ⟨some 46, .mov (.t 5), none⟩,
      ⟨some 4, .mov (.t 46), none⟩])
   (.ret)))))))
 [.t 4]

set_option maxRecDepth 100000 in
theorem ok69 : chkFn Try.prog 69 a69 = true := by kernel_rfl

def b62_1 : ACode :=
  (.seq (.seq (.ops false [
        ⟨some 22, .mov (.t 8), none⟩,
        ⟨some 23, .mov (.t 0), none⟩,
        ⟨some 24, .mov (.t 6), none⟩,
        ⟨some 25, .iaddr (some 2) (.t 23) (.t 24), none⟩,
        ⟨some 26, .faddr 1 (.t 25), none⟩,
        ⟨some 27, .load none (.t 26), none⟩,
        ⟨some 28, .len (.t 27), none⟩,
        ⟨some 29, .bin .lss (.t 22) (.t 28), none⟩])
     (.cond (.t 29)
     (.skip)
     (.exit 2)))
   (.seq (.block 3 (.ops true [
      ⟨some 32, .mov (.t 7), none⟩,
      ⟨some 33, .ldI (some 8) (.t 3), none⟩,
      ⟨some 34, .mov (.t 0), none⟩,
      ⟨some 35, .mov (.t 6), none⟩,
      ⟨some 36, .iaddr (some 2) (.t 34) (.t 35), none⟩,
      ⟨some 37, .faddr 1 (.t 36), none⟩,
      ⟨some 38, .load none (.t 37), none⟩,
      ⟨some 39, .mov (.t 8), none⟩,
      ⟨some 40, .iaddr none (.t 38) (.t 39), none⟩,
      ⟨some 41, .load none (.t 40), none⟩,
      ⟨some 42, .call false 70 [(.t 33), (.t 41)], none⟩,
      ⟨some 43, .call false 69 [(.t 32), (.t 42)], none⟩,
      ⟨some 7, .mov (.t 43), none⟩]))
   (.ops false [
    ⟨some 30, .mov (.t 8), none⟩,
    ⟨some 31, .bin .add (.t 30) (.c (.int .i64 1)), none⟩,
    ⟨some 8, .mov (.t 31), none⟩])))

def b62_0 : ACode :=
  (.seq (.seq (.ops false [
        ⟨some 9, .mov (.t 6), none⟩,
        ⟨some 10, .mov (.t 0), none⟩,
        ⟨some 11, .len (.t 10), none⟩,
        ⟨some 12, .bin .lss (.t 9) (.t 11), none⟩])
     (.cond (.t 12)
     (.skip)
     (.exit 0)))
   (.seq (.block 1 (.seq (.ops true [
        ⟨some 15, .ldI (some 8) (.t 3), none⟩,
        ⟨some 16, .mov (.t 0), none⟩,
        ⟨some 17, .mov (.t 6), none⟩,
        ⟨some 18, .iaddr (some 2) (.t 16) (.t 17), none⟩,
        ⟨some 19, .faddr 0 (.t 18), none⟩,
        ⟨some 20, .load none (.t 19), none⟩,
        ⟨some 21, .call false 61 [(.t 15), (.t 20)], none⟩])
     (.cond (.t 21)
     (.seq (.ops false [
          ⟨some 7, .mov (.c (.vec (some 8) [])), none⟩])
       (.seq (.seq (.ops false [
            ⟨some 8, .mov (.c (.int .i64 0)), none⟩])
         (.block 2 (.loop b62_1)))
       (.seq (.ops false [
          ⟨some 44, .mov (.t 7), none⟩,
          ⟨some 4, .mov (.t 44), none⟩,
          ⟨some 5, .mov (.c (.bool true)), none⟩])
       (.ret))))
     (.skip))))
   (.ops false [
    ⟨some 13, .mov (.t 6), none⟩,
    ⟨some 14, .bin .add (.t 13) (.c (.int .i64 1)), none⟩,
    ⟨some 6, .mov (.t 14), none⟩])))

/-- pointsman/pointsmanref08.Rows -/
def a62 : AFn := .mk 45
 (.seq (.ops false [
      ⟨some 3, .box (some 8) (.t 1) true, none⟩,
      ⟨some 4, .mov (.c (.vec (some 8) [])), none⟩,
      ⟨some 5, .mov (.c (.bool false)), none⟩])
   (.seq (.seq (.ops false [
        ⟨some 6, .mov (.c (.int .i64 0)), none⟩])
     (.block 0 (.loop b62_0)))
   (.seq (.ops false [
      ⟨some 4, .mov (.c (.vec (some 8) [])), none⟩,
      ⟨some 5, .mov (.c (.bool false)), none⟩])
   (.ret))))
 [.t 4, .t 5]

set_option maxRecDepth 100000 in
theorem ok62 : chkFn Try.prog 62 a62 = true := by kernel_rfl

def b40_0 : ACode :=
  (.seq (.seq (.ops false [
        ⟨some 9, .mov (.t 6), none⟩,
        ⟨some 10, .mov (.t 0), none⟩,
        ⟨some 11, .len (.t 10), none⟩,
        ⟨some 12, .bin .lss (.t 9) (.t 11), none⟩])
     (.cond (.t 12)
     (.skip)
     (.exit 0)))
   (.seq (.block 1 (.seq (.ops true [
        ⟨some 15, .ldI (some 8) (.t 3), none⟩,
        ⟨some 16, .mov (.t 0), none⟩,
        ⟨some 17, .mov (.t 6), none⟩,
        ⟨some 18, .iaddr (some 2) (.t 16) (.t 17), none⟩,
        ⟨some 19, .faddr 0 (.t 18), none⟩,
        ⟨some 20, .load none (.t 19), none⟩,
        ⟨some 21, .call false 61 [(.t 15), (.t 20)], none⟩])
     (.cond (.t 21)
     (.seq (.ops true [
          ⟨some 23, .mov (.t 0), none⟩,
          ⟨some 24, .mov (.t 6), none⟩,
          ⟨some 25, .mov (.t 6), none⟩,
          ⟨some 26, .bin .add (.t 25) (.c (.int .i64 1)), none⟩,
          ⟨some 27, .slc (some 2) (.t 23) (some (.t 24)) (some (.t 26)), none⟩,
          ⟨some 28, .ldI (some 8) (.t 3), none⟩,
          ⟨some 29, .call false 62 [(.t 27), (.t 28)], none⟩,
          ⟨some 22, .mov (.t 29), none⟩,
          ⟨some 30, .extract (.t 22) 0, none⟩,
          ⟨some 31, .extract (.t 22) 1, none⟩,
          ⟨some 7, .mov (.t 30), none⟩,
          ⟨some 8, .mov (.t 31), none⟩])
       (.seq (.ops false [
          ⟨some 32, .mov (.t 7), none⟩,
          ⟨some 33, .mov (.t 6), none⟩,
          ⟨some 4, .mov (.t 32), none⟩,
          ⟨some 5, .mov (.t 33), none⟩])
       (.ret)))
     (.skip))))
   (.ops false [
    ⟨some 13, .mov (.t 6), none⟩,
    ⟨some 14, .bin .add (.t 13) (.c (.int .i64 1)), none⟩,
    ⟨some 6, .mov (.t 14), none⟩])))

/-- pointsman/pointsmanref09.Lookup -/
def a40 : AFn := .mk 34
 (.seq (.ops false [
      ⟨some 3, .box (some 8) (.t 1) true, none⟩,
      ⟨some 4, .mov (.c (.vec (some 8) [])), none⟩,
      ⟨some 5, .mov (.c (.int .i64 0)), none⟩])
   (.seq (.seq (.ops false [
        ⟨some 6, .mov (.c (.int .i64 0)), none⟩])
     (.block 0 (.loop b40_0)))
   (.seq (.ops false [
      ⟨some 4, .mov (.c (.vec (some 8) [])), none⟩,
      ⟨some 5, .mov (.c (.int .i64 (-1))), none⟩])
   (.ret))))
 [.t 4, .t 5]

set_option maxRecDepth 100000 in
theorem ok40 : chkFn Try.prog 40 a40 = true := by kernel_rfl

def b41_0 : ACode :=
  (.seq (.seq (.ops false [
        ⟨some 11, .mov (.t 5), none⟩,
        ⟨some 12, .mov (.t 0), none⟩,
        ⟨some 13, .len (.t 12), none⟩,
        ⟨some 14, .bin .lss (.t 11) (.t 13), none⟩])
     (.cond (.t 14)
     (.skip)
     (.exit 0)))
   (.seq (.block 1 (.seq (.ops true [
        ⟨some 17, .mov (.t 0), none⟩,
        ⟨some 18, .mov (.t 5), none⟩,
        ⟨some 19, .iaddr (some 8) (.t 17) (.t 18), none⟩,
        ⟨some 20, .load (some 8) (.t 19), none⟩,
        ⟨some 21, .mov (.t 1), none⟩,
        ⟨some 22, .mov (.t 5), none⟩,
        ⟨some 23, .iaddr (some 8) (.t 21) (.t 22), none⟩,
        ⟨some 24, .load (some 8) (.t 23), none⟩,
        ⟨some 25, .eqS true [.int, .int, .int, .int, .int, .int, .int, .int] (.t 20) (.t 24), none⟩])
     (.cond (.t 25)
     (.seq (.ops false [
          ⟨some 4, .mov (.c (.bool false)), none⟩])
       (.ret))
     (.skip))))
   (.ops false [
    ⟨some 15, .mov (.t 5), none⟩,
    ⟨some 16, .bin .add (.t 15) (.c (.int .i64 1)), none⟩,
    ⟨some 5, .mov (.t 16), none⟩])))

/-- pointsman/pointsmanref01.Same -/
def a41 : AFn := .mk 26
 (.seq (.ops false [
      ⟨some 4, .mov (.c (.bool false)), none⟩])
   (.seq (.seq (.ops false [
        ⟨some 6, .mov (.t 0), none⟩,
        ⟨some 7, .len (.t 6), none⟩,
        ⟨some 8, .mov (.t 1), none⟩,
        ⟨some 9, .len (.t 8), none⟩,
        ⟨some 10, .bin .neq (.t 7) (.t 9), none⟩])
     (.cond (.t 10)
     (.seq (.ops false [
          ⟨some 4, .mov (.c (.bool false)), none⟩])
       (.ret))
     (.skip)))
   (.seq (.seq (.ops false [
        ⟨some 5, .mov (.c (.int .i64 0)), none⟩])
     (.block 0 (.loop b41_0)))
   (.seq (.ops false [
      ⟨some 4, .mov (.c (.bool true)), none⟩])
   (.ret)))))
 [.t 4]

set_option maxRecDepth 100000 in
theorem ok41 : chkFn Try.prog 41 a41 = true := by kernel_rfl

def b10_0 : ACode :=
  (.seq (.ops false [
      ⟨some 63, .bin .lss (.t 62) (.t 61), none⟩])
   (.seq (.cond (.t 63)
     (.skip)
     (.exit 0))
   (.seq (.block 1 (.seq (.ops false [
        ⟨some 64, .iaddr (some 2) (.t 60) (.t 62), none⟩,
        ⟨some 65, .load (some 2) (.t 64), none⟩,
        ⟨some 9, .alloc [.vec (some 2) [], .vec none []], none⟩,
        ⟨none, .store (some 2) (.t 9) (.t 65), none⟩])
     (.seq (.ops true [
        ⟨some 66, .mov (.t 7), none⟩,
        ⟨some 67, .mov (.t 6), none⟩,
        ⟨some 68, .len (.t 67), none⟩,
        ⟨some 69, .bin .lss (.t 66) (.t 68), none⟩,
        ⟨some 70, .mov (.t 69), none⟩,
        ⟨some 71, .load (some 2) (.t 9), some (70, true)⟩,
        ⟨some 72, .bsliceI (some 2) [(.t 71)], some (70, true)⟩,
        ⟨some 73, .mov (.t 6), some (70, true)⟩,
        ⟨some 74, .mov (.t 7), some (70, true)⟩,
        ⟨some 75, .mov (.t 7), some (70, true)⟩,
        ⟨some 76, .bin .add (.t 75) (.c (.int .i64 1)), some (70, true)⟩,
        ⟨some 77, .slc (some 2) (.t 73) (some (.t 74)) (some (.t 76)), some (70, true)⟩,
        ⟨some 78, .call false 37 [(.t 72), (.t 77)], some (70, true)⟩,
        ⟨some 79, .pick (.t 70) (.t 78) (.c (.bool false)), none⟩])
     (.cond (.t 79)
     (.ops false [
        ⟨some 80, .mov (.t 7), none⟩,
        ⟨some 81, .bin .add (.t 80) (.c (.int .i64 1)), none⟩,
        ⟨some 7, .mov (.t 81), none⟩])
     (.skip)))))
   (.ops false [
    ⟨some 82, .bin .add (.t 62) (.c (.int .i64 1)), none⟩,
    ⟨some 62, .mov (.t 82), none⟩]))))

def b10_1 : ACode :=
  (.seq (.ops false [
      ⟨some 90, .bin .lss (.t 89) (.t 88), none⟩])
   (.seq (.cond (.t 90)
     (.skip)
     (.exit 2))
   (.seq (.block 3 (.seq (.ops false [
        ⟨some 91, .mov (.t 89), none⟩,
        ⟨some 10, .mov (.t 91), none⟩])
     (.seq (.ops false [
        ⟨some 92, .mov (.t 6), none⟩,
        ⟨some 93, .mov (.t 10), none⟩,
        ⟨some 94, .call false 33 [(.t 92), (.t 93)], none⟩])
     (.cond (.t 94)
     (.seq (.ops false [
          ⟨some 4, .mov (.c (.bool false)), none⟩])
       (.ret))
     (.skip)))))
   (.ops false [
    ⟨some 95, .bin .add (.t 89) (.c (.int .i64 1)), none⟩,
    ⟨some 89, .mov (.t 95), none⟩]))))

def b10_2 : ACode :=
  (.seq (.ops false [
      ⟨some 99, .bin .lss (.t 98) (.t 97), none⟩])
   (.seq (.cond (.t 99)
     (.skip)
     (.exit 4))
   (.seq (.block 5 (.seq (.ops false [
        ⟨some 100, .iaddr (some 8) (.t 96) (.t 98), none⟩,
        ⟨some 101, .load (some 8) (.t 100), none⟩,
        ⟨some 12, .alloc [.int .u16 0, .int .u16 0, .int .u16 0, .int .u16 0, .int .u16 0, .int .u16 0, .int .u16 0, .int .u16 0], none⟩,
        ⟨none, .store (some 8) (.t 12) (.t 101), none⟩])
     (.seq (.ops false [
        ⟨some 103, .mov (.t 0), none⟩,
        ⟨some 104, .load (some 8) (.t 12), none⟩,
        ⟨some 105, .call false 40 [(.t 103), (.t 104)], none⟩,
        ⟨some 102, .mov (.t 105), none⟩,
        ⟨some 106, .extract (.t 102) 0, none⟩,
        ⟨some 107, .extract (.t 102) 1, none⟩,
        ⟨some 13, .mov (.t 106), none⟩,
        ⟨some 14, .mov (.t 107), none⟩])
     (.seq (.ops false [
        ⟨some 109, .mov (.t 6), none⟩,
        ⟨some 110, .load (some 8) (.t 12), none⟩,
        ⟨some 111, .call false 40 [(.t 109), (.t 110)], none⟩,
        ⟨some 108, .mov (.t 111), none⟩,
        ⟨some 112, .extract (.t 108) 0, none⟩,
        ⟨some 113, .extract (.t 108) 1, none⟩,
        ⟨some 15, .mov (.t 112), none⟩,
        ⟨some 16, .mov (.t 113), none⟩])
     (.seq (.ops false [
        ⟨some 114, .mov (.t 13), none⟩,
        ⟨some 115, .mov (.t 15), none⟩,
        ⟨some 116, .call false 41 [(.t 114), (.t 115)], none⟩,
        ⟨some 117, .un .not (.t 116), none⟩])
     (.cond (.t 117)
     (.seq (.ops false [
          ⟨some 4, .mov (.c (.bool false)), none⟩])
       (.ret))
     (.skip)))))))
   (.ops false [
    ⟨some 118, .bin .add (.t 98) (.c (.int .i64 1)), none⟩,
    ⟨some 98, .mov (.t 118), none⟩]))))

/-- pointsman/pointsmanlaw26.SlimKeeps -/
def a10 : AFn := .mk 119
 (.seq (.ops false [
      ⟨some 4, .mov (.c (.bool false)), none⟩])
   (.seq (.seq (.ops false [
        ⟨some 17, .call false 30 [], none⟩,
        ⟨some 18, .un .not (.t 17), none⟩])
     (.cond (.t 18)
     (.seq (.ops false [
          ⟨some 4, .mov (.c (.bool false)), none⟩])
       (.ret))
     (.skip)))
   (.seq (.seq (.ops false [
        ⟨some 19, .mov (.t 0), none⟩,
        ⟨some 20, .len (.t 19), none⟩,
        ⟨some 21, .bin .gtr (.t 20) (.c (.int .i64 14)), none⟩,
        ⟨some 22, .mov (.t 21), none⟩,
        ⟨some 23, .mov (.t 1), some (22, false)⟩,
        ⟨some 24, .len (.t 23), some (22, false)⟩,
        ⟨some 25, .bin .gtr (.t 24) (.c (.int .i64 20)), some (22, false)⟩,
        ⟨some 26, .pick (.t 22) (.c (.bool true)) (.t 25), none⟩,
        ⟨some 27, .mov (.t 26), none⟩,
        ⟨some 28, .mov (.t 0), some (27, false)⟩,
        ⟨some 29, .call false 31 [(.t 28)], some (27, false)⟩,
        ⟨some 30, .un .not (.t 29), some (27, false)⟩,
        ⟨some 31, .pick (.t 27) (.c (.bool true)) (.t 30), none⟩,
        ⟨some 32, .mov (.t 31), none⟩,
        ⟨some 33, .mov (.t 0), some (32, false)⟩,
        ⟨some 34, .call false 32 [(.t 33)], some (32, false)⟩,
        ⟨some 35, .un .not (.t 34), some (32, false)⟩,
        ⟨some 36, .pick (.t 32) (.c (.bool true)) (.t 35), none⟩])
     (.cond (.t 36)
     (.seq (.ops false [
          ⟨some 4, .mov (.c (.bool true)), none⟩])
       (.ret))
     (.skip)))
   (.seq (.ops false [
      ⟨some 37, .bslice (some 2) [] false, none⟩,
      ⟨some 38, .mov (.t 0), none⟩,
      ⟨some 39, .append (some 2) (.t 37) (.t 38) false, none⟩,
      ⟨some 5, .mov (.t 39), none⟩])
   (.seq (.ops false [
      ⟨some 40, .mov (.t 0), none⟩,
      ⟨some 41, .call false 38 [(.t 40)], none⟩,
      ⟨some 6, .mov (.t 41), none⟩])
   (.seq (.seq (.ops false [
        ⟨some 42, .mov (.t 5), none⟩,
        ⟨some 43, .mov (.t 0), none⟩,
        ⟨some 44, .call false 37 [(.t 42), (.t 43)], none⟩,
        ⟨some 45, .un .not (.t 44), none⟩,
        ⟨some 46, .mov (.t 45), none⟩,
        ⟨some 47, .mov (.t 6), some (46, false)⟩,
        ⟨some 48, .len (.t 47), some (46, false)⟩,
        ⟨some 49, .mov (.t 0), some (46, false)⟩,
        ⟨some 50, .len (.t 49), some (46, false)⟩,
        ⟨some 51, .bin .gtr (.t 48) (.t 50), some (46, false)⟩,
        ⟨some 52, .pick (.t 46) (.c (.bool true)) (.t 51), none⟩,
        ⟨some 53, .mov (.t 52), none⟩,
        ⟨some 54, .mov (.t 6), some (53, false)⟩,
        ⟨some 55, .call false 38 [(.t 54)], some (53, false)⟩,
        ⟨some 56, .mov (.t 6), some (53, false)⟩,
        ⟨some 57, .call false 37 [(.t 55), (.t 56)], some (53, false)⟩,
        ⟨some 58, .un .not (.t 57), some (53, false)⟩,
        ⟨some 59, .pick (.t 53) (.c (.bool true)) (.t 58), none⟩])
     (.cond (.t 59)
     (.seq (.ops false [
          ⟨some 4, .mov (.c (.bool false)), none⟩])
       (.ret))
     (.skip)))
   (.seq (.ops false [
      ⟨some 7, .mov (.c (.int .i64 0)), none⟩])
   (.seq (.seq (.ops false [
        ⟨some 60, .mov (.t 0), none⟩,
        ⟨some 61, .len (.t 60), none⟩,
        ⟨some 62, .mov (.c (.int .i64 0)), none⟩])
     (.block 0 (.loop b10_0)))
   (.seq (.seq (.ops false [
        ⟨some 83, .mov (.t 7), none⟩,
        ⟨some 84, .mov (.t 6), none⟩,
        ⟨some 85, .len (.t 84), none⟩,
        ⟨some 86, .bin .neq (.t 83) (.t 85), none⟩])
     (.cond (.t 86)
     (.seq (.ops false [
          ⟨some 4, .mov (.c (.bool false)), none⟩])
       (.ret))
     (.skip)))
   (.seq (.seq (.ops false [
        ⟨some 87, .mov (.t 6), none⟩,
        ⟨some 88, .len (.t 87), none⟩,
        ⟨some 89, .mov (.c (.int .i64 0)), none⟩])
     (.block 2 (.loop b10_1)))
   (.seq (.seq (.ops false [
        ⟨some 96, .mov (.t 1), none⟩,
        ⟨some 97, .len (.t 96), none⟩,
        ⟨some 98, .mov (.c (.int .i64 0)), none⟩])
     (.block 4 (.loop b10_2)))
   (.seq (.ops false [
      ⟨some 4, .mov (.c (.bool true)), none⟩])
   (.ret)))))))))))))
 [.t 4]

set_option maxRecDepth 100000 in
theorem ok10 : chkFn Try.prog 10 a10 = true := by kernel_rfl

end Go.AM
