import Derived.Test.YtjdaaclkihjjnaaAmN7
import Derived.Test.YtjdaaclkihjjnaaQsT
import Derived.Test.YtjdaaclkihjjnaaProg
/-  What they are in the program: data and code. -/
set_option linter.unusedVariables false
set_option linter.unusedSimpArgs false
namespace Go.AM
open Go Go.RowKit Go.Proofs

def eapi_Item (x : api_Item) : D := .agg ((D.int .u16) x.Pt :: (D.str x.Raw :: ((D.int .i64) x.N :: [])))

def equeue_Queue (x : queue_Queue) : D := .agg ((eL (some 3) eapi_Item) x.ring :: ((D.int .i64) x.first :: ((D.int .i64) x.n_ :: ((D.int .i64) x.lost :: []))))

def eref16_Queue (x : ref16_Queue) : D := .agg ((D.int .i64) x.Places :: ((eL (some 3) eapi_Item) x.L :: ((D.int .i64) x.Lost :: [])))

def elaw16_Act (x : law16_Act) : D := .agg ((D.int .i64) x.What :: ((eapi_Item x.X).cells ++ []))

theorem eqS_api_Item (x y : api_Item) : eqSV [.int, .str, .int] (.d (eapi_Item x)) (.d (eapi_Item y)) = some (x == y) := by
  refine (eqSV_agg rfl rfl (eqT_cons rfl (eqT_cons rfl (eqT_cons rfl rfl)))).trans (congrArg some ?_)
  rw [Bool.eq_iff_iff]
  obtain ⟨x0, x1, x2⟩ := x
  obtain ⟨y0, y1, y2⟩ := y
  simp [ba_toList_inj, and_assoc]

/-- pointsman/queue.New -/
def a12 : AFn := .mk 9
 (.seq (.ops false [
      ⟨some 2, .mov (.c (.nilp)), none⟩])
   (.seq (.ops false [
      ⟨some 3, .mov (.t 0), none⟩,
      ⟨some 4, .max2 (.t 3) (.c (.int .i64 0)), none⟩,
      ⟨some 5, .min2 (.t 4) (.c (.int .i64 64)), none⟩,
      ⟨some 6, .mkslice (some 3) (.agg [.int .u16 0, .str ⟨#[]⟩, .int .i64 0]) (.t 5) (.t 5), none⟩,
      ⟨some 7, .build [.vec (some 3) [], .int .i64 0, .int .i64 0, .int .i64 0] [(0, 1, (.t 6))], none⟩,
      ⟨some 8, .box (some 4) (.t 7) false, none⟩,
      ⟨some 2, .mov (.t 8), none⟩])
   (.ret)))
 [.t 2]

set_option maxRecDepth 100000 in
theorem ok12 : chkFn Try.prog 12 a12 = true := by kernel_rfl

/-- (*pointsman/queue.Queue).place -/
def a42 : AFn := .mk 17
 (.seq (.ops false [
      ⟨some 4, .mov (.c (.int .i64 0)), none⟩])
   (.seq (.ops true [
      ⟨some 5, .mov (.t 0), none⟩,
      ⟨some 6, .nilchk (.t 5), none⟩,
      ⟨some 7, .faddr 1 (.t 6), none⟩,
      ⟨some 8, .load none (.t 7), none⟩,
      ⟨some 9, .mov (.t 1), none⟩,
      ⟨some 10, .bin .add (.t 8) (.t 9), none⟩,
      ⟨some 11, .mov (.t 0), none⟩,
      ⟨some 12, .nilchk (.t 11), none⟩,
      ⟨some 13, .faddr 0 (.t 12), none⟩,
      ⟨some 14, .load none (.t 13), none⟩,
      ⟨some 15, .len (.t 14), none⟩,
      ⟨some 16, .bin .rem (.t 10) (.t 15), none⟩,
      ⟨some 4, .mov (.t 16), none⟩])
   (.ret)))
 [.t 4]

set_option maxRecDepth 100000 in
theorem ok42 : chkFn Try.prog 42 a42 = true := by kernel_rfl

/-- (*pointsman/queue.Queue).Push -/
def a15 : AFn := .mk 45
 (.seq (.ops false [
      ⟨some 3, .box (some 3) (.t 1) true, none⟩,
      ⟨some 4, .mov (.c (.int .i64 0)), none⟩])
   (.seq (.block 0 (.seq (.ops false [
        ⟨some 6, .mov (.t 0), none⟩,
        ⟨some 7, .eqN false 0 (.t 6) (.c (.nilp)), none⟩,
        ⟨some 5, .mov (.t 7), none⟩])
     (.cond (.t 5)
     (.seq (.ops false [
          ⟨some 4, .mov (.c (.int .i64 1)), none⟩])
       (.ret))
     (.seq (.ops true [
          ⟨some 9, .mov (.t 0), none⟩,
          ⟨some 10, .nilchk (.t 9), none⟩,
          ⟨some 11, .faddr 2 (.t 10), none⟩,
          ⟨some 12, .load none (.t 11), none⟩,
          ⟨some 13, .mov (.t 0), none⟩,
          ⟨some 14, .nilchk (.t 13), none⟩,
          ⟨some 15, .faddr 0 (.t 14), none⟩,
          ⟨some 16, .load none (.t 15), none⟩,
          ⟨some 17, .len (.t 16), none⟩,
          ⟨some 18, .bin .eql (.t 12) (.t 17), none⟩,
          ⟨some 8, .mov (.t 18), none⟩])
       (.cond (.t 8)
       (.seq (.ops false [
            ⟨some 19, .mov (.t 0), none⟩,
            ⟨some 20, .nilchk (.t 19), none⟩,
            ⟨some 21, .faddr 3 (.t 20), none⟩,
            ⟨some 22, .load none (.t 21), none⟩,
            ⟨some 23, .bin .add (.t 22) (.c (.int .i64 1)), none⟩,
            ⟨some 24, .nilchk (.t 19), none⟩,
            ⟨some 25, .faddr 3 (.t 24), none⟩,
            ⟨none, .store none (.t 25) (.t 23), none⟩])
         (.seq (.ops false [
            ⟨some 4, .mov (.c (.int .i64 32)), none⟩])
         (.ret)))
       (.skip))))))
   (.seq (.opsS [(3, 9)] [
      ⟨some 26, .mov (.t 0), none⟩,
      ⟨some 27, .nilchk (.t 26), none⟩,
      ⟨some 28, .faddr 0 (.t 27), none⟩,
      ⟨some 29, .load none (.t 28), none⟩,
      ⟨some 30, .mov (.t 0), none⟩,
      ⟨some 31, .mov (.t 0), none⟩,
      ⟨some 32, .nilchk (.t 31), none⟩,
      ⟨some 33, .faddr 2 (.t 32), none⟩,
      ⟨some 34, .load none (.t 33), none⟩,
      ⟨some 35, .call true 42 [(.t 30), (.t 34)], none⟩,
      ⟨some 36, .ldI (some 3) (.t 3), none⟩,
      ⟨some 37, .iaddr (some 3) (.t 29) (.t 35), none⟩,
      ⟨none, .store (some 3) (.t 37) (.t 36), none⟩])
   (.seq (.ops false [
      ⟨some 38, .mov (.t 0), none⟩,
      ⟨some 39, .nilchk (.t 38), none⟩,
      ⟨some 40, .faddr 2 (.t 39), none⟩,
      ⟨some 41, .load none (.t 40), none⟩,
      ⟨some 42, .bin .add (.t 41) (.c (.int .i64 1)), none⟩,
      ⟨some 43, .nilchk (.t 38), none⟩,
      ⟨some 44, .faddr 2 (.t 43), none⟩,
      ⟨none, .store none (.t 44) (.t 42), none⟩])
   (.seq (.ops false [
      ⟨some 4, .mov (.c (.int .i64 0)), none⟩])
   (.ret))))))
 [.t 4]

set_option maxRecDepth 100000 in
theorem ok15 : chkFn Try.prog 15 a15 = true := by kernel_rfl

/-- (*pointsman/queue.Queue).At -/
def a20 : AFn := .mk 30
 (.seq (.ops false [
      ⟨some 4, .alloc [.int .u16 0, .str ⟨#[]⟩, .int .i64 0], none⟩,
      ⟨some 5, .mov (.c (.bool false)), none⟩])
   (.seq (.seq (.ops false [
        ⟨some 6, .mov (.t 0), none⟩,
        ⟨some 7, .eqN false 0 (.t 6) (.c (.nilp)), none⟩,
        ⟨some 8, .mov (.t 7), none⟩,
        ⟨some 9, .mov (.t 1), some (8, false)⟩,
        ⟨some 10, .bin .lss (.t 9) (.c (.int .i64 0)), some (8, false)⟩,
        ⟨some 11, .pick (.t 8) (.c (.bool true)) (.t 10), none⟩,
        ⟨some 12, .mov (.t 11), none⟩,
        ⟨some 13, .mov (.t 1), some (12, false)⟩,
        ⟨some 14, .mov (.t 0), some (12, false)⟩,
        ⟨some 15, .nilchk (.t 14), some (12, false)⟩,
        ⟨some 16, .faddr 2 (.t 15), some (12, false)⟩,
        ⟨some 17, .load none (.t 16), some (12, false)⟩,
        ⟨some 18, .bin .geq (.t 13) (.t 17), some (12, false)⟩,
        ⟨some 19, .pick (.t 12) (.c (.bool true)) (.t 18), none⟩])
     (.cond (.t 19)
     (.seq (.ops false [
          ⟨some 20, .build [.int .u16 0, .str ⟨#[]⟩, .int .i64 0] [], none⟩,
          ⟨none, .store (some 3) (.t 4) (.t 20), none⟩,
          ⟨some 5, .mov (.c (.bool false)), none⟩])
       (.ret))
     (.skip)))
   (.seq (.ops true [
      ⟨some 21, .mov (.t 0), none⟩,
      ⟨some 22, .nilchk (.t 21), none⟩,
      ⟨some 23, .faddr 0 (.t 22), none⟩,
      ⟨some 24, .load none (.t 23), none⟩,
      ⟨some 25, .mov (.t 0), none⟩,
      ⟨some 26, .mov (.t 1), none⟩,
      ⟨some 27, .call false 42 [(.t 25), (.t 26)], none⟩,
      ⟨some 28, .iaddr (some 3) (.t 24) (.t 27), none⟩,
      ⟨some 29, .load (some 3) (.t 28), none⟩,
      ⟨none, .store (some 3) (.t 4) (.t 29), none⟩,
      ⟨some 5, .mov (.c (.bool true)), none⟩])
   (.ret))))
 [.cell 4 (some 3), .t 5]

set_option maxRecDepth 100000 in
theorem ok20 : chkFn Try.prog 20 a20 = true := by kernel_rfl

/-- (*pointsman/queue.Queue).Pop -/
def a17 : AFn := .mk 36
 (.seq (.ops false [
      ⟨some 2, .alloc [.int .u16 0, .str ⟨#[]⟩, .int .i64 0], none⟩,
      ⟨some 3, .mov (.c (.bool false)), none⟩])
   (.seq (.ops false [
      ⟨some 7, .mov (.t 0), none⟩,
      ⟨some 8, .call true 20 [(.t 7), (.c (.int .i64 0))], none⟩,
      ⟨some 6, .mov (.t 8), none⟩,
      ⟨some 9, .extract (.t 6) 0, none⟩,
      ⟨some 10, .extract (.t 6) 1, none⟩,
      ⟨some 4, .alloc [.int .u16 0, .str ⟨#[]⟩, .int .i64 0], none⟩,
      ⟨none, .store (some 3) (.t 4) (.t 9), none⟩,
      ⟨some 5, .mov (.t 10), none⟩])
   (.seq (.seq (.ops false [
        ⟨some 11, .mov (.t 5), none⟩])
     (.cond (.t 11)
     (.seq (.ops true [
          ⟨some 12, .mov (.t 0), none⟩,
          ⟨some 13, .nilchk (.t 12), none⟩,
          ⟨some 14, .faddr 0 (.t 13), none⟩,
          ⟨some 15, .load none (.t 14), none⟩,
          ⟨some 16, .mov (.t 0), none⟩,
          ⟨some 17, .nilchk (.t 16), none⟩,
          ⟨some 18, .faddr 1 (.t 17), none⟩,
          ⟨some 19, .load none (.t 18), none⟩,
          ⟨some 20, .build [.int .u16 0, .str ⟨#[]⟩, .int .i64 0] [], none⟩,
          ⟨some 21, .iaddr (some 3) (.t 15) (.t 19), none⟩,
          ⟨none, .store (some 3) (.t 21) (.t 20), none⟩])
       (.seq (.ops false [
          ⟨some 22, .mov (.t 0), none⟩,
          ⟨some 23, .mov (.t 0), none⟩,
          ⟨some 24, .call true 42 [(.t 23), (.c (.int .i64 1))], none⟩,
          ⟨some 25, .nilchk (.t 22), none⟩,
          ⟨some 26, .faddr 1 (.t 25), none⟩,
          ⟨none, .store none (.t 26) (.t 24), none⟩])
       (.ops false [
        ⟨some 27, .mov (.t 0), none⟩,
        ⟨some 28, .nilchk (.t 27), none⟩,
        ⟨some 29, .faddr 2 (.t 28), none⟩,
        ⟨some 30, .load none (.t 29), none⟩,
        ⟨some 31, .bin .sub (.t 30) (.c (.int .i64 1)), none⟩,
        ⟨some 32, .nilchk (.t 27), none⟩,
        ⟨some 33, .faddr 2 (.t 32), none⟩,
        ⟨none, .store none (.t 33) (.t 31), none⟩])))
     (.skip)))
   (.seq (.ops false [
      ⟨some 34, .load (some 3) (.t 4), none⟩,
      ⟨some 35, .mov (.t 5), none⟩,
      ⟨none, .store (some 3) (.t 2) (.t 34), none⟩,
      ⟨some 3, .mov (.t 35), none⟩])
   (.ret)))))
 [.cell 2 (some 3), .t 3]

set_option maxRecDepth 100000 in
theorem ok17 : chkFn Try.prog 17 a17 = true := by kernel_rfl

/-- (*pointsman/queue.Queue).Len -/
def a18 : AFn := .mk 9
 (.seq (.ops false [
      ⟨some 2, .mov (.c (.int .i64 0)), none⟩])
   (.seq (.seq (.ops false [
        ⟨some 3, .mov (.t 0), none⟩,
        ⟨some 4, .eqN false 0 (.t 3) (.c (.nilp)), none⟩])
     (.cond (.t 4)
     (.seq (.ops false [
          ⟨some 2, .mov (.c (.int .i64 0)), none⟩])
       (.ret))
     (.skip)))
   (.seq (.ops false [
      ⟨some 5, .mov (.t 0), none⟩,
      ⟨some 6, .nilchk (.t 5), none⟩,
      ⟨some 7, .faddr 2 (.t 6), none⟩,
      ⟨some 8, .load none (.t 7), none⟩,
      ⟨some 2, .mov (.t 8), none⟩])
   (.ret))))
 [.t 2]

set_option maxRecDepth 100000 in
theorem ok18 : chkFn Try.prog 18 a18 = true := by kernel_rfl

/-- (*pointsman/queue.Queue).Lost -/
def a19 : AFn := .mk 9
 (.seq (.ops false [
      ⟨some 2, .mov (.c (.int .i64 0)), none⟩])
   (.seq (.seq (.ops false [
        ⟨some 3, .mov (.t 0), none⟩,
        ⟨some 4, .eqN false 0 (.t 3) (.c (.nilp)), none⟩])
     (.cond (.t 4)
     (.seq (.ops false [
          ⟨some 2, .mov (.c (.int .i64 0)), none⟩])
       (.ret))
     (.skip)))
   (.seq (.ops false [
      ⟨some 5, .mov (.t 0), none⟩,
      ⟨some 6, .nilchk (.t 5), none⟩,
      ⟨some 7, .faddr 3 (.t 6), none⟩,
      ⟨some 8, .load none (.t 7), none⟩,
      ⟨some 2, .mov (.t 8), none⟩])
   (.ret))))
 [.t 2]

set_option maxRecDepth 100000 in
theorem ok19 : chkFn Try.prog 19 a19 = true := by kernel_rfl

/-- pointsman/pointsmanlaw16.awake -/
def a11 : AFn := .mk 50
 (.seq (.ops false [
      ⟨some 0, .mov (.c (.bool false)), none⟩])
   (.seq (.ops false [
      ⟨some 7, .call true 12 [(.c (.int .i64 2))], none⟩,
      ⟨some 1, .mov (.t 7), none⟩])
   (.seq (.ops false [
      ⟨some 8, .mov (.t 1), none⟩,
      ⟨some 9, .build [.int .u16 0, .str ⟨#[]⟩, .int .i64 0] [(2, 1, (.c (.int .i64 1)))], none⟩,
      ⟨some 10, .call true 15 [(.t 8), (.t 9)], none⟩,
      ⟨some 11, .mov (.t 1), none⟩,
      ⟨some 12, .build [.int .u16 0, .str ⟨#[]⟩, .int .i64 0] [(2, 1, (.c (.int .i64 2)))], none⟩,
      ⟨some 13, .call true 15 [(.t 11), (.t 12)], none⟩,
      ⟨some 14, .mov (.t 1), none⟩,
      ⟨some 15, .build [.int .u16 0, .str ⟨#[]⟩, .int .i64 0] [(2, 1, (.c (.int .i64 3)))], none⟩,
      ⟨some 16, .call true 15 [(.t 14), (.t 15)], none⟩,
      ⟨some 2, .mov (.t 10), none⟩,
      ⟨some 3, .mov (.t 13), none⟩,
      ⟨some 4, .mov (.t 16), none⟩])
   (.seq (.ops false [
      ⟨some 18, .mov (.t 1), none⟩,
      ⟨some 19, .call true 17 [(.t 18)], none⟩,
      ⟨some 17, .mov (.t 19), none⟩,
      ⟨some 20, .extract (.t 17) 0, none⟩,
      ⟨some 21, .extract (.t 17) 1, none⟩,
      ⟨some 5, .alloc [.int .u16 0, .str ⟨#[]⟩, .int .i64 0], none⟩,
      ⟨none, .store (some 3) (.t 5) (.t 20), none⟩,
      ⟨some 6, .mov (.t 21), none⟩])
   (.seq (.ops false [
      ⟨some 22, .mov (.t 2), none⟩,
      ⟨some 23, .bin .eql (.t 22) (.c (.int .i64 0)), none⟩,
      ⟨some 24, .mov (.t 23), none⟩,
      ⟨some 25, .mov (.t 3), some (24, true)⟩,
      ⟨some 26, .bin .eql (.t 25) (.c (.int .i64 0)), some (24, true)⟩,
      ⟨some 27, .pick (.t 24) (.t 26) (.c (.bool false)), none⟩,
      ⟨some 28, .mov (.t 27), none⟩,
      ⟨some 29, .mov (.t 4), some (28, true)⟩,
      ⟨some 30, .bin .eql (.t 29) (.c (.int .i64 32)), some (28, true)⟩,
      ⟨some 31, .pick (.t 28) (.t 30) (.c (.bool false)), none⟩,
      ⟨some 32, .mov (.t 31), none⟩,
      ⟨some 33, .mov (.t 6), some (32, true)⟩,
      ⟨some 34, .pick (.t 32) (.t 33) (.c (.bool false)), none⟩,
      ⟨some 35, .mov (.t 34), none⟩,
      ⟨some 36, .faddr 2 (.t 5), some (35, true)⟩,
      ⟨some 37, .load none (.t 36), some (35, true)⟩,
      ⟨some 38, .bin .eql (.t 37) (.c (.int .i64 1)), some (35, true)⟩,
      ⟨some 39, .pick (.t 35) (.t 38) (.c (.bool false)), none⟩,
      ⟨some 40, .mov (.t 39), none⟩,
      ⟨some 41, .mov (.t 1), some (40, true)⟩,
      ⟨some 42, .call true 18 [(.t 41)], some (40, true)⟩,
      ⟨some 43, .bin .eql (.t 42) (.c (.int .i64 1)), some (40, true)⟩,
      ⟨some 44, .pick (.t 40) (.t 43) (.c (.bool false)), none⟩,
      ⟨some 45, .mov (.t 44), none⟩,
      ⟨some 46, .mov (.t 1), some (45, true)⟩,
      ⟨some 47, .call true 19 [(.t 46)], some (45, true)⟩,
      ⟨some 48, .bin .eql (.t 47) (.c (.int .i64 1)), some (45, true)⟩,
      ⟨some 49, .pick (.t 45) (.t 48) (.c (.bool false)), none⟩,
      ⟨some 0, .mov (.t 49), none⟩])
   (.ret))))))
 [.t 0]

set_option maxRecDepth 100000 in
theorem ok11 : chkFn Try.prog 11 a11 = true := by kernel_rfl

/-- pointsman/pointsmanref16.New -/
def a13 : AFn := .mk 7
 (.seq (.ops false [
      ⟨some 2, .alloc [.int .i64 0, .vec (some 3) [], .int .i64 0], none⟩])
   (.seq (.ops false [
      ⟨some 3, .mov (.t 0), none⟩,
      ⟨some 4, .max2 (.t 3) (.c (.int .i64 0)), none⟩,
      ⟨some 5, .min2 (.t 4) (.c (.int .i64 64)), none⟩,
      ⟨some 6, .build [.int .i64 0, .vec (some 3) [], .int .i64 0] [(0, 1, (.t 5))], none⟩,
      ⟨none, .store (some 3) (.t 2) (.t 6), none⟩])
   (.ret)))
 [.cell 2 (some 3)]

set_option maxRecDepth 100000 in
theorem ok13 : chkFn Try.prog 13 a13 = true := by kernel_rfl

/-- (pointsman/pointsmanref16.Queue).Push -/
def a14 : AFn := .mk 26
 (.seq (.ops false [
      ⟨some 2, .box (some 3) (.t 0) false, none⟩,
      ⟨some 3, .box (some 3) (.t 1) true, none⟩,
      ⟨some 4, .alloc [.int .i64 0, .vec (some 3) [], .int .i64 0], none⟩,
      ⟨some 5, .mov (.c (.int .i64 0)), none⟩])
   (.seq (.seq (.ops false [
        ⟨some 6, .faddr 1 (.t 2), none⟩,
        ⟨some 7, .load none (.t 6), none⟩,
        ⟨some 8, .len (.t 7), none⟩,
        ⟨some 9, .faddr 0 (.t 2), none⟩,
        ⟨some 10, .load none (.t 9), none⟩,
        ⟨some 11, .bin .geq (.t 8) (.t 10), none⟩])
     (.cond (.t 11)
     (.seq (.ops false [
          ⟨some 12, .faddr 2 (.t 2), none⟩,
          ⟨some 13, .load none (.t 12), none⟩,
          ⟨some 14, .bin .add (.t 13) (.c (.int .i64 1)), none⟩,
          ⟨some 15, .faddr 2 (.t 2), none⟩,
          ⟨none, .store none (.t 15) (.t 14), none⟩])
       (.seq (.ops false [
          ⟨some 16, .load (some 3) (.t 2), none⟩,
          ⟨none, .store (some 3) (.t 4) (.t 16), none⟩,
          ⟨some 5, .mov (.c (.int .i64 32)), none⟩])
       (.ret)))
     (.skip)))
   (.seq (.opsS [(0, 2), (0, 6), (2, 6)] [
      ⟨some 17, .bslice (some 3) [] false, none⟩,
      ⟨some 18, .faddr 1 (.t 2), none⟩,
      ⟨some 19, .load none (.t 18), none⟩,
      ⟨some 20, .append (some 3) (.t 17) (.t 19) false, none⟩,
      ⟨some 21, .ldI (some 3) (.t 3), none⟩,
      ⟨some 22, .bsliceI (some 3) [(.t 21)], none⟩,
      ⟨some 23, .append (some 3) (.t 20) (.t 22) false, none⟩,
      ⟨some 24, .faddr 1 (.t 2), none⟩,
      ⟨none, .store none (.t 24) (.t 23), none⟩])
   (.seq (.ops false [
      ⟨some 25, .load (some 3) (.t 2), none⟩,
      ⟨none, .store (some 3) (.t 4) (.t 25), none⟩,
      ⟨some 5, .mov (.c (.int .i64 0)), none⟩])
   (.ret)))))
 [.cell 4 (some 3), .t 5]

set_option maxRecDepth 100000 in
theorem ok14 : chkFn Try.prog 14 a14 = true := by kernel_rfl

/-- (pointsman/pointsmanref16.Queue).Pop -/
def a16 : AFn := .mk 22
 (.seq (.ops false [
      ⟨some 1, .box (some 3) (.t 0) false, none⟩,
      ⟨some 2, .alloc [.int .i64 0, .vec (some 3) [], .int .i64 0], none⟩,
      ⟨some 3, .alloc [.int .u16 0, .str ⟨#[]⟩, .int .i64 0], none⟩,
      ⟨some 4, .mov (.c (.bool false)), none⟩])
   (.seq (.seq (.ops false [
        ⟨some 6, .faddr 1 (.t 1), none⟩,
        ⟨some 7, .load none (.t 6), none⟩,
        ⟨some 8, .len (.t 7), none⟩,
        ⟨some 9, .bin .eql (.t 8) (.c (.int .i64 0)), none⟩])
     (.cond (.t 9)
     (.seq (.ops false [
          ⟨some 10, .load (some 3) (.t 1), none⟩,
          ⟨some 11, .build [.int .u16 0, .str ⟨#[]⟩, .int .i64 0] [], none⟩,
          ⟨none, .store (some 3) (.t 2) (.t 10), none⟩,
          ⟨none, .store (some 3) (.t 3) (.t 11), none⟩,
          ⟨some 4, .mov (.c (.bool false)), none⟩])
       (.ret))
     (.skip)))
   (.seq (.ops false [
      ⟨some 12, .faddr 1 (.t 1), none⟩,
      ⟨some 13, .load none (.t 12), none⟩,
      ⟨some 14, .iaddr (some 3) (.t 13) (.c (.int .i64 0)), none⟩,
      ⟨some 15, .load (some 3) (.t 14), none⟩,
      ⟨some 5, .alloc [.int .u16 0, .str ⟨#[]⟩, .int .i64 0], none⟩,
      ⟨none, .store (some 3) (.t 5) (.t 15), none⟩])
   (.seq (.ops false [
      ⟨some 16, .faddr 1 (.t 1), none⟩,
      ⟨some 17, .load none (.t 16), none⟩,
      ⟨some 18, .slc (some 3) (.t 17) (some (.c (.int .i64 1))) none, none⟩,
      ⟨some 19, .faddr 1 (.t 1), none⟩,
      ⟨none, .store none (.t 19) (.t 18), none⟩])
   (.seq (.opsS [(1, 2)] [
      ⟨some 20, .load (some 3) (.t 1), none⟩,
      ⟨some 21, .load (some 3) (.t 5), none⟩,
      ⟨none, .store (some 3) (.t 2) (.t 20), none⟩,
      ⟨none, .store (some 3) (.t 3) (.t 21), none⟩,
      ⟨some 4, .mov (.c (.bool true)), none⟩])
   (.ret))))))
 [.cell 2 (some 3), .cell 3 (some 3), .t 4]

set_option maxRecDepth 100000 in
theorem ok16 : chkFn Try.prog 16 a16 = true := by kernel_rfl

def b21_0 : ACode :=
  (.seq (.ops false [
      ⟨some 25, .bin .lss (.t 24) (.t 23), none⟩])
   (.seq (.cond (.t 25)
     (.skip)
     (.exit 0))
   (.seq (.block 1 (.seq (.ops false [
        ⟨some 26, .mov (.t 24), none⟩,
        ⟨some 5, .mov (.t 26), none⟩])
     (.seq (.ops false [
        ⟨some 28, .mov (.t 0), none⟩,
        ⟨some 29, .mov (.t 5), none⟩,
        ⟨some 30, .call false 20 [(.t 28), (.t 29)], none⟩,
        ⟨some 27, .mov (.t 30), none⟩,
        ⟨some 31, .extract (.t 27) 0, none⟩,
        ⟨some 32, .extract (.t 27) 1, none⟩,
        ⟨some 6, .alloc [.int .u16 0, .str ⟨#[]⟩, .int .i64 0], none⟩,
        ⟨none, .store (some 3) (.t 6) (.t 31), none⟩,
        ⟨some 7, .mov (.t 32), none⟩])
     (.seq (.ops false [
        ⟨some 34, .mov (.t 1), none⟩,
        ⟨some 35, .mov (.t 5), none⟩,
        ⟨some 36, .call false 20 [(.t 34), (.t 35)], none⟩,
        ⟨some 33, .mov (.t 36), none⟩,
        ⟨some 37, .extract (.t 33) 0, none⟩,
        ⟨some 38, .extract (.t 33) 1, none⟩,
        ⟨some 8, .alloc [.int .u16 0, .str ⟨#[]⟩, .int .i64 0], none⟩,
        ⟨none, .store (some 3) (.t 8) (.t 37), none⟩,
        ⟨some 9, .mov (.t 38), none⟩])
     (.seq (.ops false [
        ⟨some 39, .load (some 3) (.t 6), none⟩,
        ⟨some 40, .load (some 3) (.t 8), none⟩,
        ⟨some 41, .eqS true [.int, .str, .int] (.t 39) (.t 40), none⟩])
     (.cond (.t 41)
     (.seq (.ops false [
          ⟨some 4, .mov (.c (.bool false)), none⟩])
       (.ret))
     (.skip)))))))
   (.ops false [
    ⟨some 42, .bin .add (.t 24) (.c (.int .i64 1)), none⟩,
    ⟨some 24, .mov (.t 42), none⟩]))))

/-- (*pointsman/queue.Queue).Same -/
def a21 : AFn := .mk 43
 (.seq (.ops false [
      ⟨some 4, .mov (.c (.bool false)), none⟩])
   (.seq (.seq (.ops false [
        ⟨some 10, .mov (.t 0), none⟩,
        ⟨some 11, .call false 18 [(.t 10)], none⟩,
        ⟨some 12, .mov (.t 1), none⟩,
        ⟨some 13, .call false 18 [(.t 12)], none⟩,
        ⟨some 14, .bin .neq (.t 11) (.t 13), none⟩,
        ⟨some 15, .mov (.t 14), none⟩,
        ⟨some 16, .mov (.t 0), some (15, false)⟩,
        ⟨some 17, .call false 19 [(.t 16)], some (15, false)⟩,
        ⟨some 18, .mov (.t 1), some (15, false)⟩,
        ⟨some 19, .call false 19 [(.t 18)], some (15, false)⟩,
        ⟨some 20, .bin .neq (.t 17) (.t 19), some (15, false)⟩,
        ⟨some 21, .pick (.t 15) (.c (.bool true)) (.t 20), none⟩])
     (.cond (.t 21)
     (.seq (.ops false [
          ⟨some 4, .mov (.c (.bool false)), none⟩])
       (.ret))
     (.skip)))
   (.seq (.seq (.ops false [
        ⟨some 22, .mov (.t 0), none⟩,
        ⟨some 23, .call false 18 [(.t 22)], none⟩,
        ⟨some 24, .mov (.c (.int .i64 0)), none⟩])
     (.block 0 (.loop b21_0)))
   (.seq (.ops false [
      ⟨some 4, .mov (.c (.bool true)), none⟩])
   (.ret)))))
 [.t 4]

set_option maxRecDepth 100000 in
theorem ok21 : chkFn Try.prog 21 a21 = true := by kernel_rfl

def b5_1 : ACode :=
  (.seq (.ops false [
      ⟨some 50, .bin .lss (.t 49) (.t 48), none⟩])
   (.seq (.cond (.t 50)
     (.skip)
     (.exit 2))
   (.seq (.block 3 (.seq (.ops false [
        ⟨some 51, .iaddr (some 4) (.t 47) (.t 49), none⟩,
        ⟨some 52, .load (some 4) (.t 51), none⟩,
        ⟨some 12, .alloc [.int .i64 0, .int .u16 0, .str ⟨#[]⟩, .int .i64 0], none⟩,
        ⟨none, .store (some 4) (.t 12) (.t 52), none⟩])
     (.seq (.ops false [
        ⟨some 53, .faddr 0 (.t 12), none⟩,
        ⟨some 54, .load none (.t 53), none⟩,
        ⟨some 55, .bin .eql (.t 54) (.c (.int .i64 0)), none⟩])
     (.cond (.t 55)
     (.seq (.ops true [
          ⟨some 56, .mov (.t 9), none⟩,
          ⟨some 57, .iaddrA 2 none (.t 7) (.t 56), none⟩,
          ⟨some 58, .load none (.t 57), none⟩,
          ⟨some 59, .faddr 1 (.t 12), none⟩,
          ⟨some 60, .load (some 3) (.t 59), none⟩,
          ⟨some 61, .call true 15 [(.t 58), (.t 60)], none⟩])
       (.ops true [
        ⟨some 63, .mov (.t 9), none⟩,
        ⟨some 64, .mov (.t 9), none⟩,
        ⟨some 65, .iaddrA 2 (some 3) (.t 8) (.t 64), none⟩,
        ⟨some 66, .load (some 3) (.t 65), none⟩,
        ⟨some 67, .faddr 1 (.t 12), none⟩,
        ⟨some 68, .load (some 3) (.t 67), none⟩,
        ⟨some 69, .call false 14 [(.t 66), (.t 68)], none⟩,
        ⟨some 62, .mov (.t 69), none⟩,
        ⟨some 70, .extract (.t 62) 0, none⟩,
        ⟨some 71, .extract (.t 62) 1, none⟩,
        ⟨some 72, .iaddrA 2 (some 3) (.t 8) (.t 63), none⟩,
        ⟨none, .store (some 3) (.t 72) (.t 70), none⟩]))
     (.seq (.ops false [
          ⟨some 73, .mov (.t 9), none⟩,
          ⟨some 74, .iaddrA 2 none (.t 7) (.t 73), none⟩,
          ⟨some 75, .load none (.t 74), none⟩,
          ⟨some 76, .call true 17 [(.t 75)], none⟩])
       (.ops false [
        ⟨some 78, .mov (.t 9), none⟩,
        ⟨some 79, .mov (.t 9), none⟩,
        ⟨some 80, .iaddrA 2 (some 3) (.t 8) (.t 79), none⟩,
        ⟨some 81, .load (some 3) (.t 80), none⟩,
        ⟨some 82, .call false 16 [(.t 81)], none⟩,
        ⟨some 77, .mov (.t 82), none⟩,
        ⟨some 83, .extract (.t 77) 0, none⟩,
        ⟨some 84, .extract (.t 77) 1, none⟩,
        ⟨some 85, .extract (.t 77) 2, none⟩,
        ⟨some 86, .iaddrA 2 (some 3) (.t 8) (.t 78), none⟩,
        ⟨none, .store (some 3) (.t 86) (.t 83), none⟩]))))))
   (.ops false [
    ⟨some 87, .bin .add (.t 49) (.c (.int .i64 1)), none⟩,
    ⟨some 49, .mov (.t 87), none⟩]))))

def b5_0 : ACode :=
  (.seq (.ops false [
      ⟨some 31, .bin .lss (.t 30) (.t 29), none⟩])
   (.seq (.cond (.t 31)
     (.skip)
     (.exit 0))
   (.seq (.block 1 (.seq (.ops false [
        ⟨some 32, .mov (.t 30), none⟩,
        ⟨some 33, .iaddr none (.t 28) (.t 30), none⟩,
        ⟨some 34, .load none (.t 33), none⟩,
        ⟨some 9, .mov (.t 32), none⟩,
        ⟨some 10, .mov (.t 34), none⟩])
     (.seq (.ops true [
        ⟨some 35, .mov (.t 9), none⟩,
        ⟨some 36, .mov (.t 9), none⟩,
        ⟨some 37, .mov (.t 9), none⟩,
        ⟨some 38, .iaddrA 2 none (.t 3) (.t 37), none⟩,
        ⟨some 39, .ldI none (.t 38), none⟩,
        ⟨some 40, .call true 12 [(.t 39)], none⟩,
        ⟨some 41, .mov (.t 9), none⟩,
        ⟨some 42, .iaddrA 2 none (.t 3) (.t 41), none⟩,
        ⟨some 43, .ldI none (.t 42), none⟩,
        ⟨some 44, .call false 13 [(.t 43)], none⟩,
        ⟨some 45, .iaddrA 2 none (.t 7) (.t 35), none⟩,
        ⟨none, .store none (.t 45) (.t 40), none⟩,
        ⟨some 46, .iaddrA 2 (some 3) (.t 8) (.t 36), none⟩,
        ⟨none, .store (some 3) (.t 46) (.t 44), none⟩])
     (.seq (.ops false [
        ⟨some 47, .mov (.t 10), none⟩,
        ⟨some 48, .len (.t 47), none⟩,
        ⟨some 49, .mov (.c (.int .i64 0)), none⟩])
     (.block 2 (.loop b5_1))))))
   (.ops false [
    ⟨some 88, .bin .add (.t 30) (.c (.int .i64 1)), none⟩,
    ⟨some 30, .mov (.t 88), none⟩]))))

def b5_2 : ACode :=
  (.seq (.seq (.ops false [
        ⟨some 107, .mov (.t 13), none⟩,
        ⟨some 108, .mov (.t 107), none⟩,
        ⟨some 109, .mov (.t 14), some (108, true)⟩,
        ⟨some 110, .iaddrA 2 (some 3) (.t 8) (.c (.int .i64 0)), some (108, true)⟩,
        ⟨some 111, .faddr 1 (.t 110), some (108, true)⟩,
        ⟨some 112, .load none (.t 111), some (108, true)⟩,
        ⟨some 113, .len (.t 112), some (108, true)⟩,
        ⟨some 114, .bin .lss (.t 109) (.t 113), some (108, true)⟩,
        ⟨some 115, .pick (.t 108) (.t 114) (.c (.bool false)), none⟩])
     (.cond (.t 115)
     (.skip)
     (.exit 4)))
   (.seq (.block 5 (.ops true [
      ⟨some 118, .iaddrA 2 (some 3) (.t 8) (.c (.int .i64 0)), none⟩,
      ⟨some 119, .faddr 1 (.t 118), none⟩,
      ⟨some 120, .load none (.t 119), none⟩,
      ⟨some 121, .mov (.t 14), none⟩,
      ⟨some 122, .iaddr (some 3) (.t 120) (.t 121), none⟩,
      ⟨some 123, .load (some 3) (.t 122), none⟩,
      ⟨some 124, .iaddrA 2 (some 3) (.t 8) (.c (.int .i64 1)), none⟩,
      ⟨some 125, .faddr 1 (.t 124), none⟩,
      ⟨some 126, .load none (.t 125), none⟩,
      ⟨some 127, .mov (.t 14), none⟩,
      ⟨some 128, .iaddr (some 3) (.t 126) (.t 127), none⟩,
      ⟨some 129, .load (some 3) (.t 128), none⟩,
      ⟨some 130, .eqS false [.int, .str, .int] (.t 123) (.t 129), none⟩,
      ⟨some 13, .mov (.t 130), none⟩]))
   (.ops false [
    ⟨some 116, .mov (.t 14), none⟩,
    ⟨some 117, .bin .add (.t 116) (.c (.int .i64 1)), none⟩,
    ⟨some 14, .mov (.t 117), none⟩])))

/-- pointsman/pointsmanlaw16.QueueSame -/
def a5 : AFn := .mk 172
 (.seq (.ops false [
      ⟨some 3, .box (some 2) (.t 0) true, none⟩,
      ⟨some 6, .mov (.c (.bool false)), none⟩])
   (.seq (.seq (.ops false [
        ⟨some 16, .call false 11 [], none⟩,
        ⟨some 17, .un .not (.t 16), none⟩])
     (.cond (.t 17)
     (.seq (.ops false [
          ⟨some 6, .mov (.c (.bool false)), none⟩])
       (.ret))
     (.skip)))
   (.seq (.seq (.ops false [
        ⟨some 18, .mov (.t 1), none⟩,
        ⟨some 19, .len (.t 18), none⟩,
        ⟨some 20, .bin .gtr (.t 19) (.c (.int .i64 60)), none⟩,
        ⟨some 21, .mov (.t 20), none⟩,
        ⟨some 22, .mov (.t 2), some (21, false)⟩,
        ⟨some 23, .len (.t 22), some (21, false)⟩,
        ⟨some 24, .bin .gtr (.t 23) (.c (.int .i64 60)), some (21, false)⟩,
        ⟨some 25, .pick (.t 21) (.c (.bool true)) (.t 24), none⟩])
     (.cond (.t 25)
     (.seq (.ops false [
          ⟨some 6, .mov (.c (.bool true)), none⟩])
       (.ret))
     (.skip)))
   (.seq (.ops false [
      ⟨some 7, .alloc [.nilp, .nilp], none⟩])
   (.seq (.ops false [
      ⟨some 8, .alloc [.int .i64 0, .vec (some 3) [], .int .i64 0, .int .i64 0, .vec (some 3) [], .int .i64 0], none⟩])
   (.seq (.seq (.ops false [
        ⟨some 26, .mov (.t 1), none⟩,
        ⟨some 27, .mov (.t 2), none⟩,
        ⟨some 28, .bsliceI none [(.t 26), (.t 27)], none⟩,
        ⟨some 29, .len (.t 28), none⟩,
        ⟨some 30, .mov (.c (.int .i64 0)), none⟩])
     (.block 0 (.loop b5_0)))
   (.seq (.ops false [
      ⟨some 89, .iaddrA 2 (some 3) (.t 8) (.c (.int .i64 0)), none⟩,
      ⟨some 90, .faddr 1 (.t 89), none⟩,
      ⟨some 91, .load none (.t 90), none⟩,
      ⟨some 92, .len (.t 91), none⟩,
      ⟨some 93, .iaddrA 2 (some 3) (.t 8) (.c (.int .i64 1)), none⟩,
      ⟨some 94, .faddr 1 (.t 93), none⟩,
      ⟨some 95, .load none (.t 94), none⟩,
      ⟨some 96, .len (.t 95), none⟩,
      ⟨some 97, .bin .eql (.t 92) (.t 96), none⟩,
      ⟨some 98, .mov (.t 97), none⟩,
      ⟨some 99, .iaddrA 2 (some 3) (.t 8) (.c (.int .i64 0)), some (98, true)⟩,
      ⟨some 100, .faddr 2 (.t 99), some (98, true)⟩,
      ⟨some 101, .load none (.t 100), some (98, true)⟩,
      ⟨some 102, .iaddrA 2 (some 3) (.t 8) (.c (.int .i64 1)), some (98, true)⟩,
      ⟨some 103, .faddr 2 (.t 102), some (98, true)⟩,
      ⟨some 104, .load none (.t 103), some (98, true)⟩,
      ⟨some 105, .bin .eql (.t 101) (.t 104), some (98, true)⟩,
      ⟨some 106, .pick (.t 98) (.t 105) (.c (.bool false)), none⟩,
      ⟨some 13, .mov (.t 106), none⟩])
   (.seq (.seq (.ops false [
        ⟨some 14, .mov (.c (.int .i64 0)), none⟩])
     (.block 4 (.loop b5_2)))
   (.seq (.ops false [
      ⟨some 15, .mov (.c (.nilp)), none⟩])
   (.seq (.opsS [(4, 9), (4, 11), (1, 12), (3, 12), (4, 12), (4, 18), (12, 18), (4, 20), (12, 20), (1, 21), (3, 21), (4, 21), (9, 21), (11, 21), (12, 21), (4, 26), (12, 26), (21, 26), (1, 27), (3, 27), (4, 27), (9, 27), (11, 27), (12, 27), (18, 27), (20, 27), (21, 27), (4, 30), (12, 30), (21, 30), (27, 30), (4, 36), (12, 36), (21, 36), (27, 36)] [
      ⟨some 131, .iaddrA 2 none (.t 7) (.c (.int .i64 0)), none⟩,
      ⟨some 132, .load none (.t 131), none⟩,
      ⟨some 133, .iaddrA 2 none (.t 7) (.c (.int .i64 1)), none⟩,
      ⟨some 134, .load none (.t 133), none⟩,
      ⟨some 135, .call true 21 [(.t 132), (.t 134)], none⟩,
      ⟨some 136, .mov (.t 13), none⟩,
      ⟨some 137, .eqB false (.t 135) (.t 136), none⟩,
      ⟨some 138, .mov (.t 137), none⟩,
      ⟨some 139, .iaddrA 2 none (.t 7) (.c (.int .i64 1)), some (138, true)⟩,
      ⟨some 140, .load none (.t 139), some (138, true)⟩,
      ⟨some 141, .iaddrA 2 none (.t 7) (.c (.int .i64 0)), some (138, true)⟩,
      ⟨some 142, .load none (.t 141), some (138, true)⟩,
      ⟨some 143, .call true 21 [(.t 140), (.t 142)], some (138, true)⟩,
      ⟨some 144, .mov (.t 13), some (138, true)⟩,
      ⟨some 145, .eqB false (.t 143) (.t 144), some (138, true)⟩,
      ⟨some 146, .pick (.t 138) (.t 145) (.c (.bool false)), none⟩,
      ⟨some 147, .mov (.t 146), none⟩,
      ⟨some 148, .iaddrA 2 none (.t 7) (.c (.int .i64 0)), some (147, true)⟩,
      ⟨some 149, .load none (.t 148), some (147, true)⟩,
      ⟨some 150, .iaddrA 2 none (.t 7) (.c (.int .i64 0)), some (147, true)⟩,
      ⟨some 151, .load none (.t 150), some (147, true)⟩,
      ⟨some 152, .call true 21 [(.t 149), (.t 151)], some (147, true)⟩,
      ⟨some 153, .pick (.t 147) (.t 152) (.c (.bool false)), none⟩,
      ⟨some 154, .mov (.t 153), none⟩,
      ⟨some 155, .mov (.t 15), some (154, true)⟩,
      ⟨some 156, .iaddrA 2 none (.t 7) (.c (.int .i64 0)), some (154, true)⟩,
      ⟨some 157, .load none (.t 156), some (154, true)⟩,
      ⟨some 158, .call true 21 [(.t 155), (.t 157)], some (154, true)⟩,
      ⟨some 159, .iaddrA 2 (some 3) (.t 8) (.c (.int .i64 0)), some (154, true)⟩,
      ⟨some 160, .faddr 1 (.t 159), some (154, true)⟩,
      ⟨some 161, .load none (.t 160), some (154, true)⟩,
      ⟨some 162, .len (.t 161), some (154, true)⟩,
      ⟨some 163, .bin .eql (.t 162) (.c (.int .i64 0)), some (154, true)⟩,
      ⟨some 164, .mov (.t 163), some (154, true)⟩,
      ⟨some 165, .iaddrA 2 (some 3) (.t 8) (.c (.int .i64 0)), some (164, true)⟩,
      ⟨some 166, .faddr 2 (.t 165), some (164, true)⟩,
      ⟨some 167, .load none (.t 166), some (164, true)⟩,
      ⟨some 168, .bin .eql (.t 167) (.c (.int .i64 0)), some (164, true)⟩,
      ⟨some 169, .pick (.t 164) (.t 168) (.c (.bool false)), some (154, true)⟩,
      ⟨some 170, .eqB false (.t 158) (.t 169), some (154, true)⟩,
      ⟨some 171, .pick (.t 154) (.t 170) (.c (.bool false)), none⟩,
      ⟨some 6, .mov (.t 171), none⟩])
   (.ret)))))))))))
 [.t 6]

set_option maxRecDepth 100000 in
theorem ok5 : chkFn Try.prog 5 a5 = true := by kernel_rfl

end Go.AM
