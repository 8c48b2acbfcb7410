import Derived.Test.YtjdaaclkihjjnaaAmN7
import Derived.Test.YtjdaaclkihjjnaaQqT
import Derived.Test.YtjdaaclkihjjnaaProg
/-  What they are in the program: data and code. -/
set_option linter.unusedVariables false
set_option linter.unusedSimpArgs false
namespace Go.AM
open Go Go.RowKit Go.Proofs

def eapi_Item (x : api_Item) : D := .agg ((D.int .u16) x.Pt :: (D.str x.Raw :: ((D.int .i64) x.N :: [])))

def equeue_Queue (x : queue_Queue) : D := .agg ((eL (some 3) eapi_Item) x.ring :: ((D.int .i64) x.first :: ((D.int .i64) x.n_ :: ((D.int .i64) x.lost :: []))))

def eref16_Queue (x : ref16_Queue) : D := .agg ((D.int .i64) x.Places :: ((eL (some 3) eapi_Item) x.L :: ((D.int .i64) x.Lost :: [])))

def elaw16_Act (x : law16_Act) : D := .agg ((D.int .i64) x.What :: ((eapi_Item x.X).cells ++ []))

theorem eqS_api_Item (x y : api_Item) : eqSV [.int, .str, .int] (.d (eapi_Item x)) (.d (eapi_Item y)) = some (x == y) := by
  refine (eqSV_agg rfl rfl (eqT_cons rfl (eqT_cons rfl (eqT_cons rfl rfl)))).trans (congrArg some ?_)
  rw [Bool.eq_iff_iff]
  obtain ⟨x0, x1, x2⟩ := x
  obtain ⟨y0, y1, y2⟩ := y
  simp [ba_toList_inj, and_assoc]

/-- pointsman/queue.New -/
def a12 : AFn := .mk 9
 (.seq (.ops false [
      ⟨some 2, .mov (.c (.nilp)), none⟩])
   (.seq (.ops false [
      ⟨some 3, .mov (.t 0), none⟩,
      ⟨some 4, .max2 (.t 3) (.c (.int .i64 0)), none⟩,
      ⟨some 5, .min2 (.t 4) (.c (.int .i64 64)), none⟩,
      ⟨some 6, .mkslice (some 3) (.agg [.int .u16 0, .str ⟨#[]⟩, .int .i64 0]) (.t 5) (.t 5), none⟩,
      ⟨some 7, .build [.vec (some 3) [], .int .i64 0, .int .i64 0, .int .i64 0] [(0, 1, (.t 6))], none⟩,
      ⟨some 8, .box (some 4) (.t 7) false, none⟩,
      ⟨some 2, .mov (.t 8), none⟩])
   (.ret)))
 [.t 2]

set_option maxRecDepth 100000 in
theorem ok12 : chkFn Try.prog 12 a12 = true := by kernel_rfl

/-- (*pointsman/queue.Queue).place -/
def a42 : AFn := .mk 17
 (.seq (.ops false [
      ⟨some 4, .mov (.c (.int .i64 0)), none⟩])
   (.seq (.ops true [
      ⟨some 5, .mov (.t 0), none⟩,
      ⟨some 6, .nilchk (.t 5), none⟩,
      ⟨some 7, .faddr 1 (.t 6), none⟩,
      ⟨some 8, .load none (.t 7), none⟩,
      ⟨some 9, .mov (.t 1), none⟩,
      ⟨some 10, .bin .add (.t 8) (.t 9), none⟩,
      ⟨some 11, .mov (.t 0), none⟩,
      ⟨some 12, .nilchk (.t 11), none⟩,
      ⟨some 13, .faddr 0 (.t 12), none⟩,
      ⟨some 14, .load none (.t 13), none⟩,
      ⟨some 15, .len (.t 14), none⟩,
      ⟨some 16, .bin .rem (.t 10) (.t 15), none⟩,
      ⟨some 4, .mov (.t 16), none⟩])
   (.ret)))
 [.t 4]

set_option maxRecDepth 100000 in
theorem ok42 : chkFn Try.prog 42 a42 = true := by kernel_rfl

/-- (*pointsman/queue.Queue).Push -/
def a15 : AFn := .mk 45
 (.seq (.ops false [
      ⟨some 3, .box (some 3) (.t 1) true, none⟩,
      ⟨some 4, .mov (.c (.int .i64 0)), none⟩])
   (.seq (.block 0 (.seq (.ops false [
        ⟨some 6, .mov (.t 0), none⟩,
        ⟨some 7, .eqN false 0 (.t 6) (.c (.nilp)), none⟩,
        ⟨some 5, .mov (.t 7), none⟩])
     (.cond (.t 5)
     (.seq (.ops false [
          ⟨some 4, .mov (.c (.int .i64 1)), none⟩])
       (.ret))
     (.seq (.ops true [
          ⟨some 9, .mov (.t 0), none⟩,
          ⟨some 10, .nilchk (.t 9), none⟩,
          ⟨some 11, .faddr 2 (.t 10), none⟩,
          ⟨some 12, .load none (.t 11), none⟩,
          ⟨some 13, .mov (.t 0), none⟩,
          ⟨some 14, .nilchk (.t 13), none⟩,
          ⟨some 15, .faddr 0 (.t 14), none⟩,
          ⟨some 16, .load none (.t 15), none⟩,
          ⟨some 17, .len (.t 16), none⟩,
          ⟨some 18, .bin .eql (.t 12) (.t 17), none⟩,
          ⟨some 8, .mov (.t 18), none⟩])
       (.cond (.t 8)
       (.seq (.ops false [
            ⟨some 19, .mov (.t 0), none⟩,
            ⟨some 20, .nilchk (.t 19), none⟩,
            ⟨some 21, .faddr 3 (.t 20), none⟩,
            ⟨some 22, .load none (.t 21), none⟩,
            ⟨some 23, .bin .add (.t 22) (.c (.int .i64 1)), none⟩,
            ⟨some 24, .nilchk (.t 19), none⟩,
            ⟨some 25, .faddr 3 (.t 24), none⟩,
            ⟨none, .store none (.t 25) (.t 23), none⟩])
         (.seq (.ops false [
            ⟨some 4, .mov (.c (.int .i64 32)), none⟩])
         (.ret)))
       (.skip))))))
   (.seq (.opsS [(3, 9)] [
      ⟨some 26, .mov (.t 0), none⟩,
      ⟨some 27, .nilchk (.t 26), none⟩,
      ⟨some 28, .faddr 0 (.t 27), none⟩,
      ⟨some 29, .load none (.t 28), none⟩,
      ⟨some 30, .mov (.t 0), none⟩,
      ⟨some 31, .mov (.t 0), none⟩,
      ⟨some 32, .nilchk (.t 31), none⟩,
      ⟨some 33, .faddr 2 (.t 32), none⟩,
      ⟨some 34, .load none (.t 33), none⟩,
      ⟨some 35, .call true 42 [(.t 30), (.t 34)], none⟩,
      ⟨some 36, .ldI (some 3) (.t 3), none⟩,
      ⟨some 37, .iaddr (some 3) (.t 29) (.t 35), none⟩,
      ⟨none, .store (some 3) (.t 37) (.t 36), none⟩])
   (.seq (.ops false [
      ⟨some 38, .mov (.t 0), none⟩,
      ⟨some 39, .nilchk (.t 38), none⟩,
      ⟨some 40, .faddr 2 (.t 39), none⟩,
      ⟨some 41, .load none (.t 40), none⟩,
      ⟨some 42, .bin .add (.t 41) (.c (.int .i64 1)), none⟩,
      ⟨some 43, .nilchk (.t 38), none⟩,
      ⟨some 44, .faddr 2 (.t 43), none⟩,
      ⟨none, .store none (.t 44) (.t 42), none⟩])
   (.seq (.ops false [
      ⟨some 4, .mov (.c (.int .i64 0)), none⟩])
   (.ret))))))
 [.t 4]

set_option maxRecDepth 100000 in
theorem ok15 : chkFn Try.prog 15 a15 = true := by kernel_rfl

/-- (*pointsman/queue.Queue).At -/
def a20 : AFn := .mk 30
 (.seq (.ops false [
      ⟨some 4, .alloc [.int .u16 0, .str ⟨#[]⟩, .int .i64 0], none⟩,
      ⟨some 5, .mov (.c (.bool false)), none⟩])
   (.seq (.seq (.ops false [
        ⟨some 6, .mov (.t 0), none⟩,
        ⟨some 7, .eqN false 0 (.t 6) (.c (.nilp)), none⟩,
        ⟨some 8, .mov (.t 7), none⟩,
        ⟨some 9, .mov (.t 1), some (8, false)⟩,
        ⟨some 10, .bin .lss (.t 9) (.c (.int .i64 0)), some (8, false)⟩,
        ⟨some 11, .pick (.t 8) (.c (.bool true)) (.t 10), none⟩,
        ⟨some 12, .mov (.t 11), none⟩,
        ⟨some 13, .mov (.t 1), some (12, false)⟩,
        ⟨some 14, .mov (.t 0), some (12, false)⟩,
        ⟨some 15, .nilchk (.t 14), some (12, false)⟩,
        ⟨some 16, .faddr 2 (.t 15), some (12, false)⟩,
        ⟨some 17, .load none (.t 16), some (12, false)⟩,
        ⟨some 18, .bin .geq (.t 13) (.t 17), some (12, false)⟩,
        ⟨some 19, .pick (.t 12) (.c (.bool true)) (.t 18), none⟩])
     (.cond (.t 19)
     (.seq (.ops false [
          ⟨some 20, .build [.int .u16 0, .str ⟨#[]⟩, .int .i64 0] [], none⟩,
          ⟨none, .store (some 3) (.t 4) (.t 20), none⟩,
          ⟨some 5, .mov (.c (.bool false)), none⟩])
       (.ret))
     (.skip)))
   (.seq (.ops true [
      ⟨some 21, .mov (.t 0), none⟩,
      ⟨some 22, .nilchk (.t 21), none⟩,
      ⟨some 23, .faddr 0 (.t 22), none⟩,
      ⟨some 24, .load none (.t 23), none⟩,
      ⟨some 25, .mov (.t 0), none⟩,
      ⟨some 26, .mov (.t 1), none⟩,
      ⟨some 27, .call false 42 [(.t 25), (.t 26)], none⟩,
      ⟨some 28, .iaddr (some 3) (.t 24) (.t 27), none⟩,
      ⟨some 29, .load (some 3) (.t 28), none⟩,
      ⟨none, .store (some 3) (.t 4) (.t 29), none⟩,
      ⟨some 5, .mov (.c (.bool true)), none⟩])
   (.ret))))
 [.cell 4 (some 3), .t 5]

set_option maxRecDepth 100000 in
theorem ok20 : chkFn Try.prog 20 a20 = true := by kernel_rfl

/-- (*pointsman/queue.Queue).Pop -/
def a17 : AFn := .mk 36
 (.seq (.ops false [
      ⟨some 2, .alloc [.int .u16 0, .str ⟨#[]⟩, .int .i64 0], none⟩,
      ⟨some 3, .mov (.c (.bool false)), none⟩])
   (.seq (.ops false [
      ⟨some 7, .mov (.t 0), none⟩,
      ⟨some 8, .call true 20 [(.t 7), (.c (.int .i64 0))], none⟩,
      ⟨some 6, .mov (.t 8), none⟩,
      ⟨some 9, .extract (.t 6) 0, none⟩,
      ⟨some 10, .extract (.t 6) 1, none⟩,
      ⟨some 4, .alloc [.int .u16 0, .str ⟨#[]⟩, .int .i64 0], none⟩,
      ⟨none, .store (some 3) (.t 4) (.t 9), none⟩,
      ⟨some 5, .mov (.t 10), none⟩])
   (.seq (.seq (.ops false [
        ⟨some 11, .mov (.t 5), none⟩])
     (.cond (.t 11)
     (.seq (.ops true [
          ⟨some 12, .mov (.t 0), none⟩,
          ⟨some 13, .nilchk (.t 12), none⟩,
          ⟨some 14, .faddr 0 (.t 13), none⟩,
          ⟨some 15, .load none (.t 14), none⟩,
          ⟨some 16, .mov (.t 0), none⟩,
          ⟨some 17, .nilchk (.t 16), none⟩,
          ⟨some 18, .faddr 1 (.t 17), none⟩,
          ⟨some 19, .load none (.t 18), none⟩,
          ⟨some 20, .build [.int .u16 0, .str ⟨#[]⟩, .int .i64 0] [], none⟩,
          ⟨some 21, .iaddr (some 3) (.t 15) (.t 19), none⟩,
          ⟨none, .store (some 3) (.t 21) (.t 20), none⟩])
       (.seq (.ops false [
          ⟨some 22, .mov (.t 0), none⟩,
          ⟨some 23, .mov (.t 0), none⟩,
          ⟨some 24, .call true 42 [(.t 23), (.c (.int .i64 1))], none⟩,
          ⟨some 25, .nilchk (.t 22), none⟩,
          ⟨some 26, .faddr 1 (.t 25), none⟩,
          ⟨none, .store none (.t 26) (.t 24), none⟩])
       (.ops false [
        ⟨some 27, .mov (.t 0), none⟩,
        ⟨some 28, .nilchk (.t 27), none⟩,
        ⟨some 29, .faddr 2 (.t 28), none⟩,
        ⟨some 30, .load none (.t 29), none⟩,
        ⟨some 31, .bin .sub (.t 30) (.c (.int .i64 1)), none⟩,
        ⟨some 32, .nilchk (.t 27), none⟩,
        ⟨some 33, .faddr 2 (.t 32), none⟩,
        ⟨none, .store none (.t 33) (.t 31), none⟩])))
     (.skip)))
   (.seq (.ops false [
      ⟨some 34, .load (some 3) (.t 4), none⟩,
      ⟨some 35, .mov (.t 5), none⟩,
      ⟨none, .store (some 3) (.t 2) (.t 34), none⟩,
      ⟨some 3, .mov (.t 35), none⟩])
   (.ret)))))
 [.cell 2 (some 3), .t 3]

set_option maxRecDepth 100000 in
theorem ok17 : chkFn Try.prog 17 a17 = true := by kernel_rfl

/-- (*pointsman/queue.Queue).Len -/
def a18 : AFn := .mk 9
 (.seq (.ops false [
      ⟨some 2, .mov (.c (.int .i64 0)), none⟩])
   (.seq (.seq (.ops false [
        ⟨some 3, .mov (.t 0), none⟩,
        ⟨some 4, .eqN false 0 (.t 3) (.c (.nilp)), none⟩])
     (.cond (.t 4)
     (.seq (.ops false [
          ⟨some 2, .mov (.c (.int .i64 0)), none⟩])
       (.ret))
     (.skip)))
   (.seq (.ops false [
      ⟨some 5, .mov (.t 0), none⟩,
      ⟨some 6, .nilchk (.t 5), none⟩,
      ⟨some 7, .faddr 2 (.t 6), none⟩,
      ⟨some 8, .load none (.t 7), none⟩,
      ⟨some 2, .mov (.t 8), none⟩])
   (.ret))))
 [.t 2]

set_option maxRecDepth 100000 in
theorem ok18 : chkFn Try.prog 18 a18 = true := by kernel_rfl

/-- (*pointsman/queue.Queue).Lost -/
def a19 : AFn := .mk 9
 (.seq (.ops false [
      ⟨some 2, .mov (.c (.int .i64 0)), none⟩])
   (.seq (.seq (.ops false [
        ⟨some 3, .mov (.t 0), none⟩,
        ⟨some 4, .eqN false 0 (.t 3) (.c (.nilp)), none⟩])
     (.cond (.t 4)
     (.seq (.ops false [
          ⟨some 2, .mov (.c (.int .i64 0)), none⟩])
       (.ret))
     (.skip)))
   (.seq (.ops false [
      ⟨some 5, .mov (.t 0), none⟩,
      ⟨some 6, .nilchk (.t 5), none⟩,
      ⟨some 7, .faddr 3 (.t 6), none⟩,
      ⟨some 8, .load none (.t 7), none⟩,
      ⟨some 2, .mov (.t 8), none⟩])
   (.ret))))
 [.t 2]

set_option maxRecDepth 100000 in
theorem ok19 : chkFn Try.prog 19 a19 = true := by kernel_rfl

/-- pointsman/pointsmanlaw16.awake -/
def a11 : AFn := .mk 50
 (.seq (.ops false [
      ⟨some 0, .mov (.c (.bool false)), none⟩])
   (.seq (.ops false [
      ⟨some 7, .call true 12 [(.c (.int .i64 2))], none⟩,
      ⟨some 1, .mov (.t 7), none⟩])
   (.seq (.ops false [
      ⟨some 8, .mov (.t 1), none⟩,
      ⟨some 9, .build [.int .u16 0, .str ⟨#[]⟩, .int .i64 0] [(2, 1, (.c (.int .i64 1)))], none⟩,
      ⟨some 10, .call true 15 [(.t 8), (.t 9)], none⟩,
      ⟨some 11, .mov (.t 1), none⟩,
      ⟨some 12, .build [.int .u16 0, .str ⟨#[]⟩, .int .i64 0] [(2, 1, (.c (.int .i64 2)))], none⟩,
      ⟨some 13, .call true 15 [(.t 11), (.t 12)], none⟩,
      ⟨some 14, .mov (.t 1), none⟩,
      ⟨some 15, .build [.int .u16 0, .str ⟨#[]⟩, .int .i64 0] [(2, 1, (.c (.int .i64 3)))], none⟩,
      ⟨some 16, .call true 15 [(.t 14), (.t 15)], none⟩,
      ⟨some 2, .mov (.t 10), none⟩,
      ⟨some 3, .mov (.t 13), none⟩,
      ⟨some 4, .mov (.t 16), none⟩])
   (.seq (.ops false [
      ⟨some 18, .mov (.t 1), none⟩,
      ⟨some 19, .call true 17 [(.t 18)], none⟩,
      ⟨some 17, .mov (.t 19), none⟩,
      ⟨some 20, .extract (.t 17) 0, none⟩,
      ⟨some 21, .extract (.t 17) 1, none⟩,
      ⟨some 5, .alloc [.int .u16 0, .str ⟨#[]⟩, .int .i64 0], none⟩,
      ⟨none, .store (some 3) (.t 5) (.t 20), none⟩,
      ⟨some 6, .mov (.t 21), none⟩])
   (.seq (.ops false [
      ⟨some 22, .mov (.t 2), none⟩,
      ⟨some 23, .bin .eql (.t 22) (.c (.int .i64 0)), none⟩,
      ⟨some 24, .mov (.t 23), none⟩,
      ⟨some 25, .mov (.t 3), some (24, true)⟩,
      ⟨some 26, .bin .eql (.t 25) (.c (.int .i64 0)), some (24, true)⟩,
      ⟨some 27, .pick (.t 24) (.t 26) (.c (.bool false)), none⟩,
      ⟨some 28, .mov (.t 27), none⟩,
      ⟨some 29, .mov (.t 4), some (28, true)⟩,
      ⟨some 30, .bin .eql (.t 29) (.c (.int .i64 32)), some (28, true)⟩,
      ⟨some 31, .pick (.t 28) (.t 30) (.c (.bool false)), none⟩,
      ⟨some 32, .mov (.t 31), none⟩,
      ⟨some 33, .mov (.t 6), some (32, true)⟩,
      ⟨some 34, .pick (.t 32) (.t 33) (.c (.bool false)), none⟩,
      ⟨some 35, .mov (.t 34), none⟩,
      ⟨some 36, .faddr 2 (.t 5), some (35, true)⟩,
      ⟨some 37, .load none (.t 36), some (35, true)⟩,
      ⟨some 38, .bin .eql (.t 37) (.c (.int .i64 1)), some (35, true)⟩,
      ⟨some 39, .pick (.t 35) (.t 38) (.c (.bool false)), none⟩,
      ⟨some 40, .mov (.t 39), none⟩,
      ⟨some 41, .mov (.t 1), some (40, true)⟩,
      ⟨some 42, .call true 18 [(.t 41)], some (40, true)⟩,
      ⟨some 43, .bin .eql (.t 42) (.c (.int .i64 1)), some (40, true)⟩,
      ⟨some 44, .pick (.t 40) (.t 43) (.c (.bool false)), none⟩,
      ⟨some 45, .mov (.t 44), none⟩,
      ⟨some 46, .mov (.t 1), some (45, true)⟩,
      ⟨some 47, .call true 19 [(.t 46)], some (45, true)⟩,
      ⟨some 48, .bin .eql (.t 47) (.c (.int .i64 1)), some (45, true)⟩,
      ⟨some 49, .pick (.t 45) (.t 48) (.c (.bool false)), none⟩,
      ⟨some 0, .mov (.t 49), none⟩])
   (.ret))))))
 [.t 0]

set_option maxRecDepth 100000 in
theorem ok11 : chkFn Try.prog 11 a11 = true := by kernel_rfl

/-- pointsman/pointsmanref16.New -/
def a13 : AFn := .mk 7
 (.seq (.ops false [
      ⟨some 2, .alloc [.int .i64 0, .vec (some 3) [], .int .i64 0], none⟩])
   (.seq (.ops false [
      ⟨some 3, .mov (.t 0), none⟩,
      ⟨some 4, .max2 (.t 3) (.c (.int .i64 0)), none⟩,
      ⟨some 5, .min2 (.t 4) (.c (.int .i64 64)), none⟩,
      ⟨some 6, .build [.int .i64 0, .vec (some 3) [], .int .i64 0] [(0, 1, (.t 5))], none⟩,
      ⟨none, .store (some 3) (.t 2) (.t 6), none⟩])
   (.ret)))
 [.cell 2 (some 3)]

set_option maxRecDepth 100000 in
theorem ok13 : chkFn Try.prog 13 a13 = true := by kernel_rfl

/-- (pointsman/pointsmanref16.Queue).Push -/
def a14 : AFn := .mk 26
 (.seq (.ops false [
      ⟨some 2, .box (some 3) (.t 0) false, none⟩,
      ⟨some 3, .box (some 3) (.t 1) true, none⟩,
      ⟨some 4, .alloc [.int .i64 0, .vec (some 3) [], .int .i64 0], none⟩,
      ⟨some 5, .mov (.c (.int .i64 0)), none⟩])
   (.seq (.seq (.ops false [
        ⟨some 6, .faddr 1 (.t 2), none⟩,
        ⟨some 7, .load none (.t 6), none⟩,
        ⟨some 8, .len (.t 7), none⟩,
        ⟨some 9, .faddr 0 (.t 2), none⟩,
        ⟨some 10, .load none (.t 9), none⟩,
        ⟨some 11, .bin .geq (.t 8) (.t 10), none⟩])
     (.cond (.t 11)
     (.seq (.ops false [
          ⟨some 12, .faddr 2 (.t 2), none⟩,
          ⟨some 13, .load none (.t 12), none⟩,
          ⟨some 14, .bin .add (.t 13) (.c (.int .i64 1)), none⟩,
          ⟨some 15, .faddr 2 (.t 2), none⟩,
          ⟨none, .store none (.t 15) (.t 14), none⟩])
       (.seq (.ops false [
          ⟨some 16, .load (some 3) (.t 2), none⟩,
          ⟨none, .store (some 3) (.t 4) (.t 16), none⟩,
          ⟨some 5, .mov (.c (.int .i64 32)), none⟩])
       (.ret)))
     (.skip)))
   (.seq (.opsS [(0, 2), (0, 6), (2, 6)] [
      ⟨some 17, .bslice (some 3) [] false, none⟩,
      ⟨some 18, .faddr 1 (.t 2), none⟩,
      ⟨some 19, .load none (.t 18), none⟩,
      ⟨some 20, .append (some 3) (.t 17) (.t 19) false, none⟩,
      ⟨some 21, .ldI (some 3) (.t 3), none⟩,
      ⟨some 22, .bsliceI (some 3) [(.t 21)], none⟩,
      ⟨some 23, .append (some 3) (.t 20) (.t 22) false, none⟩,
      ⟨some 24, .faddr 1 (.t 2), none⟩,
      ⟨none, .store none (.t 24) (.t 23), none⟩])
   (.seq (.ops false [
      ⟨some 25, .load (some 3) (.t 2), none⟩,
      ⟨none, .store (some 3) (.t 4) (.t 25), none⟩,
      ⟨some 5, .mov (.c (.int .i64 0)), none⟩])
   (.ret)))))
 [.cell 4 (some 3), .t 5]

set_option maxRecDepth 100000 in
theorem ok14 : chkFn Try.prog 14 a14 = true := by kernel_rfl

/-- (pointsman/pointsmanref16.Queue).Pop -/
def a16 : AFn := .mk 22
 (.seq (.ops false [
      ⟨some 1, .box (some 3) (.t 0) false, none⟩,
      ⟨some 2, .alloc [.int .i64 0, .vec (some 3) [], .int .i64 0], none⟩,
      ⟨some 3, .alloc [.int .u16 0, .str ⟨#[]⟩, .int .i64 0], none⟩,
      ⟨some 4, .mov (.c (.bool false)), none⟩])
   (.seq (.seq (.ops false [
        ⟨some 6, .faddr 1 (.t 1), none⟩,
        ⟨some 7, .load none (.t 6), none⟩,
        ⟨some 8, .len (.t 7), none⟩,
        ⟨some 9, .bin .eql (.t 8) (.c (.int .i64 0)), none⟩])
     (.cond (.t 9)
     (.seq (.ops false [
          ⟨some 10, .load (some 3) (.t 1), none⟩,
          ⟨some 11, .build [.int .u16 0, .str ⟨#[]⟩, .int .i64 0] [], none⟩,
          ⟨none, .store (some 3) (.t 2) (.t 10), none⟩,
          ⟨none, .store (some 3) (.t 3) (.t 11), none⟩,
          ⟨some 4, .mov (.c (.bool false)), none⟩])
       (.ret))
     (.skip)))
   (.seq (.ops false [
      ⟨some 12, .faddr 1 (.t 1), none⟩,
      ⟨some 13, .load none (.t 12), none⟩,
      ⟨some 14, .iaddr (some 3) (.t 13) (.c (.int .i64 0)), none⟩,
      ⟨some 15, .load (some 3) (.t 14), none⟩,
      ⟨some 5, .alloc [.int .u16 0, .str ⟨#[]⟩, .int .i64 0], none⟩,
      ⟨none, .store (some 3) (.t 5) (.t 15), none⟩])
   (.seq (.ops false [
      ⟨some 16, .faddr 1 (.t 1), none⟩,
      ⟨some 17, .load none (.t 16), none⟩,
      ⟨some 18, .slc (some 3) (.t 17) (some (.c (.int .i64 1))) none, none⟩,
      ⟨some 19, .faddr 1 (.t 1), none⟩,
      ⟨none, .store none (.t 19) (.t 18), none⟩])
   (.seq (.opsS [(1, 2)] [
      ⟨some 20, .load (some 3) (.t 1), none⟩,
      ⟨some 21, .load (some 3) (.t 5), none⟩,
      ⟨none, .store (some 3) (.t 2) (.t 20), none⟩,
      ⟨none, .store (some 3) (.t 3) (.t 21), none⟩,
      ⟨some 4, .mov (.c (.bool true)), none⟩])
   (.ret))))))
 [.cell 2 (some 3), .cell 3 (some 3), .t 4]

set_option maxRecDepth 100000 in
theorem ok16 : chkFn Try.prog 16 a16 = true := by kernel_rfl

def b3_1 : ACode :=
  (.seq (.seq (.ops false [
        ⟨some 91, .mov (.t 17), none⟩,
        ⟨some 92, .faddr 1 (.t 6), none⟩,
        ⟨some 93, .load none (.t 92), none⟩,
        ⟨some 94, .len (.t 93), none⟩,
        ⟨some 95, .bin .leq (.t 91) (.t 94), none⟩])
     (.cond (.t 95)
     (.skip)
     (.exit 2)))
   (.seq (.block 3 (.seq (.ops false [
        ⟨some 99, .mov (.t 5), none⟩,
        ⟨some 100, .mov (.t 17), none⟩,
        ⟨some 101, .call true 20 [(.t 99), (.t 100)], none⟩,
        ⟨some 98, .mov (.t 101), none⟩,
        ⟨some 102, .extract (.t 98) 0, none⟩,
        ⟨some 103, .extract (.t 98) 1, none⟩,
        ⟨some 18, .alloc [.int .u16 0, .str ⟨#[]⟩, .int .i64 0], none⟩,
        ⟨none, .store (some 3) (.t 18) (.t 102), none⟩,
        ⟨some 19, .mov (.t 103), none⟩])
     (.seq (.ops true [
        ⟨some 104, .mov (.t 19), none⟩,
        ⟨some 105, .mov (.t 17), none⟩,
        ⟨some 106, .bin .geq (.t 105) (.c (.int .i64 0)), none⟩,
        ⟨some 107, .mov (.t 106), none⟩,
        ⟨some 108, .mov (.t 17), some (107, true)⟩,
        ⟨some 109, .faddr 1 (.t 6), some (107, true)⟩,
        ⟨some 110, .load none (.t 109), some (107, true)⟩,
        ⟨some 111, .len (.t 110), some (107, true)⟩,
        ⟨some 112, .bin .lss (.t 108) (.t 111), some (107, true)⟩,
        ⟨some 113, .pick (.t 107) (.t 112) (.c (.bool false)), none⟩,
        ⟨some 114, .eqB true (.t 104) (.t 113), none⟩,
        ⟨some 115, .mov (.t 114), none⟩,
        ⟨some 116, .mov (.t 19), some (115, false)⟩,
        ⟨some 117, .mov (.t 116), some (115, false)⟩,
        ⟨some 118, .load (some 3) (.t 18), some (117, true)⟩,
        ⟨some 119, .faddr 1 (.t 6), some (117, true)⟩,
        ⟨some 120, .load none (.t 119), some (117, true)⟩,
        ⟨some 121, .mov (.t 17), some (117, true)⟩,
        ⟨some 122, .iaddr (some 3) (.t 120) (.t 121), some (117, true)⟩,
        ⟨some 123, .load (some 3) (.t 122), some (117, true)⟩,
        ⟨some 124, .eqS true [.int, .str, .int] (.t 118) (.t 123), some (117, true)⟩,
        ⟨some 125, .pick (.t 117) (.t 124) (.c (.bool false)), some (115, false)⟩,
        ⟨some 126, .pick (.t 115) (.c (.bool true)) (.t 125), none⟩,
        ⟨some 127, .mov (.t 126), none⟩,
        ⟨some 128, .mov (.t 19), some (127, false)⟩,
        ⟨some 129, .un .not (.t 128), some (127, false)⟩,
        ⟨some 130, .mov (.t 129), some (127, false)⟩,
        ⟨some 131, .load (some 3) (.t 18), some (130, true)⟩,
        ⟨some 132, .build [.int .u16 0, .str ⟨#[]⟩, .int .i64 0] [], some (130, true)⟩,
        ⟨some 133, .eqS true [.int, .str, .int] (.t 131) (.t 132), some (130, true)⟩,
        ⟨some 134, .pick (.t 130) (.t 133) (.c (.bool false)), some (127, false)⟩,
        ⟨some 135, .pick (.t 127) (.c (.bool true)) (.t 134), none⟩])
     (.cond (.t 135)
     (.seq (.ops false [
          ⟨some 4, .mov (.c (.bool false)), none⟩])
       (.ret))
     (.skip)))))
   (.ops false [
    ⟨some 96, .mov (.t 17), none⟩,
    ⟨some 97, .bin .add (.t 96) (.c (.int .i64 1)), none⟩,
    ⟨some 17, .mov (.t 97), none⟩])))

def b3_0 : ACode :=
  (.seq (.ops false [
      ⟨some 32, .bin .lss (.t 31) (.t 30), none⟩])
   (.seq (.cond (.t 32)
     (.skip)
     (.exit 0))
   (.seq (.block 1 (.seq (.ops false [
        ⟨some 33, .iaddr (some 4) (.t 29) (.t 31), none⟩,
        ⟨some 34, .load (some 4) (.t 33), none⟩,
        ⟨some 8, .alloc [.int .i64 0, .int .u16 0, .str ⟨#[]⟩, .int .i64 0], none⟩,
        ⟨none, .store (some 4) (.t 8) (.t 34), none⟩])
     (.seq (.seq (.ops false [
          ⟨some 35, .faddr 1 (.t 8), none⟩,
          ⟨some 36, .faddr 1 (.t 35), none⟩,
          ⟨some 37, .load none (.t 36), none⟩,
          ⟨some 38, .slen (.t 37), none⟩,
          ⟨some 39, .bin .gtr (.t 38) (.c (.int .i64 100)), none⟩])
       (.cond (.t 39)
       (.seq (.ops false [
            ⟨some 4, .mov (.c (.bool true)), none⟩])
         (.ret))
       (.skip)))
     (.seq (.seq (.ops false [
          ⟨some 40, .faddr 0 (.t 8), none⟩,
          ⟨some 41, .load none (.t 40), none⟩,
          ⟨some 42, .bin .eql (.t 41) (.c (.int .i64 0)), none⟩])
       (.cond (.t 42)
       (.seq (.ops false [
            ⟨some 44, .load (some 3) (.t 6), none⟩,
            ⟨some 45, .faddr 1 (.t 8), none⟩,
            ⟨some 46, .load (some 3) (.t 45), none⟩,
            ⟨some 47, .call false 14 [(.t 44), (.t 46)], none⟩,
            ⟨some 43, .mov (.t 47), none⟩,
            ⟨some 48, .extract (.t 43) 0, none⟩,
            ⟨some 49, .extract (.t 43) 1, none⟩,
            ⟨some 9, .alloc [.int .i64 0, .vec (some 3) [], .int .i64 0], none⟩,
            ⟨none, .store (some 3) (.t 9) (.t 48), none⟩,
            ⟨some 10, .mov (.t 49), none⟩])
         (.seq (.seq (.ops false [
              ⟨some 50, .mov (.t 5), none⟩,
              ⟨some 51, .faddr 1 (.t 8), none⟩,
              ⟨some 52, .load (some 3) (.t 51), none⟩,
              ⟨some 53, .call true 15 [(.t 50), (.t 52)], none⟩,
              ⟨some 11, .mov (.t 53), none⟩])
           (.seq (.ops false [
              ⟨some 54, .mov (.t 11), none⟩,
              ⟨some 55, .mov (.t 10), none⟩,
              ⟨some 56, .bin .neq (.t 54) (.t 55), none⟩])
           (.cond (.t 56)
           (.seq (.ops false [
                ⟨some 4, .mov (.c (.bool false)), none⟩])
             (.ret))
           (.skip))))
         (.ops false [
          ⟨some 57, .load (some 3) (.t 9), none⟩,
          ⟨none, .store (some 3) (.t 6) (.t 57), none⟩])))
       (.seq (.ops false [
            ⟨some 59, .load (some 3) (.t 6), none⟩,
            ⟨some 60, .call false 16 [(.t 59)], none⟩,
            ⟨some 58, .mov (.t 60), none⟩,
            ⟨some 61, .extract (.t 58) 0, none⟩,
            ⟨some 62, .extract (.t 58) 1, none⟩,
            ⟨some 63, .extract (.t 58) 2, none⟩,
            ⟨some 12, .alloc [.int .i64 0, .vec (some 3) [], .int .i64 0], none⟩,
            ⟨some 13, .alloc [.int .u16 0, .str ⟨#[]⟩, .int .i64 0], none⟩,
            ⟨none, .store (some 3) (.t 12) (.t 61), none⟩,
            ⟨none, .store (some 3) (.t 13) (.t 62), none⟩,
            ⟨some 14, .mov (.t 63), none⟩])
         (.seq (.seq (.ops false [
              ⟨some 65, .mov (.t 5), none⟩,
              ⟨some 66, .call true 17 [(.t 65)], none⟩,
              ⟨some 64, .mov (.t 66), none⟩,
              ⟨some 67, .extract (.t 64) 0, none⟩,
              ⟨some 68, .extract (.t 64) 1, none⟩,
              ⟨some 15, .alloc [.int .u16 0, .str ⟨#[]⟩, .int .i64 0], none⟩,
              ⟨none, .store (some 3) (.t 15) (.t 67), none⟩,
              ⟨some 16, .mov (.t 68), none⟩])
           (.seq (.ops false [
              ⟨some 69, .mov (.t 16), none⟩,
              ⟨some 70, .mov (.t 14), none⟩,
              ⟨some 71, .eqB true (.t 69) (.t 70), none⟩,
              ⟨some 72, .mov (.t 71), none⟩,
              ⟨some 73, .load (some 3) (.t 13), some (72, false)⟩,
              ⟨some 74, .load (some 3) (.t 15), some (72, false)⟩,
              ⟨some 75, .eqS true [.int, .str, .int] (.t 73) (.t 74), some (72, false)⟩,
              ⟨some 76, .pick (.t 72) (.c (.bool true)) (.t 75), none⟩])
           (.cond (.t 76)
           (.seq (.ops false [
                ⟨some 4, .mov (.c (.bool false)), none⟩])
             (.ret))
           (.skip))))
         (.ops false [
          ⟨some 77, .load (some 3) (.t 12), none⟩,
          ⟨none, .store (some 3) (.t 6) (.t 77), none⟩])))))
     (.seq (.seq (.opsS [(1, 3), (1, 8), (3, 8), (1, 10), (8, 10)] [
          ⟨some 78, .mov (.t 5), none⟩,
          ⟨some 79, .call true 18 [(.t 78)], none⟩,
          ⟨some 80, .faddr 1 (.t 6), none⟩,
          ⟨some 81, .load none (.t 80), none⟩,
          ⟨some 82, .len (.t 81), none⟩,
          ⟨some 83, .bin .neq (.t 79) (.t 82), none⟩,
          ⟨some 84, .mov (.t 83), none⟩,
          ⟨some 85, .mov (.t 5), some (84, false)⟩,
          ⟨some 86, .call true 19 [(.t 85)], some (84, false)⟩,
          ⟨some 87, .faddr 2 (.t 6), some (84, false)⟩,
          ⟨some 88, .load none (.t 87), some (84, false)⟩,
          ⟨some 89, .bin .neq (.t 86) (.t 88), some (84, false)⟩,
          ⟨some 90, .pick (.t 84) (.c (.bool true)) (.t 89), none⟩])
       (.cond (.t 90)
       (.seq (.ops false [
            ⟨some 4, .mov (.c (.bool false)), none⟩])
         (.ret))
       (.skip)))
     (.seq (.ops false [
        ⟨some 17, .mov (.c (.int .i64 (-1))), none⟩])
     (.block 2 (.loop b3_1))))))))
   (.ops false [
    ⟨some 136, .bin .add (.t 31) (.c (.int .i64 1)), none⟩,
    ⟨some 31, .mov (.t 136), none⟩]))))

/-- pointsman/pointsmanlaw16.QueueRuns -/
def a3 : AFn := .mk 137
 (.seq (.ops false [
      ⟨some 4, .mov (.c (.bool false)), none⟩])
   (.seq (.seq (.ops false [
        ⟨some 20, .call false 11 [], none⟩,
        ⟨some 21, .un .not (.t 20), none⟩])
     (.cond (.t 21)
     (.seq (.ops false [
          ⟨some 4, .mov (.c (.bool false)), none⟩])
       (.ret))
     (.skip)))
   (.seq (.seq (.ops false [
        ⟨some 22, .mov (.t 1), none⟩,
        ⟨some 23, .len (.t 22), none⟩,
        ⟨some 24, .bin .gtr (.t 23) (.c (.int .i64 200)), none⟩])
     (.cond (.t 24)
     (.seq (.ops false [
          ⟨some 4, .mov (.c (.bool true)), none⟩])
       (.ret))
     (.skip)))
   (.seq (.ops false [
      ⟨some 25, .mov (.t 0), none⟩,
      ⟨some 26, .call true 12 [(.t 25)], none⟩,
      ⟨some 27, .mov (.t 0), none⟩,
      ⟨some 28, .call false 13 [(.t 27)], none⟩,
      ⟨some 6, .alloc [.int .i64 0, .vec (some 3) [], .int .i64 0], none⟩,
      ⟨some 5, .mov (.t 26), none⟩,
      ⟨none, .store (some 3) (.t 6) (.t 28), none⟩])
   (.seq (.seq (.ops false [
        ⟨some 29, .mov (.t 1), none⟩,
        ⟨some 30, .len (.t 29), none⟩,
        ⟨some 31, .mov (.c (.int .i64 0)), none⟩])
     (.block 0 (.loop b3_0)))
   (.seq (.ops false [
      ⟨some 4, .mov (.c (.bool true)), none⟩])
   (.ret)))))))
 [.t 4]

set_option maxRecDepth 100000 in
theorem ok3 : chkFn Try.prog 3 a3 = true := by kernel_rfl

def b4_0 : ACode :=
  (.seq (.ops false [
      ⟨some 27, .bin .lss (.t 26) (.t 25), none⟩])
   (.seq (.cond (.t 27)
     (.skip)
     (.exit 0))
   (.seq (.block 1 (.seq (.ops false [
        ⟨some 28, .iaddr (some 4) (.t 24) (.t 26), none⟩,
        ⟨some 29, .load (some 4) (.t 28), none⟩,
        ⟨some 10, .alloc [.int .i64 0, .int .u16 0, .str ⟨#[]⟩, .int .i64 0], none⟩,
        ⟨none, .store (some 4) (.t 10) (.t 29), none⟩])
     (.seq (.seq (.ops false [
          ⟨some 30, .faddr 1 (.t 10), none⟩,
          ⟨some 31, .faddr 1 (.t 30), none⟩,
          ⟨some 32, .load none (.t 31), none⟩,
          ⟨some 33, .slen (.t 32), none⟩,
          ⟨some 34, .bin .gtr (.t 33) (.c (.int .i64 100)), none⟩])
       (.cond (.t 34)
       (.seq (.ops false [
            ⟨some 4, .mov (.c (.bool true)), none⟩])
         (.ret))
       (.skip)))
     (.seq (.ops false [
        ⟨some 35, .faddr 0 (.t 10), none⟩,
        ⟨some 36, .load none (.t 35), none⟩,
        ⟨some 37, .bin .eql (.t 36) (.c (.int .i64 0)), none⟩])
     (.cond (.t 37)
     (.seq (.ops false [
          ⟨some 38, .mov (.t 8), none⟩,
          ⟨some 39, .bin .add (.t 38) (.c (.int .i64 1)), none⟩,
          ⟨some 8, .mov (.t 39), none⟩])
       (.seq (.ops false [
          ⟨some 40, .mov (.t 5), none⟩,
          ⟨some 41, .faddr 1 (.t 10), none⟩,
          ⟨some 42, .load (some 3) (.t 41), none⟩,
          ⟨some 43, .call true 15 [(.t 40), (.t 42)], none⟩,
          ⟨some 44, .bin .eql (.t 43) (.c (.int .i64 0)), none⟩])
       (.cond (.t 44)
       (.ops false [
          ⟨some 45, .mov (.t 6), none⟩,
          ⟨some 46, .faddr 1 (.t 10), none⟩,
          ⟨some 47, .load (some 3) (.t 46), none⟩,
          ⟨some 48, .bsliceI (some 3) [(.t 47)], none⟩,
          ⟨some 49, .append (some 3) (.t 45) (.t 48) false, none⟩,
          ⟨some 6, .mov (.t 49), none⟩])
       (.skip))))
     (.seq (.ops false [
          ⟨some 51, .mov (.t 5), none⟩,
          ⟨some 52, .call true 17 [(.t 51)], none⟩,
          ⟨some 50, .mov (.t 52), none⟩,
          ⟨some 53, .extract (.t 50) 0, none⟩,
          ⟨some 54, .extract (.t 50) 1, none⟩,
          ⟨some 11, .alloc [.int .u16 0, .str ⟨#[]⟩, .int .i64 0], none⟩,
          ⟨none, .store (some 3) (.t 11) (.t 53), none⟩,
          ⟨some 12, .mov (.t 54), none⟩])
       (.seq (.ops false [
          ⟨some 55, .mov (.t 12), none⟩])
       (.cond (.t 55)
       (.ops false [
          ⟨some 56, .mov (.t 7), none⟩,
          ⟨some 57, .load (some 3) (.t 11), none⟩,
          ⟨some 58, .bsliceI (some 3) [(.t 57)], none⟩,
          ⟨some 59, .append (some 3) (.t 56) (.t 58) false, none⟩,
          ⟨some 7, .mov (.t 59), none⟩])
       (.skip)))))))))
   (.ops false [
    ⟨some 60, .bin .add (.t 26) (.c (.int .i64 1)), none⟩,
    ⟨some 26, .mov (.t 60), none⟩]))))

def b4_1 : ACode :=
  (.seq (.ops false [
      ⟨some 89, .bin .lss (.t 88) (.t 87), none⟩])
   (.seq (.cond (.t 89)
     (.skip)
     (.exit 2))
   (.seq (.block 3 (.seq (.ops false [
        ⟨some 90, .mov (.t 88), none⟩,
        ⟨some 91, .iaddr (some 3) (.t 86) (.t 88), none⟩,
        ⟨some 92, .load (some 3) (.t 91), none⟩,
        ⟨some 14, .alloc [.int .u16 0, .str ⟨#[]⟩, .int .i64 0], none⟩,
        ⟨some 13, .mov (.t 90), none⟩,
        ⟨none, .store (some 3) (.t 14) (.t 92), none⟩])
     (.seq (.seq (.ops true [
          ⟨some 93, .mov (.t 13), none⟩,
          ⟨some 94, .mov (.t 7), none⟩,
          ⟨some 95, .len (.t 94), none⟩,
          ⟨some 96, .bin .lss (.t 93) (.t 95), none⟩,
          ⟨some 97, .mov (.t 96), none⟩,
          ⟨some 98, .mov (.t 7), some (97, true)⟩,
          ⟨some 99, .mov (.t 13), some (97, true)⟩,
          ⟨some 100, .iaddr (some 3) (.t 98) (.t 99), some (97, true)⟩,
          ⟨some 101, .load (some 3) (.t 100), some (97, true)⟩,
          ⟨some 102, .load (some 3) (.t 14), some (97, true)⟩,
          ⟨some 103, .eqS true [.int, .str, .int] (.t 101) (.t 102), some (97, true)⟩,
          ⟨some 104, .pick (.t 97) (.t 103) (.c (.bool false)), none⟩])
       (.cond (.t 104)
       (.seq (.ops false [
            ⟨some 4, .mov (.c (.bool false)), none⟩])
         (.ret))
       (.skip)))
     (.seq (.ops false [
        ⟨some 106, .mov (.t 5), none⟩,
        ⟨some 107, .mov (.t 13), none⟩,
        ⟨some 108, .mov (.t 7), none⟩,
        ⟨some 109, .len (.t 108), none⟩,
        ⟨some 110, .bin .sub (.t 107) (.t 109), none⟩,
        ⟨some 111, .call true 20 [(.t 106), (.t 110)], none⟩,
        ⟨some 105, .mov (.t 111), none⟩,
        ⟨some 112, .extract (.t 105) 0, none⟩,
        ⟨some 113, .extract (.t 105) 1, none⟩,
        ⟨some 15, .alloc [.int .u16 0, .str ⟨#[]⟩, .int .i64 0], none⟩,
        ⟨none, .store (some 3) (.t 15) (.t 112), none⟩,
        ⟨some 16, .mov (.t 113), none⟩])
     (.seq (.ops false [
        ⟨some 114, .mov (.t 13), none⟩,
        ⟨some 115, .mov (.t 7), none⟩,
        ⟨some 116, .len (.t 115), none⟩,
        ⟨some 117, .bin .geq (.t 114) (.t 116), none⟩,
        ⟨some 118, .mov (.t 117), none⟩,
        ⟨some 119, .mov (.t 16), some (118, true)⟩,
        ⟨some 120, .un .not (.t 119), some (118, true)⟩,
        ⟨some 121, .mov (.t 120), some (118, true)⟩,
        ⟨some 122, .load (some 3) (.t 14), some (121, false)⟩,
        ⟨some 123, .load (some 3) (.t 15), some (121, false)⟩,
        ⟨some 124, .eqS true [.int, .str, .int] (.t 122) (.t 123), some (121, false)⟩,
        ⟨some 125, .pick (.t 121) (.c (.bool true)) (.t 124), some (118, true)⟩,
        ⟨some 126, .pick (.t 118) (.t 125) (.c (.bool false)), none⟩])
     (.cond (.t 126)
     (.seq (.ops false [
          ⟨some 4, .mov (.c (.bool false)), none⟩])
       (.ret))
     (.skip)))))))
   (.ops false [
    ⟨some 127, .bin .add (.t 88) (.c (.int .i64 1)), none⟩,
    ⟨some 88, .mov (.t 127), none⟩]))))

/-- pointsman/pointsmanlaw16.QueueOrder -/
def a4 : AFn := .mk 128
 (.seq (.ops false [
      ⟨some 4, .mov (.c (.bool false)), none⟩])
   (.seq (.seq (.ops false [
        ⟨some 17, .call false 11 [], none⟩,
        ⟨some 18, .un .not (.t 17), none⟩])
     (.cond (.t 18)
     (.seq (.ops false [
          ⟨some 4, .mov (.c (.bool false)), none⟩])
       (.ret))
     (.skip)))
   (.seq (.seq (.ops false [
        ⟨some 19, .mov (.t 1), none⟩,
        ⟨some 20, .len (.t 19), none⟩,
        ⟨some 21, .bin .gtr (.t 20) (.c (.int .i64 200)), none⟩])
     (.cond (.t 21)
     (.seq (.ops false [
          ⟨some 4, .mov (.c (.bool true)), none⟩])
       (.ret))
     (.skip)))
   (.seq (.ops false [
      ⟨some 22, .mov (.t 0), none⟩,
      ⟨some 23, .call true 12 [(.t 22)], none⟩,
      ⟨some 5, .mov (.t 23), none⟩])
   (.seq (.ops false [
      ⟨some 6, .mov (.c (.nils)), none⟩,
      ⟨some 7, .mov (.c (.nils)), none⟩])
   (.seq (.ops false [
      ⟨some 8, .mov (.c (.int .i64 0)), none⟩])
   (.seq (.seq (.ops false [
        ⟨some 24, .mov (.t 1), none⟩,
        ⟨some 25, .len (.t 24), none⟩,
        ⟨some 26, .mov (.c (.int .i64 0)), none⟩])
     (.block 0 (.loop b4_0)))
   (.seq (.seq (.ops false [
        ⟨some 61, .mov (.t 8), none⟩,
        ⟨some 62, .mov (.t 7), none⟩,
        ⟨some 63, .len (.t 62), none⟩,
        ⟨some 64, .mov (.t 5), none⟩,
        ⟨some 65, .call true 18 [(.t 64)], none⟩,
        ⟨some 66, .bin .add (.t 63) (.t 65), none⟩,
        ⟨some 67, .mov (.t 5), none⟩,
        ⟨some 68, .call true 19 [(.t 67)], none⟩,
        ⟨some 69, .bin .add (.t 66) (.t 68), none⟩,
        ⟨some 70, .bin .neq (.t 61) (.t 69), none⟩,
        ⟨some 71, .mov (.t 70), none⟩,
        ⟨some 72, .mov (.t 6), some (71, false)⟩,
        ⟨some 73, .len (.t 72), some (71, false)⟩,
        ⟨some 74, .mov (.t 7), some (71, false)⟩,
        ⟨some 75, .len (.t 74), some (71, false)⟩,
        ⟨some 76, .mov (.t 5), some (71, false)⟩,
        ⟨some 77, .call true 18 [(.t 76)], some (71, false)⟩,
        ⟨some 78, .bin .add (.t 75) (.t 77), some (71, false)⟩,
        ⟨some 79, .bin .neq (.t 73) (.t 78), some (71, false)⟩,
        ⟨some 80, .pick (.t 71) (.c (.bool true)) (.t 79), none⟩,
        ⟨some 81, .mov (.t 80), none⟩,
        ⟨some 82, .mov (.t 5), some (81, false)⟩,
        ⟨some 83, .call true 18 [(.t 82)], some (81, false)⟩,
        ⟨some 84, .bin .gtr (.t 83) (.c (.int .i64 64)), some (81, false)⟩,
        ⟨some 85, .pick (.t 81) (.c (.bool true)) (.t 84), none⟩])
     (.cond (.t 85)
     (.seq (.ops false [
          ⟨some 4, .mov (.c (.bool false)), none⟩])
       (.ret))
     (.skip)))
   (.seq (.seq (.ops false [
        ⟨some 86, .mov (.t 6), none⟩,
        ⟨some 87, .len (.t 86), none⟩,
        ⟨some 88, .mov (.c (.int .i64 0)), none⟩])
     (.block 2 (.loop b4_1)))
   (.seq (.ops false [
      ⟨some 4, .mov (.c (.bool true)), none⟩])
   (.ret)))))))))))
 [.t 4]

set_option maxRecDepth 100000 in
theorem ok4 : chkFn Try.prog 4 a4 = true := by kernel_rfl

end Go.AM
