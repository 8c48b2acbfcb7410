import Derived.Test.YtjdaaclkihjjnaaAmN7
import Derived.Test.YtjdaaclkihjjnaaFrT
import Derived.Test.YtjdaaclkihjjnaaProg
/-  What they are in the program: data and code. -/
set_option linter.unusedVariables false
set_option linter.unusedSimpArgs false
namespace Go.AM
open Go Go.RowKit Go.Proofs

def eapi_Port (x : api_Port) : D := .agg ((D.int .u16) x.Sw :: ((D.int .u16) x.Pt :: []))

def eapi_Frame (x : api_Frame) : D := .agg (((eA8 (D.int .u16)) x.P).cells ++ (D.bool x.Tagged :: ((D.int .u16) x.Tag :: ((D.int .u64) x.Digest :: []))))

def eframe_reader (x : frame_reader) : D := .agg (D.str x.s :: [])

theorem eqS_api_Frame (x y : api_Frame) : eqSV [.int, .int, .int, .int, .int, .int, .int, .int, .bool, .int, .int] (.d (eapi_Frame x)) (.d (eapi_Frame y)) = some (x == y) := by
  refine (eqSV_agg rfl rfl (eqT_cons rfl (eqT_cons rfl (eqT_cons rfl (eqT_cons rfl (eqT_cons rfl (eqT_cons rfl (eqT_cons rfl (eqT_cons rfl (eqT_cons rfl (eqT_cons rfl (eqT_cons rfl rfl)))))))))))).trans (congrArg some ?_)
  rw [Bool.eq_iff_iff]
  obtain ⟨⟨x00, x01, x02, x03, x04, x05, x06, x07⟩, x1, x2, x3⟩ := x
  obtain ⟨⟨y00, y01, y02, y03, y04, y05, y06, y07⟩, y1, y2, y3⟩ := y
  simp [ba_toList_inj, and_assoc]

/-- pointsman/packet.To -/
def a49 : AFn := .mk 12
 (.seq (.ops false [
      ⟨some 2, .box (some 8) (.t 0) false, none⟩,
      ⟨some 3, .box (some 2) (.t 1) true, none⟩,
      ⟨some 4, .alloc [.int .u16 0, .int .u16 0, .int .u16 0, .int .u16 0, .int .u16 0, .int .u16 0, .int .u16 0, .int .u16 0], none⟩])
   (.seq (.ops true [
      ⟨some 5, .faddr 0 (.t 3), none⟩,
      ⟨some 6, .ldI none (.t 5), none⟩,
      ⟨some 7, .faddr 1 (.t 3), none⟩,
      ⟨some 8, .ldI none (.t 7), none⟩,
      ⟨some 9, .iaddrA 8 none (.t 2) (.c (.int .i64 0)), none⟩,
      ⟨none, .store none (.t 9) (.t 6), none⟩,
      ⟨some 10, .iaddrA 8 none (.t 2) (.c (.int .i64 1)), none⟩,
      ⟨none, .store none (.t 10) (.t 8), none⟩])
   (.seq (.ops false [
      ⟨some 11, .load (some 8) (.t 2), none⟩,
      ⟨none, .store (some 8) (.t 4) (.t 11), none⟩])
   (.ret))))
 [.cell 4 (some 8)]

set_option maxRecDepth 100000 in
theorem ok49 : chkFn Try.prog 49 a49 = true := by kernel_rfl

/-- pointsman/frame.Tagged -/
def a29 : AFn := .mk 13
 (.seq (.ops false [
      ⟨some 3, .box (some 8) (.t 0) true, none⟩,
      ⟨some 6, .alloc [.int .u16 0, .int .u16 0, .int .u16 0, .int .u16 0, .int .u16 0, .int .u16 0, .int .u16 0, .int .u16 0, .bool false, .int .u16 0, .int .u64 0], none⟩])
   (.seq (.ops false [
      ⟨some 7, .ldI (some 8) (.t 3), none⟩,
      ⟨some 8, .build [.int .u16 0, .int .u16 0] [], none⟩,
      ⟨some 9, .call false 49 [(.t 7), (.t 8)], none⟩,
      ⟨some 10, .mov (.t 1), none⟩,
      ⟨some 11, .mov (.t 2), none⟩,
      ⟨some 12, .build [.int .u16 0, .int .u16 0, .int .u16 0, .int .u16 0, .int .u16 0, .int .u16 0, .int .u16 0, .int .u16 0, .bool false, .int .u16 0, .int .u64 0] [(0, 8, (.t 9)), (8, 1, (.c (.bool true))), (9, 1, (.t 10)), (10, 1, (.t 11))], none⟩,
      ⟨none, .store (some 11) (.t 6) (.t 12), none⟩])
   (.ret)))
 [.cell 6 (some 11)]

set_option maxRecDepth 100000 in
theorem ok29 : chkFn Try.prog 29 a29 = true := by kernel_rfl

/-- pointsman/frame.two -/
def a46 : AFn := .mk 13
 (.seq (.ops false [
      ⟨some 4, .mov (.c (.vec none [])), none⟩])
   (.seq (.ops false [
      ⟨some 5, .mov (.t 0), none⟩,
      ⟨some 6, .mov (.t 1), none⟩,
      ⟨some 7, .bin .shr (.t 6) (.c (.int .u64 8)), none⟩,
      ⟨some 8, .convI .u8 (.t 7), none⟩,
      ⟨some 9, .mov (.t 1), none⟩,
      ⟨some 10, .convI .u8 (.t 9), none⟩,
      ⟨some 11, .bsliceI none [(.t 8), (.t 10)], none⟩,
      ⟨some 12, .append none (.t 5) (.t 11) false, none⟩,
      ⟨some 4, .mov (.t 12), none⟩])
   (.ret)))
 [.t 4]

set_option maxRecDepth 100000 in
theorem ok46 : chkFn Try.prog 46 a46 = true := by kernel_rfl

def b44_0 : ACode :=
  (.seq (.ops false [
      ⟨some 9, .bin .lss (.t 8) (.t 7), none⟩])
   (.seq (.cond (.t 9)
     (.skip)
     (.exit 0))
   (.seq (.block 1 (.seq (.ops false [
        ⟨some 10, .mov (.t 8), none⟩,
        ⟨some 11, .iaddr none (.t 6) (.t 8), none⟩,
        ⟨some 12, .load none (.t 11), none⟩,
        ⟨some 4, .mov (.t 10), none⟩,
        ⟨some 5, .mov (.t 12), none⟩])
     (.ops false [
      ⟨some 13, .mov (.t 3), none⟩,
      ⟨some 14, .mov (.t 4), none⟩,
      ⟨some 15, .bin .add (.t 14) (.c (.int .i64 1)), none⟩,
      ⟨some 16, .mov (.t 5), none⟩,
      ⟨some 17, .convI .i64 (.t 16), none⟩,
      ⟨some 18, .bin .mul (.t 15) (.t 17), none⟩,
      ⟨some 19, .bin .add (.t 13) (.t 18), none⟩,
      ⟨some 3, .mov (.t 19), none⟩])))
   (.ops false [
    ⟨some 20, .bin .add (.t 8) (.c (.int .i64 1)), none⟩,
    ⟨some 8, .mov (.t 20), none⟩]))))

/-- pointsman/frame.check -/
def a44 : AFn := .mk 24
 (.seq (.ops false [
      ⟨some 2, .mov (.c (.int .u16 0)), none⟩])
   (.seq (.ops false [
      ⟨some 3, .mov (.c (.int .i64 0)), none⟩])
   (.seq (.seq (.ops false [
        ⟨some 6, .mov (.t 0), none⟩,
        ⟨some 7, .len (.t 6), none⟩,
        ⟨some 8, .mov (.c (.int .i64 0)), none⟩])
     (.block 0 (.loop b44_0)))
   (.seq (.ops false [
      ⟨some 21, .mov (.t 3), none⟩,
      ⟨some 22, .bin .rem (.t 21) (.c (.int .i64 65521)), none⟩,
      ⟨some 23, .convI .u16 (.t 22), none⟩,
      ⟨some 2, .mov (.t 23), none⟩])
   (.ret)))))
 [.t 2]

set_option maxRecDepth 100000 in
theorem ok44 : chkFn Try.prog 44 a44 = true := by kernel_rfl

def b25_0 : ACode :=
  (.seq (.ops false [
      ⟨some 12, .bin .lss (.t 11) (.t 10), none⟩])
   (.seq (.cond (.t 12)
     (.skip)
     (.exit 0))
   (.seq (.block 1 (.seq (.ops false [
        ⟨some 13, .iaddr none (.t 9) (.t 11), none⟩,
        ⟨some 14, .load none (.t 13), none⟩,
        ⟨some 5, .mov (.t 14), none⟩])
     (.ops false [
      ⟨some 15, .mov (.t 3), none⟩,
      ⟨some 16, .mov (.t 5), none⟩,
      ⟨some 17, .call true 46 [(.t 15), (.t 16)], none⟩,
      ⟨some 3, .mov (.t 17), none⟩])))
   (.ops false [
    ⟨some 18, .bin .add (.t 11) (.c (.int .i64 1)), none⟩,
    ⟨some 11, .mov (.t 18), none⟩]))))

def b25_1 : ACode :=
  (.seq (.seq (.ops false [
        ⟨some 27, .mov (.t 6), none⟩,
        ⟨some 28, .bin .geq (.t 27) (.c (.int .i64 0)), none⟩])
     (.cond (.t 28)
     (.skip)
     (.exit 2)))
   (.seq (.block 3 (.ops false [
      ⟨some 31, .mov (.t 3), none⟩,
      ⟨some 32, .faddr 10 (.t 1), none⟩,
      ⟨some 33, .ldI none (.t 32), none⟩,
      ⟨some 34, .mov (.t 6), none⟩,
      ⟨some 35, .bin .shr (.t 33) (.t 34), none⟩,
      ⟨some 36, .convI .u16 (.t 35), none⟩,
      ⟨some 37, .call true 46 [(.t 31), (.t 36)], none⟩,
      ⟨some 3, .mov (.t 37), none⟩]))
   (.ops false [
    ⟨some 29, .mov (.t 6), none⟩,
    ⟨some 30, .bin .sub (.t 29) (.c (.int .i64 16)), none⟩,
    ⟨some 6, .mov (.t 30), none⟩])))

/-- pointsman/frame.Encode -/
def a25 : AFn := .mk 43
 (.seq (.ops false [
      ⟨some 1, .box (some 11) (.t 0) true, none⟩,
      ⟨some 2, .mov (.c (.str ⟨#[]⟩)), none⟩])
   (.seq (.ops false [
      ⟨some 7, .bslice none [(.c (.int .u8 78)), (.c (.int .u8 0))] true, none⟩,
      ⟨some 3, .mov (.t 7), none⟩])
   (.seq (.seq (.ops false [
        ⟨some 8, .faddr 0 (.t 1), none⟩,
        ⟨some 9, .slcA 8 none (.t 8) (some (.c (.int .i64 2))) none, none⟩,
        ⟨some 10, .len (.t 9), none⟩,
        ⟨some 11, .mov (.c (.int .i64 0)), none⟩])
     (.block 0 (.loop b25_0)))
   (.seq (.seq (.ops false [
        ⟨some 19, .faddr 8 (.t 1), none⟩,
        ⟨some 20, .ldI none (.t 19), none⟩])
     (.cond (.t 20)
     (.seq (.ops false [
          ⟨some 21, .mov (.t 3), none⟩,
          ⟨some 22, .iaddr none (.t 21) (.c (.int .i64 1)), none⟩,
          ⟨none, .store none (.t 22) (.c (.int .u8 1)), none⟩])
       (.seq (.ops false [
          ⟨some 23, .mov (.t 3), none⟩,
          ⟨some 24, .faddr 9 (.t 1), none⟩,
          ⟨some 25, .ldI none (.t 24), none⟩,
          ⟨some 26, .call true 46 [(.t 23), (.t 25)], none⟩,
          ⟨some 3, .mov (.t 26), none⟩])
       (.seq (.ops false [
          ⟨some 6, .mov (.c (.int .i64 48)), none⟩])
       (.block 2 (.loop b25_1)))))
     (.skip)))
   (.seq (.ops false [
      ⟨some 38, .mov (.t 3), none⟩,
      ⟨some 39, .mov (.t 3), none⟩,
      ⟨some 40, .call true 44 [(.t 39)], none⟩,
      ⟨some 41, .call true 46 [(.t 38), (.t 40)], none⟩,
      ⟨some 42, .b2s (.t 41), none⟩,
      ⟨some 2, .mov (.t 42), none⟩])
   (.ret))))))
 [.t 2]

set_option maxRecDepth 100000 in
theorem ok25 : chkFn Try.prog 25 a25 = true := by kernel_rfl

/-- (*pointsman/frame.reader).two -/
def a43 : AFn := .mk 27
 (.seq (.ops false [
      ⟨some 2, .mov (.c (.int .u16 0)), none⟩])
   (.seq (.ops true [
      ⟨some 4, .mov (.t 0), none⟩,
      ⟨some 5, .nilchk (.t 4), none⟩,
      ⟨some 6, .faddr 0 (.t 5), none⟩,
      ⟨some 7, .load none (.t 6), none⟩,
      ⟨some 8, .idxS (.t 7) (.c (.int .i64 0)), none⟩,
      ⟨some 9, .convI .u16 (.t 8), none⟩,
      ⟨some 10, .bin .shl (.t 9) (.c (.int .u64 8)), none⟩,
      ⟨some 11, .mov (.t 0), none⟩,
      ⟨some 12, .nilchk (.t 11), none⟩,
      ⟨some 13, .faddr 0 (.t 12), none⟩,
      ⟨some 14, .load none (.t 13), none⟩,
      ⟨some 15, .idxS (.t 14) (.c (.int .i64 1)), none⟩,
      ⟨some 16, .convI .u16 (.t 15), none⟩,
      ⟨some 17, .bin .or (.t 10) (.t 16), none⟩,
      ⟨some 3, .mov (.t 17), none⟩])
   (.seq (.ops false [
      ⟨some 18, .mov (.t 0), none⟩,
      ⟨some 19, .mov (.t 0), none⟩,
      ⟨some 20, .nilchk (.t 19), none⟩,
      ⟨some 21, .faddr 0 (.t 20), none⟩,
      ⟨some 22, .load none (.t 21), none⟩,
      ⟨some 23, .sstr (.t 22) (some (.c (.int .i64 2))) none, none⟩,
      ⟨some 24, .nilchk (.t 18), none⟩,
      ⟨some 25, .faddr 0 (.t 24), none⟩,
      ⟨none, .store none (.t 25) (.t 23), none⟩])
   (.seq (.ops false [
      ⟨some 26, .mov (.t 3), none⟩,
      ⟨some 2, .mov (.t 26), none⟩])
   (.ret)))))
 [.t 2]

set_option maxRecDepth 100000 in
theorem ok43 : chkFn Try.prog 43 a43 = true := by kernel_rfl

def b23_0 : ACode :=
  (.seq (.seq (.ops false [
        ⟨some 51, .mov (.t 9), none⟩,
        ⟨some 52, .bin .lss (.t 51) (.c (.int .i64 8)), none⟩])
     (.cond (.t 52)
     (.skip)
     (.exit 1)))
   (.seq (.block 2 (.ops false [
      ⟨some 55, .mov (.t 9), none⟩,
      ⟨some 56, .call true 43 [(.t 8)], none⟩,
      ⟨some 57, .faddr 0 (.t 7), none⟩,
      ⟨some 58, .iaddrA 8 none (.t 57) (.t 55), none⟩,
      ⟨none, .store none (.t 58) (.t 56), none⟩]))
   (.ops false [
    ⟨some 53, .mov (.t 9), none⟩,
    ⟨some 54, .bin .add (.t 53) (.c (.int .i64 1)), none⟩,
    ⟨some 9, .mov (.t 54), none⟩])))

def b23_1 : ACode :=
  (.seq (.ops false [
      ⟨some 64, .bin .lss (.t 63) (.c (.int .i64 4)), none⟩])
   (.seq (.cond (.t 64)
     (.skip)
     (.exit 3))
   (.seq (.block 4 (.opsS [(1, 3)] [
      ⟨some 65, .faddr 10 (.t 7), none⟩,
      ⟨some 66, .load none (.t 65), none⟩,
      ⟨some 67, .bin .shl (.t 66) (.c (.int .u64 16)), none⟩,
      ⟨some 68, .call true 43 [(.t 8)], none⟩,
      ⟨some 69, .convI .u64 (.t 68), none⟩,
      ⟨some 70, .bin .or (.t 67) (.t 69), none⟩,
      ⟨some 71, .faddr 10 (.t 7), none⟩,
      ⟨none, .store none (.t 71) (.t 70), none⟩]))
   (.ops false [
    ⟨some 72, .bin .add (.t 63) (.c (.int .i64 1)), none⟩,
    ⟨some 63, .mov (.t 72), none⟩]))))

/-- pointsman/frame.Decode -/
def a23 : AFn := .mk 74
 (.seq (.ops false [
      ⟨some 2, .alloc [.int .u16 0, .int .u16 0, .int .u16 0, .int .u16 0, .int .u16 0, .int .u16 0, .int .u16 0, .int .u16 0, .bool false, .int .u16 0, .int .u64 0], none⟩,
      ⟨some 3, .mov (.c (.int .i64 0)), none⟩])
   (.seq (.ops false [
      ⟨some 4, .mov (.c (.int .u8 0)), none⟩])
   (.seq (.seq (.ops false [
        ⟨some 10, .mov (.t 0), none⟩,
        ⟨some 11, .slen (.t 10), none⟩])
     (.block 0 (.seq (.ops false [
        ⟨some 14, .bin .eql (.t 11) (.c (.int .i64 16)), none⟩,
        ⟨some 13, .mov (.t 14), none⟩])
     (.cond (.t 13)
     (.skip)
     (.seq (.ops false [
          ⟨some 16, .bin .eql (.t 11) (.c (.int .i64 26)), none⟩,
          ⟨some 15, .mov (.t 16), none⟩])
       (.cond (.t 15)
       (.ops false [
          ⟨some 4, .mov (.c (.int .u8 1)), none⟩])
       (.seq (.ops false [
            ⟨some 12, .build [.int .u16 0, .int .u16 0, .int .u16 0, .int .u16 0, .int .u16 0, .int .u16 0, .int .u16 0, .int .u16 0, .bool false, .int .u16 0, .int .u64 0] [], none⟩,
            ⟨none, .store (some 11) (.t 2) (.t 12), none⟩,
            ⟨some 3, .mov (.c (.int .i64 30)), none⟩])
         (.ret))))))))
   (.seq (.ops false [
      ⟨some 17, .mov (.t 0), none⟩,
      ⟨some 18, .mov (.t 0), none⟩,
      ⟨some 19, .slen (.t 18), none⟩,
      ⟨some 20, .bin .sub (.t 19) (.c (.int .i64 2)), none⟩,
      ⟨some 21, .sstr (.t 17) none (some (.t 20)), none⟩,
      ⟨some 5, .mov (.t 21), none⟩])
   (.seq (.ops false [
      ⟨some 22, .mov (.t 0), none⟩,
      ⟨some 23, .mov (.t 0), none⟩,
      ⟨some 24, .slen (.t 23), none⟩,
      ⟨some 25, .bin .sub (.t 24) (.c (.int .i64 2)), none⟩,
      ⟨some 26, .sstr (.t 22) (some (.t 25)) none, none⟩,
      ⟨some 27, .build [.str ⟨#[]⟩] [(0, 1, (.t 26))], none⟩,
      ⟨some 6, .alloc [.str ⟨#[]⟩], none⟩,
      ⟨none, .store (some 1) (.t 6) (.t 27), none⟩])
   (.seq (.seq (.ops false [
        ⟨some 28, .mov (.t 0), none⟩,
        ⟨some 29, .idxS (.t 28) (.c (.int .i64 0)), none⟩,
        ⟨some 30, .bin .neq (.t 29) (.c (.int .u8 78)), none⟩,
        ⟨some 31, .mov (.t 30), none⟩,
        ⟨some 32, .mov (.t 0), some (31, false)⟩,
        ⟨some 33, .idxS (.t 32) (.c (.int .i64 1)), some (31, false)⟩,
        ⟨some 34, .mov (.t 4), some (31, false)⟩,
        ⟨some 35, .bin .neq (.t 33) (.t 34), some (31, false)⟩,
        ⟨some 36, .pick (.t 31) (.c (.bool true)) (.t 35), none⟩,
        ⟨some 37, .mov (.t 36), none⟩,
        ⟨some 38, .call true 43 [(.t 6)], some (37, false)⟩,
        ⟨some 39, .mov (.t 5), some (37, false)⟩,
        ⟨some 40, .s2b (.t 39) false, some (37, false)⟩,
        ⟨some 41, .call false 44 [(.t 40)], some (37, false)⟩,
        ⟨some 42, .bin .neq (.t 38) (.t 41), some (37, false)⟩,
        ⟨some 43, .pick (.t 37) (.c (.bool true)) (.t 42), none⟩])
     (.cond (.t 43)
     (.seq (.ops false [
          ⟨some 44, .build [.int .u16 0, .int .u16 0, .int .u16 0, .int .u16 0, .int .u16 0, .int .u16 0, .int .u16 0, .int .u16 0, .bool false, .int .u16 0, .int .u64 0] [], none⟩,
          ⟨none, .store (some 11) (.t 2) (.t 44), none⟩,
          ⟨some 3, .mov (.c (.int .i64 30)), none⟩])
       (.ret))
     (.skip)))
   (.seq (.ops false [
      ⟨some 45, .mov (.t 4), none⟩,
      ⟨some 46, .bin .eql (.t 45) (.c (.int .u8 1)), none⟩,
      ⟨some 47, .build [.int .u16 0, .int .u16 0, .int .u16 0, .int .u16 0, .int .u16 0, .int .u16 0, .int .u16 0, .int .u16 0, .bool false, .int .u16 0, .int .u64 0] [(8, 1, (.t 46))], none⟩,
      ⟨some 7, .alloc [.int .u16 0, .int .u16 0, .int .u16 0, .int .u16 0, .int .u16 0, .int .u16 0, .int .u16 0, .int .u16 0, .bool false, .int .u16 0, .int .u64 0], none⟩,
      ⟨none, .store (some 11) (.t 7) (.t 47), none⟩])
   (.seq (.ops false [
      ⟨some 48, .mov (.t 5), none⟩,
      ⟨some 49, .sstr (.t 48) (some (.c (.int .i64 2))) none, none⟩,
      ⟨some 50, .build [.str ⟨#[]⟩] [(0, 1, (.t 49))], none⟩,
      ⟨some 8, .alloc [.str ⟨#[]⟩], none⟩,
      ⟨none, .store (some 1) (.t 8) (.t 50), none⟩])
   (.seq (.seq (.ops false [
        ⟨some 9, .mov (.c (.int .i64 2)), none⟩])
     (.block 1 (.loop b23_0)))
   (.seq (.seq (.ops false [
        ⟨some 59, .faddr 8 (.t 7), none⟩,
        ⟨some 60, .load none (.t 59), none⟩])
     (.cond (.t 60)
     (.seq (.ops false [
          ⟨some 61, .call true 43 [(.t 8)], none⟩,
          ⟨some 62, .faddr 9 (.t 7), none⟩,
          ⟨none, .store none (.t 62) (.t 61), none⟩])
       (.seq (.ops false [
          ⟨some 63, .mov (.c (.int .i64 0)), none⟩])
       (.block 3 (.loop b23_1))))
     (.skip)))
   (.seq (.ops false [
      ⟨some 73, .load (some 11) (.t 7), none⟩,
      ⟨none, .store (some 11) (.t 2) (.t 73), none⟩,
      ⟨some 3, .mov (.c (.int .i64 0)), none⟩])
   (.ret))))))))))))
 [.cell 2 (some 11), .t 3]

set_option maxRecDepth 100000 in
theorem ok23 : chkFn Try.prog 23 a23 = true := by kernel_rfl

/-- pointsman/pointsmanlaw03.awake -/
def a22 : AFn := .mk 41
 (.seq (.ops false [
      ⟨some 0, .mov (.c (.bool false)), none⟩])
   (.seq (.ops false [
      ⟨some 4, .build [.int .u16 0, .int .u16 0, .int .u16 0, .int .u16 0, .int .u16 0, .int .u16 0, .int .u16 0, .int .u16 0] [(0, 1, (.c (.int .u16 1))), (1, 1, (.c (.int .u16 2))), (2, 1, (.c (.int .u16 3))), (3, 1, (.c (.int .u16 4)))], none⟩,
      ⟨some 5, .call false 29 [(.t 4), (.c (.int .u16 7)), (.c (.int .u64 9))], none⟩,
      ⟨some 1, .alloc [.int .u16 0, .int .u16 0, .int .u16 0, .int .u16 0, .int .u16 0, .int .u16 0, .int .u16 0, .int .u16 0, .bool false, .int .u16 0, .int .u64 0], none⟩,
      ⟨none, .store (some 11) (.t 1) (.t 5), none⟩])
   (.seq (.ops false [
      ⟨some 7, .load (some 11) (.t 1), none⟩,
      ⟨some 8, .call false 25 [(.t 7)], none⟩,
      ⟨some 9, .call false 23 [(.t 8)], none⟩,
      ⟨some 6, .mov (.t 9), none⟩,
      ⟨some 10, .extract (.t 6) 0, none⟩,
      ⟨some 11, .extract (.t 6) 1, none⟩,
      ⟨some 2, .alloc [.int .u16 0, .int .u16 0, .int .u16 0, .int .u16 0, .int .u16 0, .int .u16 0, .int .u16 0, .int .u16 0, .bool false, .int .u16 0, .int .u64 0], none⟩,
      ⟨none, .store (some 11) (.t 2) (.t 10), none⟩,
      ⟨some 3, .mov (.t 11), none⟩])
   (.seq (.ops false [
      ⟨some 12, .mov (.t 3), none⟩,
      ⟨some 13, .bin .eql (.t 12) (.c (.int .i64 0)), none⟩,
      ⟨some 14, .mov (.t 13), none⟩,
      ⟨some 15, .load (some 11) (.t 2), some (14, true)⟩,
      ⟨some 16, .load (some 11) (.t 1), some (14, true)⟩,
      ⟨some 17, .eqS false [.int, .int, .int, .int, .int, .int, .int, .int, .bool, .int, .int] (.t 15) (.t 16), some (14, true)⟩,
      ⟨some 18, .pick (.t 14) (.t 17) (.c (.bool false)), none⟩,
      ⟨some 19, .mov (.t 18), none⟩,
      ⟨some 20, .faddr 9 (.t 2), some (19, true)⟩,
      ⟨some 21, .load none (.t 20), some (19, true)⟩,
      ⟨some 22, .bin .eql (.t 21) (.c (.int .u16 7)), some (19, true)⟩,
      ⟨some 23, .pick (.t 19) (.t 22) (.c (.bool false)), none⟩,
      ⟨some 24, .mov (.t 23), none⟩,
      ⟨some 25, .faddr 10 (.t 2), some (24, true)⟩,
      ⟨some 26, .load none (.t 25), some (24, true)⟩,
      ⟨some 27, .bin .eql (.t 26) (.c (.int .u64 9)), some (24, true)⟩,
      ⟨some 28, .pick (.t 24) (.t 27) (.c (.bool false)), none⟩,
      ⟨some 29, .mov (.t 28), none⟩,
      ⟨some 30, .faddr 0 (.t 2), some (29, true)⟩,
      ⟨some 31, .iaddrA 8 none (.t 30) (.c (.int .i64 2)), some (29, true)⟩,
      ⟨some 32, .load none (.t 31), some (29, true)⟩,
      ⟨some 33, .bin .eql (.t 32) (.c (.int .u16 3)), some (29, true)⟩,
      ⟨some 34, .pick (.t 29) (.t 33) (.c (.bool false)), none⟩,
      ⟨some 35, .mov (.t 34), none⟩,
      ⟨some 36, .faddr 0 (.t 2), some (35, true)⟩,
      ⟨some 37, .iaddrA 8 none (.t 36) (.c (.int .i64 0)), some (35, true)⟩,
      ⟨some 38, .load none (.t 37), some (35, true)⟩,
      ⟨some 39, .bin .eql (.t 38) (.c (.int .u16 0)), some (35, true)⟩,
      ⟨some 40, .pick (.t 35) (.t 39) (.c (.bool false)), none⟩,
      ⟨some 0, .mov (.t 40), none⟩])
   (.ret)))))
 [.t 0]

set_option maxRecDepth 100000 in
theorem ok22 : chkFn Try.prog 22 a22 = true := by kernel_rfl

/-- pointsman/pointsmanref03.number -/
def a45 : AFn := .mk 16
 (.seq (.ops false [
      ⟨some 4, .mov (.c (.int .u16 0)), none⟩])
   (.seq (.ops true [
      ⟨some 5, .mov (.t 0), none⟩,
      ⟨some 6, .mov (.t 1), none⟩,
      ⟨some 7, .idxS (.t 5) (.t 6), none⟩,
      ⟨some 8, .convI .u16 (.t 7), none⟩,
      ⟨some 9, .bin .mul (.t 8) (.c (.int .u16 256)), none⟩,
      ⟨some 10, .mov (.t 0), none⟩,
      ⟨some 11, .mov (.t 1), none⟩,
      ⟨some 12, .bin .add (.t 11) (.c (.int .i64 1)), none⟩,
      ⟨some 13, .idxS (.t 10) (.t 12), none⟩,
      ⟨some 14, .convI .u16 (.t 13), none⟩,
      ⟨some 15, .bin .add (.t 9) (.t 14), none⟩,
      ⟨some 4, .mov (.t 15), none⟩])
   (.ret)))
 [.t 4]

set_option maxRecDepth 100000 in
theorem ok45 : chkFn Try.prog 45 a45 = true := by kernel_rfl

/-- pointsman/pointsmanref03.Two -/
def a47 : AFn := .mk 10
 (.seq (.ops false [
      ⟨some 2, .mov (.c (.vec none [])), none⟩])
   (.seq (.ops false [
      ⟨some 3, .mov (.t 0), none⟩,
      ⟨some 4, .bin .quo (.t 3) (.c (.int .u16 256)), none⟩,
      ⟨some 5, .convI .u8 (.t 4), none⟩,
      ⟨some 6, .mov (.t 0), none⟩,
      ⟨some 7, .bin .rem (.t 6) (.c (.int .u16 256)), none⟩,
      ⟨some 8, .convI .u8 (.t 7), none⟩,
      ⟨some 9, .bsliceI none [(.t 5), (.t 8)], none⟩,
      ⟨some 2, .mov (.t 9), none⟩])
   (.ret)))
 [.t 2]

set_option maxRecDepth 100000 in
theorem ok47 : chkFn Try.prog 47 a47 = true := by kernel_rfl

def b48_0 : ACode :=
  (.seq (.seq (.ops false [
        ⟨some 5, .mov (.t 4), none⟩,
        ⟨some 6, .mov (.t 0), none⟩,
        ⟨some 7, .len (.t 6), none⟩,
        ⟨some 8, .bin .lss (.t 5) (.t 7), none⟩])
     (.cond (.t 8)
     (.skip)
     (.exit 0)))
   (.seq (.block 1 (.ops false [
      ⟨some 11, .mov (.t 3), none⟩,
      ⟨some 12, .mov (.t 4), none⟩,
      ⟨some 13, .bin .add (.t 12) (.c (.int .i64 1)), none⟩,
      ⟨some 14, .mov (.t 0), none⟩,
      ⟨some 15, .mov (.t 4), none⟩,
      ⟨some 16, .iaddr none (.t 14) (.t 15), none⟩,
      ⟨some 17, .load none (.t 16), none⟩,
      ⟨some 18, .convI .i64 (.t 17), none⟩,
      ⟨some 19, .bin .mul (.t 13) (.t 18), none⟩,
      ⟨some 20, .bin .add (.t 11) (.t 19), none⟩,
      ⟨some 21, .bin .rem (.t 20) (.c (.int .i64 65521)), none⟩,
      ⟨some 3, .mov (.t 21), none⟩]))
   (.ops false [
    ⟨some 9, .mov (.t 4), none⟩,
    ⟨some 10, .bin .add (.t 9) (.c (.int .i64 1)), none⟩,
    ⟨some 4, .mov (.t 10), none⟩])))

/-- pointsman/pointsmanref03.Check -/
def a48 : AFn := .mk 24
 (.seq (.ops false [
      ⟨some 2, .mov (.c (.int .u16 0)), none⟩])
   (.seq (.ops false [
      ⟨some 3, .mov (.c (.int .i64 0)), none⟩])
   (.seq (.seq (.ops false [
        ⟨some 4, .mov (.c (.int .i64 0)), none⟩])
     (.block 0 (.loop b48_0)))
   (.seq (.ops false [
      ⟨some 22, .mov (.t 3), none⟩,
      ⟨some 23, .convI .u16 (.t 22), none⟩,
      ⟨some 2, .mov (.t 23), none⟩])
   (.ret)))))
 [.t 2]

set_option maxRecDepth 100000 in
theorem ok48 : chkFn Try.prog 48 a48 = true := by kernel_rfl

def b26_0 : ACode :=
  (.seq (.seq (.ops false [
        ⟨some 11, .mov (.t 4), none⟩,
        ⟨some 12, .bin .lss (.t 11) (.c (.int .i64 8)), none⟩])
     (.cond (.t 12)
     (.skip)
     (.exit 0)))
   (.seq (.block 1 (.ops false [
      ⟨some 15, .mov (.t 3), none⟩,
      ⟨some 16, .mov (.t 4), none⟩,
      ⟨some 17, .faddr 0 (.t 1), none⟩,
      ⟨some 18, .iaddrA 8 none (.t 17) (.t 16), none⟩,
      ⟨some 19, .ldI none (.t 18), none⟩,
      ⟨some 20, .call false 47 [(.t 19)], none⟩,
      ⟨some 21, .append none (.t 15) (.t 20) true, none⟩,
      ⟨some 3, .mov (.t 21), none⟩]))
   (.ops false [
    ⟨some 13, .mov (.t 4), none⟩,
    ⟨some 14, .bin .add (.t 13) (.c (.int .i64 1)), none⟩,
    ⟨some 4, .mov (.t 14), none⟩])))

def b26_1 : ACode :=
  (.seq (.seq (.ops false [
        ⟨some 29, .mov (.t 5), none⟩,
        ⟨some 30, .bin .geq (.t 29) (.c (.int .i64 0)), none⟩])
     (.cond (.t 30)
     (.skip)
     (.exit 2)))
   (.seq (.block 3 (.ops false [
      ⟨some 33, .mov (.t 3), none⟩,
      ⟨some 34, .faddr 10 (.t 1), none⟩,
      ⟨some 35, .ldI none (.t 34), none⟩,
      ⟨some 36, .mov (.t 5), none⟩,
      ⟨some 37, .bin .mul (.c (.int .i64 8)) (.t 36), none⟩,
      ⟨some 38, .bin .shr (.t 35) (.t 37), none⟩,
      ⟨some 39, .convI .u8 (.t 38), none⟩,
      ⟨some 40, .bsliceI none [(.t 39)], none⟩,
      ⟨some 41, .append none (.t 33) (.t 40) true, none⟩,
      ⟨some 3, .mov (.t 41), none⟩]))
   (.ops false [
    ⟨some 31, .mov (.t 5), none⟩,
    ⟨some 32, .bin .sub (.t 31) (.c (.int .i64 1)), none⟩,
    ⟨some 5, .mov (.t 32), none⟩])))

/-- pointsman/pointsmanref03.Encode -/
def a26 : AFn := .mk 48
 (.seq (.ops false [
      ⟨some 1, .box (some 11) (.t 0) true, none⟩,
      ⟨some 2, .mov (.c (.str ⟨#[]⟩)), none⟩])
   (.seq (.ops false [
      ⟨some 6, .bslice none [(.c (.int .u8 78)), (.c (.int .u8 0))] true, none⟩,
      ⟨some 3, .mov (.t 6), none⟩])
   (.seq (.seq (.ops false [
        ⟨some 7, .faddr 8 (.t 1), none⟩,
        ⟨some 8, .ldI none (.t 7), none⟩])
     (.cond (.t 8)
     (.ops false [
        ⟨some 9, .mov (.t 3), none⟩,
        ⟨some 10, .iaddr none (.t 9) (.c (.int .i64 1)), none⟩,
        ⟨none, .store none (.t 10) (.c (.int .u8 1)), none⟩])
     (.skip)))
   (.seq (.seq (.ops false [
        ⟨some 4, .mov (.c (.int .i64 2)), none⟩])
     (.block 0 (.loop b26_0)))
   (.seq (.seq (.ops false [
        ⟨some 22, .faddr 8 (.t 1), none⟩,
        ⟨some 23, .ldI none (.t 22), none⟩])
     (.cond (.t 23)
     (.seq (.ops false [
          ⟨some 24, .mov (.t 3), none⟩,
          ⟨some 25, .faddr 9 (.t 1), none⟩,
          ⟨some 26, .ldI none (.t 25), none⟩,
          ⟨some 27, .call false 47 [(.t 26)], none⟩,
          ⟨some 28, .append none (.t 24) (.t 27) true, none⟩,
          ⟨some 3, .mov (.t 28), none⟩])
       (.seq (.ops false [
          ⟨some 5, .mov (.c (.int .i64 7)), none⟩])
       (.block 2 (.loop b26_1))))
     (.skip)))
   (.seq (.ops false [
      ⟨some 42, .mov (.t 3), none⟩,
      ⟨some 43, .mov (.t 3), none⟩,
      ⟨some 44, .call true 48 [(.t 43)], none⟩,
      ⟨some 45, .call false 47 [(.t 44)], none⟩,
      ⟨some 46, .append none (.t 42) (.t 45) false, none⟩,
      ⟨some 47, .b2s (.t 46), none⟩,
      ⟨some 2, .mov (.t 47), none⟩])
   (.ret)))))))
 [.t 2]

set_option maxRecDepth 100000 in
theorem ok26 : chkFn Try.prog 26 a26 = true := by kernel_rfl

def b24_0 : ACode :=
  (.seq (.seq (.ops false [
        ⟨some 22, .mov (.t 6), none⟩,
        ⟨some 23, .bin .lss (.t 22) (.c (.int .i64 8)), none⟩])
     (.cond (.t 23)
     (.skip)
     (.exit 0)))
   (.seq (.block 1 (.ops false [
      ⟨some 26, .mov (.t 6), none⟩,
      ⟨some 27, .mov (.t 0), none⟩,
      ⟨some 28, .mov (.t 6), none⟩,
      ⟨some 29, .bin .mul (.c (.int .i64 2)) (.t 28), none⟩,
      ⟨some 30, .bin .sub (.t 29) (.c (.int .i64 2)), none⟩,
      ⟨some 31, .call false 45 [(.t 27), (.t 30)], none⟩,
      ⟨some 32, .faddr 0 (.t 5), none⟩,
      ⟨some 33, .iaddrA 8 none (.t 32) (.t 26), none⟩,
      ⟨none, .store none (.t 33) (.t 31), none⟩]))
   (.ops false [
    ⟨some 24, .mov (.t 6), none⟩,
    ⟨some 25, .bin .add (.t 24) (.c (.int .i64 1)), none⟩,
    ⟨some 6, .mov (.t 25), none⟩])))

def b24_1 : ACode :=
  (.seq (.seq (.ops false [
        ⟨some 39, .mov (.t 7), none⟩,
        ⟨some 40, .bin .lss (.t 39) (.c (.int .i64 24)), none⟩])
     (.cond (.t 40)
     (.skip)
     (.exit 2)))
   (.seq (.block 3 (.ops true [
      ⟨some 43, .faddr 10 (.t 5), none⟩,
      ⟨some 44, .load none (.t 43), none⟩,
      ⟨some 45, .bin .mul (.t 44) (.c (.int .u64 256)), none⟩,
      ⟨some 46, .mov (.t 0), none⟩,
      ⟨some 47, .mov (.t 7), none⟩,
      ⟨some 48, .idxS (.t 46) (.t 47), none⟩,
      ⟨some 49, .convI .u64 (.t 48), none⟩,
      ⟨some 50, .bin .add (.t 45) (.t 49), none⟩,
      ⟨some 51, .faddr 10 (.t 5), none⟩,
      ⟨none, .store none (.t 51) (.t 50), none⟩]))
   (.ops false [
    ⟨some 41, .mov (.t 7), none⟩,
    ⟨some 42, .bin .add (.t 41) (.c (.int .i64 1)), none⟩,
    ⟨some 7, .mov (.t 42), none⟩])))

/-- pointsman/pointsmanref03.Decode -/
def a24 : AFn := .mk 58
 (.seq (.ops false [
      ⟨some 2, .alloc [.int .u16 0, .int .u16 0, .int .u16 0, .int .u16 0, .int .u16 0, .int .u16 0, .int .u16 0, .int .u16 0, .bool false, .int .u16 0, .int .u64 0], none⟩,
      ⟨some 3, .mov (.c (.bool false)), none⟩])
   (.seq (.ops false [
      ⟨some 8, .build [.int .u16 0, .int .u16 0, .int .u16 0, .int .u16 0, .int .u16 0, .int .u16 0, .int .u16 0, .int .u16 0, .bool false, .int .u16 0, .int .u64 0] [], none⟩,
      ⟨some 4, .alloc [.int .u16 0, .int .u16 0, .int .u16 0, .int .u16 0, .int .u16 0, .int .u16 0, .int .u16 0, .int .u16 0, .bool false, .int .u16 0, .int .u64 0], none⟩,
      ⟨none, .store (some 11) (.t 4) (.t 8), none⟩])
   (.seq (.seq (.ops false [
        ⟨some 9, .mov (.t 0), none⟩,
        ⟨some 10, .slen (.t 9), none⟩,
        ⟨some 11, .bin .neq (.t 10) (.c (.int .i64 16)), none⟩,
        ⟨some 12, .mov (.t 11), none⟩,
        ⟨some 13, .mov (.t 0), some (12, true)⟩,
        ⟨some 14, .slen (.t 13), some (12, true)⟩,
        ⟨some 15, .bin .neq (.t 14) (.c (.int .i64 26)), some (12, true)⟩,
        ⟨some 16, .pick (.t 12) (.t 15) (.c (.bool false)), none⟩])
     (.cond (.t 16)
     (.seq (.ops false [
          ⟨some 17, .load (some 11) (.t 4), none⟩,
          ⟨none, .store (some 11) (.t 2) (.t 17), none⟩,
          ⟨some 3, .mov (.c (.bool false)), none⟩])
       (.ret))
     (.skip)))
   (.seq (.ops false [
      ⟨some 18, .mov (.t 0), none⟩,
      ⟨some 19, .slen (.t 18), none⟩,
      ⟨some 20, .bin .eql (.t 19) (.c (.int .i64 26)), none⟩,
      ⟨some 21, .build [.int .u16 0, .int .u16 0, .int .u16 0, .int .u16 0, .int .u16 0, .int .u16 0, .int .u16 0, .int .u16 0, .bool false, .int .u16 0, .int .u64 0] [(8, 1, (.t 20))], none⟩,
      ⟨some 5, .alloc [.int .u16 0, .int .u16 0, .int .u16 0, .int .u16 0, .int .u16 0, .int .u16 0, .int .u16 0, .int .u16 0, .bool false, .int .u16 0, .int .u64 0], none⟩,
      ⟨none, .store (some 11) (.t 5) (.t 21), none⟩])
   (.seq (.seq (.ops false [
        ⟨some 6, .mov (.c (.int .i64 2)), none⟩])
     (.block 0 (.loop b24_0)))
   (.seq (.seq (.ops false [
        ⟨some 34, .faddr 8 (.t 5), none⟩,
        ⟨some 35, .load none (.t 34), none⟩])
     (.cond (.t 35)
     (.seq (.ops false [
          ⟨some 36, .mov (.t 0), none⟩,
          ⟨some 37, .call false 45 [(.t 36), (.c (.int .i64 14))], none⟩,
          ⟨some 38, .faddr 9 (.t 5), none⟩,
          ⟨none, .store none (.t 38) (.t 37), none⟩])
       (.seq (.ops false [
          ⟨some 7, .mov (.c (.int .i64 16)), none⟩])
       (.block 2 (.loop b24_1))))
     (.skip)))
   (.seq (.seq (.ops false [
        ⟨some 52, .load (some 11) (.t 5), none⟩,
        ⟨some 53, .call false 26 [(.t 52)], none⟩,
        ⟨some 54, .mov (.t 0), none⟩,
        ⟨some 55, .bin .neq (.t 53) (.t 54), none⟩])
     (.cond (.t 55)
     (.seq (.ops false [
          ⟨some 56, .load (some 11) (.t 4), none⟩,
          ⟨none, .store (some 11) (.t 2) (.t 56), none⟩,
          ⟨some 3, .mov (.c (.bool false)), none⟩])
       (.ret))
     (.skip)))
   (.seq (.ops false [
      ⟨some 57, .load (some 11) (.t 5), none⟩,
      ⟨none, .store (some 11) (.t 2) (.t 57), none⟩,
      ⟨some 3, .mov (.c (.bool true)), none⟩])
   (.ret)))))))))
 [.cell 2 (some 11), .t 3]

set_option maxRecDepth 100000 in
theorem ok24 : chkFn Try.prog 24 a24 = true := by kernel_rfl

/-- pointsman/pointsmanlaw03.FrameAny -/
def a6 : AFn := .mk 46
 (.seq (.ops false [
      ⟨some 2, .mov (.c (.bool false)), none⟩])
   (.seq (.seq (.ops false [
        ⟨some 7, .call false 22 [], none⟩,
        ⟨some 8, .un .not (.t 7), none⟩])
     (.cond (.t 8)
     (.seq (.ops false [
          ⟨some 2, .mov (.c (.bool false)), none⟩])
       (.ret))
     (.skip)))
   (.seq (.seq (.ops false [
        ⟨some 9, .mov (.t 0), none⟩,
        ⟨some 10, .slen (.t 9), none⟩,
        ⟨some 11, .bin .gtr (.t 10) (.c (.int .i64 300)), none⟩])
     (.cond (.t 11)
     (.seq (.ops false [
          ⟨some 2, .mov (.c (.bool true)), none⟩])
       (.ret))
     (.skip)))
   (.seq (.ops false [
      ⟨some 13, .mov (.t 0), none⟩,
      ⟨some 14, .call false 23 [(.t 13)], none⟩,
      ⟨some 12, .mov (.t 14), none⟩,
      ⟨some 15, .extract (.t 12) 0, none⟩,
      ⟨some 16, .extract (.t 12) 1, none⟩,
      ⟨some 3, .alloc [.int .u16 0, .int .u16 0, .int .u16 0, .int .u16 0, .int .u16 0, .int .u16 0, .int .u16 0, .int .u16 0, .bool false, .int .u16 0, .int .u64 0], none⟩,
      ⟨none, .store (some 11) (.t 3) (.t 15), none⟩,
      ⟨some 4, .mov (.t 16), none⟩])
   (.seq (.ops false [
      ⟨some 18, .mov (.t 0), none⟩,
      ⟨some 19, .call false 24 [(.t 18)], none⟩,
      ⟨some 17, .mov (.t 19), none⟩,
      ⟨some 20, .extract (.t 17) 0, none⟩,
      ⟨some 21, .extract (.t 17) 1, none⟩,
      ⟨some 5, .alloc [.int .u16 0, .int .u16 0, .int .u16 0, .int .u16 0, .int .u16 0, .int .u16 0, .int .u16 0, .int .u16 0, .bool false, .int .u16 0, .int .u64 0], none⟩,
      ⟨none, .store (some 11) (.t 5) (.t 20), none⟩,
      ⟨some 6, .mov (.t 21), none⟩])
   (.seq (.seq (.ops false [
        ⟨some 22, .mov (.t 4), none⟩,
        ⟨some 23, .bin .eql (.t 22) (.c (.int .i64 0)), none⟩,
        ⟨some 24, .mov (.t 6), none⟩,
        ⟨some 25, .eqB true (.t 23) (.t 24), none⟩,
        ⟨some 26, .mov (.t 25), none⟩,
        ⟨some 27, .load (some 11) (.t 3), some (26, false)⟩,
        ⟨some 28, .load (some 11) (.t 5), some (26, false)⟩,
        ⟨some 29, .eqS true [.int, .int, .int, .int, .int, .int, .int, .int, .bool, .int, .int] (.t 27) (.t 28), some (26, false)⟩,
        ⟨some 30, .pick (.t 26) (.c (.bool true)) (.t 29), none⟩])
     (.cond (.t 30)
     (.seq (.ops false [
          ⟨some 2, .mov (.c (.bool false)), none⟩])
       (.ret))
     (.skip)))
   (.seq (.ops false [
      ⟨some 31, .mov (.t 6), none⟩,
      ⟨some 32, .mov (.t 31), none⟩,
      ⟨some 33, .load (some 11) (.t 3), some (32, true)⟩,
      ⟨some 34, .call false 25 [(.t 33)], some (32, true)⟩,
      ⟨some 35, .mov (.t 0), some (32, true)⟩,
      ⟨some 36, .bin .eql (.t 34) (.t 35), some (32, true)⟩,
      ⟨some 37, .pick (.t 32) (.t 36) (.c (.bool false)), none⟩,
      ⟨some 38, .mov (.t 37), none⟩,
      ⟨some 39, .mov (.t 6), some (38, false)⟩,
      ⟨some 40, .un .not (.t 39), some (38, false)⟩,
      ⟨some 41, .mov (.t 40), some (38, false)⟩,
      ⟨some 42, .mov (.t 4), some (41, true)⟩,
      ⟨some 43, .bin .eql (.t 42) (.c (.int .i64 30)), some (41, true)⟩,
      ⟨some 44, .pick (.t 41) (.t 43) (.c (.bool false)), some (38, false)⟩,
      ⟨some 45, .pick (.t 38) (.c (.bool true)) (.t 44), none⟩,
      ⟨some 2, .mov (.t 45), none⟩])
   (.ret))))))))
 [.t 2]

set_option maxRecDepth 100000 in
theorem ok6 : chkFn Try.prog 6 a6 = true := by kernel_rfl

/-- pointsman/pointsmanlaw03.FrameTurned -/
def a7 : AFn := .mk 70
 (.seq (.ops false [
      ⟨some 3, .box (some 11) (.t 0) true, none⟩,
      ⟨some 6, .mov (.c (.bool false)), none⟩])
   (.seq (.seq (.ops false [
        ⟨some 15, .call false 22 [], none⟩,
        ⟨some 16, .un .not (.t 15), none⟩])
     (.cond (.t 16)
     (.seq (.ops false [
          ⟨some 6, .mov (.c (.bool false)), none⟩])
       (.ret))
     (.skip)))
   (.seq (.ops false [
      ⟨some 17, .ldI (some 11) (.t 3), none⟩,
      ⟨some 18, .call false 25 [(.t 17)], none⟩,
      ⟨some 7, .mov (.t 18), none⟩])
   (.seq (.seq (.ops false [
        ⟨some 19, .mov (.t 2), none⟩,
        ⟨some 20, .bin .eql (.t 19) (.c (.int .u8 0)), none⟩])
     (.cond (.t 20)
     (.seq (.ops false [
          ⟨some 6, .mov (.c (.bool true)), none⟩])
       (.ret))
     (.skip)))
   (.seq (.ops false [
      ⟨some 21, .mov (.t 7), none⟩,
      ⟨some 22, .s2b (.t 21) true, none⟩,
      ⟨some 8, .mov (.t 22), none⟩])
   (.seq (.ops false [
      ⟨some 23, .mov (.t 8), none⟩,
      ⟨some 24, .mov (.t 1), none⟩,
      ⟨some 25, .convI .i64 (.t 24), none⟩,
      ⟨some 26, .mov (.t 8), none⟩,
      ⟨some 27, .len (.t 26), none⟩,
      ⟨some 28, .bin .rem (.t 25) (.t 27), none⟩,
      ⟨some 29, .iaddr none (.t 23) (.t 28), none⟩,
      ⟨some 30, .load none (.t 29), none⟩,
      ⟨some 31, .mov (.t 2), none⟩,
      ⟨some 32, .bin .xor (.t 30) (.t 31), none⟩,
      ⟨some 33, .iaddr none (.t 23) (.t 28), none⟩,
      ⟨none, .store none (.t 33) (.t 32), none⟩])
   (.seq (.ops false [
      ⟨some 35, .mov (.t 8), none⟩,
      ⟨some 36, .b2s (.t 35), none⟩,
      ⟨some 37, .call false 23 [(.t 36)], none⟩,
      ⟨some 34, .mov (.t 37), none⟩,
      ⟨some 38, .extract (.t 34) 0, none⟩,
      ⟨some 39, .extract (.t 34) 1, none⟩,
      ⟨some 9, .alloc [.int .u16 0, .int .u16 0, .int .u16 0, .int .u16 0, .int .u16 0, .int .u16 0, .int .u16 0, .int .u16 0, .bool false, .int .u16 0, .int .u64 0], none⟩,
      ⟨none, .store (some 11) (.t 9) (.t 38), none⟩,
      ⟨some 10, .mov (.t 39), none⟩])
   (.seq (.ops false [
      ⟨some 41, .mov (.t 7), none⟩,
      ⟨some 42, .mov (.t 1), none⟩,
      ⟨some 43, .convI .i64 (.t 42), none⟩,
      ⟨some 44, .mov (.t 7), none⟩,
      ⟨some 45, .slen (.t 44), none⟩,
      ⟨some 46, .bin .rem (.t 43) (.t 45), none⟩,
      ⟨some 47, .sstr (.t 41) none (some (.t 46)), none⟩,
      ⟨some 48, .call false 23 [(.t 47)], none⟩,
      ⟨some 40, .mov (.t 48), none⟩,
      ⟨some 49, .extract (.t 40) 0, none⟩,
      ⟨some 50, .extract (.t 40) 1, none⟩,
      ⟨some 11, .alloc [.int .u16 0, .int .u16 0, .int .u16 0, .int .u16 0, .int .u16 0, .int .u16 0, .int .u16 0, .int .u16 0, .bool false, .int .u16 0, .int .u64 0], none⟩,
      ⟨none, .store (some 11) (.t 11) (.t 49), none⟩,
      ⟨some 12, .mov (.t 50), none⟩])
   (.seq (.ops false [
      ⟨some 52, .mov (.t 7), none⟩,
      ⟨some 53, .mov (.t 2), none⟩,
      ⟨some 54, .bsliceI none [(.t 53)], none⟩,
      ⟨some 55, .b2s (.t 54), none⟩,
      ⟨some 56, .bin .add (.t 52) (.t 55), none⟩,
      ⟨some 57, .call false 23 [(.t 56)], none⟩,
      ⟨some 51, .mov (.t 57), none⟩,
      ⟨some 58, .extract (.t 51) 0, none⟩,
      ⟨some 59, .extract (.t 51) 1, none⟩,
      ⟨some 13, .alloc [.int .u16 0, .int .u16 0, .int .u16 0, .int .u16 0, .int .u16 0, .int .u16 0, .int .u16 0, .int .u16 0, .bool false, .int .u16 0, .int .u64 0], none⟩,
      ⟨none, .store (some 11) (.t 13) (.t 58), none⟩,
      ⟨some 14, .mov (.t 59), none⟩])
   (.seq (.ops false [
      ⟨some 60, .mov (.t 10), none⟩,
      ⟨some 61, .bin .eql (.t 60) (.c (.int .i64 30)), none⟩,
      ⟨some 62, .mov (.t 61), none⟩,
      ⟨some 63, .mov (.t 12), some (62, true)⟩,
      ⟨some 64, .bin .eql (.t 63) (.c (.int .i64 30)), some (62, true)⟩,
      ⟨some 65, .pick (.t 62) (.t 64) (.c (.bool false)), none⟩,
      ⟨some 66, .mov (.t 65), none⟩,
      ⟨some 67, .mov (.t 14), some (66, true)⟩,
      ⟨some 68, .bin .eql (.t 67) (.c (.int .i64 30)), some (66, true)⟩,
      ⟨some 69, .pick (.t 66) (.t 68) (.c (.bool false)), none⟩,
      ⟨some 6, .mov (.t 69), none⟩])
   (.ret)))))))))))
 [.t 6]

set_option maxRecDepth 100000 in
theorem ok7 : chkFn Try.prog 7 a7 = true := by kernel_rfl

/-- pointsman/pointsmanref03.Clean -/
def a27 : AFn := .mk 13
 (.seq (.ops false [
      ⟨some 1, .box (some 11) (.t 0) false, none⟩,
      ⟨some 2, .alloc [.int .u16 0, .int .u16 0, .int .u16 0, .int .u16 0, .int .u16 0, .int .u16 0, .int .u16 0, .int .u16 0, .bool false, .int .u16 0, .int .u64 0], none⟩])
   (.seq (.ops false [
      ⟨some 3, .faddr 0 (.t 1), none⟩,
      ⟨some 4, .iaddrA 8 none (.t 3) (.c (.int .i64 0)), none⟩,
      ⟨none, .store none (.t 4) (.c (.int .u16 0)), none⟩])
   (.seq (.ops false [
      ⟨some 5, .faddr 0 (.t 1), none⟩,
      ⟨some 6, .iaddrA 8 none (.t 5) (.c (.int .i64 1)), none⟩,
      ⟨none, .store none (.t 6) (.c (.int .u16 0)), none⟩])
   (.seq (.seq (.ops false [
        ⟨some 7, .faddr 8 (.t 1), none⟩,
        ⟨some 8, .load none (.t 7), none⟩,
        ⟨some 9, .un .not (.t 8), none⟩])
     (.cond (.t 9)
     (.seq (.ops false [
          ⟨some 10, .faddr 9 (.t 1), none⟩,
          ⟨none, .store none (.t 10) (.c (.int .u16 0)), none⟩])
       (.ops false [
        ⟨some 11, .faddr 10 (.t 1), none⟩,
        ⟨none, .store none (.t 11) (.c (.int .u64 0)), none⟩]))
     (.skip)))
   (.seq (.ops false [
      ⟨some 12, .load (some 11) (.t 1), none⟩,
      ⟨none, .store (some 11) (.t 2) (.t 12), none⟩])
   (.ret))))))
 [.cell 2 (some 11)]

set_option maxRecDepth 100000 in
theorem ok27 : chkFn Try.prog 27 a27 = true := by kernel_rfl

/-- pointsman/frame.Bare -/
def a28 : AFn := .mk 7
 (.seq (.ops false [
      ⟨some 1, .box (some 8) (.t 0) true, none⟩,
      ⟨some 2, .alloc [.int .u16 0, .int .u16 0, .int .u16 0, .int .u16 0, .int .u16 0, .int .u16 0, .int .u16 0, .int .u16 0, .bool false, .int .u16 0, .int .u64 0], none⟩])
   (.seq (.ops false [
      ⟨some 3, .ldI (some 8) (.t 1), none⟩,
      ⟨some 4, .build [.int .u16 0, .int .u16 0] [], none⟩,
      ⟨some 5, .call false 49 [(.t 3), (.t 4)], none⟩,
      ⟨some 6, .build [.int .u16 0, .int .u16 0, .int .u16 0, .int .u16 0, .int .u16 0, .int .u16 0, .int .u16 0, .int .u16 0, .bool false, .int .u16 0, .int .u64 0] [(0, 8, (.t 5))], none⟩,
      ⟨none, .store (some 11) (.t 2) (.t 6), none⟩])
   (.ret)))
 [.cell 2 (some 11)]

set_option maxRecDepth 100000 in
theorem ok28 : chkFn Try.prog 28 a28 = true := by kernel_rfl

/-- pointsman/pointsmanlaw03.FrameBack -/
def a8 : AFn := .mk 57
 (.seq (.ops false [
      ⟨some 1, .box (some 11) (.t 0) true, none⟩,
      ⟨some 2, .mov (.c (.bool false)), none⟩])
   (.seq (.seq (.ops false [
        ⟨some 6, .call false 22 [], none⟩,
        ⟨some 7, .un .not (.t 6), none⟩])
     (.cond (.t 7)
     (.seq (.ops false [
          ⟨some 2, .mov (.c (.bool false)), none⟩])
       (.ret))
     (.skip)))
   (.seq (.ops false [
      ⟨some 8, .ldI (some 11) (.t 1), none⟩,
      ⟨some 9, .call false 25 [(.t 8)], none⟩,
      ⟨some 3, .mov (.t 9), none⟩])
   (.seq (.ops false [
      ⟨some 11, .mov (.t 3), none⟩,
      ⟨some 12, .call false 23 [(.t 11)], none⟩,
      ⟨some 10, .mov (.t 12), none⟩,
      ⟨some 13, .extract (.t 10) 0, none⟩,
      ⟨some 14, .extract (.t 10) 1, none⟩,
      ⟨some 4, .alloc [.int .u16 0, .int .u16 0, .int .u16 0, .int .u16 0, .int .u16 0, .int .u16 0, .int .u16 0, .int .u16 0, .bool false, .int .u16 0, .int .u64 0], none⟩,
      ⟨none, .store (some 11) (.t 4) (.t 13), none⟩,
      ⟨some 5, .mov (.t 14), none⟩])
   (.seq (.ops true [
      ⟨some 15, .mov (.t 3), none⟩,
      ⟨some 16, .ldI (some 11) (.t 1), none⟩,
      ⟨some 17, .call false 26 [(.t 16)], none⟩,
      ⟨some 18, .bin .eql (.t 15) (.t 17), none⟩,
      ⟨some 19, .mov (.t 18), none⟩,
      ⟨some 20, .mov (.t 5), some (19, true)⟩,
      ⟨some 21, .bin .eql (.t 20) (.c (.int .i64 0)), some (19, true)⟩,
      ⟨some 22, .pick (.t 19) (.t 21) (.c (.bool false)), none⟩,
      ⟨some 23, .mov (.t 22), none⟩,
      ⟨some 24, .load (some 11) (.t 4), some (23, true)⟩,
      ⟨some 25, .ldI (some 11) (.t 1), some (23, true)⟩,
      ⟨some 26, .call false 27 [(.t 25)], some (23, true)⟩,
      ⟨some 27, .eqS false [.int, .int, .int, .int, .int, .int, .int, .int, .bool, .int, .int] (.t 24) (.t 26), some (23, true)⟩,
      ⟨some 28, .pick (.t 23) (.t 27) (.c (.bool false)), none⟩,
      ⟨some 29, .mov (.t 28), none⟩,
      ⟨some 30, .faddr 0 (.t 1), some (29, true)⟩,
      ⟨some 31, .ldI (some 8) (.t 30), some (29, true)⟩,
      ⟨some 32, .call false 28 [(.t 31)], some (29, true)⟩,
      ⟨some 33, .faddr 0 (.t 1), some (29, true)⟩,
      ⟨some 34, .ldI (some 8) (.t 33), some (29, true)⟩,
      ⟨some 35, .build [.int .u16 0, .int .u16 0, .int .u16 0, .int .u16 0, .int .u16 0, .int .u16 0, .int .u16 0, .int .u16 0, .bool false, .int .u16 0, .int .u64 0] [(0, 8, (.t 34))], some (29, true)⟩,
      ⟨some 36, .call false 27 [(.t 35)], some (29, true)⟩,
      ⟨some 37, .eqS false [.int, .int, .int, .int, .int, .int, .int, .int, .bool, .int, .int] (.t 32) (.t 36), some (29, true)⟩,
      ⟨some 38, .pick (.t 29) (.t 37) (.c (.bool false)), none⟩,
      ⟨some 39, .mov (.t 38), none⟩,
      ⟨some 40, .faddr 0 (.t 1), some (39, true)⟩,
      ⟨some 41, .ldI (some 8) (.t 40), some (39, true)⟩,
      ⟨some 42, .faddr 9 (.t 1), some (39, true)⟩,
      ⟨some 43, .ldI none (.t 42), some (39, true)⟩,
      ⟨some 44, .faddr 10 (.t 1), some (39, true)⟩,
      ⟨some 45, .ldI none (.t 44), some (39, true)⟩,
      ⟨some 46, .call false 29 [(.t 41), (.t 43), (.t 45)], some (39, true)⟩,
      ⟨some 47, .faddr 0 (.t 1), some (39, true)⟩,
      ⟨some 48, .ldI (some 8) (.t 47), some (39, true)⟩,
      ⟨some 49, .faddr 9 (.t 1), some (39, true)⟩,
      ⟨some 50, .ldI none (.t 49), some (39, true)⟩,
      ⟨some 51, .faddr 10 (.t 1), some (39, true)⟩,
      ⟨some 52, .ldI none (.t 51), some (39, true)⟩,
      ⟨some 53, .build [.int .u16 0, .int .u16 0, .int .u16 0, .int .u16 0, .int .u16 0, .int .u16 0, .int .u16 0, .int .u16 0, .bool false, .int .u16 0, .int .u64 0] [(0, 8, (.t 48)), (8, 1, (.c (.bool true))), (9, 1, (.t 50)), (10, 1, (.t 52))], some (39, true)⟩,
      ⟨some 54, .call false 27 [(.t 53)], some (39, true)⟩,
      ⟨some 55, .eqS false [.int, .int, .int, .int, .int, .int, .int, .int, .bool, .int, .int] (.t 46) (.t 54), some (39, true)⟩,
      ⟨some 56, .pick (.t 39) (.t 55) (.c (.bool false)), none⟩,
      ⟨some 2, .mov (.t 56), none⟩])
   (.ret))))))
 [.t 2]

set_option maxRecDepth 100000 in
theorem ok8 : chkFn Try.prog 8 a8 = true := by kernel_rfl

end Go.AM
