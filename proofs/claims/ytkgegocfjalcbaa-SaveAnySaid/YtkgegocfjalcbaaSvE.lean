import Derived.Test.YtkgegocfjalcbaaAmN7
import Derived.Test.YtkgegocfjalcbaaSvT
import Derived.Test.YtkgegocfjalcbaaProg
/-  What they are in the program: data and code. -/
set_option linter.unusedVariables false
set_option linter.unusedSimpArgs false
namespace Go.AM
open Go Go.RowKit Go.Proofs

def eapi_Deed (x : api_Deed) : D := .agg ((D.int .i64) x.What :: ((D.int .i64) x.N :: (D.bool x.Back :: (((eA8 (D.int .u16)) x.P).cells ++ (D.str x.Raw :: [])))))

def esave_tells (x : save_tells) : D := .agg (D.bool x.packet :: (D.bool x.raw :: (D.bool x.back :: [])))

def esave_reader (x : save_reader) : D := .agg (D.str x.s :: (D.bool x.bad :: []))

def eapi_Port (x : api_Port) : D := .agg ((D.int .u16) x.Sw :: ((D.int .u16) x.Pt :: []))

theorem eqS_api_Deed (x y : api_Deed) : eqSV [.int, .int, .bool, .int, .int, .int, .int, .int, .int, .int, .int, .str] (.d (eapi_Deed x)) (.d (eapi_Deed y)) = some (x == y) := by
  refine (eqSV_agg rfl rfl (eqT_cons rfl (eqT_cons rfl (eqT_cons rfl (eqT_cons rfl (eqT_cons rfl (eqT_cons rfl (eqT_cons rfl (eqT_cons rfl (eqT_cons rfl (eqT_cons rfl (eqT_cons rfl (eqT_cons rfl rfl))))))))))))).trans (congrArg some ?_)
  rw [Bool.eq_iff_iff]
  obtain ⟨x0, x1, x2, ⟨x30, x31, x32, x33, x34, x35, x36, x37⟩, x4⟩ := x
  obtain ⟨y0, y1, y2, ⟨y30, y31, y32, y33, y34, y35, y36, y37⟩, y4⟩ := y
  simp [ba_toList_inj, and_assoc]

/-- pointsman/save.may -/
def a59 : AFn := .mk 27
 (.seq (.ops false [
      ⟨some 1, .box (some 12) (.t 0) true, none⟩,
      ⟨some 2, .mov (.c (.bool false)), none⟩])
   (.seq (.ops false [
      ⟨some 3, .faddr 0 (.t 1), none⟩,
      ⟨some 4, .ldI none (.t 3), none⟩,
      ⟨some 5, .bin .geq (.t 4) (.c (.int .i64 0)), none⟩,
      ⟨some 6, .mov (.t 5), none⟩,
      ⟨some 7, .faddr 0 (.t 1), some (6, true)⟩,
      ⟨some 8, .ldI none (.t 7), some (6, true)⟩,
      ⟨some 9, .bin .leq (.t 8) (.c (.int .i64 6)), some (6, true)⟩,
      ⟨some 10, .pick (.t 6) (.t 9) (.c (.bool false)), none⟩,
      ⟨some 11, .mov (.t 10), none⟩,
      ⟨some 12, .faddr 1 (.t 1), some (11, true)⟩,
      ⟨some 13, .ldI none (.t 12), some (11, true)⟩,
      ⟨some 14, .bin .geq (.t 13) (.c (.int .i64 0)), some (11, true)⟩,
      ⟨some 15, .pick (.t 11) (.t 14) (.c (.bool false)), none⟩,
      ⟨some 16, .mov (.t 15), none⟩,
      ⟨some 17, .faddr 1 (.t 1), some (16, true)⟩,
      ⟨some 18, .ldI none (.t 17), some (16, true)⟩,
      ⟨some 19, .bin .leq (.t 18) (.c (.int .i64 99999)), some (16, true)⟩,
      ⟨some 20, .pick (.t 16) (.t 19) (.c (.bool false)), none⟩,
      ⟨some 21, .mov (.t 20), none⟩,
      ⟨some 22, .faddr 11 (.t 1), some (21, true)⟩,
      ⟨some 23, .ldI none (.t 22), some (21, true)⟩,
      ⟨some 24, .slen (.t 23), some (21, true)⟩,
      ⟨some 25, .bin .leq (.t 24) (.c (.int .i64 1000)), some (21, true)⟩,
      ⟨some 26, .pick (.t 21) (.t 25) (.c (.bool false)), none⟩,
      ⟨some 2, .mov (.t 26), none⟩])
   (.ret)))
 [.t 2]

set_option maxRecDepth 100000 in
theorem ok59 : chkFn Try.prog 59 a59 = true := by kernel_rfl

def b60_0 : ACode :=
  (.seq (.seq (.ops false [
        ⟨some 5, .mov (.t 1), none⟩,
        ⟨some 6, .bin .geq (.t 5) (.c (.int .i64 128)), none⟩])
     (.cond (.t 6)
     (.skip)
     (.exit 0)))
   (.seq (.block 1 (.ops false [
      ⟨some 9, .mov (.t 0), none⟩,
      ⟨some 10, .mov (.t 1), none⟩,
      ⟨some 11, .convI .u8 (.t 10), none⟩,
      ⟨some 12, .bin .or (.t 11) (.c (.int .u8 128)), none⟩,
      ⟨some 13, .bsliceI none [(.t 12)], none⟩,
      ⟨some 14, .append none (.t 9) (.t 13) false, none⟩,
      ⟨some 0, .mov (.t 14), none⟩]))
   (.ops false [
    ⟨some 7, .mov (.t 1), none⟩,
    ⟨some 8, .bin .shr (.t 7) (.c (.int .u64 7)), none⟩,
    ⟨some 1, .mov (.t 8), none⟩])))

/-- pointsman/save.number -/
def a60 : AFn := .mk 20
 (.seq (.ops false [
      ⟨some 4, .mov (.c (.vec none [])), none⟩])
   (.seq (.block 0 (.loop b60_0))
   (.seq (.ops false [
      ⟨some 15, .mov (.t 0), none⟩,
      ⟨some 16, .mov (.t 1), none⟩,
      ⟨some 17, .convI .u8 (.t 16), none⟩,
      ⟨some 18, .bsliceI none [(.t 17)], none⟩,
      ⟨some 19, .append none (.t 15) (.t 18) false, none⟩,
      ⟨some 4, .mov (.t 19), none⟩])
   (.ret))))
 [.t 4]

set_option maxRecDepth 100000 in
theorem ok60 : chkFn Try.prog 60 a60 = true := by kernel_rfl

/-- pointsman/save.of -/
def a57 : AFn := .mk 15
 (.seq (.ops false [
      ⟨some 2, .alloc [.bool false, .bool false, .bool false], none⟩])
   (.seq (.seq (.ops false [
        ⟨some 3, .mov (.t 0), none⟩])
     (.block 0 (.seq (.ops false [
        ⟨some 5, .bin .eql (.t 3) (.c (.int .i64 0)), none⟩,
        ⟨some 4, .mov (.t 5), none⟩])
     (.cond (.t 4)
     (.seq (.ops false [
          ⟨some 6, .build [.bool false, .bool false, .bool false] [(0, 1, (.c (.bool true)))], none⟩,
          ⟨none, .store (some 3) (.t 2) (.t 6), none⟩])
       (.ret))
     (.seq (.ops false [
          ⟨some 8, .bin .eql (.t 3) (.c (.int .i64 1)), none⟩,
          ⟨some 7, .mov (.t 8), none⟩])
       (.cond (.t 7)
       (.seq (.ops false [
            ⟨some 9, .build [.bool false, .bool false, .bool false] [(1, 1, (.c (.bool true)))], none⟩,
            ⟨none, .store (some 3) (.t 2) (.t 9), none⟩])
         (.ret))
       (.seq (.seq (.ops false [
              ⟨some 11, .bin .eql (.t 3) (.c (.int .i64 3)), none⟩,
              ⟨some 10, .mov (.t 11), none⟩])
           (.cond (.t 10)
           (.skip)
           (.ops false [
              ⟨some 12, .bin .eql (.t 3) (.c (.int .i64 4)), none⟩,
              ⟨some 10, .mov (.t 12), none⟩])))
         (.cond (.t 10)
         (.seq (.ops false [
              ⟨some 13, .build [.bool false, .bool false, .bool false] [(2, 1, (.c (.bool true)))], none⟩,
              ⟨none, .store (some 3) (.t 2) (.t 13), none⟩])
           (.ret))
         (.skip)))))))))
   (.seq (.ops false [
      ⟨some 14, .build [.bool false, .bool false, .bool false] [], none⟩,
      ⟨none, .store (some 3) (.t 2) (.t 14), none⟩])
   (.ret))))
 [.cell 2 (some 3)]

set_option maxRecDepth 100000 in
theorem ok57 : chkFn Try.prog 57 a57 = true := by kernel_rfl

def b61_0 : ACode :=
  (.seq (.ops false [
      ⟨some 25, .bin .lss (.t 24) (.t 23), none⟩])
   (.seq (.cond (.t 25)
     (.skip)
     (.exit 1))
   (.seq (.block 2 (.seq (.ops false [
        ⟨some 26, .iaddr none (.t 22) (.t 24), none⟩,
        ⟨some 27, .load none (.t 26), none⟩,
        ⟨some 7, .mov (.t 27), none⟩])
     (.ops false [
      ⟨some 28, .mov (.t 0), none⟩,
      ⟨some 29, .mov (.t 7), none⟩,
      ⟨some 30, .convI .i64 (.t 29), none⟩,
      ⟨some 31, .call true 60 [(.t 28), (.t 30)], none⟩,
      ⟨some 0, .mov (.t 31), none⟩])))
   (.ops false [
    ⟨some 32, .bin .add (.t 24) (.c (.int .i64 1)), none⟩,
    ⟨some 24, .mov (.t 32), none⟩]))))

/-- pointsman/save.deed -/
def a61 : AFn := .mk 61
 (.seq (.ops false [
      ⟨some 3, .box (some 12) (.t 1) true, none⟩,
      ⟨some 4, .mov (.c (.vec none [])), none⟩])
   (.seq (.ops true [
      ⟨some 8, .mov (.t 0), none⟩,
      ⟨some 9, .faddr 0 (.t 3), none⟩,
      ⟨some 10, .ldI none (.t 9), none⟩,
      ⟨some 11, .call true 60 [(.t 8), (.t 10)], none⟩,
      ⟨some 12, .faddr 1 (.t 3), none⟩,
      ⟨some 13, .ldI none (.t 12), none⟩,
      ⟨some 14, .call true 60 [(.t 11), (.t 13)], none⟩,
      ⟨some 0, .mov (.t 14), none⟩])
   (.seq (.ops false [
      ⟨some 15, .faddr 0 (.t 3), none⟩,
      ⟨some 16, .ldI none (.t 15), none⟩,
      ⟨some 17, .call false 57 [(.t 16)], none⟩,
      ⟨some 5, .alloc [.bool false, .bool false, .bool false], none⟩,
      ⟨none, .store (some 3) (.t 5) (.t 17), none⟩])
   (.seq (.block 0 (.seq (.ops false [
        ⟨some 19, .faddr 0 (.t 5), none⟩,
        ⟨some 20, .load none (.t 19), none⟩,
        ⟨some 18, .mov (.t 20), none⟩])
     (.cond (.t 18)
     (.seq (.ops false [
          ⟨some 21, .faddr 3 (.t 3), none⟩,
          ⟨some 22, .slcA 8 none (.t 21) (some (.c (.int .i64 2))) none, none⟩,
          ⟨some 23, .len (.t 22), none⟩,
          ⟨some 24, .mov (.c (.int .i64 0)), none⟩])
       (.block 1 (.loop b61_0)))
     (.seq (.ops false [
          ⟨some 34, .faddr 1 (.t 5), none⟩,
          ⟨some 35, .load none (.t 34), none⟩,
          ⟨some 33, .mov (.t 35), none⟩])
       (.cond (.t 33)
       (.ops true [
          ⟨some 36, .mov (.t 0), none⟩,
          ⟨some 37, .faddr 11 (.t 3), none⟩,
          ⟨some 38, .ldI none (.t 37), none⟩,
          ⟨some 39, .slen (.t 38), none⟩,
          ⟨some 40, .call true 60 [(.t 36), (.t 39)], none⟩,
          ⟨some 41, .faddr 11 (.t 3), none⟩,
          ⟨some 42, .ldI none (.t 41), none⟩,
          ⟨some 43, .append none (.t 40) (.t 42) false, none⟩,
          ⟨some 0, .mov (.t 43), none⟩])
       (.seq (.ops false [
            ⟨some 45, .faddr 2 (.t 5), none⟩,
            ⟨some 46, .load none (.t 45), none⟩,
            ⟨some 47, .mov (.t 46), none⟩,
            ⟨some 48, .faddr 2 (.t 3), some (47, true)⟩,
            ⟨some 49, .ldI none (.t 48), some (47, true)⟩,
            ⟨some 50, .pick (.t 47) (.t 49) (.c (.bool false)), none⟩,
            ⟨some 44, .mov (.t 50), none⟩])
         (.cond (.t 44)
         (.ops false [
            ⟨some 51, .mov (.t 0), none⟩,
            ⟨some 52, .bsliceI none [(.c (.int .u8 1))], none⟩,
            ⟨some 53, .append none (.t 51) (.t 52) false, none⟩,
            ⟨some 0, .mov (.t 53), none⟩])
         (.seq (.ops false [
              ⟨some 55, .faddr 2 (.t 5), none⟩,
              ⟨some 56, .load none (.t 55), none⟩,
              ⟨some 54, .mov (.t 56), none⟩])
           (.cond (.t 54)
           (.ops false [
              ⟨some 57, .mov (.t 0), none⟩,
              ⟨some 58, .bsliceI none [(.c (.int .u8 0))], none⟩,
              ⟨some 59, .append none (.t 57) (.t 58) false, none⟩,
              ⟨some 0, .mov (.t 59), none⟩])
           (.skip))))))))))
   (.seq (.ops false [
      ⟨some 60, .mov (.t 0), none⟩,
      ⟨some 4, .mov (.t 60), none⟩])
   (.ret))))))
 [.t 4]

set_option maxRecDepth 100000 in
theorem ok61 : chkFn Try.prog 61 a61 = true := by kernel_rfl

def b53_0 : ACode :=
  (.seq (.ops false [
      ⟨some 9, .bin .lss (.t 8) (.t 7), none⟩])
   (.seq (.cond (.t 9)
     (.skip)
     (.exit 0))
   (.seq (.block 1 (.seq (.ops false [
        ⟨some 10, .mov (.t 8), none⟩,
        ⟨some 11, .iaddr none (.t 6) (.t 8), none⟩,
        ⟨some 12, .load none (.t 11), none⟩,
        ⟨some 4, .mov (.t 10), none⟩,
        ⟨some 5, .mov (.t 12), none⟩])
     (.ops false [
      ⟨some 13, .mov (.t 3), none⟩,
      ⟨some 14, .mov (.t 4), none⟩,
      ⟨some 15, .bin .add (.t 14) (.c (.int .i64 1)), none⟩,
      ⟨some 16, .mov (.t 5), none⟩,
      ⟨some 17, .convI .i64 (.t 16), none⟩,
      ⟨some 18, .bin .mul (.t 15) (.t 17), none⟩,
      ⟨some 19, .bin .add (.t 13) (.t 18), none⟩,
      ⟨some 20, .bin .rem (.t 19) (.c (.int .i64 65521)), none⟩,
      ⟨some 3, .mov (.t 20), none⟩])))
   (.ops false [
    ⟨some 21, .bin .add (.t 8) (.c (.int .i64 1)), none⟩,
    ⟨some 8, .mov (.t 21), none⟩]))))

/-- pointsman/save.check -/
def a53 : AFn := .mk 30
 (.seq (.ops false [
      ⟨some 2, .mov (.c (.vec none [])), none⟩])
   (.seq (.ops false [
      ⟨some 3, .mov (.c (.int .i64 0)), none⟩])
   (.seq (.seq (.ops false [
        ⟨some 6, .mov (.t 0), none⟩,
        ⟨some 7, .len (.t 6), none⟩,
        ⟨some 8, .mov (.c (.int .i64 0)), none⟩])
     (.block 0 (.loop b53_0)))
   (.seq (.ops false [
      ⟨some 22, .mov (.t 0), none⟩,
      ⟨some 23, .mov (.t 3), none⟩,
      ⟨some 24, .bin .shr (.t 23) (.c (.int .u64 8)), none⟩,
      ⟨some 25, .convI .u8 (.t 24), none⟩,
      ⟨some 26, .mov (.t 3), none⟩,
      ⟨some 27, .convI .u8 (.t 26), none⟩,
      ⟨some 28, .bsliceI none [(.t 25), (.t 27)], none⟩,
      ⟨some 29, .append none (.t 22) (.t 28) false, none⟩,
      ⟨some 2, .mov (.t 29), none⟩])
   (.ret)))))
 [.t 2]

set_option maxRecDepth 100000 in
theorem ok53 : chkFn Try.prog 53 a53 = true := by kernel_rfl

def b21_0 : ACode :=
  (.seq (.ops false [
      ⟨some 12, .bin .lss (.t 11) (.t 10), none⟩])
   (.seq (.cond (.t 12)
     (.skip)
     (.exit 0))
   (.seq (.block 1 (.seq (.ops false [
        ⟨some 13, .iaddr (some 12) (.t 9) (.t 11), none⟩,
        ⟨some 14, .load (some 12) (.t 13), none⟩,
        ⟨some 5, .alloc [.int .i64 0, .int .i64 0, .bool false, .int .u16 0, .int .u16 0, .int .u16 0, .int .u16 0, .int .u16 0, .int .u16 0, .int .u16 0, .int .u16 0, .str ⟨#[]⟩], none⟩,
        ⟨none, .store (some 12) (.t 5) (.t 14), none⟩])
     (.seq (.ops false [
        ⟨some 15, .load (some 12) (.t 5), none⟩,
        ⟨some 16, .call false 59 [(.t 15)], none⟩,
        ⟨some 17, .un .not (.t 16), none⟩])
     (.cond (.t 17)
     (.seq (.ops false [
          ⟨some 2, .mov (.c (.str ⟨#[]⟩)), none⟩,
          ⟨some 3, .mov (.c (.int .i64 1)), none⟩])
       (.ret))
     (.skip)))))
   (.ops false [
    ⟨some 18, .bin .add (.t 11) (.c (.int .i64 1)), none⟩,
    ⟨some 11, .mov (.t 18), none⟩]))))

def b21_1 : ACode :=
  (.seq (.ops false [
      ⟨some 29, .bin .lss (.t 28) (.t 27), none⟩])
   (.seq (.cond (.t 29)
     (.skip)
     (.exit 2))
   (.seq (.block 3 (.seq (.ops false [
        ⟨some 30, .iaddr (some 12) (.t 26) (.t 28), none⟩,
        ⟨some 31, .load (some 12) (.t 30), none⟩,
        ⟨some 8, .alloc [.int .i64 0, .int .i64 0, .bool false, .int .u16 0, .int .u16 0, .int .u16 0, .int .u16 0, .int .u16 0, .int .u16 0, .int .u16 0, .int .u16 0, .str ⟨#[]⟩], none⟩,
        ⟨none, .store (some 12) (.t 8) (.t 31), none⟩])
     (.ops false [
      ⟨some 32, .mov (.t 6), none⟩,
      ⟨some 33, .load (some 12) (.t 8), none⟩,
      ⟨some 34, .call true 61 [(.t 32), (.t 33)], none⟩,
      ⟨some 6, .mov (.t 34), none⟩])))
   (.ops false [
    ⟨some 35, .bin .add (.t 28) (.c (.int .i64 1)), none⟩,
    ⟨some 28, .mov (.t 35), none⟩]))))

/-- pointsman/save.Encode -/
def a21 : AFn := .mk 39
 (.seq (.ops false [
      ⟨some 2, .mov (.c (.str ⟨#[]⟩)), none⟩,
      ⟨some 3, .mov (.c (.int .i64 0)), none⟩])
   (.seq (.seq (.ops false [
        ⟨some 9, .mov (.t 0), none⟩,
        ⟨some 10, .len (.t 9), none⟩,
        ⟨some 11, .mov (.c (.int .i64 0)), none⟩])
     (.block 0 (.loop b21_0)))
   (.seq (.seq (.ops false [
        ⟨some 19, .mov (.t 0), none⟩,
        ⟨some 20, .len (.t 19), none⟩,
        ⟨some 21, .bin .gtr (.t 20) (.c (.int .i64 10000)), none⟩])
     (.cond (.t 21)
     (.seq (.ops false [
          ⟨some 2, .mov (.c (.str ⟨#[]⟩)), none⟩,
          ⟨some 3, .mov (.c (.int .i64 2)), none⟩])
       (.ret))
     (.skip)))
   (.seq (.ops false [
      ⟨some 22, .bslice none [(.c (.int .u8 68))] false, none⟩,
      ⟨some 23, .mov (.t 0), none⟩,
      ⟨some 24, .len (.t 23), none⟩,
      ⟨some 25, .call true 60 [(.t 22), (.t 24)], none⟩,
      ⟨some 6, .mov (.t 25), none⟩])
   (.seq (.seq (.ops false [
        ⟨some 26, .mov (.t 0), none⟩,
        ⟨some 27, .len (.t 26), none⟩,
        ⟨some 28, .mov (.c (.int .i64 0)), none⟩])
     (.block 2 (.loop b21_1)))
   (.seq (.ops false [
      ⟨some 36, .mov (.t 6), none⟩,
      ⟨some 37, .call true 53 [(.t 36)], none⟩,
      ⟨some 38, .b2s (.t 37), none⟩,
      ⟨some 2, .mov (.t 38), none⟩,
      ⟨some 3, .mov (.c (.int .i64 0)), none⟩])
   (.ret)))))))
 [.t 2, .t 3]

set_option maxRecDepth 100000 in
theorem ok21 : chkFn Try.prog 21 a21 = true := by kernel_rfl

/-- (*pointsman/save.reader).take -/
def a82 : AFn := .mk 38
 (.seq (.ops false [
      ⟨some 4, .mov (.c (.str ⟨#[]⟩)), none⟩])
   (.seq (.seq (.ops false [
        ⟨some 6, .mov (.t 0), none⟩,
        ⟨some 7, .nilchk (.t 6), none⟩,
        ⟨some 8, .faddr 1 (.t 7), none⟩,
        ⟨some 9, .load none (.t 8), none⟩,
        ⟨some 10, .mov (.t 9), none⟩,
        ⟨some 11, .mov (.t 1), some (10, false)⟩,
        ⟨some 12, .mov (.t 0), some (10, false)⟩,
        ⟨some 13, .nilchk (.t 12), some (10, false)⟩,
        ⟨some 14, .faddr 0 (.t 13), some (10, false)⟩,
        ⟨some 15, .load none (.t 14), some (10, false)⟩,
        ⟨some 16, .slen (.t 15), some (10, false)⟩,
        ⟨some 17, .bin .gtr (.t 11) (.t 16), some (10, false)⟩,
        ⟨some 18, .pick (.t 10) (.c (.bool true)) (.t 17), none⟩])
     (.cond (.t 18)
     (.seq (.ops false [
          ⟨some 19, .mov (.t 0), none⟩,
          ⟨some 20, .nilchk (.t 19), none⟩,
          ⟨some 21, .faddr 1 (.t 20), none⟩,
          ⟨none, .store none (.t 21) (.c (.bool true)), none⟩])
       (.seq (.ops false [
          ⟨some 4, .mov (.c (.str ⟨#[]⟩)), none⟩])
       (.ret)))
     (.skip)))
   (.seq (.ops false [
      ⟨some 22, .mov (.t 0), none⟩,
      ⟨some 23, .nilchk (.t 22), none⟩,
      ⟨some 24, .faddr 0 (.t 23), none⟩,
      ⟨some 25, .load none (.t 24), none⟩,
      ⟨some 26, .mov (.t 1), none⟩,
      ⟨some 27, .sstr (.t 25) none (some (.t 26)), none⟩,
      ⟨some 5, .mov (.t 27), none⟩])
   (.seq (.ops false [
      ⟨some 28, .mov (.t 0), none⟩,
      ⟨some 29, .mov (.t 0), none⟩,
      ⟨some 30, .nilchk (.t 29), none⟩,
      ⟨some 31, .faddr 0 (.t 30), none⟩,
      ⟨some 32, .load none (.t 31), none⟩,
      ⟨some 33, .mov (.t 1), none⟩,
      ⟨some 34, .sstr (.t 32) (some (.t 33)) none, none⟩,
      ⟨some 35, .nilchk (.t 28), none⟩,
      ⟨some 36, .faddr 0 (.t 35), none⟩,
      ⟨none, .store none (.t 36) (.t 34), none⟩])
   (.seq (.ops false [
      ⟨some 37, .mov (.t 5), none⟩,
      ⟨some 4, .mov (.t 37), none⟩])
   (.ret))))))
 [.t 4]

set_option maxRecDepth 100000 in
theorem ok82 : chkFn Try.prog 82 a82 = true := by kernel_rfl

def b54_0 : ACode :=
  (.seq (.ops false [
      ⟨some 9, .bin .lss (.t 8) (.c (.int .i64 5)), none⟩])
   (.seq (.cond (.t 9)
     (.skip)
     (.exit 0))
   (.seq (.block 1 (.seq (.ops false [
        ⟨some 10, .mov (.t 8), none⟩,
        ⟨some 6, .mov (.t 10), none⟩])
     (.seq (.ops false [
        ⟨some 11, .mov (.t 0), none⟩,
        ⟨some 12, .call true 82 [(.t 11), (.c (.int .i64 1))], none⟩,
        ⟨some 7, .mov (.t 12), none⟩])
     (.seq (.seq (.ops false [
          ⟨some 13, .mov (.t 0), none⟩,
          ⟨some 14, .nilchk (.t 13), none⟩,
          ⟨some 15, .faddr 1 (.t 14), none⟩,
          ⟨some 16, .load none (.t 15), none⟩])
       (.cond (.t 16)
       (.seq (.ops false [
            ⟨some 4, .mov (.c (.int .i64 0)), none⟩])
         (.ret))
       (.skip)))
     (.seq (.ops false [
        ⟨some 17, .mov (.t 5), none⟩,
        ⟨some 18, .mov (.t 7), none⟩,
        ⟨some 19, .idxS (.t 18) (.c (.int .i64 0)), none⟩,
        ⟨some 20, .bin .and (.t 19) (.c (.int .u8 127)), none⟩,
        ⟨some 21, .convI .i64 (.t 20), none⟩,
        ⟨some 22, .mov (.t 6), none⟩,
        ⟨some 23, .bin .mul (.c (.int .i64 7)) (.t 22), none⟩,
        ⟨some 24, .bin .shl (.t 21) (.t 23), none⟩,
        ⟨some 25, .bin .or (.t 17) (.t 24), none⟩,
        ⟨some 5, .mov (.t 25), none⟩])
     (.seq (.ops false [
        ⟨some 26, .mov (.t 7), none⟩,
        ⟨some 27, .idxS (.t 26) (.c (.int .i64 0)), none⟩,
        ⟨some 28, .bin .lss (.t 27) (.c (.int .u8 128)), none⟩])
     (.cond (.t 28)
     (.seq (.ops false [
          ⟨some 29, .mov (.t 0), none⟩,
          ⟨some 30, .mov (.t 5), none⟩,
          ⟨some 31, .mov (.t 1), none⟩,
          ⟨some 32, .bin .gtr (.t 30) (.t 31), none⟩,
          ⟨some 33, .mov (.t 32), none⟩,
          ⟨some 34, .mov (.t 6), some (33, false)⟩,
          ⟨some 35, .bin .gtr (.t 34) (.c (.int .i64 0)), some (33, false)⟩,
          ⟨some 36, .mov (.t 35), some (33, false)⟩,
          ⟨some 37, .mov (.t 7), some (36, true)⟩,
          ⟨some 38, .idxS (.t 37) (.c (.int .i64 0)), some (36, true)⟩,
          ⟨some 39, .bin .eql (.t 38) (.c (.int .u8 0)), some (36, true)⟩,
          ⟨some 40, .pick (.t 36) (.t 39) (.c (.bool false)), some (33, false)⟩,
          ⟨some 41, .pick (.t 33) (.c (.bool true)) (.t 40), none⟩,
          ⟨some 42, .nilchk (.t 29), none⟩,
          ⟨some 43, .faddr 1 (.t 42), none⟩,
          ⟨none, .store none (.t 43) (.t 41), none⟩])
       (.seq (.ops false [
          ⟨some 44, .mov (.t 5), none⟩,
          ⟨some 4, .mov (.t 44), none⟩])
       (.ret)))
     (.skip))))))))
   (.ops false [
    ⟨some 45, .bin .add (.t 8) (.c (.int .i64 1)), none⟩,
    ⟨some 8, .mov (.t 45), none⟩]))))

/-- (*pointsman/save.reader).number -/
def a54 : AFn := .mk 49
 (.seq (.ops false [
      ⟨some 4, .mov (.c (.int .i64 0)), none⟩])
   (.seq (.ops false [
      ⟨some 5, .mov (.c (.int .i64 0)), none⟩])
   (.seq (.seq (.ops false [
        ⟨some 8, .mov (.c (.int .i64 0)), none⟩])
     (.block 0 (.loop b54_0)))
   (.seq (.ops false [
      ⟨some 46, .mov (.t 0), none⟩,
      ⟨some 47, .nilchk (.t 46), none⟩,
      ⟨some 48, .faddr 1 (.t 47), none⟩,
      ⟨none, .store none (.t 48) (.c (.bool true)), none⟩])
   (.seq (.ops false [
      ⟨some 4, .mov (.c (.int .i64 0)), none⟩])
   (.ret))))))
 [.t 4]

set_option maxRecDepth 100000 in
theorem ok54 : chkFn Try.prog 54 a54 = true := by kernel_rfl

def b55_0 : ACode :=
  (.seq (.seq (.ops false [
        ⟨some 22, .mov (.t 5), none⟩,
        ⟨some 23, .bin .lss (.t 22) (.c (.int .i64 8)), none⟩])
     (.cond (.t 23)
     (.skip)
     (.exit 1)))
   (.seq (.block 2 (.ops false [
      ⟨some 26, .mov (.t 5), none⟩,
      ⟨some 27, .mov (.t 0), none⟩,
      ⟨some 28, .call true 54 [(.t 27), (.c (.int .i64 65535))], none⟩,
      ⟨some 29, .convI .u16 (.t 28), none⟩,
      ⟨some 30, .faddr 3 (.t 3), none⟩,
      ⟨some 31, .iaddrA 8 none (.t 30) (.t 26), none⟩,
      ⟨none, .store none (.t 31) (.t 29), none⟩]))
   (.ops false [
    ⟨some 24, .mov (.t 5), none⟩,
    ⟨some 25, .bin .add (.t 24) (.c (.int .i64 1)), none⟩,
    ⟨some 5, .mov (.t 25), none⟩])))

/-- (*pointsman/save.reader).deed -/
def a55 : AFn := .mk 48
 (.seq (.ops false [
      ⟨some 2, .alloc [.int .i64 0, .int .i64 0, .bool false, .int .u16 0, .int .u16 0, .int .u16 0, .int .u16 0, .int .u16 0, .int .u16 0, .int .u16 0, .int .u16 0, .str ⟨#[]⟩], none⟩])
   (.seq (.ops false [
      ⟨some 6, .mov (.t 0), none⟩,
      ⟨some 7, .call true 54 [(.t 6), (.c (.int .i64 6))], none⟩,
      ⟨some 8, .mov (.t 0), none⟩,
      ⟨some 9, .call true 54 [(.t 8), (.c (.int .i64 99999))], none⟩,
      ⟨some 10, .build [.int .i64 0, .int .i64 0, .bool false, .int .u16 0, .int .u16 0, .int .u16 0, .int .u16 0, .int .u16 0, .int .u16 0, .int .u16 0, .int .u16 0, .str ⟨#[]⟩] [(0, 1, (.t 7)), (1, 1, (.t 9))], none⟩,
      ⟨some 3, .alloc [.int .i64 0, .int .i64 0, .bool false, .int .u16 0, .int .u16 0, .int .u16 0, .int .u16 0, .int .u16 0, .int .u16 0, .int .u16 0, .int .u16 0, .str ⟨#[]⟩], none⟩,
      ⟨none, .store (some 12) (.t 3) (.t 10), none⟩])
   (.seq (.ops false [
      ⟨some 11, .faddr 0 (.t 3), none⟩,
      ⟨some 12, .load none (.t 11), none⟩,
      ⟨some 13, .call false 57 [(.t 12)], none⟩,
      ⟨some 4, .alloc [.bool false, .bool false, .bool false], none⟩,
      ⟨none, .store (some 3) (.t 4) (.t 13), none⟩])
   (.seq (.block 0 (.seq (.ops false [
        ⟨some 15, .mov (.t 0), none⟩,
        ⟨some 16, .nilchk (.t 15), none⟩,
        ⟨some 17, .faddr 1 (.t 16), none⟩,
        ⟨some 18, .load none (.t 17), none⟩,
        ⟨some 14, .mov (.t 18), none⟩])
     (.cond (.t 14)
     (.skip)
     (.seq (.ops false [
          ⟨some 20, .faddr 0 (.t 4), none⟩,
          ⟨some 21, .load none (.t 20), none⟩,
          ⟨some 19, .mov (.t 21), none⟩])
       (.cond (.t 19)
       (.seq (.ops false [
            ⟨some 5, .mov (.c (.int .i64 2)), none⟩])
         (.block 1 (.loop b55_0)))
       (.seq (.ops false [
            ⟨some 33, .faddr 1 (.t 4), none⟩,
            ⟨some 34, .load none (.t 33), none⟩,
            ⟨some 32, .mov (.t 34), none⟩])
         (.cond (.t 32)
         (.ops false [
            ⟨some 35, .mov (.t 0), none⟩,
            ⟨some 36, .mov (.t 0), none⟩,
            ⟨some 37, .call true 54 [(.t 36), (.c (.int .i64 1000))], none⟩,
            ⟨some 38, .call true 82 [(.t 35), (.t 37)], none⟩,
            ⟨some 39, .faddr 11 (.t 3), none⟩,
            ⟨none, .store none (.t 39) (.t 38), none⟩])
         (.seq (.ops false [
              ⟨some 41, .faddr 2 (.t 4), none⟩,
              ⟨some 42, .load none (.t 41), none⟩,
              ⟨some 40, .mov (.t 42), none⟩])
           (.cond (.t 40)
           (.ops false [
              ⟨some 43, .mov (.t 0), none⟩,
              ⟨some 44, .call true 54 [(.t 43), (.c (.int .i64 1))], none⟩,
              ⟨some 45, .bin .eql (.t 44) (.c (.int .i64 1)), none⟩,
              ⟨some 46, .faddr 2 (.t 3), none⟩,
              ⟨none, .store none (.t 46) (.t 45), none⟩])
           (.skip))))))))))
   (.seq (.ops false [
      ⟨some 47, .load (some 12) (.t 3), none⟩,
      ⟨none, .store (some 12) (.t 2) (.t 47), none⟩])
   (.ret))))))
 [.cell 2 (some 12)]

set_option maxRecDepth 100000 in
theorem ok55 : chkFn Try.prog 55 a55 = true := by kernel_rfl

def b14_0 : ACode :=
  (.seq (.seq (.ops false [
        ⟨some 36, .mov (.t 6), none⟩,
        ⟨some 37, .bin .gtr (.t 36) (.c (.int .i64 0)), none⟩,
        ⟨some 38, .mov (.t 37), none⟩,
        ⟨some 39, .mov (.t 4), some (38, true)⟩,
        ⟨some 40, .nilchk (.t 39), some (38, true)⟩,
        ⟨some 41, .faddr 1 (.t 40), some (38, true)⟩,
        ⟨some 42, .load none (.t 41), some (38, true)⟩,
        ⟨some 43, .un .not (.t 42), some (38, true)⟩,
        ⟨some 44, .pick (.t 38) (.t 43) (.c (.bool false)), none⟩])
     (.cond (.t 44)
     (.skip)
     (.exit 0)))
   (.seq (.block 1 (.ops false [
      ⟨some 47, .mov (.t 5), none⟩,
      ⟨some 48, .mov (.t 4), none⟩,
      ⟨some 49, .call true 55 [(.t 48)], none⟩,
      ⟨some 50, .bsliceI (some 12) [(.t 49)], none⟩,
      ⟨some 51, .append (some 12) (.t 47) (.t 50) false, none⟩,
      ⟨some 5, .mov (.t 51), none⟩]))
   (.ops false [
    ⟨some 45, .mov (.t 6), none⟩,
    ⟨some 46, .bin .sub (.t 45) (.c (.int .i64 1)), none⟩,
    ⟨some 6, .mov (.t 46), none⟩])))

/-- pointsman/save.Decode -/
def a14 : AFn := .mk 64
 (.seq (.ops false [
      ⟨some 2, .mov (.c (.vec (some 12) [])), none⟩,
      ⟨some 3, .mov (.c (.int .i64 0)), none⟩])
   (.seq (.seq (.ops false [
        ⟨some 7, .mov (.t 0), none⟩,
        ⟨some 8, .slen (.t 7), none⟩,
        ⟨some 9, .bin .lss (.t 8) (.c (.int .i64 4)), none⟩,
        ⟨some 10, .mov (.t 9), none⟩,
        ⟨some 11, .mov (.t 0), some (10, false)⟩,
        ⟨some 12, .idxS (.t 11) (.c (.int .i64 0)), some (10, false)⟩,
        ⟨some 13, .bin .neq (.t 12) (.c (.int .u8 68)), some (10, false)⟩,
        ⟨some 14, .pick (.t 10) (.c (.bool true)) (.t 13), none⟩,
        ⟨some 15, .mov (.t 14), none⟩,
        ⟨some 16, .mov (.t 0), some (15, false)⟩,
        ⟨some 17, .mov (.t 0), some (15, false)⟩,
        ⟨some 18, .slen (.t 17), some (15, false)⟩,
        ⟨some 19, .bin .sub (.t 18) (.c (.int .i64 2)), some (15, false)⟩,
        ⟨some 20, .sstr (.t 16) none (some (.t 19)), some (15, false)⟩,
        ⟨some 21, .s2b (.t 20) false, some (15, false)⟩,
        ⟨some 22, .call true 53 [(.t 21)], some (15, false)⟩,
        ⟨some 23, .b2s (.t 22), some (15, false)⟩,
        ⟨some 24, .mov (.t 0), some (15, false)⟩,
        ⟨some 25, .bin .neq (.t 23) (.t 24), some (15, false)⟩,
        ⟨some 26, .pick (.t 15) (.c (.bool true)) (.t 25), none⟩])
     (.cond (.t 26)
     (.seq (.ops false [
          ⟨some 2, .mov (.c (.vec (some 12) [])), none⟩,
          ⟨some 3, .mov (.c (.int .i64 30)), none⟩])
       (.ret))
     (.skip)))
   (.seq (.ops false [
      ⟨some 27, .mov (.t 0), none⟩,
      ⟨some 28, .mov (.t 0), none⟩,
      ⟨some 29, .slen (.t 28), none⟩,
      ⟨some 30, .bin .sub (.t 29) (.c (.int .i64 2)), none⟩,
      ⟨some 31, .sstr (.t 27) (some (.c (.int .i64 1))) (some (.t 30)), none⟩,
      ⟨some 32, .build [.str ⟨#[]⟩, .bool false] [(0, 1, (.t 31))], none⟩,
      ⟨some 33, .box (some 2) (.t 32) false, none⟩,
      ⟨some 4, .mov (.t 33), none⟩])
   (.seq (.ops false [
      ⟨some 5, .mov (.c (.nils)), none⟩])
   (.seq (.seq (.ops false [
        ⟨some 34, .mov (.t 4), none⟩,
        ⟨some 35, .call true 54 [(.t 34), (.c (.int .i64 10000))], none⟩,
        ⟨some 6, .mov (.t 35), none⟩])
     (.block 0 (.loop b14_0)))
   (.seq (.seq (.ops false [
        ⟨some 52, .mov (.t 4), none⟩,
        ⟨some 53, .nilchk (.t 52), none⟩,
        ⟨some 54, .faddr 1 (.t 53), none⟩,
        ⟨some 55, .load none (.t 54), none⟩,
        ⟨some 56, .mov (.t 55), none⟩,
        ⟨some 57, .mov (.t 4), some (56, false)⟩,
        ⟨some 58, .nilchk (.t 57), some (56, false)⟩,
        ⟨some 59, .faddr 0 (.t 58), some (56, false)⟩,
        ⟨some 60, .load none (.t 59), some (56, false)⟩,
        ⟨some 61, .bin .neq (.t 60) (.c (.str ⟨#[]⟩)), some (56, false)⟩,
        ⟨some 62, .pick (.t 56) (.c (.bool true)) (.t 61), none⟩])
     (.cond (.t 62)
     (.seq (.ops false [
          ⟨some 2, .mov (.c (.vec (some 12) [])), none⟩,
          ⟨some 3, .mov (.c (.int .i64 30)), none⟩])
       (.ret))
     (.skip)))
   (.seq (.ops false [
      ⟨some 63, .mov (.t 5), none⟩,
      ⟨some 2, .mov (.t 63), none⟩,
      ⟨some 3, .mov (.c (.int .i64 0)), none⟩])
   (.ret))))))))
 [.t 2, .t 3]

set_option maxRecDepth 100000 in
theorem ok14 : chkFn Try.prog 14 a14 = true := by kernel_rfl

def b16_0 : ACode :=
  (.seq (.seq (.ops false [
        ⟨some 11, .mov (.t 5), none⟩,
        ⟨some 12, .mov (.t 0), none⟩,
        ⟨some 13, .len (.t 12), none⟩,
        ⟨some 14, .bin .lss (.t 11) (.t 13), none⟩])
     (.cond (.t 14)
     (.skip)
     (.exit 0)))
   (.seq (.block 1 (.seq (.ops true [
        ⟨some 17, .mov (.t 0), none⟩,
        ⟨some 18, .mov (.t 5), none⟩,
        ⟨some 19, .iaddr (some 12) (.t 17) (.t 18), none⟩,
        ⟨some 20, .load (some 12) (.t 19), none⟩,
        ⟨some 21, .mov (.t 1), none⟩,
        ⟨some 22, .mov (.t 5), none⟩,
        ⟨some 23, .iaddr (some 12) (.t 21) (.t 22), none⟩,
        ⟨some 24, .load (some 12) (.t 23), none⟩,
        ⟨some 25, .eqS true [.int, .int, .bool, .int, .int, .int, .int, .int, .int, .int, .int, .str] (.t 20) (.t 24), none⟩])
     (.cond (.t 25)
     (.seq (.ops false [
          ⟨some 4, .mov (.c (.bool false)), none⟩])
       (.ret))
     (.skip))))
   (.ops false [
    ⟨some 15, .mov (.t 5), none⟩,
    ⟨some 16, .bin .add (.t 15) (.c (.int .i64 1)), none⟩,
    ⟨some 5, .mov (.t 16), none⟩])))

/-- pointsman/pointsmanref32.Same -/
def a16 : AFn := .mk 26
 (.seq (.ops false [
      ⟨some 4, .mov (.c (.bool false)), none⟩])
   (.seq (.seq (.ops false [
        ⟨some 6, .mov (.t 0), none⟩,
        ⟨some 7, .len (.t 6), none⟩,
        ⟨some 8, .mov (.t 1), none⟩,
        ⟨some 9, .len (.t 8), none⟩,
        ⟨some 10, .bin .neq (.t 7) (.t 9), none⟩])
     (.cond (.t 10)
     (.seq (.ops false [
          ⟨some 4, .mov (.c (.bool false)), none⟩])
       (.ret))
     (.skip)))
   (.seq (.seq (.ops false [
        ⟨some 5, .mov (.c (.int .i64 0)), none⟩])
     (.block 0 (.loop b16_0)))
   (.seq (.ops false [
      ⟨some 4, .mov (.c (.bool true)), none⟩])
   (.ret)))))
 [.t 4]

set_option maxRecDepth 100000 in
theorem ok16 : chkFn Try.prog 16 a16 = true := by kernel_rfl

/-- pointsman/pointsmanlaw32.awake -/
def a13 : AFn := .mk 36
 (.seq (.ops false [
      ⟨some 0, .mov (.c (.bool false)), none⟩])
   (.seq (.ops false [
      ⟨some 6, .build [.int .u16 0, .int .u16 0, .int .u16 0, .int .u16 0, .int .u16 0, .int .u16 0, .int .u16 0, .int .u16 0] [(2, 1, (.c (.int .u16 1)))], none⟩,
      ⟨some 7, .build [.int .i64 0, .int .i64 0, .bool false, .int .u16 0, .int .u16 0, .int .u16 0, .int .u16 0, .int .u16 0, .int .u16 0, .int .u16 0, .int .u16 0, .str ⟨#[]⟩] [(0, 1, (.c (.int .i64 0))), (1, 1, (.c (.int .i64 300))), (3, 8, (.t 6))], none⟩,
      ⟨some 8, .build [.int .i64 0, .int .i64 0, .bool false, .int .u16 0, .int .u16 0, .int .u16 0, .int .u16 0, .int .u16 0, .int .u16 0, .int .u16 0, .int .u16 0, .str ⟨#[]⟩] [(0, 1, (.c (.int .i64 3))), (2, 1, (.c (.bool true)))], none⟩,
      ⟨some 9, .bsliceI (some 12) [(.t 7), (.t 8)], none⟩,
      ⟨some 1, .mov (.t 9), none⟩])
   (.seq (.ops false [
      ⟨some 11, .mov (.t 1), none⟩,
      ⟨some 12, .call false 21 [(.t 11)], none⟩,
      ⟨some 10, .mov (.t 12), none⟩,
      ⟨some 13, .extract (.t 10) 0, none⟩,
      ⟨some 14, .extract (.t 10) 1, none⟩,
      ⟨some 2, .mov (.t 13), none⟩,
      ⟨some 3, .mov (.t 14), none⟩])
   (.seq (.ops false [
      ⟨some 16, .mov (.t 2), none⟩,
      ⟨some 17, .call false 14 [(.t 16)], none⟩,
      ⟨some 15, .mov (.t 17), none⟩,
      ⟨some 18, .extract (.t 15) 0, none⟩,
      ⟨some 19, .extract (.t 15) 1, none⟩,
      ⟨some 4, .mov (.t 18), none⟩,
      ⟨some 5, .mov (.t 19), none⟩])
   (.seq (.ops false [
      ⟨some 20, .mov (.t 3), none⟩,
      ⟨some 21, .bin .eql (.t 20) (.c (.int .i64 0)), none⟩,
      ⟨some 22, .mov (.t 21), none⟩,
      ⟨some 23, .mov (.t 5), some (22, true)⟩,
      ⟨some 24, .bin .eql (.t 23) (.c (.int .i64 0)), some (22, true)⟩,
      ⟨some 25, .pick (.t 22) (.t 24) (.c (.bool false)), none⟩,
      ⟨some 26, .mov (.t 25), none⟩,
      ⟨some 27, .mov (.t 1), some (26, true)⟩,
      ⟨some 28, .mov (.t 4), some (26, true)⟩,
      ⟨some 29, .call false 16 [(.t 27), (.t 28)], some (26, true)⟩,
      ⟨some 30, .pick (.t 26) (.t 29) (.c (.bool false)), none⟩,
      ⟨some 31, .mov (.t 30), none⟩,
      ⟨some 32, .mov (.t 2), some (31, true)⟩,
      ⟨some 33, .slen (.t 32), some (31, true)⟩,
      ⟨some 34, .bin .eql (.t 33) (.c (.int .i64 16)), some (31, true)⟩,
      ⟨some 35, .pick (.t 31) (.t 34) (.c (.bool false)), none⟩,
      ⟨some 0, .mov (.t 35), none⟩])
   (.ret))))))
 [.t 0]

set_option maxRecDepth 100000 in
theorem ok13 : chkFn Try.prog 13 a13 = true := by kernel_rfl

def b56_0 : ACode :=
  (.seq (.seq (.ops false [
        ⟨some 10, .mov (.t 8), none⟩,
        ⟨some 11, .mov (.t 0), none⟩,
        ⟨some 12, .slen (.t 11), none⟩,
        ⟨some 13, .bin .lss (.t 10) (.t 12), none⟩,
        ⟨some 14, .mov (.t 13), none⟩,
        ⟨some 15, .mov (.t 8), some (14, true)⟩,
        ⟨some 16, .mov (.t 1), some (14, true)⟩,
        ⟨some 17, .bin .add (.t 16) (.c (.int .i64 5)), some (14, true)⟩,
        ⟨some 18, .bin .lss (.t 15) (.t 17), some (14, true)⟩,
        ⟨some 19, .pick (.t 14) (.t 18) (.c (.bool false)), none⟩])
     (.cond (.t 19)
     (.skip)
     (.exit 0)))
   (.seq (.block 1 (.seq (.ops false [
        ⟨some 22, .mov (.t 6), none⟩,
        ⟨some 23, .mov (.t 0), none⟩,
        ⟨some 24, .mov (.t 8), none⟩,
        ⟨some 25, .idxS (.t 23) (.t 24), none⟩,
        ⟨some 26, .bin .rem (.t 25) (.c (.int .u8 128)), none⟩,
        ⟨some 27, .convI .i64 (.t 26), none⟩,
        ⟨some 28, .mov (.t 7), none⟩,
        ⟨some 29, .bin .mul (.t 27) (.t 28), none⟩,
        ⟨some 30, .bin .add (.t 22) (.t 29), none⟩,
        ⟨some 6, .mov (.t 30), none⟩])
     (.seq (.ops false [
        ⟨some 31, .mov (.t 7), none⟩,
        ⟨some 32, .bin .mul (.t 31) (.c (.int .i64 128)), none⟩,
        ⟨some 7, .mov (.t 32), none⟩])
     (.seq (.ops false [
        ⟨some 33, .mov (.t 0), none⟩,
        ⟨some 34, .mov (.t 8), none⟩,
        ⟨some 35, .idxS (.t 33) (.t 34), none⟩,
        ⟨some 36, .bin .lss (.t 35) (.c (.int .u8 128)), none⟩])
     (.cond (.t 36)
     (.seq (.ops false [
          ⟨some 37, .mov (.t 6), none⟩,
          ⟨some 38, .mov (.t 8), none⟩,
          ⟨some 39, .bin .add (.t 38) (.c (.int .i64 1)), none⟩,
          ⟨some 4, .mov (.t 37), none⟩,
          ⟨some 5, .mov (.t 39), none⟩])
       (.ret))
     (.skip))))))
   (.ops false [
    ⟨some 20, .mov (.t 8), none⟩,
    ⟨some 21, .bin .add (.t 20) (.c (.int .i64 1)), none⟩,
    ⟨some 8, .mov (.t 21), none⟩])))

/-- pointsman/pointsmanref32.number -/
def a56 : AFn := .mk 40
 (.seq (.ops false [
      ⟨some 4, .mov (.c (.int .i64 0)), none⟩,
      ⟨some 5, .mov (.c (.int .i64 0)), none⟩])
   (.seq (.ops false [
      ⟨some 6, .mov (.c (.int .i64 0)), none⟩])
   (.seq (.ops false [
      ⟨some 7, .mov (.c (.int .i64 1)), none⟩])
   (.seq (.seq (.ops false [
        ⟨some 9, .mov (.t 1), none⟩,
        ⟨some 8, .mov (.t 9), none⟩])
     (.block 0 (.loop b56_0)))
   (.seq (.ops false [
      ⟨some 4, .mov (.c (.int .i64 0)), none⟩,
      ⟨some 5, .mov (.c (.int .i64 (-1))), none⟩])
   (.ret))))))
 [.t 4, .t 5]

set_option maxRecDepth 100000 in
theorem ok56 : chkFn Try.prog 56 a56 = true := by kernel_rfl

/-- pointsman/pointsmanref32.Number -/
def a62 : AFn := .mk 17
 (.seq (.ops false [
      ⟨some 2, .mov (.c (.nils)), none⟩])
   (.seq (.seq (.ops false [
        ⟨some 3, .mov (.t 0), none⟩,
        ⟨some 4, .bin .lss (.t 3) (.c (.int .i64 128)), none⟩])
     (.cond (.t 4)
     (.seq (.ops false [
          ⟨some 5, .mov (.t 0), none⟩,
          ⟨some 6, .convI .u8 (.t 5), none⟩,
          ⟨some 7, .bslice none [(.t 6)] true, none⟩,
          ⟨some 2, .mov (.t 7), none⟩])
       (.ret))
     (.skip)))
   (.seq (.ops false [
      ⟨some 8, .mov (.t 0), none⟩,
      ⟨some 9, .bin .rem (.t 8) (.c (.int .i64 128)), none⟩,
      ⟨some 10, .bin .add (.c (.int .i64 128)) (.t 9), none⟩,
      ⟨some 11, .convI .u8 (.t 10), none⟩,
      ⟨some 12, .bslice none [(.t 11)] true, none⟩,
      ⟨some 13, .mov (.t 0), none⟩,
      ⟨some 14, .bin .quo (.t 13) (.c (.int .i64 128)), none⟩,
      ⟨some 15, .call true 62 [(.t 14)], none⟩,
      ⟨some 16, .append none (.t 12) (.t 15) true, none⟩,
      ⟨some 2, .mov (.t 16), none⟩])
   (.ret))))
 [.t 2]

set_option maxRecDepth 100000 in
theorem ok62 : chkFn Try.prog 62 a62 = true := by kernel_rfl

def b63_0 : ACode :=
  (.seq (.seq (.ops false [
        ⟨some 17, .mov (.t 4), none⟩,
        ⟨some 18, .bin .lss (.t 17) (.c (.int .i64 8)), none⟩])
     (.cond (.t 18)
     (.skip)
     (.exit 1)))
   (.seq (.block 2 (.ops false [
      ⟨some 21, .mov (.t 3), none⟩,
      ⟨some 22, .mov (.t 4), none⟩,
      ⟨some 23, .faddr 3 (.t 1), none⟩,
      ⟨some 24, .iaddrA 8 none (.t 23) (.t 22), none⟩,
      ⟨some 25, .ldI none (.t 24), none⟩,
      ⟨some 26, .convI .i64 (.t 25), none⟩,
      ⟨some 27, .call true 62 [(.t 26)], none⟩,
      ⟨some 28, .append none (.t 21) (.t 27) false, none⟩,
      ⟨some 3, .mov (.t 28), none⟩]))
   (.ops false [
    ⟨some 19, .mov (.t 4), none⟩,
    ⟨some 20, .bin .add (.t 19) (.c (.int .i64 1)), none⟩,
    ⟨some 4, .mov (.t 20), none⟩])))

/-- pointsman/pointsmanref32.deed -/
def a63 : AFn := .mk 50
 (.seq (.ops false [
      ⟨some 1, .box (some 12) (.t 0) true, none⟩,
      ⟨some 2, .mov (.c (.vec none [])), none⟩])
   (.seq (.ops true [
      ⟨some 6, .faddr 0 (.t 1), none⟩,
      ⟨some 7, .ldI none (.t 6), none⟩,
      ⟨some 8, .call true 62 [(.t 7)], none⟩,
      ⟨some 9, .faddr 1 (.t 1), none⟩,
      ⟨some 10, .ldI none (.t 9), none⟩,
      ⟨some 11, .call true 62 [(.t 10)], none⟩,
      ⟨some 12, .append none (.t 8) (.t 11) false, none⟩,
      ⟨some 3, .mov (.t 12), none⟩])
   (.seq (.seq (.ops false [
        ⟨some 13, .faddr 0 (.t 1), none⟩,
        ⟨some 14, .ldI none (.t 13), none⟩])
     (.block 0 (.seq (.ops false [
        ⟨some 16, .bin .eql (.t 14) (.c (.int .i64 0)), none⟩,
        ⟨some 15, .mov (.t 16), none⟩])
     (.cond (.t 15)
     (.seq (.ops false [
          ⟨some 4, .mov (.c (.int .i64 2)), none⟩])
       (.block 1 (.loop b63_0)))
     (.seq (.ops false [
          ⟨some 30, .bin .eql (.t 14) (.c (.int .i64 1)), none⟩,
          ⟨some 29, .mov (.t 30), none⟩])
       (.cond (.t 29)
       (.ops true [
          ⟨some 31, .mov (.t 3), none⟩,
          ⟨some 32, .faddr 11 (.t 1), none⟩,
          ⟨some 33, .ldI none (.t 32), none⟩,
          ⟨some 34, .slen (.t 33), none⟩,
          ⟨some 35, .call true 62 [(.t 34)], none⟩,
          ⟨some 36, .append none (.t 31) (.t 35) false, none⟩,
          ⟨some 37, .faddr 11 (.t 1), none⟩,
          ⟨some 38, .ldI none (.t 37), none⟩,
          ⟨some 39, .append none (.t 36) (.t 38) false, none⟩,
          ⟨some 3, .mov (.t 39), none⟩])
       (.seq (.seq (.ops false [
              ⟨some 41, .bin .eql (.t 14) (.c (.int .i64 3)), none⟩,
              ⟨some 40, .mov (.t 41), none⟩])
           (.cond (.t 40)
           (.skip)
           (.ops false [
              ⟨some 42, .bin .eql (.t 14) (.c (.int .i64 4)), none⟩,
              ⟨some 40, .mov (.t 42), none⟩])))
         (.cond (.t 40)
         (.seq (.ops false [
              ⟨some 5, .mov (.c (.int .u8 0)), none⟩])
           (.seq (.seq (.ops false [
                ⟨some 43, .faddr 2 (.t 1), none⟩,
                ⟨some 44, .ldI none (.t 43), none⟩])
             (.cond (.t 44)
             (.ops false [
                ⟨some 5, .mov (.c (.int .u8 1)), none⟩])
             (.skip)))
           (.ops false [
            ⟨some 45, .mov (.t 3), none⟩,
            ⟨some 46, .mov (.t 5), none⟩,
            ⟨some 47, .bsliceI none [(.t 46)], none⟩,
            ⟨some 48, .append none (.t 45) (.t 47) false, none⟩,
            ⟨some 3, .mov (.t 48), none⟩])))
         (.skip)))))))))
   (.seq (.ops false [
      ⟨some 49, .mov (.t 3), none⟩,
      ⟨some 2, .mov (.t 49), none⟩])
   (.ret)))))
 [.t 2]

set_option maxRecDepth 100000 in
theorem ok63 : chkFn Try.prog 63 a63 = true := by kernel_rfl

def b18_0 : ACode :=
  (.seq (.seq (.ops false [
        ⟨some 5, .mov (.t 4), none⟩,
        ⟨some 6, .mov (.t 0), none⟩,
        ⟨some 7, .len (.t 6), none⟩,
        ⟨some 8, .bin .lss (.t 5) (.t 7), none⟩])
     (.cond (.t 8)
     (.skip)
     (.exit 0)))
   (.seq (.block 1 (.ops false [
      ⟨some 11, .mov (.t 3), none⟩,
      ⟨some 12, .mov (.t 4), none⟩,
      ⟨some 13, .bin .add (.t 12) (.c (.int .i64 1)), none⟩,
      ⟨some 14, .mov (.t 0), none⟩,
      ⟨some 15, .mov (.t 4), none⟩,
      ⟨some 16, .iaddr none (.t 14) (.t 15), none⟩,
      ⟨some 17, .load none (.t 16), none⟩,
      ⟨some 18, .convI .i64 (.t 17), none⟩,
      ⟨some 19, .bin .mul (.t 13) (.t 18), none⟩,
      ⟨some 20, .bin .add (.t 11) (.t 19), none⟩,
      ⟨some 21, .bin .rem (.t 20) (.c (.int .i64 65521)), none⟩,
      ⟨some 3, .mov (.t 21), none⟩]))
   (.ops false [
    ⟨some 9, .mov (.t 4), none⟩,
    ⟨some 10, .bin .add (.t 9) (.c (.int .i64 1)), none⟩,
    ⟨some 4, .mov (.t 10), none⟩])))

/-- pointsman/pointsmanref03.Check -/
def a18 : AFn := .mk 24
 (.seq (.ops false [
      ⟨some 2, .mov (.c (.int .u16 0)), none⟩])
   (.seq (.ops false [
      ⟨some 3, .mov (.c (.int .i64 0)), none⟩])
   (.seq (.seq (.ops false [
        ⟨some 4, .mov (.c (.int .i64 0)), none⟩])
     (.block 0 (.loop b18_0)))
   (.seq (.ops false [
      ⟨some 22, .mov (.t 3), none⟩,
      ⟨some 23, .convI .u16 (.t 22), none⟩,
      ⟨some 2, .mov (.t 23), none⟩])
   (.ret)))))
 [.t 2]

set_option maxRecDepth 100000 in
theorem ok18 : chkFn Try.prog 18 a18 = true := by kernel_rfl

/-- pointsman/pointsmanref03.Two -/
def a17 : AFn := .mk 10
 (.seq (.ops false [
      ⟨some 2, .mov (.c (.vec none [])), none⟩])
   (.seq (.ops false [
      ⟨some 3, .mov (.t 0), none⟩,
      ⟨some 4, .bin .quo (.t 3) (.c (.int .u16 256)), none⟩,
      ⟨some 5, .convI .u8 (.t 4), none⟩,
      ⟨some 6, .mov (.t 0), none⟩,
      ⟨some 7, .bin .rem (.t 6) (.c (.int .u16 256)), none⟩,
      ⟨some 8, .convI .u8 (.t 7), none⟩,
      ⟨some 9, .bsliceI none [(.t 5), (.t 8)], none⟩,
      ⟨some 2, .mov (.t 9), none⟩])
   (.ret)))
 [.t 2]

set_option maxRecDepth 100000 in
theorem ok17 : chkFn Try.prog 17 a17 = true := by kernel_rfl

def b22_0 : ACode :=
  (.seq (.seq (.ops false [
        ⟨some 7, .mov (.t 4), none⟩,
        ⟨some 8, .mov (.t 0), none⟩,
        ⟨some 9, .len (.t 8), none⟩,
        ⟨some 10, .bin .lss (.t 7) (.t 9), none⟩])
     (.cond (.t 10)
     (.skip)
     (.exit 0)))
   (.seq (.block 1 (.seq (.ops false [
        ⟨some 13, .mov (.t 0), none⟩,
        ⟨some 14, .mov (.t 4), none⟩,
        ⟨some 15, .iaddr (some 12) (.t 13) (.t 14), none⟩,
        ⟨some 16, .faddr 0 (.t 15), none⟩,
        ⟨some 17, .load none (.t 16), none⟩,
        ⟨some 18, .bin .lss (.t 17) (.c (.int .i64 0)), none⟩,
        ⟨some 19, .mov (.t 18), none⟩,
        ⟨some 20, .mov (.t 0), some (19, false)⟩,
        ⟨some 21, .mov (.t 4), some (19, false)⟩,
        ⟨some 22, .iaddr (some 12) (.t 20) (.t 21), some (19, false)⟩,
        ⟨some 23, .faddr 0 (.t 22), some (19, false)⟩,
        ⟨some 24, .load none (.t 23), some (19, false)⟩,
        ⟨some 25, .bin .gtr (.t 24) (.c (.int .i64 6)), some (19, false)⟩,
        ⟨some 26, .pick (.t 19) (.c (.bool true)) (.t 25), none⟩,
        ⟨some 27, .mov (.t 26), none⟩,
        ⟨some 28, .mov (.t 0), some (27, false)⟩,
        ⟨some 29, .mov (.t 4), some (27, false)⟩,
        ⟨some 30, .iaddr (some 12) (.t 28) (.t 29), some (27, false)⟩,
        ⟨some 31, .faddr 1 (.t 30), some (27, false)⟩,
        ⟨some 32, .load none (.t 31), some (27, false)⟩,
        ⟨some 33, .bin .lss (.t 32) (.c (.int .i64 0)), some (27, false)⟩,
        ⟨some 34, .pick (.t 27) (.c (.bool true)) (.t 33), none⟩,
        ⟨some 35, .mov (.t 34), none⟩,
        ⟨some 36, .mov (.t 0), some (35, false)⟩,
        ⟨some 37, .mov (.t 4), some (35, false)⟩,
        ⟨some 38, .iaddr (some 12) (.t 36) (.t 37), some (35, false)⟩,
        ⟨some 39, .faddr 1 (.t 38), some (35, false)⟩,
        ⟨some 40, .load none (.t 39), some (35, false)⟩,
        ⟨some 41, .bin .gtr (.t 40) (.c (.int .i64 99999)), some (35, false)⟩,
        ⟨some 42, .pick (.t 35) (.c (.bool true)) (.t 41), none⟩,
        ⟨some 43, .mov (.t 42), none⟩,
        ⟨some 44, .mov (.t 0), some (43, false)⟩,
        ⟨some 45, .mov (.t 4), some (43, false)⟩,
        ⟨some 46, .iaddr (some 12) (.t 44) (.t 45), some (43, false)⟩,
        ⟨some 47, .faddr 11 (.t 46), some (43, false)⟩,
        ⟨some 48, .load none (.t 47), some (43, false)⟩,
        ⟨some 49, .slen (.t 48), some (43, false)⟩,
        ⟨some 50, .bin .gtr (.t 49) (.c (.int .i64 1000)), some (43, false)⟩,
        ⟨some 51, .pick (.t 43) (.c (.bool true)) (.t 50), none⟩])
     (.cond (.t 51)
     (.seq (.ops false [
          ⟨some 2, .mov (.c (.str ⟨#[]⟩)), none⟩,
          ⟨some 3, .mov (.c (.int .i64 1)), none⟩])
       (.ret))
     (.skip))))
   (.ops false [
    ⟨some 11, .mov (.t 4), none⟩,
    ⟨some 12, .bin .add (.t 11) (.c (.int .i64 1)), none⟩,
    ⟨some 4, .mov (.t 12), none⟩])))

def b22_1 : ACode :=
  (.seq (.seq (.ops false [
        ⟨some 60, .mov (.t 6), none⟩,
        ⟨some 61, .mov (.t 0), none⟩,
        ⟨some 62, .len (.t 61), none⟩,
        ⟨some 63, .bin .lss (.t 60) (.t 62), none⟩])
     (.cond (.t 63)
     (.skip)
     (.exit 2)))
   (.seq (.block 3 (.ops false [
      ⟨some 66, .mov (.t 5), none⟩,
      ⟨some 67, .mov (.t 0), none⟩,
      ⟨some 68, .mov (.t 6), none⟩,
      ⟨some 69, .iaddr (some 12) (.t 67) (.t 68), none⟩,
      ⟨some 70, .load (some 12) (.t 69), none⟩,
      ⟨some 71, .call false 63 [(.t 70)], none⟩,
      ⟨some 72, .append none (.t 66) (.t 71) false, none⟩,
      ⟨some 5, .mov (.t 72), none⟩]))
   (.ops false [
    ⟨some 64, .mov (.t 6), none⟩,
    ⟨some 65, .bin .add (.t 64) (.c (.int .i64 1)), none⟩,
    ⟨some 6, .mov (.t 65), none⟩])))

/-- pointsman/pointsmanref32.Encode -/
def a22 : AFn := .mk 79
 (.seq (.ops false [
      ⟨some 2, .mov (.c (.str ⟨#[]⟩)), none⟩,
      ⟨some 3, .mov (.c (.int .i64 0)), none⟩])
   (.seq (.seq (.ops false [
        ⟨some 4, .mov (.c (.int .i64 0)), none⟩])
     (.block 0 (.loop b22_0)))
   (.seq (.seq (.ops false [
        ⟨some 52, .mov (.t 0), none⟩,
        ⟨some 53, .len (.t 52), none⟩,
        ⟨some 54, .bin .gtr (.t 53) (.c (.int .i64 10000)), none⟩])
     (.cond (.t 54)
     (.seq (.ops false [
          ⟨some 2, .mov (.c (.str ⟨#[]⟩)), none⟩,
          ⟨some 3, .mov (.c (.int .i64 2)), none⟩])
       (.ret))
     (.skip)))
   (.seq (.ops false [
      ⟨some 55, .bslice none [(.c (.int .u8 68))] false, none⟩,
      ⟨some 56, .mov (.t 0), none⟩,
      ⟨some 57, .len (.t 56), none⟩,
      ⟨some 58, .call true 62 [(.t 57)], none⟩,
      ⟨some 59, .append none (.t 55) (.t 58) false, none⟩,
      ⟨some 5, .mov (.t 59), none⟩])
   (.seq (.seq (.ops false [
        ⟨some 6, .mov (.c (.int .i64 0)), none⟩])
     (.block 2 (.loop b22_1)))
   (.seq (.ops false [
      ⟨some 73, .mov (.t 5), none⟩,
      ⟨some 74, .mov (.t 5), none⟩,
      ⟨some 75, .call false 18 [(.t 74)], none⟩,
      ⟨some 76, .call false 17 [(.t 75)], none⟩,
      ⟨some 77, .append none (.t 73) (.t 76) false, none⟩,
      ⟨some 78, .b2s (.t 77), none⟩,
      ⟨some 2, .mov (.t 78), none⟩,
      ⟨some 3, .mov (.c (.int .i64 0)), none⟩])
   (.ret)))))))
 [.t 2, .t 3]

set_option maxRecDepth 100000 in
theorem ok22 : chkFn Try.prog 22 a22 = true := by kernel_rfl

def b15_1 : ACode :=
  (.seq (.seq (.ops false [
        ⟨some 42, .mov (.t 8), none⟩,
        ⟨some 43, .bin .lss (.t 42) (.c (.int .i64 2)), none⟩])
     (.cond (.t 43)
     (.skip)
     (.exit 2)))
   (.seq (.block 3 (.seq (.ops false [
        ⟨some 47, .mov (.t 0), none⟩,
        ⟨some 48, .mov (.t 5), none⟩,
        ⟨some 49, .call false 56 [(.t 47), (.t 48)], none⟩,
        ⟨some 46, .mov (.t 49), none⟩,
        ⟨some 50, .extract (.t 46) 0, none⟩,
        ⟨some 51, .extract (.t 46) 1, none⟩,
        ⟨some 9, .mov (.t 50), none⟩,
        ⟨some 10, .mov (.t 51), none⟩])
     (.seq (.seq (.ops false [
          ⟨some 52, .mov (.t 10), none⟩,
          ⟨some 53, .bin .lss (.t 52) (.c (.int .i64 0)), none⟩])
       (.cond (.t 53)
       (.seq (.ops false [
            ⟨some 2, .mov (.c (.vec (some 12) [])), none⟩,
            ⟨some 3, .mov (.c (.bool false)), none⟩])
         (.ret))
       (.skip)))
     (.seq (.ops false [
        ⟨some 54, .mov (.t 10), none⟩,
        ⟨some 5, .mov (.t 54), none⟩])
     (.seq (.ops false [
        ⟨some 55, .mov (.t 8), none⟩,
        ⟨some 56, .bin .eql (.t 55) (.c (.int .i64 0)), none⟩])
     (.cond (.t 56)
     (.ops false [
        ⟨some 57, .mov (.t 9), none⟩,
        ⟨some 58, .faddr 0 (.t 7), none⟩,
        ⟨none, .store none (.t 58) (.t 57), none⟩])
     (.ops false [
        ⟨some 59, .mov (.t 9), none⟩,
        ⟨some 60, .faddr 1 (.t 7), none⟩,
        ⟨none, .store none (.t 60) (.t 59), none⟩])))))))
   (.ops false [
    ⟨some 44, .mov (.t 8), none⟩,
    ⟨some 45, .bin .add (.t 44) (.c (.int .i64 1)), none⟩,
    ⟨some 8, .mov (.t 45), none⟩])))

def b15_2 : ACode :=
  (.seq (.seq (.ops false [
        ⟨some 65, .mov (.t 11), none⟩,
        ⟨some 66, .bin .lss (.t 65) (.c (.int .i64 8)), none⟩])
     (.cond (.t 66)
     (.skip)
     (.exit 5)))
   (.seq (.block 6 (.seq (.ops false [
        ⟨some 70, .mov (.t 0), none⟩,
        ⟨some 71, .mov (.t 5), none⟩,
        ⟨some 72, .call false 56 [(.t 70), (.t 71)], none⟩,
        ⟨some 69, .mov (.t 72), none⟩,
        ⟨some 73, .extract (.t 69) 0, none⟩,
        ⟨some 74, .extract (.t 69) 1, none⟩,
        ⟨some 12, .mov (.t 73), none⟩,
        ⟨some 13, .mov (.t 74), none⟩])
     (.seq (.seq (.ops false [
          ⟨some 75, .mov (.t 13), none⟩,
          ⟨some 76, .bin .lss (.t 75) (.c (.int .i64 0)), none⟩,
          ⟨some 77, .mov (.t 76), none⟩,
          ⟨some 78, .mov (.t 12), some (77, false)⟩,
          ⟨some 79, .bin .gtr (.t 78) (.c (.int .i64 65535)), some (77, false)⟩,
          ⟨some 80, .pick (.t 77) (.c (.bool true)) (.t 79), none⟩])
       (.cond (.t 80)
       (.seq (.ops false [
            ⟨some 2, .mov (.c (.vec (some 12) [])), none⟩,
            ⟨some 3, .mov (.c (.bool false)), none⟩])
         (.ret))
       (.skip)))
     (.seq (.ops false [
        ⟨some 81, .mov (.t 13), none⟩,
        ⟨some 5, .mov (.t 81), none⟩])
     (.ops false [
      ⟨some 82, .mov (.t 11), none⟩,
      ⟨some 83, .mov (.t 12), none⟩,
      ⟨some 84, .convI .u16 (.t 83), none⟩,
      ⟨some 85, .faddr 3 (.t 7), none⟩,
      ⟨some 86, .iaddrA 8 none (.t 85) (.t 82), none⟩,
      ⟨none, .store none (.t 86) (.t 84), none⟩])))))
   (.ops false [
    ⟨some 67, .mov (.t 11), none⟩,
    ⟨some 68, .bin .add (.t 67) (.c (.int .i64 1)), none⟩,
    ⟨some 11, .mov (.t 68), none⟩])))

def b15_0 : ACode :=
  (.seq (.seq (.ops false [
        ⟨some 37, .mov (.t 6), none⟩,
        ⟨some 38, .len (.t 37), none⟩,
        ⟨some 39, .mov (.t 4), none⟩,
        ⟨some 40, .bin .lss (.t 38) (.t 39), none⟩])
     (.cond (.t 40)
     (.skip)
     (.exit 0)))
   (.block 1 (.seq (.ops false [
      ⟨some 41, .build [.int .i64 0, .int .i64 0, .bool false, .int .u16 0, .int .u16 0, .int .u16 0, .int .u16 0, .int .u16 0, .int .u16 0, .int .u16 0, .int .u16 0, .str ⟨#[]⟩] [], none⟩,
      ⟨some 7, .alloc [.int .i64 0, .int .i64 0, .bool false, .int .u16 0, .int .u16 0, .int .u16 0, .int .u16 0, .int .u16 0, .int .u16 0, .int .u16 0, .int .u16 0, .str ⟨#[]⟩], none⟩,
      ⟨none, .store (some 12) (.t 7) (.t 41), none⟩])
   (.seq (.seq (.ops false [
        ⟨some 8, .mov (.c (.int .i64 0)), none⟩])
     (.block 2 (.loop b15_1)))
   (.seq (.seq (.ops false [
        ⟨some 61, .faddr 0 (.t 7), none⟩,
        ⟨some 62, .load none (.t 61), none⟩])
     (.block 4 (.seq (.ops false [
        ⟨some 64, .bin .eql (.t 62) (.c (.int .i64 0)), none⟩,
        ⟨some 63, .mov (.t 64), none⟩])
     (.cond (.t 63)
     (.seq (.ops false [
          ⟨some 11, .mov (.c (.int .i64 2)), none⟩])
       (.block 5 (.loop b15_2)))
     (.seq (.ops false [
          ⟨some 88, .bin .eql (.t 62) (.c (.int .i64 1)), none⟩,
          ⟨some 87, .mov (.t 88), none⟩])
       (.cond (.t 87)
       (.seq (.ops false [
            ⟨some 90, .mov (.t 0), none⟩,
            ⟨some 91, .mov (.t 5), none⟩,
            ⟨some 92, .call false 56 [(.t 90), (.t 91)], none⟩,
            ⟨some 89, .mov (.t 92), none⟩,
            ⟨some 93, .extract (.t 89) 0, none⟩,
            ⟨some 94, .extract (.t 89) 1, none⟩,
            ⟨some 14, .mov (.t 93), none⟩,
            ⟨some 15, .mov (.t 94), none⟩])
         (.seq (.seq (.ops false [
              ⟨some 95, .mov (.t 15), none⟩,
              ⟨some 96, .bin .lss (.t 95) (.c (.int .i64 0)), none⟩,
              ⟨some 97, .mov (.t 96), none⟩,
              ⟨some 98, .mov (.t 14), some (97, false)⟩,
              ⟨some 99, .bin .gtr (.t 98) (.c (.int .i64 1000)), some (97, false)⟩,
              ⟨some 100, .pick (.t 97) (.c (.bool true)) (.t 99), none⟩,
              ⟨some 101, .mov (.t 100), none⟩,
              ⟨some 102, .mov (.t 15), some (101, false)⟩,
              ⟨some 103, .mov (.t 14), some (101, false)⟩,
              ⟨some 104, .bin .add (.t 102) (.t 103), some (101, false)⟩,
              ⟨some 105, .mov (.t 0), some (101, false)⟩,
              ⟨some 106, .slen (.t 105), some (101, false)⟩,
              ⟨some 107, .bin .gtr (.t 104) (.t 106), some (101, false)⟩,
              ⟨some 108, .pick (.t 101) (.c (.bool true)) (.t 107), none⟩])
           (.cond (.t 108)
           (.seq (.ops false [
                ⟨some 2, .mov (.c (.vec (some 12) [])), none⟩,
                ⟨some 3, .mov (.c (.bool false)), none⟩])
             (.ret))
           (.skip)))
         (.seq (.ops false [
            ⟨some 109, .mov (.t 0), none⟩,
            ⟨some 110, .mov (.t 15), none⟩,
            ⟨some 111, .mov (.t 15), none⟩,
            ⟨some 112, .mov (.t 14), none⟩,
            ⟨some 113, .bin .add (.t 111) (.t 112), none⟩,
            ⟨some 114, .sstr (.t 109) (some (.t 110)) (some (.t 113)), none⟩,
            ⟨some 115, .faddr 11 (.t 7), none⟩,
            ⟨none, .store none (.t 115) (.t 114), none⟩])
         (.ops false [
          ⟨some 116, .mov (.t 15), none⟩,
          ⟨some 117, .mov (.t 14), none⟩,
          ⟨some 118, .bin .add (.t 116) (.t 117), none⟩,
          ⟨some 5, .mov (.t 118), none⟩]))))
       (.seq (.seq (.ops false [
              ⟨some 120, .bin .eql (.t 62) (.c (.int .i64 3)), none⟩,
              ⟨some 119, .mov (.t 120), none⟩])
           (.cond (.t 119)
           (.skip)
           (.ops false [
              ⟨some 121, .bin .eql (.t 62) (.c (.int .i64 4)), none⟩,
              ⟨some 119, .mov (.t 121), none⟩])))
         (.cond (.t 119)
         (.seq (.seq (.ops false [
                ⟨some 122, .mov (.t 5), none⟩,
                ⟨some 123, .mov (.t 0), none⟩,
                ⟨some 124, .slen (.t 123), none⟩,
                ⟨some 125, .bin .geq (.t 122) (.t 124), none⟩,
                ⟨some 126, .mov (.t 125), none⟩,
                ⟨some 127, .mov (.t 0), some (126, false)⟩,
                ⟨some 128, .mov (.t 5), some (126, false)⟩,
                ⟨some 129, .idxS (.t 127) (.t 128), some (126, false)⟩,
                ⟨some 130, .bin .gtr (.t 129) (.c (.int .u8 1)), some (126, false)⟩,
                ⟨some 131, .pick (.t 126) (.c (.bool true)) (.t 130), none⟩])
             (.cond (.t 131)
             (.seq (.ops false [
                  ⟨some 2, .mov (.c (.vec (some 12) [])), none⟩,
                  ⟨some 3, .mov (.c (.bool false)), none⟩])
               (.ret))
             (.skip)))
           (.seq (.ops false [
              ⟨some 132, .mov (.t 0), none⟩,
              ⟨some 133, .mov (.t 5), none⟩,
              ⟨some 134, .idxS (.t 132) (.t 133), none⟩,
              ⟨some 135, .bin .eql (.t 134) (.c (.int .u8 1)), none⟩,
              ⟨some 136, .faddr 2 (.t 7), none⟩,
              ⟨none, .store none (.t 136) (.t 135), none⟩])
           (.ops false [
            ⟨some 137, .mov (.t 5), none⟩,
            ⟨some 138, .bin .add (.t 137) (.c (.int .i64 1)), none⟩,
            ⟨some 5, .mov (.t 138), none⟩])))
         (.skip)))))))))
   (.ops false [
    ⟨some 139, .mov (.t 6), none⟩,
    ⟨some 140, .load (some 12) (.t 7), none⟩,
    ⟨some 141, .bsliceI (some 12) [(.t 140)], none⟩,
    ⟨some 142, .append (some 12) (.t 139) (.t 141) false, none⟩,
    ⟨some 6, .mov (.t 142), none⟩]))))))

/-- pointsman/pointsmanref32.Decode -/
def a15 : AFn := .mk 156
 (.seq (.ops false [
      ⟨some 2, .mov (.c (.vec (some 12) [])), none⟩,
      ⟨some 3, .mov (.c (.bool false)), none⟩])
   (.seq (.seq (.ops false [
        ⟨some 18, .mov (.t 0), none⟩,
        ⟨some 19, .slen (.t 18), none⟩,
        ⟨some 20, .bin .lss (.t 19) (.c (.int .i64 4)), none⟩,
        ⟨some 21, .mov (.t 20), none⟩,
        ⟨some 22, .mov (.t 0), some (21, false)⟩,
        ⟨some 23, .idxS (.t 22) (.c (.int .i64 0)), some (21, false)⟩,
        ⟨some 24, .bin .neq (.t 23) (.c (.int .u8 68)), some (21, false)⟩,
        ⟨some 25, .pick (.t 21) (.c (.bool true)) (.t 24), none⟩])
     (.cond (.t 25)
     (.seq (.ops false [
          ⟨some 2, .mov (.c (.vec (some 12) [])), none⟩,
          ⟨some 3, .mov (.c (.bool false)), none⟩])
       (.ret))
     (.skip)))
   (.seq (.ops false [
      ⟨some 27, .mov (.t 0), none⟩,
      ⟨some 28, .call false 56 [(.t 27), (.c (.int .i64 1))], none⟩,
      ⟨some 26, .mov (.t 28), none⟩,
      ⟨some 29, .extract (.t 26) 0, none⟩,
      ⟨some 30, .extract (.t 26) 1, none⟩,
      ⟨some 4, .mov (.t 29), none⟩,
      ⟨some 5, .mov (.t 30), none⟩])
   (.seq (.seq (.ops false [
        ⟨some 31, .mov (.t 5), none⟩,
        ⟨some 32, .bin .lss (.t 31) (.c (.int .i64 0)), none⟩,
        ⟨some 33, .mov (.t 32), none⟩,
        ⟨some 34, .mov (.t 4), some (33, false)⟩,
        ⟨some 35, .bin .gtr (.t 34) (.c (.int .i64 10000)), some (33, false)⟩,
        ⟨some 36, .pick (.t 33) (.c (.bool true)) (.t 35), none⟩])
     (.cond (.t 36)
     (.seq (.ops false [
          ⟨some 2, .mov (.c (.vec (some 12) [])), none⟩,
          ⟨some 3, .mov (.c (.bool false)), none⟩])
       (.ret))
     (.skip)))
   (.seq (.ops false [
      ⟨some 6, .mov (.c (.nils)), none⟩])
   (.seq (.block 0 (.loop b15_0))
   (.seq (.ops false [
      ⟨some 144, .mov (.t 6), none⟩,
      ⟨some 145, .call false 22 [(.t 144)], none⟩,
      ⟨some 143, .mov (.t 145), none⟩,
      ⟨some 146, .extract (.t 143) 0, none⟩,
      ⟨some 147, .extract (.t 143) 1, none⟩,
      ⟨some 16, .mov (.t 146), none⟩,
      ⟨some 17, .mov (.t 147), none⟩])
   (.seq (.seq (.ops false [
        ⟨some 148, .mov (.t 17), none⟩,
        ⟨some 149, .bin .neq (.t 148) (.c (.int .i64 0)), none⟩,
        ⟨some 150, .mov (.t 149), none⟩,
        ⟨some 151, .mov (.t 16), some (150, false)⟩,
        ⟨some 152, .mov (.t 0), some (150, false)⟩,
        ⟨some 153, .bin .neq (.t 151) (.t 152), some (150, false)⟩,
        ⟨some 154, .pick (.t 150) (.c (.bool true)) (.t 153), none⟩])
     (.cond (.t 154)
     (.seq (.ops false [
          ⟨some 2, .mov (.c (.vec (some 12) [])), none⟩,
          ⟨some 3, .mov (.c (.bool false)), none⟩])
       (.ret))
     (.skip)))
   (.seq (.ops false [
      ⟨some 155, .mov (.t 6), none⟩,
      ⟨some 2, .mov (.t 155), none⟩,
      ⟨some 3, .mov (.c (.bool true)), none⟩])
   (.ret))))))))))
 [.t 2, .t 3]

set_option maxRecDepth 100000 in
theorem ok15 : chkFn Try.prog 15 a15 = true := by kernel_rfl

/-- pointsman/pointsmanlaw32.SaveAny -/
def a3 : AFn := .mk 38
 (.seq (.ops false [
      ⟨some 2, .mov (.c (.bool false)), none⟩])
   (.seq (.seq (.ops false [
        ⟨some 7, .call false 13 [], none⟩,
        ⟨some 8, .un .not (.t 7), none⟩])
     (.cond (.t 8)
     (.seq (.ops false [
          ⟨some 2, .mov (.c (.bool false)), none⟩])
       (.ret))
     (.skip)))
   (.seq (.seq (.ops false [
        ⟨some 9, .mov (.t 0), none⟩,
        ⟨some 10, .slen (.t 9), none⟩,
        ⟨some 11, .bin .gtr (.t 10) (.c (.int .i64 600)), none⟩])
     (.cond (.t 11)
     (.seq (.ops false [
          ⟨some 2, .mov (.c (.bool true)), none⟩])
       (.ret))
     (.skip)))
   (.seq (.ops false [
      ⟨some 13, .mov (.t 0), none⟩,
      ⟨some 14, .call false 14 [(.t 13)], none⟩,
      ⟨some 12, .mov (.t 14), none⟩,
      ⟨some 15, .extract (.t 12) 0, none⟩,
      ⟨some 16, .extract (.t 12) 1, none⟩,
      ⟨some 3, .mov (.t 15), none⟩,
      ⟨some 4, .mov (.t 16), none⟩])
   (.seq (.ops false [
      ⟨some 18, .mov (.t 0), none⟩,
      ⟨some 19, .call false 15 [(.t 18)], none⟩,
      ⟨some 17, .mov (.t 19), none⟩,
      ⟨some 20, .extract (.t 17) 0, none⟩,
      ⟨some 21, .extract (.t 17) 1, none⟩,
      ⟨some 5, .mov (.t 20), none⟩,
      ⟨some 6, .mov (.t 21), none⟩])
   (.seq (.ops false [
      ⟨some 22, .mov (.t 4), none⟩,
      ⟨some 23, .bin .eql (.t 22) (.c (.int .i64 0)), none⟩,
      ⟨some 24, .mov (.t 6), none⟩,
      ⟨some 25, .eqB false (.t 23) (.t 24), none⟩,
      ⟨some 26, .mov (.t 25), none⟩,
      ⟨some 27, .mov (.t 3), some (26, true)⟩,
      ⟨some 28, .mov (.t 5), some (26, true)⟩,
      ⟨some 29, .call false 16 [(.t 27), (.t 28)], some (26, true)⟩,
      ⟨some 30, .pick (.t 26) (.t 29) (.c (.bool false)), none⟩,
      ⟨some 31, .mov (.t 30), none⟩,
      ⟨some 32, .mov (.t 6), some (31, true)⟩,
      ⟨some 33, .mov (.t 32), some (31, true)⟩,
      ⟨some 34, .mov (.t 4), some (33, false)⟩,
      ⟨some 35, .bin .eql (.t 34) (.c (.int .i64 30)), some (33, false)⟩,
      ⟨some 36, .pick (.t 33) (.c (.bool true)) (.t 35), some (31, true)⟩,
      ⟨some 37, .pick (.t 31) (.t 36) (.c (.bool false)), none⟩,
      ⟨some 2, .mov (.t 37), none⟩])
   (.ret)))))))
 [.t 2]

set_option maxRecDepth 100000 in
theorem ok3 : chkFn Try.prog 3 a3 = true := by kernel_rfl

/-- pointsman/pointsmanlaw32.SaveMade -/
def a4 : AFn := .mk 42
 (.seq (.ops false [
      ⟨some 2, .mov (.c (.bool false)), none⟩])
   (.seq (.seq (.ops false [
        ⟨some 8, .call false 13 [], none⟩,
        ⟨some 9, .un .not (.t 8), none⟩])
     (.cond (.t 9)
     (.seq (.ops false [
          ⟨some 2, .mov (.c (.bool false)), none⟩])
       (.ret))
     (.skip)))
   (.seq (.seq (.ops false [
        ⟨some 10, .mov (.t 0), none⟩,
        ⟨some 11, .slen (.t 10), none⟩,
        ⟨some 12, .bin .gtr (.t 11) (.c (.int .i64 300)), none⟩])
     (.cond (.t 12)
     (.seq (.ops false [
          ⟨some 2, .mov (.c (.bool true)), none⟩])
       (.ret))
     (.skip)))
   (.seq (.ops false [
      ⟨some 13, .bslice none [(.c (.int .u8 68))] false, none⟩,
      ⟨some 14, .mov (.t 0), none⟩,
      ⟨some 15, .append none (.t 13) (.t 14) false, none⟩,
      ⟨some 3, .mov (.t 15), none⟩])
   (.seq (.ops false [
      ⟨some 16, .mov (.t 3), none⟩,
      ⟨some 17, .mov (.t 3), none⟩,
      ⟨some 18, .call false 18 [(.t 17)], none⟩,
      ⟨some 19, .call false 17 [(.t 18)], none⟩,
      ⟨some 20, .append none (.t 16) (.t 19) false, none⟩,
      ⟨some 3, .mov (.t 20), none⟩])
   (.seq (.ops false [
      ⟨some 22, .mov (.t 3), none⟩,
      ⟨some 23, .b2s (.t 22), none⟩,
      ⟨some 24, .call false 14 [(.t 23)], none⟩,
      ⟨some 21, .mov (.t 24), none⟩,
      ⟨some 25, .extract (.t 21) 0, none⟩,
      ⟨some 26, .extract (.t 21) 1, none⟩,
      ⟨some 4, .mov (.t 25), none⟩,
      ⟨some 5, .mov (.t 26), none⟩])
   (.seq (.ops false [
      ⟨some 28, .mov (.t 3), none⟩,
      ⟨some 29, .b2s (.t 28), none⟩,
      ⟨some 30, .call false 15 [(.t 29)], none⟩,
      ⟨some 27, .mov (.t 30), none⟩,
      ⟨some 31, .extract (.t 27) 0, none⟩,
      ⟨some 32, .extract (.t 27) 1, none⟩,
      ⟨some 6, .mov (.t 31), none⟩,
      ⟨some 7, .mov (.t 32), none⟩])
   (.seq (.ops false [
      ⟨some 33, .mov (.t 5), none⟩,
      ⟨some 34, .bin .eql (.t 33) (.c (.int .i64 0)), none⟩,
      ⟨some 35, .mov (.t 7), none⟩,
      ⟨some 36, .eqB false (.t 34) (.t 35), none⟩,
      ⟨some 37, .mov (.t 36), none⟩,
      ⟨some 38, .mov (.t 4), some (37, true)⟩,
      ⟨some 39, .mov (.t 6), some (37, true)⟩,
      ⟨some 40, .call false 16 [(.t 38), (.t 39)], some (37, true)⟩,
      ⟨some 41, .pick (.t 37) (.t 40) (.c (.bool false)), none⟩,
      ⟨some 2, .mov (.t 41), none⟩])
   (.ret)))))))))
 [.t 2]

set_option maxRecDepth 100000 in
theorem ok4 : chkFn Try.prog 4 a4 = true := by kernel_rfl

/-- pointsman/packet.To -/
def a58 : AFn := .mk 12
 (.seq (.ops false [
      ⟨some 2, .box (some 8) (.t 0) false, none⟩,
      ⟨some 3, .box (some 2) (.t 1) true, none⟩,
      ⟨some 4, .alloc [.int .u16 0, .int .u16 0, .int .u16 0, .int .u16 0, .int .u16 0, .int .u16 0, .int .u16 0, .int .u16 0], none⟩])
   (.seq (.ops true [
      ⟨some 5, .faddr 0 (.t 3), none⟩,
      ⟨some 6, .ldI none (.t 5), none⟩,
      ⟨some 7, .faddr 1 (.t 3), none⟩,
      ⟨some 8, .ldI none (.t 7), none⟩,
      ⟨some 9, .iaddrA 8 none (.t 2) (.c (.int .i64 0)), none⟩,
      ⟨none, .store none (.t 9) (.t 6), none⟩,
      ⟨some 10, .iaddrA 8 none (.t 2) (.c (.int .i64 1)), none⟩,
      ⟨none, .store none (.t 10) (.t 8), none⟩])
   (.seq (.ops false [
      ⟨some 11, .load (some 8) (.t 2), none⟩,
      ⟨none, .store (some 8) (.t 4) (.t 11), none⟩])
   (.ret))))
 [.cell 4 (some 8)]

set_option maxRecDepth 100000 in
theorem ok58 : chkFn Try.prog 58 a58 = true := by kernel_rfl

/-- pointsman/save.Clean -/
def a19 : AFn := .mk 29
 (.seq (.ops false [
      ⟨some 1, .box (some 12) (.t 0) false, none⟩,
      ⟨some 2, .alloc [.int .i64 0, .int .i64 0, .bool false, .int .u16 0, .int .u16 0, .int .u16 0, .int .u16 0, .int .u16 0, .int .u16 0, .int .u16 0, .int .u16 0, .str ⟨#[]⟩], none⟩])
   (.seq (.ops false [
      ⟨some 4, .faddr 0 (.t 1), none⟩,
      ⟨some 5, .load none (.t 4), none⟩,
      ⟨some 6, .call false 57 [(.t 5)], none⟩,
      ⟨some 3, .alloc [.bool false, .bool false, .bool false], none⟩,
      ⟨none, .store (some 3) (.t 3) (.t 6), none⟩])
   (.seq (.seq (.ops false [
        ⟨some 7, .faddr 0 (.t 3), none⟩,
        ⟨some 8, .load none (.t 7), none⟩,
        ⟨some 9, .un .not (.t 8), none⟩])
     (.cond (.t 9)
     (.ops false [
        ⟨some 10, .build [.int .u16 0, .int .u16 0, .int .u16 0, .int .u16 0, .int .u16 0, .int .u16 0, .int .u16 0, .int .u16 0] [], none⟩,
        ⟨some 11, .faddr 3 (.t 1), none⟩,
        ⟨none, .store (some 8) (.t 11) (.t 10), none⟩])
     (.skip)))
   (.seq (.seq (.ops false [
        ⟨some 12, .faddr 1 (.t 3), none⟩,
        ⟨some 13, .load none (.t 12), none⟩,
        ⟨some 14, .un .not (.t 13), none⟩])
     (.cond (.t 14)
     (.ops false [
        ⟨some 15, .faddr 11 (.t 1), none⟩,
        ⟨none, .store none (.t 15) (.c (.str ⟨#[]⟩)), none⟩])
     (.skip)))
   (.seq (.ops false [
      ⟨some 16, .faddr 3 (.t 1), none⟩,
      ⟨some 17, .load (some 8) (.t 16), none⟩,
      ⟨some 18, .build [.int .u16 0, .int .u16 0] [], none⟩,
      ⟨some 19, .call false 58 [(.t 17), (.t 18)], none⟩,
      ⟨some 20, .faddr 3 (.t 1), none⟩,
      ⟨none, .store (some 8) (.t 20) (.t 19), none⟩])
   (.seq (.ops false [
      ⟨some 21, .faddr 2 (.t 1), none⟩,
      ⟨some 22, .load none (.t 21), none⟩,
      ⟨some 23, .mov (.t 22), none⟩,
      ⟨some 24, .faddr 2 (.t 3), some (23, true)⟩,
      ⟨some 25, .load none (.t 24), some (23, true)⟩,
      ⟨some 26, .pick (.t 23) (.t 25) (.c (.bool false)), none⟩,
      ⟨some 27, .faddr 2 (.t 1), none⟩,
      ⟨none, .store none (.t 27) (.t 26), none⟩])
   (.seq (.ops false [
      ⟨some 28, .load (some 12) (.t 1), none⟩,
      ⟨none, .store (some 12) (.t 2) (.t 28), none⟩])
   (.ret))))))))
 [.cell 2 (some 12)]

set_option maxRecDepth 100000 in
theorem ok19 : chkFn Try.prog 19 a19 = true := by kernel_rfl

def b20_0 : ACode :=
  (.seq (.seq (.ops false [
        ⟨some 13, .mov (.t 4), none⟩,
        ⟨some 14, .bin .lss (.t 13) (.c (.int .i64 8)), none⟩])
     (.cond (.t 14)
     (.skip)
     (.exit 0)))
   (.seq (.block 1 (.ops false [
      ⟨some 17, .mov (.t 4), none⟩,
      ⟨some 18, .mov (.t 4), none⟩,
      ⟨some 19, .faddr 3 (.t 1), none⟩,
      ⟨some 20, .iaddrA 8 none (.t 19) (.t 18), none⟩,
      ⟨some 21, .ldI none (.t 20), none⟩,
      ⟨some 22, .faddr 3 (.t 3), none⟩,
      ⟨some 23, .iaddrA 8 none (.t 22) (.t 17), none⟩,
      ⟨none, .store none (.t 23) (.t 21), none⟩]))
   (.ops false [
    ⟨some 15, .mov (.t 4), none⟩,
    ⟨some 16, .bin .add (.t 15) (.c (.int .i64 1)), none⟩,
    ⟨some 4, .mov (.t 16), none⟩])))

/-- pointsman/pointsmanref32.Clean -/
def a20 : AFn := .mk 42
 (.seq (.ops false [
      ⟨some 1, .box (some 12) (.t 0) true, none⟩,
      ⟨some 2, .alloc [.int .i64 0, .int .i64 0, .bool false, .int .u16 0, .int .u16 0, .int .u16 0, .int .u16 0, .int .u16 0, .int .u16 0, .int .u16 0, .int .u16 0, .str ⟨#[]⟩], none⟩])
   (.seq (.ops false [
      ⟨some 5, .faddr 0 (.t 1), none⟩,
      ⟨some 6, .ldI none (.t 5), none⟩,
      ⟨some 7, .faddr 1 (.t 1), none⟩,
      ⟨some 8, .ldI none (.t 7), none⟩,
      ⟨some 9, .build [.int .i64 0, .int .i64 0, .bool false, .int .u16 0, .int .u16 0, .int .u16 0, .int .u16 0, .int .u16 0, .int .u16 0, .int .u16 0, .int .u16 0, .str ⟨#[]⟩] [(0, 1, (.t 6)), (1, 1, (.t 8))], none⟩,
      ⟨some 3, .alloc [.int .i64 0, .int .i64 0, .bool false, .int .u16 0, .int .u16 0, .int .u16 0, .int .u16 0, .int .u16 0, .int .u16 0, .int .u16 0, .int .u16 0, .str ⟨#[]⟩], none⟩,
      ⟨none, .store (some 12) (.t 3) (.t 9), none⟩])
   (.seq (.seq (.ops false [
        ⟨some 10, .faddr 0 (.t 1), none⟩,
        ⟨some 11, .ldI none (.t 10), none⟩,
        ⟨some 12, .bin .eql (.t 11) (.c (.int .i64 0)), none⟩])
     (.cond (.t 12)
     (.seq (.ops false [
          ⟨some 4, .mov (.c (.int .i64 2)), none⟩])
       (.block 0 (.loop b20_0)))
     (.skip)))
   (.seq (.seq (.ops false [
        ⟨some 24, .faddr 0 (.t 1), none⟩,
        ⟨some 25, .ldI none (.t 24), none⟩,
        ⟨some 26, .bin .eql (.t 25) (.c (.int .i64 1)), none⟩])
     (.cond (.t 26)
     (.ops false [
        ⟨some 27, .faddr 11 (.t 1), none⟩,
        ⟨some 28, .ldI none (.t 27), none⟩,
        ⟨some 29, .faddr 11 (.t 3), none⟩,
        ⟨none, .store none (.t 29) (.t 28), none⟩])
     (.skip)))
   (.seq (.seq (.ops false [
        ⟨some 30, .faddr 0 (.t 1), none⟩,
        ⟨some 31, .ldI none (.t 30), none⟩,
        ⟨some 32, .bin .eql (.t 31) (.c (.int .i64 3)), none⟩,
        ⟨some 33, .mov (.t 32), none⟩,
        ⟨some 34, .faddr 0 (.t 1), some (33, false)⟩,
        ⟨some 35, .ldI none (.t 34), some (33, false)⟩,
        ⟨some 36, .bin .eql (.t 35) (.c (.int .i64 4)), some (33, false)⟩,
        ⟨some 37, .pick (.t 33) (.c (.bool true)) (.t 36), none⟩])
     (.cond (.t 37)
     (.ops false [
        ⟨some 38, .faddr 2 (.t 1), none⟩,
        ⟨some 39, .ldI none (.t 38), none⟩,
        ⟨some 40, .faddr 2 (.t 3), none⟩,
        ⟨none, .store none (.t 40) (.t 39), none⟩])
     (.skip)))
   (.seq (.ops false [
      ⟨some 41, .load (some 12) (.t 3), none⟩,
      ⟨none, .store (some 12) (.t 2) (.t 41), none⟩])
   (.ret)))))))
 [.cell 2 (some 12)]

set_option maxRecDepth 100000 in
theorem ok20 : chkFn Try.prog 20 a20 = true := by kernel_rfl

def b5_0 : ACode :=
  (.seq (.ops false [
      ⟨some 20, .bin .lss (.t 19) (.t 18), none⟩])
   (.seq (.cond (.t 20)
     (.skip)
     (.exit 0))
   (.seq (.block 1 (.seq (.ops false [
        ⟨some 21, .iaddr (some 12) (.t 17) (.t 19), none⟩,
        ⟨some 22, .load (some 12) (.t 21), none⟩,
        ⟨some 5, .alloc [.int .i64 0, .int .i64 0, .bool false, .int .u16 0, .int .u16 0, .int .u16 0, .int .u16 0, .int .u16 0, .int .u16 0, .int .u16 0, .int .u16 0, .str ⟨#[]⟩], none⟩,
        ⟨none, .store (some 12) (.t 5) (.t 22), none⟩])
     (.seq (.seq (.ops false [
          ⟨some 23, .faddr 11 (.t 5), none⟩,
          ⟨some 24, .load none (.t 23), none⟩,
          ⟨some 25, .slen (.t 24), none⟩,
          ⟨some 26, .bin .gtr (.t 25) (.c (.int .i64 1100)), none⟩])
       (.cond (.t 26)
       (.seq (.ops false [
            ⟨some 2, .mov (.c (.bool true)), none⟩])
         (.ret))
       (.skip)))
     (.seq (.seq (.ops true [
          ⟨some 27, .load (some 12) (.t 5), none⟩,
          ⟨some 28, .call false 19 [(.t 27)], none⟩,
          ⟨some 29, .load (some 12) (.t 5), none⟩,
          ⟨some 30, .call false 20 [(.t 29)], none⟩,
          ⟨some 31, .eqS true [.int, .int, .bool, .int, .int, .int, .int, .int, .int, .int, .int, .str] (.t 28) (.t 30), none⟩])
       (.cond (.t 31)
       (.seq (.ops false [
            ⟨some 2, .mov (.c (.bool false)), none⟩])
         (.ret))
       (.skip)))
     (.ops false [
      ⟨some 32, .mov (.t 3), none⟩,
      ⟨some 33, .load (some 12) (.t 5), none⟩,
      ⟨some 34, .call false 20 [(.t 33)], none⟩,
      ⟨some 35, .bsliceI (some 12) [(.t 34)], none⟩,
      ⟨some 36, .append (some 12) (.t 32) (.t 35) false, none⟩,
      ⟨some 3, .mov (.t 36), none⟩])))))
   (.ops false [
    ⟨some 37, .bin .add (.t 19) (.c (.int .i64 1)), none⟩,
    ⟨some 19, .mov (.t 37), none⟩]))))

/-- pointsman/pointsmanlaw32.SaveBack -/
def a5 : AFn := .mk 72
 (.seq (.ops false [
      ⟨some 2, .mov (.c (.bool false)), none⟩])
   (.seq (.seq (.ops false [
        ⟨some 12, .call false 13 [], none⟩,
        ⟨some 13, .un .not (.t 12), none⟩])
     (.cond (.t 13)
     (.seq (.ops false [
          ⟨some 2, .mov (.c (.bool false)), none⟩])
       (.ret))
     (.skip)))
   (.seq (.seq (.ops false [
        ⟨some 14, .mov (.t 0), none⟩,
        ⟨some 15, .len (.t 14), none⟩,
        ⟨some 16, .bin .gtr (.t 15) (.c (.int .i64 100)), none⟩])
     (.cond (.t 16)
     (.seq (.ops false [
          ⟨some 2, .mov (.c (.bool true)), none⟩])
       (.ret))
     (.skip)))
   (.seq (.ops false [
      ⟨some 3, .mov (.c (.nils)), none⟩])
   (.seq (.seq (.ops false [
        ⟨some 17, .mov (.t 0), none⟩,
        ⟨some 18, .len (.t 17), none⟩,
        ⟨some 19, .mov (.c (.int .i64 0)), none⟩])
     (.block 0 (.loop b5_0)))
   (.seq (.ops false [
      ⟨some 39, .mov (.t 0), none⟩,
      ⟨some 40, .call false 21 [(.t 39)], none⟩,
      ⟨some 38, .mov (.t 40), none⟩,
      ⟨some 41, .extract (.t 38) 0, none⟩,
      ⟨some 42, .extract (.t 38) 1, none⟩,
      ⟨some 6, .mov (.t 41), none⟩,
      ⟨some 7, .mov (.t 42), none⟩])
   (.seq (.ops false [
      ⟨some 44, .mov (.t 0), none⟩,
      ⟨some 45, .call false 22 [(.t 44)], none⟩,
      ⟨some 43, .mov (.t 45), none⟩,
      ⟨some 46, .extract (.t 43) 0, none⟩,
      ⟨some 47, .extract (.t 43) 1, none⟩,
      ⟨some 8, .mov (.t 46), none⟩,
      ⟨some 9, .mov (.t 47), none⟩])
   (.seq (.seq (.ops false [
        ⟨some 48, .mov (.t 7), none⟩,
        ⟨some 49, .mov (.t 9), none⟩,
        ⟨some 50, .bin .neq (.t 48) (.t 49), none⟩,
        ⟨some 51, .mov (.t 50), none⟩,
        ⟨some 52, .mov (.t 6), some (51, false)⟩,
        ⟨some 53, .mov (.t 8), some (51, false)⟩,
        ⟨some 54, .bin .neq (.t 52) (.t 53), some (51, false)⟩,
        ⟨some 55, .pick (.t 51) (.c (.bool true)) (.t 54), none⟩])
     (.cond (.t 55)
     (.seq (.ops false [
          ⟨some 2, .mov (.c (.bool false)), none⟩])
       (.ret))
     (.skip)))
   (.seq (.seq (.ops false [
        ⟨some 56, .mov (.t 7), none⟩,
        ⟨some 57, .bin .neq (.t 56) (.c (.int .i64 0)), none⟩])
     (.cond (.t 57)
     (.seq (.ops false [
          ⟨some 58, .mov (.t 6), none⟩,
          ⟨some 59, .bin .eql (.t 58) (.c (.str ⟨#[]⟩)), none⟩,
          ⟨some 2, .mov (.t 59), none⟩])
       (.ret))
     (.skip)))
   (.seq (.ops false [
      ⟨some 61, .mov (.t 6), none⟩,
      ⟨some 62, .call false 14 [(.t 61)], none⟩,
      ⟨some 60, .mov (.t 62), none⟩,
      ⟨some 63, .extract (.t 60) 0, none⟩,
      ⟨some 64, .extract (.t 60) 1, none⟩,
      ⟨some 10, .mov (.t 63), none⟩,
      ⟨some 11, .mov (.t 64), none⟩])
   (.seq (.ops false [
      ⟨some 65, .mov (.t 11), none⟩,
      ⟨some 66, .bin .eql (.t 65) (.c (.int .i64 0)), none⟩,
      ⟨some 67, .mov (.t 66), none⟩,
      ⟨some 68, .mov (.t 10), some (67, true)⟩,
      ⟨some 69, .mov (.t 3), some (67, true)⟩,
      ⟨some 70, .call false 16 [(.t 68), (.t 69)], some (67, true)⟩,
      ⟨some 71, .pick (.t 67) (.t 70) (.c (.bool false)), none⟩,
      ⟨some 2, .mov (.t 71), none⟩])
   (.ret))))))))))))
 [.t 2]

set_option maxRecDepth 100000 in
theorem ok5 : chkFn Try.prog 5 a5 = true := by kernel_rfl

end Go.AM
