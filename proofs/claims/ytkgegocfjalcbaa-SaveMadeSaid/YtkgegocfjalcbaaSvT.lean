import Derived.Test.YtkgegocfjalcbaaAmPre
/-  The program's functions, told outright. -/
set_option linter.unusedVariables false
namespace Go.AM
open Go

structure api_Deed where
  What : Int
  N : Int
  Back : Bool
  P : (A8 Int)
  Raw : ByteArray
  deriving DecidableEq, Inhabited

structure save_tells where
  packet : Bool
  raw : Bool
  back : Bool
  deriving DecidableEq, Inhabited

structure save_reader where
  s : ByteArray
  bad : Bool
  deriving DecidableEq, Inhabited

structure api_Port where
  Sw : Int
  Pt : Int
  deriving DecidableEq, Inhabited

/- pointsman/save.may -/
def save_may (a0 : api_Deed) : Option Bool :=
  some ((decide (a0.What ≥ 0)) && ((decide (a0.What ≤ 6)) && ((decide (a0.N ≥ 0)) && ((decide (a0.N ≤ 99999)) && (decide ((a0.Raw.size : Int) ≤ 1000))))))

/- pointsman/save.number -/
def save_number_b1 : ((List Int) × Int) → Option (((List Int) × Int) ⊕ ((List Int) × Int))
  | (l1, i2) =>
  (if decide (i2 ≥ 128) then (gapp l1 ([orI .u8 (IntKind.u8.wrap i2) 128] : List Int)).bind fun l5 =>
    some (.inl (l5, (i2.fdiv (2 ^ 7)))) else some (.inr (l1, i2)))

def save_number (a0 : (List Int)) (a1 : Int) : Option (List Int) :=
  (whK save_number_b1 FUEL (a0, a1)).bind fun (z6, z7) =>
    (gapp z6 ([IntKind.u8.wrap z7] : List Int)).bind fun l8 =>
    some l8

/- pointsman/save.of -/
def save_of (a0 : Int) : Option save_tells :=
  (if (a0 == 0) then some (save_tells.mk true false false) else (if (a0 == 1) then some (save_tells.mk false true false) else ((if (a0 == 3) then some (a0 == 3) else some (a0 == 4))).bind fun y4 =>
    (if y4 then some (save_tells.mk false false true) else some (save_tells.mk false false false))))

/- pointsman/save.deed -/
def save_deed_b1 (a1 : api_Deed) (i6 : Int) : (List Int) → Option (List Int)
  | l5 =>
  (gat [a1.P.a2, a1.P.a3, a1.P.a4, a1.P.a5, a1.P.a6, a1.P.a7] i6).bind fun x12 =>
    (save_number l5 (IntKind.i64.wrap x12)).bind fun r13 =>
    some r13

def save_deed (a0 : (List Int)) (a1 : api_Deed) : Option (List Int) :=
  (save_number a0 a1.What).bind fun r1 =>
    (save_number r1 a1.N).bind fun r2 =>
    (save_of a1.What).bind fun r3 =>
    ((if r3.packet then (forO (save_deed_b1 a1) (irange 0 ([a1.P.a2, a1.P.a3, a1.P.a4, a1.P.a5, a1.P.a6, a1.P.a7].length : Int)) r2).bind fun z14 =>
    some z14 else (if r3.raw then (save_number r2 (a1.Raw.size : Int)).bind fun r17 =>
    (gapp r17 (bytesOf a1.Raw)).bind fun l18 =>
    some l18 else (if (r3.back && a1.Back) then (gapp r2 ([1] : List Int)).bind fun l21 =>
    some l21 else (if r3.back then (gapp r2 ([0] : List Int)).bind fun l23 =>
    some l23 else some r2))))).bind fun l24 =>
    some l24

/- pointsman/save.check -/
def save_check_b1 (a0 : (List Int)) (i2 : Int) : Int → Option Int
  | i1 =>
  (gat a0 i2).bind fun x8 =>
    some ((IntKind.i64.wrap (i1 + (IntKind.i64.wrap ((i2 + 1) * (IntKind.i64.wrap x8))))).tmod 65521)

def save_check (a0 : (List Int)) : Option (List Int) :=
  (forO (save_check_b1 a0) (irange 0 (a0.length : Int)) 0).bind fun z9 =>
    (gapp a0 ([IntKind.u8.wrap (z9.fdiv (2 ^ 8)), IntKind.u8.wrap z9] : List Int)).bind fun l10 =>
    some l10

/- pointsman/save.Encode -/
def save_Encode_b1 (a0 : (List api_Deed)) (i1 : Int) : Unit → Option (Br Unit (ByteArray × Int))
  | () =>
  (gat a0 i1).bind fun x7 =>
    (save_may x7).bind fun r8 =>
    (if (!r8) then some (Br.ret ((⟨#[]⟩ : ByteArray), 1)) else some (.next ()))

def save_Encode_b2 (a0 : (List api_Deed)) (i13 : Int) : (List Int) → Option (List Int)
  | l12 =>
  (gat a0 i13).bind fun x19 =>
    (save_deed l12 x19).bind fun r20 =>
    some r20

def save_Encode (a0 : (List api_Deed)) : Option (ByteArray × Int) :=
  (forR (save_Encode_b1 a0) (irange 0 (a0.length : Int)) ()).bind fun q24 => match q24 with
    | .ret r => some r
    | .done () =>
    (if decide ((a0.length : Int) > 10000) then some ((⟨#[]⟩ : ByteArray), 2) else (save_number ([68] : List Int) (a0.length : Int)).bind fun r11 =>
    (forO (save_Encode_b2 a0) (irange 0 (a0.length : Int)) r11).bind fun z21 =>
    (save_check z21).bind fun r22 =>
    some (strOfB r22, 0))

/- (*pointsman/save.reader).take -/
def save_reader_take (a0 : save_reader) (a1 : Int) : Option (ByteArray × save_reader) :=
  (if (a0.bad || (decide (a1 > (a0.s.size : Int)))) then some ((⟨#[]⟩ : ByteArray), (save_reader.mk a0.s true)) else (scut a0.s 0 a1).bind fun s3 =>
    (scut a0.s a1 (a0.s.size : Int)).bind fun s4 =>
    some (s3, (save_reader.mk s4 a0.bad)))

/- (*pointsman/save.reader).number -/
def save_reader_number_b1 (a1 : Int) (i2 : Int) : (Int × save_reader) → Option (Br (Int × save_reader) (Int × save_reader))
  | (i1, y3) =>
  (save_reader_take y3 1).bind fun r9 =>
    (if r9.2.bad then some (Br.ret (0, r9.2)) else (bat r9.1 0).bind fun b11 =>
    (shlI .i64 (IntKind.i64.wrap (andI .u8 b11 127)) (IntKind.i64.wrap (7 * i2))).bind fun q12 =>
    (if decide (b11 < 128) then some (Br.ret (orI .i64 i1 q12, (if decide ((orI .i64 i1 q12) > a1) then (save_reader.mk r9.2.s true) else (if decide (i2 > 0) then (save_reader.mk r9.2.s (b11 == 0)) else (save_reader.mk r9.2.s false))))) else some (.next (orI .i64 i1 q12, r9.2))))

def save_reader_number (a0 : save_reader) (a1 : Int) : Option (Int × save_reader) :=
  (forR (save_reader_number_b1 a1) (irange 0 5) (0, a0)).bind fun q18 => match q18 with
    | .ret r => some r
    | .done (z16, z17) =>
    some (0, (save_reader.mk z17.s true))

/- (*pointsman/save.reader).deed -/
def save_reader_deed_b1 (i6 : Int) : (save_reader × api_Deed) → Option (save_reader × api_Deed)
  | (y7, y8) =>
  (save_reader_number y7 65535).bind fun r14 =>
    (y8.P.get i6).bind fun x15 =>
    (y8.P.put i6 (IntKind.u16.wrap r14.1)).bind fun x16 =>
    some (r14.2, (api_Deed.mk y8.What y8.N y8.Back x16 y8.Raw))

def save_reader_deed (a0 : save_reader) : Option (api_Deed × save_reader) :=
  (save_reader_number a0 6).bind fun r1 =>
    (save_reader_number r1.2 99999).bind fun r2 =>
    (save_of r1.1).bind fun r3 =>
    ((if r2.2.bad then some (r2.2, (api_Deed.mk r1.1 r2.1 false (A8.mk 0 0 0 0 0 0 0 0) (⟨#[]⟩ : ByteArray))) else (if r3.packet then (forO save_reader_deed_b1 (irange 2 8) (r2.2, (api_Deed.mk r1.1 r2.1 false (A8.mk 0 0 0 0 0 0 0 0) (⟨#[]⟩ : ByteArray)))).bind fun (z17, z18) =>
    some (z17, z18) else (if r3.raw then (save_reader_number r2.2 1000).bind fun r21 =>
    (save_reader_take r21.2 r21.1).bind fun r22 =>
    some (r22.2, (api_Deed.mk r1.1 r2.1 false (A8.mk 0 0 0 0 0 0 0 0) r22.1)) else (if r3.back then (save_reader_number r2.2 1).bind fun r24 =>
    some (r24.2, (api_Deed.mk r1.1 r2.1 (r24.1 == 1) (A8.mk 0 0 0 0 0 0 0 0) (⟨#[]⟩ : ByteArray))) else some (r2.2, (api_Deed.mk r1.1 r2.1 false (A8.mk 0 0 0 0 0 0 0 0) (⟨#[]⟩ : ByteArray)))))))).bind fun (y25, y26) =>
    some (y26, y25)

/- pointsman/save.Decode -/
def save_Decode_b1 : ((List api_Deed) × Int × save_reader) → Option (((List api_Deed) × Int × save_reader) ⊕ ((List api_Deed) × Int × save_reader))
  | (l12, i13, y14) =>
  (if ((decide (i13 > 0)) && (!y14.bad)) then (save_reader_deed y14).bind fun r18 =>
    (gapp l12 ([r18.1] : List api_Deed)).bind fun l19 =>
    some (.inl (l19, IntKind.i64.wrap (i13 - 1), r18.2)) else some (.inr (l12, i13, y14)))

def save_Decode (a0 : ByteArray) : Option ((List api_Deed) × Int) :=
  ((if decide ((a0.size : Int) < 4) then some true else (bat a0 0).bind fun b2 =>
    (if (b2 != 68) then some true else (scut a0 0 (IntKind.i64.wrap ((a0.size : Int) - 2))).bind fun s4 =>
    (gs2b s4).bind fun l5 =>
    (save_check l5).bind fun r6 =>
    some (!(seqB (strOfB r6) a0))))).bind fun y7 =>
    (if y7 then some (([] : List api_Deed), 30) else (scut a0 1 (IntKind.i64.wrap ((a0.size : Int) - 2))).bind fun s10 =>
    (save_reader_number (save_reader.mk s10 false) 10000).bind fun r11 =>
    (whK save_Decode_b1 FUEL (([] : List api_Deed), r11.1, r11.2)).bind fun (z20, z21, z22) =>
    (if (z22.bad || (!(seqB z22.s (⟨#[]⟩ : ByteArray)))) then some (([] : List api_Deed), 30) else some (z20, 0)))

/- pointsman/pointsmanref32.Same -/
def ref32_Same_b1 (a0 : (List api_Deed)) (a1 : (List api_Deed)) (i2 : Int) : Unit → Option (Br Unit Bool)
  | () =>
  (gat a0 i2).bind fun x8 =>
    (gat a1 i2).bind fun x9 =>
    (if (!(x8 == x9)) then some (Br.ret false) else some (.next ()))

def ref32_Same (a0 : (List api_Deed)) (a1 : (List api_Deed)) : Option Bool :=
  (if ((a0.length : Int) != (a1.length : Int)) then some false else (forR (ref32_Same_b1 a0 a1) (irange 0 (a0.length : Int)) ()).bind fun q11 => match q11 with
    | .ret r => some r
    | .done () =>
    some true)

/- pointsman/pointsmanlaw32.awake -/
def law32_awake  : Option Bool :=
  (save_Encode ([(api_Deed.mk 0 300 false (A8.mk 0 0 1 0 0 0 0 0) (⟨#[]⟩ : ByteArray)), (api_Deed.mk 3 0 true (A8.mk 0 0 0 0 0 0 0 0) (⟨#[]⟩ : ByteArray))] : List api_Deed)).bind fun r1 =>
    (save_Decode r1.1).bind fun r2 =>
    ((if (r1.2 == 0) then (if (r2.2 == 0) then (ref32_Same ([(api_Deed.mk 0 300 false (A8.mk 0 0 1 0 0 0 0 0) (⟨#[]⟩ : ByteArray)), (api_Deed.mk 3 0 true (A8.mk 0 0 0 0 0 0 0 0) (⟨#[]⟩ : ByteArray))] : List api_Deed) r2.1).bind fun r5 =>
    (if r5 then some ((r1.1.size : Int) == 16) else some false) else some false) else some false)).bind fun y7 =>
    some y7

/- pointsman/pointsmanref32.number -/
def ref32_number_b1 (a0 : ByteArray) (a1 : Int) : (Int × Int × Int) → Option (Br (Int × Int × Int) (Int × Int))
  | (i1, i2, i3) =>
  (if ((decide (i3 < (a0.size : Int))) && (decide (i3 < (IntKind.i64.wrap (a1 + 5))))) then (bat a0 i3).bind fun b7 =>
    (if decide (b7 < 128) then some (Br.ret (IntKind.i64.wrap (i1 + (IntKind.i64.wrap ((IntKind.i64.wrap (b7.tmod 128)) * i2))), IntKind.i64.wrap (i3 + 1))) else some (.next (IntKind.i64.wrap (i1 + (IntKind.i64.wrap ((IntKind.i64.wrap (b7.tmod 128)) * i2))), IntKind.i64.wrap (i2 * 128), IntKind.i64.wrap (i3 + 1)))) else some (.brk (i1, i2, i3)))

def ref32_number (a0 : ByteArray) (a1 : Int) : Option (Int × Int) :=
  (whR (ref32_number_b1 a0 a1) FUEL (0, 1, a1)).bind fun q12 => match q12 with
    | .ret r => some r
    | .done (z9, z10, z11) =>
    some (0, (-1))

/- pointsman/pointsmanref32.Number -/
def ref32_Number_s (self : Int → Option (List Int)) (a0 : Int) : Option (List Int) :=
  (if decide (a0 < 128) then some ([IntKind.u8.wrap a0] : List Int) else (self (IntKind.i64.wrap (a0.tdiv 128))).bind fun r2 =>
    (gapp ([IntKind.u8.wrap (IntKind.i64.wrap (128 + (a0.tmod 128)))] : List Int) r2).bind fun l3 =>
    some l3)

def ref32_Number_f : Nat → Int → Option (List Int)
  | 0 => fun _ => none
  | k + 1 => ref32_Number_s (ref32_Number_f k)

def ref32_Number (a0 : Int) : Option (List Int) := ref32_Number_f FUEL a0

/- pointsman/pointsmanref32.deed -/
def ref32_deed_b1 (a0 : api_Deed) (i6 : Int) : (List Int) → Option (List Int)
  | l5 =>
  (a0.P.get i6).bind fun x12 =>
    (ref32_Number (IntKind.i64.wrap x12)).bind fun r13 =>
    (gapp l5 r13).bind fun l14 =>
    some l14

def ref32_deed (a0 : api_Deed) : Option (List Int) :=
  (ref32_Number a0.What).bind fun r1 =>
    (ref32_Number a0.N).bind fun r2 =>
    (gapp r1 r2).bind fun l3 =>
    ((if (a0.What == 0) then (forO (ref32_deed_b1 a0) (irange 2 8) l3).bind fun z15 =>
    some z15 else (if (a0.What == 1) then (ref32_Number (a0.Raw.size : Int)).bind fun r18 =>
    (gapp l3 r18).bind fun l19 =>
    (gapp l19 (bytesOf a0.Raw)).bind fun l20 =>
    some l20 else ((if (a0.What == 3) then some (a0.What == 3) else some (a0.What == 4))).bind fun y22 =>
    (if y22 then ((if a0.Back then some 1 else some 0)).bind fun y26 =>
    (gapp l3 ([y26] : List Int)).bind fun l28 =>
    some l28 else some l3)))).bind fun l29 =>
    some l29

/- pointsman/pointsmanref03.Check -/
def ref03_Check_b1 (a0 : (List Int)) (i2 : Int) : Int → Option Int
  | i1 =>
  (gat a0 i2).bind fun x8 =>
    some ((IntKind.i64.wrap (i1 + (IntKind.i64.wrap ((i2 + 1) * (IntKind.i64.wrap x8))))).tmod 65521)

def ref03_Check (a0 : (List Int)) : Option Int :=
  (forO (ref03_Check_b1 a0) (irange 0 (a0.length : Int)) 0).bind fun z9 =>
    some (IntKind.u16.wrap z9)

/- pointsman/pointsmanref03.Two -/
def ref03_Two (a0 : Int) : Option (List Int) :=
  some ([IntKind.u8.wrap (IntKind.u16.wrap (a0.tdiv 256)), IntKind.u8.wrap (a0.tmod 256)] : List Int)

/- pointsman/pointsmanref32.Encode -/
def ref32_Encode_b1 (a0 : (List api_Deed)) (i1 : Int) : Unit → Option (Br Unit (ByteArray × Int))
  | () =>
  (gat a0 i1).bind fun x7 =>
    (if ((decide (x7.What < 0)) || ((decide (x7.What > 6)) || ((decide (x7.N < 0)) || ((decide (x7.N > 99999)) || (decide ((x7.Raw.size : Int) > 1000)))))) then some (Br.ret ((⟨#[]⟩ : ByteArray), 1)) else some (.next ()))

def ref32_Encode_b2 (a0 : (List api_Deed)) (i17 : Int) : (List Int) → Option (List Int)
  | l16 =>
  (gat a0 i17).bind fun x23 =>
    (ref32_deed x23).bind fun r24 =>
    (gapp l16 r24).bind fun l25 =>
    some l25

def ref32_Encode (a0 : (List api_Deed)) : Option (ByteArray × Int) :=
  (forR (ref32_Encode_b1 a0) (irange 0 (a0.length : Int)) ()).bind fun q31 => match q31 with
    | .ret r => some r
    | .done () =>
    (if decide ((a0.length : Int) > 10000) then some ((⟨#[]⟩ : ByteArray), 2) else (ref32_Number (a0.length : Int)).bind fun r14 =>
    (gapp ([68] : List Int) r14).bind fun l15 =>
    (forO (ref32_Encode_b2 a0) (irange 0 (a0.length : Int)) l15).bind fun z26 =>
    (ref03_Check z26).bind fun r27 =>
    (ref03_Two r27).bind fun r28 =>
    (gapp z26 r28).bind fun l29 =>
    some (strOfB l29, 0))

/- pointsman/pointsmanref32.Decode -/
def ref32_Decode_b2 (a0 : ByteArray) (i14 : Int) : (Int × api_Deed) → Option (Br (Int × api_Deed) (Br (Int × (List api_Deed)) ((List api_Deed) × Bool)))
  | (i13, y15) =>
  ((ref32_number a0 i13).bind fun r21 =>
    (if decide (r21.2 < 0) then some (Sum.inr (Br.ret (Br.ret (([] : List api_Deed), false)))) else (if (i14 == 0) then some (.inl (r21.2, (api_Deed.mk r21.1 y15.N y15.Back y15.P y15.Raw))) else some (.inl (r21.2, (api_Deed.mk y15.What r21.1 y15.Back y15.P y15.Raw)))))).bind fun q26 => match q26 with
    | .inr r => some r
    | .inl (y24, y25) =>
    some (.next (y24, y25))

def ref32_Decode_b3 (a0 : ByteArray) (i31 : Int) : (Int × api_Deed) → Option (Br (Int × api_Deed) ((Int × api_Deed) ⊕ (Br (Int × (List api_Deed)) ((List api_Deed) × Bool))))
  | (i30, y32) =>
  (ref32_number a0 i30).bind fun r38 =>
    (if ((decide (r38.2 < 0)) || (decide (r38.1 > 65535))) then some (Br.ret (Sum.inr (Br.ret (([] : List api_Deed), false)))) else (y32.P.get i31).bind fun x41 =>
    (y32.P.put i31 (IntKind.u16.wrap r38.1)).bind fun x42 =>
    some (.next (r38.2, (api_Deed.mk y32.What y32.N y32.Back x42 y32.Raw))))

def ref32_Decode_b1 (a0 : ByteArray) (r6 : (Int × Int)) : (Int × (List api_Deed)) → Option (Br (Int × (List api_Deed)) ((List api_Deed) × Bool))
  | (i9, l10) =>
  (if decide ((l10.length : Int) < r6.1) then (forR (ref32_Decode_b2 a0) (irange 0 2) (i9, (api_Deed.mk 0 0 false (A8.mk 0 0 0 0 0 0 0 0) (⟨#[]⟩ : ByteArray)))).bind fun q66 => match q66 with
    | .ret r => some r
    | .done (z27, z28) =>
    ((if (z28.What == 0) then (forR (ref32_Decode_b3 a0) (irange 2 8) (z27, z28)).bind fun q45 => match q45 with
    | .ret r => some r
    | .done (z43, z44) =>
    some (.inl (z43, z44)) else (if (z28.What == 1) then (ref32_number a0 z27).bind fun r47 =>
    (if ((decide (r47.2 < 0)) || ((decide (r47.1 > 1000)) || (decide ((IntKind.i64.wrap (r47.2 + r47.1)) > (a0.size : Int))))) then some (Sum.inr (Br.ret (([] : List api_Deed), false))) else (scut a0 r47.2 (IntKind.i64.wrap (r47.2 + r47.1))).bind fun s51 =>
    some (.inl (IntKind.i64.wrap (r47.2 + r47.1), (api_Deed.mk z28.What z28.N z28.Back z28.P s51)))) else ((if (z28.What == 3) then some (z28.What == 3) else some (z28.What == 4))).bind fun y53 =>
    (if y53 then ((if decide (z27 ≥ (a0.size : Int)) then some true else (bat a0 z27).bind fun b57 =>
    some (decide (b57 > 1)))).bind fun y58 =>
    (if y58 then some (Sum.inr (Br.ret (([] : List api_Deed), false))) else (bat a0 z27).bind fun b61 =>
    some (.inl (IntKind.i64.wrap (z27 + 1), (api_Deed.mk z28.What z28.N (b61 == 1) z28.P z28.Raw)))) else some (.inl (z27, z28)))))).bind fun q64 => match q64 with
    | .inr r => some r
    | .inl (y62, y63) =>
    (gapp l10 ([y63] : List api_Deed)).bind fun l65 =>
    some (.next (y62, l65)) else some (.brk (i9, l10)))

def ref32_Decode (a0 : ByteArray) : Option ((List api_Deed) × Bool) :=
  ((if decide ((a0.size : Int) < 4) then some true else (bat a0 0).bind fun b2 =>
    some (b2 != 68))).bind fun y3 =>
    (if y3 then some (([] : List api_Deed), false) else (ref32_number a0 1).bind fun r6 =>
    (if ((decide (r6.2 < 0)) || (decide (r6.1 > 10000))) then some (([] : List api_Deed), false) else (whR (ref32_Decode_b1 a0 r6) FUEL (r6.2, ([] : List api_Deed))).bind fun q72 => match q72 with
    | .ret r => some r
    | .done (z67, z68) =>
    (ref32_Encode z68).bind fun r69 =>
    (if ((r69.2 != 0) || (!(seqB r69.1 a0))) then some (([] : List api_Deed), false) else some (z68, true))))

/- pointsman/pointsmanlaw32.SaveAny -/
def law32_SaveAny (a0 : ByteArray) : Option Bool :=
  (law32_awake).bind fun r1 =>
    (if (!r1) then some false else (if decide ((a0.size : Int) > 600) then some true else (save_Decode a0).bind fun r4 =>
    (ref32_Decode a0).bind fun r5 =>
    ((if ((r4.2 == 0) == r5.2) then (ref32_Same r4.1 r5.1).bind fun r7 =>
    (if r7 then (if r5.2 then some true else some (r4.2 == 30)) else some false) else some false)).bind fun y10 =>
    some y10))

/- pointsman/pointsmanlaw32.SaveMade -/
def law32_SaveMade (a0 : ByteArray) : Option Bool :=
  (law32_awake).bind fun r1 =>
    (if (!r1) then some false else (if decide ((a0.size : Int) > 300) then some true else (gapp ([68] : List Int) (bytesOf a0)).bind fun l4 =>
    (ref03_Check l4).bind fun r5 =>
    (ref03_Two r5).bind fun r6 =>
    (gapp l4 r6).bind fun l7 =>
    (save_Decode (strOfB l7)).bind fun r8 =>
    (ref32_Decode (strOfB l7)).bind fun r9 =>
    ((if ((r8.2 == 0) == r9.2) then (ref32_Same r8.1 r9.1).bind fun r11 =>
    some r11 else some false)).bind fun y12 =>
    some y12))

/- pointsman/packet.To -/
def packet_To (a0 : (A8 Int)) (a1 : api_Port) : Option (A8 Int) :=
  some (A8.mk a1.Sw a1.Pt a0.a2 a0.a3 a0.a4 a0.a5 a0.a6 a0.a7)

/- pointsman/save.Clean -/
def save_Clean (a0 : api_Deed) : Option api_Deed :=
  (save_of a0.What).bind fun r1 =>
    ((if (!r1.packet) then some (api_Deed.mk a0.What a0.N a0.Back (A8.mk 0 0 0 0 0 0 0 0) a0.Raw) else some a0)).bind fun y3 =>
    ((if (!r1.raw) then some (api_Deed.mk y3.What y3.N y3.Back y3.P (⟨#[]⟩ : ByteArray)) else some y3)).bind fun y6 =>
    (packet_To y6.P (api_Port.mk 0 0)).bind fun r8 =>
    some (api_Deed.mk ((if y6.Back then (api_Deed.mk y6.What y6.N r1.back r8 y6.Raw) else (api_Deed.mk y6.What y6.N false r8 y6.Raw)).What) ((if y6.Back then (api_Deed.mk y6.What y6.N r1.back r8 y6.Raw) else (api_Deed.mk y6.What y6.N false r8 y6.Raw)).N) ((if y6.Back then (api_Deed.mk y6.What y6.N r1.back r8 y6.Raw) else (api_Deed.mk y6.What y6.N false r8 y6.Raw)).Back) ((if y6.Back then (api_Deed.mk y6.What y6.N r1.back r8 y6.Raw) else (api_Deed.mk y6.What y6.N false r8 y6.Raw)).P) ((if y6.Back then (api_Deed.mk y6.What y6.N r1.back r8 y6.Raw) else (api_Deed.mk y6.What y6.N false r8 y6.Raw)).Raw))

/- pointsman/pointsmanref32.Clean -/
def ref32_Clean_b1 (a0 : api_Deed) (i2 : Int) : api_Deed → Option api_Deed
  | y3 =>
  (a0.P.get i2).bind fun x9 =>
    (y3.P.get i2).bind fun x10 =>
    (y3.P.put i2 x9).bind fun x11 =>
    some (api_Deed.mk y3.What y3.N y3.Back x11 y3.Raw)

def ref32_Clean (a0 : api_Deed) : Option api_Deed :=
  ((if (a0.What == 0) then (forO (ref32_Clean_b1 a0) (irange 2 8) (api_Deed.mk a0.What a0.N false (A8.mk 0 0 0 0 0 0 0 0) (⟨#[]⟩ : ByteArray))).bind fun z12 =>
    some z12 else some (api_Deed.mk a0.What a0.N false (A8.mk 0 0 0 0 0 0 0 0) (⟨#[]⟩ : ByteArray)))).bind fun y14 =>
    ((if (a0.What == 1) then some (api_Deed.mk y14.What y14.N y14.Back y14.P a0.Raw) else some y14)).bind fun y17 =>
    ((if ((a0.What == 3) || (a0.What == 4)) then some (api_Deed.mk y17.What y17.N a0.Back y17.P y17.Raw) else some y17)).bind fun y21 =>
    some y21

/- pointsman/pointsmanlaw32.SaveBack -/
def law32_SaveBack_b1 (a0 : (List api_Deed)) (i5 : Int) : (List api_Deed) → Option (Br (List api_Deed) Bool)
  | l4 =>
  (gat a0 i5).bind fun x11 =>
    (if decide ((x11.Raw.size : Int) > 1100) then some (Br.ret true) else (save_Clean x11).bind fun r13 =>
    (ref32_Clean x11).bind fun r14 =>
    (if (!(r13 == r14)) then some (Br.ret false) else (gapp l4 ([r14] : List api_Deed)).bind fun l16 =>
    some (.next l16)))

def law32_SaveBack (a0 : (List api_Deed)) : Option Bool :=
  (law32_awake).bind fun r1 =>
    (if (!r1) then some false else (if decide ((a0.length : Int) > 100) then some true else (forR (law32_SaveBack_b1 a0) (irange 0 (a0.length : Int)) ([] : List api_Deed)).bind fun q28 => match q28 with
    | .ret r => some r
    | .done z17 =>
    (save_Encode a0).bind fun r18 =>
    (ref32_Encode a0).bind fun r19 =>
    (if ((r18.2 != r19.2) || (!(seqB r18.1 r19.1))) then some false else (if (r18.2 != 0) then some (seqB r18.1 (⟨#[]⟩ : ByteArray)) else (save_Decode r18.1).bind fun r23 =>
    ((if (r23.2 == 0) then (ref32_Same r23.1 z17).bind fun r25 =>
    some r25 else some false)).bind fun y26 =>
    some y26))))

end Go.AM
