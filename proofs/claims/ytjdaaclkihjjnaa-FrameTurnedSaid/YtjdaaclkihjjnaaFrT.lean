import Derived.Test.YtjdaaclkihjjnaaAmPre
/-  The program's functions, told outright. -/
set_option linter.unusedVariables false
namespace Go.AM
open Go

structure api_Port where
  Sw : Int
  Pt : Int
  deriving DecidableEq, Inhabited

structure api_Frame where
  P : (A8 Int)
  Tagged : Bool
  Tag : Int
  Digest : Int
  deriving DecidableEq, Inhabited

structure frame_reader where
  s : ByteArray
  deriving DecidableEq, Inhabited

/- pointsman/packet.To -/
def packet_To (a0 : (A8 Int)) (a1 : api_Port) : Option (A8 Int) :=
  some (A8.mk a1.Sw a1.Pt a0.a2 a0.a3 a0.a4 a0.a5 a0.a6 a0.a7)

/- pointsman/frame.Tagged -/
def frame_Tagged (a0 : (A8 Int)) (a1 : Int) (a2 : Int) : Option api_Frame :=
  (packet_To a0 (api_Port.mk 0 0)).bind fun r1 =>
    some (api_Frame.mk r1 true a1 a2)

/- pointsman/frame.two -/
def frame_two (a0 : (List Int)) (a1 : Int) : Option (List Int) :=
  (gapp a0 ([IntKind.u8.wrap (a1.fdiv (2 ^ 8)), IntKind.u8.wrap a1] : List Int)).bind fun l1 =>
    some l1

/- pointsman/frame.check -/
def frame_check_b1 (a0 : (List Int)) (i2 : Int) : Int → Option Int
  | i1 =>
  (gat a0 i2).bind fun x8 =>
    some (IntKind.i64.wrap (i1 + (IntKind.i64.wrap ((i2 + 1) * (IntKind.i64.wrap x8)))))

def frame_check (a0 : (List Int)) : Option Int :=
  (forO (frame_check_b1 a0) (irange 0 (a0.length : Int)) 0).bind fun z9 =>
    some (IntKind.u16.wrap (z9.tmod 65521))

/- pointsman/frame.Encode -/
def frame_Encode_b1 (a0 : api_Frame) (i2 : Int) : (List Int) → Option (List Int)
  | l1 =>
  (gat [a0.P.a2, a0.P.a3, a0.P.a4, a0.P.a5, a0.P.a6, a0.P.a7] i2).bind fun x8 =>
    (frame_two l1 x8).bind fun r9 =>
    some r9

def frame_Encode_b2 (a0 : api_Frame) : ((List Int) × Int) → Option (((List Int) × Int) ⊕ ((List Int) × Int))
  | (l15, i16) =>
  (if decide (i16 ≥ 0) then (shrI .u64 a0.Digest i16).bind fun q19 =>
    (frame_two l15 (IntKind.u16.wrap q19)).bind fun r20 =>
    some (.inl (r20, IntKind.i64.wrap (i16 - 16))) else some (.inr (l15, i16)))

def frame_Encode (a0 : api_Frame) : Option ByteArray :=
  (forO (frame_Encode_b1 a0) (irange 0 ([a0.P.a2, a0.P.a3, a0.P.a4, a0.P.a5, a0.P.a6, a0.P.a7].length : Int)) ([78, 0] : List Int)).bind fun z10 =>
    ((if a0.Tagged then (gat z10 1).bind fun x12 =>
    (gput z10 1 1).bind fun l13 =>
    (frame_two l13 a0.Tag).bind fun r14 =>
    (whK (frame_Encode_b2 a0) FUEL (r14, 48)).bind fun (z21, z22) =>
    some z21 else some z10)).bind fun l24 =>
    (frame_check l24).bind fun r26 =>
    (frame_two l24 r26).bind fun r27 =>
    some (strOfB r27)

/- (*pointsman/frame.reader).two -/
def frame_reader_two (a0 : frame_reader) : Option (Int × frame_reader) :=
  (bat a0.s 0).bind fun b1 =>
    (bat a0.s 1).bind fun b2 =>
    (scut a0.s 2 (a0.s.size : Int)).bind fun s3 =>
    some (orI .u16 (IntKind.u16.wrap ((IntKind.u16.wrap b1) * 2 ^ 8)) (IntKind.u16.wrap b2), (frame_reader.mk s3))

/- pointsman/frame.Decode -/
def frame_Decode_b1 (i18 : Int) : (api_Frame × frame_reader) → Option (api_Frame × frame_reader)
  | (y19, y20) =>
  (frame_reader_two y20).bind fun r26 =>
    (y19.P.get i18).bind fun x27 =>
    (y19.P.put i18 r26.1).bind fun x28 =>
    some ((api_Frame.mk x28 y19.Tagged y19.Tag y19.Digest), r26.2)

def frame_Decode_b2 (i33 : Int) : (api_Frame × frame_reader) → Option (api_Frame × frame_reader)
  | (y34, y35) =>
  (frame_reader_two y35).bind fun r41 =>
    some ((api_Frame.mk y34.P y34.Tagged y34.Tag (orI .u64 (IntKind.u64.wrap (y34.Digest * 2 ^ 16)) (IntKind.u64.wrap r41.1))), r41.2)

def frame_Decode (a0 : ByteArray) : Option (api_Frame × Int) :=
  ((if ((a0.size : Int) == 16) then some (.inl 0) else (if ((a0.size : Int) == 26) then some (.inl 1) else some (Sum.inr ((api_Frame.mk (A8.mk 0 0 0 0 0 0 0 0) false 0 0), 30))))).bind fun q4 => match q4 with
    | .inr r => some r
    | .inl y3 =>
    (scut a0 0 (IntKind.i64.wrap ((a0.size : Int) - 2))).bind fun s5 =>
    (scut a0 (IntKind.i64.wrap ((a0.size : Int) - 2)) (a0.size : Int)).bind fun s6 =>
    (bat a0 0).bind fun b7 =>
    ((if (b7 != 78) then some true else (bat a0 1).bind fun b9 =>
    (if (b9 != y3) then some true else (frame_reader_two (frame_reader.mk s6)).bind fun r11 =>
    (gs2b s5).bind fun l12 =>
    (frame_check l12).bind fun r13 =>
    some (r11.1 != r13)))).bind fun y14 =>
    (if y14 then some ((api_Frame.mk (A8.mk 0 0 0 0 0 0 0 0) false 0 0), 30) else (scut s5 2 (s5.size : Int)).bind fun s17 =>
    (forO frame_Decode_b1 (irange 2 8) ((api_Frame.mk (A8.mk 0 0 0 0 0 0 0 0) (y3 == 1) 0 0), (frame_reader.mk s17))).bind fun (z29, z30) =>
    ((if z29.Tagged then (frame_reader_two z30).bind fun r32 =>
    (forO frame_Decode_b2 (irange 0 4) ((api_Frame.mk z29.P z29.Tagged r32.1 z29.Digest), r32.2)).bind fun (z42, z43) =>
    some z42 else some z29)).bind fun y45 =>
    some (y45, 0))

/- pointsman/pointsmanlaw03.awake -/
def law03_awake  : Option Bool :=
  (frame_Tagged (A8.mk 1 2 3 4 0 0 0 0) 7 9).bind fun r1 =>
    (frame_Encode r1).bind fun r2 =>
    (frame_Decode r2).bind fun r3 =>
    some ((r3.2 == 0) && ((r3.1 == r1) && ((r3.1.Tag == 7) && ((r3.1.Digest == 9) && ((r3.1.P.a2 == 3) && (r3.1.P.a0 == 0))))))

/- pointsman/pointsmanref03.number -/
def ref03_number (a0 : ByteArray) (a1 : Int) : Option Int :=
  (bat a0 a1).bind fun b1 =>
    (bat a0 (IntKind.i64.wrap (a1 + 1))).bind fun b2 =>
    some (IntKind.u16.wrap ((IntKind.u16.wrap ((IntKind.u16.wrap b1) * 256)) + (IntKind.u16.wrap b2)))

/- pointsman/pointsmanref03.Two -/
def ref03_Two (a0 : Int) : Option (List Int) :=
  some ([IntKind.u8.wrap (IntKind.u16.wrap (a0.tdiv 256)), IntKind.u8.wrap (a0.tmod 256)] : List Int)

/- pointsman/pointsmanref03.Check -/
def ref03_Check_b1 (a0 : (List Int)) (i2 : Int) : Int → Option Int
  | i1 =>
  (gat a0 i2).bind fun x8 =>
    some ((IntKind.i64.wrap (i1 + (IntKind.i64.wrap ((i2 + 1) * (IntKind.i64.wrap x8))))).tmod 65521)

def ref03_Check (a0 : (List Int)) : Option Int :=
  (forO (ref03_Check_b1 a0) (irange 0 (a0.length : Int)) 0).bind fun z9 =>
    some (IntKind.u16.wrap z9)

/- pointsman/pointsmanref03.Encode -/
def ref03_Encode_b1 (a0 : api_Frame) (i7 : Int) : (List Int) → Option (List Int)
  | l6 =>
  (a0.P.get i7).bind fun x13 =>
    (ref03_Two x13).bind fun r14 =>
    (gapp l6 r14).bind fun l15 =>
    some l15

def ref03_Encode_b2 (a0 : api_Frame) (i21 : Int) : (List Int) → Option (List Int)
  | l20 =>
  (shrI .u64 a0.Digest (IntKind.i64.wrap (8 * i21))).bind fun q27 =>
    (gapp l20 ([IntKind.u8.wrap q27] : List Int)).bind fun l28 =>
    some l28

def ref03_Encode (a0 : api_Frame) : Option ByteArray :=
  ((if a0.Tagged then (gat ([78, 0] : List Int) 1).bind fun x2 =>
    (gput ([78, 0] : List Int) 1 1).bind fun l3 =>
    some l3 else some ([78, 0] : List Int))).bind fun l4 =>
    (forO (ref03_Encode_b1 a0) (irange 2 8) l4).bind fun z16 =>
    ((if a0.Tagged then (ref03_Two a0.Tag).bind fun r18 =>
    (gapp z16 r18).bind fun l19 =>
    (forO (ref03_Encode_b2 a0) (drange 7 (-1)) l19).bind fun z29 =>
    some z29 else some z16)).bind fun l32 =>
    (ref03_Check l32).bind fun r34 =>
    (ref03_Two r34).bind fun r35 =>
    (gapp l32 r35).bind fun l36 =>
    some (strOfB l36)

/- pointsman/pointsmanref03.Decode -/
def ref03_Decode_b1 (a0 : ByteArray) (i3 : Int) : api_Frame → Option api_Frame
  | y4 =>
  (ref03_number a0 (IntKind.i64.wrap ((IntKind.i64.wrap (2 * i3)) - 2))).bind fun r10 =>
    (y4.P.get i3).bind fun x11 =>
    (y4.P.put i3 r10).bind fun x12 =>
    some (api_Frame.mk x12 y4.Tagged y4.Tag y4.Digest)

def ref03_Decode_b2 (a0 : ByteArray) (i16 : Int) : api_Frame → Option api_Frame
  | y17 =>
  (bat a0 i16).bind fun b23 =>
    some (api_Frame.mk y17.P y17.Tagged y17.Tag (IntKind.u64.wrap ((IntKind.u64.wrap (y17.Digest * 256)) + (IntKind.u64.wrap b23))))

def ref03_Decode (a0 : ByteArray) : Option (api_Frame × Bool) :=
  (if (((a0.size : Int) != 16) && ((a0.size : Int) != 26)) then some ((api_Frame.mk (A8.mk 0 0 0 0 0 0 0 0) false 0 0), false) else (forO (ref03_Decode_b1 a0) (irange 2 8) (api_Frame.mk (A8.mk 0 0 0 0 0 0 0 0) ((a0.size : Int) == 26) 0 0)).bind fun z13 =>
    ((if z13.Tagged then (ref03_number a0 14).bind fun r15 =>
    (forO (ref03_Decode_b2 a0) (irange 16 24) (api_Frame.mk z13.P z13.Tagged r15 z13.Digest)).bind fun z24 =>
    some z24 else some z13)).bind fun y26 =>
    (ref03_Encode y26).bind fun r28 =>
    (if (!(seqB r28 a0)) then some ((api_Frame.mk (A8.mk 0 0 0 0 0 0 0 0) false 0 0), false) else some (y26, true)))

/- pointsman/pointsmanlaw03.FrameAny -/
def law03_FrameAny (a0 : ByteArray) : Option Bool :=
  (law03_awake).bind fun r1 =>
    (if (!r1) then some false else (if decide ((a0.size : Int) > 300) then some true else (frame_Decode a0).bind fun r4 =>
    (ref03_Decode a0).bind fun r5 =>
    (if ((!((r4.2 == 0) == r5.2)) || (!(r4.1 == r5.1))) then some false else ((if r5.2 then (frame_Encode r4.1).bind fun r9 =>
    (if seqB r9 a0 then some true else (if (!r5.2) then some (r4.2 == 30) else some false)) else (if (!r5.2) then some (r4.2 == 30) else some false))).bind fun y13 =>
    some y13)))

/- pointsman/pointsmanlaw03.FrameTurned -/
def law03_FrameTurned (a0 : api_Frame) (a1 : Int) (a2 : Int) : Option Bool :=
  (law03_awake).bind fun r1 =>
    (if (!r1) then some false else (frame_Encode a0).bind fun r3 =>
    (if (a2 == 0) then some true else (gs2b r3).bind fun l5 =>
    (remI (IntKind.i64.wrap a1) (l5.length : Int)).bind fun q6 =>
    (gat l5 q6).bind fun x7 =>
    (gput l5 q6 (xorI .u8 x7 a2)).bind fun l8 =>
    (frame_Decode (strOfB l8)).bind fun r9 =>
    (remI (IntKind.i64.wrap a1) (r3.size : Int)).bind fun q10 =>
    (scut r3 0 q10).bind fun s11 =>
    (frame_Decode s11).bind fun r12 =>
    (scat r3 (strOfB ([a2] : List Int))).bind fun s13 =>
    (frame_Decode s13).bind fun r14 =>
    some ((r9.2 == 30) && ((r12.2 == 30) && (r14.2 == 30)))))

/- pointsman/pointsmanref03.Clean -/
def ref03_Clean (a0 : api_Frame) : Option api_Frame :=
  ((if (!a0.Tagged) then some (api_Frame.mk (A8.mk 0 0 a0.P.a2 a0.P.a3 a0.P.a4 a0.P.a5 a0.P.a6 a0.P.a7) a0.Tagged 0 0) else some (api_Frame.mk (A8.mk 0 0 a0.P.a2 a0.P.a3 a0.P.a4 a0.P.a5 a0.P.a6 a0.P.a7) a0.Tagged a0.Tag a0.Digest))).bind fun y2 =>
    some y2

/- pointsman/frame.Bare -/
def frame_Bare (a0 : (A8 Int)) : Option api_Frame :=
  (packet_To a0 (api_Port.mk 0 0)).bind fun r1 =>
    some (api_Frame.mk r1 false 0 0)

/- pointsman/pointsmanlaw03.FrameBack -/
def law03_FrameBack (a0 : api_Frame) : Option Bool :=
  (law03_awake).bind fun r1 =>
    (if (!r1) then some false else (frame_Encode a0).bind fun r3 =>
    (frame_Decode r3).bind fun r4 =>
    (ref03_Encode a0).bind fun r5 =>
    ((if seqB r3 r5 then (if (r4.2 == 0) then (ref03_Clean a0).bind fun r8 =>
    (if (r4.1 == r8) then (frame_Bare a0.P).bind fun r10 =>
    (ref03_Clean (api_Frame.mk a0.P false 0 0)).bind fun r11 =>
    (if (r10 == r11) then (frame_Tagged a0.P a0.Tag a0.Digest).bind fun r13 =>
    (ref03_Clean (api_Frame.mk a0.P true a0.Tag a0.Digest)).bind fun r14 =>
    some (r13 == r14) else some false) else some false) else some false) else some false)).bind fun y15 =>
    some y15)

end Go.AM
