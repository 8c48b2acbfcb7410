import Derived.Test.YtjdaaclkihjjnaaAmPre
/-  The program's functions, told outright. -/
set_option linter.unusedVariables false
namespace Go.AM
open Go

structure api_Item where
  Pt : Int
  Raw : ByteArray
  N : Int
  deriving DecidableEq, Inhabited

structure queue_Queue where
  ring : (List api_Item)
  first : Int
  n_ : Int
  lost : Int
  deriving DecidableEq, Inhabited

structure ref16_Queue where
  Places : Int
  L : (List api_Item)
  Lost : Int
  deriving DecidableEq, Inhabited

structure law16_Act where
  What : Int
  X : api_Item
  deriving DecidableEq, Inhabited

/- pointsman/queue.New -/
def queue_New (a0 : Int) : Option queue_Queue :=
  (gmk (imin (imax a0 0) 64) (api_Item.mk 0 (⟨#[]⟩ : ByteArray) 0)).bind fun l1 =>
    some (queue_Queue.mk l1 0 0 0)

/- (*pointsman/queue.Queue).place -/
def queue_Queue_place (a0 : queue_Queue) (a1 : Int) : Option Int :=
  (remI (IntKind.i64.wrap (a0.first + a1)) (a0.ring.length : Int)).bind fun q1 =>
    some q1

/- (*pointsman/queue.Queue).Push -/
def queue_Queue_Push (a0 : queue_Queue) (a1 : api_Item) : Option (Int × queue_Queue) :=
  (if (a0.n_ == (a0.ring.length : Int)) then some (32, (queue_Queue.mk a0.ring a0.first a0.n_ (IntKind.i64.wrap (a0.lost + 1)))) else (queue_Queue_place a0 a0.n_).bind fun r2 =>
    (gat a0.ring r2).bind fun x3 =>
    (gput a0.ring r2 a1).bind fun l4 =>
    some (0, (queue_Queue.mk l4 a0.first (IntKind.i64.wrap (a0.n_ + 1)) a0.lost)))

/- (*pointsman/queue.Queue).At -/
def queue_Queue_At (a0 : queue_Queue) (a1 : Int) : Option (api_Item × Bool) :=
  (if ((decide (a1 < 0)) || (decide (a1 ≥ a0.n_))) then some ((api_Item.mk 0 (⟨#[]⟩ : ByteArray) 0), false) else (queue_Queue_place a0 a1).bind fun r3 =>
    (gat a0.ring r3).bind fun x4 =>
    some (x4, true))

/- (*pointsman/queue.Queue).Pop -/
def queue_Queue_Pop (a0 : queue_Queue) : Option (api_Item × Bool × queue_Queue) :=
  (queue_Queue_At a0 0).bind fun r1 =>
    ((if r1.2 then (gat a0.ring a0.first).bind fun x3 =>
    (gput a0.ring a0.first (api_Item.mk 0 (⟨#[]⟩ : ByteArray) 0)).bind fun l4 =>
    (queue_Queue_place (queue_Queue.mk l4 a0.first a0.n_ a0.lost) 1).bind fun r5 =>
    some (l4, r5, IntKind.i64.wrap (a0.n_ - 1)) else some (a0.ring, a0.first, a0.n_))).bind fun (l6, y7, y8) =>
    some (r1.1, r1.2, (queue_Queue.mk l6 y7 y8 a0.lost))

/- (*pointsman/queue.Queue).Len -/
def queue_Queue_Len (a0 : queue_Queue) : Option Int :=
  some a0.n_

/- (*pointsman/queue.Queue).Lost -/
def queue_Queue_Lost (a0 : queue_Queue) : Option Int :=
  some a0.lost

/- pointsman/pointsmanlaw16.awake -/
def law16_awake  : Option Bool :=
  (queue_New 2).bind fun r1 =>
    (queue_Queue_Push r1 (api_Item.mk 0 (⟨#[]⟩ : ByteArray) 1)).bind fun r2 =>
    (queue_Queue_Push r2.2 (api_Item.mk 0 (⟨#[]⟩ : ByteArray) 2)).bind fun r3 =>
    (queue_Queue_Push r3.2 (api_Item.mk 0 (⟨#[]⟩ : ByteArray) 3)).bind fun r4 =>
    (queue_Queue_Pop r4.2).bind fun r5 =>
    ((if (r2.1 == 0) then (if (r3.1 == 0) then (if (r4.1 == 32) then (if r5.2.1 then (if (r5.1.N == 1) then (queue_Queue_Len r5.2.2).bind fun r11 =>
    (if (r11 == 1) then (queue_Queue_Lost r5.2.2).bind fun r13 =>
    some (r13 == 1) else some false) else some false) else some false) else some false) else some false) else some false)).bind fun y14 =>
    some y14

/- pointsman/pointsmanref16.New -/
def ref16_New (a0 : Int) : Option ref16_Queue :=
  some (ref16_Queue.mk (imin (imax a0 0) 64) [] 0)

/- (pointsman/pointsmanref16.Queue).Push -/
def ref16_Queue_Push (a0 : ref16_Queue) (a1 : api_Item) : Option (ref16_Queue × Int) :=
  (if decide ((a0.L.length : Int) ≥ a0.Places) then some ((ref16_Queue.mk a0.Places a0.L (IntKind.i64.wrap (a0.Lost + 1))), 32) else (gapp ([] : List api_Item) a0.L).bind fun l2 =>
    (gapp l2 ([a1] : List api_Item)).bind fun l3 =>
    some ((ref16_Queue.mk a0.Places l3 a0.Lost), 0))

/- (pointsman/pointsmanref16.Queue).Pop -/
def ref16_Queue_Pop (a0 : ref16_Queue) : Option (ref16_Queue × api_Item × Bool) :=
  (if ((a0.L.length : Int) == 0) then some (a0, (api_Item.mk 0 (⟨#[]⟩ : ByteArray) 0), false) else (gat a0.L 0).bind fun x2 =>
    (gcut a0.L 1 (a0.L.length : Int)).bind fun l3 =>
    some ((ref16_Queue.mk a0.Places l3 a0.Lost), x2, true))

/- pointsman/pointsmanlaw16.QueueRuns -/
def law16_QueueRuns_b2 (l27 : (List api_Item)) (y28 : Int) (y29 : Int) (y30 : Int) (y31 : ref16_Queue) : Int → Option (Br Int (Br ((List api_Item) × Int × Int × Int × ref16_Queue) Bool))
  | i39 =>
  (if decide (i39 ≤ (y31.L.length : Int)) then (queue_Queue_At (queue_Queue.mk l27 y28 y29 y30) i39).bind fun r42 =>
    ((if decide (i39 ≥ 0) then (if (!(r42.2 == (decide (i39 < (y31.L.length : Int))))) then some true else (if r42.2 then (gat y31.L i39).bind fun x46 =>
    (if (!(r42.1 == x46)) then some true else (if (!r42.2) then some (!(r42.1 == (api_Item.mk 0 (⟨#[]⟩ : ByteArray) 0))) else some false)) else (if (!r42.2) then some (!(r42.1 == (api_Item.mk 0 (⟨#[]⟩ : ByteArray) 0))) else some false))) else (if (!(r42.2 == false)) then some true else (if r42.2 then (gat y31.L i39).bind fun x52 =>
    (if (!(r42.1 == x52)) then some true else (if (!r42.2) then some (!(r42.1 == (api_Item.mk 0 (⟨#[]⟩ : ByteArray) 0))) else some false)) else (if (!r42.2) then some (!(r42.1 == (api_Item.mk 0 (⟨#[]⟩ : ByteArray) 0))) else some false))))).bind fun y56 =>
    (if y56 then some (Br.ret (Br.ret false)) else some (.next (IntKind.i64.wrap (i39 + 1)))) else some (.brk i39))

def law16_QueueRuns_b1 (a1 : (List law16_Act)) (i10 : Int) : ((List api_Item) × Int × Int × Int × ref16_Queue) → Option (Br ((List api_Item) × Int × Int × Int × ref16_Queue) Bool)
  | (l6, i7, i8, i9, y11) =>
  (gat a1 i10).bind fun x17 =>
    (if decide ((x17.X.Raw.size : Int) > 100) then some (Br.ret true) else ((if (x17.What == 0) then (ref16_Queue_Push y11 x17.X).bind fun r20 =>
    (queue_Queue_Push (queue_Queue.mk l6 i7 i8 i9) x17.X).bind fun r21 =>
    (if (r21.1 != r20.2) then some (Sum.inr (Br.ret false)) else some (.inl (r21.2.ring, r21.2.first, r21.2.n_, r21.2.lost, r20.1))) else (ref16_Queue_Pop y11).bind fun r23 =>
    (queue_Queue_Pop (queue_Queue.mk l6 i7 i8 i9)).bind fun r24 =>
    (if ((!(r24.2.1 == r23.2.2)) || (!(r23.2.1 == r24.1))) then some (Sum.inr (Br.ret false)) else some (.inl (r24.2.2.ring, r24.2.2.first, r24.2.2.n_, r24.2.2.lost, r23.1))))).bind fun q32 => match q32 with
    | .inr r => some r
    | .inl (l27, y28, y29, y30, y31) =>
    (queue_Queue_Len (queue_Queue.mk l27 y28 y29 y30)).bind fun r33 =>
    ((if (r33 != (y31.L.length : Int)) then some true else (queue_Queue_Lost (queue_Queue.mk l27 y28 y29 y30)).bind fun r35 =>
    some (r35 != y31.Lost))).bind fun y36 =>
    (if y36 then some (Br.ret false) else (whR (law16_QueueRuns_b2 l27 y28 y29 y30 y31) FUEL (-1)).bind fun q60 => match q60 with
    | .ret r => some r
    | .done z59 =>
    some (.next (l27, y28, y29, y30, y31))))

def law16_QueueRuns (a0 : Int) (a1 : (List law16_Act)) : Option Bool :=
  (law16_awake).bind fun r1 =>
    (if (!r1) then some false else (if decide ((a1.length : Int) > 200) then some true else (queue_New a0).bind fun r4 =>
    (ref16_New a0).bind fun r5 =>
    (forR (law16_QueueRuns_b1 a1) (irange 0 (a1.length : Int)) (r4.ring, r4.first, r4.n_, r4.lost, r5)).bind fun q66 => match q66 with
    | .ret r => some r
    | .done (z61, z62, z63, z64, z65) =>
    some true))

/- pointsman/pointsmanlaw16.QueueOrder -/
def law16_QueueOrder_b1 (a1 : (List law16_Act)) (i12 : Int) : ((List api_Item) × Int × Int × Int × (List api_Item) × (List api_Item) × Int) → Option (Br ((List api_Item) × Int × Int × Int × (List api_Item) × (List api_Item) × Int) Bool)
  | (l5, i6, i7, i8, l9, l10, i11) =>
  ((gat a1 i12).bind fun x18 =>
    (if decide ((x18.X.Raw.size : Int) > 100) then some (Sum.inr (Br.ret true)) else (if (x18.What == 0) then (queue_Queue_Push (queue_Queue.mk l5 i6 i7 i8) x18.X).bind fun r21 =>
    (if (r21.1 == 0) then (gapp l9 ([x18.X] : List api_Item)).bind fun l23 =>
    some (.inl (r21.2.ring, r21.2.first, r21.2.n_, r21.2.lost, l23, l10, IntKind.i64.wrap (i11 + 1))) else some (.inl (r21.2.ring, r21.2.first, r21.2.n_, r21.2.lost, l9, l10, IntKind.i64.wrap (i11 + 1)))) else (queue_Queue_Pop (queue_Queue.mk l5 i6 i7 i8)).bind fun r24 =>
    (if r24.2.1 then (gapp l10 ([r24.1] : List api_Item)).bind fun l26 =>
    some (.inl (r24.2.2.ring, r24.2.2.first, r24.2.2.n_, r24.2.2.lost, l9, l26, i11)) else some (.inl (r24.2.2.ring, r24.2.2.first, r24.2.2.n_, r24.2.2.lost, l9, l10, i11)))))).bind fun q34 => match q34 with
    | .inr r => some r
    | .inl (l27, y28, y29, y30, l31, l32, y33) =>
    some (.next (l27, y28, y29, y30, l31, l32, y33))

def law16_QueueOrder_b2 (z35 : (List api_Item)) (z36 : Int) (z37 : Int) (z38 : Int) (z39 : (List api_Item)) (z40 : (List api_Item)) (i47 : Int) : Unit → Option (Br Unit Bool)
  | () =>
  (gat z39 i47).bind fun x53 =>
    ((if decide (i47 < (z40.length : Int)) then (gat z40 i47).bind fun x55 =>
    some (!(x55 == x53)) else some false)).bind fun y56 =>
    (if y56 then some (Br.ret false) else (queue_Queue_At (queue_Queue.mk z35 z36 z37 z38) (IntKind.i64.wrap (i47 - (z40.length : Int)))).bind fun r59 =>
    (if ((decide (i47 ≥ (z40.length : Int))) && ((!r59.2) || (!(x53 == r59.1)))) then some (Br.ret false) else some (.next ())))

def law16_QueueOrder (a0 : Int) (a1 : (List law16_Act)) : Option Bool :=
  (law16_awake).bind fun r1 =>
    (if (!r1) then some false else (if decide ((a1.length : Int) > 200) then some true else (queue_New a0).bind fun r4 =>
    (forR (law16_QueueOrder_b1 a1) (irange 0 (a1.length : Int)) (r4.ring, r4.first, r4.n_, r4.lost, ([] : List api_Item), ([] : List api_Item), 0)).bind fun q64 => match q64 with
    | .ret r => some r
    | .done (z35, z36, z37, z38, z39, z40, z41) =>
    (queue_Queue_Len (queue_Queue.mk z35 z36 z37 z38)).bind fun r42 =>
    (queue_Queue_Lost (queue_Queue.mk z35 z36 z37 z38)).bind fun r43 =>
    (if ((z41 != (IntKind.i64.wrap ((IntKind.i64.wrap ((z40.length : Int) + r42)) + r43))) || (((z39.length : Int) != (IntKind.i64.wrap ((z40.length : Int) + r42))) || (decide (r42 > 64)))) then some false else (forR (law16_QueueOrder_b2 z35 z36 z37 z38 z39 z40) (irange 0 (z39.length : Int)) ()).bind fun q63 => match q63 with
    | .ret r => some r
    | .done () =>
    some true)))

end Go.AM
