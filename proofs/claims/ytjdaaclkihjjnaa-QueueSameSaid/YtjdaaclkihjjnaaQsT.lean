import Derived.Test.YtjdaaclkihjjnaaAmPre
/-  The program's functions, told outright. -/
set_option linter.unusedVariables false
namespace Go.AM
open Go

structure api_Item where
  Pt : Int
  Raw : ByteArray
  N : Int
  deriving DecidableEq, Inhabited

structure queue_Queue where
  ring : (List api_Item)
  first : Int
  n_ : Int
  lost : Int
  deriving DecidableEq, Inhabited

structure ref16_Queue where
  Places : Int
  L : (List api_Item)
  Lost : Int
  deriving DecidableEq, Inhabited

structure law16_Act where
  What : Int
  X : api_Item
  deriving DecidableEq, Inhabited

/- pointsman/queue.New -/
def queue_New (a0 : Int) : Option queue_Queue :=
  (gmk (imin (imax a0 0) 64) (api_Item.mk 0 (⟨#[]⟩ : ByteArray) 0)).bind fun l1 =>
    some (queue_Queue.mk l1 0 0 0)

/- (*pointsman/queue.Queue).place -/
def queue_Queue_place (a0 : queue_Queue) (a1 : Int) : Option Int :=
  (remI (IntKind.i64.wrap (a0.first + a1)) (a0.ring.length : Int)).bind fun q1 =>
    some q1

/- (*pointsman/queue.Queue).Push -/
def queue_Queue_Push (a0 : queue_Queue) (a1 : api_Item) : Option (Int × queue_Queue) :=
  (if (a0.n_ == (a0.ring.length : Int)) then some (32, (queue_Queue.mk a0.ring a0.first a0.n_ (IntKind.i64.wrap (a0.lost + 1)))) else (queue_Queue_place a0 a0.n_).bind fun r2 =>
    (gat a0.ring r2).bind fun x3 =>
    (gput a0.ring r2 a1).bind fun l4 =>
    some (0, (queue_Queue.mk l4 a0.first (IntKind.i64.wrap (a0.n_ + 1)) a0.lost)))

/- (*pointsman/queue.Queue).At -/
def queue_Queue_At (a0 : queue_Queue) (a1 : Int) : Option (api_Item × Bool) :=
  (if ((decide (a1 < 0)) || (decide (a1 ≥ a0.n_))) then some ((api_Item.mk 0 (⟨#[]⟩ : ByteArray) 0), false) else (queue_Queue_place a0 a1).bind fun r3 =>
    (gat a0.ring r3).bind fun x4 =>
    some (x4, true))

/- (*pointsman/queue.Queue).Pop -/
def queue_Queue_Pop (a0 : queue_Queue) : Option (api_Item × Bool × queue_Queue) :=
  (queue_Queue_At a0 0).bind fun r1 =>
    ((if r1.2 then (gat a0.ring a0.first).bind fun x3 =>
    (gput a0.ring a0.first (api_Item.mk 0 (⟨#[]⟩ : ByteArray) 0)).bind fun l4 =>
    (queue_Queue_place (queue_Queue.mk l4 a0.first a0.n_ a0.lost) 1).bind fun r5 =>
    some (l4, r5, IntKind.i64.wrap (a0.n_ - 1)) else some (a0.ring, a0.first, a0.n_))).bind fun (l6, y7, y8) =>
    some (r1.1, r1.2, (queue_Queue.mk l6 y7 y8 a0.lost))

/- (*pointsman/queue.Queue).Len -/
def queue_Queue_Len (a0 : queue_Queue) : Option Int :=
  some a0.n_

/- (*pointsman/queue.Queue).Lost -/
def queue_Queue_Lost (a0 : queue_Queue) : Option Int :=
  some a0.lost

/- pointsman/pointsmanlaw16.awake -/
def law16_awake  : Option Bool :=
  (queue_New 2).bind fun r1 =>
    (queue_Queue_Push r1 (api_Item.mk 0 (⟨#[]⟩ : ByteArray) 1)).bind fun r2 =>
    (queue_Queue_Push r2.2 (api_Item.mk 0 (⟨#[]⟩ : ByteArray) 2)).bind fun r3 =>
    (queue_Queue_Push r3.2 (api_Item.mk 0 (⟨#[]⟩ : ByteArray) 3)).bind fun r4 =>
    (queue_Queue_Pop r4.2).bind fun r5 =>
    ((if (r2.1 == 0) then (if (r3.1 == 0) then (if (r4.1 == 32) then (if r5.2.1 then (if (r5.1.N == 1) then (queue_Queue_Len r5.2.2).bind fun r11 =>
    (if (r11 == 1) then (queue_Queue_Lost r5.2.2).bind fun r13 =>
    some (r13 == 1) else some false) else some false) else some false) else some false) else some false) else some false)).bind fun y14 =>
    some y14

/- pointsman/pointsmanref16.New -/
def ref16_New (a0 : Int) : Option ref16_Queue :=
  some (ref16_Queue.mk (imin (imax a0 0) 64) [] 0)

/- (pointsman/pointsmanref16.Queue).Push -/
def ref16_Queue_Push (a0 : ref16_Queue) (a1 : api_Item) : Option (ref16_Queue × Int) :=
  (if decide ((a0.L.length : Int) ≥ a0.Places) then some ((ref16_Queue.mk a0.Places a0.L (IntKind.i64.wrap (a0.Lost + 1))), 32) else (gapp ([] : List api_Item) a0.L).bind fun l2 =>
    (gapp l2 ([a1] : List api_Item)).bind fun l3 =>
    some ((ref16_Queue.mk a0.Places l3 a0.Lost), 0))

/- (pointsman/pointsmanref16.Queue).Pop -/
def ref16_Queue_Pop (a0 : ref16_Queue) : Option (ref16_Queue × api_Item × Bool) :=
  (if ((a0.L.length : Int) == 0) then some (a0, (api_Item.mk 0 (⟨#[]⟩ : ByteArray) 0), false) else (gat a0.L 0).bind fun x2 =>
    (gcut a0.L 1 (a0.L.length : Int)).bind fun l3 =>
    some ((ref16_Queue.mk a0.Places l3 a0.Lost), x2, true))

/- (*pointsman/queue.Queue).Same -/
def queue_Queue_Same_b1 (a0 : queue_Queue) (a1 : queue_Queue) (i9 : Int) : Unit → Option (Br Unit Bool)
  | () =>
  (queue_Queue_At a0 i9).bind fun r15 =>
    (queue_Queue_At a1 i9).bind fun r16 =>
    (if (!(r15.1 == r16.1)) then some (Br.ret false) else some (.next ()))

def queue_Queue_Same (a0 : queue_Queue) (a1 : queue_Queue) : Option Bool :=
  (queue_Queue_Len a0).bind fun r1 =>
    (queue_Queue_Len a1).bind fun r2 =>
    ((if (r1 != r2) then some true else (queue_Queue_Lost a0).bind fun r4 =>
    (queue_Queue_Lost a1).bind fun r5 =>
    some (r4 != r5))).bind fun y6 =>
    (if y6 then some false else (forR (queue_Queue_Same_b1 a0 a1) (irange 0 r1) ()).bind fun q18 => match q18 with
    | .ret r => some r
    | .done () =>
    some true)

/- (*pointsman/queue.Queue).Len -/
def queue_Queue_Len_nil1  : Option Int :=
  some 0

/- (*pointsman/queue.Queue).Lost -/
def queue_Queue_Lost_nil1  : Option Int :=
  some 0

/- (*pointsman/queue.Queue).At -/
def queue_Queue_At_nil1 (a1 : Int) : Option (api_Item × Bool) :=
  some ((api_Item.mk 0 (⟨#[]⟩ : ByteArray) 0), false)

/- (*pointsman/queue.Queue).Same -/
def queue_Queue_Same_nil1_b1 (a1 : queue_Queue) (i9 : Int) : Unit → Option (Br Unit Bool)
  | () =>
  (queue_Queue_At_nil1 i9).bind fun r15 =>
    (queue_Queue_At a1 i9).bind fun r16 =>
    (if (!(r15.1 == r16.1)) then some (Br.ret false) else some (.next ()))

def queue_Queue_Same_nil1 (a1 : queue_Queue) : Option Bool :=
  (queue_Queue_Len_nil1).bind fun r1 =>
    (queue_Queue_Len a1).bind fun r2 =>
    ((if (r1 != r2) then some true else (queue_Queue_Lost_nil1).bind fun r4 =>
    (queue_Queue_Lost a1).bind fun r5 =>
    some (r4 != r5))).bind fun y6 =>
    (if y6 then some false else (forR (queue_Queue_Same_nil1_b1 a1) (irange 0 r1) ()).bind fun q18 => match q18 with
    | .ret r => some r
    | .done () =>
    some true)

/- pointsman/pointsmanlaw16.QueueSame -/
def law16_QueueSame_b1 (a0 : (A2 Int)) (a1 : (List law16_Act)) (x5 : (List law16_Act)) (i12 : Int) : ((List api_Item) × Int × Int × Int × (A2 ref16_Queue)) → Option ((List api_Item) × Int × Int × Int × (A2 ref16_Queue))
  | (l8, i9, i10, i11, y13) =>
  ((gat x5 i12).bind fun x19 =>
    (if (x19.What == 0) then (queue_Queue_Push (queue_Queue.mk l8 i9 i10 i11) x19.X).bind fun r21 =>
    (ref16_Queue_Push y13.a0 x19.X).bind fun r22 =>
    some (r21.2.ring, r21.2.first, r21.2.n_, r21.2.lost, (A2.mk r22.1 y13.a1)) else (queue_Queue_Pop (queue_Queue.mk l8 i9 i10 i11)).bind fun r23 =>
    (ref16_Queue_Pop y13.a0).bind fun r24 =>
    some (r23.2.2.ring, r23.2.2.first, r23.2.2.n_, r23.2.2.lost, (A2.mk r24.1 y13.a1)))).bind fun (l25, y26, y27, y28, y29) =>
    some (l25, y26, y27, y28, y29)

def law16_QueueSame_b2 (a0 : (A2 Int)) (a1 : (List law16_Act)) (x36 : (List law16_Act)) (i43 : Int) : ((List api_Item) × Int × Int × Int × (A2 ref16_Queue)) → Option ((List api_Item) × Int × Int × Int × (A2 ref16_Queue))
  | (l39, i40, i41, i42, y44) =>
  ((gat x36 i43).bind fun x50 =>
    (if (x50.What == 0) then (queue_Queue_Push (queue_Queue.mk l39 i40 i41 i42) x50.X).bind fun r52 =>
    (ref16_Queue_Push y44.a1 x50.X).bind fun r53 =>
    some (r52.2.ring, r52.2.first, r52.2.n_, r52.2.lost, (A2.mk y44.a0 r53.1)) else (queue_Queue_Pop (queue_Queue.mk l39 i40 i41 i42)).bind fun r54 =>
    (ref16_Queue_Pop y44.a1).bind fun r55 =>
    some (r54.2.2.ring, r54.2.2.first, r54.2.2.n_, r54.2.2.lost, (A2.mk y44.a0 r55.1)))).bind fun (l56, y57, y58, y59, y60) =>
    some (l56, y57, y58, y59, y60)

def law16_QueueSame_b3 (a0 : (A2 Int)) (a1 : (List law16_Act)) (z66 : (A2 ref16_Queue)) : (Bool × Int) → Option ((Bool × Int) ⊕ (Bool × Int))
  | (y68, i69) =>
  (if (y68 && (decide (i69 < (z66.a0.L.length : Int)))) then (gat z66.a0.L i69).bind fun x73 =>
    (gat z66.a1.L i69).bind fun x74 =>
    some (.inl ((x73 == x74), IntKind.i64.wrap (i69 + 1))) else some (.inr (y68, i69)))

def law16_QueueSame (a0 : (A2 Int)) (a1 : (List law16_Act)) (a2 : (List law16_Act)) : Option Bool :=
  (law16_awake).bind fun r1 =>
    (if (!r1) then some false else (if ((decide ((a1.length : Int) > 60)) || (decide ((a2.length : Int) > 60))) then some true else (gat ([a1, a2] : List (List law16_Act)) 0).bind fun x5 =>
    (queue_New a0.a0).bind fun r6 =>
    (ref16_New a0.a0).bind fun r7 =>
    (forO (law16_QueueSame_b1 a0 a1 x5) (irange 0 (x5.length : Int)) (r6.ring, r6.first, r6.n_, r6.lost, (A2.mk r7 (ref16_Queue.mk 0 [] 0)))).bind fun (z31, z32, z33, z34, z35) =>
    (gat ([a1, a2] : List (List law16_Act)) 1).bind fun x36 =>
    (queue_New a0.a1).bind fun r37 =>
    (ref16_New a0.a1).bind fun r38 =>
    (forO (law16_QueueSame_b2 a0 a1 x36) (irange 0 (x36.length : Int)) (r37.ring, r37.first, r37.n_, r37.lost, (A2.mk z35.a0 r38))).bind fun (z62, z63, z64, z65, z66) =>
    (whK (law16_QueueSame_b3 a0 a1 z66) FUEL ((((z66.a0.L.length : Int) == (z66.a1.L.length : Int)) && (z66.a0.Lost == z66.a1.Lost)), 0)).bind fun (z75, z76) =>
    (queue_Queue_Same (queue_Queue.mk z31 z32 z33 z34) (queue_Queue.mk z62 z63 z64 z65)).bind fun r77 =>
    ((if (r77 == z75) then (queue_Queue_Same (queue_Queue.mk z62 z63 z64 z65) (queue_Queue.mk z31 z32 z33 z34)).bind fun r79 =>
    (if (r79 == z75) then (queue_Queue_Same (queue_Queue.mk z31 z32 z33 z34) (queue_Queue.mk z31 z32 z33 z34)).bind fun r81 =>
    (if r81 then (queue_Queue_Same_nil1 (queue_Queue.mk z31 z32 z33 z34)).bind fun r83 =>
    (if ((z66.a0.L.length : Int) == 0) then some (r83 == (z66.a0.Lost == 0)) else some (r83 == false)) else some false) else some false) else some false)).bind fun y85 =>
    some y85))

end Go.AM
