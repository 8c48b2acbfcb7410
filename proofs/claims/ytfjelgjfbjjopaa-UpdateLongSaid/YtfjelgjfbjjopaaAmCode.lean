import Derived.Test.YtfjelgjfbjjopaaAmCore
set_option linter.unusedVariables false
set_option linter.unusedSectionVars false
namespace Go.AM
open Go Go.RowKit
variable [Glob]
inductive Ck where
  | bool | int | str
  deriving DecidableEq, Inhabited
inductive MK where
  | one (q : Ck)
  | st (ks : List Ck)
  deriving DecidableEq, Inhabited
inductive AX where
  | t (n : Nat)
  | c (x : D)
  deriving Inhabited
inductive aM where
  | mov (x : AX)
  | pick (c a b : AX)
  | alloc (zero : List D)
  | box (k : Option Nat) (x : AX) (imm : Bool)
  | build (zero : List D) (parts : List (Nat × Nat × AX))
  | bslice (k : Option Nat) (parts : List AX) (m : Bool)
  | bsliceI (k : Option Nat) (parts : List AX)
  | bsliceV (k : Option Nat) (parts : List AX) (m : Bool)
  | load (k : Option Nat) (x : AX)
  | ldI (k : Option Nat) (x : AX)
  | store (k : Option Nat) (a x : AX)
  | nilchk (x : AX)
  | bin (op : BinOp) (x y : AX)
  | eqB (neg : Bool) (x y : AX)
  | eqN (neg : Bool) (q : Nat) (x y : AX)
  | eqS (neg : Bool) (ks : List Ck) (x y : AX)
  | un (op : UnOp) (x : AX)
  | convI (k : IntKind) (x : AX)
  | convS (x : AX)
  | s2b (x : AX) (m : Bool)
  | b2s (x : AX)
  | mkfunc (f : Nat) (caps : List AX)
  | mkslice (k : Option Nat) (zero : D) (len cap : AX)
  | mkslF (k : Option Nat) (zero : D) (len cap : AX)
  | mkslV (zero : D) (len cap : AX)
  | mkslD (k : Option Nat) (zero : D) (len cap : AX)
  | nop
  | slc (k : Option Nat) (x : AX) (lo hi : Option AX)
  | sstr (x : AX) (lo hi : Option AX)
  | slcA (n : Nat) (k : Option Nat) (x : AX) (lo hi : Option AX)
  | faddr (off : Nat) (x : AX)
  | fld (off : Nat) (k : Option Nat) (x : AX)
  | iaddr (k : Option Nat) (x i : AX)
  | iaddrA (n : Nat) (k : Option Nat) (x i : AX)
  | idxA (n : Nat) (k : Option Nat) (x i : AX)
  | idxS (x i : AX)
  | len (x : AX)
  | slen (x : AX)
  | lenA (n : Nat)
  | min2 (x y : AX)
  | max2 (x y : AX)
  | append (k : Option Nat) (x y : AX) (m : Bool)
  | clear (k : Option Nat) (zero : List D) (x : AX)
  | appendC (k : Option Nat) (x y : AX) (m : Bool)
  | extract (x : AX) (i : Nat)
  | call (w : Bool) (f : Nat) (xs : List AX)
  | callv (w : Bool) (x : AX) (xs : List AX)
  | mkmap
  | mget (q : MK) (z : D) (ok : Bool) (x i : AX)
  | mset (q : MK) (x i v : AX)
  | mlen (x : AX)
  deriving Inhabited
structure aQ where
  dst : Option Nat
  op : aM
  guard : Option (Nat × Bool) := none
  deriving Inhabited
inductive pa where
  | frz (t : Nat)
  | cst (t : Nat) (k : Option Nat)
  | drop (t : Nat)
inductive bk where
  | skip
  | ops (draw : Bool) (l : List aQ)
  | opsS (pairs : List (Nat × Nat)) (l : List aQ)
  | seq (a b : bk)
  | cond (c : AX) (a b : bk)
  | block (id : Nat) (a : bk)
  | loop (a : bk)
  | exit (id : Nat)
  | ret
  | any
  | ghost (g : pa) (a : bk)
  | dfr (t G : Nat)
def S.ev (s : S) : AX → V
  | .t n => s.T n
  | .c x => .d x
def V.cells : V → List V
  | .d x => x.cells.map V.d
  | .agg cs => cs
  | v => [v]
def V.one : V → Bool
  | .d x => x.one
  | .agg _ => false
  | .tup _ => false
  | _ => true
def bu {α : Type} : List (Option α) → Option (List α)
  | [] => some []
  | some a :: l => (bu l).map (a :: ·)
  | none :: _ => none
@[simp] theorem uB {α : Type} : bu ([] : List (Option α)) = some [] := rfl
@[simp] theorem ie {α : Type} (a : α) (l : List (Option α)) : bu (some a :: l) = (bu l).map (a :: ·) := rfl
@[simp] theorem uC {α : Type} (l : List (Option α)) : bu (none :: l) = none := rfl
def V.toD : V → Option D
  | .d x => some x
  | _ => none
def fI (vs : List V) : V := match bu (vs.map V.toD) with
  | some ds => .d (.agg ds)
  | none => .agg vs
def ig (vs : List V) : V := match bu (vs.map V.toD) with
  | some ds => .d (.tup ds)
  | none => .tup vs
def cI (cs : List D) (j : Nat) : Option Nat → Option D
  | none => cs[j]?
  | some m => if j + m ≤ cs.length then some (.agg ((cs.drop j).take m)) else none
def dz (cs : List V) (j : Nat) : Option Nat → Option V
  | none => cs[j]?
  | some m => if j + m ≤ cs.length then some (fI ((cs.drop j).take m)) else none
def eZ (cells : List V) : List (Nat × Nat × V) → Option (List V)
  | [] => some cells
  | (off, size, v) :: r =>
    if v.cells.all V.one = true ∧ v.cells.length = size ∧ off + size ≤ cells.length then eZ (cells.take off ++ v.cells ++ cells.drop (off + size)) r else none
def eo (kb : Option Nat) (d : D) (j : Nat) (k : Option Nat) : Option D :=
  if k = kb ∧ j = 0 then some d else match d with
    | .agg cs => cI cs j k
    | _ => none
def bU (σ : au) (k : Option Nat) : V → Option V
  | .d (.cptr kb d j) => (eo kb d j k).map V.d
  | .ptr id i j => match σ id with
    | some (.lst _ kb els) => match els[i]? with
      | some d => (eo kb d j k).map V.d
      | none => none
    | some (.var cs) => dz cs (i + j) k
    | _ => none
  | _ => none
def fk (kb : Option Nat) (d : D) (j : Nat) (k : Option Nat) (x : D) : Option D :=
  if x.shape k = true ∧ x.cells.all D.one = true then
    (if k = kb ∧ j = 0 then some x else match d with
      | .agg cs => if j + ah k ≤ cs.length then some (.agg (cs.take j ++ x.cells ++ cs.drop (j + ah k))) else none
      | _ => none)
  else none
def dM (σ : au) (k : Option Nat) (a x : V) : Option au :=
  match a with
  | .ptr id i j => match σ id with
    | some (.lst true kb els) => match els[i]?, x with
      | some d, .d y => (fk kb d j k y).map fun z => aj σ id (some (.lst true kb (els.set i z)))
      | _, _ => none
    | some (.var cs) =>
      if x.cells.length = ah k ∧ x.cells.all V.one = true ∧ i + j + ah k ≤ cs.length then
        some (aj σ id (some (.var (cs.take (i + j) ++ x.cells ++ cs.drop (i + j + ah k))))) else none
    | _ => none
  | _ => none
def ik (op : BinOp) (k : IntKind) (a b : Int) : Option D :=
  match op with
  | .add => some (.int k (k.wrap (a + b)))
  | .sub => some (.int k (k.wrap (a - b)))
  | .mul => some (.int k (k.wrap (a * b)))
  | .quo => if b = 0 then none else some (.int k (k.wrap (a.tdiv b)))
  | .rem => if b = 0 then none else some (.int k (a.tmod b))
  | .and => some (.int k (k.wrap (BitVec.ofInt k.bits a &&& BitVec.ofInt k.bits b).toNat))
  | .or => some (.int k (k.wrap (BitVec.ofInt k.bits a ||| BitVec.ofInt k.bits b).toNat))
  | .xor => some (.int k (k.wrap (BitVec.ofInt k.bits a ^^^ BitVec.ofInt k.bits b).toNat))
  | .andNot => some (.int k (k.wrap (BitVec.ofInt k.bits a &&& ~~~BitVec.ofInt k.bits b).toNat))
  | .eql => some (.bool (a == b))
  | .neq => some (.bool (a != b))
  | .lss => some (.bool (decide (a < b)))
  | .leq => some (.bool (decide (a ≤ b)))
  | .gtr => some (.bool (decide (a > b)))
  | .geq => some (.bool (decide (a ≥ b)))
  | _ => none
def lV (op : BinOp) (k : IntKind) (a b : Int) : Option D :=
  if b < 0 then none else match op with
  | .shl => some (.int k (k.wrap (a * 2 ^ (min b.toNat k.bits))))
  | .shr => some (.int k (a.fdiv (2 ^ (min b.toNat k.bits))))
  | _ => none
def j8 (op : BinOp) (a b : ByteArray) : Option D :=
  match op with
  | .add => if a.size + b.size ≤ 4294967296 then some (.str (a ++ b)) else none
  | .eql => some (.bool (a.toList == b.toList))
  | .neq => some (.bool (!(a.toList == b.toList)))
  | .lss => some (.bool (Op.bytesLess a.toList b.toList))
  | _ => none
def cV : Ck → D → D → Option Bool
  | .int, .int k a, .int k' b => if k = k' then some (a == b) else none
  | .bool, .bool a, .bool b => some (a == b)
  | .str, .str a, .str b => some (a.toList == b.toList)
  | _, _, _ => none
def bH : List Ck → List D → List D → Option Bool
  | [], [], [] => some true
  | k :: ks, a :: l, b :: m => match cV k a b with
    | some true => bH ks l m
    | some false => some false
    | none => none
  | _, _, _ => none
def eM : Nat → V → Option Bool
  | 0, .d .nilp => some true
  | 0, .d (.cptr ..) => some false
  | 0, .ptr .. => some false
  | 1, .d .nils => some true
  | 1, .d (.vec _ (_ :: _)) => some false
  | 1, .loc _ _ (_ + 1) => some false
  | 1, .mapr _ => some false
  | 2, .d .nilf => some true
  | 2, .d (.func ..) => some false
  | 2, .func .. => some false
  | _, _ => none
def gq (op : BinOp) (x y : V) : Option V :=
  match x, y with
  | .d (.int k a), .d (.int k' b) =>
    if op = .shl ∨ op = .shr then (lV op k a b).map V.d else if k = k' then (ik op k a b).map V.d else none
  | .d (.str a), .d (.str b) => (j8 op a b).map V.d
  | _, _ => none
def j9 (x y : V) : Option Bool :=
  match x, y with
  | .d (.bool a), .d (.bool b) => some (a == b)
  | _, _ => none
def il (q : Nat) (x y : V) : Option Bool :=
  match eM q x, eM q y with
  | some true, some b => some b
  | some false, some true => some false
  | _, _ => none
def fJ (ks : List Ck) (x y : V) : Option Bool :=
  match x, y with
  | .d (.agg a), .d (.agg b) => if a.length = ks.length ∧ b.length = ks.length then bH ks a b else none
  | _, _ => none
def jd (op : UnOp) (x : V) : Option V :=
  match op, x with
  | .not, .d (.bool b) => some (.d (.bool (!b)))
  | .neg, .d (.int k n) => some (.d (.int k (k.wrap (0 - n))))
  | _, _ => none
def cW (σ : au) : V → Option (List D)
  | .d .nils => some []
  | .d (.vec _ vs) => some vs
  | .loc id off len => match σ id with
    | some (.lst _ _ els) => if off + len ≤ els.length then some ((els.drop off).take len) else none
    | _ => none
  | _ => none
def bX (σ : au) : V → Option (Option Nat)
  | .d (.vec k _) => some k
  | .loc id _ _ => match σ id with
    | some (.lst _ k _) => some k
    | some (.var _) => some none
    | _ => none
  | _ => none
def dN : Nat := 4294967296
def dC (s : ByteArray) : List D := s.data.toList.map fun b => D.int .u8 b.toNat
def gr : D → Option UInt8
  | .int .u8 n => some (UInt8.ofNat n.toNat)
  | _ => none
def ka (l : List D) : Option ByteArray := (bu (l.map gr)).map fun bs => ⟨bs.toArray⟩
def dO (σ : au) (k : Option Nat) (y : V) : Option (List D) :=
  match y with
  | .d .nils => some []
  | y => if bX σ y = some k then cW σ y else none
def dV (σ : au) (k : Option Nat) (y : V) : Option (List D) :=
  match y with
  | .d (.str s) => if k = none then some (dC s) else none
  | y => dO σ k y
def cX (σ : au) (n : Nat) (k : Option Nat) (x y : V) (m : Bool) : Option (V × au × Nat) :=
  match dV σ k y with
  | none => none
  | some ys =>
    match x with
    | .d .nils => if ys.length ≤ dN then some (.loc n 0 ys.length, aj σ n (some (.lst m k ys)), n + 1) else none
    | .loc id 0 len => match σ id with
      | some (.lst m' k' els) =>
        if k' = k ∧ len = els.length ∧ els.length + ys.length ≤ dN then
          some (.loc n 0 (els.length + ys.length), aj (aj σ id none) n (some (.lst m' k (els ++ ys))), n + 1) else none
      | _ => none
    | _ => none
def eN : V → Option Int
  | .d (.int _ n) => some n
  | _ => none
def dg (len : Nat) (lo hi : Option V) : Option (Nat × Nat) :=
  match (match hi with | some v => eN v | none => some (len : Int)), (match lo with | some v => eN v | none => some (0 : Int)) with
  | some h, some l => if 0 ≤ l ∧ l ≤ h ∧ h ≤ len then some (l.toNat, h.toNat) else none
  | _, _ => none
def je (cs : List D) (j : Nat) (k : Option Nat) (l h : Nat) : Option (List D) :=
  if j + h * ah k ≤ cs.length then
    let els := (List.range (h - l)).map fun i => (cI cs (j + (l + i) * ah k) k).getD .undef
    if els.all (D.shape k) = true then some els else none
  else none
def cJ (σ : au) : V → Option D
  | .d x => some x
  | .loc id off len => match σ id with
    | some (.lst false k els) => if off + len ≤ els.length then some (.vec k ((els.drop off).take len)) else none
    | _ => none
  | _ => none
def cO (σ : au) : V → Option D
  | .agg vs => (bu (vs.map (cJ σ))).map D.agg
  | v => cJ σ v
def Ck.has : Ck → D → Bool
  | .bool, .bool _ => true
  | .int, .int _ _ => true
  | .str, .str _ => true
  | _, _ => false
def MK.has : MK → D → Bool
  | .one q, d => q.has d
  | .st ks, .agg l => l.length == ks.length
  | _, _ => false
def MK.eq : MK → D → D → Option Bool
  | .one q, a, b => cV q a b
  | .st ks, .agg l, .agg m => if l.length = ks.length ∧ m.length = ks.length then bH ks l m else none
  | _, _, _ => none
def dW (q : MK) (k : D) : List (D × D) → Nat → Option (Option (Nat × D))
  | [], _ => some none
  | p :: es, i => match q.eq k p.1 with
    | some true => some (some (i, p.2))
    | some false => dW q k es (i + 1)
    | none => none
def ay (op : aM) (e : AX → V) (σ : au) (n : Nat) : Option (V × au × Nat) :=
  let v (x : Option V) : Option (V × au × Nat) := x.map fun x => (x, σ, n)
  match op with
  | .mov x => some (e x, σ, n)
  | .pick c a b => match e c with
    | .d (.bool t) => some (if t then e a else e b, σ, n)
    | _ => none
  | .alloc zero => some (.ptr n 0 0, aj σ n (some (.var (zero.map V.d))), n + 1)
  | .box k x imm =>
    if imm then match e x with
      | .d d => if d.shape k = true ∧ d.cells.all D.one = true then some (.d (.cptr k d 0), σ, n) else none
      | _ => none
    else if (e x).cells.all V.one = true then some (.ptr n 0 0, aj σ n (some (.var (e x).cells)), n + 1) else none
  | .build zero parts => v ((eZ (zero.map V.d) (parts.map fun p => (p.1, p.2.1, e p.2.2))).map fI)
  | .bslice k parts m =>
    match bu (parts.map fun x => (e x).toD) with
    | some ds => if ds.all (fun d => d.shape k && d.cells.all D.one) = true then some (.loc n 0 ds.length, aj σ n (some (.lst m k ds)), n + 1) else none
    | none => none
  | .bsliceI k parts =>
    match bu (parts.map fun x => (e x).toD) with
    | some ds => if ds.all (fun d => d.shape k && d.cells.all D.one) = true then some (.d (.vec k ds), σ, n) else none
    | none => none
  | .bsliceV k parts m =>
    match bu (parts.map fun x => cO σ (e x)) with
    | some ds => if ds.all (fun d => d.shape k && d.cells.all D.one) = true then some (.loc n 0 ds.length, aj σ n (some (.lst m k ds)), n + 1) else none
    | none => none
  | .load k x => v (bU σ k (e x))
  | .ldI k x => match e x with
    | .d (.cptr kb d j) => v ((eo kb d j k).map V.d)
    | _ => none
  | .store k a x => (dM σ k (e a) (e x)).map fun σ' => (V.undef, σ', n)
  | .nilchk x => match e x with
    | .ptr id i j => some (.ptr id i j, σ, n)
    | .d (.cptr k d j) => some (.d (.cptr k d j), σ, n)
    | .d (.func f c) => some (.d (.func f c), σ, n)
    | .func f c => some (.func f c, σ, n)
    | _ => none
  | .bin op x y => v (gq op (e x) (e y))
  | .eqB neg x y => v ((j9 (e x) (e y)).map fun b => .d (.bool (if neg then !b else b)))
  | .eqN neg q x y => v ((il q (e x) (e y)).map fun b => .d (.bool (if neg then !b else b)))
  | .eqS neg ks x y => v ((fJ ks (e x) (e y)).map fun b => .d (.bool (if neg then !b else b)))
  | .un op x => v (jd op (e x))
  | .convI k x => match e x with
    | .d (.int _ n') => some (.d (.int k (k.wrap n')), σ, n)
    | _ => none
  | .convS x => match e x with
    | .d (.str s) => some (.d (.str s), σ, n)
    | _ => none
  | .s2b x m => match e x with
    | .d (.str s) => if s.size ≤ dN then some (.loc n 0 s.size, aj σ n (some (.lst m none (dC s))), n + 1) else none
    | _ => none
  | .b2s x => match (dO σ none (e x)).bind ka with
    | some s => some (.d (.str s), σ, n)
    | none => none
  | .mkfunc f caps => match bu (caps.map fun x => (e x).toD) with
    | some ds => some (.d (.func f ds), σ, n)
    | none => some (.func f (caps.map e), σ, n)
  | .mkslice k zero len cap => match e len, e cap with
    | .d (.int .i64 l), .d (.int .i64 c) => if 0 ≤ l ∧ l ≤ c ∧ c ≤ 4294967296 then some (.loc n 0 l.toNat, aj σ n (some (.lst true k (List.replicate l.toNat zero))), n + 1) else none
    | _, _ => none
  | .mkslF k zero len cap => match e len, e cap with
    | .d (.int .i64 l), .d (.int .i64 c) => if 0 ≤ l ∧ l ≤ c ∧ c ≤ 4294967296 then some (.loc n 0 l.toNat, aj σ n (some (.lst false k (List.replicate l.toNat zero))), n + 1) else none
    | _, _ => none
  | .mkslD k zero len cap => match e len, e cap with
    | .d (.int .i64 l), .d (.int .i64 c) => if 0 ≤ l ∧ l ≤ c ∧ c ≤ 4294967296 then some (.d (.vec k (List.replicate l.toNat zero)), σ, n) else none
    | _, _ => none
  | .nop => none
  | .mkslV zero len cap => match e len, e cap with
    | .d (.int .i64 l), .d (.int .i64 c) => if 0 ≤ l ∧ l ≤ c ∧ c ≤ l ∧ c ≤ 4294967296 then some (.loc n 0 l.toNat, aj σ n (some (.var (List.replicate l.toNat (.d zero)))), n + 1) else none
    | _, _ => none
  | .slc k x lo hi => match e x with
    | .d (.vec k' vs) => if k' = k then (match dg vs.length (lo.map e) (hi.map e) with
        | some (l, h) => some (.d (.vec k ((vs.drop l).take (h - l))), σ, n)
        | none => none) else none
    | .d .nils => (match dg 0 (lo.map e) (hi.map e) with
        | some _ => some (.d .nils, σ, n)
        | none => none)
    | .loc id off len => if bX σ (.loc id off len) = some k then (match dg len (lo.map e) (hi.map e) with
        | some (l, h) => some (.loc id (off + l) (h - l), σ, n)
        | none => none) else none
    | _ => none
  | .sstr x lo hi => match e x with
    | .d (.str s) => (match dg s.size (lo.map e) (hi.map e) with
        | some (l, h) => some (.d (.str (s.extract l h)), σ, n)
        | none => none)
    | _ => none
  | .slcA m k x lo hi => match e x with
    | .d (.cptr _ d j) => (match dg m (lo.map e) (hi.map e) with
        | some (l, h) => (match je d.cells j k l h with
          | some els => some (.d (.vec k els), σ, n)
          | none => none)
        | none => none)
    | _ => none
  | .faddr off x => match e x with
    | .ptr id i j => some (.ptr id i (j + off), σ, n)
    | .d (.cptr k d j) => some (.d (.cptr k d (j + off)), σ, n)
    | _ => none
  | .fld off k x => match e x with
    | .d (.agg cs) => v ((cI cs off k).map V.d)
    | .agg cs => v (dz cs off k)
    | _ => none
  | .iaddr k x i => match e x, e i with
    | .d (.vec k' vs), .d (.int _ ix) => if k' = k ∧ 0 ≤ ix then (match vs[ix.toNat]? with
        | some d => some (.d (.cptr k d 0), σ, n)
        | none => none) else none
    | .loc id off len, .d (.int _ ix) => if bX σ (.loc id off len) = some k ∧ 0 ≤ ix ∧ ix < len then some (.ptr id (off + ix.toNat) 0, σ, n) else none
    | _, _ => none
  | .iaddrA m k x i => match e x, e i with
    | .ptr id a j, .d (.int _ ix) => if 0 ≤ ix ∧ ix < m then some (.ptr id a (j + ix.toNat * ah k), σ, n) else none
    | .d (.cptr k' d j), .d (.int _ ix) => if 0 ≤ ix ∧ ix < m then some (.d (.cptr k' d (j + ix.toNat * ah k)), σ, n) else none
    | _, _ => none
  | .idxA m k x i => match e x, e i with
    | .d (.agg cs), .d (.int _ ix) => if 0 ≤ ix ∧ ix < m then v ((cI cs (ix.toNat * ah k) k).map V.d) else none
    | .agg cs, .d (.int _ ix) => if 0 ≤ ix ∧ ix < m then v (dz cs (ix.toNat * ah k) k) else none
    | _, _ => none
  | .idxS x i => match e x, e i with
    | .d (.str s), .d (.int _ ix) => if 0 ≤ ix then (match s.data.toList[ix.toNat]? with
        | some b => some (.d (.int .u8 b.toNat), σ, n)
        | none => none) else none
    | _, _ => none
  | .len x => match e x with
    | .d (.vec _ vs) => some (.d (.int .i64 vs.length), σ, n)
    | .d .nils => some (.d (.int .i64 0), σ, n)
    | .loc _ _ len => some (.d (.int .i64 len), σ, n)
    | _ => none
  | .slen x => match e x with
    | .d (.str s) => some (.d (.int .i64 s.size), σ, n)
    | _ => none
  | .lenA m => some (.d (.int .i64 m), σ, n)
  | .min2 x y => match e x, e y with
    | .d (.int k a), .d (.int k' b) => if k = k' then some (.d (.int k (if b < a then b else a)), σ, n) else none
    | _, _ => none
  | .max2 x y => match e x, e y with
    | .d (.int k a), .d (.int k' b) => if k = k' then some (.d (.int k (if b > a then b else a)), σ, n) else none
    | _, _ => none
  | .append k x y m => cX σ n k (e x) (e y) m
  | .appendC k x y m => match e x with
    | .loc id 0 len => match σ id with
      | some (.lst true kb els) => if len ≤ els.length then cX (aj σ id (some (.lst true kb (els.take len)))) n k (e x) (e y) m else none
      | _ => none
    | _ => none
  | .clear k _ x => match e x with
    | .loc id off len => match σ id with
      | some (.lst true kb els) => if kb = k ∧ off + len = els.length then some (.d (.tup []), aj σ id (some (.lst true kb (els.take off))), n) else none
      | _ => none
    | _ => none
  | .extract x i => match e x with
    | .d (.tup ds) => v ((ds[i]?).map V.d)
    | .tup vs => v vs[i]?
    | _ => none
  | .mkmap => some (.mref n, aj σ n (some (.mp [])), n + 1)
  | .mget q z ok x i => match e x, e i with
    | .mref id, .d k => match σ id with
      | some (.mp es) => match q.has k, dW q k es 0 with
        | true, some (some (_, d)) => some (.d (if ok then .tup [d, .bool true] else d), σ, n)
        | true, some none => some (.d (if ok then .tup [z, .bool false] else z), σ, n)
        | _, _ => none
      | _ => none
    | _, _ => none
  | .mset q x i u => match e x, e i, e u with
    | .mref id, .d k, .d d => match σ id with
      | some (.mp es) => match q.has k, dW q k es 0 with
        | true, some (some (j, _)) => some (V.undef, aj σ id (some (.mp (es.set j (k, d)))), n)
        | true, some none => some (V.undef, aj σ id (some (.mp (es ++ [(k, d)]))), n)
        | _, _ => none
      | _ => none
    | _, _, _ => none
  | .mlen x => match e x with
    | .mref id => match σ id with
      | some (.mp es) => if es.length ≤ maxLen then some (.d (.int .i64 es.length), σ, n) else none
      | _ => none
    | _ => none
  | .call .. => none
  | .callv .. => none
def bp (P : Program) (t : TypeId) : Option (Option Nat) :=
  match P.underlying t with
  | some (.struct _) | some (.array _ _) => if 0 < P.cellsOf t then some (some (P.cellsOf t)) else none
  | some (.bool) | some (.int _) | some (.string) | some (.pointer _) | some (.slice _) | some (.map _ _) | some (.func ..) | some (.interface _) => if P.cellsOf t = 1 then some none else none
  | _ => none
def gu : D → Value → Bool
  | .int k n, .int k' n' => k == k' && n == n' && k.wrap n == n
  | .bool b, .bool b' => b == b'
  | .str s, .string s' => s.data.toList == s'.data.toList && decide (s.size ≤ 65536)
  | .nilp, .pointer none => true
  | .nils, .slice none 0 0 => true
  | .vec _ [], .slice none 0 0 => true
  | .nilf, .nilFunc => true
  | .nili, .nilIface => true
  | .func f [], .func (.func f') a c => f == f' && a.size == 0 && c.size == 0
  | .nilm, .map none => true
  | _, _ => false
def fm : List D → List Value → Bool
  | [], [] => true
  | d :: l, v :: r => gu d v && fm l r
  | _, _ => false
def fK : List Int → List D → Bool
  | [], [] => true
  | n :: l, .int .u8 m :: r => n == m && fK l r
  | _, _ => false
def aY : AX → Operand → Bool
  | .t n, .tmp m => n == m
  | .c d, .const v => gu d v
  | .c (.func f []), .func f' => f == f'
  | .c (.cptr k (.agg ds) 0), .global g => k == some ds.length && Glob.tab.any fun p => p.1 == g && fK p.2 ds
  | _, _ => false
def bM : List AX → List Operand → Bool
  | [], [] => true
  | x :: l, y :: r => aY x y && bM l r
  | _, _ => false
def cP : Option AX → Option Operand → Bool
  | none, none => true
  | some x, some y => aY x y
  | _, _ => false
def dh (P : Program) (t : TypeId) (zero : List D) : Bool :=
  match P.info? t with
  | some i => match i.zero with
    | some z => fm zero z.cells.toList
    | none => false
  | none => false
def fL (P : Program) (fs : Array Field) : List (Nat × Nat × AX) → List (Nat × Operand) → Bool
  | [], [] => true
  | (off, size, x) :: l, (i, y) :: r => (match fs[i]? with
      | some f => f.offset == off && P.cellsOf f.type == size && (P.info? f.type).isSome
      | none => false) && aY x y && fL P fs l r
  | _, _ => false
def fM (sz : Nat) : List (Nat × Nat × AX) → List (Nat × Operand) → Bool
  | [], [] => true
  | (off, size, x) :: l, (i, y) :: r => off == i * sz && size == sz && aY x y && fM sz l r
  | _, _ => false
def ep : Nat → List AX → List (Nat × Operand) → Bool
  | _, [], [] => true
  | j, x :: l, (i, y) :: r => i == j && aY x y && ep (j + 1) l r
  | _, _, _ => false
def e7 (P : Program) (ok : TypeId → Bool) : List Field → Nat → Bool
  | [], _ => true
  | f :: l, off => f.name != "_" && f.offset == off && ok f.type && e7 P ok l (off + P.cellsOf f.type)
def cY (P : Program) : List Field → Nat → Nat
  | [], off => off
  | f :: l, off => cY P l (off + P.cellsOf f.type)
def bK (P : Program) : Nat → TypeId → Bool
  | 0, _ => false
  | d + 1, t => match P.underlying t with
    | some .bool | some (.int _) | some .string => P.cellsOf t == 1
    | some (.struct fs) => !P.stoodInHeld t && 0 < P.cellsOf t && e7 P (bK P d) fs.toList 0 && cY P fs.toList 0 == P.cellsOf t
    | some (.array n e) => 0 < P.cellsOf t && bK P d e && P.cellsOf t == n * P.cellsOf e
    | _ => false
def cq (P : Program) : Nat → TypeId → List Ck
  | 0, _ => []
  | d + 1, t => match P.underlying t with
    | some .bool => [.bool]
    | some (.int _) => [.int]
    | some .string => [.str]
    | some (.struct fs) => fs.toList.flatMap fun f => cq P d f.type
    | some (.array n e) => (List.replicate n (cq P d e)).flatten
    | _ => []
def dD (P : Program) (t : TypeId) : Bool := match P.underlying t with
  | some .string => true
  | _ => false
def gv (P : Program) (t : TypeId) : Bool := match P.underlying t with
  | some (.int .u8) => true
  | _ => false
def jf (P : Program) (t : TypeId) (z : D) : Bool := match P.info? t with
  | some i => (match i.zero, z with
    | some (.agg cs), .agg ds => fm ds cs.toList
    | some v, z => gu z v
    | none, _ => false)
  | none => false
def dX (P : Program) (t : TypeId) : Option MK := match P.underlying t with
  | some .bool => some (.one .bool)
  | some (.int _) => some (.one .int)
  | some .string => some (.one .str)
  | some (.struct _) => if bK P 2 t then some (.st (cq P 2 t)) else none
  | some (.array _ _) => if bK P 2 t then some (.st (cq P 2 t)) else none
  | _ => none
def eu (P : Program) : aM → Op → Bool
  | .mov x, .move y => aY x y
  | .mov x, .assign y => aY x y
  | .pick c a b, .pick c' a' b' => aY c c' && aY a a' && aY b b'
  | .alloc zero, .alloc t => dh P t zero && zero.all D.one
  | .box k x _, .box t y => aY x y && bp P t == some k
  | .build zero parts, .build t ps => dh P t zero && (match P.underlying t with
      | some (.struct fs) => fs.toList.all (fun f => (P.info? f.type).isSome) && fL P fs parts ps.toList
      | some (.array _ e) => (P.info? e).isSome && fM (P.cellsOf e) parts ps.toList
      | _ => false)
  | .load k x, .load t y => aY x y && bp P t == some k
  | .ldI k x, .load t y => aY x y && bp P t == some k
  | .store k a x, .store t b y => aY a b && aY x y && bp P t == some k
  | .nilchk x, .nilCheck y => aY x y
  | .un op x, .unOp op' _ y => op == op' && aY x y
  | .mkfunc f caps, .makeFunc (.func f') first captured => f == f' && first.size == 0 && bM caps captured.toList
  | .faddr off x, .fieldAddr s y f => aY x y && (match P.underlying s with
      | some (.struct fs) => (match fs[f]? with
        | some fl => fl.offset == off && P.cellsOf fl.type != 0 && (P.info? fl.type).isSome
        | none => false)
      | _ => false)
  | .fld off k x, .field s y f => aY x y && (match P.underlying s with
      | some (.struct fs) => (match fs[f]? with
        | some fl => fl.offset == off && bp P fl.type == some k
        | none => false)
      | _ => false)
  | .iaddr k x i, .indexAddr t y j => aY x y && aY i j && (match P.underlying t with
      | some (.slice e) => bp P e == some k
      | _ => false)
  | .iaddrA n k x i, .indexAddr t y j => aY x y && aY i j && (match P.underlying t with
      | some (.array n' e) => n == n' && bp P e == some k
      | _ => false)
  | .idxA n k x i, .index t y j => aY x y && aY i j && (match P.underlying t with
      | some (.array n' e) => n == n' && bp P e == some k
      | _ => false)
  | .idxS x i, .index t y j => aY x y && aY i j && dD P t
  | .extract x i, .extract y j => aY x y && i == j
  | .slc k x lo hi, .slice t y l h m => aY x y && cP lo l && cP hi h && m.isNone && (match P.underlying t with
      | some (.slice e) => bp P e == some k
      | _ => false)
  | .sstr x lo hi, .slice t y l h m => aY x y && cP lo l && cP hi h && m.isNone && dD P t
  | .slcA n k x lo hi, .slice t y l h m => aY x y && cP lo l && cP hi h && m.isNone && (match P.underlying t with
      | some (.array n' e) => n == n' && decide (n ≤ 65536) && bp P e == some k
      | _ => false)
  | .convI k x, .convert s t y => aY x y && (P.underlying s).isSome && (match P.underlying t with
      | some (.int k') => k == k'
      | _ => false)
  | .convS x, .convert s t y => aY x y && dD P s && dD P t
  | .s2b x _, .convert s t y => aY x y && dD P s && (match P.underlying t with
      | some (.slice e) => gv P e && bp P e == some none
      | _ => false)
  | .b2s x, .convert s t y => aY x y && dD P t && (match P.underlying s with
      | some (.slice e) => gv P e && bp P e == some none
      | _ => false)
  | .bslice k parts _, .buildSlice t len ps => parts.length == len && len * ah k ≤ 65536 && ep 0 parts ps.toList && (match P.underlying t with
      | some (.slice e) => bp P e == some k && (match P.info? e with
        | some i => (match i.zero with
          | some z => z.cells.size == ah k
          | none => false)
        | none => false)
      | _ => false)
  | .bsliceV k parts _, .buildSlice t len ps => parts.length == len && len * ah k ≤ 65536 && ep 0 parts ps.toList && (match P.underlying t with
      | some (.slice e) => bp P e == some k && (match P.info? e with
        | some i => (match i.zero with
          | some z => z.cells.size == ah k
          | none => false)
        | none => false)
      | _ => false)
  | .bsliceI k parts, .buildSlice t len ps => parts.length == len && len * ah k ≤ 65536 && ep 0 parts ps.toList && (match P.underlying t with
      | some (.slice e) => bp P e == some k && (match P.info? e with
        | some i => (match i.zero with
          | some z => z.cells.size == ah k
          | none => false)
        | none => false)
      | _ => false)
  | .mkslice k zero l c, .makeSlice t l' c' => aY l l' && aY c c' && (match P.underlying t with
      | some (.slice e) => bp P e == some k && dh P e zero.cells && zero.shape k && zero.cells.all D.one && P.bytesOf e ≤ 4096
      | _ => false)
  | .mkslF k zero l c, .makeSlice t l' c' => aY l l' && aY c c' && (match P.underlying t with
      | some (.slice e) => bp P e == some k && dh P e zero.cells && zero.shape k && zero.cells.all D.one && P.bytesOf e ≤ 4096
      | _ => false)
  | .mkslD k zero l c, .makeSlice t l' c' => aY l l' && aY c c' && (match P.underlying t with
      | some (.slice e) => bp P e == some k && dh P e zero.cells && zero.shape k && zero.cells.all D.one && P.bytesOf e ≤ 4096
      | _ => false)
  | .nop, .call c => (match c.callee with
      | .builtin .cap => true
      | .builtin .copy => true
      | .builtin .append => true
      | _ => false)
  | .mkslV zero l c, .makeSlice t l' c' => aY l l' && aY c c' && (match P.underlying t with
      | some (.slice e) => bp P e == some none && dh P e [zero] && zero.one && P.bytesOf e ≤ 4096
      | _ => false)
  | .bin op x y, .binOp op' _ x' y' _ => op == op' && aY x x' && aY y y'
  | .eqB neg x y, .binOp op t x' y' _ => (op == if neg then .neq else .eql) && aY x x' && aY y y' && (match P.underlying t with
      | some .bool => true
      | _ => false)
  | .eqN neg q x y, .binOp op t x' y' _ => (op == if neg then .neq else .eql) && aY x x' && aY y y' && (match P.underlying t with
      | some (.pointer _) => q == 0
      | some (.slice _) => q == 1
      | some (.func ..) => q == 2
      | _ => false)
  | .eqS neg ks x y, .binOp op t x' y' _ => (op == if neg then .neq else .eql) && aY x x' && aY y y' && bK P 8 t && cq P 8 t == ks && !P.eqGuardType P.depth t && (match P.underlying t with
      | some (.struct _) | some (.array ..) => true
      | _ => false)
  | .len x, .call c => (match c.callee with
      | .builtin .len => c.args.size == 1 && c.argTypes.size == 1 && bM [x] c.args.toList && (match (c.argTypes[0]?).bind P.underlying with
        | some (.slice _) => true
        | _ => false)
      | _ => false)
  | .slen x, .call c => (match c.callee with
      | .builtin .len => c.args.size == 1 && c.argTypes.size == 1 && bM [x] c.args.toList && (match (c.argTypes[0]?).bind P.underlying with
        | some .string => true
        | _ => false)
      | _ => false)
  | .lenA n, .call c => (match c.callee with
      | .builtin .len => decide (n ≤ 65536) && c.args.size == 1 && c.argTypes.size == 1 && (match (c.argTypes[0]?).bind P.underlying with
        | some (.array m _) => m == n
        | some (.pointer e) => (match P.underlying e with
          | some (.array m _) => m == n
          | _ => false)
        | _ => false)
      | _ => false)
  | .min2 x y, .call c => (match c.callee with
      | .builtin .min => bM [x, y] c.args.toList
      | _ => false)
  | .max2 x y, .call c => (match c.callee with
      | .builtin .max => bM [x, y] c.args.toList
      | _ => false)
  | .append k x y _, .call c => (match c.callee with
      | .builtin .append => bM [x, y] c.args.toList && c.argTypes.size == 2 && (match (c.argTypes[0]?).bind P.underlying, (c.argTypes[1]?).bind P.underlying with
        | some (.slice e), some u => (match u with | .slice _ | .string => true | _ => false) && bp P e == some k && P.bytesOf e ≤ 4096 && (match P.info? e with
            | some i => (match i.zero with
              | some z => z.cells.size == ah k
              | none => false)
            | none => false)
        | _, _ => false)
      | _ => false)
  | .appendC k x y _, .call c => (match c.callee with
      | .builtin .append => bM [x, y] c.args.toList && c.argTypes.size == 2 && (match (c.argTypes[0]?).bind P.underlying, (c.argTypes[1]?).bind P.underlying with
        | some (.slice e), some u => (match u with | .slice _ | .string => true | _ => false) && bp P e == some k && P.bytesOf e ≤ 4096 && (match P.info? e with
            | some i => (match i.zero with
              | some z => z.cells.size == ah k
              | none => false)
            | none => false)
        | _, _ => false)
      | _ => false)
  | .clear k zero x, .call c => (match c.callee with
      | .builtin .clear => bM [x] c.args.toList && c.argTypes.size == 1 && (match (c.argTypes[0]?).bind P.underlying with
        | some (.slice el) => bp P el == some k && dh P el zero && zero.all D.one && zero.length == ah k
        | _ => false)
      | _ => false)
  | .mkmap, .makeMap t r => r.isNone && (match P.underlying t with
      | some (.map _ _) => true
      | _ => false)
  | .mget q z ok x i, .lookup t y j ok' => ok == ok' && aY x y && aY i j && (match P.underlying t with
      | some (.map kt et) => dX P kt == some q && jf P et z
      | _ => false)
  | .mset q x i u, .mapUpdate t y j v => aY x y && aY i j && aY u v && (match P.underlying t with
      | some (.map kt _) => dX P kt == some q
      | _ => false)
  | .mlen x, .call c => (match c.callee with
      | .builtin .len => c.args.size == 1 && c.argTypes.size == 1 && bM [x] c.args.toList && (match (c.argTypes[0]?).bind P.underlying with
        | some (.map _ _) => true
        | _ => false)
      | _ => false)
  | .call _ f xs, .call c => (match c.callee with
      | .value (.func f') => f == f' && bM xs c.args.toList
      | _ => false)
  | .callv _ x xs, .call c => (match c.callee with
      | .value y => aY x y && bM xs c.args.toList
      | _ => false)
  | _, _ => false
def gw (ops : Array Oper) : Option (Nat × Bool) → Option (Nat × Bool) → Bool
  | none, none => true
  | some (s, b), some (j, b') => b == b' && (match ops[j]? with
      | some o => o.dst == some s
      | none => false)
  | _, _ => false
def fN (P : Program) (N : Nat) (ops : Array Oper) (i : aQ) (o : Oper) : Bool :=
  i.dst == o.dst && (match i.dst with
    | some d => decide (d < N)
    | none => true) && gw ops i.guard o.guard && eu P i.op o.op
def cZ (P : Program) (N : Nat) (ops : Array Oper) : List aQ → List Oper → Bool
  | [], [] => true
  | i :: l, o :: r => fN P N ops i o && cZ P N ops l r
  | _, _ => false
def AX.tmps : AX → List Nat
  | .t n => [n]
  | .c _ => []
def aM.reads : aM → List Nat
  | .mov x | .box _ x _ | .load _ x | .ldI _ x | .nilchk x | .un _ x | .convI _ x | .convS x | .s2b x _ | .b2s x | .faddr _ x | .fld _ _ x | .len x | .slen x | .extract x _ | .clear _ _ x | .mlen x => x.tmps
  | .pick a b c => a.tmps ++ b.tmps ++ c.tmps
  | .alloc _ | .lenA _ | .mkmap | .nop => []
  | .mget _ _ _ x i => x.tmps ++ i.tmps
  | .mset _ x i u => x.tmps ++ i.tmps ++ u.tmps
  | .build _ parts => parts.flatMap fun p => p.2.2.tmps
  | .bslice _ parts _ | .bsliceV _ parts _ | .bsliceI _ parts => parts.flatMap AX.tmps
  | .store _ a x | .bin _ a x | .eqB _ a x | .eqN _ _ a x | .eqS _ _ a x | .mkslice _ _ a x | .mkslF _ _ a x | .mkslV _ a x | .mkslD _ _ a x | .iaddr _ a x | .iaddrA _ _ a x | .idxA _ _ a x | .idxS a x | .min2 a x | .max2 a x | .append _ a x _ | .appendC _ a x _ => a.tmps ++ x.tmps
  | .mkfunc _ caps => caps.flatMap AX.tmps
  | .slc _ x lo hi | .sstr x lo hi | .slcA _ _ x lo hi => x.tmps ++ (lo.map AX.tmps).getD [] ++ (hi.map AX.tmps).getD []
  | .call _ _ xs => xs.flatMap AX.tmps
  | .callv _ x xs => x.tmps ++ xs.flatMap AX.tmps
def aM.cls : aM → Nat
  | .mget .. | .mlen .. | .load .. | .iaddr .. | .b2s .. | .slc .. | .call false .. | .callv false .. => 1
  | .mkmap | .alloc .. | .bslice .. | .mkslice .. | .mkslF .. | .mkslV .. | .s2b .. => 2
  | .box _ _ imm => if imm then 0 else 2
  | .mset .. | .store .. | .append .. | .bsliceV .. | .appendC .. | .clear .. | .call true .. | .callv true .. => 3
  | _ => 0
def aM.callish : aM → Bool
  | .call true .. | .callv true .. => true
  | _ => false
def aQ.reads (i : aQ) : List Nat := (i.guard.map (·.1)).toList ++ i.op.reads
def fO (i j : aQ) : Bool :=
  (match i.dst with
    | some d => !j.reads.contains d && j.dst != some d
    | none => true) &&
  (match j.dst with
    | some d => !i.reads.contains d
    | none => true) &&
  !(i.op.cls == 3 && j.op.cls != 0) && !(j.op.cls == 3 && i.op.cls != 0)
def jg (o : Oper) (i : Nat) : Bool := o.after.any fun e => Region.binds .any e && e.on == i
def jh (ops : Array Oper) : Bool :=
  (List.range ops.size).all fun j => match ops[j]? with
    | some o => o.after.all fun e => !Region.binds .any e || decide (e.on < j)
    | none => true
def im (ops : Array Oper) : Nat → Nat → Nat → Bool
  | 0, _, _ => false
  | k + 1, j, i => match ops[j]? with
    | some o => o.after.any fun e => Region.binds .any e && (e.on == i || (decide (i < e.on) && im ops k e.on i))
    | none => false
def io (l : List aQ) (ops : Array Oper) : Bool :=
  jh ops &&
  (List.range ops.size).all fun j => (List.range j).all fun i =>
    match l[i]?, l[j]?, ops[j]? with
    | some a, some b, some o => jg o i || fO a b || im ops 6 j i
    | _, _, _ => false
def e8 (i j : aQ) : Bool :=
  (match i.dst with
    | some d => !j.reads.contains d && j.dst != some d
    | none => true) &&
  (match j.dst with
    | some d => !i.reads.contains d
    | none => true)
def kc (pairs : List (Nat × Nat)) (l : List aQ) (ops : Array Oper) : Bool :=
  jh ops &&
  (List.range ops.size).all fun j => (List.range j).all fun i =>
    match l[i]?, l[j]?, ops[j]? with
    | some a, some b, some o => jg o i || (e8 a b && (a.op.cls == 0 || b.op.cls == 0 || (a.op.cls == 1 && b.op.cls == 1) || pairs.contains (i, j))) || im ops 6 j i
    | _, _, _ => false
def pb (N t G : Nat) (ops : Array Oper) : Bool :=
  match ops.toList with
  | [o1, o2] => o1.guard.isNone && o2.guard.isNone && (o1.dst == some t) && decide (t < N) && o2.dst.isNone && Glob.dfr.contains G &&
    (match o1.op with | .makeFunc (.func g) first _ => g == G && first.size == 0 | _ => false) &&
    (match o2.op with | .defer c => (match c.callee with | .value (.tmp q) => q == t | _ => false) && c.args.size == 0 | _ => false)
  | _ => false
def ct (P : Program) (N : Nat) : bk → Code → Bool
  | .ghost _ a, c => ct P N a c
  | .any, _ => true
  | .skip, .skip => true
  | .ops draw l, .region _ ops draw' => draw == draw' && cZ P N ops l ops.toList && (!draw || (io l ops && P.follows .mixedOrders))
  | .opsS pairs l, .region _ ops draw' => draw' && cZ P N ops l ops.toList && kc pairs l ops && P.follows .mixedOrders
  | .seq a b, .seq c d => ct P N a c && ct P N b d
  | .cond x a b, .cond y c d => aY x y && ct P N a c && ct P N b d
  | .block i a, .block i' c => i == i' && ct P N a c
  | .loop a, .loop c => ct P N a c
  | .exit i, .exit j => i == j
  | .ret, .ret => true
  | .dfr t G, .region _ ops draw => !draw && pb N t G ops
  | _, _ => false
end Go.AM
