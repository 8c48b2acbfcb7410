import Derived.Orders
import Derived.Below
set_option linter.unusedVariables false
set_option linter.unusedSectionVars false
namespace Go.AM
open Go Go.RowKit
theorem uz {α : Type _} {l : List α} {i : Nat} {a : α} : l[i]? = some a ↔ ∃ h : i < l.length, l[i] = a := List.getElem?_eq_some_iff
theorem bt {α : Type _} {l : List α} {i : Nat} (h : i < l.length) : l[i]? = some l[i] := List.getElem?_eq_getElem h
theorem dx {α : Type _} {l : List α} {i : Nat} {a : α} (h : l[i]? = some a) : a ∈ l := List.mem_of_getElem? h
theorem aH {α : Type _} {a b : α} (h : some a = some b) : a = b := Option.some.inj h
theorem hU (k : IntKind) (n : Int) : k.wrap (k.wrap n) = k.wrap n := by
  cases k <;> simp [IntKind.wrap, IntKind.bits, IntKind.signed] <;> (try split) <;> omega
theorem hX (k : IntKind) (n : Int) : k.wrap n = n ↔ k.min ≤ n ∧ n ≤ k.max := by
  cases k <;> simp [IntKind.wrap, IntKind.bits, IntKind.signed, IntKind.min, IntKind.max] <;> (try split) <;> omega
theorem hZ {m : Nat} (h : m ≤ maxLen) : IntKind.i64.wrap (m : Int) = m := by
  have : m ≤ 9223372036854775807 := h
  simp [IntKind.wrap, IntKind.bits, IntKind.signed]; omega
theorem lT (b : UInt8) : IntKind.u8.wrap (b.toNat : Int) = b.toNat := by
  have := b.toNat_lt
  simp [IntKind.wrap, IntKind.bits, IntKind.signed]; omega
theorem o8 {k : IntKind} {a b : Int} (h : k.wrap a = a) : k.wrap (a.tmod b) = a.tmod b := by
  rw [hX] at h ⊢
  have h1 : (a.tmod b).natAbs ≤ a.natAbs := by
    rw [Int.natAbs_tmod]; exact Nat.mod_le _ _
  have h2 : 0 ≤ a → 0 ≤ a.tmod b := fun h => Int.tmod_nonneg b h
  have h3 : a ≤ 0 → a.tmod b ≤ 0 := fun h => by
    have := Int.tmod_nonneg (a := -a) b (by omega)
    rw [Int.neg_tmod] at this; omega
  generalize a.tmod b = q at *
  cases k <;> simp [IntKind.min, IntKind.max, IntKind.bits, IntKind.signed] at h ⊢ <;> omega
theorem o9 {k : IntKind} {a : Int} {m : Nat} (h : k.wrap a = a) : k.wrap (a.fdiv (2 ^ m)) = a.fdiv (2 ^ m) := by
  rw [hX] at h ⊢
  rw [Int.fdiv_eq_ediv_of_nonneg _ (Int.le_of_lt (Int.pow_pos (by omega)))]
  have hp : (0:Int) < 2 ^ m := Int.pow_pos (by omega)
  have h1 : 0 ≤ a → 0 ≤ a / 2 ^ m ∧ a / 2 ^ m ≤ a := fun h => ⟨Int.ediv_nonneg h (by omega), Int.ediv_le_self _ h⟩
  have h2 : a < 0 → a ≤ a / 2 ^ m ∧ a / 2 ^ m < 0 := fun h => ⟨by
    rw [Int.le_ediv_iff_mul_le hp]
    have : a * 2 ^ m ≤ a * 1 := Int.mul_le_mul_of_nonpos_left (by omega) (by omega)
    omega, Int.ediv_neg_of_neg_of_pos h hp⟩
  generalize a / 2 ^ m = q at *
  rcases Int.lt_or_le a 0 with g | g
  · have := h2 g
    cases k <;> simp [IntKind.min, IntKind.max, IntKind.bits, IntKind.signed] at h ⊢ <;> omega
  · have := h1 g
    cases k <;> simp [IntKind.min, IntKind.max, IntKind.bits, IntKind.signed] at h ⊢ <;> omega
inductive D where
  | undef
  | int (k : IntKind) (n : Int)
  | bool (b : Bool)
  | str (s : ByteArray)
  | agg (cs : List D)
  | tup (ds : List D)
  | nils
  | vec (k : Option Nat) (vs : List D)
  | nilp
  | cptr (k : Option Nat) (d : D) (j : Nat)
  | nilf
  | func (f : Nat) (cap : List D)
  | nili
  | iface (t : Nat) (d : D)
  | nilm
  deriving Inhabited
def ah (k : Option Nat) : Nat := k.getD 1
@[simp] theorem lU : ah none = 1 := rfl
@[simp] theorem uA (n : Nat) : ah (some n) = n := rfl
def D.cells : D → List D
  | .agg cs => cs
  | d => [d]
def D.shape (k : Option Nat) : D → Bool
  | .agg cs => k == some cs.length
  | .tup _ => false
  | .undef => false
  | _ => k == none
def D.one : D → Bool
  | .agg _ => false
  | .tup _ => false
  | .undef => false
  | _ => true
inductive V where
  | d (x : D)
  | loc (id off len : Nat)
  | ptr (id i j : Nat)
  | agg (cs : List V)
  | tup (vs : List V)
  | func (f : Nat) (cap : List V)
  | iface (t : Nat) (v : V)
  | mapr (id : Nat)
  | mref (id : Nat)
  deriving Inhabited
def V.undef : V := .d .undef
inductive aK where
  | lst (m : Bool) (k : Option Nat) (els : List D)
  | var (cs : List V)
  | mp (es : List (D × D))
inductive aJ where
  | nil
  | at (b : Nat) (k : Option Nat)
abbrev au := Nat → Option aK
def aj {α : Type} (f : Nat → α) (i : Nat) (x : α) : Nat → α := fun j => if j = i then x else f j
theorem aL {α : Type} (f : Nat → α) (i : Nat) (x : α) : aj f i x i = x := by simp [aj]
theorem aG {α : Type} (f : Nat → α) {i j : Nat} (x : α) (h : j ≠ i) : aj f i x j = f j := by simp [aj, h]
structure S where
  T : Nat → V
  σ : au
  n : Nat
inductive DRel (own : Nat → Nat → Prop) (w : World) : D → Value → Prop
  | undef (v) : DRel own w .undef v
  | int (k : IntKind) (n : Int) : k.wrap n = n → DRel own w (.int k n) (.int k n)
  | bool (b) : DRel own w (.bool b) (.bool b)
  | str (s : ByteArray) : s.size ≤ maxLen → DRel own w (.str s) (.string s)
  | agg (ds : List D) (cs : Array Value) : ds.length = cs.size → (∀ (i : Nat) d v, ds[i]? = some d → cs[i]? = some v → DRel own w d v) → DRel own w (.agg ds) (.agg cs)
  | tup (ds : List D) (cs : Array Value) : ds.length = cs.size → (∀ (i : Nat) d v, ds[i]? = some d → cs[i]? = some v → DRel own w d v) → DRel own w (.tup ds) (.tuple cs)
  | nils : DRel own w .nils (.slice none 0 0)
  | vecn (k) (a : Option Addr) : DRel own w (.vec k []) (.slice a 0 0)
  | vec (k : Option Nat) (vs : List D) (b off cap : Nat) (f : Nat → Nat → Value) : (vs.length ≤ cap ∧ cap ≤ maxLen) →
      (∀ (i : Nat) d, vs[i]? = some d → d.shape k = true) →
      (∀ (i : Nat) d (j : Nat) x, vs[i]? = some d → d.cells[j]? = some x → w.cell? ⟨b, off + i * ah k + j, none⟩ = some (f i j)) →
      (∀ (i : Nat) d (j : Nat) x, vs[i]? = some d → d.cells[j]? = some x → ¬ own b (off + i * ah k + j)) →
      (∀ (i : Nat) d (j : Nat) x, vs[i]? = some d → d.cells[j]? = some x → DRel own w x (f i j)) →
      (∀ (i : Nat) d (j : Nat) x, vs[i]? = some d → d.cells[j]? = some x → (f i j).oneCell' = true) →
      DRel own w (.vec k vs) (.slice (some ⟨b, off, none⟩) vs.length cap)
  | nilp : DRel own w .nilp (.pointer none)
  | cptr (k : Option Nat) (d : D) (j b off : Nat) (f : Nat → Value) : d.shape k = true →
      (∀ (i : Nat) x, d.cells[i]? = some x → w.cell? ⟨b, off + i, none⟩ = some (f i)) →
      (∀ (i : Nat) x, d.cells[i]? = some x → ¬ own b (off + i)) →
      (∀ (i : Nat) x, d.cells[i]? = some x → DRel own w x (f i)) →
      (∀ (i : Nat) x, d.cells[i]? = some x → (f i).oneCell' = true) →
      DRel own w (.cptr k d j) (.pointer (some ⟨b, off + j, none⟩))
  | nilf : DRel own w .nilf .nilFunc
  | func (f : Nat) (cap : List D) (c : Array Value) : cap.length = c.size → (∀ (i : Nat) d v, cap[i]? = some d → c[i]? = some v → DRel own w d v) → DRel own w (.func f cap) (.func (.func f) #[] c)
  | nili : DRel own w .nili .nilIface
  | iface (t d v) : DRel own w d v → DRel own w (.iface t d) (.iface t v)
  | nilm : DRel own w .nilm (.map none)
theorem DRel.mono {own own' : Nat → Nat → Prop} {w w' : World}
    (h : ∀ b o v, w.cell? ⟨b, o, none⟩ = some v → ¬ own b o → w'.cell? ⟨b, o, none⟩ = some v ∧ ¬ own' b o) {d : D} {v : Value} (hd : DRel own w d v) : DRel own' w' d v := by
  induction hd with
  | undef v => exact .undef v
  | int k n hr => exact .int k n hr
  | bool b => exact .bool b
  | str s hr => exact .str s hr
  | agg ds cs hl _ ih => exact .agg ds cs hl ih
  | tup ds cs hl _ ih => exact .tup ds cs hl ih
  | nils => exact .nils
  | vecn k a => exact .vecn k a
  | vec k vs b off cap f hc hs h1 h2 _ h4 ih =>
    exact .vec k vs b off cap f hc hs (fun i d j x hi hj => (h _ _ _ (h1 i d j x hi hj) (h2 i d j x hi hj)).1) (fun i d j x hi hj => (h _ _ _ (h1 i d j x hi hj) (h2 i d j x hi hj)).2) ih h4
  | nilp => exact .nilp
  | cptr k d j b off f hs h1 h2 _ h4 ih =>
    exact .cptr k d j b off f hs (fun i x hi => (h _ _ _ (h1 i x hi) (h2 i x hi)).1) (fun i x hi => (h _ _ _ (h1 i x hi) (h2 i x hi)).2) ih h4
  | nilf => exact .nilf
  | func f cap c hl _ ih => exact .func f cap c hl ih
  | nili => exact .nili
  | iface t d v _ ih => exact .iface t d v ih
  | nilm => exact .nilm
def eK (w : World) (b n : Nat) : Prop := ∃ c ty fr, w.heap[b]? = some (.cells c ty fr) ∧ n ≤ c.size
inductive aw (μ : Nat → Option aJ) (own : Nat → Nat → Prop) (w : World) : V → Value → Prop
  | d (x v) : DRel own w x v → aw μ own w (.d x) v
  | loc0 (id off) (a : Option Addr) : μ id ≠ none → aw μ own w (.loc id off 0) (.slice a 0 0)
  | loc (id off len b k cap) : μ id = some (.at b k) → len ≤ cap → cap ≤ maxLen → eK w b ((off + cap) * ah k) → aw μ own w (.loc id off len) (.slice (some ⟨b, off * ah k, none⟩) len cap)
  | ptr (id i j b k) : μ id = some (.at b k) → aw μ own w (.ptr id i j) (.pointer (some ⟨b, i * ah k + j, none⟩))
  | agg (vs : List V) (cs : Array Value) : vs.length = cs.size → (∀ (i : Nat) x v, vs[i]? = some x → cs[i]? = some v → aw μ own w x v) → aw μ own w (.agg vs) (.agg cs)
  | tup (vs : List V) (cs : Array Value) : vs.length = cs.size → (∀ (i : Nat) x v, vs[i]? = some x → cs[i]? = some v → aw μ own w x v) → aw μ own w (.tup vs) (.tuple cs)
  | func (f : Nat) (cap : List V) (c : Array Value) : cap.length = c.size → (∀ (i : Nat) x v, cap[i]? = some x → c[i]? = some v → aw μ own w x v) → aw μ own w (.func f cap) (.func (.func f) #[] c)
  | iface (t x v) : aw μ own w x v → aw μ own w (.iface t x) (.iface t v)
  | nne (id : Nat) (a : Addr) (c : Nat) : (∀ k, DRel own w (.vec k []) (.slice (some a) 0 c)) → aw μ own w (.mapr id) (.slice (some a) 0 c)
  | mref (id b k) : μ id = some (.at b k) → aw μ own w (.mref id) (.map (some b))
theorem aw.mono {μ μ' : Nat → Option aJ} {own own' : Nat → Nat → Prop} {w w' : World}
    (h : ∀ b o v, w.cell? ⟨b, o, none⟩ = some v → ¬ own b o → w'.cell? ⟨b, o, none⟩ = some v ∧ ¬ own' b o) (hm : ∀ id p, μ id = some p → μ' id = some p)
    (hf : ∀ b n, eK w b n → eK w' b n) {x : V} {v : Value} (hv : aw μ own w x v) : aw μ' own' w' x v := by
  induction hv with
  | d x v hd => exact .d x v (hd.mono h)
  | loc0 id off a h1 => exact .loc0 id off a (fun h => by
      cases hq : μ id with
      | none => exact h1 hq
      | some p => rw [hm id p hq] at h; cases h)
  | loc id off len b k cap h1 h2 h3 h4 => exact .loc id off len b k cap (hm _ _ h1) h2 h3 (hf _ _ h4)
  | ptr id i j b k h1 => exact .ptr id i j b k (hm _ _ h1)
  | agg vs cs hl _ ih => exact .agg vs cs hl ih
  | tup vs cs hl _ ih => exact .tup vs cs hl ih
  | func f cap c hl _ ih => exact .func f cap c hl ih
  | iface t x v _ ih => exact .iface t x v ih
  | nne id a c h1 => exact .nne id a c fun k => (h1 k).mono h
  | mref id b k h1 => exact .mref id b k (hm _ _ h1)
def aK.ownsAt : aK → Option aJ → Nat → Nat → Prop
  | .lst true _ _, some (.at b0 _), b, _ => b = b0
  | .lst false _ els, some (.at b0 k), b, o => b = b0 ∧ els.length * ah k ≤ o
  | .var _, some (.at b0 _), b, _ => b = b0
  | .mp _, some (.at b0 _), b, _ => b = b0
  | _, _, _, _ => False
def bJ (μ : Nat → Option aJ) (σ : au) (b o : Nat) : Prop := ∃ id blk, σ id = some blk ∧ blk.ownsAt (μ id) b o
def dy (μ : Nat → Option aJ) (σ : au) (b : Nat) : Prop := ∃ id blk k, σ id = some blk ∧ μ id = some (.at b k)
theorem gp {μ : Nat → Option aJ} {σ : au} {b o : Nat} (h : bJ μ σ b o) : dy μ σ b := by
  obtain ⟨id, blk, h1, h2⟩ := h
  unfold aK.ownsAt at h2
  split at h2
  · subst h2; exact ⟨id, _, _, h1, by assumption⟩
  · obtain ⟨rfl, _⟩ := h2; exact ⟨id, _, _, h1, by assumption⟩
  · subst h2; exact ⟨id, _, _, h1, by assumption⟩
  · subst h2; exact ⟨id, _, _, h1, by assumption⟩
  · exact h2.elim
def ak (A : Nat → Nat → Prop) (μ : Nat → Option aJ) (σ : au) : Nat → Nat → Prop := fun b o => bJ μ σ b o ∨ A b o
def fH (c : Array Value) (fr : Nat × Nat) : Prop := fr.1 = fr.2 ∨ c.size ≤ fr.1
def bD (O : Nat → Nat → Prop) (μ : Nat → Option aJ) (w : World) (id : Nat) : aK → Prop
  | .lst _ k els => (μ id = some .nil ∧ els = []) ∨
      ∃ b c ty fr, μ id = some (.at b k) ∧ w.heap[b]? = some (.cells c ty fr) ∧ fH c fr ∧ els.length * ah k ≤ c.size ∧
        ∀ (i : Nat) d, els[i]? = some d → d.shape k = true ∧ ∀ (j : Nat) x, d.cells[j]? = some x → ∃ v, c[i * ah k + j]? = some v ∧ v.oneCell' = true ∧ DRel O w x v
  | .var cs => ∃ b c ty fr, μ id = some (.at b none) ∧ w.heap[b]? = some (.cells c ty fr) ∧ fH c fr ∧ cs.length = c.size ∧
        ∀ (i : Nat) x v, cs[i]? = some x → c[i]? = some v → v.oneCell' = true ∧ aw μ O w x v
  | .mp es => ∃ b c clk, μ id = some (.at b none) ∧ w.heap[b]? = some (.map c clk) ∧ es.length = c.size ∧
        ∀ (i : Nat) p e, es[i]? = some p → c[i]? = some e → DRel O w p.1 e.key ∧ DRel O w p.2 e.val
class Glob where
  tab : List (Nat × List Int)
  dfr : List Nat := []
  base : List Deferred := []
instance (priority := low) noGlob : Glob := ⟨[], [], []⟩
variable [Glob]
def ic (own : Nat → Nat → Prop) (w : World) : Prop := ∀ g l, (g, l) ∈ Glob.tab → ∀ (i : Nat) n, l[i]? = some n → w.cell? ⟨g, i, none⟩ = some (.int .u8 n) ∧ ¬ own g i ∧ IntKind.u8.wrap n = n
theorem ic.mono {own own' : Nat → Nat → Prop} {w w' : World} (h : ∀ b o v, w.cell? ⟨b, o, none⟩ = some v → ¬ own b o → w'.cell? ⟨b, o, none⟩ = some v ∧ ¬ own' b o) (hg : ic own w) : ic own' w' := by
  intro g l hm i n hi
  obtain ⟨h1, h2, h3⟩ := hg g l hm i n hi
  obtain ⟨k1, k2⟩ := h _ _ _ h1 h2
  exact ⟨k1, k2, h3⟩
structure aB (A : Nat → Nat → Prop) (μ : Nat → Option aJ) (σ : au) (w : World) : Prop where
  blks : ∀ id blk, σ id = some blk → bD (ak A μ σ) μ w id blk
  inj : ∀ id id' x y b k k', σ id = some x → σ id' = some y → μ id = some (.at b k) → μ id' = some (.at b k') → id = id'
  amb : ∀ id x b k, σ id = some x → μ id = some (.at b k) → ∀ o, ¬ A b o
  alt : ∀ b o, A b o → b < w.heap.size
  glob : ic (ak A μ σ) w
structure aA (μ : Nat → Option aJ) (σ : au) (w : World) (μ' : Nat → Option aJ) (σ' : au) (w' : World) : Prop where
  os : w'.os = w.os
  tape : w'.tape = w.tape
  output : w'.output = w.output
  size : w.heap.size ≤ w'.heap.size
  block : ∀ b, b < w.heap.size → ¬ dy μ σ b → w'.heap[b]? = w.heap[b]?
  cells : ∀ b c ty fr, w.heap[b]? = some (.cells c ty fr) → ∃ c', w'.heap[b]? = some (.cells c' ty fr) ∧ c'.size = c.size ∧ ∀ (o : Nat), ¬ bJ μ σ b o → c'[o]? = c[o]?
  own : ∀ b o, bJ μ' σ' b o → bJ μ σ b o ∨ w.heap.size ≤ b
  ownB : ∀ b, dy μ' σ' b → dy μ σ b ∨ w.heap.size ≤ b
  grow : ∀ id p, μ id = some p → μ' id = some p
theorem aA.refl (μ : Nat → Option aJ) (σ : au) (w : World) : aA μ σ w μ σ w :=
  ⟨rfl, rfl, rfl, Nat.le_refl _, fun _ _ _ => rfl, fun _ c _ _ h => ⟨c, h, rfl, fun _ _ => rfl⟩, fun _ _ h => .inl h, fun _ h => .inl h, fun _ _ h => h⟩
theorem b5 {w : World} {b : Nat} {o : Obj} (h : w.heap[b]? = some o) : b < w.heap.size := (Array.getElem?_eq_some_iff.1 h).1
theorem aA.trans {μ μ' μ'' : Nat → Option aJ} {σ σ' σ'' : au} {w w' w'' : World} (h : aA μ σ w μ' σ' w') (k : aA μ' σ' w' μ'' σ'' w'') : aA μ σ w μ'' σ'' w'' where
  os := k.os.trans h.os
  tape := k.tape.trans h.tape
  output := k.output.trans h.output
  size := Nat.le_trans h.size k.size
  block b hb hn := (k.block b (Nat.lt_of_lt_of_le hb h.size) (fun ho => (h.ownB b ho).elim hn (by omega))).trans (h.block b hb hn)
  cells b c ty fr hc := by
    obtain ⟨c1, h1, h2, h3⟩ := h.cells b c ty fr hc
    obtain ⟨c2, k1, k2, k3⟩ := k.cells b c1 ty fr h1
    refine ⟨c2, k1, k2.trans h2, fun o ho => (k3 o (fun h' => (h.own b o h').elim ho (fun hh => ?_))).trans (h3 o ho)⟩
    have := b5 hc
    omega
  own b o ho := (k.own b o ho).elim (fun h1 => h.own b o h1) (fun h1 => .inr (Nat.le_trans h.size h1))
  ownB b ho := (k.ownB b ho).elim (fun h1 => h.ownB b h1) (fun h1 => .inr (Nat.le_trans h.size h1))
  grow id p hp := k.grow id p (h.grow id p hp)
theorem fj {w : World} {b o : Nat} {v : Value} (h : w.cell? ⟨b, o, none⟩ = some v) : ∃ c ty fr, w.heap[b]? = some (.cells c ty fr) ∧ c[o]? = some v := by
  unfold World.cell? at h
  split at h
  · rename_i c ty fr hb
    exact ⟨c, ty, fr, hb, by simpa using h⟩
  · simp at h
theorem cD {w : World} {b o : Nat} {c : Array Value} {ty : TypeId} {fr : Nat × Nat} (h : w.heap[b]? = some (.cells c ty fr)) : w.cell? ⟨b, o, none⟩ = c[o]? := by
  simp [World.cell?, h]
section
variable {A : Nat → Nat → Prop} {μ μ' : Nat → Option aJ} {σ σ' : au} {w w' : World}
theorem aA.keepCell (g : aA μ σ w μ' σ' w') (alt : ∀ b o, A b o → b < w.heap.size) (b o : Nat) (v : Value) (h : w.cell? ⟨b, o, none⟩ = some v) (hn : ¬ ak A μ σ b o) :
    w'.cell? ⟨b, o, none⟩ = some v ∧ ¬ ak A μ' σ' b o := by
  obtain ⟨c, ty, fr, hb, hc⟩ := fj h
  obtain ⟨c', h1, _, h3⟩ := g.cells b c ty fr hb
  have hn1 : ¬ bJ μ σ b o := fun h' => hn (.inl h')
  refine ⟨by rw [cD h1, h3 o hn1]; exact hc, fun h' => ?_⟩
  rcases h' with h' | h'
  · rcases g.own b o h' with h2 | h2
    · exact hn1 h2
    · have := b5 hb; omega
  · exact hn (.inr h')
theorem aA.keepFits (g : aA μ σ w μ' σ' w') (b n : Nat) (h : eK w b n) : eK w' b n := by
  obtain ⟨c, ty, fr, hb, hn⟩ := h
  obtain ⟨c', h1, h2, _⟩ := g.cells b c ty fr hb
  exact ⟨c', ty, fr, h1, by omega⟩
theorem aA.keepD (g : aA μ σ w μ' σ' w') (alt : ∀ b o, A b o → b < w.heap.size) {x : D} {v : Value} (h : DRel (ak A μ σ) w x v) : DRel (ak A μ' σ') w' x v :=
  h.mono (g.keepCell alt)
theorem aA.keepV (g : aA μ σ w μ' σ' w') (alt : ∀ b o, A b o → b < w.heap.size) {x : V} {v : Value} (h : aw μ (ak A μ σ) w x v) : aw μ' (ak A μ' σ') w' x v :=
  h.mono (g.keepCell alt) g.grow g.keepFits
end
end Go.AM
