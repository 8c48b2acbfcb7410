import Derived.Test.YtjdaaclkihjjnaaAmOps10
/-
  AM, part 15: bytes of strings, strings of bytes.
-/
set_option linter.unusedVariables false
set_option linter.unusedSimpArgs false
namespace Go.AM
open Go Go.RowKit

section
variable {P : Program} {A : Nat → Nat → Prop} {μ : Nat → Option Place} {σ σ' : Store} {w : World} {o : Oper} {a : Act} {v : V} {n n' : Nat} {e : AX → V}

theorem isU8_under {t : TypeId} (h : isU8 P t = true) : P.underlying t = some (.int .u8) := by
  unfold isU8 at h; split at h <;> first | assumption | cases h

theorem freeze_alloc (w : World) (c : Array Value) (ty : TypeId) : (w.alloc (.cells c ty)).freeze ⟨w.heap.size, c.size, none⟩ 1 = w.alloc (.cells c ty (c.size, c.size + 1)) := by
  cases w with
  | mk heap tape drawn os output =>
    simp only [World.alloc, World.freeze]
    rw [if_neg (by omega)]
    congr 1
    apply Array.ext (by simp)
    intro i hi hi'
    simp only [Array.getElem_modify, Array.getElem_push]
    by_cases h : i < heap.size
    · simp [h]
      intro hq
      omega
    · have : i = heap.size := by simp at hi; omega
      subst this
      simp

theorem ok_s2b {x : AX} {y : Operand} {s t el : TypeId} {b : ByteArray} {m : Bool} (ho : o.op = .convert s t y) (hsu : isStr P s = true) (ht : P.underlying t = some (.slice el)) (hu8 : isU8 P el = true) (hk : tyk P el = some none)
    (he : VRel μ (full A μ σ) w (e x) (a.eval y)) (hx : e x = .d (.str b)) (hlim : b.size ≤ lim) (hs : StoreSim A μ σ w) (hn : μ n = none) :
    OpGood P A μ σ w o a (.loc n 0 b.size) (upd σ n (some (.lst m none (bytesD b)))) n (n + 1) := by
  rw [hx] at he
  have hx' := vstr he
  have hl : (bytesD b).length = b.size := by simp [bytesD]
  have hge := grownCap_ge w b.size 0 el
  have hcm := grownCap_le_maxLen w b.size 0 el (by simp only [maxLen]; simp [lim] at hlim; omega)
  generalize hcap : grownCap w b.size 0 el = cap at hge hcm
  have hcap' : (Question.appendCap b.size 0 el).cut (w.tape w.drawn (.appendCap b.size 0 el)) = cap := hcap
  have hsz : ((b.data.map fun (b : UInt8) => Value.int .u8 (b.toNat : Int)) ++ Array.replicate (cap - b.size) (Value.int .u8 0)).size = cap := by
    have : b.data.size = b.size := rfl
    simp [this]; omega
  have hrun : (execOp a.eval o).run P w = .ok (.value (.slice (some ⟨w.heap.size, 0, none⟩) b.size cap)) (w.drew.alloc (.cells ((b.data.map fun (b : UInt8) => Value.int .u8 (b.toNat : Int)) ++ Array.replicate (cap - b.size) (Value.int .u8 0)) el
      (cap, cap + 1))) := by
    have hfz := freeze_alloc w.drew ((b.data.map fun (b : UInt8) => Value.int .u8 (b.toNat : Int)) ++ Array.replicate (cap - b.size) (Value.int .u8 0)) el
    rw [hsz] at hfz
    simp only [execOp, ho, hx', convert, Sem.run_bind, run_under (isStr_under hsu), run_under ht, Result.andThen_ok, run_under (isU8_under hu8), Conv.stringToBytes, run_choose, Question.forced, Bool.false_eq_true, if_false, hcap', newRow, run_newObj, World.drew_eq, World.alloc_eq, Sem.run_pure]
    have hshape : (w.drew.alloc (.cells ((b.data.map fun (b : UInt8) => Value.int .u8 (b.toNat : Int)) ++ Array.replicate (cap - b.size) (Value.int .u8 0)) el)).shape? w.heap.size = some (el, cap) := by
      have := heap_alloc_new w.drew (.cells ((b.data.map fun (b : UInt8) => Value.int .u8 (b.toNat : Int)) ++ Array.replicate (cap - b.size) (Value.int .u8 0)) el)
      simp only [World.size_drew] at this
      simp only [World.shape?, this, hsz]
    simp only [World.size_drew] at hfz ⊢
    simp [markStringish, hshape, hfz]
  have := OpGood.newList (P := P) (A := A) (μ := μ) (σ := σ) (w := w) (o := o) (a := a) (n := n) (d := w.drawn + 1) (k := none) (els := bytesD b) (ty := el) (cap := cap) hs hn m (by simp) (cap, cap + 1) (.inr (by rw [hsz]; exact Nat.le_refl _))
    (by rw [hl]; exact hrun) (by omega) hcm (by rw [hsz]; simp) (by
      intro i d hd
      obtain ⟨r1, r2, r3⟩ := bytesD_row (w := w) (O := full A μ σ) b
      obtain ⟨s1, s2⟩ := r3 i d hd
      refine ⟨s1, fun j x hx => ?_⟩
      obtain ⟨v, hv, h1, h2⟩ := s2 j x hx
      refine ⟨v, ?_, h1, h2⟩
      have hlt := (List.getElem?_eq_some_iff.1 hv).1
      rw [Array.getElem?_append_left (by simpa using hlt)]
      simpa using hv)
  rw [hl] at this
  exact this

theorem strOf_spec : ∀ {l : List D} {bs : List UInt8}, optAll (l.map byteOfD) = some bs → ∃ ns : List Int, l = ns.map (D.int .u8) ∧ bs = ns.map fun n => UInt8.ofNat n.toNat
  | [], bs, h => by simp at h; subst h; exact ⟨[], rfl, rfl⟩
  | d :: l, bs, h => by
    simp only [List.map_cons] at h
    cases hd : byteOfD d with
    | none => rw [hd] at h; simp at h
    | some q =>
      rw [hd] at h
      simp only [optAll_cons] at h
      cases hr : optAll (l.map byteOfD) with
      | none => rw [hr] at h; simp at h
      | some r =>
        rw [hr] at h
        simp at h
        subst h
        obtain ⟨ns, rfl, rfl⟩ := strOf_spec hr
        unfold byteOfD at hd
        split at hd
        · rename_i n; cases hd; exact ⟨n :: ns, rfl, rfl⟩
        · cases hd

theorem elems_len {O : Nat → Nat → Prop} {x : V} {u : Value} {l : List D} (h : VRel μ O w x u) (hl : elemsOf σ x = some l) : l.length ≤ maxLen := by
  unfold elemsOf at hl
  split at hl
  · cases hl; exact Nat.zero_le _
  · cases hl
    cases h with | d _ _ hd => cases hd with
      | vecn => exact Nat.zero_le _
      | vec _ _ _ _ _ _ hc => exact Nat.le_trans hc.1 hc.2
  · split at hl
    · split at hl
      · cases hl
        refine Nat.le_trans (List.length_take_le _ _) ?_
        cases h with
        | loc0 => exact Nat.zero_le _
        | loc _ _ _ _ _ _ _ h1 h2 => exact Nat.le_trans h1 h2
      · cases hl
    · cases hl
  · cases hl

theorem ok_b2s {x : AX} {y : Operand} {s t el : TypeId} {l : List D} {b : ByteArray} (ho : o.op = .convert s t y) (htu : isStr P t = true) (hs' : P.underlying s = some (.slice el)) (hu8 : isU8 P el = true)
    (he : VRel μ (full A μ σ) w (e x) (a.eval y)) (hx : (e x = .d .nils ∧ l = []) ∨ (kindOf σ (e x) = some none ∧ elemsOf σ (e x) = some l)) (hb : strOf l = some b) (hs : StoreSim A μ σ w) :
    OpGood P A μ σ w o a (.d (.str b)) σ n n := by
  obtain ⟨p, c, news, hu, hrow, hread⟩ := slice_src (P := P) (k := none) (by simp) hs he hx
  unfold strOf at hb
  cases hbs : optAll (l.map byteOfD) with
  | none => rw [hbs] at hb; simp at hb
  | some bs =>
    rw [hbs] at hb
    simp at hb
    subst hb
    obtain ⟨ns, rfl, rfl⟩ := strOf_spec hbs
    have hnews : news = ns.map (Value.int .u8) := by
      apply List.ext_getElem?
      intro i
      cases hi : ns[i]? with
      | none =>
        have h1 : ns.length ≤ i := List.getElem?_eq_none_iff.1 hi
        rw [List.getElem?_eq_none (by rw [hrow.1]; simpa using h1), List.getElem?_eq_none (by simpa using h1)]
      | some q =>
        obtain ⟨_, h2⟩ := hrow.2.2 i (.int .u8 q) (by simp [hi])
        obtain ⟨v, hv, _, hr⟩ := h2 0 (.int .u8 q) (by simp [D.cells])
        cases hr
        simp at hv
        simp [hv, hi]
    have hlen : ns.length ≤ maxLen := by
      rcases hx with ⟨_, h0⟩ | ⟨_, h0⟩
      · simp at h0; subst h0; exact Nat.zero_le _
      · simpa using elems_len he h0
    refine .val hs (cv := .string ⟨(ns.map fun n => UInt8.ofNat n.toNat).toArray⟩) ?_ (.d _ _ (.str _ (by simpa [ByteArray.size] using hlen)))
    have hrd := hread w.drawn
    have hrd' : (Builtin.firstCells (stride none) (ns.map (D.int .u8)).length (a.eval y)).run P w = .ok news.toArray w := hrd
    rw [hu] at hrd'
    have hloop : ∀ (g : Value → ByteArray → Sem (ForInStep ByteArray)), (∀ q acc, (g (.int .u8 q) acc).run P w = .ok (.yield (acc.push (UInt8.ofNat q.toNat))) w) → ∀ (ns : List Int) (acc : ByteArray),
        ((forIn (ns.map (Value.int .u8)) acc g) : Sem ByteArray).run P w = .ok ⟨acc.data ++ (ns.map fun n => UInt8.ofNat n.toNat).toArray⟩ w := by
      intro g hg ns
      induction ns with
      | nil => intro acc; simp
      | cons q ns ih =>
        intro acc
        simp only [List.map_cons, List.forIn_cons, Sem.run_bind, hg, Result.andThen_ok, ih]
        congr 2
        apply Array.ext'
        simp
    simp only [execOp, ho, convert, Sem.run_bind, run_under hs', run_under (isStr_under htu), Result.andThen_ok, hu, run_under (isU8_under hu8)]
    cases p with
    | none =>
      simp [Builtin.firstCells] at hrd'
      have : ns = [] := by
        rw [hnews] at hrd'
        simpa using hrd'
      subst this
      simp [Conv.bytesToString]
      rfl
    | some ad =>
      simp only [Builtin.firstCells, stride_none, Nat.mul_one] at hrd'
      simp only [Conv.bytesToString, Sem.run_bind, hrd', Result.andThen_ok]
      rw [hnews, List.forIn_toArray, hloop _ (fun q acc => by simp) ns ByteArray.empty]
      simp

end
end Go.AM
