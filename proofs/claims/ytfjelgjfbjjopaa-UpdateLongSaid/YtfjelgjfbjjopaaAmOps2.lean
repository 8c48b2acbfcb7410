import Derived.Test.YtfjelgjfbjjopaaAmStore
import Derived.Laws.Cells
import Derived.Laws.Rows
/-  Several texts in one. -/
section
set_option linter.unusedVariables false
set_option linter.unusedSectionVars false
set_option linter.unusedSimpArgs false
namespace Go.AM
open Go Go.RowKit
variable [Glob]
def cx (μ : Nat → Option aJ) (O : Nat → Nat → Prop) (w : World) (e : AX → V) (a : Act) : Prop := ∀ x y, aY x y = true → aw μ O w (e x) (a.eval y)
def aZ (P : Program) (A : Nat → Nat → Prop) (μ : Nat → Option aJ) (σ : au) (w : World) (o : Oper) (a : Act) (v : V) (σ' : au) (n n' : Nat) : Prop :=
  ∃ nx cv w' μ', (execOp a.eval o).run P w = .ok nx w' ∧ (nx = .value cv ∨ (nx = .skip ∧ cv = Go.undef)) ∧ aw μ' (ak A μ' σ') w' v cv ∧ aB A μ' σ' w' ∧
    aA μ σ w μ' σ' w' ∧ ∀ id, μ' id ≠ none → μ id ≠ none ∨ (n ≤ id ∧ id < n')
section
variable {P : Program} {A : Nat → Nat → Prop} {μ : Nat → Option aJ} {σ σ' : au} {w : World} {o : Oper} {a : Act} {v : V} {n n' : Nat}
theorem aZ.val (hs : aB A μ σ w) {cv : Value} (hr : (execOp a.eval o).run P w = .ok (.value cv) w) (hv : aw μ (ak A μ σ) w v cv) : aZ P A μ σ w o a v σ n n :=
  ⟨_, cv, w, μ, hr, .inl rfl, hv, hs, aA.refl _ _ _, fun id h => .inl h⟩
theorem lW {t : TypeId} {d : TypeDesc} (h : P.underlying t = some d) : ∃ i, P.info? t = some i := by
  unfold Program.underlying at h
  cases hi : P.info? t with
  | none => simp [hi] at h
  | some i => exact ⟨i, rfl⟩
theorem fP {t : TypeId} {i : TypeInfo} (h : P.info? t = some i) : (sizeOf t).run P w = .ok (P.cellsOf t) w := by
  simp [sizeOf, typeInfo, Program.cellsOf, h]
theorem bf {t : TypeId} {d : TypeDesc} (h : P.underlying t = some d) : (underlying t).run P w = .ok d w := by
  simp [underlying, h]
theorem cH {t : TypeId} {k : Option Nat} (h : bp P t = some k) : (isAgg t).run P w = .ok k.isSome w ∧ (sizeOf t).run P w = .ok (ah k) w ∧ P.cellsOf t = ah k ∧ (∃ i, P.info? t = some i) ∧ 0 < ah k := by
  unfold bp at h
  cases hu : P.underlying t with
  | none => simp [hu] at h
  | some d =>
    obtain ⟨i, hi⟩ := lW hu
    have hsz := fP (w := w) hi
    rw [hu] at h
    cases d <;> simp only [reduceCtorEq] at h
    all_goals
      split at h
      · rename_i hc
        cases h
        refine ⟨by simp [isAgg, bf hu], ?_, ?_, ⟨i, hi⟩, ?_⟩
        · rw [hsz]; simp [ah]; try omega
        · simp [ah]; try omega
        · simp [ah]; try omega
      · cases h
theorem pe {k : Option Nat} {d : D} (h : d.shape k = true) : cI d.cells 0 k = some d := by
  cases d <;> simp [D.shape] at h <;> subst h <;> simp [D.cells, cI]
theorem jk {own : Nat → Nat → Prop} {t : TypeId} {k : Option Nat} (ht : bp P t = some k) (cs : List D) (b off j : Nat) (f : Nat → Value)
    (hc : ∀ (i : Nat) x, cs[i]? = some x → w.cell? ⟨b, off + i, none⟩ = some (f i)) (hr : ∀ (i : Nat) x, cs[i]? = some x → DRel own w x (f i)) {x : D} (hx : cI cs j k = some x) :
    ∃ v, (loadVar t ⟨b, off + j, none⟩).run P w = .ok v w ∧ DRel own w x v := by
  obtain ⟨h1, h2, _⟩ := cH (w := w) ht
  cases k with
  | none =>
    refine ⟨f j, ?_, hr j x hx⟩
    simp [loadVar, h1, hc j x hx]
  | some m =>
    simp only [cI] at hx
    split at hx
    · rename_i hm
      cases hx
      have hload := run_loadCells (P := P) w ⟨b, off + j, none⟩ m (fun i => f (j + i)) (fun i hi => by
        rw [Addr.add_lit, Nat.add_assoc]
        have : j + i < cs.length := by omega
        exact hc (j + i) cs[j + i] (by simp [this]))
      refine ⟨.agg ((List.range m).map fun i => f (j + i)).toArray, by simp [loadVar, h1, h2, hload], .agg _ _ (by simp; omega) fun i d v hd hv => ?_⟩
      have hi : i < m := by
        have := (List.getElem?_eq_some_iff.1 hd).1
        simp at this; omega
      have e1 : cs[j + i]? = some d := by
        rw [List.getElem?_take, if_pos hi, List.getElem?_drop] at hd
        exact hd
      have e2 : v = f (j + i) := by
        simp [hi] at hv
        exact hv.symm
      rw [e2]
      exact hr (j + i) d e1
    · cases hx
theorem lX {O : Nat → Nat → Prop} {t : TypeId} {k : Option Nat} (ht : bp P t = some k) (cs : List V) (b j : Nat) (c : Array Value) (hsz : cs.length = c.size)
    (hc : ∀ o, w.cell? ⟨b, o, none⟩ = c[o]?) (hr : ∀ (i : Nat) x v, cs[i]? = some x → c[i]? = some v → aw μ O w x v) {x : V} (hx : dz cs j k = some x) :
    ∃ v, (loadVar t ⟨b, j, none⟩).run P w = .ok v w ∧ aw μ O w x v := by
  obtain ⟨h1, h2, _⟩ := cH (w := w) ht
  cases k with
  | none =>
    simp only [dz] at hx
    have hj : j < c.size := by have := (List.getElem?_eq_some_iff.1 hx).1; omega
    refine ⟨c[j], ?_, hr j x _ hx (by simp [hj])⟩
    simp [loadVar, h1, hc j, hj]
  | some m =>
    simp only [dz] at hx
    split at hx
    · rename_i hm
      cases hx
      have hload := run_loadCells (P := P) w ⟨b, j, none⟩ m (fun i => c.getD (j + i) Go.undef) (fun i hi => by
        rw [Addr.add_lit, hc]
        have : j + i < c.size := by omega
        simp [this])
      refine ⟨.agg ((List.range m).map fun i => c.getD (j + i) Go.undef).toArray, by simp [loadVar, h1, h2, hload], ji (by simp; omega) fun i y v hy hv => ?_⟩
      have hi : i < m := by
        have := (List.getElem?_eq_some_iff.1 hy).1
        simp at this; omega
      have e1 : cs[j + i]? = some y := by
        rw [List.getElem?_take, if_pos hi, List.getElem?_drop] at hy
        exact hy
      have hlt : j + i < c.size := by omega
      have e2 : v = c[j + i] := by
        simp [hi, hlt] at hv
        exact hv.symm
      rw [e2]
      exact hr (j + i) y _ e1 (by simp [hlt])
    · cases hx
theorem jl {kb k : Option Nat} {d x : D} {j : Nat} (hs : d.shape kb = true) (h : eo kb d j k = some x) : cI d.cells j k = some x := by
  unfold eo at h
  split at h
  · rename_i hc
    obtain ⟨rfl, rfl⟩ := hc
    cases h
    exact pe hs
  · split at h
    · exact h
    · cases h
theorem lY {k : Option Nat} {x : AX} {t : TypeId} {y : Operand} {e : AX → V} (ho : o.op = .load t y) (ht : bp P t = some k) (he : aw μ (ak A μ σ) w (e x) (a.eval y))
    (hs : aB A μ σ w) (hv : bU σ k (e x) = some v) : aZ P A μ σ w o a v σ n n := by
  unfold bU at hv
  split at hv
  · rename_i kb d j heq
    rw [heq] at he
    cases he with
    | d _ _ hd =>
      cases hl : eo kb d j k with
      | none => simp [hl] at hv
      | some z =>
        simp [hl] at hv
        subst hv
        generalize hav : a.eval y = av at hd
        cases hd with
        | cptr _ _ _ b off f hsh h1 h2 h3 h4 =>
          obtain ⟨u, hu, hru⟩ := jk (P := P) (own := ak A μ σ) ht d.cells b off j f h1 h3 (jl hsh hl)
          exact .val hs (cv := u) (by simp [execOp, ho, hav, Instr.loadAt, Instr.sureAddr, hu]) (.d _ _ hru)
  · rename_i id i j heq
    rw [heq] at he
    generalize hav : a.eval y = av at he
    cases he with
    | ptr _ _ _ b kp hp =>
      split at hv
      · rename_i m kb els hid
        split at hv
        · rename_i d hd
          cases hl : eo kb d j k with
          | none => simp [hl] at hv
          | some z =>
            simp [hl] at hv
            subst hv
            have hb := hs.blks id _ hid
            rcases hb with ⟨h1, _⟩ | ⟨b', c, ty, fr, h1, h2, h3, h4, h5⟩
            · simp [h1] at hp
            · rw [h1] at hp
              cases hp
              obtain ⟨hsh, hcs⟩ := h5 i d hd
              obtain ⟨u, hu, hru⟩ := jk (P := P) (own := ak A μ σ) (w := w) ht d.cells b (i * ah kp) j (fun j => c.getD (i * ah kp + j) Go.undef)
                (fun j x hx => by obtain ⟨v, hv, _⟩ := hcs j x hx; rw [cD h2]; simp [hv])
                (fun j x hx => by obtain ⟨v, hv, _, hr⟩ := hcs j x hx; simpa [hv] using hr) (jl hsh hl)
              exact .val hs (cv := u) (by simp [execOp, ho, hav, Instr.loadAt, Instr.sureAddr, hu]) (.d _ _ hru)
        · cases hv
      · rename_i cs hid
        have hb := hs.blks id _ hid
        obtain ⟨b', c, ty, fr, h1, h2, h3, h4, h5⟩ := hb
        rw [h1] at hp
        cases hp
        obtain ⟨u, hu, hru⟩ := lX (P := P) (O := ak A μ σ) ht cs b (i + j) c h4 (fun o => cD h2) (fun i x v hx hv => (h5 i x v hx hv).2) hv
        exact .val hs (cv := u) (by simp [execOp, ho, hav, Instr.loadAt, Instr.sureAddr, hu]) hru
      · cases hv
  · cases hv
end
end Go.AM
end
section
set_option linter.unusedVariables false
set_option linter.unusedSectionVars false
set_option linter.unusedSimpArgs false
namespace Go.AM
open Go Go.RowKit
variable [Glob]
section
variable {P : Program} {A : Nat → Nat → Prop} {μ : Nat → Option aJ} {σ σ' : au} {w : World} {o : Oper} {a : Act} {v : V} {n n' : Nat} {e : AX → V}
theorem lZ {x : AX} {y : Operand} (ho : o.op = .move y ∨ o.op = .assign y) (he : aw μ (ak A μ σ) w (e x) (a.eval y)) (hs : aB A μ σ w) :
    aZ P A μ σ w o a (e x) σ n n :=
  .val hs (by rcases ho with ho | ho <;> simp [execOp, ho]) he
theorem fp {O : Nat → Nat → Prop} {b : Bool} {u : Value} (h : aw μ O w (.d (.bool b)) u) : u = .bool b := by
  cases h with | d _ _ h => cases h; rfl
theorem cQ {O : Nat → Nat → Prop} {k : IntKind} {i : Int} {u : Value} (h : aw μ O w (.d (.int k i)) u) : u = .int k i := by
  cases h with | d _ _ h => cases h; rfl
theorem fq {O : Nat → Nat → Prop} {s : ByteArray} {u : Value} (h : aw μ O w (.d (.str s)) u) : u = .string s := by
  cases h with | d _ _ h => cases h; rfl
theorem gy {O : Nat → Nat → Prop} {k : IntKind} {i : Int} {u : Value} (h : aw μ O w (.d (.int k i)) u) : k.wrap i = i := by
  cases h with | d _ _ h => cases h; assumption
theorem kg {O : Nat → Nat → Prop} {s : ByteArray} {u : Value} (h : aw μ O w (.d (.str s)) u) : s.size ≤ maxLen := by
  cases h with | d _ _ h => cases h; assumption
theorem jm {O : Nat → Nat → Prop} {u : Value} (h : aw μ O w (.d .nils) u) : u = .slice none 0 0 := by
  cases h with | d _ _ h => cases h; rfl
theorem pf {c x y : AX} {c' x' y' : Operand} (ho : o.op = .pick c' x' y') (hc : aw μ (ak A μ σ) w (e c) (a.eval c')) (hx : aw μ (ak A μ σ) w (e x) (a.eval x'))
    (hy : aw μ (ak A μ σ) w (e y) (a.eval y')) (hs : aB A μ σ w) {t : Bool} (ht : e c = .d (.bool t)) : aZ P A μ σ w o a (if t then e x else e y) σ n n := by
  rw [ht] at hc
  have := fp hc
  refine .val hs (cv := if t then a.eval x' else a.eval y') (by simp [execOp, ho, this, asBool]) ?_
  cases t <;> simpa
theorem gz {t : TypeId} {zero : List D} (h : dh P t zero = true) : ∃ i z, P.info? t = some i ∧ i.zero = some z ∧ fm zero z.cells.toList = true := by
  unfold dh at h
  cases hi : P.info? t with
  | none => simp [hi] at h
  | some i =>
    cases hz : i.zero with
    | none => simp [hi, hz] at h
    | some z => exact ⟨i, z, rfl, hz, by simpa [hi, hz] using h⟩
theorem ew {t : TypeId} {i : TypeInfo} {z : Value} (hi : P.info? t = some i) (hz : i.zero = some z) : (zeroValue t).run P w = .ok z w := by
  simp [zeroValue, typeInfo, hi, hz]
theorem aZ.newVar (hs : aB A μ σ w) (hn : μ n = none) {cs : List V} {c : Array Value} {ty : TypeId}
    (hr : (execOp a.eval o).run P w = .ok (.value (.pointer (some ⟨w.heap.size, 0, none⟩))) (w.alloc (.cells c ty)))
    (hl : cs.length = c.size) (hc : ∀ (i : Nat) x v, cs[i]? = some x → c[i]? = some v → v.oneCell' = true ∧ aw μ (ak A μ σ) w x v) :
    aZ P A μ σ w o a (.ptr n 0 0) (aj σ n (some (.var cs))) n (n + 1) := by
  have g := aA.alloc hs hn (.var cs) none (.cells c ty)
  refine ⟨_, _, _, aj μ n (some (.at w.heap.size none)), hr, .inl rfl, ?_, aB.alloc hs hn _ none _ ⟨w.heap.size, c, ty, (0, 0), aL _ _ _, heap_alloc_new w _, .inl rfl, hl, fun i x v hx hv => ⟨(hc i x v hx hv).1, g.keepV hs.alt (hc i x v hx hv).2⟩⟩, g, fun id h => ?_⟩
  · have := aw.ptr (μ := aj μ n (some (.at w.heap.size none))) (own := ak A (aj μ n (some (.at w.heap.size none))) (aj σ n (some (.var cs)))) (w := w.alloc (.cells c ty)) n 0 0 w.heap.size none (aL _ _ _)
    simpa using this
  · by_cases e : id = n
    · exact .inr (by omega)
    · rw [aG _ _ e] at h; exact .inl h
theorem pg {zero : List D} {t : TypeId} (ho : o.op = .alloc t) (hz : dh P t zero = true) (h1 : zero.all D.one = true) (hs : aB A μ σ w) (hn : μ n = none) :
    aZ P A μ σ w o a (.ptr n 0 0) (aj σ n (some (.var (zero.map V.d)))) n (n + 1) := by
  obtain ⟨i, z, hi, hz1, hz2⟩ := gz hz
  obtain ⟨hl, hr⟩ := fo (own := ak A μ σ) (w := w) hz2
  refine .newVar hs hn (c := z.cells) (ty := t) ?_ (by simpa using hl) fun j x v hx hv => ?_
  · simp [execOp, ho, Instr.alloc, ew hi hz1, Go.newVar, newRow]
  · simp only [List.getElem?_map] at hx
    cases hd : zero[j]? with
    | none => simp [hd] at hx
    | some d =>
      simp [hd] at hx; subst hx
      have hdr := hr j d v hd (by simpa using hv)
      exact ⟨hdr.one (by simpa using (List.all_eq_true.1 h1) d (dx hd)), .d _ _ hdr⟩
theorem ph {x : AX} {y : Operand} {t : TypeId} (ho : o.op = .box t y) (he : aw μ (ak A μ σ) w (e x) (a.eval y)) (h1 : (e x).cells.all V.one = true) (hs : aB A μ σ w) (hn : μ n = none) :
    aZ P A μ σ w o a (.ptr n 0 0) (aj σ n (some (.var (e x).cells))) n (n + 1) := by
  obtain ⟨hl, hr⟩ := he.cells h1
  exact .newVar hs hn (c := (a.eval y).cells) (ty := t) (by simp [execOp, ho, Instr.box, Go.newVar, newRow]) hl.symm fun i x v hx hv => ⟨(hr i x v hx hv).2, (hr i x v hx hv).1⟩
theorem aA.allocFree (o : Obj) : aA μ σ w μ σ (w.alloc o) where
  os := rfl
  tape := rfl
  output := rfl
  size := by simp
  block b hb _ := heap_alloc_old w o b hb
  cells b c ty fr hc := ⟨c, by rw [heap_alloc_old w o b (b5 hc)]; exact hc, rfl, fun _ _ => rfl⟩
  own _ _ h := .inl h
  ownB _ h := .inl h
  grow _ _ h := h
theorem aB.allocFree (hs : aB A μ σ w) (o : Obj) : aB A μ σ (w.alloc o) where
  blks j blk hj := bD.keep (aA.allocFree o) hs.alt (fun b k hb => by
    obtain ⟨_, hc⟩ := bD.block (hs.blks j blk hj) hb
    exact heap_alloc_old w o b (b5 hc)) (hs.blks j blk hj)
  inj := hs.inj
  amb := hs.amb
  alt b o' h := by have := hs.alt b o' h; simp; omega
  glob := hs.glob.mono ((aA.allocFree o).keepCell hs.alt)
theorem l6 (hs : aB A μ σ w) (x : Nat) : ¬ ak A μ σ w.heap.size x := by
  rintro (⟨id, blk, h1, h2⟩ | h)
  · have hb := gp (o := x) ⟨id, blk, h1, h2⟩
    obtain ⟨j, bl, k, hj, hp⟩ := hb
    obtain ⟨_, hc⟩ := bD.block (hs.blks j bl hj) hp
    have := b5 hc
    omega
  · have := hs.alt _ _ h; omega
theorem pi {k : Option Nat} {x : AX} {y : Operand} {t : TypeId} {d : D} (ho : o.op = .box t y) (he : aw μ (ak A μ σ) w (e x) (a.eval y)) (hx : e x = .d d)
    (hsh : d.shape k = true) (h1 : d.cells.all D.one = true) (hs : aB A μ σ w) : aZ P A μ σ w o a (.d (.cptr k d 0)) σ n n := by
  rw [hx] at he
  have hu : d ≠ .undef := by rintro rfl; simp [D.shape] at hsh
  have g : aA μ σ w μ σ (w.alloc (.cells (a.eval y).cells t)) := aA.allocFree _
  refine ⟨_, .pointer (some ⟨w.heap.size, 0, none⟩), _, μ, by simp [execOp, ho, Instr.box, Go.newVar, newRow], .inl rfl, .d _ _ ?_, hs.allocFree _, g, fun id h => .inl h⟩
  cases he with
  | d _ _ hd =>
    have hsz := hd.cells_size hu
    refine .cptr k d 0 w.heap.size 0 (fun i => (a.eval y).cells.getD i Go.undef) hsh (fun i x hx => ?_) (fun i x hx => l6 hs _) (fun i x hx => ?_) fun i x hx => ?_
    · obtain ⟨c, hc, _⟩ := hd.cells hu i x hx
      simp [hc]
    · obtain ⟨c, hc, hr⟩ := hd.cells hu i x hx
      simpa [hc] using g.keepD hs.alt hr
    · obtain ⟨c, hc, hr⟩ := hd.cells hu i x hx
      simpa [hc] using hr.one ((List.all_eq_true.1 h1) x (dx hx))
theorem jn {x : AX} {y : Operand} (ho : o.op = .nilCheck y) (he : aw μ (ak A μ σ) w (e x) (a.eval y)) (hs : aB A μ σ w)
    (hx : (∃ id i j, e x = .ptr id i j) ∨ (∃ k d j, e x = .d (.cptr k d j)) ∨ (∃ f c, e x = .d (.func f c)) ∨ (∃ f c, e x = .func f c)) : aZ P A μ σ w o a (e x) σ n n := by
  refine .val hs ?_ he
  generalize hu : a.eval y = u at he
  rcases hx with ⟨id, i, j, hx⟩ | ⟨k, d, j, hx⟩ | ⟨f, c, hx⟩ | ⟨f, c, hx⟩ <;> rw [hx] at he
  · cases he; simp [execOp, ho, hu]
  · cases he with | d _ _ hd => cases hd; simp [execOp, ho, hu]
  · cases he with | d _ _ hd => cases hd; simp [execOp, ho, hu]
  · cases he; simp [execOp, ho, hu]
theorem mc {off : Nat} {x : AX} {y : Operand} {s : TypeId} {f : Nat} {fs : Array Field} {fl : Field} (ho : o.op = .fieldAddr s y f) (hu : P.underlying s = some (.struct fs)) (hf : fs[f]? = some fl)
    (hoff : fl.offset = off) (h0 : P.cellsOf fl.type ≠ 0) (hi : (P.info? fl.type).isSome = true) (he : aw μ (ak A μ σ) w (e x) (a.eval y)) (hs : aB A μ σ w)
    (hv : (∃ id i j, e x = .ptr id i j ∧ v = .ptr id i (j + off)) ∨ (∃ k d j, e x = .d (.cptr k d j) ∧ v = .d (.cptr k d (j + off)))) : aZ P A μ σ w o a v σ n n := by
  obtain ⟨i, hi⟩ := Option.isSome_iff_exists.1 hi
  have hsz := fP (w := w) hi
  generalize hav : a.eval y = u at he
  rcases hv with ⟨id, i, j, hx, rfl⟩ | ⟨k, d, j, hx, rfl⟩ <;> rw [hx] at he
  · cases he with
    | ptr _ _ _ b k hp =>
      refine .val hs (cv := .pointer (some ⟨b, i * ah k + j + off, none⟩)) ?_ ?_
      · simp [execOp, ho, hav, Instr.fieldAt, bf hu, hf, Instr.sureAddr, fieldPlace, hsz, h0, Addr.add_lit, hoff]
      · rw [Nat.add_assoc]; exact .ptr _ _ _ b k hp
  · cases he with
    | d _ _ hd =>
      cases hd with
      | cptr _ _ _ b o' g h1 h2 h3 h4 h5 =>
        refine .val hs (cv := .pointer (some ⟨b, o' + j + off, none⟩)) ?_ ?_
        · simp [execOp, ho, hav, Instr.fieldAt, bf hu, hf, Instr.sureAddr, fieldPlace, hsz, h0, Addr.add_lit, hoff]
        · rw [Nat.add_assoc]; exact .d _ _ (.cptr k d (j + off) b o' g h1 h2 h3 h4 h5)
end
end Go.AM
end
