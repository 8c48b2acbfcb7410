import Derived.Test.YtnnkfanmokeiaaaAmOps1
set_option linter.unusedVariables false
set_option linter.unusedSectionVars false
set_option linter.unusedSimpArgs false
namespace Go.AM
open Go Go.RowKit
variable [Glob]
section
variable {P : Program} {A : Nat → Nat → Prop} {μ : Nat → Option bg} {σ σ' : az} {w : World} {o : Oper} {a : Act} {v : V} {n n' : Nat} {e : AX → V}
theorem kP {x : AX} {y : Operand} (ho : o.op = .move y ∨ o.op = .assign y) (he : aD μ (au A μ σ) w (e x) (a.eval y)) (hs : aH A μ σ w) :
    bw P A μ σ w o a (e x) σ n n :=
  .val hs (by rcases ho with ho | ho <;> simp [execOp, ho]) he
theorem fF {O : Nat → Nat → Prop} {b : Bool} {u : Value} (h : aD μ O w (.d (.bool b)) u) : u = .bool b := by
  cases h with | d _ _ h => cases h; rfl
theorem dm {O : Nat → Nat → Prop} {k : IntKind} {i : Int} {u : Value} (h : aD μ O w (.d (.int k i)) u) : u = .int k i := by
  cases h with | d _ _ h => cases h; rfl
theorem fk {O : Nat → Nat → Prop} {s : ByteArray} {u : Value} (h : aD μ O w (.d (.str s)) u) : u = .string s := by
  cases h with | d _ _ h => cases h; rfl
theorem f0 {O : Nat → Nat → Prop} {k : IntKind} {i : Int} {u : Value} (h : aD μ O w (.d (.int k i)) u) : k.wrap i = i := by
  cases h with | d _ _ h => cases h; assumption
theorem i8 {O : Nat → Nat → Prop} {s : ByteArray} {u : Value} (h : aD μ O w (.d (.str s)) u) : s.size ≤ maxLen := by
  cases h with | d _ _ h => cases h; assumption
theorem ig {O : Nat → Nat → Prop} {u : Value} (h : aD μ O w (.d .nils) u) : u = .slice none 0 0 := by
  cases h with | d _ _ h => cases h; rfl
theorem oy {c x y : AX} {c' x' y' : Operand} (ho : o.op = .pick c' x' y') (hc : aD μ (au A μ σ) w (e c) (a.eval c')) (hx : aD μ (au A μ σ) w (e x) (a.eval x'))
    (hy : aD μ (au A μ σ) w (e y) (a.eval y')) (hs : aH A μ σ w) {t : Bool} (ht : e c = .d (.bool t)) : bw P A μ σ w o a (if t then e x else e y) σ n n := by
  rw [ht] at hc
  have := fF hc
  refine .val hs (cv := if t then a.eval x' else a.eval y') (by simp [execOp, ho, this, asBool]) ?_
  cases t <;> simpa
theorem ik {t : TypeId} {zero : List D} (h : ep P t zero = true) : ∃ i z, P.info? t = some i ∧ i.zero = some z ∧ fi zero z.cells.toList = true := by
  unfold ep at h
  cases hi : P.info? t with
  | none => simp [hi] at h
  | some i =>
    cases hz : i.zero with
    | none => simp [hi, hz] at h
    | some z => exact ⟨i, z, rfl, hz, by simpa [hi, hz] using h⟩
theorem e7 {t : TypeId} {i : TypeInfo} {z : Value} (hi : P.info? t = some i) (hz : i.zero = some z) : (zeroValue t).run P w = .ok z w := by
  simp [zeroValue, typeInfo, hi, hz]
theorem bw.newVar (hs : aH A μ σ w) (hn : μ n = none) {cs : List V} {c : Array Value} {ty : TypeId}
    (hr : (execOp a.eval o).run P w = .ok (.value (.pointer (some ⟨w.heap.size, 0, none⟩))) (w.alloc (.cells c ty)))
    (hl : cs.length = c.size) (hc : ∀ (i : Nat) x v, cs[i]? = some x → c[i]? = some v → v.oneCell' = true ∧ aD μ (au A μ σ) w x v) :
    bw P A μ σ w o a (.ptr n 0 0) (ak σ n (some (.var cs))) n (n + 1) := by
  have g := aL.alloc hs hn (.var cs) none (.cells c ty)
  refine ⟨_, _, _, ak μ n (some (.at w.heap.size none)), hr, .inl rfl, ?_, aH.alloc hs hn _ none _ ⟨w.heap.size, c, ty, (0, 0), bb _ _ _, heap_alloc_new w _, .inl rfl, hl, fun i x v hx hv => ⟨(hc i x v hx hv).1, g.keepV hs.alt (hc i x v hx hv).2⟩⟩, g, fun id h => ?_⟩
  · have := aD.ptr (μ := ak μ n (some (.at w.heap.size none))) (own := au A (ak μ n (some (.at w.heap.size none))) (ak σ n (some (.var cs)))) (w := w.alloc (.cells c ty)) n 0 0 w.heap.size none (bb _ _ _)
    simpa using this
  · by_cases e : id = n
    · exact .inr (by omega)
    · rw [aM _ _ e] at h; exact .inl h
theorem oz {zero : List D} {t : TypeId} (ho : o.op = .alloc t) (hz : ep P t zero = true) (h1 : zero.all D.one = true) (hs : aH A μ σ w) (hn : μ n = none) :
    bw P A μ σ w o a (.ptr n 0 0) (ak σ n (some (.var (zero.map V.d)))) n (n + 1) := by
  obtain ⟨i, z, hi, hz1, hz2⟩ := ik hz
  obtain ⟨hl, hr⟩ := fX (own := au A μ σ) (w := w) hz2
  refine .newVar hs hn (c := z.cells) (ty := t) ?_ (by simpa using hl) fun j x v hx hv => ?_
  · simp [execOp, ho, Instr.alloc, e7 hi hz1, Go.newVar, newRow]
  · simp only [List.getElem?_map] at hx
    cases hd : zero[j]? with
    | none => simp [hd] at hx
    | some d =>
      simp [hd] at hx; subst hx
      have hdr := hr j d v hd (by simpa using hv)
      exact ⟨hdr.one (by simpa using (List.all_eq_true.1 h1) d (dW hd)), .d _ _ hdr⟩
theorem oA {x : AX} {y : Operand} {t : TypeId} (ho : o.op = .box t y) (he : aD μ (au A μ σ) w (e x) (a.eval y)) (h1 : (e x).cells.all V.one = true) (hs : aH A μ σ w) (hn : μ n = none) :
    bw P A μ σ w o a (.ptr n 0 0) (ak σ n (some (.var (e x).cells))) n (n + 1) := by
  obtain ⟨hl, hr⟩ := he.cells h1
  exact .newVar hs hn (c := (a.eval y).cells) (ty := t) (by simp [execOp, ho, Instr.box, Go.newVar, newRow]) hl.symm fun i x v hx hv => ⟨(hr i x v hx hv).2, (hr i x v hx hv).1⟩
theorem aL.allocFree (o : Obj) : aL μ σ w μ σ (w.alloc o) where
  os := rfl
  tape := rfl
  output := rfl
  size := by simp
  block b hb _ := heap_alloc_old w o b hb
  cells b c ty fr hc := ⟨c, by rw [heap_alloc_old w o b (cV hc)]; exact hc, rfl, fun _ _ => rfl⟩
  own _ _ h := .inl h
  ownB _ h := .inl h
  grow _ _ h := h
theorem aH.allocFree (hs : aH A μ σ w) (o : Obj) : aH A μ σ (w.alloc o) where
  blks j blk hj := bZ.keep (aL.allocFree o) hs.alt (fun b k hb => by
    obtain ⟨_, hc⟩ := bZ.block (hs.blks j blk hj) hb
    exact heap_alloc_old w o b (cV hc)) (hs.blks j blk hj)
  inj := hs.inj
  amb := hs.amb
  alt b o' h := by have := hs.alt b o' h; simp; omega
  glob := hs.glob.mono ((aL.allocFree o).keepCell hs.alt)
theorem kQ (hs : aH A μ σ w) (x : Nat) : ¬ au A μ σ w.heap.size x := by
  rintro (⟨id, blk, h1, h2⟩ | h)
  · have hb := gz (o := x) ⟨id, blk, h1, h2⟩
    obtain ⟨j, bl, k, hj, hp⟩ := hb
    obtain ⟨_, hc⟩ := bZ.block (hs.blks j bl hj) hp
    have := cV hc
    omega
  · have := hs.alt _ _ h; omega
theorem oB {k : Option Nat} {x : AX} {y : Operand} {t : TypeId} {d : D} (ho : o.op = .box t y) (he : aD μ (au A μ σ) w (e x) (a.eval y)) (hx : e x = .d d)
    (hsh : d.shape k = true) (h1 : d.cells.all D.one = true) (hs : aH A μ σ w) : bw P A μ σ w o a (.d (.cptr k d 0)) σ n n := by
  rw [hx] at he
  have hu : d ≠ .undef := by rintro rfl; simp [D.shape] at hsh
  have g : aL μ σ w μ σ (w.alloc (.cells (a.eval y).cells t)) := aL.allocFree _
  refine ⟨_, .pointer (some ⟨w.heap.size, 0, none⟩), _, μ, by simp [execOp, ho, Instr.box, Go.newVar, newRow], .inl rfl, .d _ _ ?_, hs.allocFree _, g, fun id h => .inl h⟩
  cases he with
  | d _ _ hd =>
    have hsz := hd.cells_size hu
    refine .cptr k d 0 w.heap.size 0 (fun i => (a.eval y).cells.getD i Go.undef) hsh (fun i x hx => ?_) (fun i x hx => kQ hs _) (fun i x hx => ?_) fun i x hx => ?_
    · obtain ⟨c, hc, _⟩ := hd.cells hu i x hx
      simp [hc]
    · obtain ⟨c, hc, hr⟩ := hd.cells hu i x hx
      simpa [hc] using g.keepD hs.alt hr
    · obtain ⟨c, hc, hr⟩ := hd.cells hu i x hx
      simpa [hc] using hr.one ((List.all_eq_true.1 h1) x (dW hx))
theorem il {x : AX} {y : Operand} (ho : o.op = .nilCheck y) (he : aD μ (au A μ σ) w (e x) (a.eval y)) (hs : aH A μ σ w)
    (hx : (∃ id i j, e x = .ptr id i j) ∨ (∃ k d j, e x = .d (.cptr k d j)) ∨ (∃ f c, e x = .d (.func f c)) ∨ (∃ f c, e x = .func f c)) : bw P A μ σ w o a (e x) σ n n := by
  refine .val hs ?_ he
  generalize hu : a.eval y = u at he
  rcases hx with ⟨id, i, j, hx⟩ | ⟨k, d, j, hx⟩ | ⟨f, c, hx⟩ | ⟨f, c, hx⟩ <;> rw [hx] at he
  · cases he; simp [execOp, ho, hu]
  · cases he with | d _ _ hd => cases hd; simp [execOp, ho, hu]
  · cases he with | d _ _ hd => cases hd; simp [execOp, ho, hu]
  · cases he; simp [execOp, ho, hu]
theorem kR {off : Nat} {x : AX} {y : Operand} {s : TypeId} {f : Nat} {fs : Array Field} {fl : Field} (ho : o.op = .fieldAddr s y f) (hu : P.underlying s = some (.struct fs)) (hf : fs[f]? = some fl)
    (hoff : fl.offset = off) (h0 : P.cellsOf fl.type ≠ 0) (hi : (P.info? fl.type).isSome = true) (he : aD μ (au A μ σ) w (e x) (a.eval y)) (hs : aH A μ σ w)
    (hv : (∃ id i j, e x = .ptr id i j ∧ v = .ptr id i (j + off)) ∨ (∃ k d j, e x = .d (.cptr k d j) ∧ v = .d (.cptr k d (j + off)))) : bw P A μ σ w o a v σ n n := by
  obtain ⟨i, hi⟩ := Option.isSome_iff_exists.1 hi
  have hsz := fZ (w := w) hi
  generalize hav : a.eval y = u at he
  rcases hv with ⟨id, i, j, hx, rfl⟩ | ⟨k, d, j, hx, rfl⟩ <;> rw [hx] at he
  · cases he with
    | ptr _ _ _ b k hp =>
      refine .val hs (cv := .pointer (some ⟨b, i * ap k + j + off, none⟩)) ?_ ?_
      · simp [execOp, ho, hav, Instr.fieldAt, bE hu, hf, Instr.sureAddr, fieldPlace, hsz, h0, Addr.add_lit, hoff]
      · rw [Nat.add_assoc]; exact .ptr _ _ _ b k hp
  · cases he with
    | d _ _ hd =>
      cases hd with
      | cptr _ _ _ b o' g h1 h2 h3 h4 h5 =>
        refine .val hs (cv := .pointer (some ⟨b, o' + j + off, none⟩)) ?_ ?_
        · simp [execOp, ho, hav, Instr.fieldAt, bE hu, hf, Instr.sureAddr, fieldPlace, hsz, h0, Addr.add_lit, hoff]
        · rw [Nat.add_assoc]; exact .d _ _ (.cptr k d (j + off) b o' g h1 h2 h3 h4 h5)
end
end Go.AM
