import Derived.Test.YtfjelgjfbjjopaaAmCode
import Derived.RowKit3
import Derived.Laws.OwnMore
set_option linter.unusedVariables false
set_option linter.unusedSectionVars false
namespace Go.AM
open Go Go.RowKit
variable [Glob]
theorem ke {own : Nat → Nat → Prop} {w : World} {d : D} {v : Value} (h : gu d v = true) : DRel own w d v := by
  unfold gu at h
  split at h <;> simp only [Bool.and_eq_true, beq_iff_eq, Bool.false_eq_true] at h
  · obtain ⟨⟨rfl, rfl⟩, hr⟩ := h; exact .int _ _ hr
  · subst h; exact .bool _
  · rename_i s s'
    obtain ⟨h, hz⟩ := h
    have : s = s' := by
      cases s; cases s'; simp at h; subst h; rfl
    subst this; exact .str _ (by simp at hz; unfold maxLen; omega)
  · exact .nilp
  · exact .nils
  · exact .vecn _ none
  · exact .nilf
  · exact .nili
  · rename_i f f' a c
    obtain ⟨⟨rfl, h1⟩, h2⟩ := h
    have e1 : a = #[] := Array.eq_empty_of_size_eq_zero h1
    have e2 : c = #[] := Array.eq_empty_of_size_eq_zero h2
    subst e1; subst e2
    exact .func f [] #[] rfl (fun i d v h => by simp at h)
  · exact .nilm
theorem fo {own : Nat → Nat → Prop} {w : World} : ∀ {l : List D} {r : List Value}, fm l r = true → l.length = r.length ∧ ∀ (i : Nat) d v, l[i]? = some d → r[i]? = some v → DRel own w d v
  | [], [], _ => ⟨rfl, fun i d v h => by simp at h⟩
  | d :: l, v :: r, h => by
    simp only [fm, Bool.and_eq_true] at h
    obtain ⟨h1, h2⟩ := h
    obtain ⟨e, ih⟩ := fo (own := own) (w := w) h2
    refine ⟨by simp [e], fun i x y hx hy => ?_⟩
    cases i with
    | zero => simp at hx hy; subst hx; subst hy; exact ke h1
    | succ i => exact ih i x y (by simpa using hx) (by simpa using hy)
  | [], _ :: _, h => by simp [fm] at h
  | _ :: _, [], h => by simp [fm] at h
section
variable {own : Nat → Nat → Prop} {w : World} {μ : Nat → Option aJ}
theorem DRel.one {d : D} {v : Value} (h : DRel own w d v) (h1 : d.one = true) : v.oneCell' = true := by
  cases h <;> first | rfl | simp [D.one] at h1
theorem aw.one {x : V} {v : Value} (h : aw μ own w x v) (h1 : x.one = true) : v.oneCell' = true := by
  cases h <;> first | rfl | (rename_i hd; exact hd.one h1) | simp [V.one] at h1
theorem DRel.cells {d : D} {v : Value} (h : DRel own w d v) (hu : d ≠ .undef) (i : Nat) (x : D) (hx : d.cells[i]? = some x) : ∃ c, v.cells[i]? = some c ∧ DRel own w x c := by
  cases h with
  | agg ds cs hl hr =>
    simp only [D.cells] at hx
    have hi : i < cs.size := by
      have := (List.getElem?_eq_some_iff.1 hx).1
      omega
    exact ⟨cs[i], by simp [Value.cells, hi], hr i x _ hx (by simp [hi])⟩
  | undef => exact (hu rfl).elim
  | int k n hr => simp only [D.cells] at hx; cases i <;> simp at hx; subst hx; exact ⟨_, rfl, .int k n hr⟩
  | bool b => simp only [D.cells] at hx; cases i <;> simp at hx; subst hx; exact ⟨_, rfl, .bool b⟩
  | str s hr => simp only [D.cells] at hx; cases i <;> simp at hx; subst hx; exact ⟨_, rfl, .str s hr⟩
  | tup ds cs hl hr => simp only [D.cells] at hx; cases i <;> simp at hx; subst hx; exact ⟨_, rfl, .tup ds cs hl hr⟩
  | nils => simp only [D.cells] at hx; cases i <;> simp at hx; subst hx; exact ⟨_, rfl, .nils⟩
  | vecn k a => simp only [D.cells] at hx; cases i <;> simp at hx; subst hx; exact ⟨_, rfl, .vecn k a⟩
  | vec k vs b off cap f a1 a2 a3 a4 a5 a6 => simp only [D.cells] at hx; cases i <;> simp at hx; subst hx; exact ⟨_, rfl, .vec k vs b off cap f a1 a2 a3 a4 a5 a6⟩
  | nilp => simp only [D.cells] at hx; cases i <;> simp at hx; subst hx; exact ⟨_, rfl, .nilp⟩
  | cptr k d j b off f a1 a2 a3 a4 a5 => simp only [D.cells] at hx; cases i <;> simp at hx; subst hx; exact ⟨_, rfl, .cptr k d j b off f a1 a2 a3 a4 a5⟩
  | nilf => simp only [D.cells] at hx; cases i <;> simp at hx; subst hx; exact ⟨_, rfl, .nilf⟩
  | func f cap c hl hr => simp only [D.cells] at hx; cases i <;> simp at hx; subst hx; exact ⟨_, rfl, .func f cap c hl hr⟩
  | nili => simp only [D.cells] at hx; cases i <;> simp at hx; subst hx; exact ⟨_, rfl, .nili⟩
  | nilm => simp only [D.cells] at hx; cases i <;> simp at hx; subst hx; exact ⟨_, rfl, .nilm⟩
  | iface t d v hd => simp only [D.cells] at hx; cases i <;> simp at hx; subst hx; exact ⟨_, rfl, .iface t d v hd⟩
theorem DRel.cells_size {d : D} {v : Value} (h : DRel own w d v) (hu : d ≠ .undef) : v.cells.size = d.cells.length := by
  cases h with
  | undef => exact (hu rfl).elim
  | agg ds cs hl hr => simp [Value.cells, D.cells, hl]
  | _ => rfl
theorem aw.cells {x : V} {v : Value} (h : aw μ own w x v) (h1 : x.cells.all V.one = true) :
    v.cells.size = x.cells.length ∧ ∀ (i : Nat) y c, x.cells[i]? = some y → v.cells[i]? = some c → aw μ own w y c ∧ c.oneCell' = true := by
  have h1' : ∀ y ∈ x.cells, V.one y = true := by simpa using h1
  cases h with
  | d d v hd =>
    have hu : d ≠ .undef := by
      rintro rfl
      have := h1' (.d .undef) (by simp [V.cells, D.cells])
      simp [V.one, D.one] at this
    refine ⟨by simp [V.cells, hd.cells_size hu], fun i y c hy hc => ?_⟩
    simp only [V.cells, List.getElem?_map] at hy
    cases hx : d.cells[i]? with
    | none => simp [hx] at hy
    | some z =>
      simp [hx] at hy
      subst hy
      obtain ⟨c', hc', hr⟩ := hd.cells hu i z hx
      obtain rfl : c' = c := by simpa using hc'.symm.trans hc
      have : V.one (.d z) = true := h1' _ (by simp only [V.cells, List.mem_map]; exact ⟨z, dx hx, rfl⟩)
      exact ⟨.d _ _ hr, hr.one this⟩
  | agg vs cs hl hr =>
    refine ⟨by simp [Value.cells, V.cells, hl], fun i y c hy hc => ?_⟩
    have hv := hr i y c hy hc
    exact ⟨hv, hv.one (h1' y (dx hy))⟩
  | tup vs cs hl hr => have := h1' (.tup vs) (by simp [V.cells]); simp [V.one] at this
  | loc0 id off a a1 => exact ⟨rfl, fun i y c hy hc => by cases i <;> simp [V.cells, Value.cells] at hy hc; subst hy; subst hc; exact ⟨.loc0 id off a a1, rfl⟩⟩
  | loc id off len b k cap a1 a2 a3 a4 => exact ⟨rfl, fun i y c hy hc => by cases i <;> simp [V.cells, Value.cells] at hy hc; subst hy; subst hc; exact ⟨.loc id off len b k cap a1 a2 a3 a4, rfl⟩⟩
  | ptr id i j b k a1 => exact ⟨rfl, fun i y c hy hc => by cases i <;> simp [V.cells, Value.cells] at hy hc; subst hy; subst hc; exact ⟨.ptr _ _ _ b k a1, rfl⟩⟩
  | func f cap c hl hr => exact ⟨rfl, fun i y c hy hc => by cases i <;> simp [V.cells, Value.cells] at hy hc; subst hy; subst hc; exact ⟨.func f cap _ hl hr, rfl⟩⟩
  | iface t x v hd => exact ⟨rfl, fun i y c hy hc => by cases i <;> simp [V.cells, Value.cells] at hy hc; subst hy; subst hc; exact ⟨.iface t x v hd, rfl⟩⟩
  | nne id a c h0 => exact ⟨rfl, fun i y c hy hc => by cases i <;> simp [V.cells, Value.cells] at hy hc; subst hy; subst hc; exact ⟨.nne _ _ _ h0, rfl⟩⟩
  | mref id b k a1 => exact ⟨rfl, fun i y c hy hc => by cases i <;> simp [V.cells, Value.cells] at hy hc; subst hy; subst hc; exact ⟨.mref _ b k a1, rfl⟩⟩
theorem pc {ds : List D} {cs : Array Value} (hl : ds.length = cs.size) (h : ∀ (i : Nat) d v, ds[i]? = some d → cs[i]? = some v → DRel own w d v) :
    ∀ (i : Nat) x v, (ds.map V.d)[i]? = some x → cs[i]? = some v → aw μ own w x v := by
  intro i x v hx hv
  simp only [List.getElem?_map] at hx
  cases hd : ds[i]? with
  | none => simp [hd] at hx
  | some d => simp [hd] at hx; subst hx; exact .d _ _ (h i d v hd hv)
theorem gx : ∀ {vs : List V} {ds : List D}, bu (vs.map V.toD) = some ds → vs = ds.map V.d
  | [], ds, h => by simp at h; subst h; rfl
  | v :: vs, ds, h => by
    cases v with
    | d x =>
      simp only [List.map_cons, V.toD, ie] at h
      cases hr : bu (vs.map V.toD) with
      | none => simp [hr] at h
      | some r =>
        simp [hr] at h
        subst h
        rw [gx hr]; rfl
    | _ => simp [V.toD] at h
theorem ji {vs : List V} {cs : Array Value} (hl : vs.length = cs.size) (h : ∀ (i : Nat) x v, vs[i]? = some x → cs[i]? = some v → aw μ own w x v) :
    aw μ own w (fI vs) (.agg cs) := by
  unfold fI
  split
  · rename_i ds hd
    have e := gx hd
    subst e
    refine .d _ _ (.agg ds cs (by simpa using hl) fun i d v hd' hv => ?_)
    have := h i (.d d) v (by simp [hd']) hv
    cases this with
    | d _ _ hr => exact hr
  · exact .agg vs cs hl h
end
section
variable {A : Nat → Nat → Prop} {μ μ' : Nat → Option aJ} {σ σ' : au} {w w' : World}
theorem bD.placed {O : Nat → Nat → Prop} {id : Nat} {blk : aK} (h : bD O μ w id blk) : μ id ≠ none := by
  cases blk with
  | lst m k els => rcases h with ⟨h, _⟩ | ⟨b, c, ty, fr, h, _⟩ <;> simp [h]
  | var cs => obtain ⟨b, c, ty, fr, h, _⟩ := h; simp [h]
  | mp es => obtain ⟨b, c, clk, h, _⟩ := h; simp [h]
theorem bD.block {O : Nat → Nat → Prop} {id : Nat} {blk : aK} {b : Nat} {k : Option Nat} (h : bD O μ w id blk) (hp : μ id = some (.at b k)) :
    ∃ o, w.heap[b]? = some o := by
  cases blk with
  | lst m k' els =>
    rcases h with ⟨h, _⟩ | ⟨b', c, ty, fr, h, h2, _⟩
    · simp [h] at hp
    · rw [h] at hp; cases hp; exact ⟨_, h2⟩
  | var cs => obtain ⟨b', c, ty, fr, h, h2, _⟩ := h; rw [h] at hp; cases hp; exact ⟨_, h2⟩
  | mp es => obtain ⟨b', c, clk, h, h2, _⟩ := h; rw [h] at hp; cases hp; exact ⟨_, h2⟩
theorem bD.keep (g : aA μ σ w μ' σ' w') (alt : ∀ b o, A b o → b < w.heap.size) {id : Nat} {blk : aK}
    (hh : ∀ b k, μ id = some (.at b k) → w'.heap[b]? = w.heap[b]?) (h : bD (ak A μ σ) μ w id blk) : bD (ak A μ' σ') μ' w' id blk := by
  cases blk with
  | lst m k els =>
    rcases h with ⟨h1, h2⟩ | ⟨b, c, ty, fr, h1, h2, h3, h4, h5⟩
    · exact .inl ⟨g.grow _ _ h1, h2⟩
    · refine .inr ⟨b, c, ty, fr, g.grow _ _ h1, (hh b k h1).trans h2, h3, h4, fun i d hi => ⟨(h5 i d hi).1, fun j x hj => ?_⟩⟩
      obtain ⟨v, hv, ho, hr⟩ := (h5 i d hi).2 j x hj
      exact ⟨v, hv, ho, g.keepD alt hr⟩
  | var cs =>
    obtain ⟨b, c, ty, fr, h1, h2, h3, h4, h5⟩ := h
    exact ⟨b, c, ty, fr, g.grow _ _ h1, (hh b none h1).trans h2, h3, h4, fun i x v hx hv => ⟨(h5 i x v hx hv).1, g.keepV alt (h5 i x v hx hv).2⟩⟩
  | mp es =>
    obtain ⟨b, c, clk, h1, h2, h3, h4⟩ := h
    exact ⟨b, c, clk, g.grow _ _ h1, (hh b none h1).trans h2, h3, fun i p e hp he => ⟨g.keepD alt (h4 i p e hp he).1, g.keepD alt (h4 i p e hp he).2⟩⟩
theorem aB.update (hs : aB A μ σ w) (g : aA μ σ w μ' σ' w') (id : Nat)
    (hσ : ∀ j blk, j ≠ id → σ' j = some blk → σ j = some blk) (hμ : ∀ j, j ≠ id → μ' j = μ j)
    (hblk : ∀ blk, σ' id = some blk → bD (ak A μ' σ') μ' w' id blk)
    (hheap : ∀ j blk b k, j ≠ id → σ' j = some blk → μ j = some (.at b k) → w'.heap[b]? = w.heap[b]?)
    (hnew : ∀ b k blk, σ' id = some blk → μ' id = some (.at b k) → (∀ o, ¬ A b o) ∧ ∀ j x k', j ≠ id → σ' j = some x → μ' j ≠ some (.at b k')) : aB A μ' σ' w' where
  blks j blk hj := by
    by_cases e : j = id
    · subst e; exact hblk blk hj
    · exact bD.keep g hs.alt (fun b k hb => hheap j blk b k e hj hb) (hs.blks j blk (hσ j blk e hj))
  inj i j x y b k k' hi hj hbi hbj := by
    by_cases ei : i = id
    · by_cases ej : j = id
      · rw [ei, ej]
      · subst ei; exact ((hnew b k x hi hbi).2 j y k' ej hj hbj).elim
    · by_cases ej : j = id
      · subst ej; exact ((hnew b k' y hj hbj).2 i x k ei hi hbi).elim
      · exact hs.inj i j x y b k k' (hσ i x ei hi) (hσ j y ej hj) (by rw [← hμ i ei]; exact hbi) (by rw [← hμ j ej]; exact hbj)
  amb j x b k hj hb := by
    by_cases e : j = id
    · subst e; exact (hnew b k x hj hb).1
    · exact hs.amb j x b k (hσ j x e hj) (by rw [← hμ j e]; exact hb)
  alt b o h := Nat.lt_of_lt_of_le (hs.alt b o h) g.size
  glob := hs.glob.mono (g.keepCell hs.alt)
theorem aA.drop (h : ∀ j blk, σ' j = some blk → σ j = some blk) : aA μ σ w μ σ' w where
  os := rfl
  tape := rfl
  output := rfl
  size := Nat.le_refl _
  block _ _ _ := rfl
  cells _ c _ _ hc := ⟨c, hc, rfl, fun _ _ => rfl⟩
  own b o ho := let ⟨id, blk, h1, h2⟩ := ho; .inl ⟨id, blk, h id blk h1, h2⟩
  ownB b ho := let ⟨id, blk, k, h1, h2⟩ := ho; .inl ⟨id, blk, k, h id blk h1, h2⟩
  grow _ _ h := h
theorem aB.drop (hs : aB A μ σ w) (h : ∀ j blk, σ' j = some blk → σ j = some blk) : aB A μ σ' w where
  blks j blk hj := bD.keep (aA.drop h) hs.alt (fun _ _ _ => rfl) (hs.blks j blk (h j blk hj))
  inj i j x y b k k' hi hj := hs.inj i j x y b k k' (h i x hi) (h j y hj)
  amb j x b k hj := hs.amb j x b k (h j x hj)
  alt := hs.alt
  glob := hs.glob.mono ((aA.drop h).keepCell hs.alt)
theorem aA.drew (n : Nat) : aA μ σ w μ σ { w with drawn := n } := ⟨rfl, rfl, rfl, Nat.le_refl _, fun _ _ _ => rfl, fun _ c _ _ h => ⟨c, h, rfl, fun _ _ => rfl⟩, fun _ _ h => .inl h, fun _ h => .inl h, fun _ _ h => h⟩
theorem aB.drew (hs : aB A μ σ w) (n : Nat) : aB A μ σ { w with drawn := n } where
  blks j blk hj := bD.keep (aA.drew n) hs.alt (fun _ _ _ => rfl) (hs.blks j blk hj)
  inj := hs.inj
  amb := hs.amb
  alt := hs.alt
  glob := hs.glob.mono ((aA.drew n).keepCell hs.alt)
theorem pd (hs : aB A μ σ w) {n : Nat} (hn : μ n = none) : σ n = none := by
  cases h : σ n with
  | none => rfl
  | some blk => exact (bD.placed (hs.blks n blk h) hn).elim
theorem aA.alloc (hs : aB A μ σ w) {n : Nat} (hn : μ n = none) (blk : aK) (k : Option Nat) (o : Obj) :
    aA μ σ w (aj μ n (some (.at w.heap.size k))) (aj σ n (some blk)) (w.alloc o) where
  os := rfl
  tape := rfl
  output := rfl
  size := by simp
  block b hb _ := heap_alloc_old w o b hb
  cells b c ty fr hc := ⟨c, by rw [heap_alloc_old w o b (b5 hc)]; exact hc, rfl, fun _ _ => rfl⟩
  own b x ho := by
    obtain ⟨id, bl, h1, h2⟩ := ho
    by_cases e : id = n
    · subst e
      simp only [aL] at h1 h2
      refine .inr ?_
      unfold aK.ownsAt at h2
      split at h2
      · simp_all
      · simp_all
      · simp_all
      · simp_all
      · exact h2.elim
    · rw [aG _ _ e] at h1 h2
      exact .inl ⟨id, bl, h1, h2⟩
  ownB b ho := by
    obtain ⟨id, bl, k', h1, h2⟩ := ho
    by_cases e : id = n
    · subst e; simp only [aL, Option.some.injEq, aJ.at.injEq] at h2; exact .inr (by omega)
    · rw [aG _ _ e] at h1 h2; exact .inl ⟨id, bl, k', h1, h2⟩
  grow id p hp := by rw [aG]; exact hp; rintro rfl; rw [hn] at hp; cases hp
theorem aB.alloc (hs : aB A μ σ w) {n : Nat} (hn : μ n = none) (blk : aK) (k : Option Nat) (o : Obj)
    (hb : bD (ak A (aj μ n (some (.at w.heap.size k))) (aj σ n (some blk))) (aj μ n (some (.at w.heap.size k))) (w.alloc o) n blk) :
    aB A (aj μ n (some (.at w.heap.size k))) (aj σ n (some blk)) (w.alloc o) := by
  refine hs.update (aA.alloc hs hn blk k o) n (fun j x hj h => by rwa [aG _ _ hj] at h) (fun j hj => aG _ _ hj) (fun x hx => ?_) (fun j x b k' hj hx hbj => ?_) (fun b k' x hx hp => ?_)
  · simp only [aL, Option.some.injEq] at hx; subst hx; exact hb
  · rw [aG _ _ hj] at hx
    obtain ⟨_, hc⟩ := bD.block (hs.blks j x hx) hbj
    exact heap_alloc_old w o b (b5 hc)
  · simp only [aL, Option.some.injEq, aJ.at.injEq] at hp
    obtain ⟨rfl, rfl⟩ := hp
    refine ⟨fun o' h => by have := hs.alt _ _ h; omega, fun j x' k'' hj hx' hp' => ?_⟩
    rw [aG _ _ hj] at hx' hp'
    obtain ⟨_, hc⟩ := bD.block (hs.blks j x' hx') hp'
    have := b5 hc
    omega
def bY (w : World) (b : Nat) (c : Array Value) : World := { w with heap := w.heap.modify b fun | .cells _ ty fr => .cells c ty fr | o => o }
theorem dY {b : Nat} {c c' : Array Value} {ty : TypeId} {fr : Nat × Nat} (h : w.heap[b]? = some (.cells c ty fr)) : (bY w b c').heap[b]? = some (.cells c' ty fr) := by
  simp [bY, Array.getElem?_modify, h]
theorem kf {b b' : Nat} {c' : Array Value} (h : b' ≠ b) : (bY w b c').heap[b']? = w.heap[b']? := by
  simp only [bY, Array.getElem?_modify]; rw [if_neg (by omega)]
@[simp] theorem uD {b : Nat} {c' : Array Value} : (bY w b c').heap.size = w.heap.size := by simp [bY]
theorem aA.write (hs : aB A μ σ w) {id b : Nat} {k : Option Nat} {blk blk' : aK} {c c' : Array Value} {ty : TypeId} {fr : Nat × Nat}
    (hid : σ id = some blk) (hp : μ id = some (.at b k)) (hb : w.heap[b]? = some (.cells c ty fr)) (hsz : c'.size = c.size)
    (hin : ∀ o, ¬ blk.ownsAt (some (.at b k)) b o → c'[o]? = c[o]?) (hown : ∀ o, blk'.ownsAt (some (.at b k)) b o → blk.ownsAt (some (.at b k)) b o) :
    aA μ σ w μ (aj σ id (some blk')) (bY w b c') where
  os := rfl
  tape := rfl
  output := rfl
  size := by simp
  block b' hb' hn := kf fun e => hn (by subst e; exact ⟨id, blk, k, hid, hp⟩)
  cells b' c0 ty' fr' hc0 := by
    by_cases e : b' = b
    · subst e
      rw [hb] at hc0
      cases hc0
      exact ⟨c', dY hb, hsz, fun o ho => hin o fun h => ho ⟨id, blk, hid, by rw [hp]; exact h⟩⟩
    · exact ⟨c0, by rw [kf e]; exact hc0, rfl, fun _ _ => rfl⟩
  own b' o ho := by
    obtain ⟨j, bl, h1, h2⟩ := ho
    by_cases e : j = id
    · subst e
      simp only [aL, Option.some.injEq] at h1
      subst h1
      rw [hp] at h2
      have hb' : b' = b := by
        unfold aK.ownsAt at h2
        split at h2
        · simp_all
        · simp_all
        · simp_all
        · simp_all
        · exact h2.elim
      subst hb'
      exact .inl ⟨j, blk, hid, by rw [hp]; exact hown o h2⟩
    · rw [aG _ _ e] at h1
      exact .inl ⟨j, bl, h1, h2⟩
  ownB b' ho := by
    obtain ⟨j, bl, k', h1, h2⟩ := ho
    by_cases e : j = id
    · subst e; exact .inl ⟨j, blk, k', hid, h2⟩
    · rw [aG _ _ e] at h1; exact .inl ⟨j, bl, k', h1, h2⟩
  grow _ _ h := h
theorem aB.write (hs : aB A μ σ w) {id b : Nat} {k : Option Nat} {blk blk' : aK} {c c' : Array Value} {ty : TypeId} {fr : Nat × Nat}
    (hid : σ id = some blk) (hp : μ id = some (.at b k)) (hb : w.heap[b]? = some (.cells c ty fr))
    (g : aA μ σ w μ (aj σ id (some blk')) (bY w b c'))
    (hbl : bD (ak A μ (aj σ id (some blk'))) μ (bY w b c') id blk') : aB A μ (aj σ id (some blk')) (bY w b c') := by
  refine hs.update g id (fun j x hj h => by rwa [aG _ _ hj] at h) (fun j _ => rfl) (fun x hx => ?_) (fun j x b' k' hj hx hbj => ?_) (fun b' k' x hx hp' => ?_)
  · simp only [aL, Option.some.injEq] at hx; subst hx; exact hbl
  · rw [aG _ _ hj] at hx
    exact kf fun e => hj (by subst e; exact hs.inj j id x blk b' k' k hx hid hbj hp)
  · rw [hp] at hp'; cases hp'
    refine ⟨hs.amb id blk b k hid hp, fun j x' k'' hj hx' hpj => ?_⟩
    rw [aG _ _ hj] at hx'
    exact hj (hs.inj j id x' blk b k'' k hx' hid hpj hp)
end
end Go.AM
