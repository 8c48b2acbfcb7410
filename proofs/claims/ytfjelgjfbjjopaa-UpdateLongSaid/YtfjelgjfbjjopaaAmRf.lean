import Derived.Test.YtfjelgjfbjjopaaAmIn
import Derived.RangeFuncBox
set_option linter.unusedVariables false
set_option linter.unusedSectionVars false
set_option linter.unusedSimpArgs false
namespace Go.AM
open Go Go.RowKit
variable [Glob]
def Bk (o : Obj) : Prop := o.isCells = false
def gc (B : Nat) (I : World → Prop) : Prop := ∀ X Y row, I X → X.grownBy Y row → (∀ r, row = some r → B ≤ r ∧ ∃ o : Obj, X.heap[r]? = some o ∧ Bk o) → I Y
def jP (w w' : World) : Prop := ∀ (k : Nat) (o : Obj), w.heap[k]? = some o → Bk o → w'.heap[k]? = some o
theorem gg (r : Loop) : Bk (.loop r) := rfl
theorem jQ (r : Option (List Deferred)) : Bk (.deferred r) := rfl
theorem sp {o : Obj} (h : o.isWalk = true) : Bk o := by
  cases o <;> first | (cases h; done) | rfl
theorem gc.put {B l : Nat} {I : World → Prop} {W : World} {o : Obj} (h : gc B I) (hi : I W) (hB : B ≤ l) (hl : W.heap[l]? = some o) (ho : Bk o) (o' : Obj) : I (W.putObj l o') :=
  h W _ (some l) hi (grownBy_putObj' W l o') fun r e => by cases e; exact ⟨hB, o, hl, ho⟩
theorem gc.alloc {B : Nat} {I : World → Prop} {W : World} (h : gc B I) (hi : I W) (o : Obj) : I (W.alloc o) :=
  h W _ none hi (World.grownBy_alloc W o none) fun r e => by cases e
theorem oH {W W' : World} {row : Option Nat} (hg : W.grownBy W' row) (hr : ∀ r, row = some r → ∃ o : Obj, W.heap[r]? = some o ∧ o.isWalk = true) {k : Nat} {o : Obj} (hk : W.heap[k]? = some o) (ho : o.isWalk = false) : W'.heap[k]? = some o := by
  rw [hg.block k (b5 hk) (fun e => ?_), hk]
  obtain ⟨o', h1, h2⟩ := hr k e.symm
  rw [hk] at h1; cases h1; rw [ho] at h2; cases h2
theorem sq {F : Fence} {n : Nat} {P : Program} {α : Type} {g : Operand} {ps : Array Tmp} {assign body : Code} {Q : Exit → Act → World → Prop} {a : Act} {w : World}
    (hro : F.round = none) (h1 : 1 ≤ n) {gf : Nat} {lb : Array Value} (hg : a.eval g = .func (.func gf) #[] lb) (hFg : F.fn gf) (eg : ∀ args w, (callFunc gf args).run P w = .ok (.enter gf args) w)
    {encs : α → Array Value} {Kp : World → World → Prop} {S Sp : List α → Prop} {N : Nat} (hseq : SeqStopsK F (n - 1) P gf lb encs Kp S Sp N w)
    (hKt : ∀ {A B C : World}, Kp A B → Kp B C → Kp A C) (hKb : ∀ (W : World) (l : Nat) (o o' : Obj), w.heap.size ≤ l → W.heap[l]? = some o → Bk o → Kp W (W.putObj l o')) (hps : ∀ x, (encs x).size = ps.size)
    (I : List α → World → Prop) (hI : ∀ xs, gc w.heap.size (I xs)) (h0 : I [] w)
    (hround : ∀ (l : Nat) (pre : List α) (x : α) (W : World), w.heap.size ≤ l → I pre W → pre.length < N → ∃ IA : Act → World → Prop, (∀ a', gc w.heap.size (IA a')) ∧
      assign.wpIn (F.inRound l) (n - 1 - 1) P (Exit.then (fun a' W' => jP W W' ∧ Kp W W' ∧ IA a' W') (fun _ _ _ => False)) { tmps := (ps.zip (encs x)).foldl (fun t (p, v) => t.setIfInBounds p v) a.tmps, defers := [] } W ∧
      ∀ a' W', IA a' W' → body.wpIn (F.inRound l) (n - 1 - 1) P (fun e _ W2 => e = .normal ∧ jP W' W2 ∧ Kp W' W2 ∧ I (pre ++ [x]) W2) a' W')
    (hdone : ∀ (xs : List α) (W : World), S xs → I xs W → W.heap[w.heap.size]? = some (.deferred (some [])) → Q .normal { a with defers := { target := .collected w.heap.size, args := #[] } :: a.defers } W) :
    (Code.rangeFunc g ps assign body).wpIn F n P Q a w := by
  refine wpIn_rangeFunc fun fn hfn => ?_
  rw [hro]
  obtain ⟨rec, hrec⟩ : ∃ rec : LoopState → Loop, rec = fun st => { state := st, pending := none, fn, tmps := a.tmps, params := ps, assign, body, defers := w.heap.size } := ⟨_, rfl⟩
  obtain ⟨W1, hW1⟩ : ∃ W1, (w.alloc (.deferred (some []))).alloc (.loop (rec .ready)) = W1 := ⟨_, rfl⟩
  have hL1 : W1.heap[w.heap.size + 1]? = some (.loop (rec .ready)) := by
    rw [← hW1]; have := World.alloc_heap_new (w.alloc (.deferred (some []))) (.loop (rec .ready)); rwa [World.size_alloc] at this
  have hK1 : W1.heap[w.heap.size]? = some (.deferred (some [])) := by
    rw [← hW1]; exact (Below.heap_alloc _ _ _ (by simp)).trans (World.alloc_heap_new w _)
  have hI1 : I [] W1 := by rw [← hW1]; exact (hI []).alloc ((hI []).alloc h0 _) _
  have hb1 : Below w.heap.size w W1 := by
    rw [← hW1]; exact ((Below.refl _ w).alloc (Nat.le_refl _) _).alloc (by simp) _
  have hs1 : w.heap.size ≤ W1.heap.size := hb1.size
  refine ⟨w.heap.size + 1, [{ target := .collected w.heap.size, args := #[] }], W1, { target := .fn (.func gf) lb, args := #[.func (.yield (w.heap.size + 1)) #[] #[]] }, W1, gf,
    #[.func (.yield (w.heap.size + 1)) #[] #[]] ++ lb, W1, ?_, ?_, ?_, ?_, fun _ => h1, ?_⟩
  · rw [← hW1, hrec]; exact run_enterLoop_outer _ _ _ _ _
  · simp only [resolve, hg]
    simp [go_sem]
  · intro f' hf'; simp [Target.leads] at hf'; subst hf'; exact hFg
  · simp [invoke, go_sem, eg]
  · refine (hseq (w.heap.size + 1)
      (fun pre W => I pre W ∧ W.heap[w.heap.size + 1]? = some (.loop (rec .ready)) ∧ W.heap[w.heap.size]? = some (.deferred (some [])))
      (fun _ _ => False) W1 hb1 ?_ (fun _ _ _ _ h _ _ => h) ?_ ⟨hI1, hL1, hK1⟩).mono ?_
    · intro s X Y row ⟨k1, k2, k3⟩ hgr hr
      exact ⟨hI s X Y row k1 hgr fun r e => by obtain ⟨g1, o, g2, g3⟩ := hr r e; exact ⟨by omega, o, g2, sp g3⟩, oH hgr (fun r e => (hr r e).2) k2 rfl, oH hgr (fun r e => (hr r e).2) k3 rfl⟩
    · rintro pre x W ⟨hi, hl, hk⟩ hlen
      obtain ⟨IA, hIA, has, hbo⟩ := hround (w.heap.size + 1) pre x W (by omega) hi hlen
      have hy := run_yield (P := P) (args := encs x) hl (by rw [hrec]; exact hps x)
      rw [hrec] at hy
      refine ⟨fn, _, assign, body, hy, roundIn_of_wpIn hfn (wpIn_mono has ?_)⟩
      intro e a2 W2 h2
      cases e with
      | normal =>
        obtain ⟨k1, k2, k3⟩ := h2
        have hl2 := k1 _ _ hl (gg _)
        have hk2 := k1 _ _ hk (jQ _)
        refine ⟨_, run_beginRound hl2 (by rw [hrec]), ?_⟩
        have hl3 : (W2.putObj (w.heap.size + 1) (.loop { rec .ready with state := .busy })).heap[w.heap.size + 1]? = some (.loop { rec .ready with state := .busy }) := World.putObj_heap_same (b5 hl2)
        have hk3 : (W2.putObj (w.heap.size + 1) (.loop { rec .ready with state := .busy })).heap[w.heap.size]? = some (.deferred (some [])) := (World.putObj_heap_other (by omega)).trans hk2
        refine wpIn_mono (hbo a2 _ ((hIA a2).put k3 (by omega) hl2 (gg _) _)) ?_
        rintro e a3 W3 ⟨rfl, q1, q2, q3⟩
        have hl4 := q1 _ _ hl3 (gg _)
        have hk4 := q1 _ _ hk3 (jQ _)
        have hend := run_endRound (P := P) none hl4
        refine ⟨_, _, hend, .inl ⟨by simp, ⟨(hI _).put q3 (by omega) hl4 (gg _) _, ?_, (World.putObj_heap_other (by omega)).trans hk4⟩, hKt k2 (hKt (hKb _ _ _ _ (by omega) hl2 (gg _)) (hKt q2 (hKb _ _ _ _ (by omega) hl4 (gg _))))⟩⟩
        rw [World.putObj_heap_same (b5 hl4), hrec]
        rfl
      | _ => exact h2.elim
    · rintro e W2 ⟨⟨v, rfl⟩, (⟨xs, hS, hi, hl, hk⟩ | ⟨pre, hSp, hf⟩)⟩
      · exact ⟨none, _, by have := run_endLoop (P := P) hl (by rw [hrec]; simp); rw [hrec] at this; exact this, hdone xs _ hS ((hI _).put hi (by omega) hl (gg _) _) ((World.putObj_heap_other (by omega)).trans hk)⟩
      · exact hf.elim
section
variable {N na : Nat} {A : Nat → Nat → Prop} {μ μ' : Nat → Option aJ} {σ σ' : au} {s : S} {a : Act} {w W W' : World}
def eE (w w' : World) : Prop := w.heap.size ≤ w'.heap.size ∧ ∀ (b : Nat) c ty fr, w.heap[b]? = some (.cells c ty fr) → w'.heap[b]? = some (.cells c ty fr)
theorem jR {row : Option Nat} (hg : W.grownBy W' row) (hr : ∀ r, row = some r → ∃ o : Obj, W.heap[r]? = some o ∧ Bk o) : eE W W' := by
  refine ⟨hg.size, fun b c ty fr hb => ?_⟩
  rw [hg.block b (b5 hb) (fun e => ?_), hb]
  obtain ⟨o', h1, h2⟩ := hr b e.symm
  rw [hb] at h1; cases h1; cases h2
theorem eE.cell (h : eE W W') {b o : Nat} {v : Value} (hc : W.cell? ⟨b, o, none⟩ = some v) : W'.cell? ⟨b, o, none⟩ = some v := by
  obtain ⟨c, ty, fr, hb, hv⟩ := fj hc
  rw [cD (h.2 b _ _ _ hb)]; exact hv
theorem eE.v (h : eE W W') {own : Nat → Nat → Prop} {v : V} {u : Value} (hv : aw μ own W v u) : aw μ own W' v u :=
  hv.mono (fun b o v h1 h2 => ⟨h.cell h1, h2⟩) (fun _ _ g => g) (fun b n ⟨c, ty, fr, hb, hn⟩ => ⟨c, ty, fr, h.2 b _ _ _ hb, hn⟩)
theorem eE.d (h : eE W W') {own : Nat → Nat → Prop} {d : D} {u : Value} (hv : DRel own W d u) : DRel own W' d u :=
  hv.mono fun b o v h1 h2 => ⟨h.cell h1, h2⟩
def fB (σ : au) : Prop := ∀ id es, σ id ≠ some (.mp es)
theorem eE.store (h : eE W W') (hn : fB σ) (hs : aB A μ σ W) : aB A μ σ W' where
  blks id blk hid := by
    have hb := hs.blks id blk hid
    cases blk with
    | lst m k els =>
      rcases hb with ⟨h1, h2⟩ | ⟨b, c, ty, fr, h1, h2, h3, h4, h5⟩
      · exact .inl ⟨h1, h2⟩
      · refine .inr ⟨b, c, ty, fr, h1, h.2 b _ _ _ h2, h3, h4, fun i d hi => ⟨(h5 i d hi).1, fun j x hj => ?_⟩⟩
        obtain ⟨v, hv, ho, hr⟩ := (h5 i d hi).2 j x hj
        exact ⟨v, hv, ho, h.d hr⟩
    | var cs =>
      obtain ⟨b, c, ty, fr, h1, h2, h3, h4, h5⟩ := hb
      exact ⟨b, c, ty, fr, h1, h.2 b _ _ _ h2, h3, h4, fun i x v hx hv => ⟨(h5 i x v hx hv).1, h.v (h5 i x v hx hv).2⟩⟩
    | mp es => exact (hn _ _ hid).elim
  inj := hs.inj
  amb := hs.amb
  alt b o ho := Nat.lt_of_lt_of_le (hs.alt b o ho) h.1
  glob := hs.glob.mono fun b o v h1 h2 => ⟨h.cell h1, h2⟩
theorem cb.keepCl (h : cb N A μ s a W) (hn : fB s.σ) (k : eE W W') : cb N A μ s a W' := ⟨⟨h.1.size, h.1.defers, fun i => k.v (h.1.tmps i), k.store hn h.1.store⟩, h.2⟩
theorem NG.turn {row : Option Nat} (h : NG na μ σ w μ' σ' W) (hg : W.grownBy W' row) (hr : ∀ r, row = some r → w.heap.size ≤ r ∧ ∃ o : Obj, W.heap[r]? = some o ∧ Bk o) : NG na μ σ w μ' σ' W' where
  os := hg.os.trans h.os
  tape := hg.tape.trans h.tape
  output := hg.output.trans h.output
  size := Nat.le_trans h.size hg.size
  block b hb hn := (hg.block b (Nat.lt_of_lt_of_le hb h.size) (fun e => by have := (hr b e.symm).1; omega)).trans (h.block b hb hn)
  cells b c ty fr hc := by
    obtain ⟨c', k1, k2, k3⟩ := h.cells b c ty fr hc
    exact ⟨c', (jR hg fun r e => (hr r e).2).2 b _ _ _ k1, k2, k3⟩
  own := h.own
  ownB := h.ownB
  grow := h.grow
theorem aA.keepR (h : aA μ σ W μ' σ' W') (hn : fB σ) (hs : aB A μ σ W) : jP W W' := by
  intro k o hk ho
  rw [h.block k (b5 hk) (fun ⟨id, blk, kk, h1, h2⟩ => ?_), hk]
  have := hs.blks id blk h1
  cases blk with
  | lst m q els =>
    rcases this with ⟨g1, _⟩ | ⟨b, c, ty, fr, g1, g2, _⟩
    · rw [h2] at g1; cases g1
    · rw [h2] at g1; cases g1; rw [hk] at g2; cases g2; cases ho
  | var cs =>
    obtain ⟨b, c, ty, fr, g1, g2, _⟩ := this
    rw [h2] at g1; cases g1; rw [hk] at g2; cases g2; cases ho
  | mp es => exact (hn _ _ h1).elim
def fh (μ : Nat → Option aJ) (σ : au) (w : World) (X Y : World) : Prop := ∀ (b o : Nat) v, b < w.heap.size → ¬ bJ μ σ b o → X.cell? ⟨b, o, none⟩ = some v → Y.cell? ⟨b, o, none⟩ = some v
theorem fh.trans {X Y Z : World} (h : fh μ σ w X Y) (k : fh μ σ w Y Z) : fh μ σ w X Z := fun b o v h1 h2 h3 => k b o v h1 h2 (h b o v h1 h2 h3)
theorem fh.put {l : Nat} {o : Obj} (hl : W.heap[l]? = some o) (ho : Bk o) (o' : Obj) : fh μ σ w W (W.putObj l o') := fun b q v _ _ hc => by
  obtain ⟨c, ty, fr, hb, hv⟩ := fj hc
  rw [cD ((jR (grownBy_putObj' W l o') fun r e => by cases e; exact ⟨o, hl, ho⟩).2 b _ _ _ hb)]; exact hv
theorem aA.kpC {μ0 : Nat → Option aJ} {σ0 : au} (h0 : NG na μ0 σ0 w μ σ W) (h : aA μ σ W μ' σ' W') : fh μ0 σ0 w W W' := fun b o v hb hn hc => by
  obtain ⟨c, ty, fr, hh, hv⟩ := fj hc
  obtain ⟨c', k1, k2, k3⟩ := h.cells b c ty fr hh
  rw [cD k1, k3 o fun ho => (h0.own b o ho).elim hn (by omega)]; exact hv
end
section
variable {P : Program} {N : Nat} {A : Nat → Nat → Prop} {μ0 μ μ' : Nat → Option aJ} {σ0 σ σ' : au} {s s0 : S} {a b : Act} {Tb : Nat → V} {w W W' : World}
theorem NG.keepCell {na : Nat} (g : NG na μ σ W μ' σ' W') (alt : ∀ b o, A b o → b < W.heap.size) (b o : Nat) (v : Value) (h : W.cell? ⟨b, o, none⟩ = some v) (hn : ¬ ak A μ σ b o) :
    W'.cell? ⟨b, o, none⟩ = some v ∧ ¬ ak A μ' σ' b o := by
  obtain ⟨c, ty, fr, hb, hc⟩ := fj h
  obtain ⟨c', h1, _, h3⟩ := g.cells b c ty fr hb
  have hn1 : ¬ bJ μ σ b o := fun h' => hn (.inl h')
  refine ⟨by rw [cD h1, h3 o hn1]; exact hc, fun h' => ?_⟩
  rcases h' with h' | h'
  · rcases g.own b o h' with h2 | h2
    · exact hn1 h2
    · have := b5 hb; omega
  · exact hn (.inr h')
def jS (na : Nat) : V → Prop
  | .d _ => True
  | .ptr id _ _ => id < na
  | _ => False
theorem NG.keepLow {na : Nat} (g : NG na μ σ W μ' σ' W') (alt : ∀ b o, A b o → b < W.heap.size) {x : V} {v : Value} (hx : jS na x) (h : aw μ (ak A μ σ) W x v) : aw μ' (ak A μ' σ') W' x v := by
  cases h with
  | d x v h => exact .d _ _ (h.mono (g.keepCell alt))
  | ptr id i j b k hp => exact .ptr _ _ _ b k (g.grow _ _ hx hp)
  | _ => exact hx.elim
def RS (N : Nat) (A : Nat → Nat → Prop) (μ0 : Nat → Option aJ) (σ0 : au) (w : World) (b : Act) (Tb : Nat → V) (s : S) (a : Act) (W : World) : Prop :=
  ∃ μ, cb N A μ s a W ∧ cb N A μ ⟨Tb, s.σ, s.n⟩ b W ∧ NG 2 μ0 σ0 w μ s.σ W
theorem oI (hn : fB s.σ) : gc w.heap.size (RS N A μ0 σ0 w b Tb s a) := by
  rintro X Y row ⟨μ, h1, h2, h3⟩ hg hr
  have hk := jR hg fun r e => (hr r e).2
  exact ⟨μ, h1.keepCl hn hk, h2.keepCl hn hk, h3.turn hg hr⟩
theorem RS.back (h : RS N A μ0 σ0 w b Tb s a W) : RS N A μ0 σ0 w b Tb ⟨Tb, s.σ, s.n⟩ b W := by
  obtain ⟨μ, h1, h2, h3⟩ := h
  exact ⟨μ, h2, h2, h3⟩
theorem RS.norm (hlow : ∀ i, jS 2 (Tb i)) (h : RS N A μ0 σ0 w b Tb s a W) (hn : a8 2 s s0) : RS N A μ0 σ0 w b Tb s0 a W := by
  obtain ⟨μ, h1, h2, h3⟩ := h
  obtain ⟨μ', k1, k2⟩ := hn N A μ a W h1
  exact ⟨μ', k1, ⟨⟨h2.1.size, h2.1.defers, fun i => k2.keepLow h2.1.store.alt (hlow i) (h2.1.tmps i), k1.1.store⟩, k1.2⟩, h3.trans k2⟩
theorem RS.region {F : Fence} {n id : Nat} {ops : Array Oper} {Q : Exit → Act → World → Prop} (hF : ∀ f, F.fn f) (hlow : ∀ i, jS 2 (Tb i)) {l : List aQ} (hc : cZ P N ops l ops.toList = true) (hp : ∀ i ∈ l, i.guard = none ∧ i.op.isCall = false)
    (hn : fB s.σ) (hs : RS N A μ0 σ0 w b Tb s a W) (h : aV P l s fun s' => a8 2 s' s0)
    (k : ∀ a' W', RS N A μ0 σ0 w b Tb s0 a' W' → jP W W' → fh μ0 σ0 w W W' → Q .normal a' W') : (Code.region id ops false).wpIn F n P Q a W := by
  obtain ⟨μ, h1, h2, h3⟩ := hs
  refine sn hF hc hp h h1 fun s' μ' a' W' hK hs' _ hg => ?_
  refine k a' W' (RS.norm hlow (s := s') ⟨μ', hs', ⟨⟨h2.1.size, h2.1.defers, fun i => hg.keepV h2.1.store.alt (h2.1.tmps i), hs'.1.store⟩, hs'.2⟩, h3.trans hg.ng⟩ hK) (hg.keepR hn h1.1.store) (hg.kpC h3)
theorem RS.put (h : RS N A μ0 σ0 w b Tb s a W) {v : V} {cv : Value} {d : Nat} (hd : d < N) (hv : ∀ μ, cb N A μ s a W → NG 2 μ0 σ0 w μ s.σ W → aw μ (ak A μ s.σ) W v cv) : RS N A μ0 σ0 w b Tb ⟨aj s.T d v, s.σ, s.n⟩ (a.put (some d) cv) W := by
  obtain ⟨μ, h1, h2, h3⟩ := h
  exact ⟨μ, ⟨h1.1.put (dst := some d) (aA.refl _ _ _) h1.1.store (hv μ h1 h3) (fun e he => by cases he; exact hd), h1.2⟩, h2, h3⟩
theorem RS.tmp (h : RS N A μ0 σ0 w b Tb s a W) {d : Nat} {t : Bool} (ht : s.T d = .d (.bool t)) : a.eval (.tmp d) = .bool t := by
  obtain ⟨μ, h1, _, _⟩ := h
  have := h1.1.tmps d
  rw [ht] at this
  exact fp this
end
end Go.AM
