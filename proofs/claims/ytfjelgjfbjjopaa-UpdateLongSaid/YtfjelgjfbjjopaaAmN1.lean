import Derived.Test.YtfjelgjfbjjopaaAmFun2
set_option linter.unusedVariables false
set_option linter.unusedSectionVars false
set_option linter.unusedSimpArgs false
namespace Go.AM
open Go Go.RowKit
variable [Glob]
structure NG (na : Nat) (μ : Nat → Option aJ) (σ : au) (w : World) (μ' : Nat → Option aJ) (σ' : au) (w' : World) : Prop where
  os : w'.os = w.os
  tape : w'.tape = w.tape
  output : w'.output = w.output
  size : w.heap.size ≤ w'.heap.size
  block : ∀ b, b < w.heap.size → ¬ dy μ σ b → w'.heap[b]? = w.heap[b]?
  cells : ∀ b c ty fr, w.heap[b]? = some (.cells c ty fr) → ∃ c', w'.heap[b]? = some (.cells c' ty fr) ∧ c'.size = c.size ∧ ∀ (o : Nat), ¬ bJ μ σ b o → c'[o]? = c[o]?
  own : ∀ b o, bJ μ' σ' b o → bJ μ σ b o ∨ w.heap.size ≤ b
  ownB : ∀ b, dy μ' σ' b → dy μ σ b ∨ w.heap.size ≤ b
  grow : ∀ id p, id < na → μ id = some p → μ' id = some p
theorem aA.ng {na : Nat} {μ μ' : Nat → Option aJ} {σ σ' : au} {w w' : World} (h : aA μ σ w μ' σ' w') : NG na μ σ w μ' σ' w' :=
  ⟨h.os, h.tape, h.output, h.size, h.block, h.cells, h.own, h.ownB, fun id p _ hp => h.grow id p hp⟩
theorem NG.refl (na : Nat) (μ : Nat → Option aJ) (σ : au) (w : World) : NG na μ σ w μ σ w := (aA.refl μ σ w).ng
theorem NG.trans {na : Nat} {μ μ' μ'' : Nat → Option aJ} {σ σ' σ'' : au} {w w' w'' : World} (h : NG na μ σ w μ' σ' w') (k : NG na μ' σ' w' μ'' σ'' w'') : NG na μ σ w μ'' σ'' w'' where
  os := k.os.trans h.os
  tape := k.tape.trans h.tape
  output := k.output.trans h.output
  size := Nat.le_trans h.size k.size
  block b hb hn := (k.block b (Nat.lt_of_lt_of_le hb h.size) (fun ho => (h.ownB b ho).elim hn (by omega))).trans (h.block b hb hn)
  cells b c ty fr hc := by
    obtain ⟨c1, h1, h2, h3⟩ := h.cells b c ty fr hc
    obtain ⟨c2, k1, k2, k3⟩ := k.cells b c1 ty fr h1
    refine ⟨c2, k1, k2.trans h2, fun o ho => (k3 o (fun h' => (h.own b o h').elim ho (fun hh => ?_))).trans (h3 o ho)⟩
    have := b5 hc
    omega
  own b o ho := (k.own b o ho).elim (fun h1 => h.own b o h1) (fun h1 => .inr (Nat.le_trans h.size h1))
  ownB b ho := (k.ownB b ho).elim (fun h1 => h.ownB b h1) (fun h1 => .inr (Nat.le_trans h.size h1))
  grow id p hi hp := k.grow id p hi (h.grow id p hi hp)
section
variable {P : Program} {N na : Nat} {A : Nat → Nat → Prop} {μ μ' : Nat → Option aJ} {T T' : Nat → V} {σ σ' : au} {w w' : World} {a : Act} {n n' : Nat}
def qH (N na : Nat) (A : Nat → Nat → Prop) (Q : Exit → S → Prop) (μ : Nat → Option aJ) (σ : au) (w : World) : Exit → Act → World → Prop :=
  fun e a' w' => kQ e ∧ ∃ s' μ', Q e s' ∧ cb N A μ' s' a' w' ∧ NG na μ σ w μ' s'.σ w'
def az (P : Program) (N na : Nat) (c : bk) (Q : Exit → S → Prop) (s : S) : Prop :=
  ∀ code, ct P N c code = true → ∀ A μ a w, cb N A μ s a w → code.wp P (qH N na A Q μ s.σ w) a w
def a8 (na : Nat) (s s0 : S) : Prop :=
  ∀ N A μ a w, cb N A μ s a w → ∃ μ0, cb N A μ0 s0 a w ∧ NG na μ s.σ w μ0 s0.σ w
theorem a8.refl (s : S) : a8 na s s := fun _ _ μ _ _ h => ⟨μ, h, NG.refl _ _ _ _⟩
theorem a8.trans {s s1 s2 : S} (h : a8 na s s1) (k : a8 na s1 s2) : a8 na s s2 := by
  intro N A μ a w hs
  obtain ⟨μ1, h1, h2⟩ := h N A μ a w hs
  obtain ⟨μ2, h3, h4⟩ := k N A μ1 a w h1
  exact ⟨μ2, h3, h2.trans h4⟩
theorem bv.nwp {c : bk} {Q : Exit → S → Prop} {s : S} (h : bv P N c Q s) : az P N na c Q s :=
  fun code hc A μ a w hs => wp_mono (h code hc A μ a w hs) fun e a w ⟨h1, s', μ', h2, h3, h4, _⟩ => ⟨h1, s', μ', h2, h3, h4.ng⟩
theorem az.mono {c : bk} {Q Q' : Exit → S → Prop} {s : S} (h : az P N na c Q s) (hq : ∀ e s, Q e s → Q' e s) : az P N na c Q' s :=
  fun code hc A μ a w hs => wp_mono (h code hc A μ a w hs) fun e a w ⟨h1, s', μ', h2, h3⟩ => ⟨h1, s', μ', hq _ _ h2, h3⟩
theorem az.norm {c : bk} {Q : Exit → S → Prop} {s s0 : S} (hn : a8 na s s0) (h : az P N na c Q s0) : az P N na c Q s := by
  intro code hc A μ a w hs
  obtain ⟨μ0, h1, h2⟩ := hn N A μ a w hs
  exact wp_mono (h code hc A μ0 a w h1) fun e a w ⟨g1, s', μ', g2, g3, g4⟩ => ⟨g1, s', μ', g2, g3, h2.trans g4⟩
theorem az.post {c : bk} {Q : Exit → S → Prop} {s : S} (h : az P N na c (fun e s' => ∃ s0, a8 na s' s0 ∧ Q e s0) s) : az P N na c Q s := by
  intro code hc A μ a w hs
  refine wp_mono (h code hc A μ a w hs) fun e a w ⟨g1, s', μ', ⟨s0, hn, hq⟩, g3, g4⟩ => ?_
  obtain ⟨μ0, h1, h2⟩ := hn N A μ' a w g3
  exact ⟨g1, s0, μ0, hq, h1, g4.trans h2⟩
theorem bN {Q : Exit → S → Prop} {s : S} (h : Q .normal s) : az P N na .skip Q s := (bv.skip h).nwp
theorem bE {Q : Exit → S → Prop} {s : S} (h : Q .ret s) : az P N na .ret Q s := (bv.ret h).nwp
theorem dG {Q : Exit → S → Prop} {s : S} {id : Nat} (h : Q (.exit id) s) : az P N na (.exit id) Q s := (bv.exit h).nwp
theorem az.ops {Q : Exit → S → Prop} {s : S} {d : Bool} {l : List aQ} (h : aV P l s fun s' => ∃ s0, a8 na s' s0 ∧ Q .normal s0) : az P N na (.ops d l) Q s :=
  az.post (bv.nwp (bv.ops h))
theorem a9 {Q : Exit → S → Prop} {s : S} {x y : bk} (h : az P N na x (fun e s' => match e with | .normal => az P N na y Q s' | e => Q e s') s) : az P N na (.seq x y) Q s := by
  intro code hc A μ a w hs
  cases code <;> simp only [ct, Bool.false_eq_true] at hc
  simp only [Bool.and_eq_true] at hc
  refine wp_seq (wp_mono (h _ hc.1 A μ a w hs) fun e a' w' ⟨hp, s', μ', hq, hs', hg⟩ => ?_)
  cases e with
  | normal => exact wp_mono (hq _ hc.2 A μ' a' w' hs') fun e a w ⟨h1, s2, μ2, h2, h3, h4⟩ => ⟨h1, s2, μ2, h2, h3, hg.trans h4⟩
  | exit id => exact ⟨trivial, s', μ', hq, hs', hg⟩
  | ret => exact ⟨trivial, s', μ', hq, hs', hg⟩
  | goto l => exact hp.elim
  | panic c => exact ⟨trivial, s', μ', hq, hs', hg⟩
  | outgrown => exact hp.elim
theorem nD {Q : Exit → S → Prop} {s : S} {d : Bool} {l : List aQ} {y : bk} (h : aV P l s fun s' => ∃ s0, a8 na s' s0 ∧ az P N na y Q s0) : az P N na (.seq (.ops d l) y) Q s :=
  a9 (az.ops h)
theorem az.cond {Q : Exit → S → Prop} {s : S} {x : AX} {c d : bk} {t : Bool} (ht : aD s.T x = .d (.bool t)) (h : az P N na (if t then c else d) Q s) : az P N na (.cond x c d) Q s := by
  intro code hc A μ a w hs
  cases code <;> simp only [ct, Bool.false_eq_true] at hc
  simp only [Bool.and_eq_true] at hc
  have hv := hs.1.ev _ _ hc.1.1
  rw [ht] at hv
  have hv := fp hv
  refine wp_cond hv ?_
  cases t with
  | true => exact h _ hc.1.2 A μ a w hs
  | false => exact h _ hc.2 A μ a w hs
theorem bI {Q : Exit → S → Prop} {s : S} {x : AX} {c d : bk} {t : Bool} (ht : aD s.T x = .d (.bool t)) (hb : t = true) (h : az P N na c Q s) : az P N na (.cond x c d) Q s :=
  az.cond ht (by rw [if_pos hb]; exact h)
theorem bF {Q : Exit → S → Prop} {s : S} {x : AX} {c d : bk} {t : Bool} (ht : aD s.T x = .d (.bool t)) (hb : ¬ t = true) (h : az P N na d Q s) : az P N na (.cond x c d) Q s :=
  az.cond ht (by rw [if_neg hb]; exact h)
theorem cd {Q : Exit → S → Prop} {s : S} {id : Nat} {c : bk} (h : az P N na c (fun e s' => match e with | .exit j => if j = id then Q .normal s' else Q (.exit j) s' | e => Q e s') s) : az P N na (.block id c) Q s := by
  intro code hc A μ a w hs
  cases code <;> simp only [ct, Bool.false_eq_true] at hc
  simp only [Bool.and_eq_true, beq_iff_eq] at hc
  obtain ⟨rfl, hc⟩ := hc
  refine wp_block (wp_mono (h _ hc A μ a w hs) fun e a' w' ⟨hp, s', μ', hq, hs', hg⟩ => ?_)
  cases e with
  | normal => exact ⟨trivial, s', μ', hq, hs', hg⟩
  | exit j =>
    simp only [Exit.inBlock]
    simp only at hq
    split
    · rename_i e; rw [if_pos e] at hq; exact ⟨trivial, s', μ', hq, hs', hg⟩
    · rename_i e; rw [if_neg e] at hq; exact ⟨trivial, s', μ', hq, hs', hg⟩
  | ret => exact ⟨trivial, s', μ', hq, hs', hg⟩
  | goto l => exact hp.elim
  | panic c => exact ⟨trivial, s', μ', hq, hs', hg⟩
  | outgrown => exact hp.elim
theorem gL {Q : Exit → S → Prop} {s : S} {c : bk} (h : az P N na c (fun e s' => match e with | .normal => az P N na (.loop c) Q s' | e => Q e s') s) : az P N na (.loop c) Q s := by
  intro code hc A μ a w hs
  cases code <;> simp only [ct, Bool.false_eq_true] at hc
  rename_i c'
  refine nw (fun e a w h => h.1) (wp_mono (h _ hc A μ a w hs) fun e a' w' ⟨hp, s', μ', hq, hs', hg⟩ => ?_)
  cases e with
  | normal => exact wp_mono (hq (.loop c') hc A μ' a' w' hs') fun e a w ⟨h1, s2, μ2, h2, h3, h4⟩ => ⟨h1, s2, μ2, h2, h3, hg.trans h4⟩
  | exit id => exact ⟨trivial, s', μ', hq, hs', hg⟩
  | ret => exact ⟨trivial, s', μ', hq, hs', hg⟩
  | goto l => exact hp.elim
  | panic c => exact ⟨trivial, s', μ', hq, hs', hg⟩
  | outgrown => exact hp.elim
def tab : List (Nat × V) → Nat → V
  | [], _ => V.undef
  | (s, v) :: l, i => if i = s then v else tab l i
def ag : List (Nat × aK) → au
  | [], _ => none
  | (s, v) :: l, i => if i = s then some v else ag l i
inductive VN (ρ : Nat → Nat) (n0 : Nat) : V → V → Prop
  | d (x : D) : VN ρ n0 (.d x) (.d x)
  | sub (x y : D) : cK x y → VN ρ n0 (.d x) (.d y)
  | undef (x : V) : VN ρ n0 x V.undef
  | nne (id : Nat) (k : Option Nat) : VN ρ n0 (.mapr id) (.d (.vec k []))
  | mp (id : Nat) : VN ρ n0 (.mapr id) (.mapr id)
  | loc (id off len : Nat) : id < n0 → VN ρ n0 (.loc (ρ id) off len) (.loc id off len)
  | ptr (id i j : Nat) : id < n0 → VN ρ n0 (.ptr (ρ id) i j) (.ptr id i j)
  | mref (id : Nat) : id < n0 → VN ρ n0 (.mref (ρ id)) (.mref id)
  | func (f : Nat) (vs us : List V) : vs.length = us.length → (∀ (i : Nat) x y, vs[i]? = some x → us[i]? = some y → VN ρ n0 x y) → VN ρ n0 (.func f vs) (.func f us)
  | agg (vs us : List V) : vs.length = us.length → (∀ (i : Nat) x y, vs[i]? = some x → us[i]? = some y → VN ρ n0 x y) → VN ρ n0 (.agg vs) (.agg us)
  | tup (vs us : List V) : vs.length = us.length → (∀ (i : Nat) x y, vs[i]? = some x → us[i]? = some y → VN ρ n0 x y) → VN ρ n0 (.tup vs) (.tup us)
inductive BN (ρ : Nat → Nat) (n0 : Nat) : aK → aK → Prop
  | lst (m : Bool) (k : Option Nat) (els : List D) : BN ρ n0 (.lst m k els) (.lst m k els)
  | frz (m : Bool) (k : Option Nat) (els : List D) : BN ρ n0 (.lst m k els) (.lst false k els)
  | var (vs us : List V) : vs.length = us.length → (∀ (i : Nat) x y, vs[i]? = some x → us[i]? = some y → VN ρ n0 x y) → BN ρ n0 (.var vs) (.var us)
  | mp (es : List (D × D)) : BN ρ n0 (.mp es) (.mp es)
theorem VN.sound {ρ : Nat → Nat} {n0 : Nat} {μ0 : Nat → Option aJ} {O : Nat → Nat → Prop} (hμ : ∀ id, id < n0 → μ0 id = μ (ρ id)) {x y : V} (h : VN ρ n0 x y) : ∀ {u : Value}, aw μ O w x u → aw μ0 O w y u := by
  induction h with
  | d x => exact fun h => by cases h with | d _ _ h => exact .d _ _ h
  | sub x y hs => exact fun h => by cases h with | d _ _ h => exact .d _ _ (h.sub hs)
  | undef x => exact fun _ => .d _ _ (.undef _)
  | nne id k => exact fun h => by cases h with | nne _ _ _ h => exact .d _ _ (h k)
  | mp id => exact fun h => by cases h with | nne _ a c h => exact .nne id a c h
  | loc id off len hid =>
    intro u h
    cases h with
    | loc0 _ _ a h1 => exact .loc0 id off a (by rw [hμ id hid]; exact h1)
    | loc _ _ _ b k cap h1 h2 h3 h4 => exact .loc id off len b k cap (by rw [hμ id hid]; exact h1) h2 h3 h4
  | ptr id i j hid =>
    intro u h
    cases h with
    | ptr _ _ _ b k h1 => exact .ptr id i j b k (by rw [hμ id hid]; exact h1)
  | mref id hid =>
    intro u h
    cases h with
    | mref _ b k h1 => exact .mref id b k (by rw [hμ id hid]; exact h1)
  | func f vs us hl _ ih =>
    intro u h
    cases h with
    | func _ _ cs h1 h2 =>
      refine .func f us cs (by omega) fun i x v hx hv => ?_
      have hi : i < vs.length := by have := (List.getElem?_eq_some_iff.1 hx).1; omega
      exact ih i vs[i] x (by simp [hi]) hx (h2 i vs[i] v (by simp [hi]) hv)
  | agg vs us hl _ ih =>
    intro u h
    cases h with
    | agg _ cs h1 h2 =>
      refine .agg us cs (by omega) fun i x v hx hv => ?_
      have hi : i < vs.length := by have := (List.getElem?_eq_some_iff.1 hx).1; omega
      exact ih i vs[i] x (by simp [hi]) hx (h2 i vs[i] v (by simp [hi]) hv)
  | tup vs us hl _ ih =>
    intro u h
    cases h with
    | tup _ cs h1 h2 =>
      refine .tup us cs (by omega) fun i x v hx hv => ?_
      have hi : i < vs.length := by have := (List.getElem?_eq_some_iff.1 hx).1; omega
      exact ih i vs[i] x (by simp [hi]) hx (h2 i vs[i] v (by simp [hi]) hv)
theorem BN.owns {ρ : Nat → Nat} {n0 : Nat} {x y : aK} (h : BN ρ n0 x y) {p : Option aJ} {b o : Nat} (ho : y.ownsAt p b o) : x.ownsAt p b o := by
  cases h with
  | lst => exact ho
  | mp => exact ho
  | frz m k els =>
    cases m with
    | false => exact ho
    | true =>
      cases p with
      | none => exact ho.elim
      | some p => cases p with
        | nil => exact ho.elim
        | «at» b0 k0 => exact ho.1
  | var vs us =>
    cases p with
    | none => exact ho.elim
    | some p => cases p with
      | nil => exact ho.elim
      | «at» b0 k0 => exact ho
theorem a8.of {s : S} {T0 : Nat → V} {σ0 : au} (ρ : Nat → Nat) (n0 : Nat) (hle : na ≤ n0) (hna : ∀ id, id < na → ρ id = id) (hinj : ∀ a b, σ0 a ≠ none → σ0 b ≠ none → ρ a = ρ b → a = b)
    (hT : ∀ i, VN ρ n0 (s.T i) (T0 i)) (hσ : ∀ id blk, σ0 id = some blk → id < n0 ∧ ∃ b', s.σ (ρ id) = some b' ∧ BN ρ n0 b' blk) : a8 na s ⟨T0, σ0, n0⟩ := by
  intro N A μ a w ⟨hs, hfr⟩
  let μ0 : Nat → Option aJ := fun id => if id < n0 then μ (ρ id) else none
  have hμ : ∀ id, id < n0 → μ0 id = μ (ρ id) := fun id h => if_pos h
  have hown : ∀ b o, bJ μ0 σ0 b o → bJ μ s.σ b o := by
    rintro b o ⟨id, blk, h1, h2⟩
    obtain ⟨h3, b', h4, h5⟩ := hσ id blk h1
    rw [hμ id h3] at h2
    exact ⟨ρ id, b', h4, h5.owns h2⟩
  have hownB : ∀ b, dy μ0 σ0 b → dy μ s.σ b := by
    rintro b ⟨id, blk, k, h1, h2⟩
    obtain ⟨h3, b', h4, h5⟩ := hσ id blk h1
    rw [hμ id h3] at h2
    exact ⟨ρ id, b', k, h4, h2⟩
  have hfull : ∀ b o, ak A μ0 σ0 b o → ak A μ s.σ b o := fun b o h => h.elim (fun h => .inl (hown b o h)) .inr
  have hD : ∀ {d : D} {u : Value}, DRel (ak A μ s.σ) w d u → DRel (ak A μ0 σ0) w d u := fun h => h.mono fun b o v h1 h2 => ⟨h1, fun h3 => h2 (hfull b o h3)⟩
  have hV : ∀ {v : V} {u : Value}, aw μ (ak A μ s.σ) w v u → aw μ (ak A μ0 σ0) w v u := fun h => h.mono (fun b o v h1 h2 => ⟨h1, fun h3 => h2 (hfull b o h3)⟩) (fun _ _ h => h) (fun _ _ h => h)
  refine ⟨μ0, ⟨⟨hs.size, hs.defers, fun i => (hT i).sound hμ (hV (hs.tmps i)), ?_⟩, fun id h => if_neg (by simp only at h; omega)⟩, ?_⟩
  · refine ⟨fun id blk h => ?_, fun id id' x y b k k' h1 h2 h3 h4 => ?_, fun id x b k h1 h2 o => ?_, hs.store.alt, hs.store.glob.mono fun b o v h1 h2 => ⟨h1, fun h3 => h2 (hfull b o h3)⟩⟩
    · obtain ⟨h3, b', h4, h5⟩ := hσ id blk h
      have hb := hs.store.blks _ _ h4
      have lst : ∀ m m' k els, bD (ak A μ s.σ) μ w (ρ id) (.lst m k els) → bD (ak A μ0 σ0) μ0 w id (.lst m' k els) := by
        intro m m' k els hb
        rcases hb with ⟨g1, g2⟩ | ⟨b, c, ty, fr, g1, g2, g3, g4, g5⟩
        · exact .inl ⟨by rw [hμ id h3]; exact g1, g2⟩
        · exact .inr ⟨b, c, ty, fr, by rw [hμ id h3]; exact g1, g2, g3, g4, fun i d hd => ⟨(g5 i d hd).1, fun j x hx => by
            obtain ⟨v, q1, q2, q3⟩ := (g5 i d hd).2 j x hx
            exact ⟨v, q1, q2, hD q3⟩⟩⟩
      cases h5 with
      | lst m k els => exact lst m m k els hb
      | frz m k els => exact lst m false k els hb
      | var vs us hl hvs =>
        obtain ⟨b, c, ty, fr, g1, g2, g3, g4, g5⟩ := hb
        refine ⟨b, c, ty, fr, by rw [hμ id h3]; exact g1, g2, g3, by omega, fun i x v hx hv => ?_⟩
        have hi : i < vs.length := by have := (List.getElem?_eq_some_iff.1 hx).1; omega
        obtain ⟨q1, q2⟩ := g5 i vs[i] v (by simp [hi]) hv
        exact ⟨q1, (hvs i vs[i] x (by simp [hi]) hx).sound hμ (hV q2)⟩
      | mp es =>
        obtain ⟨b, c, clk, g1, g2, g3, g4⟩ := hb
        exact ⟨b, c, clk, by rw [hμ id h3]; exact g1, g2, g3, fun i p e hp he => ⟨hD (g4 i p e hp he).1, hD (g4 i p e hp he).2⟩⟩
    · obtain ⟨g1, x', g2, _⟩ := hσ id x h1
      obtain ⟨q1, y', q2, _⟩ := hσ id' y h2
      rw [hμ id g1] at h3
      rw [hμ id' q1] at h4
      exact hinj _ _ (fun e => by have h1' : σ0 id = some x := h1; rw [e] at h1'; cases h1') (fun e => by have h2' : σ0 id' = some y := h2; rw [e] at h2'; cases h2') (hs.store.inj _ _ _ _ _ _ _ g2 q2 h3 h4)
    · obtain ⟨g1, x', g2, _⟩ := hσ id x h1
      rw [hμ id g1] at h2
      exact hs.store.amb _ _ _ _ g2 h2 o
  · exact ⟨rfl, rfl, rfl, Nat.le_refl _, fun _ _ _ => rfl, fun _ c _ _ h => ⟨c, h, rfl, fun _ _ => rfl⟩, fun b o h => .inl (hown b o h), fun b h => .inl (hownB b h),
      fun id p h hp => by rw [hμ id (by omega), hna id h]; exact hp⟩
def TN (ρ : Nat → Nat) (n0 : Nat) (T : Nat → V) : List (Nat × V) → Prop
  | [] => True
  | p :: l => VN ρ n0 (T p.1) p.2 ∧ TN ρ n0 T l
def SN (ρ : Nat → Nat) (n0 : Nat) (σ : au) : List (Nat × aK) → Prop
  | [] => True
  | p :: l => (p.1 < n0 ∧ ∃ b', σ (ρ p.1) = some b' ∧ BN ρ n0 b' p.2) ∧ SN ρ n0 σ l
theorem TN.all {ρ : Nat → Nat} {n0 : Nat} {T : Nat → V} : ∀ {l : List (Nat × V)}, TN ρ n0 T l → ∀ i, VN ρ n0 (T i) (tab l i)
  | [], _, i => .undef _
  | (s, v) :: l, h, i => by
    simp only [tab]
    split
    · rename_i e; subst e; exact h.1
    · exact h.2.all i
theorem SN.all {ρ : Nat → Nat} {n0 : Nat} {σ : au} : ∀ {l : List (Nat × aK)}, SN ρ n0 σ l → ∀ id blk, ag l id = some blk → id < n0 ∧ ∃ b', σ (ρ id) = some b' ∧ BN ρ n0 b' blk
  | [], _, i, blk, h => by cases h
  | (s, v) :: l, h, i, blk, hb => by
    simp only [ag] at hb
    split at hb
    · rename_i e; subst e; cases hb; exact h.1
    · exact h.2.all i blk hb
def rn (rl : List Nat) (i : Nat) : Nat := rl.getD i 0
theorem a8.mk (rl : List Nat) {s : S} {l : List (Nat × V)} {bl : List (Nat × aK)} (h1 : rl.Nodup) (h2 : rl.take na = List.range na) (h3 : na ≤ rl.length) (hT : TN (rn rl) rl.length s.T l) (hσ : SN (rn rl) rl.length s.σ bl) :
    a8 na s ⟨tab l, ag bl, rl.length⟩ := by
  refine a8.of (rn rl) rl.length h3 (fun id h => ?_) (fun a b ha hb h => ?_) hT.all hσ.all
  rotate_left
  · have lt : ∀ id, ag bl id ≠ none → id < rl.length := fun id hid => by
      cases hq : ag bl id with
      | none => exact (hid hq).elim
      | some blk => exact (hσ.all id blk hq).1
    have ha := lt a ha
    have hb := lt b hb
    simp only [rn, List.getD_eq_getElem?_getD, bt ha, bt hb, Option.getD_some] at h
    exact (List.getElem_inj h1).1 h
  · have : (rl.take na)[id]? = (List.range na)[id]? := by rw [h2]
    rw [List.getElem?_take, if_pos h, List.getElem?_range h] at this
    simp [rn, List.getD_eq_getElem?_getD, this]
theorem nE {α β : Type} {f : α → β} : ∀ {l : List α}, (l.map f).Nodup → ∀ {x y : α}, x ∈ l → y ∈ l → f x = f y → x = y
  | [], _, _, _, h, _, _ => by simp at h
  | a :: l, h, x, y, hx, hy, e => by
    simp only [List.map_cons, List.nodup_cons, List.mem_map, not_exists, not_and] at h
    rcases List.mem_cons.1 hx with rfl | hx' <;> rcases List.mem_cons.1 hy with rfl | hy'
    · rfl
    · exact (h.1 y hy' e.symm).elim
    · exact (h.1 x hx' e).elim
    · exact nE h.2 hx' hy' e
theorem kV : ∀ {bl : List (Nat × aK)} {id : Nat}, ag bl id ≠ none → id ∈ bl.map (·.1)
  | [], _, h => (h rfl).elim
  | (s, v) :: bl, id, h => by
    simp only [ag] at h
    by_cases e : id = s
    · subst e; simp
    · rw [if_neg e] at h
      simp only [List.map_cons, List.mem_cons]
      exact .inr (kV h)
theorem qI (rl ks : List Nat) {s : S} {l : List (Nat × V)} {bl : List (Nat × aK)} (h1 : (ks.map (rn rl)).Nodup) (hk : bl.map (·.1) = ks) (h2 : rl.take na = List.range na) (h3 : na ≤ rl.length) (hT : TN (rn rl) rl.length s.T l) (hσ : SN (rn rl) rl.length s.σ bl) :
    a8 na s ⟨tab l, ag bl, rl.length⟩ := by
  refine a8.of (rn rl) rl.length h3 (fun id h => ?_) (fun a b ha hb h => ?_) hT.all hσ.all
  · have : (rl.take na)[id]? = (List.range na)[id]? := by rw [h2]
    rw [List.getElem?_take, if_pos h, List.getElem?_range h] at this
    simp [rn, List.getD_eq_getElem?_getD, this]
  · subst hk
    exact nE h1 (kV ha) (kV hb) h
theorem a8.imm {s : S} (T' : Nat → V) {id : Nat} {m : Bool} {k : Option Nat} {els : List D} (hid : s.σ id = some (.lst m k els)) (hT : ∀ i, d7 id k els (s.T i) (T' i)) : a8 na s ⟨T', aj s.σ id none, s.n⟩ := by
  intro N A μ a w ⟨hs, hfr⟩
  have hσ : ∀ j blk, aj s.σ id none j = some blk → s.σ j = some blk := by
    intro j blk h
    by_cases e : j = id
    · subst e; simp [aL] at h
    · rw [aG _ _ e] at h; exact h
  exact ⟨μ, ⟨⟨hs.size, hs.defers, fun i => (hT i).sound hs.store hid (hs.tmps i), hs.store.drop hσ⟩, hfr⟩, (aA.drop hσ).ng⟩
theorem a8.nil {s : S} (T' : Nat → V) (m : Bool) (k : Option Nat) (hT : ∀ i, T' i = s.T i ∨ (T' i = .loc s.n 0 0 ∧ s.T i = .d .nils)) : a8 na s ⟨T', aj s.σ s.n (some (.lst m k [])), s.n + 1⟩ := by
  intro N A μ a w ⟨hs, hfr⟩
  have hn : μ s.n = none := hfr _ (Nat.le_refl _)
  have hσn : s.σ s.n = none := pd hs.store hn
  have hμ : ∀ j p, μ j = some p → aj μ s.n (some .nil) j = some p := by
    intro j p h
    by_cases e : j = s.n
    · subst e; rw [hn] at h; cases h
    · rw [aG _ _ e]; exact h
  have hown : ∀ b o, bJ (aj μ s.n (some .nil)) (aj s.σ s.n (some (.lst m k []))) b o → bJ μ s.σ b o := by
    rintro b o ⟨j, blk, h1, h2⟩
    by_cases e : j = s.n
    · subst e; rw [aL] at h1 h2; cases h1; cases m <;> exact h2.elim
    · rw [aG _ _ e] at h1 h2; exact ⟨j, blk, h1, h2⟩
  have hownB : ∀ b, dy (aj μ s.n (some .nil)) (aj s.σ s.n (some (.lst m k []))) b → dy μ s.σ b := by
    rintro b ⟨j, blk, kk, h1, h2⟩
    by_cases e : j = s.n
    · subst e; rw [aL] at h2; cases h2
    · rw [aG _ _ e] at h1 h2; exact ⟨j, blk, kk, h1, h2⟩
  have hfull : ∀ b o, ak A (aj μ s.n (some .nil)) (aj s.σ s.n (some (.lst m k []))) b o → ak A μ s.σ b o := fun b o h => h.elim (fun h => .inl (hown b o h)) .inr
  have hg : aA μ s.σ w (aj μ s.n (some .nil)) (aj s.σ s.n (some (.lst m k []))) w :=
    ⟨rfl, rfl, rfl, Nat.le_refl _, fun _ _ _ => rfl, fun _ c _ _ h => ⟨c, h, rfl, fun _ _ => rfl⟩, fun b o h => .inl (hown b o h), fun b h => .inl (hownB b h), hμ⟩
  refine ⟨aj μ s.n (some .nil), ⟨⟨hs.size, hs.defers, fun i => ?_, ⟨fun j blk h => ?_, fun j j' x y b k1 k2 h1 h2 h3 h4 => ?_, fun j x b k1 h1 h2 => ?_, hs.store.alt, hs.store.glob.mono (hg.keepCell hs.store.alt)⟩⟩, fun id h => ?_⟩, hg.ng⟩
  · rcases hT i with h | ⟨h, h'⟩
    · simp only [h]; exact hg.keepV hs.store.alt (hs.tmps i)
    · simp only [h]
      have := hs.tmps i
      rw [h'] at this
      generalize a.tmps.getD i Go.undef = u at this
      cases this with | d _ _ hd => cases hd; exact .loc0 _ _ _ (by simp [aL])
  · simp only at h
    by_cases e : j = s.n
    · subst e; rw [aL] at h; cases h; exact .inl ⟨aL _ _ _, rfl⟩
    · rw [aG _ _ e] at h
      exact bD.keep hg hs.store.alt (fun b k h => rfl) (hs.store.blks j blk h)
  · simp only at h1 h2
    have ne : ∀ {q b' kk}, aj μ s.n (some .nil) q = some (.at b' kk) → q ≠ s.n := by rintro q b' kk h rfl; rw [aL] at h; cases h
    have n1 := ne h3
    have n2 := ne h4
    rw [aG _ _ n1] at h1 h3
    rw [aG _ _ n2] at h2 h4
    exact hs.store.inj j j' x y b k1 k2 h1 h2 h3 h4
  · simp only at h1
    have n1 : j ≠ s.n := by rintro rfl; rw [aL] at h2; cases h2
    rw [aG _ _ n1] at h1 h2
    exact hs.store.amb j x b k1 h1 h2
  · have : id ≠ s.n := by simp only at h; omega
    rw [aG _ _ this]
    exact hfr id (by simp only at h; omega)
end
end Go.AM
