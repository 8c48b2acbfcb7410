import Derived.Test.YtfjelgjfbjjopaaAmMp
import Derived.Test.YtfjelgjfbjjopaaAmN6
import Derived.RangeFuncNested
import Derived.RangeFuncBound
import Derived.RangeFuncCalls
import Derived.RangeFuncLeaves
import Derived.OwnWalkIn
import Derived.TacticsInMore
/-  Several texts in one. -/
section
set_option linter.unusedVariables false
set_option linter.unusedSectionVars false
set_option linter.unusedSimpArgs false
namespace Go.AM
open Go Go.RowKit
variable [Glob]
variable {P : Program} {na : Nat}
theorem sg {s : S} (t : Nat) {id j : Nat} {ds : List D} (hT : s.T t = .ptr id 0 j) (hid : s.σ id = some (.var (ds.map V.d))) : a8 na s ⟨fZ s.T [t] (.d (.cptr (some ds.length) (.agg ds) j)), aj s.σ id none, s.n⟩ := by
  intro N A μ a w ⟨hs, hfr⟩
  have hσ : ∀ j blk, aj s.σ id none j = some blk → s.σ j = some blk := by
    intro j blk h
    by_cases e : j = id
    · subst e; simp [aL] at h
    · rw [aG _ _ e] at h; exact h
  refine ⟨μ, ⟨⟨hs.size, hs.defers, fun i => ?_, hs.store.drop hσ⟩, hfr⟩, (aA.drop hσ).ng⟩
  unfold fZ
  by_cases c : i = t
  · subst c
    have : ([i] : List Nat).contains i = true := by simp
    simp only [this, if_true]
    have h0 := hs.tmps i
    rw [hT] at h0
    generalize a.tmps.getD i Go.undef = u at h0 ⊢
    cases h0 with
    | ptr _ _ _ b k hp =>
      obtain ⟨b', cc, ty, fr, g1, g2, g3, g4, g5⟩ := hs.store.blks id _ hid
      rw [g1] at hp; cases hp
      have hno : ∀ o, ¬ ak A μ (aj s.σ id none) b o := by
        rintro o (ho | ho)
        · obtain ⟨j', blk, k', h1, h2⟩ := gp ho
          have e := hs.store.inj j' id blk _ b k' none (hσ _ _ h1) hid h2 g1
          subst e
          simp [aL] at h1
        · exact hs.store.amb id _ b none hid g1 o ho
      have key : ∀ (i : Nat) y, ds[i]? = some y → ∃ v, cc[i]? = some v ∧ v.oneCell' = true ∧ DRel (ak A μ (aj s.σ id none)) w y v := by
        intro i y hy
        have hi : i < ds.length := (List.getElem?_eq_some_iff.1 hy).1
        have hlt : i < cc.size := by rw [← g4]; simpa using hi
        obtain ⟨q1, q2⟩ := g5 i (.d y) (cc[i]'hlt) (by simp [hy]) (by simp)
        cases q2 with
        | d _ _ h => exact ⟨_, by simp, q1, (aA.drop hσ).keepD hs.store.alt h⟩
      refine .d _ _ ?_
      have := DRel.cptr (own := ak A μ (aj s.σ id none)) (w := w) (some ds.length) (.agg ds) j b 0 (fun i => cc.getD i Go.undef) (by simp [D.shape]) (fun i y hy => by
          obtain ⟨v, h1, _⟩ := key i y hy
          rw [cD g2]; simp [h1]) (fun i y hy => hno _) (fun i y hy => by
          obtain ⟨v, h1, _, h3⟩ := key i y hy
          simpa [h1] using h3) (fun i y hy => by
          obtain ⟨v, h1, h2, _⟩ := key i y hy
          simpa [h1] using h2)
      simpa using this
  · have : ([t] : List Nat).contains i = false := by simpa using c
    simp only [this, Bool.false_eq_true, if_false]
    exact (aA.drop hσ).keepV hs.store.alt (hs.tmps i)
theorem sh {α : Type} {e : α → D} {k : Option Nat} {T : Nat → V} {σ : au} {n : Nat} {x y : AX} {xs : List α} {z : α} {l c : Int} (h : dL l z = some xs) (hx : aD T x = .d (.int .i64 l)) (hy : aD T y = .d (.int .i64 c)) (hc : l ≤ c ∧ c ≤ 4294967296) :
    ay (.mkslD k (e z) x y) (aD T) σ n = some (.d (.vec k (xs.map e)), σ, n) := by
  unfold dL at h
  split at h
  · rename_i hh
    cases h
    simp only [ay, hx, hy, if_pos (show 0 ≤ l ∧ l ≤ c ∧ c ≤ 4294967296 from ⟨hh.1, hc.1, hc.2⟩)]
    simp
  · cases h
theorem si {s : S} (id j id2 : Nat) {cs : List V} {m : Bool} {k : Option Nat} {els : List D} (hid : s.σ id = some (.var cs)) (hj : cs[j]? = some (.loc id2 0 els.length)) (h2 : s.σ id2 = some (.lst m k els)) (hne : id ≠ id2) :
    a8 na s ⟨s.T, aj (aj s.σ id2 none) id (some (.var (cs.set j (.d (.vec k els))))), s.n⟩ := by
  intro N A μ a w ⟨hs, hfr⟩
  have hsub : ∀ i blk, aj (aj s.σ id2 none) id (some (.var (cs.set j (.d (.vec k els))))) i = some blk → (i = id ∧ blk = .var (cs.set j (.d (.vec k els)))) ∨ (i ≠ id ∧ i ≠ id2 ∧ s.σ i = some blk) := by
    intro i blk h
    by_cases e : i = id
    · subst e; rw [aL] at h; cases h; exact .inl ⟨rfl, rfl⟩
    · rw [aG _ _ e] at h
      by_cases e2 : i = id2
      · subst e2; rw [aL] at h; cases h
      · rw [aG _ _ e2] at h; exact .inr ⟨e, e2, h⟩
  have hown : ∀ b o, bJ μ (aj (aj s.σ id2 none) id (some (.var (cs.set j (.d (.vec k els)))))) b o → bJ μ (aj s.σ id2 (some (.lst false k els))) b o := by
    rintro b o ⟨i, blk, g1, g2⟩
    rcases hsub i blk g1 with ⟨rfl, rfl⟩ | ⟨e1, e2, g3⟩
    · refine ⟨i, .var cs, by rw [aG _ _ hne]; exact hid, ?_⟩
      cases hm : μ i with
      | none => rw [hm] at g2; exact g2.elim
      | some p => cases p with
        | nil => rw [hm] at g2; exact g2.elim
        | «at» b0 k0 => rw [hm] at g2; exact g2
    · exact ⟨i, blk, by rw [aG _ _ e2]; exact g3, g2⟩
  have hown0 : ∀ b o, bJ μ (aj (aj s.σ id2 none) id (some (.var (cs.set j (.d (.vec k els)))))) b o → bJ μ s.σ b o := fun b o h => by
    obtain ⟨i, blk, g1, g2⟩ := hown b o h
    exact nA h2 g1 g2
  have hfull : ∀ b o, ak A μ (aj (aj s.σ id2 none) id (some (.var (cs.set j (.d (.vec k els)))))) b o → ak A μ (aj s.σ id2 (some (.lst false k els))) b o := fun b o h => h.elim (fun h => .inl (hown b o h)) .inr
  have hfull0 : ∀ b o, ak A μ (aj (aj s.σ id2 none) id (some (.var (cs.set j (.d (.vec k els)))))) b o → ak A μ s.σ b o := fun b o h => h.elim (fun h => .inl (hown0 b o h)) .inr
  have hV : ∀ {v : V} {u : Value}, aw μ (ak A μ s.σ) w v u → aw μ (ak A μ (aj (aj s.σ id2 none) id (some (.var (cs.set j (.d (.vec k els))))))) w v u := fun h => h.mono (fun b o v g1 g2 => ⟨g1, fun g => g2 (hfull0 b o g)⟩) (fun _ _ g => g) (fun _ _ g => g)
  have hD : ∀ {d : D} {u : Value}, DRel (ak A μ s.σ) w d u → DRel (ak A μ (aj (aj s.σ id2 none) id (some (.var (cs.set j (.d (.vec k els))))))) w d u := fun h => h.mono fun b o v g1 g2 => ⟨g1, fun g => g2 (hfull0 b o g)⟩
  refine ⟨μ, ⟨⟨hs.size, hs.defers, fun i => hV (hs.tmps i), ⟨fun i blk hi => ?_, fun i i' x y b k1 k2 h3 h4 h5 h6 => ?_, fun i x b k1 h3 h4 => ?_, hs.store.alt, hs.store.glob.mono fun b o v g1 g2 => ⟨g1, fun g => g2 (hfull0 b o g)⟩⟩⟩, hfr⟩, ?_⟩
  · rcases hsub i blk hi with ⟨rfl, rfl⟩ | ⟨e1, e2, g3⟩
    · obtain ⟨b, c, ty, fr, g1, g2, g3, g4, g5⟩ := hs.store.blks i _ hid
      refine ⟨b, c, ty, fr, g1, g2, g3, by simpa using g4, fun q x v hx hv => ?_⟩
      by_cases e : q = j
      · subst e
        have hlt := (List.getElem?_eq_some_iff.1 hj).1
        rw [List.getElem?_set_self hlt] at hx
        cases hx
        obtain ⟨r1, r2⟩ := g5 q _ v hj hv
        have := fS (hs.store.frz h2) (v := .loc id2 0 els.length) (d := .vec k els) (by simp [cJ, aL]) ((aA.frz (w := w) h2).keepV hs.store.alt r2)
        exact ⟨r1, .d _ _ (this.mono fun b o v g1 g2 => ⟨g1, fun g => g2 (hfull b o g)⟩)⟩
      · rw [List.getElem?_set_ne (Ne.symm e)] at hx
        exact ⟨(g5 q x v hx hv).1, hV (g5 q x v hx hv).2⟩
    · have hb := hs.store.blks i blk g3
      cases blk with
      | lst m' k' els' =>
        rcases hb with ⟨h1, h2⟩ | ⟨b, c, ty, fr, h1, h2, h3, h4, h5⟩
        · exact .inl ⟨h1, h2⟩
        · refine .inr ⟨b, c, ty, fr, h1, h2, h3, h4, fun i d hi => ⟨(h5 i d hi).1, fun j x hj => ?_⟩⟩
          obtain ⟨v, hv, ho, hr⟩ := (h5 i d hi).2 j x hj
          exact ⟨v, hv, ho, hD hr⟩
      | var cs' =>
        obtain ⟨b, c, ty, fr, h1, h2, h3, h4, h5⟩ := hb
        exact ⟨b, c, ty, fr, h1, h2, h3, h4, fun i x v hx hv => ⟨(h5 i x v hx hv).1, hV (h5 i x v hx hv).2⟩⟩
      | mp es =>
        obtain ⟨b, c, clk, h1, h2, h3, h4⟩ := hb
        exact ⟨b, c, clk, h1, h2, h3, fun i p e hp he => ⟨hD (h4 i p e hp he).1, hD (h4 i p e hp he).2⟩⟩
  · obtain ⟨x', hx'⟩ : ∃ x', s.σ i = some x' := by
      rcases hsub i x h3 with ⟨rfl, _⟩ | ⟨_, _, g⟩
      · exact ⟨_, hid⟩
      · exact ⟨_, g⟩
    obtain ⟨y', hy'⟩ : ∃ y', s.σ i' = some y' := by
      rcases hsub i' y h4 with ⟨rfl, _⟩ | ⟨_, _, g⟩
      · exact ⟨_, hid⟩
      · exact ⟨_, g⟩
    exact hs.store.inj i i' x' y' b k1 k2 hx' hy' h5 h6
  · obtain ⟨x', hx'⟩ : ∃ x', s.σ i = some x' := by
      rcases hsub i x h3 with ⟨rfl, _⟩ | ⟨_, _, g⟩
      · exact ⟨_, hid⟩
      · exact ⟨_, g⟩
    exact hs.store.amb i x' b k1 hx' h4
  · have hg : aA μ s.σ w μ (aj (aj s.σ id2 none) id (some (.var (cs.set j (.d (.vec k els)))))) w :=
      ⟨rfl, rfl, rfl, Nat.le_refl _, fun _ _ _ => rfl, fun _ c _ _ h => ⟨c, h, rfl, fun _ _ => rfl⟩, fun b o h => .inl (hown0 b o h), fun b ⟨i, blk, kk, g1, g2⟩ => by
        rcases hsub i blk g1 with ⟨rfl, _⟩ | ⟨_, _, g⟩
        · exact .inl ⟨i, _, kk, hid, g2⟩
        · exact .inl ⟨i, _, kk, g, g2⟩, fun _ _ h => h⟩
    exact hg.ng
theorem sj {α : Type} {s : S} (id j id2 : Nat) {cs : List V} {m : Bool} {k : Option Nat} {xs : List α} {e : α → D} (hid : s.σ id = some (.var cs)) (hj : cs[j]? = some (.loc id2 0 xs.length)) (h2 : s.σ id2 = some (.lst m k (xs.map e))) (hne : id ≠ id2) :
    a8 na s ⟨s.T, aj (aj s.σ id2 none) id (some (.var (cs.set j (.d (.vec k (xs.map e)))))), s.n⟩ :=
  si id j id2 hid (by rw [List.length_map]; exact hj) h2 hne
end Go.AM
end
section
set_option linter.unusedVariables false
set_option linter.unusedSectionVars false
set_option linter.unusedSimpArgs false
namespace Go.AM
open Go Go.RowKit
variable [Glob]
variable {P : Program} {N : Nat} {A : Nat → Nat → Prop}
def aM.isCall : aM → Bool
  | .call .. | .callv .. => true
  | _ => false
theorem sk {op : aM} {c : Call} : eu P op (.defer c) = false := by
  cases op <;> simp [eu]
theorem sl {op : aM} {dst : Option Nat} {s : S} {K : S → Prop} (hc : op.isCall = false) (h : dj P op dst s K) : ∃ v σ' n', ay op (aD s.T) s.σ s.n = some (v, σ', n') ∧ K ⟨aO s.T dst v, σ', n'⟩ := by
  unfold dj at h
  cases op <;> first | (cases hc; done) | skip
  all_goals
    simp only at h
    split at h
    · rename_i heq; exact ⟨_, _, _, heq, h⟩
    · exact h.elim
theorem oG {F : Fence} {n : Nat} {ops : Array Oper} {Q : Exit → Act → World → Prop} (hF : ∀ f, F.fn f) : ∀ (l : List aQ) (os : List Oper), cZ P N ops l os = true → (∀ i ∈ l, i.guard = none ∧ i.op.isCall = false) →
    ∀ (s : S) (μ : Nat → Option aJ) (a : Act) (w : World) (K : S → Prop), aV P l s K → cb N A μ s a w →
      (∀ s' μ' a' w', K s' → cb N A μ' s' a' w' → a'.defers = a.defers → aA μ s.σ w μ' s'.σ w' → Q .normal a' w') → wpListIn F n P ops Q os a w
  | [], [], _, _, s, μ, a, w, K, h, hs, hk => hk s μ a w h hs rfl (aA.refl _ _ _)
  | [], _ :: _, hc, _, _, _, _, _, _, _, _, _ => by simp [cZ] at hc
  | _ :: _, [], hc, _, _, _, _, _, _, _, _, _ => by simp [cZ] at hc
  | i :: l, o :: os, hc, hp, s, μ, a, w, K, h, hs, hk => by
    simp only [cZ, Bool.and_eq_true] at hc
    obtain ⟨hi, hl⟩ := hc
    obtain ⟨hg, hcall⟩ := hp i (by simp)
    simp only [aV, hg] at h
    obtain ⟨v, σ', n', hst, hK⟩ := sl hcall h
    simp only [fN, Bool.and_eq_true, beq_iff_eq] at hi
    obtain ⟨⟨⟨hdst, hdN⟩, hgo⟩, hop⟩ := hi
    have hgo' : o.guard = none := by
      rw [hg] at hgo
      cases hog : o.guard with
      | none => rfl
      | some q => rw [hog] at hgo; simp [gw] at hgo
    have hd : ∀ d, o.dst = some d → d < N := by
      intro d hd
      rw [← hdst] at hd
      rw [hd] at hdN
      simpa using hdN
    have hnd : ∀ c, o.op ≠ .defer c := by
      intro c hc
      rw [hc, sk] at hop; cases hop
    obtain ⟨nx, cv, w', μ', hr, hnx, hv, hs', hgu, hdom⟩ := m6 hop hs.1.ev hs.1.store (fun id h1 h2 => hs.2 id h1) hst
    refine wpListIn_plain hgo' fun K' hK' => ?_
    refine ⟨fun f _ => hF f, ?_⟩
    rw [Oper.semAt_eq _ _ _ hnd, hr]
    have hmono := nu hst
    have next : wpListIn F n P ops Q os (a.put o.dst cv) w' := by
      have hsim := hs.1.put hgu hs' hv hd
      rw [← hdst] at hsim
      rw [← hdst]
      refine oG hF l os hl (fun j hj => hp j (by simp [hj])) ⟨aO s.T i.dst v, σ', n'⟩ μ' _ w' K hK ⟨hsim, fun id hid => ?_⟩ fun s2 μ2 a2 w2 h1 h2 h3 h4 => hk s2 μ2 a2 w2 h1 h2 (by rw [h3]; cases i.dst <;> rfl) (hgu.trans h4)
      simp only at hid
      cases hm : μ' id with
      | none => rfl
      | some p =>
        exfalso
        rcases hdom id (by rw [hm]; simp) with h | h
        · exact h (hs.2 id (by omega))
        · omega
    rcases hnx with rfl | ⟨rfl, rfl⟩
    · rw [Oper.uponIn_value]; exact hK' _ _ next
    · rw [Oper.uponIn_skip]; exact hK' _ _ next
theorem sn {F : Fence} {n id : Nat} {ops : Array Oper} {Q : Exit → Act → World → Prop} (hF : ∀ f, F.fn f) {l : List aQ} (hc : cZ P N ops l ops.toList = true) (hp : ∀ i ∈ l, i.guard = none ∧ i.op.isCall = false) {s : S} {μ : Nat → Option aJ} {a : Act} {w : World} {K : S → Prop} (h : aV P l s K) (hs : cb N A μ s a w)
    (hk : ∀ s' μ' a' w', K s' → cb N A μ' s' a' w' → a'.defers = a.defers → aA μ s.σ w μ' s'.σ w' → Q .normal a' w') : (Code.region id ops false).wpIn F n P Q a w :=
  wpIn_region_list (oG hF l ops.toList hc hp s μ a w K h hs hk)
def fA (w w' : World) : Prop := w.heap.size ≤ w'.heap.size ∧ ∀ (b : Nat) (o : Obj), w.heap[b]? = some o → ((∃ c ty fr, o = .cells c ty fr) ∨ ∃ c k, o = .map c k) → w'.heap[b]? = some o
theorem fA.cell {w w' : World} (h : fA w w') {b o : Nat} {v : Value} (hc : w.cell? ⟨b, o, none⟩ = some v) : w'.cell? ⟨b, o, none⟩ = some v := by
  obtain ⟨c, ty, fr, hb, hv⟩ := fj hc
  rw [cD (h.2 b _ hb (.inl ⟨c, ty, fr, rfl⟩))]; exact hv
theorem fA.v {w w' : World} (h : fA w w') {μ : Nat → Option aJ} {own : Nat → Nat → Prop} {v : V} {u : Value} (hv : aw μ own w v u) : aw μ own w' v u :=
  hv.mono (fun b o v h1 h2 => ⟨h.cell h1, h2⟩) (fun _ _ g => g) (fun b n ⟨c, ty, fr, hb, hn⟩ => ⟨c, ty, fr, h.2 b _ hb (.inl ⟨c, ty, fr, rfl⟩), hn⟩)
theorem fA.d {w w' : World} (h : fA w w') {own : Nat → Nat → Prop} {d : D} {u : Value} (hv : DRel own w d u) : DRel own w' d u :=
  hv.mono fun b o v h1 h2 => ⟨h.cell h1, h2⟩
theorem fA.store {w w' : World} (h : fA w w') {μ : Nat → Option aJ} {σ : au} (hs : aB A μ σ w) : aB A μ σ w' where
  blks id blk hid := by
    have hb := hs.blks id blk hid
    cases blk with
    | lst m k els =>
      rcases hb with ⟨h1, h2⟩ | ⟨b, c, ty, fr, h1, h2, h3, h4, h5⟩
      · exact .inl ⟨h1, h2⟩
      · refine .inr ⟨b, c, ty, fr, h1, h.2 b _ h2 (.inl ⟨c, ty, fr, rfl⟩), h3, h4, fun i d hi => ⟨(h5 i d hi).1, fun j x hj => ?_⟩⟩
        obtain ⟨v, hv, ho, hr⟩ := (h5 i d hi).2 j x hj
        exact ⟨v, hv, ho, h.d hr⟩
    | var cs =>
      obtain ⟨b, c, ty, fr, h1, h2, h3, h4, h5⟩ := hb
      exact ⟨b, c, ty, fr, h1, h.2 b _ h2 (.inl ⟨c, ty, fr, rfl⟩), h3, h4, fun i x v hx hv => ⟨(h5 i x v hx hv).1, h.v (h5 i x v hx hv).2⟩⟩
    | mp es =>
      obtain ⟨b, c, clk, h1, h2, h3, h4⟩ := hb
      exact ⟨b, c, clk, h1, h.2 b _ h2 (.inr ⟨c, clk, rfl⟩), h3, fun i p e hp he => ⟨h.d (h4 i p e hp he).1, h.d (h4 i p e hp he).2⟩⟩
  inj := hs.inj
  amb := hs.amb
  alt b o ho := Nat.lt_of_lt_of_le (hs.alt b o ho) h.1
  glob := hs.glob.mono fun b o v h1 h2 => ⟨h.cell h1, h2⟩
end Go.AM
end
