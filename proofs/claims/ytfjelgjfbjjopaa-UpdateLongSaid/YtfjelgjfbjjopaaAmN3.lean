import Derived.Test.YtfjelgjfbjjopaaAmN2
set_option linter.unusedVariables false
set_option linter.unusedSectionVars false
set_option linter.unusedSimpArgs false
namespace Go.AM
open Go Go.RowKit
variable [Glob]
section
variable {P : Program} {N na : Nat} {A : Nat → Nat → Prop} {μ μ' : Nat → Option aJ} {T T' : Nat → V} {σ σ' : au} {w w' : World} {a : Act} {n n' : Nat} {l : List aQ} {dst : Option Nat} {op : aM} {K : S → Prop}
def ce (ρ : Nat → Nat) (n0 : Nat) : List V → List V → Prop
  | [], [] => True
  | x :: l, y :: r => VN ρ n0 x y ∧ ce ρ n0 l r
  | _, _ => False
theorem ce.all {ρ : Nat → Nat} {n0 : Nat} : ∀ {l r : List V}, ce ρ n0 l r → l.length = r.length ∧ ∀ (i : Nat) x y, l[i]? = some x → r[i]? = some y → VN ρ n0 x y
  | [], [], _ => ⟨rfl, fun i x y h => by simp at h⟩
  | x :: l, y :: r, h => by
    obtain ⟨h1, h2⟩ := ce.all h.2
    refine ⟨by simp [h1], fun i u v hu hv => ?_⟩
    cases i with
    | zero => simp at hu hv; subst hu; subst hv; exact h.1
    | succ i => exact h2 i u v (by simpa using hu) (by simpa using hv)
  | [], _ :: _, h => h.elim
  | _ :: _, [], h => h.elim
theorem nL {rl : List Nat} (hnd : rl.Nodup) {a b : Nat} (ha : a < rl.length) (hb : b < rl.length) (h : rn rl a = rn rl b) : a = b := by
  simp only [rn, List.getD_eq_getElem?_getD, bt ha, bt hb, Option.getD_some] at h
  exact (List.getElem_inj hnd).1 h
theorem gM {rl : List Nat} {a : Nat} (ha : a < rl.length) : rn rl a ∈ rl := by
  simp [rn, List.getD_eq_getElem?_getD, bt ha]
theorem kX {f : Nat} {vals vals0 : List V} {bl bl' : List (Nat × aK)} {v0 : V} {n0' : Nat} (rl : List Nat) (h : cy P f vals0 (ag bl) rl.length v0 (ag bl') n0') (hn0 : rl.length ≤ n0') (hnd : rl.Nodup) (hlt : ∀ i ∈ rl, i < n) (hdom : ∀ p ∈ bl', p.1 < n0')
    (hv : ce (rn rl) rl.length vals vals0) (hσ : SN (rn rl) rl.length σ bl) : dE P f vals σ n (v0.ren (up rl n)) (dQ (up rl n) bl' (rem rl σ)) (n + (n0' - rl.length)) := by
  refine ⟨h.1, fun A μ w vs hs hfr hlen hrel => ?_⟩
  obtain ⟨hvl, hvv⟩ := hv.all
  have hσ := hσ.all
  -- the callee's view
  let μ1 : Nat → Option aJ := fun id => if id < rl.length then μ (rn rl id) else none
  have hμ1 : ∀ id, id < rl.length → μ1 id = μ (rn rl id) := fun id h => if_pos h
  let A1 : Nat → Nat → Prop := fun b o => A b o ∨ bJ μ (rem rl σ) b o
  have hrem : ∀ id blk, rem rl σ id = some blk → id ∉ rl ∧ σ id = some blk := by
    intro id blk h
    rw [kW] at h
    split at h
    · cases h
    · exact ⟨by assumption, h⟩
  have hownF : ∀ b o, bJ μ (rem rl σ) b o → bJ μ σ b o := by
    rintro b o ⟨id, blk, h1, h2⟩
    exact ⟨id, blk, (hrem id blk h1).2, h2⟩
  have hown1 : ∀ b o, bJ μ1 (ag bl) b o → bJ μ σ b o := by
    rintro b o ⟨id, blk, h1, h2⟩
    obtain ⟨h3, b', h4, h5⟩ := hσ id blk h1
    rw [hμ1 id h3] at h2
    exact ⟨rn rl id, b', h4, h5.owns h2⟩
  have hownB1 : ∀ b, dy μ1 (ag bl) b → ∃ id ∈ rl, ∃ blk k, σ id = some blk ∧ μ id = some (.at b k) := by
    rintro b ⟨id, blk, k, h1, h2⟩
    obtain ⟨h3, b', h4, h5⟩ := hσ id blk h1
    rw [hμ1 id h3] at h2
    exact ⟨rn rl id, gM h3, b', k, h4, h2⟩
  have hfull1 : ∀ b o, ak A1 μ1 (ag bl) b o → ak A μ σ b o := fun b o h => h.elim (fun h => .inl (hown1 b o h)) fun h => h.elim .inr fun h => .inl (hownF b o h)
  have hD : ∀ {d : D} {u : Value}, DRel (ak A μ σ) w d u → DRel (ak A1 μ1 (ag bl)) w d u := fun h => h.mono fun b o v h1 h2 => ⟨h1, fun h3 => h2 (hfull1 b o h3)⟩
  have hV : ∀ {v : V} {u : Value}, aw μ (ak A μ σ) w v u → aw μ (ak A1 μ1 (ag bl)) w v u := fun h => h.mono (fun b o v h1 h2 => ⟨h1, fun h3 => h2 (hfull1 b o h3)⟩) (fun _ _ h => h) (fun _ _ h => h)
  have hs1 : aB A1 μ1 (ag bl) w := by
    refine ⟨fun id blk h => ?_, fun id id' x y b k k' h1 h2 h3 h4 => ?_, fun id x b k h1 h2 o ho => ?_, fun b o ho => ?_, hs.glob.mono fun b o v h1 h2 => ⟨h1, fun h3 => h2 (hfull1 b o h3)⟩⟩
    · obtain ⟨h3, b', h4, h5⟩ := hσ id blk h
      have hb := hs.blks _ _ h4
      have lst : ∀ m m' k els, bD (ak A μ σ) μ w (rn rl id) (.lst m k els) → bD (ak A1 μ1 (ag bl)) μ1 w id (.lst m' k els) := by
        intro m m' k els hb
        rcases hb with ⟨g1, g2⟩ | ⟨b, c, ty, fr, g1, g2, g3, g4, g5⟩
        · exact .inl ⟨by rw [hμ1 id h3]; exact g1, g2⟩
        · exact .inr ⟨b, c, ty, fr, by rw [hμ1 id h3]; exact g1, g2, g3, g4, fun i d hd => ⟨(g5 i d hd).1, fun j x hx => by
            obtain ⟨v, q1, q2, q3⟩ := (g5 i d hd).2 j x hx
            exact ⟨v, q1, q2, hD q3⟩⟩⟩
      cases h5 with
      | lst m k els => exact lst m m k els hb
      | frz m k els => exact lst m false k els hb
      | var vs us hl hvs =>
        obtain ⟨b, c, ty, fr, g1, g2, g3, g4, g5⟩ := hb
        refine ⟨b, c, ty, fr, by rw [hμ1 id h3]; exact g1, g2, g3, by omega, fun i x v hx hv => ?_⟩
        have hi : i < vs.length := by have := (List.getElem?_eq_some_iff.1 hx).1; omega
        obtain ⟨q1, q2⟩ := g5 i vs[i] v (by simp [hi]) hv
        exact ⟨q1, (hvs i vs[i] x (by simp [hi]) hx).sound hμ1 (hV q2)⟩
      | mp es =>
        obtain ⟨b, c, clk, g1, g2, g3, g4⟩ := hb
        exact ⟨b, c, clk, by rw [hμ1 id h3]; exact g1, g2, g3, fun i p e hp he => ⟨hD (g4 i p e hp he).1, hD (g4 i p e hp he).2⟩⟩
    · obtain ⟨g1, x', g2, _⟩ := hσ id x h1
      obtain ⟨q1, y', q2, _⟩ := hσ id' y h2
      rw [hμ1 id g1] at h3
      rw [hμ1 id' q1] at h4
      exact nL hnd g1 q1 (hs.inj _ _ _ _ _ _ _ g2 q2 h3 h4)
    · obtain ⟨g1, x', g2, _⟩ := hσ id x h1
      rw [hμ1 id g1] at h2
      rcases ho with ho | ho
      · exact hs.amb _ _ _ _ g2 h2 o ho
      · obtain ⟨j, blk, kj, q1, q2⟩ := gp ho
        obtain ⟨q3, q4⟩ := hrem j blk q1
        have := hs.inj _ _ _ _ _ _ _ g2 q4 h2 q2
        exact q3 (this ▸ gM g1)
    · rcases ho with ho | ho
      · exact hs.alt b o ho
      · obtain ⟨j, blk, kj, q1, q2⟩ := gp (hownF b o ho)
        obtain ⟨_, hc⟩ := bD.block (hs.blks j blk q1) q2
        exact b5 hc
  have hfr1 : ∀ id, rl.length ≤ id → μ1 id = none := fun id h => if_neg (by omega)
  refine (h.2 A1 μ1 w vs hs1 hfr1 (by omega) fun i x v hx hv => ?_).mono fun e w' ⟨cv, μ1', he, hcv, hs', hg, hdo⟩ => ?_
  · have hi : i < vals.length := by have := (List.getElem?_eq_some_iff.1 hx).1; omega
    exact (hvv i vals[i] x (by simp [hi]) hx).sound hμ1 (hV (hrel i vals[i] v (by simp [hi]) hv))
  -- back at the caller
  let μ' : Nat → Option aJ := fun id => if n ≤ id ∧ id < n + (n0' - rl.length) then μ1' (id - n + rl.length) else μ id
  have hμ' : ∀ id, ¬ (n ≤ id ∧ id < n + (n0' - rl.length)) → μ' id = μ id := fun id h => if_neg h
  have hdom1 : ∀ j p, μ1' j = some p → j < n0' := by
    intro j p hp
    rcases hdo j (by rw [hp]; simp) with h | h
    · rcases Nat.lt_or_ge j rl.length with h' | h'
      · omega
      · exact (h (hfr1 j h')).elim
    · exact h.2
  have hup : ∀ j p, μ1' j = some p → μ' (up rl n j) = some p := by
    intro j p hp
    have hj := hdom1 j p hp
    rcases Nat.lt_or_ge j rl.length with h' | h'
    · have e : up rl n j = rn rl j := if_pos h'
      rw [e, hμ' _ (by have := hlt _ (gM h'); omega), ← hμ1 j h']
      cases hm : μ1 j with
      | none =>
        rcases hdo j (by rw [hp]; simp) with h | h
        · exact (h hm).elim
        · omega
      | some q =>
        have := hg.grow j q hm
        rw [hp] at this; exact this.symm
    · have e : up rl n j = n + (j - rl.length) := if_neg (by omega)
      rw [e]
      show (if n ≤ n + (j - rl.length) ∧ n + (j - rl.length) < n + (n0' - rl.length) then _ else _) = _
      rw [if_pos (by omega)]
      rw [show n + (j - rl.length) - n + rl.length = j by omega]; exact hp
  have hupinj : ∀ i j, i < n0' → j < n0' → up rl n i = up rl n j → i = j := by
    intro i j hi hj h
    unfold up at h
    split at h <;> split at h
    · rename_i h1 h2; exact nL hnd h1 h2 h
    · rename_i h1 h2; have := hlt _ (gM h1); omega
    · rename_i h1 h2; have := hlt _ (gM h2); omega
    · omega
  have hinjL : ∀ p ∈ bl', ∀ q ∈ bl', up rl n p.1 = up rl n q.1 → p.1 = q.1 := fun p hp q hq h => hupinj _ _ (hdom p hp) (hdom q hq) h
  -- what the new store holds
  have hcase : ∀ id blk, dQ (up rl n) bl' (rem rl σ) id = some blk → (∃ j b, up rl n j = id ∧ ag bl' j = some b ∧ blk = b.ren (up rl n)) ∨ ((∀ p ∈ bl', up rl n p.1 ≠ id) ∧ id ∉ rl ∧ ¬ (n ≤ id ∧ id < n + (n0' - rl.length)) ∧ σ id = some blk) := by
    intro id blk h
    rcases nK hinjL h with h | ⟨h1, h2⟩
    · exact .inl h
    · obtain ⟨h3, h4⟩ := hrem id blk h2
      refine .inr ⟨h1, h3, fun h' => ?_, h4⟩
      exact (hs.blks id blk h4).placed (hfr id h'.1 h'.2)
  have hback : ∀ j p, μ' (up rl n j) = some p → ag bl' j ≠ none → μ1' j = some p := by
    intro j p hp hb
    cases hb' : ag bl' j with
    | none => exact (hb hb').elim
    | some b =>
      have hpl := (hs'.blks j b hb').placed
      cases hm : μ1' j with
      | none => exact (hpl hm).elim
      | some q => have := hup j q hm; rw [hp] at this; cases this; rfl
  have hren : ∀ (b : aK) (p : Option aJ) x o, (b.ren (up rl n)).ownsAt p x o ↔ b.ownsAt p x o := by
    intro b p x o; cases b <;> cases p <;> simp only [aK.ren, aK.ownsAt]
    all_goals (rename_i p; cases p <;> simp [aK.ownsAt])
  have hownN : ∀ b o, bJ μ' (dQ (up rl n) bl' (rem rl σ)) b o ↔ (bJ μ (rem rl σ) b o ∨ bJ μ1' (ag bl') b o) := by
    intro b o
    constructor
    · rintro ⟨id, blk, h1, h2⟩
      rcases hcase id blk h1 with ⟨j, b', rfl, g1, rfl⟩ | ⟨g1, g2, g3, g4⟩
      · right
        rw [hren] at h2
        refine ⟨j, b', g1, ?_⟩
        cases hm : μ1' j with
        | none => exact ((hs'.blks j b' g1).placed hm).elim
        | some p => rw [hup j p hm] at h2; exact h2
      · left
        rw [hμ' id g3] at h2
        exact ⟨id, blk, by rw [kW, if_neg g2]; exact g4, h2⟩
    · rintro (⟨id, blk, h1, h2⟩ | ⟨j, b', h1, h2⟩)
      · obtain ⟨h3, h4⟩ := hrem id blk h1
        have hid : ¬ (n ≤ id ∧ id < n + (n0' - rl.length)) := fun h' => (hs.blks id blk h4).placed (hfr id h'.1 h'.2)
        refine ⟨id, blk, ?_, by rw [hμ' id hid]; exact h2⟩
        rw [nJ (fun p hp e => ?_)]
        · exact h1
        · unfold up at e
          split at e
          · rename_i h5; exact h3 (e ▸ gM h5)
          · have := hdom p hp; omega
      · cases hm : μ1' j with
        | none => exact ((hs'.blks j b' h1).placed hm).elim
        | some p =>
          have hj := hdom1 j p hm
          refine ⟨up rl n j, b'.ren (up rl n), ?_, by rw [hup j p hm, hren]; rw [hm] at h2; exact h2⟩
          have key : ∀ (L : List (Nat × aK)) (σ0 : au), (∀ q ∈ L, q.1 < n0') → ag L j = some b' → dQ (up rl n) L σ0 (up rl n j) = some (b'.ren (up rl n)) := by
            intro L
            induction L with
            | nil => intro σ0 _ h; cases h
            | cons q L ih =>
              obtain ⟨q1, q2⟩ := q
              intro σ0 hL h
              simp only [ag] at h
              simp only [dQ]
              by_cases e : j = q1
              · subst e; rw [if_pos rfl] at h; cases h; exact aL _ _ _
              · rw [if_neg e] at h
                rw [aG _ _ (fun e' => e (hupinj _ _ hj (hL (q1, q2) (by simp)) e'))]
                exact ih σ0 (fun x hx => hL x (by simp [hx])) h
          exact key bl' _ hdom h1
  have hfullN : ak A μ' (dQ (up rl n) bl' (rem rl σ)) = ak A1 μ1' (ag bl') := by
    funext b o
    apply propext
    simp only [ak, hownN, A1]
    constructor
    · rintro ((h | h) | h)
      · exact .inr (.inr h)
      · exact .inl h
      · exact .inr (.inl h)
    · rintro (h | h | h)
      · exact .inl (.inr h)
      · exact .inr h
      · exact .inl (.inl h)
  -- the frame
  have hgN : aA μ σ w μ' (dQ (up rl n) bl' (rem rl σ)) w' := by
    refine ⟨hg.os, hg.tape, hg.output, hg.size, fun b hb hn => hg.block b hb fun hB => ?_, fun b c ty fr hc => ?_, fun b o h => ?_, fun b h => ?_, fun id p hp => ?_⟩
    · obtain ⟨id, _, blk, k, h1, h2⟩ := hownB1 b hB
      exact hn ⟨id, blk, k, h1, h2⟩
    · obtain ⟨c', g1, g2, g3⟩ := hg.cells b c ty fr hc
      exact ⟨c', g1, g2, fun o ho => g3 o fun h => ho (hown1 b o h)⟩
    · rcases (hownN b o).1 h with h | h
      · exact .inl (hownF b o h)
      · rcases hg.own b o h with h | h
        · exact .inl (hown1 b o h)
        · exact .inr h
    · obtain ⟨id, blk, k, h1, h2⟩ := h
      rcases hcase id blk h1 with ⟨j, b', rfl, g1, rfl⟩ | ⟨g1, g2, g3, g4⟩
      · rcases hg.ownB b ⟨j, b', k, g1, hback j _ h2 (by rw [g1]; simp)⟩ with h | h
        · obtain ⟨id, _, blk, k, h1, h2⟩ := hownB1 b h
          exact .inl ⟨id, blk, k, h1, h2⟩
        · exact .inr h
      · rw [hμ' id g3] at h2; exact .inl ⟨id, blk, k, g4, h2⟩
    · have : ¬ (n ≤ id ∧ id < n + (n0' - rl.length)) := fun h' => by rw [hfr id h'.1 h'.2] at hp; cases hp
      rw [hμ' id this]; exact hp
  refine ⟨cv, μ', he, ?_, ⟨fun id blk h => ?_, fun id id' x y b k k' h1 h2 h3 h4 => ?_, fun id x b k h1 h2 o ho => ?_, fun b o ho => ?_, by rw [hfullN]; exact hs'.glob⟩, hgN, fun id h => ?_⟩
  · rw [hfullN]; exact hcv.ren hup
  · rcases hcase id blk h with ⟨j, b', rfl, g1, rfl⟩ | ⟨g1, g2, g3, g4⟩
    · have hb := hs'.blks j b' g1
      rw [hfullN]
      cases b' with
      | lst m k els =>
        rcases hb with ⟨q1, q2⟩ | ⟨b, c, ty, fr, q1, q2, q3, q4, q5⟩
        · exact .inl ⟨hup _ _ q1, q2⟩
        · exact .inr ⟨b, c, ty, fr, hup _ _ q1, q2, q3, q4, q5⟩
      | var cs =>
        obtain ⟨b, c, ty, fr, q1, q2, q3, q4, q5⟩ := hb
        simp only [aK.ren, iD]
        refine ⟨b, c, ty, fr, hup _ _ q1, q2, q3, by simpa using q4, fun i x v hx hv => ?_⟩
        rw [List.getElem?_map] at hx
        cases hq : cs[i]? with
        | none => rw [hq] at hx; cases hx
        | some y => rw [hq] at hx; cases hx; exact ⟨(q5 i y v hq hv).1, (q5 i y v hq hv).2.ren hup⟩
      | mp es =>
        obtain ⟨b, c, clk, q1, q2, q3, q4⟩ := hb
        exact ⟨b, c, clk, hup _ _ q1, q2, q3, q4⟩
    · refine bD.keep hgN hs.alt (fun b k hb => ?_) (hs.blks id blk g4)
      obtain ⟨_, hc⟩ := bD.block (hs.blks id blk g4) hb
      refine hg.block b (b5 hc) fun hB => ?_
      obtain ⟨id2, hid2, blk2, k2, h3, h4⟩ := hownB1 b hB
      exact g2 (hs.inj _ _ _ _ _ _ _ g4 h3 hb h4 ▸ hid2)
  · have old : ∀ {j : Nat} {b' : aK} {id : Nat} {blk : aK} {b : Nat} {k k' : Option Nat}, ag bl' j = some b' → μ1' j = some (.at b k) → id ∉ rl → σ id = some blk → μ id = some (.at b k') → False := by
      intro j b' id blk b k k' g1 g2 g3 g4 g5
      rcases hg.ownB b ⟨j, b', k, g1, g2⟩ with h | h
      · obtain ⟨id2, hid2, blk2, k2, q1, q2⟩ := hownB1 b h
        exact g3 (hs.inj _ _ _ _ _ _ _ g4 q1 g5 q2 ▸ hid2)
      · obtain ⟨_, hc⟩ := bD.block (hs.blks id blk g4) g5
        have := b5 hc; omega
    rcases hcase id x h1 with ⟨j, b', rfl, g1, rfl⟩ | ⟨g1, g2, g3, g4⟩ <;> rcases hcase id' y h2 with ⟨j2, b2, rfl, q1, rfl⟩ | ⟨q1, q2, q3, q4⟩
    · have e1 := hback j _ h3 (by rw [g1]; simp)
      have e2 := hback j2 _ h4 (by rw [q1]; simp)
      rw [hs'.inj j j2 _ _ _ _ _ g1 q1 e1 e2]
    · have e1 := hback j _ h3 (by rw [g1]; simp)
      rw [hμ' _ q3] at h4
      exact (old g1 e1 q2 q4 h4).elim
    · have e2 := hback j2 _ h4 (by rw [q1]; simp)
      rw [hμ' _ g3] at h3
      exact (old q1 e2 g2 g4 h3).elim
    · rw [hμ' _ g3] at h3
      rw [hμ' _ q3] at h4
      exact hs.inj _ _ _ _ _ _ _ g4 q4 h3 h4
  · rcases hcase id x h1 with ⟨j, b', rfl, g1, rfl⟩ | ⟨g1, g2, g3, g4⟩
    · exact hs'.amb j b' b k g1 (hback j _ h2 (by rw [g1]; simp)) o (.inl ho)
    · rw [hμ' _ g3] at h2; exact hs.amb _ _ _ _ g4 h2 o ho
  · have := hs.alt b o ho; have := hg.size; omega
  · by_cases h' : n ≤ id ∧ id < n + (n0' - rl.length)
    · exact .inr h'
    · rw [hμ' id h'] at h; exact .inl h
end
end Go.AM
