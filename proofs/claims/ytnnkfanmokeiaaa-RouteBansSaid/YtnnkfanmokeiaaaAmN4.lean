import Derived.Test.YtnnkfanmokeiaaaAmN2
import GoSem.Core.View
/-  Several texts in one. -/
section
set_option linter.unusedVariables false
set_option linter.unusedSectionVars false
set_option linter.unusedSimpArgs false
namespace Go.AM
open Go Go.RowKit
variable [Glob]
section
variable {P : Program} {N na : Nat} {A : Nat → Nat → Prop} {μ μ' : Nat → Option bA} {T T' : Nat → V} {σ σ' : aH} {w w' : World} {a : Act} {n n' : Nat} {l : List bG} {dst : Option Nat} {op : bw} {K : S → Prop}
def dl (ρ : Nat → Nat) (n0 : Nat) : List V → List V → Prop
  | [], [] => True
  | x :: l, y :: r => VN ρ n0 x y ∧ dl ρ n0 l r
  | _, _ => False
theorem dl.all {ρ : Nat → Nat} {n0 : Nat} : ∀ {l r : List V}, dl ρ n0 l r → l.length = r.length ∧ ∀ (i : Nat) x y, l[i]? = some x → r[i]? = some y → VN ρ n0 x y
  | [], [], _ => ⟨rfl, fun i x y h => by simp at h⟩
  | x :: l, y :: r, h => by
    obtain ⟨h1, h2⟩ := dl.all h.2
    refine ⟨by simp [h1], fun i u v hu hv => ?_⟩
    cases i with
    | zero => simp at hu hv; subst hu; subst hv; exact h.1
    | succ i => exact h2 i u v (by simpa using hu) (by simpa using hv)
  | [], _ :: _, h => h.elim
  | _ :: _, [], h => h.elim
theorem tJ {rl : List Nat} (hnd : rl.Nodup) {a b : Nat} (ha : a < rl.length) (hb : b < rl.length) (h : rn rl a = rn rl b) : a = b := by
  simp only [rn, List.getD_eq_getElem?_getD, bO ha, bO hb, Option.getD_some] at h
  exact (List.getElem_inj hnd).1 h
theorem kG {rl : List Nat} {a : Nat} (ha : a < rl.length) : rn rl a ∈ rl := by
  simp [rn, List.getD_eq_getElem?_getD, bO ha]
theorem nf {f : Nat} {vals vals0 : List V} {bl bl' : List (Nat × bh)} {v0 : V} {n0' : Nat} (rl : List Nat) (h : dg P f vals0 (ai bl) rl.length v0 (ai bl') n0') (hn0 : rl.length ≤ n0') (hnd : rl.Nodup) (hlt : ∀ i ∈ rl, i < n) (hdom : ∀ p ∈ bl', p.1 < n0')
    (hv : dl (rn rl) rl.length vals vals0) (hσ : SN (rn rl) rl.length σ bl) : fX P f vals σ n (v0.ren (up rl n)) (gf (up rl n) bl' (rem rl σ)) (n + (n0' - rl.length)) := by
  refine ⟨h.1, fun A μ w vs hs hfr hlen hrel => ?_⟩
  obtain ⟨hvl, hvv⟩ := hv.all
  have hσ := hσ.all
  -- the callee's view
  let μ1 : Nat → Option bA := fun id => if id < rl.length then μ (rn rl id) else none
  have hμ1 : ∀ id, id < rl.length → μ1 id = μ (rn rl id) := fun id h => if_pos h
  let A1 : Nat → Nat → Prop := fun b o => A b o ∨ de μ (rem rl σ) b o
  have hrem : ∀ id blk, rem rl σ id = some blk → id ∉ rl ∧ σ id = some blk := by
    intro id blk h
    rw [pO] at h
    split at h
    · cases h
    · exact ⟨by assumption, h⟩
  have hownF : ∀ b o, de μ (rem rl σ) b o → de μ σ b o := by
    rintro b o ⟨id, blk, h1, h2⟩
    exact ⟨id, blk, (hrem id blk h1).2, h2⟩
  have hown1 : ∀ b o, de μ1 (ai bl) b o → de μ σ b o := by
    rintro b o ⟨id, blk, h1, h2⟩
    obtain ⟨h3, b', h4, h5⟩ := hσ id blk h1
    rw [hμ1 id h3] at h2
    exact ⟨rn rl id, b', h4, h5.owns h2⟩
  have hownB1 : ∀ b, fv μ1 (ai bl) b → ∃ id ∈ rl, ∃ blk k, σ id = some blk ∧ μ id = some (.at b k) := by
    rintro b ⟨id, blk, k, h1, h2⟩
    obtain ⟨h3, b', h4, h5⟩ := hσ id blk h1
    rw [hμ1 id h3] at h2
    exact ⟨rn rl id, kG h3, b', k, h4, h2⟩
  have hfull1 : ∀ b o, aA A1 μ1 (ai bl) b o → aA A μ σ b o := fun b o h => h.elim (fun h => .inl (hown1 b o h)) fun h => h.elim .inr fun h => .inl (hownF b o h)
  have hD : ∀ {d : D} {u : Value}, DRel (aA A μ σ) w d u → DRel (aA A1 μ1 (ai bl)) w d u := fun h => h.mono fun b o v h1 h2 => ⟨h1, fun h3 => h2 (hfull1 b o h3)⟩
  have hV : ∀ {v : V} {u : Value}, aJ μ (aA A μ σ) w v u → aJ μ (aA A1 μ1 (ai bl)) w v u := fun h => h.mono (fun b o v h1 h2 => ⟨h1, fun h3 => h2 (hfull1 b o h3)⟩) (fun _ _ h => h) (fun _ _ h => h)
  have hs1 : aY A1 μ1 (ai bl) w := by
    refine ⟨fun id blk h => ?_, fun id id' x y b k k' h1 h2 h3 h4 => ?_, fun id x b k h1 h2 o ho => ?_, fun b o ho => ?_, hs.glob.mono fun b o v h1 h2 => ⟨h1, fun h3 => h2 (hfull1 b o h3)⟩⟩
    · obtain ⟨h3, b', h4, h5⟩ := hσ id blk h
      have hb := hs.blks _ _ h4
      have lst : ∀ m m' k els, cF (aA A μ σ) μ w (rn rl id) (.lst m k els) → cF (aA A1 μ1 (ai bl)) μ1 w id (.lst m' k els) := by
        intro m m' k els hb
        rcases hb with ⟨g1, g2⟩ | ⟨b, c, ty, fr, g1, g2, g3, g4, g5⟩
        · exact .inl ⟨by rw [hμ1 id h3]; exact g1, g2⟩
        · exact .inr ⟨b, c, ty, fr, by rw [hμ1 id h3]; exact g1, g2, g3, g4, fun i d hd => ⟨(g5 i d hd).1, fun j x hx => by
            obtain ⟨v, q1, q2, q3⟩ := (g5 i d hd).2 j x hx
            exact ⟨v, q1, q2, hD q3⟩⟩⟩
      cases h5 with
      | lst m k els => exact lst m m k els hb
      | frz m k els => exact lst m false k els hb
      | var vs us hl hvs =>
        obtain ⟨b, c, ty, fr, g1, g2, g3, g4, g5⟩ := hb
        refine ⟨b, c, ty, fr, by rw [hμ1 id h3]; exact g1, g2, g3, by omega, fun i x v hx hv => ?_⟩
        have hi : i < vs.length := by have := (List.getElem?_eq_some_iff.1 hx).1; omega
        obtain ⟨q1, q2⟩ := g5 i vs[i] v (by simp [hi]) hv
        exact ⟨q1, (hvs i vs[i] x (by simp [hi]) hx).sound hμ1 (hV q2)⟩
      | mp es =>
        obtain ⟨b, c, clk, g1, g2, g3, g4⟩ := hb
        exact ⟨b, c, clk, by rw [hμ1 id h3]; exact g1, g2, g3, fun i p e hp he => ⟨hD (g4 i p e hp he).1, hD (g4 i p e hp he).2⟩⟩
    · obtain ⟨g1, x', g2, _⟩ := hσ id x h1
      obtain ⟨q1, y', q2, _⟩ := hσ id' y h2
      rw [hμ1 id g1] at h3
      rw [hμ1 id' q1] at h4
      exact tJ hnd g1 q1 (hs.inj _ _ _ _ _ _ _ g2 q2 h3 h4)
    · obtain ⟨g1, x', g2, _⟩ := hσ id x h1
      rw [hμ1 id g1] at h2
      rcases ho with ho | ho
      · exact hs.amb _ _ _ _ g2 h2 o ho
      · obtain ⟨j, blk, kj, q1, q2⟩ := jz ho
        obtain ⟨q3, q4⟩ := hrem j blk q1
        have := hs.inj _ _ _ _ _ _ _ g2 q4 h2 q2
        exact q3 (this ▸ kG g1)
    · rcases ho with ho | ho
      · exact hs.alt b o ho
      · obtain ⟨j, blk, kj, q1, q2⟩ := jz (hownF b o ho)
        obtain ⟨_, hc⟩ := cF.block (hs.blks j blk q1) q2
        exact dY hc
  have hfr1 : ∀ id, rl.length ≤ id → μ1 id = none := fun id h => if_neg (by omega)
  refine (h.2 A1 μ1 w vs hs1 hfr1 (by omega) fun i x v hx hv => ?_).mono fun e w' ⟨cv, μ1', he, hcv, hs', hg, hdo⟩ => ?_
  · have hi : i < vals.length := by have := (List.getElem?_eq_some_iff.1 hx).1; omega
    exact (hvv i vals[i] x (by simp [hi]) hx).sound hμ1 (hV (hrel i vals[i] v (by simp [hi]) hv))
  -- back at the caller
  let μ' : Nat → Option bA := fun id => if n ≤ id ∧ id < n + (n0' - rl.length) then μ1' (id - n + rl.length) else μ id
  have hμ' : ∀ id, ¬ (n ≤ id ∧ id < n + (n0' - rl.length)) → μ' id = μ id := fun id h => if_neg h
  have hdom1 : ∀ j p, μ1' j = some p → j < n0' := by
    intro j p hp
    rcases hdo j (by rw [hp]; simp) with h | h
    · rcases Nat.lt_or_ge j rl.length with h' | h'
      · omega
      · exact (h (hfr1 j h')).elim
    · exact h.2
  have hup : ∀ j p, μ1' j = some p → μ' (up rl n j) = some p := by
    intro j p hp
    have hj := hdom1 j p hp
    rcases Nat.lt_or_ge j rl.length with h' | h'
    · have e : up rl n j = rn rl j := if_pos h'
      rw [e, hμ' _ (by have := hlt _ (kG h'); omega), ← hμ1 j h']
      cases hm : μ1 j with
      | none =>
        rcases hdo j (by rw [hp]; simp) with h | h
        · exact (h hm).elim
        · omega
      | some q =>
        have := hg.grow j q hm
        rw [hp] at this; exact this.symm
    · have e : up rl n j = n + (j - rl.length) := if_neg (by omega)
      rw [e]
      show (if n ≤ n + (j - rl.length) ∧ n + (j - rl.length) < n + (n0' - rl.length) then _ else _) = _
      rw [if_pos (by omega)]
      rw [show n + (j - rl.length) - n + rl.length = j by omega]; exact hp
  have hupinj : ∀ i j, i < n0' → j < n0' → up rl n i = up rl n j → i = j := by
    intro i j hi hj h
    unfold up at h
    split at h <;> split at h
    · rename_i h1 h2; exact tJ hnd h1 h2 h
    · rename_i h1 h2; have := hlt _ (kG h1); omega
    · rename_i h1 h2; have := hlt _ (kG h2); omega
    · omega
  have hinjL : ∀ p ∈ bl', ∀ q ∈ bl', up rl n p.1 = up rl n q.1 → p.1 = q.1 := fun p hp q hq h => hupinj _ _ (hdom p hp) (hdom q hq) h
  -- what the new store holds
  have hcase : ∀ id blk, gf (up rl n) bl' (rem rl σ) id = some blk → (∃ j b, up rl n j = id ∧ ai bl' j = some b ∧ blk = b.ren (up rl n)) ∨ ((∀ p ∈ bl', up rl n p.1 ≠ id) ∧ id ∉ rl ∧ ¬ (n ≤ id ∧ id < n + (n0' - rl.length)) ∧ σ id = some blk) := by
    intro id blk h
    rcases tI hinjL h with h | ⟨h1, h2⟩
    · exact .inl h
    · obtain ⟨h3, h4⟩ := hrem id blk h2
      refine .inr ⟨h1, h3, fun h' => ?_, h4⟩
      exact (hs.blks id blk h4).placed (hfr id h'.1 h'.2)
  have hback : ∀ j p, μ' (up rl n j) = some p → ai bl' j ≠ none → μ1' j = some p := by
    intro j p hp hb
    cases hb' : ai bl' j with
    | none => exact (hb hb').elim
    | some b =>
      have hpl := (hs'.blks j b hb').placed
      cases hm : μ1' j with
      | none => exact (hpl hm).elim
      | some q => have := hup j q hm; rw [hp] at this; cases this; rfl
  have hren : ∀ (b : bh) (p : Option bA) x o, (b.ren (up rl n)).ownsAt p x o ↔ b.ownsAt p x o := by
    intro b p x o; cases b <;> cases p <;> simp only [bh.ren, bh.ownsAt]
    all_goals (rename_i p; cases p <;> simp [bh.ownsAt])
  have hownN : ∀ b o, de μ' (gf (up rl n) bl' (rem rl σ)) b o ↔ (de μ (rem rl σ) b o ∨ de μ1' (ai bl') b o) := by
    intro b o
    constructor
    · rintro ⟨id, blk, h1, h2⟩
      rcases hcase id blk h1 with ⟨j, b', rfl, g1, rfl⟩ | ⟨g1, g2, g3, g4⟩
      · right
        rw [hren] at h2
        refine ⟨j, b', g1, ?_⟩
        cases hm : μ1' j with
        | none => exact ((hs'.blks j b' g1).placed hm).elim
        | some p => rw [hup j p hm] at h2; exact h2
      · left
        rw [hμ' id g3] at h2
        exact ⟨id, blk, by rw [pO, if_neg g2]; exact g4, h2⟩
    · rintro (⟨id, blk, h1, h2⟩ | ⟨j, b', h1, h2⟩)
      · obtain ⟨h3, h4⟩ := hrem id blk h1
        have hid : ¬ (n ≤ id ∧ id < n + (n0' - rl.length)) := fun h' => (hs.blks id blk h4).placed (hfr id h'.1 h'.2)
        refine ⟨id, blk, ?_, by rw [hμ' id hid]; exact h2⟩
        rw [tH (fun p hp e => ?_)]
        · exact h1
        · unfold up at e
          split at e
          · rename_i h5; exact h3 (e ▸ kG h5)
          · have := hdom p hp; omega
      · cases hm : μ1' j with
        | none => exact ((hs'.blks j b' h1).placed hm).elim
        | some p =>
          have hj := hdom1 j p hm
          refine ⟨up rl n j, b'.ren (up rl n), ?_, by rw [hup j p hm, hren]; rw [hm] at h2; exact h2⟩
          have key : ∀ (L : List (Nat × bh)) (σ0 : aH), (∀ q ∈ L, q.1 < n0') → ai L j = some b' → gf (up rl n) L σ0 (up rl n j) = some (b'.ren (up rl n)) := by
            intro L
            induction L with
            | nil => intro σ0 _ h; cases h
            | cons q L ih =>
              obtain ⟨q1, q2⟩ := q
              intro σ0 hL h
              simp only [ai] at h
              simp only [gf]
              by_cases e : j = q1
              · subst e; rw [if_pos rfl] at h; cases h; exact bt _ _ _
              · rw [if_neg e] at h
                rw [aT _ _ (fun e' => e (hupinj _ _ hj (hL (q1, q2) (by simp)) e'))]
                exact ih σ0 (fun x hx => hL x (by simp [hx])) h
          exact key bl' _ hdom h1
  have hfullN : aA A μ' (gf (up rl n) bl' (rem rl σ)) = aA A1 μ1' (ai bl') := by
    funext b o
    apply propext
    simp only [aA, hownN, A1]
    constructor
    · rintro ((h | h) | h)
      · exact .inr (.inr h)
      · exact .inl h
      · exact .inr (.inl h)
    · rintro (h | h | h)
      · exact .inl (.inr h)
      · exact .inr h
      · exact .inl (.inl h)
  -- the frame
  have hgN : aV μ σ w μ' (gf (up rl n) bl' (rem rl σ)) w' := by
    refine ⟨hg.os, hg.tape, hg.output, hg.size, fun b hb hn => hg.block b hb fun hB => ?_, fun b c ty fr hc => ?_, fun b o h => ?_, fun b h => ?_, fun id p hp => ?_⟩
    · obtain ⟨id, _, blk, k, h1, h2⟩ := hownB1 b hB
      exact hn ⟨id, blk, k, h1, h2⟩
    · obtain ⟨c', g1, g2, g3⟩ := hg.cells b c ty fr hc
      exact ⟨c', g1, g2, fun o ho => g3 o fun h => ho (hown1 b o h)⟩
    · rcases (hownN b o).1 h with h | h
      · exact .inl (hownF b o h)
      · rcases hg.own b o h with h | h
        · exact .inl (hown1 b o h)
        · exact .inr h
    · obtain ⟨id, blk, k, h1, h2⟩ := h
      rcases hcase id blk h1 with ⟨j, b', rfl, g1, rfl⟩ | ⟨g1, g2, g3, g4⟩
      · rcases hg.ownB b ⟨j, b', k, g1, hback j _ h2 (by rw [g1]; simp)⟩ with h | h
        · obtain ⟨id, _, blk, k, h1, h2⟩ := hownB1 b h
          exact .inl ⟨id, blk, k, h1, h2⟩
        · exact .inr h
      · rw [hμ' id g3] at h2; exact .inl ⟨id, blk, k, g4, h2⟩
    · have : ¬ (n ≤ id ∧ id < n + (n0' - rl.length)) := fun h' => by rw [hfr id h'.1 h'.2] at hp; cases hp
      rw [hμ' id this]; exact hp
  refine ⟨cv, μ', he, ?_, ⟨fun id blk h => ?_, fun id id' x y b k k' h1 h2 h3 h4 => ?_, fun id x b k h1 h2 o ho => ?_, fun b o ho => ?_, by rw [hfullN]; exact hs'.glob⟩, hgN, fun id h => ?_⟩
  · rw [hfullN]; exact hcv.ren hup
  · rcases hcase id blk h with ⟨j, b', rfl, g1, rfl⟩ | ⟨g1, g2, g3, g4⟩
    · have hb := hs'.blks j b' g1
      rw [hfullN]
      cases b' with
      | lst m k els =>
        rcases hb with ⟨q1, q2⟩ | ⟨b, c, ty, fr, q1, q2, q3, q4, q5⟩
        · exact .inl ⟨hup _ _ q1, q2⟩
        · exact .inr ⟨b, c, ty, fr, hup _ _ q1, q2, q3, q4, q5⟩
      | var cs =>
        obtain ⟨b, c, ty, fr, q1, q2, q3, q4, q5⟩ := hb
        simp only [bh.ren, lL]
        refine ⟨b, c, ty, fr, hup _ _ q1, q2, q3, by simpa using q4, fun i x v hx hv => ?_⟩
        rw [List.getElem?_map] at hx
        cases hq : cs[i]? with
        | none => rw [hq] at hx; cases hx
        | some y => rw [hq] at hx; cases hx; exact ⟨(q5 i y v hq hv).1, (q5 i y v hq hv).2.ren hup⟩
      | mp es =>
        obtain ⟨b, c, clk, q1, q2, q3, q4⟩ := hb
        exact ⟨b, c, clk, hup _ _ q1, q2, q3, q4⟩
    · refine cF.keep hgN hs.alt (fun b k hb => ?_) (hs.blks id blk g4)
      obtain ⟨_, hc⟩ := cF.block (hs.blks id blk g4) hb
      refine hg.block b (dY hc) fun hB => ?_
      obtain ⟨id2, hid2, blk2, k2, h3, h4⟩ := hownB1 b hB
      exact g2 (hs.inj _ _ _ _ _ _ _ g4 h3 hb h4 ▸ hid2)
  · have old : ∀ {j : Nat} {b' : bh} {id : Nat} {blk : bh} {b : Nat} {k k' : Option Nat}, ai bl' j = some b' → μ1' j = some (.at b k) → id ∉ rl → σ id = some blk → μ id = some (.at b k') → False := by
      intro j b' id blk b k k' g1 g2 g3 g4 g5
      rcases hg.ownB b ⟨j, b', k, g1, g2⟩ with h | h
      · obtain ⟨id2, hid2, blk2, k2, q1, q2⟩ := hownB1 b h
        exact g3 (hs.inj _ _ _ _ _ _ _ g4 q1 g5 q2 ▸ hid2)
      · obtain ⟨_, hc⟩ := cF.block (hs.blks id blk g4) g5
        have := dY hc; omega
    rcases hcase id x h1 with ⟨j, b', rfl, g1, rfl⟩ | ⟨g1, g2, g3, g4⟩ <;> rcases hcase id' y h2 with ⟨j2, b2, rfl, q1, rfl⟩ | ⟨q1, q2, q3, q4⟩
    · have e1 := hback j _ h3 (by rw [g1]; simp)
      have e2 := hback j2 _ h4 (by rw [q1]; simp)
      rw [hs'.inj j j2 _ _ _ _ _ g1 q1 e1 e2]
    · have e1 := hback j _ h3 (by rw [g1]; simp)
      rw [hμ' _ q3] at h4
      exact (old g1 e1 q2 q4 h4).elim
    · have e2 := hback j2 _ h4 (by rw [q1]; simp)
      rw [hμ' _ g3] at h3
      exact (old q1 e2 g2 g4 h3).elim
    · rw [hμ' _ g3] at h3
      rw [hμ' _ q3] at h4
      exact hs.inj _ _ _ _ _ _ _ g4 q4 h3 h4
  · rcases hcase id x h1 with ⟨j, b', rfl, g1, rfl⟩ | ⟨g1, g2, g3, g4⟩
    · exact hs'.amb j b' b k g1 (hback j _ h2 (by rw [g1]; simp)) o (.inl ho)
    · rw [hμ' _ g3] at h2; exact hs.amb _ _ _ _ g4 h2 o ho
  · have := hs.alt b o ho; have := hg.size; omega
  · by_cases h' : n ≤ id ∧ id < n + (n0' - rl.length)
    · exact .inr h'
    · rw [hμ' id h'] at h; exact .inl h
end
end Go.AM
end
section
namespace Go.AM
open Go
def bd {α : Type} (l : List α) (i : Int) : Option α := if 0 ≤ i then l[i.toNat]? else none
def c6 {α : Type} (xs ys : List α) : Option (List α) := if xs.length + ys.length ≤ 4294967296 then some (xs ++ ys) else none
def d8 {α : Type} (l : List α) (lo hi : Int) : Option (List α) := if 0 ≤ lo ∧ lo ≤ hi ∧ hi ≤ l.length then some ((l.drop lo.toNat).take (hi.toNat - lo.toNat)) else none
def dc {α : Type} (l : List α) (i : Int) (v : α) : Option (List α) := if 0 ≤ i then if i.toNat < l.length then some (l.set i.toNat v) else none else none
def eX {α : Type} (n : Int) (z : α) : Option (List α) := if 0 ≤ n ∧ n ≤ 4294967296 then some (List.replicate n.toNat z) else none
def kH (a b : Int) : Option Int := if b = 0 then none else some (a.tmod b)
def EA (s : ByteArray) : List Int := s.data.toList.map fun b => (b.toNat : Int)
def fM (a b : Int) : Int := if b > a then b else a
def mget {κ ν : Type} [DecidableEq κ] : List (κ × ν) → κ → Option ν
  | [], _ => none
  | p :: m, k => if k = p.1 then some p.2 else mget m k
def dT {κ ν : Type} [DecidableEq κ] : List (κ × ν) → κ → ν → List (κ × ν)
  | [], k, v => [(k, v)]
  | p :: m, k, v => if k = p.1 then (k, v) :: m else p :: dT m k v
def i4 {α : Type} (l : List α) : Option Int := if l.length ≤ 4294967296 then some (l.length : Int) else none
def bx (a b : Int) : List Int := (List.range (b - a).toNat).map fun (i : Nat) => a + i
inductive Br (σ ρ : Type) where
  | next (s : σ)
  | brk (s : σ)
  | ret (r : ρ)
inductive Ex (σ ρ : Type) where
  | done (s : σ)
  | ret (r : ρ)
section
variable {σ ρ : Type}
def cW (f : Int → σ → Option σ) : List Int → σ → Option σ
  | [], s => some s
  | i :: l, s => (f i s).bind fun s => cW f l s
def lM (f : Int → σ → Option (σ ⊕ σ)) : List Int → σ → Option σ
  | [], s => some s
  | i :: l, s => (f i s).bind fun x => match x with
    | .inl s => lM f l s
    | .inr s => some s
def bS (f : Int → σ → Option (Br σ ρ)) : List Int → σ → Option (Ex σ ρ)
  | [], s => some (.done s)
  | i :: l, s => (f i s).bind fun x => match x with
    | .next s => bS f l s
    | .brk s => some (.done s)
    | .ret r => some (.ret r)
def ig (f : σ → Option (σ ⊕ σ)) : Nat → σ → Option σ
  | 0, _ => none
  | k + 1, s => (f s).bind fun x => match x with
    | .inl s => ig f k s
    | .inr s => some s
end
def cX : Nat := 1099511627776
attribute [irreducible] cX
theorem ap {α β : Type} {o : Option α} {f : α → Option β} {r : β} (h : o.bind f = some r) : ∃ x, o = some x ∧ f x = some r := by
  cases o with
  | none => cases h
  | some x => exact ⟨x, rfl, h⟩
theorem aW {α : Type} {c : Bool} {A B r : α} (hc : c = true) (h : (if c = true then A else B) = r) : A = r := by rw [if_pos hc] at h; exact h
theorem aX {α : Type} {c : Bool} {A B r : α} (hc : ¬ c = true) (h : (if c = true then A else B) = r) : B = r := by rw [if_neg hc] at h; exact h
structure A2 (α : Type) where
  a0 : α
  a1 : α
  deriving DecidableEq, Inhabited
structure A4 (α : Type) where
  a0 : α
  a1 : α
  a2 : α
  a3 : α
  deriving DecidableEq, Inhabited
structure A5 (α : Type) where
  a0 : α
  a1 : α
  a2 : α
  a3 : α
  a4 : α
  deriving DecidableEq, Inhabited
structure A8 (α : Type) where
  a0 : α
  a1 : α
  a2 : α
  a3 : α
  a4 : α
  a5 : α
  a6 : α
  a7 : α
  deriving DecidableEq, Inhabited
def A2.l {α : Type} (a : A2 α) : List α := [a.a0, a.a1]
def A4.l {α : Type} (a : A4 α) : List α := [a.a0, a.a1, a.a2, a.a3]
def A5.l {α : Type} (a : A5 α) : List α := [a.a0, a.a1, a.a2, a.a3, a.a4]
def A8.l {α : Type} (a : A8 α) : List α := [a.a0, a.a1, a.a2, a.a3, a.a4, a.a5, a.a6, a.a7]
def A2.get {α : Type} (a : A2 α) (i : Int) : Option α := bd a.l i
def A4.get {α : Type} (a : A4 α) (i : Int) : Option α := bd a.l i
def A5.get {α : Type} (a : A5 α) (i : Int) : Option α := bd a.l i
def A8.get {α : Type} (a : A8 α) (i : Int) : Option α := bd a.l i
def A2.of {α : Type} : List α → Option (A2 α)
  | [a, b] => some ⟨a, b⟩
  | _ => none
def A4.of {α : Type} : List α → Option (A4 α)
  | [a, b, c, d] => some ⟨a, b, c, d⟩
  | _ => none
def A5.of {α : Type} : List α → Option (A5 α)
  | [a, b, c, d, e] => some ⟨a, b, c, d, e⟩
  | _ => none
def A8.of {α : Type} : List α → Option (A8 α)
  | [a, b, c, d, e, f, g, h] => some ⟨a, b, c, d, e, f, g, h⟩
  | _ => none
def A2.put {α : Type} (a : A2 α) (i : Int) (v : α) : Option (A2 α) := (dc a.l i v).bind A2.of
def A4.put {α : Type} (a : A4 α) (i : Int) (v : α) : Option (A4 α) := (dc a.l i v).bind A4.of
def A5.put {α : Type} (a : A5 α) (i : Int) (v : α) : Option (A5 α) := (dc a.l i v).bind A5.of
def A8.put {α : Type} (a : A8 α) (i : Int) (v : α) : Option (A8 α) := (dc a.l i v).bind A8.of
end Go.AM
end
section
set_option linter.unusedVariables false
set_option linter.unusedSectionVars false
set_option linter.unusedSimpArgs false
namespace Go.AM
open Go Go.RowKit
variable [Glob]
section
variable {P : Program} {N na : Nat} {A : Nat → Nat → Prop} {μ μ' : Nat → Option bA} {T T' : Nat → V} {σ σ' : aH} {w w' : World} {a : Act} {n n' : Nat} {l : List bG} {dst : Option Nat} {op : bw} {K : S → Prop}
theorem cE {c : bC} {Q : Exit → S → Prop} {s : S} (t : Nat) {k : IntKind} {x : Int} (ht : s.T t = .d (.int k x)) (h : k.wrap x = x → bD P N na c Q s) : bD P N na c Q s := by
  intro code hc A μ a w hs
  have := hs.1.tmps t
  rw [ht] at this
  exact h (ku this) code hc A μ a w hs
theorem aI {Q : Exit → S → Prop} {s : S} (s0 : S) {d : Bool} {l : List bG} {y : bC} (h : aO P l s fun s' => bP na s' s0) (k : bD P N na y Q s0) : bD P N na (.seq (.ops d l) y) Q s :=
  tA (RunOps_mono l s (fun s' hs => ⟨s0, hs, k⟩) h)
where
  RunOps_mono {K K' : S → Prop} : ∀ (l : List bG) (s : S), (∀ s, K s → K' s) → aO P l s K → aO P l s K'
    | [], s, hk, h => hk s h
    | i :: l, s, hk, h => by
      have one : ∀ {K1 K2 : S → Prop} {op : bw} {dst : Option Nat}, (∀ s, K1 s → K2 s) → fK P op dst s K1 → fK P op dst s K2 := by
        intro K1 K2 op dst hk h
        unfold fK at h ⊢
        split at h
        · obtain ⟨ds, r, h1, h2, h3⟩ := h; exact ⟨ds, r, h1, h2, hk _ h3⟩
        · obtain ⟨v, σ', n', h1, h2, h3⟩ := h; exact ⟨v, σ', n', h1, h2, hk _ h3⟩
        · obtain ⟨f, caps, ds, r, h0, h1, h2, h3⟩ := h; exact ⟨f, caps, ds, r, h0, h1, h2, hk _ h3⟩
        · obtain ⟨f, caps, v, σ', n', h0, h1, h2, h3⟩ := h; exact ⟨f, caps, v, σ', n', h0, h1, h2, hk _ h3⟩
        · split at h
          · exact hk _ h
          · exact h.elim
      unfold aO at h ⊢
      cases hg : i.guard with
      | none => rw [hg] at h; exact one (fun s => RunOps_mono l s hk) h
      | some p =>
        obtain ⟨g, b⟩ := p
        rw [hg] at h
        simp only at h ⊢
        cases hb : iC (s.T g) with
        | none => rw [hb] at h; exact h.elim
        | some b' =>
          rw [hb] at h
          simp only at h ⊢
          by_cases hbb : b' = some b
          · rw [if_pos hbb] at h ⊢; exact one (fun s => RunOps_mono l s hk) h
          · rw [if_neg hbb] at h ⊢; exact RunOps_mono l _ hk h
theorem dL {Q : Exit → S → Prop} {s : S} (s0 : S) {d : Bool} {l : List bG} (h : aO P l s fun s' => bP na s' s0) (k : Q .normal s0) : bD P N na (.ops d l) Q s :=
  bD.ops (aI.RunOps_mono l s (fun s' hs => ⟨s0, hs, k⟩) h)
def JN (s0 : S) (e : Exit) (s' : S) : Prop := e = .normal ∧ s' = s0
theorem gB {Q : Exit → S → Prop} {s : S} (s0 : S) {x y : bC} (hx : bD P N na x (JN s0) s) (hy : bD P N na y Q s0) : bD P N na (.seq x y) Q s := by
  refine aB (hx.mono fun e s' ⟨h1, h2⟩ => ?_)
  subst h1; subst h2; exact hy
def JS {α ρ : Type} (s0 : α → S) (PQ : ρ → Exit → S → Prop) : α ⊕ ρ → Exit → S → Prop
  | .inl v, e, s' => e = .normal ∧ s' = s0 v
  | .inr r, e, s' => e ≠ .normal ∧ PQ r e s'
theorem lN {α ρ : Type} {s : S} (s0 : α → S) {Q : Exit → S → Prop} {xv : α ⊕ ρ} {r : ρ} {x y : bC} (hx : bD P N na x (JS s0 (fun r' e s' => r = r' → Q e s') xv) s) (hr : ∀ r', xv = .inr r' → r' = r) (hy : ∀ v, xv = .inl v → bD P N na y Q (s0 v)) : bD P N na (.seq x y) Q s := by
  refine aB (hx.mono fun e s' h => ?_)
  cases xv with
  | inl v => obtain ⟨h1, h2⟩ := h; subst h1; subst h2; exact hy v rfl
  | inr r' =>
    obtain ⟨h1, h2⟩ := h
    have h2 := h2 (hr r' rfl).symm
    cases e with
    | normal => exact (h1 rfl).elim
    | _ => exact h2
section
variable {β ρ : Type}
def LO (st' : β → S) (x : β) (e : Exit) (s' : S) : Prop := e = .normal ∧ s' = st' x
def LK (st' : β → S) (X : Nat) (stx : β → S) : β ⊕ β → Exit → S → Prop
  | .inl s, e, s' => e = .normal ∧ s' = st' s
  | .inr s, e, s' => e = .exit X ∧ s' = stx s
def LR (st' : β → S) (X : Nat) (stx : β → S) (PQ : ρ → Exit → S → Prop) : Br β ρ → Exit → S → Prop
  | .next s, e, s' => e = .normal ∧ s' = st' s
  | .brk s, e, s' => e = .exit X ∧ s' = stx s
  | .ret r, e, s' => e ≠ .normal ∧ PQ r e s'
def LE (X : Nat) (s0 : S) (e : Exit) (s' : S) : Prop := e = .exit X ∧ s' = s0
theorem yI {a b : Int} (h : ¬ a < b) : bx a b = [] := by
  simp [bx, show (b - a).toNat = 0 by omega]
theorem yJ {a b : Int} (h : a < b) : bx a b = a :: bx (a + 1) b := by
  unfold bx
  rw [show (b - a).toNat = (b - (a + 1)).toNat + 1 by omega, List.range_succ_eq_map, List.map_cons, List.map_map]
  congr 1
  · simp
  · refine List.map_congr_left fun i _ => ?_
    simp only [Function.comp_apply]; push_cast; omega
structure ni (go : Int → Prop) (nx : Int → Int) (L : Int → List Int) : Prop where
  stop : ∀ i, ¬ go i → L i = []
  step : ∀ i, go i → L i = i :: L (nx i)
theorem cB (b : Int) : ni (· < b) (· + 1) (fun i => bx i b) := ⟨fun i h => yI h, fun i h => yJ h⟩
variable {go : Int → Prop} {nx : Int → Int} {L : Int → List Int} {c : bC} {Q : Exit → S → Prop}
theorem fN (hL : ni go nx L) {f : Int → β → Option β} (st : Int → β → S) (X : Nat) (stx : β → S) (inv : Int → Prop) (hinv : ∀ i, inv i → go i → inv (nx i)) {a : Int} {s r : β} (h : cW f (L a) s = some r) (ha : inv a)
    (hb : ∀ i s x, inv i → go i → f i s = some x → bD P N na c (LO (st (nx i)) x) (st i s)) (he : ∀ i s, inv i → ¬ go i → bD P N na c (LE X (stx s)) (st i s)) (hQ : Q (.exit X) (stx r)) : bD P N na (.loop c) Q (st a s) := by
  have key : ∀ (k : List Int) (a : Int) (s : β), L a = k → inv a → cW f k s = some r → bD P N na (.loop c) Q (st a s) := by
    intro k
    induction k with
    | nil =>
      intro a s hk ha h
      have hng : ¬ go a := fun hg => by rw [hL.step a hg] at hk; cases hk
      cases h
      refine iY ((he a _ ha hng).mono fun e s' ⟨h1, h2⟩ => ?_)
      subst h1; subst h2; exact hQ
    | cons i k ih =>
      intro a s hk ha h
      have hg : go a := Classical.byContradiction fun hg => by rw [hL.stop a hg] at hk; cases hk
      rw [hL.step a hg] at hk
      obtain ⟨rfl, hk2⟩ := List.cons.inj hk
      obtain ⟨s2, h1, h2⟩ := ap h
      refine iY ((hb a s s2 ha hg h1).mono fun e s' ⟨g1, g2⟩ => ?_)
      subst g1; subst g2
      exact ih _ _ hk2 (hinv _ ha hg) h2
  exact key _ a s rfl ha h
theorem dG (hL : ni go nx L) {f : Int → β → Option (Br β ρ)} (st : Int → β → S) (X : Nat) (stx : β → S) (inv : Int → Prop) (hinv : ∀ i, inv i → go i → inv (nx i)) {a : Int} {s : β} {y : Ex β ρ} {r : ρ} (h : bS f (L a) s = some y) (ha : inv a)
    (hb : ∀ i s x, inv i → go i → f i s = some x → bD P N na c (LR (st (nx i)) X stx (fun r' e s' => r = r' → Q e s') x) (st i s)) (he : ∀ i s, inv i → ¬ go i → bD P N na c (LE X (stx s)) (st i s)) (hr : ∀ r', y = .ret r' → r' = r) (hQ : ∀ s, y = .done s → Q (.exit X) (stx s)) : bD P N na (.loop c) Q (st a s) := by
  have key : ∀ (k : List Int) (a : Int) (s : β), L a = k → inv a → bS f k s = some y → bD P N na (.loop c) Q (st a s) := by
    intro k
    induction k with
    | nil =>
      intro a s hk ha h
      have hng : ¬ go a := fun hg => by rw [hL.step a hg] at hk; cases hk
      cases h
      refine iY ((he a _ ha hng).mono fun e s' ⟨h1, h2⟩ => ?_)
      subst h1; subst h2; exact hQ _ rfl
    | cons i k ih =>
      intro a s hk ha h
      have hg : go a := Classical.byContradiction fun hg => by rw [hL.stop a hg] at hk; cases hk
      rw [hL.step a hg] at hk
      obtain ⟨rfl, hk2⟩ := List.cons.inj hk
      obtain ⟨x, h1, h2⟩ := ap h
      refine iY ((hb a s x ha hg h1).mono fun e s' g => ?_)
      cases x with
      | next s2 => obtain ⟨g1, g2⟩ := g; subst g1; subst g2; exact ih _ _ hk2 (hinv _ ha hg) h2
      | brk s2 => obtain ⟨g1, g2⟩ := g; subst g1; subst g2; cases h2; exact hQ _ rfl
      | ret r' =>
        obtain ⟨g1, g2⟩ := g
        cases h2
        have g2 := g2 (hr r' rfl).symm
        cases e with
        | normal => exact (g1 rfl).elim
        | _ => exact g2
  exact key _ a s rfl ha h
theorem yK {f : β → Option (β ⊕ β)} (st : β → S) (X : Nat) (stx : β → S) {k : Nat} {s r : β} (h : ig f k s = some r)
    (hb : ∀ s x, f s = some x → bD P N na c (LK st X stx x) (st s)) (hQ : Q (.exit X) (stx r)) : bD P N na (.loop c) Q (st s) := by
  induction k generalizing s with
  | zero => cases h
  | succ k ih =>
    obtain ⟨x, h1, h2⟩ := ap h
    refine iY ((hb s x h1).mono fun e s' g => ?_)
    cases x with
    | inl s2 => obtain ⟨g1, g2⟩ := g; subst g1; subst g2; exact ih h2
    | inr s2 => obtain ⟨g1, g2⟩ := g; subst g1; subst g2; cases h2; exact hQ
end
def bB (i : Int) : Prop := -9223372036854775808 ≤ i
theorem cC {b : Int} : ∀ i, bB i → i < b → bB (i + 1) := fun i h _ => by unfold bB at *; omega
theorem VN.eq {ρ : Nat → Nat} {n0 : Nat} {x y : D} (h : x = y) : VN ρ n0 (.d x) (.d y) := h ▸ .d x
theorem VN.nl {ρ : Nat → Nat} {n0 : Nat} {k : Option Nat} : VN ρ n0 (.d .nils) (.d (.vec k [])) := .sub _ _ (.nils k)
theorem VN.le {ρ : Nat → Nat} {n0 id off len len' : Nat} (h : len = len') (hid : id < n0) : VN ρ n0 (.loc (ρ id) off len) (.loc id off len') := h ▸ .loc id off len hid
end
end Go.AM
end
