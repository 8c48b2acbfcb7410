import Derived.Test.YtnnkfanmokeiaaaAmOps7
/-  Several texts in one. -/
section
set_option linter.unusedVariables false
set_option linter.unusedSectionVars false
set_option linter.unusedSimpArgs false
namespace Go.AM
open Go Go.RowKit
variable [Glob]
section
variable {P : Program} {A : Nat → Nat → Prop} {μ : Nat → Option bI} {σ σ' : aL} {w : World} {o : Oper} {a : Act} {v : V} {n n' : Nat} {e : AX → V}
theorem lY {α : Type} {l m : List α} {off : Nat} (hle : off + m.length ≤ l.length) (i : Nat) :
    (l.take off ++ m ++ l.drop (off + m.length))[i]? = if i < off then l[i]? else if i < off + m.length then m[i - off]? else l[i]? := by
  have l1 : (l.take off).length = off := by simp; omega
  split
  · rename_i c1
    rw [List.append_assoc, List.getElem?_append_left (by omega), List.getElem?_take, if_pos c1]
  · rename_i c1
    split
    · rename_i c2
      rw [List.append_assoc, List.getElem?_append_right (by omega), List.getElem?_append_left (by omega), l1]
    · rename_i c2
      rw [List.getElem?_append_right (by simp; omega)]
      simp only [List.length_append, l1, List.getElem?_drop]
      congr 1; omega
theorem sU {t : TypeId} {k : Option Nat} (ht : co P t = some k) {b off : Nat} {c : Array Value} {ty : TypeId} {fr : Nat × Nat} (hb : w.heap[b]? = some (.cells c ty fr)) (hn : jQ c fr) {u : Value}
    (hu : u.cells.size = am k) (hle : off + am k ≤ c.size) (h1 : ∀ x ∈ u.cells.toList, x.oneCell' = true) :
    (storeVar t ⟨b, off, none⟩ u).run P w = .ok () (c8 w b (c.toList.take off ++ u.cells.toList ++ c.toList.drop (off + u.cells.toList.length)).toArray) := by
  obtain ⟨_, hsz, _⟩ := eQ (w := w) ht
  have := lX (P := P) b off ty fr u.cells.toList 0 c w hb hn (by simp; omega) h1
  simp only [Nat.add_zero] at this
  simp only [storeVar, Sem.run_bind, hsz, Result.andThen_ok, Sem.run_ite]
  rw [if_neg (by omega)]
  exact this
theorem bV.skip {σ' : aL} {w' : World} (hs' : bm A μ σ' w') (g : bk μ σ w μ σ' w') (hr : (execOp a.eval o).run P w = .ok .skip w') : bV P A μ σ w o a V.undef σ' n n :=
  ⟨_, Go.undef, w', μ, hr, .inr ⟨rfl, rfl⟩, .d _ _ (.undef _), hs', g, fun id h => .inl h⟩
theorem ym {kb k : Option Nat} {d x z : D} {j : Nat} (hsh : d.shape kb = true) (h : jS kb d j k x = some z) :
    x.shape k = true ∧ x.cells.all D.one = true ∧ z.shape kb = true ∧ j + am k ≤ am kb ∧ z.cells = d.cells.take j ++ x.cells ++ d.cells.drop (j + x.cells.length) := by
  unfold jS at h
  split at h
  · rename_i hx
    obtain ⟨h1, h2⟩ := hx
    have hl := eE h1
    split at h
    · rename_i hc
      obtain ⟨rfl, rfl⟩ := hc
      cases h
      refine ⟨h1, h2, h1, by simp, ?_⟩
      have hl2 := eE hsh
      simp only [List.take_zero, List.nil_append, Nat.zero_add]
      rw [List.drop_of_length_le (by omega)]; simp
    · split at h
      · rename_i cs
        split at h
        · rename_i hle
          cases h
          have hkb : kb = some cs.length := by simpa [D.shape] using hsh
          subst hkb
          refine ⟨h1, h2, by simp [D.shape]; omega, by simpa using hle, by show cs.take j ++ x.cells ++ cs.drop (j + am k) = cs.take j ++ x.cells ++ cs.drop (j + x.cells.length); rw [hl]⟩
        · cases h
      · cases h
  · cases h
theorem yn {k : Option Nat} {x y : AX} {p q : Operand} {t : TypeId} (ho : o.op = .store t p q) (ht : co P t = some k) (hp : aR μ (aD A μ σ) w (e x) (a.eval p)) (hq : aR μ (aD A μ σ) w (e y) (a.eval q))
    (hs : bm A μ σ w) (hv : fg σ k (e x) (e y) = some σ') : bV P A μ σ w o a V.undef σ' n n := by
  unfold fg at hv
  split at hv
  · rename_i id i j hx
    rw [hx] at hp
    generalize hap : a.eval p = up at hp
    cases hp with
    | ptr _ _ _ b k' hpl =>
      split at hv
      · rename_i kb els hid
        split at hv
        · rename_i d z hd hy
          cases hsd : jS kb d j k z with
          | none => simp [hsd] at hv
          | some zz =>
            simp [hsd] at hv
            subst hv
            rw [hy] at hq
            generalize haq : a.eval q = uq at hq
            cases hq with
            | d _ _ hz =>
              rcases hs.blks id _ hid with ⟨h1, _⟩ | ⟨b', c, ty, fr, h1, h2, h3, h4, h5⟩
              · simp [h1] at hpl
              · rw [h1] at hpl; cases hpl
                obtain ⟨hsh, hcs⟩ := h5 i d hd
                obtain ⟨s1, s2, s3, s4, s5⟩ := ym hsh hsd
                obtain ⟨r1, r2⟩ := hz.row s1 s2
                have hi : i < els.length := (List.getElem?_eq_some_iff.1 hd).1
                have hfit : i * am k' + am k' ≤ c.size := by
                  have : (i + 1) * am k' ≤ els.length * am k' := Nat.mul_le_mul_right _ (by omega)
                  rw [Nat.add_mul] at this; omega
                have hones : ∀ x ∈ uq.cells.toList, x.oneCell' = true := by
                  intro x hx
                  obtain ⟨y, hy, rfl⟩ := List.getElem_of_mem hx
                  have hyl : y < z.cells.length := by rw [eE s1, ← r1]; simpa using hy
                  obtain ⟨v, hv, ho', _⟩ := r2 y z.cells[y] (by simp [hyl])
                  have : v = uq.cells.toList[y] := by
                    have hv' : uq.cells.toList[y]? = some v := by simpa using hv
                    rw [bU hy] at hv'
                    exact (bM hv').symm
                  rw [← this]; exact ho'
                have hrun := sU (P := P) ht h2 h3 (u := uq) r1 (off := i * am k' + j) (by omega) hones
                have hul : uq.cells.toList.length = am k := by simpa using r1
                have g := bk.write (blk' := .lst true k' (els.set i zz)) (c' := (c.toList.take (i * am k' + j) ++ uq.cells.toList ++ c.toList.drop (i * am k' + j + uq.cells.toList.length)).toArray) hs hid h1 h2 (by simp; omega)
                  (fun o' ho' => (ho' rfl).elim) (fun o' ho' => ho')
                refine bV.skip (hs.write hid h1 h2 g (.inr ⟨b, _, ty, fr, h1, ir h2, ?_, ?_, fun i' d' hd' => ?_⟩)) g (by simp [execOp, ho, hap, haq, Instr.storeAt, Instr.sureAddr, hrun])
                · have hszc : (c.toList.take (i * am k' + j) ++ uq.cells.toList ++ c.toList.drop (i * am k' + j + uq.cells.toList.length)).toArray.size = c.size := by simp; omega
                  show fr.1 = fr.2 ∨ _ ≤ fr.1
                  rw [hszc]; exact h3
                · simp; omega
                · have hget : ∀ (y : Nat), ((c.toList.take (i * am k' + j) ++ uq.cells.toList ++ c.toList.drop (i * am k' + j + uq.cells.toList.length)).toArray)[i' * am k' + y]? = if i' * am k' + y < i * am k' + j then c[i' * am k' + y]? else if i' * am k' + y < i * am k' + j + am k then uq.cells[i' * am k' + y - (i * am k' + j)]? else c[i' * am k' + y]? := by
                    intro y
                    rw [List.getElem?_toArray, lY (by simp; omega)]
                    simp only [hul, Array.getElem?_toList]
                  by_cases hii : i' = i
                  · subst hii
                    rw [List.getElem?_set, if_pos rfl, if_pos hi] at hd'
                    cases hd'
                    refine ⟨s3, fun y x0 hx0 => ?_⟩
                    rw [s5, lY (by rw [eE hsh, eE s1]; omega)] at hx0
                    rw [eE s1] at hx0
                    rw [hget]
                    by_cases c1 : y < j
                    · rw [if_pos c1] at hx0
                      obtain ⟨v, hv, ho', hr⟩ := hcs y x0 hx0
                      rw [if_pos (by omega)]
                      exact ⟨v, hv, ho', g.keepD hs.alt hr⟩
                    · rw [if_neg c1] at hx0
                      rw [if_neg (by omega)]
                      by_cases c2 : y < j + am k
                      · rw [if_pos c2] at hx0
                        obtain ⟨v, hv, ho', hr⟩ := r2 _ x0 hx0
                        rw [if_pos (by omega), show i' * am k' + y - (i' * am k' + j) = y - j by omega]
                        exact ⟨v, hv, ho', g.keepD hs.alt hr⟩
                      · rw [if_neg c2] at hx0
                        obtain ⟨v, hv, ho', hr⟩ := hcs y x0 hx0
                        rw [if_neg (by omega)]
                        exact ⟨v, hv, ho', g.keepD hs.alt hr⟩
                  · rw [List.getElem?_set, if_neg (by omega)] at hd'
                    obtain ⟨q1, q2⟩ := h5 i' d' hd'
                    refine ⟨q1, fun y x0 hx0 => ?_⟩
                    obtain ⟨v, hv, ho', hr⟩ := q2 y x0 hx0
                    have hy : y < am k' := by have := (List.getElem?_eq_some_iff.1 hx0).1; rw [eE q1] at this; exact this
                    rw [hget]
                    rcases Nat.lt_or_ge i' i with hlt | hge
                    · have : (i' + 1) * am k' ≤ i * am k' := Nat.mul_le_mul_right _ hlt
                      rw [Nat.add_mul] at this
                      rw [if_pos (by omega)]
                      exact ⟨v, hv, ho', g.keepD hs.alt hr⟩
                    · have : (i + 1) * am k' ≤ i' * am k' := Nat.mul_le_mul_right _ (by omega)
                      rw [Nat.add_mul] at this
                      rw [if_neg (by omega), if_neg (by omega)]
                      exact ⟨v, hv, ho', g.keepD hs.alt hr⟩
        · cases hv
      · rename_i cs hid
        split at hv
        · rename_i hc
          obtain ⟨c1, c2, c3⟩ := hc
          obtain rfl := bM hv
          obtain ⟨b', c, ty, fr, h1, h2, h3, h4, h5⟩ := hs.blks id _ hid
          rw [h1] at hpl; cases hpl
          obtain ⟨r1, r2⟩ := hq.cells c2
          have hul : (a.eval q).cells.toList.length = am k := by simpa using r1.trans c1
          have hones : ∀ x ∈ (a.eval q).cells.toList, x.oneCell' = true := by
            intro x0 hx0
            obtain ⟨z, hz, rfl⟩ := List.getElem_of_mem hx0
            have hzl : z < (e y).cells.length := by rw [← r1]; simpa using hz
            exact (r2 z (e y).cells[z] _ (by simp [hzl]) (by simp)).2
          have hrun := sU (P := P) ht h2 h3 (u := a.eval q) (r1.trans c1) (off := i + j) (by omega) hones
          have g := bk.write (blk' := .var (cs.take (i + j) ++ (e y).cells ++ cs.drop (i + j + am k))) (c' := (c.toList.take (i + j) ++ (a.eval q).cells.toList ++ c.toList.drop (i + j + (a.eval q).cells.toList.length)).toArray) hs hid h1 h2 (by simp; omega)
            (fun o' ho' => (ho' rfl).elim) (fun o' ho' => ho')
          refine bV.skip (hs.write hid h1 h2 g ⟨b, _, ty, fr, h1, ir h2, ?_, by simp; omega, fun i' x' v' hx' hv' => ?_⟩) g (by simp [execOp, ho, hap, Instr.storeAt, Instr.sureAddr, hrun])
          · have hszc : (c.toList.take (i + j) ++ (a.eval q).cells.toList ++ c.toList.drop (i + j + (a.eval q).cells.toList.length)).toArray.size = c.size := by simp; omega
            show fr.1 = fr.2 ∨ _ ≤ fr.1
            rw [hszc]; exact h3
          · rw [List.getElem?_toArray, lY (by simp; omega)] at hv'
            rw [show i + j + am k = i + j + (e y).cells.length by omega, lY (by omega)] at hx'
            rw [hul] at hv'
            rw [c1] at hx'
            simp only [Array.getElem?_toList] at hv'
            by_cases d1 : i' < i + j
            · rw [if_pos d1] at hx' hv'
              exact ⟨(h5 i' x' v' hx' hv').1, g.keepV hs.alt (h5 i' x' v' hx' hv').2⟩
            · rw [if_neg d1] at hx' hv'
              by_cases d2 : i' < i + j + am k
              · rw [if_pos d2] at hx' hv'
                exact ⟨(r2 _ x' v' hx' hv').2, g.keepV hs.alt (r2 _ x' v' hx' hv').1⟩
              · rw [if_neg d2] at hx' hv'
                exact ⟨(h5 i' x' v' hx' hv').1, g.keepV hs.alt (h5 i' x' v' hx' hv').2⟩
        · cases hv
      · cases hv
  · cases hv
end
end Go.AM
end
section
set_option linter.unusedVariables false
set_option linter.unusedSectionVars false
set_option linter.unusedSimpArgs false
namespace Go.AM
open Go Go.RowKit
variable [Glob]
section
variable {P : Program} {A : Nat → Nat → Prop} {μ : Nat → Option bI} {σ σ' : aL} {w : World} {o : Oper} {a : Act} {v : V} {n n' : Nat} {e : AX → V}
def fA (O : Nat → Nat → Prop) (w : World) (k : Option Nat) (ys : List D) (news : List Value) : Prop :=
  news.length = ys.length * am k ∧ (∀ v ∈ news, v.oneCell' = true) ∧
  ∀ (i : Nat) d, ys[i]? = some d → d.shape k = true ∧ ∀ (j : Nat) x, d.cells[j]? = some x → ∃ v, news[i * am k + j]? = some v ∧ v.oneCell' = true ∧ DRel O w x v
theorem nJ {O : Nat → Nat → Prop} {k : Option Nat} {ys : List D} (hpos : 0 < am k) (f : Nat → Nat → Value) (hsh : ∀ (i : Nat) d, ys[i]? = some d → d.shape k = true)
    (h1 : ∀ (i : Nat) d (j : Nat) x, ys[i]? = some d → d.cells[j]? = some x → (f i j).oneCell' = true) (h2 : ∀ (i : Nat) d (j : Nat) x, ys[i]? = some d → d.cells[j]? = some x → DRel O w x (f i j)) :
    fA O w k ys ((List.range (ys.length * am k)).map fun q => f (q / am k) (q % am k)) := by
  refine ⟨by simp, fun v hv => ?_, fun i d hd => ⟨hsh i d hd, fun j x hx => ?_⟩⟩
  · obtain ⟨q, hq, rfl⟩ := List.mem_map.1 hv
    have hq := List.mem_range.1 hq
    have hi : q / am k < ys.length := by rw [Nat.div_lt_iff_lt_mul hpos]; exact hq
    have hj : q % am k < (ys[q / am k]).cells.length := by rw [eE (hsh _ _ (bU hi))]; exact Nat.mod_lt _ hpos
    exact h1 _ _ _ _ (bU hi) (bU hj)
  · have hi : i < ys.length := (List.getElem?_eq_some_iff.1 hd).1
    have hj : j < am k := by have := (List.getElem?_eq_some_iff.1 hx).1; rw [eE (hsh i d hd)] at this; exact this
    have hlt : i * am k + j < ys.length * am k := by
      have : (i + 1) * am k ≤ ys.length * am k := Nat.mul_le_mul_right _ hi
      rw [Nat.add_mul] at this; omega
    have e1 : (i * am k + j) / am k = i := by rw [Nat.mul_comm, Nat.mul_add_div hpos, Nat.div_eq_of_lt hj]; omega
    have e2 : (i * am k + j) % am k = j := by rw [Nat.mul_comm, Nat.mul_add_mod, Nat.mod_eq_of_lt hj]
    refine ⟨f i j, ?_, h1 i d j x hd hx, h2 i d j x hd hx⟩
    rw [List.getElem?_map, List.getElem?_range hlt]
    simp [e1, e2]
theorem nK {k : Option Nat} {ys : List D} (hpos : 0 < am k) (b off : Nat) (f : Nat → Nat → Value) (hsh : ∀ (i : Nat) d, ys[i]? = some d → d.shape k = true)
    (hc : ∀ (i : Nat) d (j : Nat) x, ys[i]? = some d → d.cells[j]? = some x → w.cell? ⟨b, off + i * am k + j, none⟩ = some (f i j)) (dr : Nat) :
    (loadCells ⟨b, off, none⟩ (ys.length * am k)).run P { w with drawn := dr } = .ok ((List.range (ys.length * am k)).map fun q => f (q / am k) (q % am k)).toArray { w with drawn := dr } := by
  refine run_loadCells _ _ _ _ fun q hq => ?_
  have hi : q / am k < ys.length := by rw [Nat.div_lt_iff_lt_mul hpos]; exact hq
  have hj : q % am k < (ys[q / am k]).cells.length := by rw [eE (hsh _ _ (bU hi))]; exact Nat.mod_lt _ hpos
  have := hc _ _ _ _ (bU hi) (bU hj)
  have e : off + q / am k * am k + q % am k = off + q := by have := Nat.div_add_mod q (am k); rw [Nat.mul_comm] at this; omega
  rw [Addr.add_lit]
  rw [e] at this
  exact this
theorem sV {k : Option Nat} (hpos : 0 < am k) {y : V} {u : Value} (hs : bm A μ σ w) (hy : aR μ (aD A μ σ) w y u) {ys : List D}
    (h : (y = .d .nils ∧ ys = []) ∨ (cI σ y = some k ∧ eC σ y = some ys)) :
    ∃ p c news, u = .slice p ys.length c ∧ fA (aD A μ σ) w k ys news ∧ ∀ dr, (Builtin.firstCells (am k) ys.length u).run P { w with drawn := dr } = .ok news.toArray { w with drawn := dr } := by
  rcases h with ⟨rfl, rfl⟩ | ⟨hk, hel⟩
  · have := nA hy
    subst this
    exact ⟨none, 0, [], rfl, ⟨by simp, by simp, fun i d h => by simp at h⟩, fun dr => by simp [Builtin.firstCells]⟩
  · cases y with
    | d x =>
      cases x with
      | vec k' vs =>
        simp [cI] at hk; subst hk
        simp [eC] at hel; subst hel
        cases hy with | d _ _ hd => cases hd with
          | vecn _ ad => exact ⟨ad, 0, [], rfl, ⟨by simp, by simp, fun i d h => by simp at h⟩, fun dr => by cases ad <;> simp [Builtin.firstCells, loadCells, loadCellsFrom]⟩
          | vec _ _ b off cap f h1 h2 h3 h4 h5 h6 =>
            exact ⟨_, cap, _, rfl, nJ hpos f h2 h6 h5, fun dr => by simp only [Builtin.firstCells]; exact nK hpos b off f h2 h3 dr⟩
      | _ => simp [cI] at hk
    | loc id off len =>
      simp only [cI] at hk
      simp only [eC] at hel
      cases hid : σ id with
      | none => simp [hid] at hk
      | some blk =>
        cases blk with
        | var cs => simp [hid] at hel
        | mp es => simp [hid] at hel
        | lst m k' els =>
          simp [hid] at hk; subst hk
          simp only [hid] at hel
          split at hel
          · rename_i hle
            cases hel
            have hlen : ((els.drop off).take len).length = len := by simp; omega
            have hget : ∀ (i : Nat) d, ((els.drop off).take len)[i]? = some d → i < len ∧ els[off + i]? = some d := by
              intro i d hd
              rw [List.getElem?_take] at hd
              split at hd
              · rename_i hi; rw [List.getElem?_drop] at hd; exact ⟨hi, hd⟩
              · cases hd
            rw [hlen]
            cases hy with
            | loc0 _ _ ad =>
              refine ⟨ad, 0, [], rfl, ⟨by simp, by simp, fun i d h => by simp at h⟩, fun dr => ?_⟩
              cases ad <;> simp [Builtin.firstCells, loadCells, loadCellsFrom]
            | loc _ _ _ b k'' cap h1 h2 h3 h4 =>
              rcases hs.blks id _ hid with ⟨g1, _⟩ | ⟨b', c, ty, fr, g1, g2, g3, g4, g5⟩
              · rw [g1] at h1; cases h1
              · rw [g1] at h1; cases h1
                have hcell : ∀ (i : Nat) d (j : Nat) x, ((els.drop off).take len)[i]? = some d → d.cells[j]? = some x → ∃ v, c[(off + i) * am k' + j]? = some v ∧ v.oneCell' = true ∧ DRel (aD A μ σ) w x v :=
                  fun i d j x hd hx => (g5 _ d (hget i d hd).2).2 j x hx
                have hsh : ∀ (i : Nat) d, ((els.drop off).take len)[i]? = some d → d.shape k' = true := fun i d hd => (g5 _ d (hget i d hd).2).1
                have hrow := nJ (O := aD A μ σ) (w := w) (k := k') hpos (fun i j => c.getD ((off + i) * am k' + j) Go.undef) hsh
                  (fun i d j x hd hx => by obtain ⟨v, hv, ho, hr⟩ := hcell i d j x hd hx; simpa [hv] using ho)
                  (fun i d j x hd hx => by obtain ⟨v, hv, ho, hr⟩ := hcell i d j x hd hx; simpa [hv] using hr)
                refine ⟨_, cap, _, rfl, hrow, fun dr => ?_⟩
                have := nK (P := P) (w := w) hpos b (off * am k') (fun i j => c.getD ((off + i) * am k' + j) Go.undef) hsh (fun i d j x hd hx => by
                  obtain ⟨v, hv, ho, hr⟩ := hcell i d j x hd hx
                  rw [fu g2, show off * am k' + i * am k' + j = (off + i) * am k' + j by rw [Nat.add_mul], hv]
                  simp [hv]) dr
                rw [hlen] at this ⊢
                simp only [Builtin.firstCells]
                exact this
          · cases hel
    | _ => simp [cI] at hk
theorem sW {O : Nat → Nat → Prop} (s : ByteArray) : fA O w none (ga s) (s.data.toList.map fun b => Value.int .u8 b.toNat) := by
  refine ⟨by simp [ga], fun v hv => ?_, fun i d hd => ?_⟩
  · obtain ⟨b, _, rfl⟩ := List.mem_map.1 hv; rfl
  · simp only [ga, List.getElem?_map] at hd
    cases hb : s.data.toList[i]? with
    | none => simp [hb] at hd
    | some b =>
      simp [hb] at hd
      subst hd
      refine ⟨rfl, fun j x hx => ?_⟩
      cases j <;> simp [D.cells] at hx
      subst hx
      exact ⟨.int .u8 b.toNat, by rw [List.getElem?_map]; simp only [sl, Nat.mul_one, Nat.add_zero, hb]; rfl, rfl, .int _ _ (sk b)⟩
theorem j4 {t el t2 : TypeId} {u2 : TypeDesc} {k : Option Nat} {i : TypeInfo} {z : Value} (ht : P.underlying t = some (.slice el)) (hu2 : P.underlying t2 = some u2) (hni : (∃ q, u2 = .slice q) ∨ u2 = .string)
    (hk : co P el = some k) (hi : P.info? el = some i) (hz : i.zero = some z) (hby : P.bytesOf el ≤ 4096) (ty : TypeId) (base : Option Addr) (sLen sCap m : Nat) (u : Value) (olds news : List Value)
    (hlen : (Builtin.lenOf u).run P w = .ok m w) (hnew : ∀ dr, (Builtin.firstCells (am k) m u).run P { w with drawn := dr } = .ok news.toArray { w with drawn := dr })
    (hold : ∀ dr, (Builtin.firstCells (am k) sLen (.slice base sLen sCap)).run P { w with drawn := dr } = .ok olds.toArray { w with drawn := dr }) (hlim : sLen + m ≤ 4294967296) :
    (sLen + m ≤ sCap ∧ ∀ w', (match base with | some ad => (storeCells (ad.add (sLen * am k)) news).run P w | none => .ok () w) = .ok () w' →
      (Builtin.append_ #[t, t2] ty #[.slice base sLen sCap, u]).run P w = .ok (.slice base (sLen + m) sCap) w') ∨
    (sCap < sLen + m ∧ ∃ cap, sLen + m ≤ cap ∧ cap ≤ maxLen ∧ (Builtin.append_ #[t, t2] ty #[.slice base sLen sCap, u]).run P w =
      .ok (.slice (some ⟨w.heap.size, 0, none⟩) (sLen + m) cap) (({ w with drawn := w.drawn + 1 } : World).alloc (.cells (olds.toArray ++ news.toArray ++ Builtin.zeroCells z.cells (cap - (sLen + m))) el))) := by
  obtain ⟨_, hsz, _, _, hpos⟩ := eQ (w := w) hk
  by_cases hroom : sLen + m ≤ sCap
  · left
    refine ⟨hroom, fun w' hw => ?_⟩
    have hn0 := hnew w.drawn
    have hn0' : (Builtin.firstCells (am k) m u).run P w = .ok news.toArray w := hn0
    cases base with
    | none =>
      simp at hw
      subst hw
      rcases hni with ⟨q, rfl⟩ | rfl <;> simp [Builtin.append_, b9 ht, b9 hu2, hsz, hlen, hroom, hn0']
    | some ad =>
      simp only at hw
      rcases hni with ⟨q, rfl⟩ | rfl <;> simp [Builtin.append_, b9 ht, b9 hu2, hsz, hlen, hroom, hn0', hw]
  · right
    have hc : sCap < sLen + m := by omega
    have hbi : P.bytesOf el = i.bytes := by simp [Program.bytesOf, hi]
    rw [hbi] at hby
    have hnb : (sLen + m) * i.bytes ≤ 140737488355328 := by
      have : (sLen + m) * i.bytes ≤ 4294967296 * 4096 := Nat.mul_le_mul hlim hby
      omega
    have hfit := growslice_fits hc hnb
    have h63 : ¬ (((sLen + m : Nat) : Int) > IntKind.i64.max) := by
      simp [IntKind.max, IntKind.signed, IntKind.bits]; omega
    have hzv : (zeroValue el).run P { w with drawn := w.drawn + 1 } = .ok z { w with drawn := w.drawn + 1 } := iu hi hz
    have hn1 := hnew (w.drawn + 1)
    have ho1 := hold (w.drawn + 1)
    have hge := grownCap_ge w (sLen + m) sCap el
    have hcm := grownCap_le_maxLen w (sLen + m) sCap el (by simp only [maxLen]; omega)
    refine ⟨hc, grownCap w (sLen + m) sCap el, hge, hcm, ?_⟩
    have hfit' : ¬ (281474976710656 < Builtin.nextslicecap (sLen + m) sCap * i.bytes) := by omega
    have h63' : ¬ (9223372036854775807 < ((sLen : Int) + (m : Int))) := by omega
    have hn2 : (Builtin.firstCells (am k) m u).run P w.drew = .ok news.toArray w.drew := hn1
    have ho2 : (Builtin.firstCells (am k) sLen (.slice base sLen sCap)).run P w.drew = .ok olds.toArray w.drew := ho1
    have hz2 : (zeroValue el).run P w.drew = .ok z w.drew := hzv
    have hdr : ({ w with drawn := w.drawn + 1 } : World) = w.drew := rfl
    rw [hdr]
    clear hdr hn1 ho1 hzv
    have hcell : ∀ X : Array Value, (olds.toArray ++ (news.toArray ++ X)) = (olds ++ news).toArray ++ X := fun X => by
      apply Array.ext'; simp
    rcases hni with ⟨q, rfl⟩ | rfl <;>
      simp [Builtin.append_, b9 ht, b9 hu2, hsz, hlen, hroom, typeInfo, hi, h63', hfit', Question.forced, ho2, hn2, hz2, newRow, grownCap, hcell]
theorem bV.ofDrop {σ0 : aL} (hd : ∀ j blk, σ0 j = some blk → σ j = some blk) (h : bV P A μ σ0 w o a v σ' n n') : bV P A μ σ w o a v σ' n n' := by
  obtain ⟨nx, cv, w', μ', h1, h2, h3, h4, h5, h6⟩ := h
  exact ⟨nx, cv, w', μ', h1, h2, h3, h4, (bk.drop hd).trans h5, h6⟩
theorem nL (hs : bm A μ σ w) (hn : μ n = none) (m : Bool) (k : Option Nat) {ad : Option Addr} (hr : (execOp a.eval o).run P w = .ok (.value (.slice ad 0 0)) w) :
    bV P A μ σ w o a (.loc n 0 0) (aw σ n (some (.lst m k []))) n (n + 1) := by
  have g : bk μ σ w (aw μ n (some .nil)) (aw σ n (some (.lst m k []))) w :=
    { os := rfl, tape := rfl, output := rfl, size := Nat.le_refl _, block := fun _ _ _ => rfl, cells := fun _ c _ _ hc => ⟨c, hc, rfl, fun _ _ => rfl⟩
      own := fun b o' ho => by
        obtain ⟨id, bl, h1, h2⟩ := ho
        by_cases e : id = n
        · subst e; simp only [bz] at h2; unfold bu.ownsAt at h2; split at h2 <;> simp_all
        · rw [bg _ _ e] at h1 h2; exact .inl ⟨id, bl, h1, h2⟩
      ownB := fun b ho => by
        obtain ⟨id, bl, k', h1, h2⟩ := ho
        by_cases e : id = n
        · subst e; simp only [bz] at h2; cases h2
        · rw [bg _ _ e] at h1 h2; exact .inl ⟨id, bl, k', h1, h2⟩
      grow := fun id p hp => by rw [bg]; exact hp; rintro rfl; rw [hn] at hp; cases hp }
  refine ⟨_, _, w, aw μ n (some .nil), hr, .inl rfl, .loc0 _ _ _ (by rw [bz]; simp), hs.update g n (fun j x hj h => by rwa [bg _ _ hj] at h) (fun j hj => bg _ _ hj) (fun x hx => ?_) (fun _ _ _ _ _ _ _ => rfl) (fun b k' x hx hp => ?_), g, fun id h => ?_⟩
  · simp only [bz, Option.some.injEq] at hx; subst hx; exact .inl ⟨bz _ _ _, rfl⟩
  · simp only [bz] at hp; cases hp
  · by_cases e : id = n
    · exact .inr (by omega)
    · rw [bg _ _ e] at h; exact .inl h
theorem sX (hs : bm A μ σ w) {id : Nat} {blk : bu} {p : bI} (hid : σ id = some blk) (hp : μ id = some p) (hn : μ n = none) :
    bk μ σ w (aw μ n (some p)) (aw (aw σ id none) n (some blk)) w ∧ bm A (aw μ n (some p)) (aw (aw σ id none) n (some blk)) w := by
  have hne : id ≠ n := by rintro rfl; rw [hn] at hp; cases hp
  have hsn : ∀ j, j ≠ n → ∀ x, aw (aw σ id none) n (some blk) j = some x → j ≠ id ∧ σ j = some x := by
    intro j hj x hx
    rw [bg _ _ hj] at hx
    by_cases e : j = id
    · subst e; simp [bz] at hx
    · rw [bg _ _ e] at hx; exact ⟨e, hx⟩
  have g : bk μ σ w (aw μ n (some p)) (aw (aw σ id none) n (some blk)) w :=
    { os := rfl, tape := rfl, output := rfl, size := Nat.le_refl _, block := fun _ _ _ => rfl, cells := fun _ c _ _ hc => ⟨c, hc, rfl, fun _ _ => rfl⟩
      own := fun b o' ho => by
        obtain ⟨j, bl, h1, h2⟩ := ho
        by_cases e : j = n
        · subst e; simp only [bz, Option.some.injEq] at h1 h2; subst h1; exact .inl ⟨id, blk, hid, by rw [hp]; exact h2⟩
        · obtain ⟨_, h3⟩ := hsn j e bl h1; rw [bg _ _ e] at h2; exact .inl ⟨j, bl, h3, h2⟩
      ownB := fun b ho => by
        obtain ⟨j, bl, k', h1, h2⟩ := ho
        by_cases e : j = n
        · subst e; simp only [bz, Option.some.injEq] at h2; subst h2; exact .inl ⟨id, blk, k', hid, hp⟩
        · obtain ⟨_, h3⟩ := hsn j e bl h1; rw [bg _ _ e] at h2; exact .inl ⟨j, bl, k', h3, h2⟩
      grow := fun j q hq => by rw [bg]; exact hq; rintro rfl; rw [hn] at hq; cases hq }
  refine ⟨g, hs.update g n (fun j x hj h => (hsn j hj x h).2) (fun j hj => bg _ _ hj) (fun x hx => ?_) (fun _ _ _ _ _ _ _ => rfl) (fun b k' x hx hq => ?_)⟩
  · simp only [bz, Option.some.injEq] at hx
    subst hx
    have hb := cH.keep g hs.alt (fun _ _ _ => rfl) (hs.blks id blk hid)
    cases blk with
    | lst m k els =>
      rcases hb with ⟨h1, h2⟩ | ⟨b, c, ty, fr, h1, h2⟩
      · rw [bg _ _ hne, hp] at h1
        exact .inl ⟨by rw [bz, h1], h2⟩
      · rw [bg _ _ hne, hp] at h1
        exact .inr ⟨b, c, ty, fr, by rw [bz, h1], h2⟩
    | var cs =>
      obtain ⟨b, c, ty, fr, h1, h2⟩ := hb
      rw [bg _ _ hne, hp] at h1
      exact ⟨b, c, ty, fr, by rw [bz, h1], h2⟩
    | mp es =>
      obtain ⟨b, c, clk, h1, h2⟩ := hb
      rw [bg _ _ hne, hp] at h1
      exact ⟨b, c, clk, by rw [bz, h1], h2⟩
  · simp only [bz, Option.some.injEq] at hq
    subst hq
    refine ⟨hs.amb id blk b k' hid hp, fun j x' k'' hj hx' hq' => ?_⟩
    obtain ⟨h1, h2⟩ := hsn j hj x' hx'
    rw [bg _ _ hj] at hq'
    exact h1 (hs.inj j id x' blk b k'' k' h2 hid hq' hp)
theorem pO {O : Nat → Nat → Prop} {k : Option Nat} {els ys : List D} {olds news rest : List Value} (h1 : fA O w k els olds) (h2 : fA O w k ys news) :
    ∀ (i : Nat) d, (els ++ ys)[i]? = some d → d.shape k = true ∧ ∀ (j : Nat) x, d.cells[j]? = some x → ∃ v, (olds ++ news ++ rest).toArray[i * am k + j]? = some v ∧ v.oneCell' = true ∧ DRel O w x v := by
  intro i d hd
  by_cases hi : i < els.length
  · rw [List.getElem?_append_left hi] at hd
    obtain ⟨a1, a2⟩ := h1.2.2 i d hd
    refine ⟨a1, fun j x hx => ?_⟩
    obtain ⟨v, hv, b1, b2⟩ := a2 j x hx
    have := (List.getElem?_eq_some_iff.1 hv).1
    exact ⟨v, by rw [List.getElem?_toArray, List.append_assoc, List.getElem?_append_left this]; exact hv, b1, b2⟩
  · rw [List.getElem?_append_right (by omega)] at hd
    obtain ⟨a1, a2⟩ := h2.2.2 _ d hd
    refine ⟨a1, fun j x hx => ?_⟩
    obtain ⟨v, hv, b1, b2⟩ := a2 j x hx
    have hl := (List.getElem?_eq_some_iff.1 hv).1
    have e : i * am k + j - olds.length = (i - els.length) * am k + j := by
      rw [h1.1, Nat.mul_sub_right_distrib]
      have : els.length * am k ≤ i * am k := Nat.mul_le_mul_right _ (by omega)
      omega
    have hge : olds.length ≤ i * am k + j := by
      rw [h1.1]
      have : els.length * am k ≤ i * am k := Nat.mul_le_mul_right _ (by omega)
      omega
    refine ⟨v, ?_, b1, b2⟩
    rw [List.getElem?_toArray, List.append_assoc, List.getElem?_append_right hge, e, List.getElem?_append_left hl]
    exact hv
end
end Go.AM
end
