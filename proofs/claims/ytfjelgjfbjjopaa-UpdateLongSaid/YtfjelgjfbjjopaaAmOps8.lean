import Derived.Test.YtfjelgjfbjjopaaAmOps7
set_option linter.unusedVariables false
set_option linter.unusedSectionVars false
set_option linter.unusedSimpArgs false
namespace Go.AM
open Go Go.RowKit
variable [Glob]
section
variable {P : Program} {A : Nat → Nat → Prop} {μ : Nat → Option aJ} {σ σ' : au} {w : World} {o : Oper} {a : Act} {v : V} {n n' : Nat} {e : AX → V}
theorem gE {α : Type} {l m : List α} {off : Nat} (hle : off + m.length ≤ l.length) (i : Nat) :
    (l.take off ++ m ++ l.drop (off + m.length))[i]? = if i < off then l[i]? else if i < off + m.length then m[i - off]? else l[i]? := by
  have l1 : (l.take off).length = off := by simp; omega
  split
  · rename_i c1
    rw [List.append_assoc, List.getElem?_append_left (by omega), List.getElem?_take, if_pos c1]
  · rename_i c1
    split
    · rename_i c2
      rw [List.append_assoc, List.getElem?_append_right (by omega), List.getElem?_append_left (by omega), l1]
    · rename_i c2
      rw [List.getElem?_append_right (by simp; omega)]
      simp only [List.length_append, l1, List.getElem?_drop]
      congr 1; omega
theorem mG {t : TypeId} {k : Option Nat} (ht : bp P t = some k) {b off : Nat} {c : Array Value} {ty : TypeId} {fr : Nat × Nat} (hb : w.heap[b]? = some (.cells c ty fr)) (hn : fH c fr) {u : Value}
    (hu : u.cells.size = ah k) (hle : off + ah k ≤ c.size) (h1 : ∀ x ∈ u.cells.toList, x.oneCell' = true) :
    (storeVar t ⟨b, off, none⟩ u).run P w = .ok () (bY w b (c.toList.take off ++ u.cells.toList ++ c.toList.drop (off + u.cells.toList.length)).toArray) := by
  obtain ⟨_, hsz, _⟩ := cH (w := w) ht
  have := iv (P := P) b off ty fr u.cells.toList 0 c w hb hn (by simp; omega) h1
  simp only [Nat.add_zero] at this
  simp only [storeVar, Sem.run_bind, hsz, Result.andThen_ok, Sem.run_ite]
  rw [if_neg (by omega)]
  exact this
theorem aZ.skip {σ' : au} {w' : World} (hs' : aB A μ σ' w') (g : aA μ σ w μ σ' w') (hr : (execOp a.eval o).run P w = .ok .skip w') : aZ P A μ σ w o a V.undef σ' n n :=
  ⟨_, Go.undef, w', μ, hr, .inr ⟨rfl, rfl⟩, .d _ _ (.undef _), hs', g, fun id h => .inl h⟩
theorem pS {kb k : Option Nat} {d x z : D} {j : Nat} (hsh : d.shape kb = true) (h : fk kb d j k x = some z) :
    x.shape k = true ∧ x.cells.all D.one = true ∧ z.shape kb = true ∧ j + ah k ≤ ah kb ∧ z.cells = d.cells.take j ++ x.cells ++ d.cells.drop (j + x.cells.length) := by
  unfold fk at h
  split at h
  · rename_i hx
    obtain ⟨h1, h2⟩ := hx
    have hl := ck h1
    split at h
    · rename_i hc
      obtain ⟨rfl, rfl⟩ := hc
      cases h
      refine ⟨h1, h2, h1, by simp, ?_⟩
      have hl2 := ck hsh
      simp only [List.take_zero, List.nil_append, Nat.zero_add]
      rw [List.drop_of_length_le (by omega)]; simp
    · split at h
      · rename_i cs
        split at h
        · rename_i hle
          cases h
          have hkb : kb = some cs.length := by simpa [D.shape] using hsh
          subst hkb
          refine ⟨h1, h2, by simp [D.shape]; omega, by simpa using hle, by show cs.take j ++ x.cells ++ cs.drop (j + ah k) = cs.take j ++ x.cells ++ cs.drop (j + x.cells.length); rw [hl]⟩
        · cases h
      · cases h
  · cases h
theorem pT {k : Option Nat} {x y : AX} {p q : Operand} {t : TypeId} (ho : o.op = .store t p q) (ht : bp P t = some k) (hp : aw μ (ak A μ σ) w (e x) (a.eval p)) (hq : aw μ (ak A μ σ) w (e y) (a.eval q))
    (hs : aB A μ σ w) (hv : dM σ k (e x) (e y) = some σ') : aZ P A μ σ w o a V.undef σ' n n := by
  unfold dM at hv
  split at hv
  · rename_i id i j hx
    rw [hx] at hp
    generalize hap : a.eval p = up at hp
    cases hp with
    | ptr _ _ _ b k' hpl =>
      split at hv
      · rename_i kb els hid
        split at hv
        · rename_i d z hd hy
          cases hsd : fk kb d j k z with
          | none => simp [hsd] at hv
          | some zz =>
            simp [hsd] at hv
            subst hv
            rw [hy] at hq
            generalize haq : a.eval q = uq at hq
            cases hq with
            | d _ _ hz =>
              rcases hs.blks id _ hid with ⟨h1, _⟩ | ⟨b', c, ty, fr, h1, h2, h3, h4, h5⟩
              · simp [h1] at hpl
              · rw [h1] at hpl; cases hpl
                obtain ⟨hsh, hcs⟩ := h5 i d hd
                obtain ⟨s1, s2, s3, s4, s5⟩ := pS hsh hsd
                obtain ⟨r1, r2⟩ := hz.row s1 s2
                have hi : i < els.length := (List.getElem?_eq_some_iff.1 hd).1
                have hfit : i * ah k' + ah k' ≤ c.size := by
                  have : (i + 1) * ah k' ≤ els.length * ah k' := Nat.mul_le_mul_right _ (by omega)
                  rw [Nat.add_mul] at this; omega
                have hones : ∀ x ∈ uq.cells.toList, x.oneCell' = true := by
                  intro x hx
                  obtain ⟨y, hy, rfl⟩ := List.getElem_of_mem hx
                  have hyl : y < z.cells.length := by rw [ck s1, ← r1]; simpa using hy
                  obtain ⟨v, hv, ho', _⟩ := r2 y z.cells[y] (by simp [hyl])
                  have : v = uq.cells.toList[y] := by
                    have hv' : uq.cells.toList[y]? = some v := by simpa using hv
                    rw [bt hy] at hv'
                    exact (aH hv').symm
                  rw [← this]; exact ho'
                have hrun := mG (P := P) ht h2 h3 (u := uq) r1 (off := i * ah k' + j) (by omega) hones
                have hul : uq.cells.toList.length = ah k := by simpa using r1
                have g := aA.write (blk' := .lst true k' (els.set i zz)) (c' := (c.toList.take (i * ah k' + j) ++ uq.cells.toList ++ c.toList.drop (i * ah k' + j + uq.cells.toList.length)).toArray) hs hid h1 h2 (by simp; omega)
                  (fun o' ho' => (ho' rfl).elim) (fun o' ho' => ho')
                refine aZ.skip (hs.write hid h1 h2 g (.inr ⟨b, _, ty, fr, h1, dY h2, ?_, ?_, fun i' d' hd' => ?_⟩)) g (by simp [execOp, ho, hap, haq, Instr.storeAt, Instr.sureAddr, hrun])
                · have hszc : (c.toList.take (i * ah k' + j) ++ uq.cells.toList ++ c.toList.drop (i * ah k' + j + uq.cells.toList.length)).toArray.size = c.size := by simp; omega
                  show fr.1 = fr.2 ∨ _ ≤ fr.1
                  rw [hszc]; exact h3
                · simp; omega
                · have hget : ∀ (y : Nat), ((c.toList.take (i * ah k' + j) ++ uq.cells.toList ++ c.toList.drop (i * ah k' + j + uq.cells.toList.length)).toArray)[i' * ah k' + y]? = if i' * ah k' + y < i * ah k' + j then c[i' * ah k' + y]? else if i' * ah k' + y < i * ah k' + j + ah k then uq.cells[i' * ah k' + y - (i * ah k' + j)]? else c[i' * ah k' + y]? := by
                    intro y
                    rw [List.getElem?_toArray, gE (by simp; omega)]
                    simp only [hul, Array.getElem?_toList]
                  by_cases hii : i' = i
                  · subst hii
                    rw [List.getElem?_set, if_pos rfl, if_pos hi] at hd'
                    cases hd'
                    refine ⟨s3, fun y x0 hx0 => ?_⟩
                    rw [s5, gE (by rw [ck hsh, ck s1]; omega)] at hx0
                    rw [ck s1] at hx0
                    rw [hget]
                    by_cases c1 : y < j
                    · rw [if_pos c1] at hx0
                      obtain ⟨v, hv, ho', hr⟩ := hcs y x0 hx0
                      rw [if_pos (by omega)]
                      exact ⟨v, hv, ho', g.keepD hs.alt hr⟩
                    · rw [if_neg c1] at hx0
                      rw [if_neg (by omega)]
                      by_cases c2 : y < j + ah k
                      · rw [if_pos c2] at hx0
                        obtain ⟨v, hv, ho', hr⟩ := r2 _ x0 hx0
                        rw [if_pos (by omega), show i' * ah k' + y - (i' * ah k' + j) = y - j by omega]
                        exact ⟨v, hv, ho', g.keepD hs.alt hr⟩
                      · rw [if_neg c2] at hx0
                        obtain ⟨v, hv, ho', hr⟩ := hcs y x0 hx0
                        rw [if_neg (by omega)]
                        exact ⟨v, hv, ho', g.keepD hs.alt hr⟩
                  · rw [List.getElem?_set, if_neg (by omega)] at hd'
                    obtain ⟨q1, q2⟩ := h5 i' d' hd'
                    refine ⟨q1, fun y x0 hx0 => ?_⟩
                    obtain ⟨v, hv, ho', hr⟩ := q2 y x0 hx0
                    have hy : y < ah k' := by have := (List.getElem?_eq_some_iff.1 hx0).1; rw [ck q1] at this; exact this
                    rw [hget]
                    rcases Nat.lt_or_ge i' i with hlt | hge
                    · have : (i' + 1) * ah k' ≤ i * ah k' := Nat.mul_le_mul_right _ hlt
                      rw [Nat.add_mul] at this
                      rw [if_pos (by omega)]
                      exact ⟨v, hv, ho', g.keepD hs.alt hr⟩
                    · have : (i + 1) * ah k' ≤ i' * ah k' := Nat.mul_le_mul_right _ (by omega)
                      rw [Nat.add_mul] at this
                      rw [if_neg (by omega), if_neg (by omega)]
                      exact ⟨v, hv, ho', g.keepD hs.alt hr⟩
        · cases hv
      · rename_i cs hid
        split at hv
        · rename_i hc
          obtain ⟨c1, c2, c3⟩ := hc
          obtain rfl := aH hv
          obtain ⟨b', c, ty, fr, h1, h2, h3, h4, h5⟩ := hs.blks id _ hid
          rw [h1] at hpl; cases hpl
          obtain ⟨r1, r2⟩ := hq.cells c2
          have hul : (a.eval q).cells.toList.length = ah k := by simpa using r1.trans c1
          have hones : ∀ x ∈ (a.eval q).cells.toList, x.oneCell' = true := by
            intro x0 hx0
            obtain ⟨z, hz, rfl⟩ := List.getElem_of_mem hx0
            have hzl : z < (e y).cells.length := by rw [← r1]; simpa using hz
            exact (r2 z (e y).cells[z] _ (by simp [hzl]) (by simp)).2
          have hrun := mG (P := P) ht h2 h3 (u := a.eval q) (r1.trans c1) (off := i + j) (by omega) hones
          have g := aA.write (blk' := .var (cs.take (i + j) ++ (e y).cells ++ cs.drop (i + j + ah k))) (c' := (c.toList.take (i + j) ++ (a.eval q).cells.toList ++ c.toList.drop (i + j + (a.eval q).cells.toList.length)).toArray) hs hid h1 h2 (by simp; omega)
            (fun o' ho' => (ho' rfl).elim) (fun o' ho' => ho')
          refine aZ.skip (hs.write hid h1 h2 g ⟨b, _, ty, fr, h1, dY h2, ?_, by simp; omega, fun i' x' v' hx' hv' => ?_⟩) g (by simp [execOp, ho, hap, Instr.storeAt, Instr.sureAddr, hrun])
          · have hszc : (c.toList.take (i + j) ++ (a.eval q).cells.toList ++ c.toList.drop (i + j + (a.eval q).cells.toList.length)).toArray.size = c.size := by simp; omega
            show fr.1 = fr.2 ∨ _ ≤ fr.1
            rw [hszc]; exact h3
          · rw [List.getElem?_toArray, gE (by simp; omega)] at hv'
            rw [show i + j + ah k = i + j + (e y).cells.length by omega, gE (by omega)] at hx'
            rw [hul] at hv'
            rw [c1] at hx'
            simp only [Array.getElem?_toList] at hv'
            by_cases d1 : i' < i + j
            · rw [if_pos d1] at hx' hv'
              exact ⟨(h5 i' x' v' hx' hv').1, g.keepV hs.alt (h5 i' x' v' hx' hv').2⟩
            · rw [if_neg d1] at hx' hv'
              by_cases d2 : i' < i + j + ah k
              · rw [if_pos d2] at hx' hv'
                exact ⟨(r2 _ x' v' hx' hv').2, g.keepV hs.alt (r2 _ x' v' hx' hv').1⟩
              · rw [if_neg d2] at hx' hv'
                exact ⟨(h5 i' x' v' hx' hv').1, g.keepV hs.alt (h5 i' x' v' hx' hv').2⟩
        · cases hv
      · cases hv
  · cases hv
end
end Go.AM
