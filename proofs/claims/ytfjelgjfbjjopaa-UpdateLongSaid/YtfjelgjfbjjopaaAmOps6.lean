import Derived.Test.YtfjelgjfbjjopaaAmOps5
set_option linter.unusedVariables false
set_option linter.unusedSectionVars false
set_option linter.unusedSimpArgs false
namespace Go.AM
open Go Go.RowKit
variable [Glob]
section
variable {P : Program} {A : Nat → Nat → Prop} {μ : Nat → Option aJ} {σ σ' : au} {w : World} {o : Oper} {a : Act} {v : V} {n n' : Nat} {e : AX → V}
theorem mx {fs : Array Field} : ∀ {parts : List (Nat × Nat × AX)} {ps : List (Nat × Operand)}, fL P fs parts ps = true → parts.length = ps.length ∧
    ∀ (i : Nat) p q, parts[i]? = some p → ps[i]? = some q → (∃ f, fs[q.1]? = some f ∧ f.offset = p.1 ∧ P.cellsOf f.type = p.2.1) ∧ aY p.2.2 q.2 = true
  | [], [], _ => ⟨rfl, fun i p q h => by simp at h⟩
  | (off, size, x) :: l, (i, y) :: r, h => by
    simp only [fL, Bool.and_eq_true] at h
    obtain ⟨⟨h1, h2⟩, h3⟩ := h
    obtain ⟨hl, ih⟩ := mx h3
    refine ⟨by simp [hl], fun j p q hp hq => ?_⟩
    cases j with
    | zero =>
      simp at hp hq; subst hp; subst hq
      cases hf : fs[i]? with
      | none => simp [hf] at h1
      | some f => simp [hf] at h1; exact ⟨⟨f, rfl, h1.1.1, h1.1.2⟩, h2⟩
    | succ j => exact ih j p q (by simpa using hp) (by simpa using hq)
  | [], _ :: _, h => by simp [fL] at h
  | _ :: _, [], h => by simp [fL] at h
theorem my {sz : Nat} : ∀ {parts : List (Nat × Nat × AX)} {ps : List (Nat × Operand)}, fM sz parts ps = true → parts.length = ps.length ∧
    ∀ (i : Nat) p q, parts[i]? = some p → ps[i]? = some q → p.1 = q.1 * sz ∧ p.2.1 = sz ∧ aY p.2.2 q.2 = true
  | [], [], _ => ⟨rfl, fun i p q h => by simp at h⟩
  | (off, size, x) :: l, (i, y) :: r, h => by
    simp only [fM, Bool.and_eq_true, beq_iff_eq] at h
    obtain ⟨⟨⟨h0, h1⟩, h2⟩, h3⟩ := h
    obtain ⟨hl, ih⟩ := my h3
    refine ⟨by simp [hl], fun j p q hp hq => ?_⟩
    cases j with
    | zero => simp at hp hq; subst hp; subst hq; exact ⟨h0, h1, h2⟩
    | succ j => exact ih j p q (by simpa using hp) (by simpa using hq)
  | [], _ :: _, h => by simp [fM] at h
  | _ :: _, [], h => by simp [fM] at h
theorem pM {zero : List D} {parts : List (Nat × Nat × AX)} {t : TypeId} {ps : Array (Nat × Operand)} (ho : o.op = .build t ps) (hz : dh P t zero = true)
    (hc : (match P.underlying t with
      | some (.struct fs) => fs.toList.all (fun f => (P.info? f.type).isSome) && fL P fs parts ps.toList
      | some (.array _ e) => (P.info? e).isSome && fM (P.cellsOf e) parts ps.toList
      | _ => false) = true) (he : cx μ (ak A μ σ) w e a) (hs : aB A μ σ w) {cells : List V}
    (hf : eZ (zero.map V.d) (parts.map fun p => (p.1, p.2.1, e p.2.2)) = some cells) : aZ P A μ σ w o a (fI cells) σ n n := by
  obtain ⟨i, z, hi, hz1, hz2⟩ := gz hz
  obtain ⟨hl, hr⟩ := fo (own := ak A μ σ) (w := w) hz2
  have hzero : ∀ (i : Nat) x v, (zero.map V.d)[i]? = some x → z.cells[i]? = some v → aw μ (ak A μ σ) w x v := by
    intro j x v hx hv
    simp only [List.getElem?_map] at hx
    cases hd : zero[j]? with
    | none => simp [hd] at hx
    | some d => simp [hd] at hx; subst hx; exact .d _ _ (hr j d v hd (by simpa using hv))
  have hrun0 := ew (w := w) hi hz1
  cases hu : P.underlying t with
  | none => simp [hu] at hc
  | some u =>
    rw [hu] at hc
    cases u with
    | struct fs =>
      simp only [Bool.and_eq_true] at hc
      obtain ⟨hfs, hcp⟩ := hc
      obtain ⟨hlp, hpp⟩ := mx hcp
      have hplaces : (fs.toList.mapM fun f => Prod.mk f.offset <$> sizeOf f.type).run P w = .ok (fs.toList.map fun f => (f.offset, P.cellsOf f.type)) w := by
        have : ∀ (l : List Field), l.all (fun f => (P.info? f.type).isSome) = true → (l.mapM fun f => Prod.mk f.offset <$> sizeOf f.type).run P w = .ok (l.map fun f => (f.offset, P.cellsOf f.type)) w := by
          intro l
          induction l with
          | nil => intro _; simp
          | cons f l ih =>
            intro h
            simp only [List.all_cons, Bool.and_eq_true] at h
            obtain ⟨i, hi⟩ := Option.isSome_iff_exists.1 h.1
            have := fP (w := w) hi
            have ih := ih h.2
            simp only [List.mapM_cons, Sem.run_bind, Sem.run_map, this, Result.andThen_ok, ih, List.map_cons, Sem.run_pure]
        exact this _ hfs
      obtain ⟨r, hr1, hr2, hr3⟩ := kw (μ := μ) (w := w) (O := ak A μ σ) (fun j => (fs.map fun f => (f.offset, P.cellsOf f.type))[j]?) (parts.map fun p => (p.1, p.2.1, e p.2.2)) (ps.toList.map fun (q : Nat × Operand) => (q.1, a.eval q.2)) (zero.map V.d) z.cells cells
        (by simpa using hlp) (fun j p q hp hq => by
          simp only [List.getElem?_map] at hp hq
          cases hpj : parts[j]? with
          | none => simp [hpj] at hp
          | some p0 => cases hqj : ps.toList[j]? with
            | none => rw [hqj] at hq; simp at hq
            | some q0 =>
              rw [hpj] at hp; rw [hqj] at hq
              simp at hp hq
              subst hp; subst hq
              obtain ⟨⟨f, hf1, hf2, hf3⟩, hcx⟩ := hpp j p0 q0 hpj hqj
              refine ⟨by simp [hf1, hf2, hf3], he _ _ hcx⟩) (by simpa using hl) hzero hf
      refine .val hs (cv := .agg r) ?_ (ji hr2 hr3)
      simp [execOp, ho, Instr.build, hrun0, bf hu, Array.mapM_eq_mapM_toList, hplaces]
      simp at hr1
      simp [hr1]
    | array m el =>
      simp only [Bool.and_eq_true] at hc
      obtain ⟨hfs, hcp⟩ := hc
      obtain ⟨hlp, hpp⟩ := my hcp
      obtain ⟨i', hi'⟩ := Option.isSome_iff_exists.1 hfs
      obtain ⟨r, hr1, hr2, hr3⟩ := kw (μ := μ) (w := w) (O := ak A μ σ) (fun j => some (j * P.cellsOf el, P.cellsOf el)) (parts.map fun p => (p.1, p.2.1, e p.2.2)) (ps.toList.map fun (q : Nat × Operand) => (q.1, a.eval q.2)) (zero.map V.d) z.cells cells
        (by simpa using hlp) (fun j p q hp hq => by
          simp only [List.getElem?_map] at hp hq
          cases hpj : parts[j]? with
          | none => simp [hpj] at hp
          | some p0 => cases hqj : ps.toList[j]? with
            | none => rw [hqj] at hq; simp at hq
            | some q0 =>
              rw [hpj] at hp; rw [hqj] at hq
              simp at hp hq
              subst hp; subst hq
              obtain ⟨h1, h2, hcx⟩ := hpp j p0 q0 hpj hqj
              refine ⟨by simp [h1, h2], he _ _ hcx⟩) (by simpa using hl) hzero hf
      refine .val hs (cv := .agg r) ?_ (ji hr2 hr3)
      simp only [execOp, ho, Instr.build, Sem.run_bind, hrun0, Result.andThen_ok, bf hu, fP hi']
      simp [hr1]
    | _ => simp at hc
theorem jt (hs : aB A μ σ w) (hn : μ n = none) {k : Option Nat} {els : List D} {c : Array Value} {ty : TypeId} {cap d : Nat} (m : Bool) (hpos : 0 < ah k) (fr : Nat × Nat) (hfr : fH c fr)
    (hr : (execOp a.eval o).run P w = .ok (.value (.slice (some ⟨w.heap.size, 0, none⟩) els.length cap)) (({ w with drawn := d } : World).alloc (.cells c ty fr)))
    (hcap : els.length ≤ cap) (hmax : cap ≤ maxLen) (hsz : c.size = cap * ah k)
    (hc : ∀ (i : Nat) d, els[i]? = some d → d.shape k = true ∧ ∀ (j : Nat) x, d.cells[j]? = some x → ∃ v, c[i * ah k + j]? = some v ∧ v.oneCell' = true ∧ DRel (ak A μ σ) w x v) :
    aZ P A μ σ w o a (.loc n 0 els.length) (aj σ n (some (.lst m k els))) n (n + 1) := by
  have g0 : aA μ σ w μ σ { w with drawn := d } := aA.drew d
  have hs0 := hs.drew d
  have g := aA.alloc hs0 hn (.lst m k els) k (.cells c ty fr)
  refine ⟨_, _, _, aj μ n (some (.at w.heap.size k)), hr, .inl rfl, ?_, aB.alloc hs0 hn _ k _ (.inr ⟨w.heap.size, c, ty, fr, aL _ _ _, heap_alloc_new _ _, hfr, ?_, fun i d hd => ⟨(hc i d hd).1, fun j x hx => ?_⟩⟩), g0.trans g, fun id h => ?_⟩
  · have := aw.loc (μ := aj μ n (some (.at w.heap.size k))) (own := ak A (aj μ n (some (.at w.heap.size k))) (aj σ n (some (.lst m k els)))) (w := ({ w with drawn := d } : World).alloc (.cells c ty fr)) n 0 els.length w.heap.size k cap (aL _ _ _) hcap hmax
      ⟨c, ty, fr, heap_alloc_new _ _, by simp; omega⟩
    simpa using this
  · rw [hsz]; exact Nat.mul_le_mul_right _ hcap
  · obtain ⟨v, hv, h1, h2⟩ := (hc i d hd).2 j x hx
    exact ⟨v, hv, h1, g.keepD hs0.alt (g0.keepD hs.alt h2)⟩
  · by_cases e : id = n
    · exact .inr (by omega)
    · rw [aG _ _ e] at h; exact .inl h
theorem mz (hs : aB A μ σ w) {k : Option Nat} {els : List D} {c : Array Value} {ty : TypeId} {cap dn : Nat} (fr : Nat × Nat)
    (hr : (execOp a.eval o).run P w = .ok (.value (.slice (some ⟨w.heap.size, 0, none⟩) els.length cap)) (({ w with drawn := dn } : World).alloc (.cells c ty fr)))
    (hcap : els.length ≤ cap) (hmax : cap ≤ maxLen)
    (hc : ∀ (i : Nat) d, els[i]? = some d → d.shape k = true ∧ ∀ (j : Nat) x, d.cells[j]? = some x → ∃ v, c[i * ah k + j]? = some v ∧ v.oneCell' = true ∧ DRel (ak A μ σ) w x v) :
    aZ P A μ σ w o a (.d (.vec k els)) σ n n := by
  have g0 : aA μ σ w μ σ { w with drawn := dn } := aA.drew dn
  have hs0 := hs.drew dn
  have g : aA μ σ { w with drawn := dn } μ σ (({ w with drawn := dn } : World).alloc (.cells c ty fr)) := aA.allocFree _
  refine ⟨_, _, _, μ, hr, .inl rfl, .d _ _ (.vec k els w.heap.size 0 cap (fun i j => c.getD (i * ah k + j) Go.undef) ⟨hcap, hmax⟩ (fun i d hd => (hc i d hd).1) (fun i d j x hd hx => ?_) (fun i d j x hd hx => l6 hs _) (fun i d j x hd hx => ?_) (fun i d j x hd hx => ?_)), hs0.allocFree _, g0.trans g, fun id h => .inl h⟩
  · obtain ⟨v, hv, _⟩ := (hc i d hd).2 j x hx
    have hb : (({ w with drawn := dn } : World).alloc (.cells c ty fr)).heap[w.heap.size]? = some (.cells c ty fr) := heap_alloc_new _ _
    rw [cD hb]
    simp [hv]
  · obtain ⟨v, hv, _, h2⟩ := (hc i d hd).2 j x hx
    have := g.keepD hs0.alt (g0.keepD hs.alt h2)
    simpa [hv] using this
  · obtain ⟨v, hv, h1, _⟩ := (hc i d hd).2 j x hx
    simpa [hv] using h1
theorem ir : ∀ {j : Nat} {parts : List AX} {ps : List (Nat × Operand)}, ep j parts ps = true → parts.length = ps.length ∧
    ∀ (i : Nat) p q, parts[i]? = some p → ps[i]? = some q → q.1 = j + i ∧ aY p q.2 = true
  | _, [], [], _ => ⟨rfl, fun i p q h => by simp at h⟩
  | j, x :: l, (i, y) :: r, h => by
    simp only [ep, Bool.and_eq_true, beq_iff_eq] at h
    obtain ⟨⟨h1, h2⟩, h3⟩ := h
    obtain ⟨hl, ih⟩ := ir h3
    refine ⟨by simp [hl], fun q p u hp hq => ?_⟩
    cases q with
    | zero => simp at hp hq; subst hp; subst hq; exact ⟨by simpa using h1, h2⟩
    | succ q =>
      obtain ⟨a1, a2⟩ := ih q p u (by simpa using hp) (by simpa using hq)
      exact ⟨by omega, a2⟩
  | _, [], _ :: _, h => by simp [ep] at h
  | _, _ :: _, [], h => by simp [ep] at h
theorem kx (sz : Nat) : ∀ (vals : List (Nat × Value)) (j : Nat) (cs : Array Value), (∀ (i : Nat) q, vals[i]? = some q → q.1 = j + i ∧ q.2.cells.size = sz) → (j + vals.length) * sz ≤ cs.size →
    ∃ r, Instr.fill (fun i => some (i * sz, sz)) cs vals = some r ∧ r.size = cs.size ∧ (∀ (i : Nat) q (x : Nat), vals[i]? = some q → x < sz → r[(j + i) * sz + x]? = q.2.cells[x]?) ∧ ∀ y, y < j * sz → r[y]? = cs[y]?
  | [], j, cs, _, _ => ⟨cs, rfl, rfl, fun i q x h => by simp at h, fun y _ => rfl⟩
  | (i0, u) :: vals, j, cs, h, hle => by
    obtain ⟨e0, hsz⟩ := h 0 _ rfl
    simp at e0 hsz
    subst e0
    have hm : (i0 + ((i0, u) :: vals).length) * sz = i0 * sz + sz + vals.length * sz := by simp [Nat.add_mul]; omega
    rw [hm] at hle
    have hcs := kv u.cells.toList 0 (i0 * sz) cs (by simp; omega)
    simp only [Nat.add_zero] at hcs
    have hl2 : ((u.cells.toList.zipIdx 0).foldl (fun cs (x : Value × Nat) => cs.setIfInBounds (i0 * sz + x.2) x.1) cs).size = cs.size := by
      rw [← Array.length_toList, hcs]; simp; omega
    obtain ⟨r, hr1, hr2, hr3, hr4⟩ := kx sz vals (i0 + 1) ((u.cells.toList.zipIdx 0).foldl (fun cs (x : Value × Nat) => cs.setIfInBounds (i0 * sz + x.2) x.1) cs)
      (fun i q hq => by have := h (i + 1) q (by simpa using hq); exact ⟨by omega, this.2⟩) (by rw [hl2, Nat.add_mul, Nat.add_mul]; omega)
    refine ⟨r, ?_, hr2.trans hl2, fun i q x hq hx => ?_, fun y hy => ?_⟩
    · simp only [Instr.fill]
      rw [if_neg (by simp; omega), ← hr1]
      congr 1
      rw [← Array.foldl_toList, Array.toList_zipIdx]
    · cases i with
      | succ i =>
        have := hr3 i q x (by simpa using hq) hx
        rw [← this, show i0 + (i + 1) = i0 + 1 + i by omega]
      | zero =>
        simp at hq; subst hq
        rw [Nat.add_zero, hr4 _ (by rw [Nat.add_mul]; omega), ← Array.getElem?_toList, hcs, List.append_assoc, List.getElem?_append_right (by simp; omega), List.getElem?_append_left (by simp; omega)]
        have : (List.take (i0 * sz) cs.toList).length = i0 * sz := by simp; omega
        rw [this]
        simp
    · rw [hr4 y (by rw [Nat.add_mul]; omega), ← Array.getElem?_toList, hcs, List.append_assoc, List.getElem?_append_left (by simp; omega), List.getElem?_take, if_pos hy]
      simp
end
end Go.AM
