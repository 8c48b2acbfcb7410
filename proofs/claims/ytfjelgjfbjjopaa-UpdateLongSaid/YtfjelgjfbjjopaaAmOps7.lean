import Derived.Test.YtfjelgjfbjjopaaAmOps6
set_option linter.unusedVariables false
set_option linter.unusedSectionVars false
set_option linter.unusedSimpArgs false
namespace Go.AM
open Go Go.RowKit
variable [Glob]
section
variable {P : Program} {A : Nat → Nat → Prop} {μ : Nat → Option aJ} {σ σ' : au} {w : World} {o : Oper} {a : Act} {v : V} {n n' : Nat} {e : AX → V}
theorem ck {k : Option Nat} {d : D} (h : d.shape k = true) : d.cells.length = ah k := by
  cases d <;> simp [D.shape] at h <;> subst h <;> simp [D.cells]
theorem mA {k : Option Nat} {d : D} (h : d.shape k = true) : d ≠ .undef := by rintro rfl; simp [D.shape] at h
theorem DRel.row {own : Nat → Nat → Prop} {k : Option Nat} {d : D} {u : Value} (h : DRel own w d u) (hsh : d.shape k = true) (h1 : d.cells.all D.one = true) :
    u.cells.size = ah k ∧ ∀ (j : Nat) x, d.cells[j]? = some x → ∃ v, u.cells[j]? = some v ∧ v.oneCell' = true ∧ DRel own w x v := by
  refine ⟨(h.cells_size (mA hsh)).trans (ck hsh), fun j x hx => ?_⟩
  obtain ⟨c, hc, hr⟩ := h.cells (mA hsh) j x hx
  exact ⟨c, hc, hr.one ((List.all_eq_true.1 h1) x (dx hx)), hr⟩
theorem mB {k : Option Nat} {parts : List AX} {m : Bool} {t el : TypeId} {len : Nat} {ps : Array (Nat × Operand)} {i : TypeInfo} {z : Value} (ho : o.op = .buildSlice t len ps) (hl : parts.length = len) (hle : len * ah k ≤ 65536)
    (hc : ep 0 parts ps.toList = true) (ht : P.underlying t = some (.slice el)) (hk : bp P el = some k) (hi : P.info? el = some i) (hz : i.zero = some z) (hzs : z.cells.size = ah k)
    (he : cx μ (ak A μ σ) w e a) (hs : aB A μ σ w) (hn : μ n = none) {ds : List D} (hdl : ds.length = len) (hrel : ∀ (j : Nat) d (q : Nat × Operand), ds[j]? = some d → ps.toList[j]? = some q → DRel (ak A μ σ) w d (a.eval q.2)) (hsh : ds.all (fun d => d.shape k && d.cells.all D.one) = true) :
    aZ P A μ σ w o a (.loc n 0 ds.length) (aj σ n (some (.lst m k ds))) n (n + 1) := by
  obtain ⟨_, hsz, _, _, hpos⟩ := cH (w := w) hk
  obtain ⟨hpl, hpp⟩ := ir hc
  have hsh' : ∀ (j : Nat) d, ds[j]? = some d → d.shape k = true ∧ d.cells.all D.one = true := by
    intro j d hj
    have := (List.all_eq_true.1 hsh) d (dx hj)
    simpa [Bool.and_eq_true] using this
  have hpsl : ps.toList.length = len := by omega
  obtain ⟨r, hr1, hr2, hr3, _⟩ := kx (ah k) (ps.toList.map fun (q : Nat × Operand) => (q.1, a.eval q.2)) 0 ((Array.range (len * ah k)).map fun j => z.cells[j % z.cells.size]!)
    (fun j q hq => by
      simp only [List.getElem?_map] at hq
      cases hqj : ps.toList[j]? with
      | none => rw [hqj] at hq; simp at hq
      | some q0 =>
        rw [hqj] at hq
        simp at hq; subst hq
        have hjl : j < ds.length := by have := (List.getElem?_eq_some_iff.1 hqj).1; omega
        have hjp : j < parts.length := by omega
        obtain ⟨e1, _⟩ := hpp j parts[j] q0 (by simp [hjp]) hqj
        obtain ⟨s1, s2⟩ := hsh' j ds[j] (by simp [hjl])
        exact ⟨e1, ((hrel j ds[j] q0 (by simp [hjl]) hqj).row s1 s2).1⟩) (by simp; rw [← hpsl]; simp)
  have hrun : (execOp a.eval o).run P w = .ok (.value (.slice (some ⟨w.heap.size, 0, none⟩) len len)) (w.alloc (.cells r el)) := by
    have hlim : ¬ (len * ah k > 2 ^ 24) := by omega
    have hzv := ew (w := w) hi hz
    simp only [execOp, ho, Instr.buildSlice, Sem.run_bind, bf ht, Result.andThen_ok, hsz, Sem.run_ite, if_neg hlim]
    by_cases h0 : len * ah k = 0
    · rw [if_pos h0]
      have hrz : Array.range 0 = #[] := rfl
      have hr1' := hr1
      simp only [h0, hrz, List.map_toArray, List.map_nil] at hr1'
      simp [h0, hrz, hr1', newRow]
    · rw [if_neg h0]
      simp [hzv, hr1, newRow]
  refine jt (d := w.drawn) (c := r) (ty := el) (cap := len) hs hn m hpos (0, 0) (.inl rfl) (by rw [hdl]; exact hrun) (by omega) (by simp only [maxLen]; have : len ≤ len * ah k := Nat.le_mul_of_pos_right _ hpos; omega) (by rw [hr2]; simp) fun j d hj => ?_
  obtain ⟨s1, s2⟩ := hsh' j d hj
  refine ⟨s1, fun x y hx => ?_⟩
  have hjl : j < ps.toList.length := by have := (List.getElem?_eq_some_iff.1 hj).1; omega
  obtain ⟨hcs, hrow⟩ := (hrel j d ps.toList[j] hj (by simp [hjl])).row s1 s2
  obtain ⟨u, hu, h1, h2⟩ := hrow x y hx
  have hxl : x < ah k := by have := (List.getElem?_eq_some_iff.1 hx).1; rw [ck s1] at this; exact this
  have := hr3 j (ps.toList[j].1, a.eval ps.toList[j].2) x (by rw [List.getElem?_map, bt hjl]; rfl) hxl
  rw [Nat.zero_add] at this
  exact ⟨u, this.trans hu, h1, h2⟩
theorem pN {k : Option Nat} {parts : List AX} {m : Bool} {t el : TypeId} {len : Nat} {ps : Array (Nat × Operand)} {i : TypeInfo} {z : Value} (ho : o.op = .buildSlice t len ps) (hl : parts.length = len) (hle : len * ah k ≤ 65536)
    (hc : ep 0 parts ps.toList = true) (ht : P.underlying t = some (.slice el)) (hk : bp P el = some k) (hi : P.info? el = some i) (hz : i.zero = some z) (hzs : z.cells.size = ah k)
    (he : cx μ (ak A μ σ) w e a) (hs : aB A μ σ w) (hn : μ n = none) {ds : List D} (hd : bu (parts.map fun x => (e x).toD) = some ds) (hsh : ds.all (fun d => d.shape k && d.cells.all D.one) = true) :
    aZ P A μ σ w o a (.loc n 0 ds.length) (aj σ n (some (.lst m k ds))) n (n + 1) := by
  obtain ⟨_, hsz, _, _, hpos⟩ := cH (w := w) hk
  obtain ⟨hpl, hpp⟩ := ir hc
  have hd' : bu ((parts.map e).map V.toD) = some ds := by rw [List.map_map]; exact hd
  have ed := gx hd'
  have hdl : ds.length = len := by have := congrArg List.length ed; simp at this; omega
  have hrel : ∀ (j : Nat) d (q : Nat × Operand), ds[j]? = some d → ps.toList[j]? = some q → DRel (ak A μ σ) w d (a.eval q.2) := by
    intro j d q hj hq
    have hjp : j < parts.length := by have := (List.getElem?_eq_some_iff.1 hj).1; omega
    obtain ⟨_, hcx⟩ := hpp j parts[j] q (by simp [hjp]) hq
    have h1 := he _ _ hcx
    have h2 : e parts[j] = .d d := by
      have : (parts.map e)[j]? = (ds.map V.d)[j]? := by rw [ed]
      simp [hjp, hj] at this
      exact this
    rw [h2] at h1
    cases h1 with | d _ _ h => exact h
  exact mB ho hl hle hc ht hk hi hz hzs he hs hn hdl hrel hsh
theorem pO {k : Option Nat} {parts : List AX} {t el : TypeId} {len : Nat} {ps : Array (Nat × Operand)} {i : TypeInfo} {z : Value} (ho : o.op = .buildSlice t len ps) (hl : parts.length = len) (hle : len * ah k ≤ 65536)
    (hc : ep 0 parts ps.toList = true) (ht : P.underlying t = some (.slice el)) (hk : bp P el = some k) (hi : P.info? el = some i) (hz : i.zero = some z) (hzs : z.cells.size = ah k)
    (he : cx μ (ak A μ σ) w e a) (hs : aB A μ σ w) {ds : List D} (hd : bu (parts.map fun x => (e x).toD) = some ds) (hsh : ds.all (fun d => d.shape k && d.cells.all D.one) = true) :
    aZ P A μ σ w o a (.d (.vec k ds)) σ n n := by
  obtain ⟨_, hsz, _, _, hpos⟩ := cH (w := w) hk
  obtain ⟨hpl, hpp⟩ := ir hc
  have hd' : bu ((parts.map e).map V.toD) = some ds := by rw [List.map_map]; exact hd
  have ed := gx hd'
  have hdl : ds.length = len := by have := congrArg List.length ed; simp at this; omega
  have hsh' : ∀ (j : Nat) d, ds[j]? = some d → d.shape k = true ∧ d.cells.all D.one = true := by
    intro j d hj
    have := (List.all_eq_true.1 hsh) d (dx hj)
    simpa [Bool.and_eq_true] using this
  have hrel : ∀ (j : Nat) d (q : Nat × Operand), ds[j]? = some d → ps.toList[j]? = some q → DRel (ak A μ σ) w d (a.eval q.2) := by
    intro j d q hj hq
    have hjp : j < parts.length := by have := (List.getElem?_eq_some_iff.1 hj).1; omega
    obtain ⟨_, hcx⟩ := hpp j parts[j] q (by simp [hjp]) hq
    have h1 := he _ _ hcx
    have h2 : e parts[j] = .d d := by
      have : (parts.map e)[j]? = (ds.map V.d)[j]? := by rw [ed]
      simp [hjp, hj] at this
      exact this
    rw [h2] at h1
    cases h1 with | d _ _ h => exact h
  have hpsl : ps.toList.length = len := by omega
  obtain ⟨r, hr1, hr2, hr3, _⟩ := kx (ah k) (ps.toList.map fun (q : Nat × Operand) => (q.1, a.eval q.2)) 0 ((Array.range (len * ah k)).map fun j => z.cells[j % z.cells.size]!)
    (fun j q hq => by
      simp only [List.getElem?_map] at hq
      cases hqj : ps.toList[j]? with
      | none => rw [hqj] at hq; simp at hq
      | some q0 =>
        rw [hqj] at hq
        simp at hq; subst hq
        have hjl : j < ds.length := by have := (List.getElem?_eq_some_iff.1 hqj).1; omega
        have hjp : j < parts.length := by omega
        obtain ⟨e1, _⟩ := hpp j parts[j] q0 (by simp [hjp]) hqj
        obtain ⟨s1, s2⟩ := hsh' j ds[j] (by simp [hjl])
        exact ⟨e1, ((hrel j ds[j] q0 (by simp [hjl]) hqj).row s1 s2).1⟩) (by simp; rw [← hpsl]; simp)
  have hrun : (execOp a.eval o).run P w = .ok (.value (.slice (some ⟨w.heap.size, 0, none⟩) len len)) (w.alloc (.cells r el)) := by
    have hlim : ¬ (len * ah k > 2 ^ 24) := by omega
    have hzv := ew (w := w) hi hz
    simp only [execOp, ho, Instr.buildSlice, Sem.run_bind, bf ht, Result.andThen_ok, hsz, Sem.run_ite, if_neg hlim]
    by_cases h0 : len * ah k = 0
    · rw [if_pos h0]
      have hrz : Array.range 0 = #[] := rfl
      have hr1' := hr1
      simp only [h0, hrz, List.map_toArray, List.map_nil] at hr1'
      simp [h0, hrz, hr1', newRow]
    · rw [if_neg h0]
      simp [hzv, hr1, newRow]
  refine mz (dn := w.drawn) (c := r) (ty := el) (cap := len) hs (0, 0) (by rw [hdl]; exact hrun) (by omega) (by simp only [maxLen]; have : len ≤ len * ah k := Nat.le_mul_of_pos_right _ hpos; omega) fun j d hj => ?_
  obtain ⟨s1, s2⟩ := hsh' j d hj
  refine ⟨s1, fun x y hx => ?_⟩
  have hjl : j < ps.toList.length := by have := (List.getElem?_eq_some_iff.1 hj).1; omega
  obtain ⟨hcs, hrow⟩ := (hrel j d ps.toList[j] hj (by simp [hjl])).row s1 s2
  obtain ⟨u, hu, h1, h2⟩ := hrow x y hx
  have hxl : x < ah k := by have := (List.getElem?_eq_some_iff.1 hx).1; rw [ck s1] at this; exact this
  have := hr3 j (ps.toList[j].1, a.eval ps.toList[j].2) x (by rw [List.getElem?_map, bt hjl]; rfl) hxl
  rw [Nat.zero_add] at this
  exact ⟨u, this.trans hu, h1, h2⟩
theorem iu {i : Int} (h0 : 0 ≤ i) (h : i ≤ 4294967296) : IntKind.i64.wrap i = i := by
  simp [IntKind.wrap, IntKind.bits, IntKind.signed]; omega
theorem mC (m : Bool) {k : Option Nat} {zero : D} {l c : AX} {l' c' : Operand} {t el : TypeId} {li ci : Int} (ho : o.op = .makeSlice t l' c') (ht : P.underlying t = some (.slice el)) (hk : bp P el = some k) (hz : dh P el zero.cells = true)
    (hsh : zero.shape k = true) (h1 : zero.cells.all D.one = true) (hby : P.bytesOf el ≤ 4096) (hl : aw μ (ak A μ σ) w (e l) (a.eval l')) (hc : aw μ (ak A μ σ) w (e c) (a.eval c')) (hs : aB A μ σ w) (hn : μ n = none)
    (hle : e l = .d (.int .i64 li)) (hce : e c = .d (.int .i64 ci)) (h0 : 0 ≤ li) (h01 : li ≤ ci) (hlim : ci ≤ 4294967296) :
    aZ P A μ σ w o a (.loc n 0 li.toNat) (aj σ n (some (.lst m k (List.replicate li.toNat zero)))) n (n + 1) := by
  obtain ⟨_, hsz, _, _, hpos⟩ := cH (w := w) hk
  rw [hle] at hl; rw [hce] at hc
  have hl := cQ hl
  have hc := cQ hc
  obtain ⟨i, z, hi, hz1, hz2⟩ := gz hz
  obtain ⟨hzl, hzr⟩ := fo (own := ak A μ σ) (w := w) hz2
  have hzv := ew (w := w) hi hz1
  have hbi : P.bytesOf el = i.bytes := by simp [Program.bytesOf, hi]
  rw [hbi] at hby
  have hzD : DRel (ak A μ σ) w zero z ∨ (∃ cs, z = .agg cs ∧ DRel (ak A μ σ) w zero (.agg cs)) ∨ True := .inr (.inr trivial)
  have hcells : ∀ (j : Nat) x, zero.cells[j]? = some x → ∃ v, z.cells[j]? = some v ∧ v.oneCell' = true ∧ DRel (ak A μ σ) w x v := by
    intro j x hx
    have hj : j < z.cells.toList.length := by rw [← hzl]; exact (List.getElem?_eq_some_iff.1 hx).1
    have hv := hzr j x z.cells.toList[j] hx (by simp [hj])
    exact ⟨_, by simp, hv.one ((List.all_eq_true.1 h1) x (dx hx)), hv⟩
  have hzsz : z.cells.size = ah k := by rw [← Array.length_toList, ← hzl, ck hsh]
  have hw1 := iu h0 (by omega : li ≤ 4294967296)
  have hw2 := iu (by omega : 0 ≤ ci) hlim
  have hb1 : ¬ ((i.bytes : Int) * ci > 2 ^ 48) := by
    have : (i.bytes : Int) * ci ≤ 4096 * 4294967296 := Int.mul_le_mul (by omega) hlim (by omega) (by omega)
    omega
  have hrun : (execOp a.eval o).run P w = .ok (.value (.slice (some ⟨w.heap.size, 0, none⟩) li.toNat ci.toNat)) (w.alloc (.cells ((Array.range (ci.toNat * ah k)).map fun j => z.cells[j % z.cells.size]!) el)) := by
    have hneg : ¬ (ci < 0) := by omega
    have hneg2 : ¬ (li < 0) := by omega
    have hneg3 : ¬ (li > ci) := by omega
    simp only [execOp, ho, hl, hc, Instr.makeSlice, Sem.run_bind, bf ht, Result.andThen_ok, asInt, asIntOf, Sem.run_pure, hw1, hw2]
    simp only [typeInfo, Sem.run_bind, run_program, Result.andThen_ok, hi, Sem.run_pure]
    simp only [hneg, hb1, hneg2, hneg3, decide_false, Bool.or_false, Bool.or_self, Bool.false_eq_true, if_false, run_askRoom, Result.andThen_ok, hsz, Sem.run_bind, Sem.run_pure, Sem.run_ite]
    by_cases hz0 : ci.toNat * ah k = 0
    · have hrz : Array.range 0 = #[] := rfl
      simp [hz0, hrz, newRow]
    · simp [hz0, hzv, newRow]
  have hlen : (List.replicate li.toNat zero).length = li.toNat := by simp
  have := jt (P := P) (A := A) (μ := μ) (σ := σ) (w := w) (o := o) (a := a) (n := n) (d := w.drawn) (k := k) (els := List.replicate li.toNat zero) (c := (Array.range (ci.toNat * ah k)).map fun j => z.cells[j % z.cells.size]!) (ty := el) (cap := ci.toNat) hs hn m hpos (0, 0) (.inl rfl)
    (by rw [hlen]; exact hrun) (by rw [hlen]; omega) (by simp only [maxLen]; omega) (by simp) (by
      intro j d hd
      have hj : j < li.toNat := by have := (List.getElem?_eq_some_iff.1 hd).1; simpa using this
      rw [List.getElem?_replicate, if_pos hj] at hd
      cases hd
      refine ⟨hsh, fun y x hx => ?_⟩
      obtain ⟨u, hu, h2, h3⟩ := hcells y x hx
      have hy : y < ah k := by have := (List.getElem?_eq_some_iff.1 hx).1; rw [ck hsh] at this; exact this
      have hlt : j * ah k + y < ci.toNat * ah k := by
        have : (j + 1) * ah k ≤ ci.toNat * ah k := Nat.mul_le_mul_right _ (by omega)
        rw [Nat.add_mul] at this; omega
      refine ⟨u, ?_, h2, h3⟩
      rw [Array.getElem?_map, Array.getElem?_range, if_pos hlt]
      simp only [Option.map_some, Option.some.injEq]
      rw [hzsz, Nat.add_comm, Nat.add_mul_mod_self_right, Nat.mod_eq_of_lt hy, getElem!_pos _ _ (by rw [hzsz]; exact hy)]
      rw [Array.getElem?_eq_getElem (by rw [hzsz]; exact hy)] at hu
      exact aH hu)
  rw [hlen] at this
  exact this
theorem pP {k : Option Nat} {zero : D} {l c : AX} {l' c' : Operand} {t el : TypeId} {li ci : Int} (ho : o.op = .makeSlice t l' c') (ht : P.underlying t = some (.slice el)) (hk : bp P el = some k) (hz : dh P el zero.cells = true)
    (hsh : zero.shape k = true) (h1 : zero.cells.all D.one = true) (hby : P.bytesOf el ≤ 4096) (hl : aw μ (ak A μ σ) w (e l) (a.eval l')) (hc : aw μ (ak A μ σ) w (e c) (a.eval c')) (hs : aB A μ σ w)
    (hle : e l = .d (.int .i64 li)) (hce : e c = .d (.int .i64 ci)) (h0 : 0 ≤ li) (h01 : li ≤ ci) (hlim : ci ≤ 4294967296) :
    aZ P A μ σ w o a (.d (.vec k (List.replicate li.toNat zero))) σ n n := by
  obtain ⟨_, hsz, _, _, hpos⟩ := cH (w := w) hk
  rw [hle] at hl; rw [hce] at hc
  have hl := cQ hl
  have hc := cQ hc
  obtain ⟨i, z, hi, hz1, hz2⟩ := gz hz
  obtain ⟨hzl, hzr⟩ := fo (own := ak A μ σ) (w := w) hz2
  have hzv := ew (w := w) hi hz1
  have hbi : P.bytesOf el = i.bytes := by simp [Program.bytesOf, hi]
  rw [hbi] at hby
  have hzD : DRel (ak A μ σ) w zero z ∨ (∃ cs, z = .agg cs ∧ DRel (ak A μ σ) w zero (.agg cs)) ∨ True := .inr (.inr trivial)
  have hcells : ∀ (j : Nat) x, zero.cells[j]? = some x → ∃ v, z.cells[j]? = some v ∧ v.oneCell' = true ∧ DRel (ak A μ σ) w x v := by
    intro j x hx
    have hj : j < z.cells.toList.length := by rw [← hzl]; exact (List.getElem?_eq_some_iff.1 hx).1
    have hv := hzr j x z.cells.toList[j] hx (by simp [hj])
    exact ⟨_, by simp, hv.one ((List.all_eq_true.1 h1) x (dx hx)), hv⟩
  have hzsz : z.cells.size = ah k := by rw [← Array.length_toList, ← hzl, ck hsh]
  have hw1 := iu h0 (by omega : li ≤ 4294967296)
  have hw2 := iu (by omega : 0 ≤ ci) hlim
  have hb1 : ¬ ((i.bytes : Int) * ci > 2 ^ 48) := by
    have : (i.bytes : Int) * ci ≤ 4096 * 4294967296 := Int.mul_le_mul (by omega) hlim (by omega) (by omega)
    omega
  have hrun : (execOp a.eval o).run P w = .ok (.value (.slice (some ⟨w.heap.size, 0, none⟩) li.toNat ci.toNat)) (w.alloc (.cells ((Array.range (ci.toNat * ah k)).map fun j => z.cells[j % z.cells.size]!) el)) := by
    have hneg : ¬ (ci < 0) := by omega
    have hneg2 : ¬ (li < 0) := by omega
    have hneg3 : ¬ (li > ci) := by omega
    simp only [execOp, ho, hl, hc, Instr.makeSlice, Sem.run_bind, bf ht, Result.andThen_ok, asInt, asIntOf, Sem.run_pure, hw1, hw2]
    simp only [typeInfo, Sem.run_bind, run_program, Result.andThen_ok, hi, Sem.run_pure]
    simp only [hneg, hb1, hneg2, hneg3, decide_false, Bool.or_false, Bool.or_self, Bool.false_eq_true, if_false, run_askRoom, Result.andThen_ok, hsz, Sem.run_bind, Sem.run_pure, Sem.run_ite]
    by_cases hz0 : ci.toNat * ah k = 0
    · have hrz : Array.range 0 = #[] := rfl
      simp [hz0, hrz, newRow]
    · simp [hz0, hzv, newRow]
  have hlen : (List.replicate li.toNat zero).length = li.toNat := by simp
  refine mz (dn := w.drawn) (c := (Array.range (ci.toNat * ah k)).map fun j => z.cells[j % z.cells.size]!) (ty := el) (cap := ci.toNat) hs (0, 0) (by rw [hlen]; exact hrun) (by rw [hlen]; omega) (by simp only [maxLen]; omega) ?_
  intro j d hd
  have hj : j < li.toNat := by have := (List.getElem?_eq_some_iff.1 hd).1; simpa using this
  rw [List.getElem?_replicate, if_pos hj] at hd
  cases hd
  refine ⟨hsh, fun y x hx => ?_⟩
  obtain ⟨u, hu, h2, h3⟩ := hcells y x hx
  have hy : y < ah k := by have := (List.getElem?_eq_some_iff.1 hx).1; rw [ck hsh] at this; exact this
  have hlt : j * ah k + y < ci.toNat * ah k := by
    have : (j + 1) * ah k ≤ ci.toNat * ah k := Nat.mul_le_mul_right _ (by omega)
    rw [Nat.add_mul] at this; omega
  refine ⟨u, ?_, h2, h3⟩
  rw [Array.getElem?_map, Array.getElem?_range, if_pos hlt]
  simp only [Option.map_some, Option.some.injEq]
  rw [hzsz, Nat.add_comm, Nat.add_mul_mod_self_right, Nat.mod_eq_of_lt hy, getElem!_pos _ _ (by rw [hzsz]; exact hy)]
  rw [Array.getElem?_eq_getElem (by rw [hzsz]; exact hy)] at hu
  exact aH hu
theorem pQ (hs : aB A μ σ w) (hn : μ n = none) {cs : List V} {c : Array Value} {ty : TypeId} {d : Nat}
    (hr : (execOp a.eval o).run P w = .ok (.value (.slice (some ⟨w.heap.size, 0, none⟩) cs.length cs.length)) (({ w with drawn := d } : World).alloc (.cells c ty)))
    (hl : cs.length = c.size) (hmax : cs.length ≤ maxLen) (hc : ∀ (i : Nat) x v, cs[i]? = some x → c[i]? = some v → v.oneCell' = true ∧ aw μ (ak A μ σ) w x v) :
    aZ P A μ σ w o a (.loc n 0 cs.length) (aj σ n (some (.var cs))) n (n + 1) := by
  have g0 : aA μ σ w μ σ { w with drawn := d } := aA.drew d
  have hs0 := hs.drew d
  have g := aA.alloc hs0 hn (.var cs) none (.cells c ty)
  refine ⟨_, _, _, aj μ n (some (.at w.heap.size none)), hr, .inl rfl, ?_, aB.alloc hs0 hn _ none _ ⟨w.heap.size, c, ty, (0, 0), aL _ _ _, heap_alloc_new _ _, .inl rfl, hl, fun i x v hx hv => ⟨(hc i x v hx hv).1, g.keepV hs0.alt (g0.keepV hs.alt (hc i x v hx hv).2)⟩⟩, g0.trans g, fun id h => ?_⟩
  · have := aw.loc (μ := aj μ n (some (.at w.heap.size none))) (own := ak A (aj μ n (some (.at w.heap.size none))) (aj σ n (some (.var cs)))) (w := ({ w with drawn := d } : World).alloc (.cells c ty)) n 0 cs.length w.heap.size none cs.length (aL _ _ _) (Nat.le_refl _) hmax
      ⟨c, ty, (0, 0), heap_alloc_new _ _, by simp [ah]; omega⟩
    simpa using this
  · by_cases e : id = n
    · exact .inr (by omega)
    · rw [aG _ _ e] at h; exact .inl h
theorem pR {zero : D} {l c : AX} {l' c' : Operand} {t el : TypeId} {li : Int} (ho : o.op = .makeSlice t l' c') (ht : P.underlying t = some (.slice el)) (hk : bp P el = some none) (hz : dh P el [zero] = true)
    (h1 : zero.one = true) (hby : P.bytesOf el ≤ 4096) (hl : aw μ (ak A μ σ) w (e l) (a.eval l')) (hc : aw μ (ak A μ σ) w (e c) (a.eval c')) (hs : aB A μ σ w) (hn : μ n = none)
    (hle : e l = .d (.int .i64 li)) (hce : e c = .d (.int .i64 li)) (h0 : 0 ≤ li) (hlim : li ≤ 4294967296) :
    aZ P A μ σ w o a (.loc n 0 li.toNat) (aj σ n (some (.var (List.replicate li.toNat (.d zero))))) n (n + 1) := by
  obtain ⟨_, hsz, _, _, hpos⟩ := cH (w := w) hk
  rw [hle] at hl; rw [hce] at hc
  have hl := cQ hl
  have hc := cQ hc
  obtain ⟨i, z, hi, hz1, hz2⟩ := gz hz
  obtain ⟨hzl, hzr⟩ := fo (own := ak A μ σ) (w := w) hz2
  have hzv := ew (w := w) hi hz1
  have hbi : P.bytesOf el = i.bytes := by simp [Program.bytesOf, hi]
  rw [hbi] at hby
  have hzsz : z.cells.size = 1 := by rw [← Array.length_toList, ← hzl]; rfl
  have hz0c : z.cells[0]? = some (z.cells[0]'(by omega)) := Array.getElem?_eq_getElem (by omega)
  have hv := hzr 0 zero (z.cells[0]'(by omega)) rfl (by simp)
  generalize hu : (z.cells[0]'(by omega)) = u at hz0c hv
  have hw1 := iu h0 hlim
  have hb1 : ¬ ((i.bytes : Int) * li > 2 ^ 48) := by
    have : (i.bytes : Int) * li ≤ 4096 * 4294967296 := Int.mul_le_mul (by omega) hlim (by omega) (by omega)
    omega
  have hs1 : ah none = 1 := rfl
  have hrun : (execOp a.eval o).run P w = .ok (.value (.slice (some ⟨w.heap.size, 0, none⟩) li.toNat li.toNat)) (w.alloc (.cells ((Array.range (li.toNat * ah none)).map fun j => z.cells[j % z.cells.size]!) el)) := by
    have hneg : ¬ (li < 0) := by omega
    have hneg3 : ¬ (li > li) := by omega
    simp only [execOp, ho, hl, hc, Instr.makeSlice, Sem.run_bind, bf ht, Result.andThen_ok, asInt, asIntOf, Sem.run_pure, hw1]
    simp only [typeInfo, Sem.run_bind, run_program, Result.andThen_ok, hi, Sem.run_pure]
    simp only [hneg, hb1, hneg3, decide_false, Bool.or_false, Bool.or_self, Bool.false_eq_true, if_false, run_askRoom, Result.andThen_ok, hsz, Sem.run_bind, Sem.run_pure, Sem.run_ite]
    by_cases hz0 : li ≤ 0
    · have e0 : li.toNat = 0 := by omega
      have hrz : Array.range 0 = #[] := rfl
      simp [hz0, e0, hrz, newRow]
    · simp [hz0, hzv, newRow]
  have hlen : (List.replicate li.toNat (V.d zero)).length = li.toNat := by simp
  have := pQ (P := P) (A := A) (μ := μ) (σ := σ) (w := w) (o := o) (a := a) (n := n) (d := w.drawn) (cs := List.replicate li.toNat (V.d zero)) (c := (Array.range (li.toNat * ah none)).map fun j => z.cells[j % z.cells.size]!) (ty := el) hs hn
    (by rw [hlen]; exact hrun) (by rw [hlen]; simp [hs1]) (by rw [hlen]; simp only [maxLen]; omega) (by
      intro j x v hx hvv
      have hj : j < li.toNat := by have := (List.getElem?_eq_some_iff.1 hx).1; simpa using this
      rw [List.getElem?_replicate, if_pos hj] at hx
      cases hx
      rw [Array.getElem?_map, Array.getElem?_range, if_pos (by rw [hs1]; omega)] at hvv
      simp only [Option.map_some, Option.some.injEq] at hvv
      rw [hzsz, Nat.mod_one, getElem!_pos _ _ (by omega), hu] at hvv
      subst hvv
      exact ⟨hv.one h1, .d _ _ hv⟩)
  rw [hlen] at this
  exact this
theorem mD {b : Nat} {c : Array Value} {ty : TypeId} {fr : Nat × Nat} (h : w.heap[b]? = some (.cells c ty fr)) : bY w b c = w := by
  have hb := b5 h
  cases w with
  | mk heap tape drawn os output =>
    simp only [bY] at h ⊢
    congr 1
    apply Array.ext (by simp)
    intro i hi hi'
    simp only [Array.getElem_modify]
    split
    · rename_i e
      subst e
      have : heap[b] = .cells c ty fr := by rw [Array.getElem?_eq_getElem hb] at h; exact aH h
      rw [this]
    · rfl
theorem ky {b : Nat} {c c' : Array Value} : bY (bY w b c) b c' = bY w b c' := by
  cases w with
  | mk heap tape drawn os output =>
    simp only [bY]
    congr 1
    apply Array.ext (by simp)
    intro i hi hi'
    simp only [Array.getElem_modify]
    split
    · cases heap[i]'(by simpa using hi') <;> rfl
    · rfl
theorem mE {b o : Nat} {c : Array Value} {ty : TypeId} {fr : Nat × Nat} (u : Value) (h : w.heap[b]? = some (.cells c ty fr)) : w.setCell ⟨b, o, none⟩ u = bY w b (c.setIfInBounds o u) := by
  have hb := b5 h
  cases w with
  | mk heap tape drawn os output =>
    simp only [bY, World.setCell] at h ⊢
    congr 1
    apply Array.ext (by simp)
    intro i hi hi'
    simp only [Array.getElem_modify]
    split
    · rename_i e
      subst e
      have : heap[b] = .cells c ty fr := by rw [Array.getElem?_eq_getElem hb] at h; exact aH h
      rw [this]; simp
    · rfl
theorem mF {b o : Nat} {c : Array Value} {ty : TypeId} {fr : Nat × Nat} (h : w.heap[b]? = some (.cells c ty fr)) (hn : fH c fr) (ho : o < c.size) : w.frozen? ⟨b, o, none⟩ = false := by
  simp only [World.frozen?, h]
  rcases hn with hn | hn
  · by_cases h1 : fr.1 ≤ o
    · have : ¬ (o < fr.2) := by omega
      simp [this]
    · simp [h1]
  · have : ¬ (fr.1 ≤ o) := by omega
    simp [this]
theorem iv (b off : Nat) (ty : TypeId) (fr : Nat × Nat) : ∀ (vs : List Value) (i : Nat) (c : Array Value) (w : World), w.heap[b]? = some (.cells c ty fr) → fH c fr → off + i + vs.length ≤ c.size → (∀ v ∈ vs, v.oneCell' = true) →
    (storeCells ⟨b, off, none⟩ vs i).run P w = .ok () (bY w b (c.toList.take (off + i) ++ vs ++ c.toList.drop (off + i + vs.length)).toArray)
  | [], i, c, w, hb, _, _, _ => by
    simp only [storeCells, List.append_nil, List.length_nil, Nat.add_zero, List.take_append_drop, Array.toArray_toList]
    rw [mD hb]; rfl
  | v :: rest, i, c, w, hb, hn, hl, h1 => by
    have hi : off + i < c.size := by simp at hl; omega
    have hcell : w.cell? ⟨b, off + i, none⟩ = some c[off + i] := by rw [cD hb]; simp [hi]
    have hst : (store ((⟨b, off, none⟩ : Addr).add i) v).run P w = .ok () (bY w b (c.setIfInBounds (off + i) v)) := by
      rw [Addr.add_lit, run_store P w _ v _ (h1 v (by simp)), hcell]
      simp [mF hb hn hi, mE v hb]
    have ih := iv b off ty fr rest (i + 1) (c.setIfInBounds (off + i) v) (bY w b (c.setIfInBounds (off + i) v)) (dY hb) (by simpa [fH] using hn) (by simp at hl ⊢; omega) (fun x hx => h1 x (by simp [hx]))
    simp only [storeCells, Sem.run_bind, hst, Result.andThen_ok, ih, ky]
    congr 3
    have e := list_seg_step c.toList (off + i) v rest (by simp at hl ⊢; omega)
    simpa [Array.toList_setIfInBounds, Nat.add_assoc] using e
end
end Go.AM
