import Derived.Test.YtnnkfanmokeiaaaAmPv
import Derived.ChangeArms
import Derived.OpenShut
import Derived.WideShapes
import Derived.DataReads
import Derived.Carry
set_option linter.unusedVariables false
set_option linter.unusedSectionVars false
set_option linter.unusedSimpArgs false
namespace Go.AM
open Go Go.RowKit
def CR (w : World) (ds : List D) (cs : List Value) : Prop := ds.length = cs.length ∧ ∀ (i : Nat) d v, ds[i]? = some d → cs[i]? = some v → DRel (fun _ _ => False) w d v ∧ v.oneCell' = true
structure Opens (P : Program) (t : TypeId) {α : Type} (ec : α → List D) (ok : α → Prop) : Prop where
  op : ∀ {H : Type} {enc : TypeId × Value → H} {w : World} {base : Nat} {held : Bool} {fuel : Nat} {cs : List Value} {d}, DataW.trod enc P w base (fun _ => true) held fuel t cs = some d → ∃ x, ok x ∧ CR w (ec x) cs
variable {P : Program} {t : TypeId}
theorem CR.one {w : World} {d : D} {v : Value} (h : DRel (fun _ _ => False) w d v) (h1 : v.oneCell' = true) : CR w [d] [v] := by
  refine ⟨rfl, fun i d' v' hd hv => ?_⟩
  cases i with
  | zero => simp at hd hv; subst hd; subst hv; exact ⟨h, h1⟩
  | succ i => simp at hd
theorem CR.append {w : World} {d1 d2 : List D} {c1 c2 : List Value} (h1 : CR w d1 c1) (h2 : CR w d2 c2) : CR w (d1 ++ d2) (c1 ++ c2) := by
  refine ⟨by simp [h1.1, h2.1], fun i d v hd hv => ?_⟩
  by_cases hi : i < d1.length
  · rw [List.getElem?_append_left hi] at hd
    rw [List.getElem?_append_left (by rw [← h1.1]; exact hi)] at hv
    exact h1.2 i d v hd hv
  · rw [List.getElem?_append_right (by omega)] at hd
    rw [List.getElem?_append_right (by rw [← h1.1]; omega)] at hv
    rw [← h1.1] at hv
    exact h2.2 _ d v hd hv
theorem xn {k : IntKind} {n : Int} (h : (Lit.int k n).wf = true) : k.wrap n = n := by
  simp only [Lit.wf, Bool.and_eq_true, decide_eq_true_eq] at h
  cases k <;> simp [IntKind.min, IntKind.max, IntKind.wrap, IntKind.bits, IntKind.signed] at h ⊢ <;> omega
theorem Fg {k : IntKind} (ht : P.underlying t = some (.int k)) : Opens P t (fun n : Int => [D.int k n]) (fun n => k.wrap n = n) := by
  constructor
  intro H enc w base held fuel cs d h
  obtain ⟨n, rfl, _, hw⟩ := DataW.trod_int ht h
  exact ⟨n, xn hw, .one (.int _ _ (xn hw)) rfl⟩
theorem xo {α : Type} {Q : Nat → α → Prop} : ∀ (n : Nat), (∀ i, i < n → ∃ x, Q i x) → ∃ l : List α, l.length = n ∧ ∀ (i : Nat) x, l[i]? = some x → Q i x
  | 0, _ => ⟨[], rfl, fun i x h => by simp at h⟩
  | n + 1, h => by
    obtain ⟨l, hl, hq⟩ := xo n fun i hi => h i (by omega)
    obtain ⟨x, hx⟩ := h n (by omega)
    refine ⟨l ++ [x], by simp [hl], fun i y hy => ?_⟩
    by_cases hi : i < n
    · rw [List.getElem?_append_left (by omega)] at hy; exact hq i y hy
    · rw [List.getElem?_append_right (by omega)] at hy
      have : i - l.length = 0 := by
        rcases Nat.lt_or_ge (i - l.length) 1 with h | h
        · omega
        · rw [List.getElem?_eq_none (by simpa using h)] at hy; cases hy
      rw [this] at hy
      simp at hy; subst hy
      have : i = n := by omega
      subst this; exact hx
structure iJ (P : Program) (t : TypeId) {α : Type} (ec : α → List D) (ok : α → Prop) (N : Nat) : Prop where
  op : ∀ {H : Type} {enc : TypeId × Value → H} {w : World} {base : Nat} {held : Bool} {fuel : Nat} {cs : List Value} {d}, fuel ≤ N → DataW.trod enc P w base (fun _ => true) held fuel t cs = some d → ∃ x, ok x ∧ CR w (ec x) cs
theorem Opens.b {α : Type} {ec : α → List D} {ok : α → Prop} (h : Opens P t ec ok) (N : Nat) : iJ P t ec ok N := ⟨fun _ hd => h.op hd⟩
theorem iJ.all {α : Type} {ec : α → List D} {ok : α → Prop} (h : ∀ N, iJ P t ec ok N) : Opens P t ec ok := ⟨fun hd => (h _).op (Nat.le_refl _) hd⟩
theorem iJ.mono {α : Type} {ec : α → List D} {ok : α → Prop} {N M : Nat} (h : iJ P t ec ok N) (hm : M ≤ N) : iJ P t ec ok M := ⟨fun hf hd => h.op (Nat.le_trans hf hm) hd⟩
theorem Fh {N : Nat} {et : TypeId} {α : Type} {ec : α → List D} {ok : α → Prop} {k : Option Nat} {e : α → D} (ht : P.underlying t = some (.slice et)) (ho : iJ P et ec ok N) (hc : P.cellsOf et = am k) (h0 : 0 < am k) (he : ∀ x, (e x).shape k = true ∧ (e x).cells = ec x) :
    iJ P t (fun l : List α => [eL k e l]) (fun l => l.length ≤ maxLen ∧ ∀ x ∈ l, ok x) (N + 1) := by
  constructor
  intro H enc w base held fuel cs d hfuel h
  rcases DataW.trod_slice ht h with ⟨rfl, _⟩ | ⟨a, len, cap, elems, rest, n, rfl, rfl, _, hb, hlc, hcm, hlen, hel, hsp, _⟩
  · exact ⟨[], ⟨by simp, by simp⟩, .one (.vecn _ _) rfl⟩
  obtain ⟨b, off, spot⟩ := a
  by_cases hcap : cap = 0
  · subst hcap
    have : len = 0 := by omega
    subst this
    exact ⟨[], ⟨by simp, by simp⟩, .one (.vecn _ _) rfl⟩
  have hr := hsp rfl
  -- the address is plain
  have hspot : spot = none := by
    have : ∃ cs, w.cells? base ((⟨b, off, spot⟩ : Addr).add (0 * P.cellsOf et)) (P.cellsOf et) = some cs := by
      by_cases hl : 0 < len
      · have := hel 0 hl
        have hz : ∃ z, elems[0]? = some z := ⟨elems[0], by simp [hlen, hl]⟩
        obtain ⟨z, hz⟩ := hz
        rw [hz] at this
        obtain ⟨cs, h1, _⟩ := Option.bind_eq_some_iff.1 this
        exact ⟨cs, h1⟩
      · have := hr.2 0 (by omega)
        have hz : ∃ z, rest[0]? = some z := ⟨rest[0]'(by omega), by simp⟩
        obtain ⟨z, hz⟩ := hz
        rw [hz] at this
        obtain ⟨cs, h1, _⟩ := Option.bind_eq_some_iff.1 this
        exact ⟨cs, by simpa [show len = 0 by omega] using h1⟩
    obtain ⟨cs, hq⟩ := this
    obtain ⟨hcl, hcg⟩ := (World.cells?_some hq).2
    have := hcg 0 (by omega)
    have hv : ∃ v, cs[0]? = some v := ⟨cs[0]'(by omega), by simp⟩
    obtain ⟨v, hv⟩ := hv
    rw [hv] at this
    simpa [Addr.add] using World.cell?_spot this
  subst hspot
  obtain ⟨l, hll, hq⟩ := xo (Q := fun i x => ok x ∧ ∃ cs, w.cells? base ((⟨b, off, none⟩ : Addr).add (i * P.cellsOf et)) (P.cellsOf et) = some cs ∧ CR w (ec x) cs) len (fun i hi => by
    have := hel i hi
    obtain ⟨z, hz⟩ : ∃ z, elems[i]? = some z := ⟨elems[i]'(by omega), by simp⟩
    rw [hz] at this
    obtain ⟨cs, h1, h2⟩ := Option.bind_eq_some_iff.1 this
    obtain ⟨x, hx, hcr⟩ := ho.op (by omega) h2
    exact ⟨x, hx, cs, h1, hcr⟩)
  have cell : ∀ (i : Nat) d (j : Nat) x, (l.map e)[i]? = some d → d.cells[j]? = some x → ∃ v, w.cell? ⟨b, off + i * am k + j, none⟩ = some v ∧ DRel (fun _ _ => False) w x v ∧ v.oneCell' = true := by
    intro i d j x hd hx
    rw [List.getElem?_map] at hd
    obtain ⟨y, hy, rfl⟩ := Option.map_eq_some_iff.1 hd
    obtain ⟨_, cs, hcs, hcr⟩ := hq i y hy
    rw [(he y).2] at hx
    obtain ⟨hcl, hcg⟩ := (World.cells?_some hcs).2
    have hj : j < cs.length := by rw [← hcr.1]; exact (List.getElem?_eq_some_iff.1 hx).1
    obtain ⟨v, hv⟩ : ∃ v, cs[j]? = some v := ⟨cs[j], by simp⟩
    obtain ⟨h1, h2⟩ := hcr.2 j x v hx hv
    have := hcg j (by omega)
    rw [hv] at this
    rw [Go.WideShapes.add_plain, Go.WideShapes.add_plain, hc] at this
    exact ⟨v, this, h1, h2⟩
  have hlm : (l.map e).length = len := by simp [hll]
  refine ⟨l, ⟨by omega, fun x hx => ?_⟩, .one ?_ rfl⟩
  · obtain ⟨i, hi⟩ := List.mem_iff_getElem?.1 hx
    exact (hq i x hi).1
  · show DRel _ w (.vec k (l.map e)) _
    rw [← hlm]
    refine .vec k (l.map e) b off cap (fun i j => (w.cell? ⟨b, off + i * am k + j, none⟩).getD .nilIface) ⟨by omega, hcm⟩ ?_ ?_ ?_ ?_ ?_
    · intro i d hd
      rw [List.getElem?_map] at hd
      obtain ⟨y, hy, rfl⟩ := Option.map_eq_some_iff.1 hd
      exact (he y).1
    · intro i d j x hd hx
      obtain ⟨v, hv, _⟩ := cell i d j x hd hx
      rw [hv]; rfl
    · intro i d j x hd hx; exact id
    · intro i d j x hd hx
      obtain ⟨v, hv, h1, _⟩ := cell i d j x hd hx
      rw [hv]; exact h1
    · intro i d j x hd hx
      obtain ⟨v, hv, _, h2⟩ := cell i d j x hd hx
      rw [hv]; exact h2
theorem Fj {et : TypeId} {α : Type} {ec : α → List D} {ok : α → Prop} {k : Option Nat} {e : α → D} (ht : P.underlying t = some (.slice et)) (ho : Opens P et ec ok) (hc : P.cellsOf et = am k) (h0 : 0 < am k) (he : ∀ x, (e x).shape k = true ∧ (e x).cells = ec x) :
    Opens P t (fun l : List α => [eL k e l]) (fun l => l.length ≤ maxLen ∧ ∀ x ∈ l, ok x) :=
  iJ.all fun N => (Fh ht (ho.b N) hc h0 he).mono (Nat.le_succ N)
def OpensF (P : Program) (ts : List (TypeId × Nat)) {α : Type} (ec : α → List D) (ok : α → Prop) : Prop :=
  ∀ {H : Type} {enc : TypeId × Value → H} {w : World} {base : Nat} {held : Bool} {n : Nat} {cs : List Value}, (∀ p ∈ ts, ∃ d, DataW.trod enc P w base (fun _ => true) held n p.1 ((cs.drop p.2).take (P.cellsOf p.1)) = some d) →
    ∃ x, ok x ∧ CR w (ec x) (ts.flatMap fun p => (cs.drop p.2).take (P.cellsOf p.1))
theorem OpensF.nil : OpensF P [] (fun _ : Unit => []) (fun _ => True) := by
  intro H enc w base held n cs h
  exact ⟨(), trivial, rfl, fun i d v hd => by simp at hd⟩
theorem OpensF.cons {t : TypeId} {o : Nat} {ts : List (TypeId × Nat)} {α β : Type} {ec : α → List D} {ok : α → Prop} {ec2 : β → List D} {ok2 : β → Prop} (h1 : Opens P t ec ok) (h2 : OpensF P ts ec2 ok2) : OpensF P ((t, o) :: ts) (fun p : α × β => ec p.1 ++ ec2 p.2) (fun p => ok p.1 ∧ ok2 p.2) := by
  intro H enc w base held n cs h
  obtain ⟨d, hd⟩ := h (t, o) (by simp)
  obtain ⟨x, hx, hcx⟩ := h1.op hd
  obtain ⟨y, hy, hcy⟩ := h2 fun p hp => h p (by simp [hp])
  exact ⟨(x, y), ⟨hx, hy⟩, by simpa using hcx.append hcy⟩
def jO (P : Program) : Nat → List (TypeId × Nat) → Nat → Bool
  | o, [], n => o == n
  | o, p :: ts, n => p.2 == o && jO P (o + P.cellsOf p.1) ts n
theorem si {cs : List Value} : ∀ {ts : List (TypeId × Nat)} {o : Nat}, jO P o ts cs.length = true → (ts.flatMap fun p => (cs.drop p.2).take (P.cellsOf p.1)) = cs.drop o
  | [], o, h => by
    simp [jO] at h
    subst h; simp
  | p :: ts, o, h => by
    simp only [jO, Bool.and_eq_true, beq_iff_eq] at h
    obtain ⟨h1, h2⟩ := h
    rw [List.flatMap_cons, si h2, h1, ← List.drop_drop, List.take_append_drop]
theorem Fk {fs : Array Field} {α β : Type} {ec : β → List D} {ok : β → Prop} {ec' : α → List D} {ok' : α → Prop} (ht : P.underlying t = some (.struct fs)) (h : OpensF P (fs.toList.map fun f => (f.type, f.offset)) ec ok) (hl : jO P 0 (fs.toList.map fun f => (f.type, f.offset)) (P.cellsOf t) = true) (mk : β → α) (hec : ∀ x, ec' (mk x) = ec x) (hok : ∀ x, ok x → ok' (mk x)) : Opens P t ec' ok' := by
  constructor
  intro H enc w base held fuel cs d hd
  obtain ⟨xs, n, rfl, _, hcl, hxs, hf⟩ := DataW.trod_struct ht hd
  obtain ⟨x, hx, hcr⟩ := h (cs := cs) (fun p hp => by
    obtain ⟨f, hfm, rfl⟩ := List.mem_map.1 hp
    obtain ⟨i, hi⟩ := List.mem_iff_getElem?.1 hfm
    have hi' : fs[i]? = some f := by simpa using hi
    have hlt : i < fs.size := (Array.getElem?_eq_some_iff.1 hi').1
    exact ⟨xs[i]'(by omega), by rw [hf i f hi']; simp⟩)
  rw [si (by rw [hcl]; exact hl)] at hcr
  exact ⟨mk x, hok x hx, by rw [hec]; simpa using hcr⟩
structure nn (P : Program) (ts : List (TypeId × Nat)) {α : Type} (ec : α → List D) (ok : α → Prop) (N : Nat) : Prop where
  op : ∀ {H : Type} {enc : TypeId × Value → H} {w : World} {base : Nat} {held : Bool} {n : Nat} {cs : List Value}, n ≤ N → (∀ p ∈ ts, ∃ d, DataW.trod enc P w base (fun _ => true) held n p.1 ((cs.drop p.2).take (P.cellsOf p.1)) = some d) →
    ∃ x, ok x ∧ CR w (ec x) (ts.flatMap fun p => (cs.drop p.2).take (P.cellsOf p.1))
theorem nn.nil {N : Nat} : nn P [] (fun _ : Unit => []) (fun _ => True) N := by
  constructor
  intro H enc w base held n cs _ h
  exact ⟨(), trivial, rfl, fun i d v hd => by simp at hd⟩
theorem nn.cons {N : Nat} {t : TypeId} {o : Nat} {ts : List (TypeId × Nat)} {α β : Type} {ec : α → List D} {ok : α → Prop} {ec2 : β → List D} {ok2 : β → Prop} (h1 : iJ P t ec ok N) (h2 : nn P ts ec2 ok2 N) : nn P ((t, o) :: ts) (fun p : α × β => ec p.1 ++ ec2 p.2) (fun p => ok p.1 ∧ ok2 p.2) N := by
  constructor
  intro H enc w base held n cs hn h
  obtain ⟨d, hd⟩ := h (t, o) (by simp)
  obtain ⟨x, hx, hcx⟩ := h1.op hn hd
  obtain ⟨y, hy, hcy⟩ := h2.op hn fun p hp => h p (by simp [hp])
  exact ⟨(x, y), ⟨hx, hy⟩, by simpa using hcx.append hcy⟩
theorem Fl {n : Nat} {et : TypeId} {α β : Type} {ec : β → List D} {ok : β → Prop} {ec' : α → List D} {ok' : α → Prop} (ht : P.underlying t = some (.array n et)) (h : OpensF P ((List.range n).map fun i => (et, i * P.cellsOf et)) ec ok) (hl : jO P 0 ((List.range n).map fun i => (et, i * P.cellsOf et)) (P.cellsOf t) = true) (mk : β → α) (hec : ∀ x, ec' (mk x) = ec x) (hok : ∀ x, ok x → ok' (mk x)) : Opens P t ec' ok' := by
  constructor
  intro H enc w base held fuel cs d hd
  obtain ⟨xs, m, rfl, _, hcl, hxs, hf⟩ := Go.DataW.trod_array ht hd
  obtain ⟨x, hx, hcr⟩ := h (cs := cs) (fun p hp => by
    obtain ⟨i, him, rfl⟩ := List.mem_map.1 hp
    have hi := List.mem_range.1 him
    exact ⟨xs[i]'(by omega), by rw [hf i hi]; simp⟩)
  rw [si (by rw [hcl]; exact hl)] at hcr
  exact ⟨mk x, hok x hx, by rw [hec]; simpa using hcr⟩
theorem Opens.agg {H : Type} {enc : TypeId × Value → H} {w : World} {base b0 : Nat} {held : Bool} {r : Reach} {v : Value} {d : DataW H} {ps : List MemPlace} {α : Type} {ec : α → List D} {ok : α → Prop} {e : α → D} (ho : Opens P t ec ok) (hs : (∃ fs, P.underlying t = some (.struct fs)) ∨ ∃ n et, P.underlying t = some (.array n et)) (he : ∀ x, e x = .agg (ec x))
    (hval : Value.okWide P w r b0 t v) (hd : DataW.Trod enc P w base (fun _ => true) held t v d ps) : ∃ x, ok x ∧ DRel (fun _ _ => False) w (e x) v := by
  obtain ⟨fuel, hf⟩ := hd
  have hv : ∃ cs, v = .agg cs := by
    rcases hs with ⟨fs, hs⟩ | ⟨n, et, hs⟩ <;> (simp only [Value.okWide, hs] at hval; obtain ⟨cs, rfl, _⟩ := hval; exact ⟨cs, rfl⟩)
  obtain ⟨cs, rfl⟩ := hv
  obtain ⟨x, hx, hcr⟩ := ho.op hf
  refine ⟨x, hx, ?_⟩
  rw [he]
  refine .agg _ _ (by rw [hcr.1]; rfl) fun i d v hd hv => (hcr.2 i d v hd ?_).1
  rw [← hv]
  show (Value.agg cs).cells.toList[i]? = _
  simp [Value.cells]
theorem Opens.one {H : Type} {enc : TypeId × Value → H} {w : World} {base b0 : Nat} {held : Bool} {r : Reach} {v : Value} {d : DataW H} {ps : List MemPlace} {α : Type} {ec : α → List D} {ok : α → Prop} {e : α → D} (ho : Opens P t ec ok) (hs : (∃ k, P.underlying t = some (.int k)) ∨ P.underlying t = some .bool ∨ P.underlying t = some .string ∨ ∃ et, P.underlying t = some (.slice et)) (he : ∀ x, ec x = [e x])
    (hval : Value.okWide P w r b0 t v) (hd : DataW.Trod enc P w base (fun _ => true) held t v d ps) : ∃ x, ok x ∧ DRel (fun _ _ => False) w (e x) v := by
  obtain ⟨fuel, hf⟩ := hd
  have hv : v.cells.toList = [v] := by
    rcases hs with ⟨k, hs⟩ | hs | hs | ⟨et, hs⟩ <;> (simp only [Value.okWide, hs, Cell.okWide] at hval; cases v <;> simp_all [Cell.ok, Value.cells])
  obtain ⟨x, hx, hcr⟩ := ho.op hf
  rw [hv, he] at hcr
  exact ⟨x, hx, (hcr.2 0 (e x) v rfl rfl).1⟩
abbrev OpE (P : Program) (t : TypeId) {α : Type} (e : α → D) (ok : α → Prop) : Prop := Opens P t (fun x => (e x).cells) ok
theorem opE_int {k : IntKind} (ht : P.underlying t = some (.int k)) : OpE P t (D.int k) (fun n => k.wrap n = n) := Fg ht
theorem opE_slice {et : TypeId} {α : Type} {ok : α → Prop} {k : Option Nat} {e : α → D} (ht : P.underlying t = some (.slice et)) (ho : OpE P et e ok) (hc : P.cellsOf et = am k) (h0 : 0 < am k) (he : ∀ x, (e x).shape k = true) : OpE P t (eL k e) (fun l => l.length ≤ maxLen ∧ ∀ x ∈ l, ok x) := Fj ht ho hc h0 (fun x => ⟨he x, rfl⟩)
theorem opE_A2 {et : TypeId} {α : Type} {ok : α → Prop} {e : α → D} (ht : P.underlying t = some (.array 2 et)) (ho : OpE P et e ok) (hl : jO P 0 ((List.range 2).map fun i => (et, i * P.cellsOf et)) (P.cellsOf t) = true) : OpE P t (eA2 e) (fun a => ok a.a0 ∧ ok a.a1 ∧ True) :=
  Fl ht (OpensF.cons ho (OpensF.cons ho OpensF.nil)) hl (fun x => ⟨x.1, x.2.1⟩) (fun x => rfl) (fun x h => h)
theorem opE_struct {fs : Array Field} {α β : Type} {ec : β → List D} {ok : β → Prop} {e : α → D} {ok' : α → Prop} (ht : P.underlying t = some (.struct fs)) (h : OpensF P (fs.toList.map fun f => (f.type, f.offset)) ec ok) (hl : jO P 0 (fs.toList.map fun f => (f.type, f.offset)) (P.cellsOf t) = true) (mk : β → α) (hec : ∀ x, (e (mk x)).cells = ec x) (hok : ∀ x, ok x → ok' (mk x)) : OpE P t e ok' := Fk ht h hl mk hec hok
theorem CRA_cons {w : World} {d : D} {v : Value} {ds : List D} {vs : List Value} (h : DRel (fun _ _ => False) w d v) (k : ∀ (i : Nat) d v, ds[i]? = some d → vs[i]? = some v → DRel (fun _ _ => False) w d v) : ∀ (i : Nat) d' v', (d :: ds)[i]? = some d' → (v :: vs)[i]? = some v' → DRel (fun _ _ => False) w d' v' := by
  intro i d' v' hd hv
  cases i with
  | zero => simp at hd hv; subst hd; subst hv; exact h
  | succ i => simp at hd hv; exact k i d' v' hd hv
end Go.AM
