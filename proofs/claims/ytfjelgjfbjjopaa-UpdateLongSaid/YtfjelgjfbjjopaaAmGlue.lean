import Derived.Test.YtfjelgjfbjjopaaAmN6
import Derived.ChangeArms
import Derived.OpenShut
import Derived.WideShapes
import Derived.DataReads
import Derived.Carry
set_option linter.unusedVariables false
set_option linter.unusedSectionVars false
set_option linter.unusedSimpArgs false
namespace Go.AM
open Go Go.RowKit
def CR (w : World) (ds : List D) (cs : List Value) : Prop := ds.length = cs.length ∧ ∀ (i : Nat) d v, ds[i]? = some d → cs[i]? = some v → DRel (fun _ _ => False) w d v ∧ v.oneCell' = true
structure Opens (P : Program) (t : TypeId) {α : Type} (ec : α → List D) (ok : α → Prop) : Prop where
  op : ∀ {H : Type} {enc : TypeId × Value → H} {w : World} {base : Nat} {held : Bool} {fuel : Nat} {cs : List Value} {d}, DataW.trod enc P w base (fun _ => true) held fuel t cs = some d → ∃ x, ok x ∧ CR w (ec x) cs
variable {P : Program} {t : TypeId}
theorem CR.one {w : World} {d : D} {v : Value} (h : DRel (fun _ _ => False) w d v) (h1 : v.oneCell' = true) : CR w [d] [v] := by
  refine ⟨rfl, fun i d' v' hd hv => ?_⟩
  cases i with
  | zero => simp at hd hv; subst hd; subst hv; exact ⟨h, h1⟩
  | succ i => simp at hd
theorem CR.append {w : World} {d1 d2 : List D} {c1 c2 : List Value} (h1 : CR w d1 c1) (h2 : CR w d2 c2) : CR w (d1 ++ d2) (c1 ++ c2) := by
  refine ⟨by simp [h1.1, h2.1], fun i d v hd hv => ?_⟩
  by_cases hi : i < d1.length
  · rw [List.getElem?_append_left hi] at hd
    rw [List.getElem?_append_left (by rw [← h1.1]; exact hi)] at hv
    exact h1.2 i d v hd hv
  · rw [List.getElem?_append_right (by omega)] at hd
    rw [List.getElem?_append_right (by rw [← h1.1]; omega)] at hv
    rw [← h1.1] at hv
    exact h2.2 _ d v hd hv
theorem o5 {k : IntKind} {n : Int} (h : (Lit.int k n).wf = true) : k.wrap n = n := by
  simp only [Lit.wf, Bool.and_eq_true, decide_eq_true_eq] at h
  cases k <;> simp [IntKind.min, IntKind.max, IntKind.wrap, IntKind.bits, IntKind.signed] at h ⊢ <;> omega
theorem uo {k : IntKind} (ht : P.underlying t = some (.int k)) : Opens P t (fun n : Int => [D.int k n]) (fun n => k.wrap n = n) := by
  constructor
  intro H enc w base held fuel cs d h
  obtain ⟨n, rfl, _, hw⟩ := DataW.trod_int ht h
  exact ⟨n, o5 hw, .one (.int _ _ (o5 hw)) rfl⟩
structure gk (P : Program) (t : TypeId) {α : Type} (ec : α → List D) (ok : α → Prop) (N : Nat) : Prop where
  op : ∀ {H : Type} {enc : TypeId × Value → H} {w : World} {base : Nat} {held : Bool} {fuel : Nat} {cs : List Value} {d}, fuel ≤ N → DataW.trod enc P w base (fun _ => true) held fuel t cs = some d → ∃ x, ok x ∧ CR w (ec x) cs
theorem Opens.b {α : Type} {ec : α → List D} {ok : α → Prop} (h : Opens P t ec ok) (N : Nat) : gk P t ec ok N := ⟨fun _ hd => h.op hd⟩
theorem gk.all {α : Type} {ec : α → List D} {ok : α → Prop} (h : ∀ N, gk P t ec ok N) : Opens P t ec ok := ⟨fun hd => (h _).op (Nat.le_refl _) hd⟩
theorem gk.mono {α : Type} {ec : α → List D} {ok : α → Prop} {N M : Nat} (h : gk P t ec ok N) (hm : M ≤ N) : gk P t ec ok M := ⟨fun hf hd => h.op (Nat.le_trans hf hm) hd⟩
def iU (P : Program) (ts : List (TypeId × Nat)) {α : Type} (ec : α → List D) (ok : α → Prop) : Prop :=
  ∀ {H : Type} {enc : TypeId × Value → H} {w : World} {base : Nat} {held : Bool} {n : Nat} {cs : List Value}, (∀ p ∈ ts, ∃ d, DataW.trod enc P w base (fun _ => true) held n p.1 ((cs.drop p.2).take (P.cellsOf p.1)) = some d) →
    ∃ x, ok x ∧ CR w (ec x) (ts.flatMap fun p => (cs.drop p.2).take (P.cellsOf p.1))
theorem iU.nil : iU P [] (fun _ : Unit => []) (fun _ => True) := by
  intro H enc w base held n cs h
  exact ⟨(), trivial, rfl, fun i d v hd => by simp at hd⟩
theorem iU.cons {t : TypeId} {o : Nat} {ts : List (TypeId × Nat)} {α β : Type} {ec : α → List D} {ok : α → Prop} {ec2 : β → List D} {ok2 : β → Prop} (h1 : Opens P t ec ok) (h2 : iU P ts ec2 ok2) : iU P ((t, o) :: ts) (fun p : α × β => ec p.1 ++ ec2 p.2) (fun p => ok p.1 ∧ ok2 p.2) := by
  intro H enc w base held n cs h
  obtain ⟨d, hd⟩ := h (t, o) (by simp)
  obtain ⟨x, hx, hcx⟩ := h1.op hd
  obtain ⟨y, hy, hcy⟩ := h2 fun p hp => h p (by simp [hp])
  exact ⟨(x, y), ⟨hx, hy⟩, by simpa using hcx.append hcy⟩
structure iV (P : Program) (ts : List (TypeId × Nat)) {α : Type} (ec : α → List D) (ok : α → Prop) (N : Nat) : Prop where
  op : ∀ {H : Type} {enc : TypeId × Value → H} {w : World} {base : Nat} {held : Bool} {n : Nat} {cs : List Value}, n ≤ N → (∀ p ∈ ts, ∃ d, DataW.trod enc P w base (fun _ => true) held n p.1 ((cs.drop p.2).take (P.cellsOf p.1)) = some d) →
    ∃ x, ok x ∧ CR w (ec x) (ts.flatMap fun p => (cs.drop p.2).take (P.cellsOf p.1))
theorem iV.nil {N : Nat} : iV P [] (fun _ : Unit => []) (fun _ => True) N := by
  constructor
  intro H enc w base held n cs _ h
  exact ⟨(), trivial, rfl, fun i d v hd => by simp at hd⟩
theorem iV.cons {N : Nat} {t : TypeId} {o : Nat} {ts : List (TypeId × Nat)} {α β : Type} {ec : α → List D} {ok : α → Prop} {ec2 : β → List D} {ok2 : β → Prop} (h1 : gk P t ec ok N) (h2 : iV P ts ec2 ok2 N) : iV P ((t, o) :: ts) (fun p : α × β => ec p.1 ++ ec2 p.2) (fun p => ok p.1 ∧ ok2 p.2) N := by
  constructor
  intro H enc w base held n cs hn h
  obtain ⟨d, hd⟩ := h (t, o) (by simp)
  obtain ⟨x, hx, hcx⟩ := h1.op hn hd
  obtain ⟨y, hy, hcy⟩ := h2.op hn fun p hp => h p (by simp [hp])
  exact ⟨(x, y), ⟨hx, hy⟩, by simpa using hcx.append hcy⟩
theorem Opens.agg {H : Type} {enc : TypeId × Value → H} {w : World} {base b0 : Nat} {held : Bool} {r : Reach} {v : Value} {d : DataW H} {ps : List MemPlace} {α : Type} {ec : α → List D} {ok : α → Prop} {e : α → D} (ho : Opens P t ec ok) (hs : (∃ fs, P.underlying t = some (.struct fs)) ∨ ∃ n et, P.underlying t = some (.array n et)) (he : ∀ x, e x = .agg (ec x))
    (hval : Value.okWide P w r b0 t v) (hd : DataW.Trod enc P w base (fun _ => true) held t v d ps) : ∃ x, ok x ∧ DRel (fun _ _ => False) w (e x) v := by
  obtain ⟨fuel, hf⟩ := hd
  have hv : ∃ cs, v = .agg cs := by
    rcases hs with ⟨fs, hs⟩ | ⟨n, et, hs⟩ <;> (simp only [Value.okWide, hs] at hval; obtain ⟨cs, rfl, _⟩ := hval; exact ⟨cs, rfl⟩)
  obtain ⟨cs, rfl⟩ := hv
  obtain ⟨x, hx, hcr⟩ := ho.op hf
  refine ⟨x, hx, ?_⟩
  rw [he]
  refine .agg _ _ (by rw [hcr.1]; rfl) fun i d v hd hv => (hcr.2 i d v hd ?_).1
  rw [← hv]
  show (Value.agg cs).cells.toList[i]? = _
  simp [Value.cells]
theorem Opens.one {H : Type} {enc : TypeId × Value → H} {w : World} {base b0 : Nat} {held : Bool} {r : Reach} {v : Value} {d : DataW H} {ps : List MemPlace} {α : Type} {ec : α → List D} {ok : α → Prop} {e : α → D} (ho : Opens P t ec ok) (hs : (∃ k, P.underlying t = some (.int k)) ∨ P.underlying t = some .bool ∨ P.underlying t = some .string ∨ ∃ et, P.underlying t = some (.slice et)) (he : ∀ x, ec x = [e x])
    (hval : Value.okWide P w r b0 t v) (hd : DataW.Trod enc P w base (fun _ => true) held t v d ps) : ∃ x, ok x ∧ DRel (fun _ _ => False) w (e x) v := by
  obtain ⟨fuel, hf⟩ := hd
  have hv : v.cells.toList = [v] := by
    rcases hs with ⟨k, hs⟩ | hs | hs | ⟨et, hs⟩ <;> (simp only [Value.okWide, hs, Cell.okWide] at hval; cases v <;> simp_all [Cell.ok, Value.cells])
  obtain ⟨x, hx, hcr⟩ := ho.op hf
  rw [hv, he] at hcr
  exact ⟨x, hx, (hcr.2 0 (e x) v rfl rfl).1⟩
abbrev ur (P : Program) (t : TypeId) {α : Type} (e : α → D) (ok : α → Prop) : Prop := Opens P t (fun x => (e x).cells) ok
theorem opE_int {k : IntKind} (ht : P.underlying t = some (.int k)) : ur P t (D.int k) (fun n => k.wrap n = n) := uo ht
theorem CRA_cons {w : World} {d : D} {v : Value} {ds : List D} {vs : List Value} (h : DRel (fun _ _ => False) w d v) (k : ∀ (i : Nat) d v, ds[i]? = some d → vs[i]? = some v → DRel (fun _ _ => False) w d v) : ∀ (i : Nat) d' v', (d :: ds)[i]? = some d' → (v :: vs)[i]? = some v' → DRel (fun _ _ => False) w d' v' := by
  intro i d' v' hd hv
  cases i with
  | zero => simp at hd hv; subst hd; subst hv; exact h
  | succ i => simp at hd hv; exact k i d' v' hd hv
end Go.AM
