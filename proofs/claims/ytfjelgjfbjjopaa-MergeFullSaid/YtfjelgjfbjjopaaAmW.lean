import Derived.Test.YtfjelgjfbjjopaaAmN6
/-
  Short words for walks that are printed.
-/
set_option linter.unusedVariables false
set_option linter.unusedSectionVars false
namespace Go.AM
open Go Go.RowKit
variable [Glob]

@[reducible] def vi (x : Int) : V := .d (.int .i64 x)
@[reducible] def vh (x : Int) : V := .d (.int .u16 x)
@[reducible] def v8 (x : Int) : V := .d (.int .u8 x)
@[reducible] def oo (n : Nat) (op : AOp) : AInstr := ⟨some n, op, none⟩
@[reducible] def ci (n : Int) : AX := .c (.int .i64 n)
@[reducible] def vb (x : Bool) : V := .d (.bool x)

def V.simple (n0 : Nat) : V → Bool
  | .d _ => true
  | .loc id _ _ => decide (id < n0)
  | .ptr id _ _ => decide (id < n0)
  | .mref id => decide (id < n0)
  | _ => false
def V.rn1 (ρ : Nat → Nat) : V → V
  | .loc id o l => .loc (ρ id) o l
  | .ptr id i j => .ptr (ρ id) i j
  | .mref id => .mref (ρ id)
  | v => v

theorem VN.rr {ρ : Nat → Nat} {n0 : Nat} {x y : V} (h : x = y.rn1 ρ) (hs : y.simple n0 = true) : VN ρ n0 x y := by
  subst h
  cases y <;> simp [V.simple] at hs
  case d x => exact .d x
  case loc id o l => exact .loc id o l hs
  case ptr id i j => exact .ptr id i j hs
  case mref id => exact .mref id hs

theorem TN.rr {ρ : Nat → Nat} {n0 : Nat} {T : Nat → V} : ∀ {l : List (Nat × V)}, l.map (fun p => T p.1) = l.map (fun p => p.2.rn1 ρ) → l.all (fun p => p.2.simple n0) = true → TN ρ n0 T l
  | [], _, _ => trivial
  | p :: l, h, hs => by
    simp only [List.map_cons, List.cons.injEq, List.all_cons, Bool.and_eq_true] at h hs
    exact ⟨.rr h.1 hs.1, TN.rr h.2 hs.2⟩

def Blk.simple (n0 : Nat) : Blk → Bool
  | .lst _ _ _ => true
  | .mp _ => true
  | .var cs => cs.all (V.simple n0)
def Blk.rn1 (ρ : Nat → Nat) : Blk → Blk
  | .var cs => .var (cs.map (V.rn1 ρ))
  | b => b

theorem VNs.rr {ρ : Nat → Nat} {n0 : Nat} : ∀ {l : List V}, l.all (V.simple n0) = true → VNs ρ n0 (l.map (V.rn1 ρ)) l
  | [], _ => trivial
  | x :: l, h => by
    simp only [List.all_cons, Bool.and_eq_true] at h
    exact ⟨.rr rfl h.1, VNs.rr h.2⟩

theorem SN.rr {ρ : Nat → Nat} {n0 : Nat} {σ : Store} : ∀ {l : List (Nat × Blk)}, l.map (fun p => σ (ρ p.1)) = l.map (fun p => some (p.2.rn1 ρ)) → l.all (fun p => decide (p.1 < n0) && p.2.simple n0) = true → SN ρ n0 σ l
  | [], _, _ => trivial
  | p :: l, h, hs => by
    simp only [List.map_cons, List.cons.injEq, List.all_cons, Bool.and_eq_true, decide_eq_true_eq] at h hs
    refine ⟨⟨hs.1.1, _, h.1, ?_⟩, SN.rr h.2 hs.2⟩
    cases hp : p.2 with
    | lst m k els => exact .lst _ _ _
    | mp es => exact .mp _
    | var cs =>
      have := hs.1.2
      rw [hp] at this
      exact .vars (VNs.rr this)

theorem nr {na : Nat} (rl : List Nat) {s : S} {l : List (Nat × V)} {bl : List (Nat × Blk)} (h1 : rl.Nodup := by decide) (h2 : rl.take na = List.range na := by decide) (h3 : na ≤ rl.length := by decide)
    (hT : l.map (fun p => s.T p.1) = l.map (fun p => p.2.rn1 (rn rl)) := by exact rfl) (hs : l.all (fun p => p.2.simple rl.length) = true := by exact rfl)
    (hσ : bl.map (fun p => s.σ (rn rl p.1)) = bl.map (fun p => some (p.2.rn1 (rn rl))) := by exact rfl) (hb : bl.all (fun p => decide (p.1 < rl.length) && p.2.simple rl.length) = true := by exact rfl) : Norm na s ⟨tab l, stab bl, rl.length⟩ :=
  Norm.mk rl h1 h2 h3 (TN.rr hT hs) (SN.rr hσ hb)

theorem nR {P : Program} {na : Nat} (rl : List Nat) {s : S} {l : List (Nat × V)} {bl : List (Nat × Blk)} (h1 : rl.Nodup := by decide) (h2 : rl.take na = List.range na := by decide) (h3 : na ≤ rl.length := by decide)
    (hT : l.map (fun p => s.T p.1) = l.map (fun p => p.2.rn1 (rn rl)) := by exact rfl) (hs : l.all (fun p => p.2.simple rl.length) = true := by exact rfl)
    (hσ : bl.map (fun p => s.σ (rn rl p.1)) = bl.map (fun p => some (p.2.rn1 (rn rl))) := by exact rfl) (hb : bl.all (fun p => decide (p.1 < rl.length) && p.2.simple rl.length) = true := by exact rfl) : RunOps P [] s (fun s' => Norm na s' ⟨tab l, stab bl, rl.length⟩) :=
  Norm.mk rl h1 h2 h3 (TN.rr hT hs) (SN.rr hσ hb)

/-- Norm.mk, its facts about names told by the machine. -/
theorem nm {na : Nat} (rl : List Nat) {s : S} {l : List (Nat × V)} {bl : List (Nat × Blk)} (hT : TN (rn rl) rl.length s.T l) (hσ : SN (rn rl) rl.length s.σ bl) (h1 : rl.Nodup := by decide) (h2 : rl.take na = List.range na := by decide) (h3 : na ≤ rl.length := by decide) : Norm na s ⟨tab l, stab bl, rl.length⟩ :=
  Norm.mk rl h1 h2 h3 hT hσ

section
variable {P : Program} {T : Nat → V} {σ : Store} {n : Nat} {dst : Option Nat} {op : AOp} {l : List AInstr} {K : S → Prop}

theorem q1 (v : V) {σ' : Store} {n' : Nat} (k : RunOps P l ⟨putT T dst v, σ', n'⟩ K) (h : stepV op (evT T) σ n = some (v, σ', n') := by exact rfl) : RunOps P (⟨dst, op, none⟩ :: l) ⟨T, σ, n⟩ K := step h k
theorem qX (c : Bool) {g : Nat} {b : Bool} (hb : ¬ c = b) (k : RunOps P l ⟨putT T dst V.skip, σ, n⟩ K) (hg : T g = .d (.bool c) := by exact rfl) : RunOps P (⟨dst, op, some (g, b)⟩ :: l) ⟨T, σ, n⟩ K := stepX hg hb k
theorem qG (c : Bool) {g : Nat} {b : Bool} (hb : c = b) (k : RunOps P (⟨dst, op, none⟩ :: l) ⟨T, σ, n⟩ K) (hg : T g = .d (.bool c) := by exact rfl) : RunOps P (⟨dst, op, some (g, b)⟩ :: l) ⟨T, σ, n⟩ K := stepG hg hb k
end

theorem VN.lc {ρ : Nat → Nat} {n0 : Nat} (id : Nat) {off len : Nat} (h : id < n0 := by decide) : VN ρ n0 (.loc (ρ id) off len) (.loc id off len) := .loc id off len h
end Go.AM
