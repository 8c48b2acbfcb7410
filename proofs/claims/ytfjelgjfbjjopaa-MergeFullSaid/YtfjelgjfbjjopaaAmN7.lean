import Derived.Test.YtfjelgjfbjjopaaAmN6
import Derived.Test.YtfjelgjfbjjopaaAmSoft2
/-
  AM, part 32: regions that are drawn, with writes.
-/
set_option linter.unusedVariables false
set_option linter.unusedSectionVars false
set_option linter.unusedSimpArgs false
namespace Go.AM
open Go Go.RowKit
variable [Glob]

section
variable {P : Program} {N na : Nat} {A : Nat → Nat → Prop} {μ μ' : Nat → Option Place} {T T' : Nat → V} {σ σ' : Store} {w w' : World} {a : Act} {n n' : Nat} {l : List AInstr} {dst : Option Nat} {op : AOp} {K : S → FP → Prop} {acc : FP}

theorem RunOpsL.nil' (k : K ⟨T, σ, n⟩ acc) : RunOpsL P [] ⟨T, σ, n⟩ acc K := k

theorem AllS.pre : ∀ {pre : List (Nat × Blk)}, AllS σ pre → ∀ p ∈ pre, σ p.1 = some p.2
  | [], _, p, hp => by cases hp
  | q :: pre, h, p, hp => by
    rcases List.mem_cons.1 hp with rfl | hp
    · exact h.1
    · exact AllS.pre h.2 p hp

/-- Cells whose values stay, said one by one. -/
def KeepL (σ σ' : Store) : List Cl → Prop
  | [] => True
  | c :: l => (∀ k, loadAt σ' k (.ptr c.1 c.2.1 c.2.2) = loadAt σ k (.ptr c.1 c.2.1 c.2.2)) ∧ KeepL σ σ' l

theorem KeepL.ok {σ σ' : Store} {R : List Nat} : ∀ {Kp : List Cl}, KeepL σ σ' Kp → (Kp.all fun c => R.contains c.1) = true → KeepOk σ σ' R Kp
  | [], _, _, c, hc => by simp at hc
  | c0 :: l, h, hR, c, hc => by
    simp only [List.all_cons, Bool.and_eq_true] at hR
    rcases List.mem_cons.1 hc with rfl | hc
    · exact ⟨by simpa using hR.1, h.1⟩
    · exact KeepL.ok h.2 hR.2 c hc

/-! footprints of calls -/

theorem ViewB.grow {σ σ2 : Store} (hg : ∀ id blk, σ id = some blk → σ2 id = some blk) {v : V} {d : D} (h : ViewB σ v d) : ViewB σ2 v d := by
  induction h with
  | d x => exact .d x
  | sub _ hs ih => exact .sub ih hs
  | loc hid hle => exact .loc (hg _ _ hid) hle
  | var1 hid _ hs ih => exact .var1 (hg _ _ hid) ih hs
  | var hid hl _ ih => exact .var (hg _ _ hid) hl ih
  | elem hid hx => exact .elem (hg _ _ hid) hx
  | agg hl _ ih => exact .agg hl ih
  | func hl _ ih => exact .func hl ih

theorem ViewsB.grow {σ σ2 : Store} (hg : ∀ id blk, σ id = some blk → σ2 id = some blk) : ∀ {l : List V} {r : List D}, ViewsB σ l r → ViewsB σ2 l r
  | [], [], _ => trivial
  | v :: l, d :: r, h => ⟨h.1.grow hg, ViewsB.grow hg h.2⟩
  | [], _ :: _, h => h.elim
  | _ :: _, [], h => h.elim

end
end Go.AM
