import Derived.Test.YtfjelgjfbjjopaaAmBy
/-
  Loops over lists that carry nothing: what they come to.
-/
set_option linter.unusedVariables false
set_option linter.unusedSectionVars false
set_option linter.unusedSimpArgs false
namespace Go.AM
open Go

theorem whR_step {σ ρ : Type} (f : σ → Option (Br σ ρ)) (k : Nat) (s : σ) : whR f (k + 1) s = (f s).bind fun x => match x with
    | .next s => whR f k s
    | .brk s => some (.done s)
    | .ret r => some (.ret r) := rfl
theorem whK_step {σ : Type} (f : σ → Option (σ ⊕ σ)) (k : Nat) (s : σ) : whK f (k + 1) s = (f s).bind fun x => match x with
    | .inl s => whK f k s
    | .inr s => some s := rfl

end Go.AM
