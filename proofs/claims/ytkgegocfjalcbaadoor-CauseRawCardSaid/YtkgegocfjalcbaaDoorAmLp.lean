import Derived.Test.YtkgegocfjalcbaaDoorAmBy
/-
  Loops over lists that carry nothing: what they come to.
-/
set_option linter.unusedVariables false
set_option linter.unusedSectionVars false
set_option linter.unusedSimpArgs false
namespace Go.AM
open Go

theorem whK_step {σ : Type} (f : σ → Option (σ ⊕ σ)) (k : Nat) (s : σ) : whK f (k + 1) s = (f s).bind fun x => match x with
    | .inl s => whK f k s
    | .inr s => some s := rfl

def exOf {ρ : Type} : Option ρ → Ex Unit ρ
  | some r => .ret r
  | none => .done ()
def brOf {ρ : Type} : Option ρ → Br Unit ρ
  | some r => .ret r
  | none => .next ()

end Go.AM
