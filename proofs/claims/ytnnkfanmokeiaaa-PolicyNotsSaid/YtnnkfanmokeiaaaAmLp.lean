import Derived.Test.YtnnkfanmokeiaaaAmBy
set_option linter.unusedVariables false
set_option linter.unusedSectionVars false
set_option linter.unusedSimpArgs false
namespace Go.AM
open Go
theorem jJ {σ ρ : Type} (f : σ → Option (Br σ ρ)) (k : Nat) (s : σ) : gQ f (k + 1) s = (f s).bind fun x => match x with
    | .next s => gQ f k s
    | .brk s => some (.done s)
    | .ret r => some (.ret r) := rfl
theorem lk {σ : Type} (f : σ → Option (σ ⊕ σ)) (k : Nat) (s : σ) : gh f (k + 1) s = (f s).bind fun x => match x with
    | .inl s => gh f k s
    | .inr s => some s := rfl
def iO {ρ : Type} : Option ρ → Ex Unit ρ
  | some r => .ret r
  | none => .done ()
def jK {ρ : Type} : Option ρ → Br Unit ρ
  | some r => .ret r
  | none => .next ()
end Go.AM
