import Derived.Test.YtkgegocfjalcbaaAmFun2
/-
  AM, part 25: a region's operations, evaluated one at a time.
-/
set_option linter.unusedVariables false
set_option linter.unusedSectionVars false
set_option linter.unusedSimpArgs false
namespace Go.AM
open Go Go.RowKit
variable [Glob]

def AOp.plain : AOp → Bool
  | .mov .. => true
  | .pick .. => true
  | .alloc .. => true
  | .box .. => true
  | .build .. => true
  | .bslice .. => true
  | .bsliceI .. => true
  | .load .. => true
  | .ldI .. => true
  | .store .. => true
  | .nilchk .. => true
  | .bin .. => true
  | .eqB .. => true
  | .eqN .. => true
  | .eqS .. => true
  | .un .. => true
  | .convI .. => true
  | .convS .. => true
  | .s2b .. => true
  | .b2s .. => true
  | .mkfunc .. => true
  | .mkslice .. => true
  | .mkslF .. => true
  | .slc .. => true
  | .sstr .. => true
  | .slcA .. => true
  | .faddr .. => true
  | .fld .. => true
  | .iaddr .. => true
  | .iaddrA .. => true
  | .idxA .. => true
  | .idxS .. => true
  | .len .. => true
  | .slen .. => true
  | .lenA .. => true
  | .min2 .. => true
  | .max2 .. => true
  | .append .. => true
  | .clear .. => true
  | .appendC .. => true
  | .extract .. => true
  | .call .. => false
  | .callv .. => false

/-- What is to hold behind one operation. -/
def goK (P : Program) (l : List AInstr) (T : Nat → V) (dst : Option Nat) (K : S → Prop) : Option (V × Store × Nat) → Prop
  | some (v, σ', n') => RunOps P l ⟨putT T dst v, σ', n'⟩ K
  | none => False

def goC (P : Program) (l : List AInstr) (T : Nat → V) (dst : Option Nat) (K : S → Prop) (σ : Store) (n : Nat) (r : D) : Prop := RunOps P l ⟨putT T dst (.d r), σ, n⟩ K
def goW (P : Program) (l : List AInstr) (T : Nat → V) (dst : Option Nat) (K : S → Prop) (v : V) (σ : Store) (n : Nat) : Prop := RunOps P l ⟨putT T dst v, σ, n⟩ K

def goG (P : Program) (dst : Option Nat) (op : AOp) (l : List AInstr) (b : Bool) (T : Nat → V) (σ : Store) (n : Nat) (K : S → Prop) (x : V) : Prop :=
  match guardV x with
  | some b' => if b' = some b then RunOps P (⟨dst, op, none⟩ :: l) ⟨T, σ, n⟩ K else RunOps P l ⟨putT T dst V.skip, σ, n⟩ K
  | none => False

section
variable {P : Program} {l : List AInstr} {T : Nat → V} {dst : Option Nat} {K : S → Prop} {σ σ' : Store} {n n' : Nat} {v : V} {r : D} {op : AOp}

theorem ro_nil {s : S} : RunOps P [] s K = K s := rfl
theorem ro_v (h : op.plain = true) : RunOps P (⟨dst, op, none⟩ :: l) ⟨T, σ, n⟩ K = goK P l T dst K (stepV op (evT T) σ n) := by
  simp only [RunOps]
  cases op <;> first | (simp [AOp.plain] at h; done) | (simp only [RunOp]; generalize stepV _ (evT T) σ n = q; cases q <;> rfl)
theorem goK_some : goK P l T dst K (some (v, σ', n')) = RunOps P l ⟨putT T dst v, σ', n'⟩ K := rfl
theorem ro_call {f : Nat} {xs : List AX} : RunOps P (⟨dst, .call false f xs, none⟩ :: l) ⟨T, σ, n⟩ K = ∃ ds r, ArgsOk σ (xs.map (evT T)) ds ∧ PCall P f ds r ∧ goC P l T dst K σ n r := rfl
theorem ro_callw {f : Nat} {xs : List AX} : RunOps P (⟨dst, .call true f xs, none⟩ :: l) ⟨T, σ, n⟩ K = ∃ v σ' n', SCall P f (xs.map (evT T)) σ n v σ' n' ∧ n ≤ n' ∧ goW P l T dst K v σ' n' := rfl
theorem ro_g {g : Nat} {b : Bool} : RunOps P (⟨dst, op, some (g, b)⟩ :: l) ⟨T, σ, n⟩ K = goG P dst op l b T σ n K (T g) := by
  simp only [RunOps, goG]
  cases guardV (T g) <;> rfl
theorem goG_tt : goG P dst op l true T σ n K (.d (.bool true)) = RunOps P (⟨dst, op, none⟩ :: l) ⟨T, σ, n⟩ K := by simp [goG, guardV]
theorem goG_ff : goG P dst op l false T σ n K (.d (.bool false)) = RunOps P (⟨dst, op, none⟩ :: l) ⟨T, σ, n⟩ K := by simp [goG, guardV]
theorem goG_tf : goG P dst op l true T σ n K (.d (.bool false)) = RunOps P l ⟨putT T dst V.skip, σ, n⟩ K := by simp [goG, guardV]
theorem goG_ft : goG P dst op l false T σ n K (.d (.bool true)) = RunOps P l ⟨putT T dst V.skip, σ, n⟩ K := by simp [goG, guardV]
theorem goG_s {b : Bool} : goG P dst op l b T σ n K V.skip = RunOps P l ⟨putT T dst V.skip, σ, n⟩ K := by simp [goG, guardV, V.skip]
theorem goC_eq : goC P l T dst K σ n r = RunOps P l ⟨putT T dst (.d r), σ, n⟩ K := rfl
theorem goW_eq : goW P l T dst K v σ n = RunOps P l ⟨putT T dst v, σ, n⟩ K := rfl

theorem ro_mov {x0 : AX} : RunOps P (⟨dst, .mov x0, none⟩ :: l) ⟨T, σ, n⟩ K = goK P l T dst K (stepV (.mov x0) (evT T) σ n) := ro_v rfl
theorem ro_pick {c0 a0 b0 : AX} : RunOps P (⟨dst, .pick c0 a0 b0, none⟩ :: l) ⟨T, σ, n⟩ K = goK P l T dst K (stepV (.pick c0 a0 b0) (evT T) σ n) := ro_v rfl
theorem ro_alloc {zero0 : List D} : RunOps P (⟨dst, .alloc zero0, none⟩ :: l) ⟨T, σ, n⟩ K = goK P l T dst K (stepV (.alloc zero0) (evT T) σ n) := ro_v rfl
theorem ro_box {k0 : Option Nat} {x0 : AX} {imm0 : Bool} : RunOps P (⟨dst, .box k0 x0 imm0, none⟩ :: l) ⟨T, σ, n⟩ K = goK P l T dst K (stepV (.box k0 x0 imm0) (evT T) σ n) := ro_v rfl
theorem ro_build {zero0 : List D} {parts0 : List (Nat × Nat × AX)} : RunOps P (⟨dst, .build zero0 parts0, none⟩ :: l) ⟨T, σ, n⟩ K = goK P l T dst K (stepV (.build zero0 parts0) (evT T) σ n) := ro_v rfl
theorem ro_bslice {k0 : Option Nat} {parts0 : List AX} {m0 : Bool} : RunOps P (⟨dst, .bslice k0 parts0 m0, none⟩ :: l) ⟨T, σ, n⟩ K = goK P l T dst K (stepV (.bslice k0 parts0 m0) (evT T) σ n) := ro_v rfl
theorem ro_load {k0 : Option Nat} {x0 : AX} : RunOps P (⟨dst, .load k0 x0, none⟩ :: l) ⟨T, σ, n⟩ K = goK P l T dst K (stepV (.load k0 x0) (evT T) σ n) := ro_v rfl
theorem ro_ldI {k0 : Option Nat} {x0 : AX} : RunOps P (⟨dst, .ldI k0 x0, none⟩ :: l) ⟨T, σ, n⟩ K = goK P l T dst K (stepV (.ldI k0 x0) (evT T) σ n) := ro_v rfl
theorem ro_store {k0 : Option Nat} {a0 x0 : AX} : RunOps P (⟨dst, .store k0 a0 x0, none⟩ :: l) ⟨T, σ, n⟩ K = goK P l T dst K (stepV (.store k0 a0 x0) (evT T) σ n) := ro_v rfl
theorem ro_nilchk {x0 : AX} : RunOps P (⟨dst, .nilchk x0, none⟩ :: l) ⟨T, σ, n⟩ K = goK P l T dst K (stepV (.nilchk x0) (evT T) σ n) := ro_v rfl
theorem ro_bin {op0 : BinOp} {x0 y0 : AX} : RunOps P (⟨dst, .bin op0 x0 y0, none⟩ :: l) ⟨T, σ, n⟩ K = goK P l T dst K (stepV (.bin op0 x0 y0) (evT T) σ n) := ro_v rfl
theorem ro_eqB {neg0 : Bool} {x0 y0 : AX} : RunOps P (⟨dst, .eqB neg0 x0 y0, none⟩ :: l) ⟨T, σ, n⟩ K = goK P l T dst K (stepV (.eqB neg0 x0 y0) (evT T) σ n) := ro_v rfl
theorem ro_eqN {neg0 : Bool} {q0 : Nat} {x0 y0 : AX} : RunOps P (⟨dst, .eqN neg0 q0 x0 y0, none⟩ :: l) ⟨T, σ, n⟩ K = goK P l T dst K (stepV (.eqN neg0 q0 x0 y0) (evT T) σ n) := ro_v rfl
theorem ro_eqS {neg0 : Bool} {ks0 : List Ck} {x0 y0 : AX} : RunOps P (⟨dst, .eqS neg0 ks0 x0 y0, none⟩ :: l) ⟨T, σ, n⟩ K = goK P l T dst K (stepV (.eqS neg0 ks0 x0 y0) (evT T) σ n) := ro_v rfl
theorem ro_un {op0 : UnOp} {x0 : AX} : RunOps P (⟨dst, .un op0 x0, none⟩ :: l) ⟨T, σ, n⟩ K = goK P l T dst K (stepV (.un op0 x0) (evT T) σ n) := ro_v rfl
theorem ro_convI {k0 : IntKind} {x0 : AX} : RunOps P (⟨dst, .convI k0 x0, none⟩ :: l) ⟨T, σ, n⟩ K = goK P l T dst K (stepV (.convI k0 x0) (evT T) σ n) := ro_v rfl
theorem ro_convS {x0 : AX} : RunOps P (⟨dst, .convS x0, none⟩ :: l) ⟨T, σ, n⟩ K = goK P l T dst K (stepV (.convS x0) (evT T) σ n) := ro_v rfl
theorem ro_s2b {x0 : AX} {m0 : Bool} : RunOps P (⟨dst, .s2b x0 m0, none⟩ :: l) ⟨T, σ, n⟩ K = goK P l T dst K (stepV (.s2b x0 m0) (evT T) σ n) := ro_v rfl
theorem ro_b2s {x0 : AX} : RunOps P (⟨dst, .b2s x0, none⟩ :: l) ⟨T, σ, n⟩ K = goK P l T dst K (stepV (.b2s x0) (evT T) σ n) := ro_v rfl
theorem ro_mkfunc {f0 : Nat} {caps0 : List AX} : RunOps P (⟨dst, .mkfunc f0 caps0, none⟩ :: l) ⟨T, σ, n⟩ K = goK P l T dst K (stepV (.mkfunc f0 caps0) (evT T) σ n) := ro_v rfl
theorem ro_mkslice {k0 : Option Nat} {zero0 : D} {len0 cap0 : AX} : RunOps P (⟨dst, .mkslice k0 zero0 len0 cap0, none⟩ :: l) ⟨T, σ, n⟩ K = goK P l T dst K (stepV (.mkslice k0 zero0 len0 cap0) (evT T) σ n) := ro_v rfl
theorem ro_slc {k0 : Option Nat} {x0 : AX} {lo0 hi0 : Option AX} : RunOps P (⟨dst, .slc k0 x0 lo0 hi0, none⟩ :: l) ⟨T, σ, n⟩ K = goK P l T dst K (stepV (.slc k0 x0 lo0 hi0) (evT T) σ n) := ro_v rfl
theorem ro_sstr {x0 : AX} {lo0 hi0 : Option AX} : RunOps P (⟨dst, .sstr x0 lo0 hi0, none⟩ :: l) ⟨T, σ, n⟩ K = goK P l T dst K (stepV (.sstr x0 lo0 hi0) (evT T) σ n) := ro_v rfl
theorem ro_slcA {n0 : Nat} {k0 : Option Nat} {x0 : AX} {lo0 hi0 : Option AX} : RunOps P (⟨dst, .slcA n0 k0 x0 lo0 hi0, none⟩ :: l) ⟨T, σ, n⟩ K = goK P l T dst K (stepV (.slcA n0 k0 x0 lo0 hi0) (evT T) σ n) := ro_v rfl
theorem ro_faddr {off0 : Nat} {x0 : AX} : RunOps P (⟨dst, .faddr off0 x0, none⟩ :: l) ⟨T, σ, n⟩ K = goK P l T dst K (stepV (.faddr off0 x0) (evT T) σ n) := ro_v rfl
theorem ro_fld {off0 : Nat} {k0 : Option Nat} {x0 : AX} : RunOps P (⟨dst, .fld off0 k0 x0, none⟩ :: l) ⟨T, σ, n⟩ K = goK P l T dst K (stepV (.fld off0 k0 x0) (evT T) σ n) := ro_v rfl
theorem ro_iaddr {k0 : Option Nat} {x0 i0 : AX} : RunOps P (⟨dst, .iaddr k0 x0 i0, none⟩ :: l) ⟨T, σ, n⟩ K = goK P l T dst K (stepV (.iaddr k0 x0 i0) (evT T) σ n) := ro_v rfl
theorem ro_iaddrA {n0 : Nat} {k0 : Option Nat} {x0 i0 : AX} : RunOps P (⟨dst, .iaddrA n0 k0 x0 i0, none⟩ :: l) ⟨T, σ, n⟩ K = goK P l T dst K (stepV (.iaddrA n0 k0 x0 i0) (evT T) σ n) := ro_v rfl
theorem ro_idxA {n0 : Nat} {k0 : Option Nat} {x0 i0 : AX} : RunOps P (⟨dst, .idxA n0 k0 x0 i0, none⟩ :: l) ⟨T, σ, n⟩ K = goK P l T dst K (stepV (.idxA n0 k0 x0 i0) (evT T) σ n) := ro_v rfl
theorem ro_idxS {x0 i0 : AX} : RunOps P (⟨dst, .idxS x0 i0, none⟩ :: l) ⟨T, σ, n⟩ K = goK P l T dst K (stepV (.idxS x0 i0) (evT T) σ n) := ro_v rfl
theorem ro_len {x0 : AX} : RunOps P (⟨dst, .len x0, none⟩ :: l) ⟨T, σ, n⟩ K = goK P l T dst K (stepV (.len x0) (evT T) σ n) := ro_v rfl
theorem ro_slen {x0 : AX} : RunOps P (⟨dst, .slen x0, none⟩ :: l) ⟨T, σ, n⟩ K = goK P l T dst K (stepV (.slen x0) (evT T) σ n) := ro_v rfl
theorem ro_lenA {n0 : Nat} : RunOps P (⟨dst, .lenA n0, none⟩ :: l) ⟨T, σ, n⟩ K = goK P l T dst K (stepV (.lenA n0) (evT T) σ n) := ro_v rfl
theorem ro_min2 {x0 y0 : AX} : RunOps P (⟨dst, .min2 x0 y0, none⟩ :: l) ⟨T, σ, n⟩ K = goK P l T dst K (stepV (.min2 x0 y0) (evT T) σ n) := ro_v rfl
theorem ro_max2 {x0 y0 : AX} : RunOps P (⟨dst, .max2 x0 y0, none⟩ :: l) ⟨T, σ, n⟩ K = goK P l T dst K (stepV (.max2 x0 y0) (evT T) σ n) := ro_v rfl
theorem ro_appendC {k0 : Option Nat} {x0 y0 : AX} {m0 : Bool} : RunOps P (⟨dst, .appendC k0 x0 y0 m0, none⟩ :: l) ⟨T, σ, n⟩ K = goK P l T dst K (stepV (.appendC k0 x0 y0 m0) (evT T) σ n) := ro_v rfl
theorem ro_clear {k0 : Option Nat} {z0 : List D} {x0 : AX} : RunOps P (⟨dst, .clear k0 z0 x0, none⟩ :: l) ⟨T, σ, n⟩ K = goK P l T dst K (stepV (.clear k0 z0 x0) (evT T) σ n) := ro_v rfl
theorem ro_mkslF {k0 : Option Nat} {zero0 : D} {len0 cap0 : AX} : RunOps P (⟨dst, .mkslF k0 zero0 len0 cap0, none⟩ :: l) ⟨T, σ, n⟩ K = goK P l T dst K (stepV (.mkslF k0 zero0 len0 cap0) (evT T) σ n) := ro_v rfl
theorem ro_append {k0 : Option Nat} {x0 y0 : AX} {m0 : Bool} : RunOps P (⟨dst, .append k0 x0 y0 m0, none⟩ :: l) ⟨T, σ, n⟩ K = goK P l T dst K (stepV (.append k0 x0 y0 m0) (evT T) σ n) := ro_v rfl
theorem ro_extract {x0 : AX} {i0 : Nat} : RunOps P (⟨dst, .extract x0 i0, none⟩ :: l) ⟨T, σ, n⟩ K = goK P l T dst K (stepV (.extract x0 i0) (evT T) σ n) := ro_v rfl

end
end Go.AM
