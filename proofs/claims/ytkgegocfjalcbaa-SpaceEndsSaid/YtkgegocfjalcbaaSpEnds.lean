import Derived.Test.YtkgegocfjalcbaaSPm
import Derived.Test.YtkgegocfjalcbaaSpW2
import Derived.Test.YtkgegocfjalcbaaAmGlue
import Derived.Test.YtkgegocfjalcbaaRows
import Derived.WalkKit
import Derived.ProofKit
import Derived.OpenShut
import Derived.ShutString
import Derived.ChangeOld
import Derived.Below
import Derived.Carry
import Derived.SizedLaws
/- From each state the program tells the rules that go and change it, in their order, with where each leads; its ends are the states without one, there is one at least, and every state but the first was come to. No conditions. -/
namespace Go.Proofs.Ytkgegocfjalcbaa.SpaceEnds
open Go Go.ChangeShapes Go.WideShapes Go.ChangeAt Go.RowKit Go.AM
open Go.ChangeMaps (open_string shut_string)
set_option linter.unusedVariables false
set_option linter.unusedSimpArgs false

theorem op48N : ∀ N, OpensB Try.prog 48 (fun x => (uapi_Pol x).cells) (fun _ => True) N
  | 0 => opB_zero Try.underlying48
  | N + 1 => opB_struct Try.underlying48 (OpensFB.cons ((opE_int Try.underlying3).b N) (OpensFB.cons ((opE_int Try.underlying3).b N) (OpensFB.cons ((opE_int Try.underlying33).b N) (OpensFB.cons ((opB_slice (k := (some 4)) (e := eapi_Pol) (ec := fun x => (uapi_Pol x).cells) Try.underlying46 (op48N N) (by kernel_rfl) (by decide) (fun x => by rw [eu_api_Pol]; exact ⟨rfl, rfl⟩)).mono (Nat.le_succ N)) OpensFB.nil)))) (by kernel_rfl) (fun x => api_Pol.mk x.1 x.2.1 x.2.2.1 x.2.2.2.1) (fun x => rfl) (fun x h => trivial)

theorem op48 : OpE Try.prog 48 uapi_Pol (fun _ => True) := OpensB.all op48N

def Wf_api_Pair (x : api_Pair) : Prop := (IntKind.i64.wrap x.F = x.F) ∧ (IntKind.u16.wrap x.N = x.N) ∧ True

theorem op115 : OpE Try.prog 115 eapi_Pair Wf_api_Pair :=
  opE_struct Try.underlying115 (OpensF.cons (opE_int Try.underlying3) (OpensF.cons (opE_int Try.underlying33) OpensF.nil)) (by kernel_rfl) (fun x => api_Pair.mk x.1 x.2.1) (fun x => rfl) (fun x h => h)

def Wf_api_Rule (x : api_Rule) : Prop := (x.When.length ≤ maxLen ∧ ∀ y ∈ x.When, Wf_api_Pair y) ∧ (x.Guard.length ≤ maxLen ∧ ∀ y ∈ x.Guard, Wf_api_Pair y) ∧ (x.Then.length ≤ maxLen ∧ ∀ y ∈ x.Then, Wf_api_Pair y) ∧ True

theorem op64 : OpE Try.prog 64 eapi_Rule Wf_api_Rule :=
  opE_struct Try.underlying64 (OpensF.cons (opE_slice (k := (some 2)) Try.underlying62 op115 (by kernel_rfl) (by decide) (fun x => rfl)) (OpensF.cons (opE_slice (k := (some 2)) Try.underlying62 op115 (by kernel_rfl) (by decide) (fun x => rfl)) (OpensF.cons (opE_slice (k := (some 2)) Try.underlying62 op115 (by kernel_rfl) (by decide) (fun x => rfl)) OpensF.nil))) (by kernel_rfl) (fun x => api_Rule.mk x.1 x.2.1 x.2.2.1) (fun x => rfl) (fun x h => h)

def Wf_api_Program (x : api_Program) : Prop := (x.Init.length ≤ maxLen ∧ ∀ y ∈ x.Init, IntKind.u16.wrap y = y) ∧ (True) ∧ (x.Rules.length ≤ maxLen ∧ ∀ y ∈ x.Rules, Wf_api_Rule y) ∧ True

theorem op51 : OpE Try.prog 51 eapi_Program Wf_api_Program :=
  opE_struct Try.underlying51 (OpensF.cons (opE_slice (k := none) Try.underlying45 (opE_int Try.underlying33) (by kernel_rfl) (by decide) (fun x => rfl)) (OpensF.cons op48 (OpensF.cons (opE_slice (k := (some 3)) Try.underlying49 op64 (by kernel_rfl) (by decide) (fun x => rfl)) OpensF.nil))) (by kernel_rfl) (fun x => api_Program.mk x.1 x.2.1 x.2.2.1) (fun x => rfl) (fun x h => h)

theorem law_SpaceEnds (a0 : api_Program) (h : Wf_api_Program a0) : law11_SpaceEnds a0 = some true := law_ends a0 ⟨h.1.2, fun r hr t ht => ((h.2.2.1.2 r hr).2.2.1.2 t ht).2.1⟩

theorem own : ownKnob Try.prog.godebug = none := by kernel_rfl

set_option maxRecDepth 100000 in
theorem lifted (law : ∀ (a0 : api_Program), (Wf_api_Program a0) → PCall Try.prog 8 [eapi_Program a0] (.bool true)) (os : Os) (started : os.Started) (H : Type) (enc : TypeId × Value → H) :
    ReturnsInHanded {} Try.checked os 8 .any (Rows.spaceEndsSpec.pre6 enc Try.prog Try.f8 Rows.spaceEndsRow.domain false) (Rows.spaceEndsSpec.post enc Try.prog Try.f8 false true false false) := by
  refine returnsInHanded_of_change_sized (C := Try.checked) own started (by kernel_rfl) Try.func8
    (ChangeSpec.witness6 (enc := enc) (C := Try.checked) false ⟨#[], #[.agg #[.slice none 0 0, .int .i64 0, .int .i64 0, .int .u16 0, .slice none 0 0, .slice none 0 0]], []⟩ 8 (by kernel_rfl) (by kernel_rfl) (by kernel_rfl) (by kernel_rfl)) ?_
  intro W base args ds gs before hval0 hW hcnd hsz0 _
  have hval : ∀ (j : Nat) t v, Try.f8.params[j]? = some t → args[j]? = some v → Value.okWide Try.prog W .any base t v := hval0
  have hW' := hW
  obtain ⟨p, q, hA0, hV, rfl, hfz, hnd⟩ := hW
  have hA : DataW.TrodAll enc Try.prog W 0 (fun _ => true) true Try.f8.params.toList args.toList ds p := hA0
  rw [Try.params8] at hA hval
  have hlt := hA.lt
  obtain ⟨rfl, rfl⟩ := trodVars_none hV
  obtain ⟨v0, vs0, d0, ds0, p0, q0, hargs0, rfl, rfl, h0, r0⟩ := trodAll_cons hA
  obtain ⟨hnil, rfl, rfl⟩ := trodAll_nil r0
  subst hnil
  obtain rfl : args = #[v0] := by cases args; simp_all
  obtain ⟨a0, ok0, R0⟩ := Opens.agg op51 (.inl ⟨_, Try.underlying51⟩) (fun x => rfl) (hval 0 51 v0 rfl rfl) h0
  clear hA0 hval0 hsz0
  refine ((law a0 ok0).2 (fun _ _ => False) W #[v0] (fun _ _ h => h.elim) (fun _ _ h => by cases h) rfl (fun i d v hd hv => ?_)).mono fun e W' ⟨cv, he, hr, bel⟩ => ?_
  · exact (CRA_cons R0 (vs := []) (ds := []) (fun i d v hd => by simp at hd)) i d v hd (by simpa using hv)
  · cases hr
    subst he
    have laid : laidOutB Try.prog = true := by kernel_rfl
    exact ⟨_, rfl, _, _, _, [], _, [], hW', trodAll_mk1 (shut_bool Try.underlying4 _), (trodAll_cons_mk (Below.trod laid (by kernel_rfl) (of_decide_eq_true (by kernel_rfl)) h0 bel (fun x hx => hlt x (by simp [hx]))) trodAll_mk0), rfl, bel.frame _, fun h => by cases h⟩

theorem spaceEnds_holds : Rows.SpaceEndsSaid :=
  OpenClaim.holds_of_wide 8 Try.f8 rfl rfl rfl rfl rfl rfl rfl ⟨rfl, rfl, rfl, rfl, rfl⟩ rfl rfl rfl rfl rfl (by kernel_rfl) Try.func8 (by kernel_rfl)
    (of_decide_eq_true (by kernel_rfl)) (by unfold Func.isWrapper; first | (rw [if_pos (by decide +kernel)]; kernel_rfl) | (rw [if_neg (by decide +kernel)]; exact ⟨rfl, rfl⟩))
    (fun os started H enc _ => lifted (fun a0 h0 => c_law11_SpaceEnds (law_SpaceEnds a0 h0)) os started H enc)

end Go.Proofs.Ytkgegocfjalcbaa.SpaceEnds
