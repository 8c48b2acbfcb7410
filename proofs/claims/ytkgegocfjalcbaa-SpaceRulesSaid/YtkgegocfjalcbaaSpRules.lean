import Derived.Test.YtkgegocfjalcbaaSP3
import Derived.Test.YtkgegocfjalcbaaSpW2
import Derived.Test.YtkgegocfjalcbaaAmGlue
import Derived.Test.YtkgegocfjalcbaaRows
import Derived.WalkKit
import Derived.ProofKit
import Derived.OpenShut
import Derived.ShutString
import Derived.ChangeOld
import Derived.Below
import Derived.Carry
import Derived.SizedLaws
/- A rule of the program goes and changes as the document's does, and the state that it was asked of reads as it did. No conditions. -/
namespace Go.Proofs.Ytkgegocfjalcbaa.SpaceRules
open Go Go.ChangeShapes Go.WideShapes Go.ChangeAt Go.RowKit Go.AM
open Go.ChangeMaps (open_string shut_string)
set_option linter.unusedVariables false
set_option linter.unusedSimpArgs false

def Wf_api_Pair (x : api_Pair) : Prop := (IntKind.i64.wrap x.F = x.F) ∧ (IntKind.u16.wrap x.N = x.N) ∧ True

theorem op115 : OpE Try.prog 115 eapi_Pair Wf_api_Pair :=
  opE_struct Try.underlying115 (OpensF.cons (opE_int Try.underlying3) (OpensF.cons (opE_int Try.underlying33) OpensF.nil)) (by kernel_rfl) (fun x => api_Pair.mk x.1 x.2.1) (fun x => rfl) (fun x h => h)

def Wf_api_Rule (x : api_Rule) : Prop := (x.When.length ≤ maxLen ∧ ∀ y ∈ x.When, Wf_api_Pair y) ∧ (x.Guard.length ≤ maxLen ∧ ∀ y ∈ x.Guard, Wf_api_Pair y) ∧ (x.Then.length ≤ maxLen ∧ ∀ y ∈ x.Then, Wf_api_Pair y) ∧ True

theorem op64 : OpE Try.prog 64 eapi_Rule Wf_api_Rule :=
  opE_struct Try.underlying64 (OpensF.cons (opE_slice (k := (some 2)) Try.underlying62 op115 (by kernel_rfl) (by decide) (fun x => rfl)) (OpensF.cons (opE_slice (k := (some 2)) Try.underlying62 op115 (by kernel_rfl) (by decide) (fun x => rfl)) (OpensF.cons (opE_slice (k := (some 2)) Try.underlying62 op115 (by kernel_rfl) (by decide) (fun x => rfl)) OpensF.nil))) (by kernel_rfl) (fun x => api_Rule.mk x.1 x.2.1 x.2.2.1) (fun x => rfl) (fun x h => h)

theorem law_SpaceRules (a0 : api_Rule) (a1 : List Int) {p q : Prop} (_ : p) (_ : q) : law11_SpaceRules a0 a1 = some true := law_rules a0 a1

theorem own : ownKnob Try.prog.godebug = none := by kernel_rfl

set_option maxRecDepth 100000 in
theorem lifted (law : ∀ (a0 : api_Rule) (a1 : (List Int)), (Wf_api_Rule a0) → (a1.length ≤ maxLen ∧ ∀ y ∈ a1, IntKind.u16.wrap y = y) → PCall Try.prog 7 [eapi_Rule a0, (eL none (D.int .u16)) a1] (.bool true)) (os : Os) (started : os.Started) (H : Type) (enc : TypeId × Value → H) :
    ReturnsInHanded {} Try.checked os 7 .any (Rows.spaceRulesSpec.pre6 enc Try.prog Try.f7 Rows.spaceRulesRow.domain false) (Rows.spaceRulesSpec.post enc Try.prog Try.f7 false true false false) := by
  refine returnsInHanded_of_change_sized (C := Try.checked) own started (by kernel_rfl) Try.func7
    (ChangeSpec.witness6 (enc := enc) (C := Try.checked) false ⟨#[], #[.agg #[.slice none 0 0, .slice none 0 0, .slice none 0 0], .slice none 0 0], []⟩ 8 (by kernel_rfl) (by kernel_rfl) (by kernel_rfl) (by kernel_rfl)) ?_
  intro W base args ds gs before hval0 hW hcnd hsz0 _
  have hval : ∀ (j : Nat) t v, Try.f7.params[j]? = some t → args[j]? = some v → Value.okWide Try.prog W .any base t v := hval0
  have hW' := hW
  obtain ⟨p, q, hA0, hV, rfl, hfz, hnd⟩ := hW
  have hA : DataW.TrodAll enc Try.prog W 0 (fun _ => true) true Try.f7.params.toList args.toList ds p := hA0
  rw [Try.params7] at hA hval
  have hlt := hA.lt
  obtain ⟨rfl, rfl⟩ := trodVars_none hV
  obtain ⟨v0, vs0, d0, ds0, p0, q0, hargs0, rfl, rfl, h0, r0⟩ := trodAll_cons hA
  obtain ⟨v1, vs1, d1, ds1, p1, q1, hargs1, rfl, rfl, h1, r1⟩ := trodAll_cons r0
  obtain ⟨hnil, rfl, rfl⟩ := trodAll_nil r1
  subst hnil
  subst hargs1
  obtain rfl : args = #[v0, v1] := by cases args; simp_all
  obtain ⟨a0, ok0, R0⟩ := Opens.agg op64 (.inl ⟨_, Try.underlying64⟩) (fun x => rfl) (hval 0 64 v0 rfl rfl) h0
  obtain ⟨a1, ok1, R1⟩ := Opens.one (opE_slice (k := none) Try.underlying45 (opE_int Try.underlying33) (by kernel_rfl) (by decide) (fun x => rfl)) (.inr (.inr (.inr ⟨_, Try.underlying45⟩))) (fun x => rfl) (hval 1 45 v1 rfl rfl) h1
  clear hA0 hval0 hsz0
  refine ((law a0 a1 ok0 ok1).2 (fun _ _ => False) W #[v0, v1] (fun _ _ h => h.elim) (fun _ _ h => by cases h) rfl (fun i d v hd hv => ?_)).mono fun e W' ⟨cv, he, hr, bel⟩ => ?_
  · exact (CRA_cons R0 (CRA_cons R1 (vs := []) (ds := []) (fun i d v hd => by simp at hd))) i d v hd (by simpa using hv)
  · cases hr
    subst he
    have laid : laidOutB Try.prog = true := by kernel_rfl
    exact ⟨_, rfl, _, _, _, [], _, [], hW', trodAll_mk1 (shut_bool Try.underlying4 _), (trodAll_cons_mk (Below.trod laid (by kernel_rfl) (of_decide_eq_true (by kernel_rfl)) h0 bel (fun x hx => hlt x (by simp [hx]))) (trodAll_cons_mk (Below.trod laid (by kernel_rfl) (of_decide_eq_true (by kernel_rfl)) h1 bel (fun x hx => hlt x (by simp [hx]))) trodAll_mk0)), rfl, bel.frame _, fun h => by cases h⟩

theorem spaceRules_holds : Rows.SpaceRulesSaid :=
  OpenClaim.holds_of_wide 7 Try.f7 rfl rfl rfl rfl rfl rfl rfl ⟨rfl, rfl, rfl, rfl, rfl⟩ rfl rfl rfl rfl rfl (by kernel_rfl) Try.func7 (by kernel_rfl)
    (of_decide_eq_true (by kernel_rfl)) (by unfold Func.isWrapper; first | (rw [if_pos (by decide +kernel)]; kernel_rfl) | (rw [if_neg (by decide +kernel)]; exact ⟨rfl, rfl⟩))
    (fun os started H enc _ => lifted (fun a0 a1 h0 h1 => c_law11_SpaceRules (law_SpaceRules a0 a1 h0 h1)) os started H enc)

end Go.Proofs.Ytkgegocfjalcbaa.SpaceRules
