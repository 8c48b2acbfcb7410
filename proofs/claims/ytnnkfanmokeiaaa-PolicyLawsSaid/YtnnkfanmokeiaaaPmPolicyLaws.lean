import Derived.Test.YtnnkfanmokeiaaaPM11
import Derived.Test.YtnnkfanmokeiaaaPmW3
import Derived.Test.YtnnkfanmokeiaaaAmGlue
import Derived.Test.YtnnkfanmokeiaaaRows
import Derived.WalkKit
import Derived.ProofKit
import Derived.OpenShut
import Derived.ShutString
import Derived.ChangeOld
import Derived.Below
import Derived.Carry
import Derived.SizedLaws
/- Sums and sequences go by the laws of a Kleene algebra without stars. -/
namespace Go.Proofs.Ytnnkfanmokeiaaa.PolicyLaws
open Go Go.ChangeShapes Go.WideShapes Go.ChangeAt Go.RowKit Go.AM
open Go.ChangeMaps (open_string shut_string)
set_option linter.unusedVariables false
set_option linter.unusedSimpArgs false
def Wf_law05_Step (x : law05_Step) : Prop := (IntKind.i64.wrap x.What = x.What) ∧ (IntKind.i64.wrap x.F = x.F) ∧ (IntKind.u16.wrap x.N = x.N) ∧ (IntKind.u8.wrap x.K = x.K) ∧ True
theorem op98 : OpE Try.prog 98 elaw05_Step Wf_law05_Step :=
  opE_struct Try.underlying98 (OpensF.cons (opE_int Try.underlying3) (OpensF.cons (opE_int Try.underlying3) (OpensF.cons (opE_int Try.underlying24) (OpensF.cons (opE_int Try.underlying5) OpensF.nil)))) (by kernel_rfl) (fun x => law05_Step.mk x.1 x.2.1 x.2.2.1 x.2.2.2.1) (fun x => rfl) (fun x h => h)
theorem steps {l : List law05_Step} (h : l.length ≤ maxLen ∧ ∀ y ∈ l, Wf_law05_Step y) : StepOk l := fun x hx => by
  have h4 := (h.2 x hx).2.2.2.1
  rw [w_u8] at h4
  omega
theorem law_PolicyLaws (a0 : A3 (List law05_Step)) (a1 : List Int) (a2 : A8 Int) (h : (a0.a0.length ≤ maxLen ∧ ∀ y ∈ a0.a0, Wf_law05_Step y) ∧ (a0.a1.length ≤ maxLen ∧ ∀ y ∈ a0.a1, Wf_law05_Step y) ∧ (a0.a2.length ≤ maxLen ∧ ∀ y ∈ a0.a2, Wf_law05_Step y) ∧ True) {P Q : Prop} (_ : P) (_ : Q) : law07_PolicyLaws a0 a1 a2 = some true := AM.law_PolicyLaws (steps h.1) (steps h.2.1) (steps h.2.2.1) a1 a2
theorem own : ownKnob Try.prog.godebug = none := by kernel_rfl
set_option maxRecDepth 100000 in
theorem lifted (law : ∀ (a0 : (A3 (List law05_Step))) (a1 : (List Int)) (a2 : (A8 Int)), ((a0.a0.length ≤ maxLen ∧ ∀ y ∈ a0.a0, Wf_law05_Step y) ∧ (a0.a1.length ≤ maxLen ∧ ∀ y ∈ a0.a1, Wf_law05_Step y) ∧ (a0.a2.length ≤ maxLen ∧ ∀ y ∈ a0.a2, Wf_law05_Step y) ∧ True) → (a1.length ≤ maxLen ∧ ∀ y ∈ a1, IntKind.u16.wrap y = y) → ((IntKind.u16.wrap a2.a0 = a2.a0) ∧ (IntKind.u16.wrap a2.a1 = a2.a1) ∧ (IntKind.u16.wrap a2.a2 = a2.a2) ∧ (IntKind.u16.wrap a2.a3 = a2.a3) ∧ (IntKind.u16.wrap a2.a4 = a2.a4) ∧ (IntKind.u16.wrap a2.a5 = a2.a5) ∧ (IntKind.u16.wrap a2.a6 = a2.a6) ∧ (IntKind.u16.wrap a2.a7 = a2.a7) ∧ True) → PCall Try.prog 4 [(eA3 (eL (some 4) elaw05_Step)) a0, (eL none (D.int .u16)) a1, (eA8 (D.int .u16)) a2] (.bool true)) (os : Os) (started : os.Started) (H : Type) (enc : TypeId × Value → H) :
    ReturnsInHanded {} Try.checked os 4 .any (Rows.policyLawsSpec.pre6 enc Try.prog Try.f4 Rows.policyLawsRow.domain false) (Rows.policyLawsSpec.post enc Try.prog Try.f4 false true false false) := by
  refine returnsInHanded_of_change_sized (C := Try.checked) own started (by kernel_rfl) Try.func4
    (ChangeSpec.witness6 (enc := enc) (C := Try.checked) false ⟨#[], #[.agg #[.slice none 0 0, .slice none 0 0, .slice none 0 0], .slice none 0 0, .agg #[.int .u16 0, .int .u16 0, .int .u16 0, .int .u16 0, .int .u16 0, .int .u16 0, .int .u16 0, .int .u16 0]], []⟩ 8 (by kernel_rfl) (by kernel_rfl) (by kernel_rfl) (by kernel_rfl)) ?_
  intro W base args ds gs before hval0 hW hcnd hsz0 _
  have hval : ∀ (j : Nat) t v, Try.f4.params[j]? = some t → args[j]? = some v → Value.okWide Try.prog W .any base t v := hval0
  have hW' := hW
  obtain ⟨p, q, hA0, hV, rfl, hfz, hnd⟩ := hW
  have hA : DataW.TrodAll enc Try.prog W 0 (fun _ => true) true Try.f4.params.toList args.toList ds p := hA0
  rw [Try.params4] at hA hval
  have hlt := hA.lt
  obtain ⟨rfl, rfl⟩ := trodVars_none hV
  obtain ⟨v0, vs0, d0, ds0, p0, q0, hargs0, rfl, rfl, h0, r0⟩ := trodAll_cons hA
  obtain ⟨v1, vs1, d1, ds1, p1, q1, hargs1, rfl, rfl, h1, r1⟩ := trodAll_cons r0
  obtain ⟨v2, vs2, d2, ds2, p2, q2, hargs2, rfl, rfl, h2, r2⟩ := trodAll_cons r1
  obtain ⟨hnil, rfl, rfl⟩ := trodAll_nil r2
  subst hnil
  subst hargs2
  subst hargs1
  obtain rfl : args = #[v0, v1, v2] := by cases args; simp_all
  obtain ⟨a0, ok0, R0⟩ := Opens.agg (opE_A3 Try.underlying42 (opE_slice (k := (some 4)) Try.underlying22 op98 (by kernel_rfl) (by decide) (fun x => rfl)) (by kernel_rfl)) (.inr ⟨_, _, Try.underlying42⟩) (fun x => rfl) (hval 0 42 v0 rfl rfl) h0
  obtain ⟨a1, ok1, R1⟩ := Opens.one (opE_slice (k := none) Try.underlying23 (opE_int Try.underlying24) (by kernel_rfl) (by decide) (fun x => rfl)) (.inr (.inr (.inr ⟨_, Try.underlying23⟩))) (fun x => rfl) (hval 1 23 v1 rfl rfl) h1
  obtain ⟨a2, ok2, R2⟩ := Opens.agg (opE_A8 Try.underlying26 (opE_int Try.underlying24) (by kernel_rfl)) (.inr ⟨_, _, Try.underlying26⟩) (fun x => rfl) (hval 2 26 v2 rfl rfl) h2
  clear hA0 hval0 hsz0
  refine ((law a0 a1 a2 ok0 ok1 ok2).2 (fun _ _ => False) W #[v0, v1, v2] (fun _ _ h => h.elim) (fun _ _ h => by cases h) rfl (fun i d v hd hv => ?_)).mono fun e W' ⟨cv, he, hr, bel⟩ => ?_
  · exact (CRA_cons R0 (CRA_cons R1 (CRA_cons R2 (vs := []) (ds := []) (fun i d v hd => by simp at hd)))) i d v hd (by simpa using hv)
  · cases hr
    subst he
    have laid : laidOutB Try.prog = true := by kernel_rfl
    exact ⟨_, rfl, _, _, _, [], _, [], hW', trodAll_mk1 (shut_bool Try.underlying4 _), (trodAll_cons_mk (Below.trod laid (by kernel_rfl) (of_decide_eq_true (by kernel_rfl)) h0 bel (fun x hx => hlt x (by simp [hx]))) (trodAll_cons_mk (Below.trod laid (by kernel_rfl) (of_decide_eq_true (by kernel_rfl)) h1 bel (fun x hx => hlt x (by simp [hx]))) (trodAll_cons_mk (Below.trod laid (by kernel_rfl) (of_decide_eq_true (by kernel_rfl)) h2 bel (fun x hx => hlt x (by simp [hx]))) trodAll_mk0))), rfl, bel.frame _, fun h => by cases h⟩
theorem policyLaws_holds : Rows.PolicyLawsSaid :=
  OpenClaim.holds_of_wide 4 Try.f4 rfl rfl rfl rfl rfl rfl rfl ⟨rfl, rfl, rfl, rfl, rfl⟩ rfl rfl rfl rfl rfl (by kernel_rfl) Try.func4 (by kernel_rfl)
    (of_decide_eq_true (by kernel_rfl)) (by unfold Func.isWrapper; first | (rw [if_pos (by decide +kernel)]; kernel_rfl) | (rw [if_neg (by decide +kernel)]; exact ⟨rfl, rfl⟩))
    (fun os started H enc _ => lifted (fun a0 a1 a2 h0 h1 h2 => c_law07_PolicyLaws (law_PolicyLaws a0 a1 a2 h0 h1 h2)) os started H enc)
end Go.Proofs.Ytnnkfanmokeiaaa.PolicyLaws
