import Derived.Test.YtjdaaclkihjjnaaSlW2
import Derived.Test.YtjdaaclkihjjnaaTS2
import Derived.Test.YtjdaaclkihjjnaaAmGlue
import Derived.Test.YtjdaaclkihjjnaaRows
import Derived.WalkKit
import Derived.ProofKit
import Derived.OpenShut
import Derived.ShutString
import Derived.ChangeOld
import Derived.Below
import Derived.Carry
import Derived.SizedLaws
/- Which rows are apart, which are idle, and a list made slim, is the document's: the Go function SlimTells answers true for every input. -/
namespace Go.Proofs.Ytjdaaclkihjjnaa.SlimTells
open Go Go.ChangeShapes Go.WideShapes Go.ChangeAt Go.RowKit Go.AM
open Go.ChangeMaps (open_string shut_string)
set_option linter.unusedVariables false
set_option linter.unusedSimpArgs false

def Wf_api_Pair (x : api_Pair) : Prop := (IntKind.i64.wrap x.F = x.F) ∧ (IntKind.u16.wrap x.N = x.N) ∧ True

theorem op101 : OpE Try.prog 101 eapi_Pair Wf_api_Pair :=
  opE_struct Try.underlying101 (OpensF.cons (opE_int Try.underlying3) (OpensF.cons (opE_int Try.underlying30) OpensF.nil)) (by kernel_rfl) (fun x => api_Pair.mk x.1 x.2.1) (fun x => rfl) (fun x h => h)

def Wf_api_Row (x : api_Row) : Prop := (x.Match.length ≤ maxLen ∧ ∀ y ∈ x.Match, Wf_api_Pair y) ∧ (x.Acts.length ≤ maxLen ∧ ∀ y ∈ x.Acts, y.length ≤ maxLen ∧ ∀ y1 ∈ y, Wf_api_Pair y1) ∧ True

theorem op76 : OpE Try.prog 76 eapi_Row Wf_api_Row :=
  opE_struct Try.underlying76 (OpensF.cons (opE_slice (k := (some 2)) Try.underlying73 op101 (by kernel_rfl) (by decide) (fun x => rfl)) (OpensF.cons (opE_slice (k := none) Try.underlying74 (opE_slice (k := (some 2)) Try.underlying102 op101 (by kernel_rfl) (by decide) (fun x => rfl)) (by kernel_rfl) (by decide) (fun x => rfl)) OpensF.nil)) (by kernel_rfl) (fun x => api_Row.mk x.1 x.2.1) (fun x => rfl) (fun x h => h)

theorem law_SlimTells (a0 : List api_Row) (h : a0.length ≤ maxLen ∧ ∀ y ∈ a0, Wf_api_Row y) : law26_SlimTells a0 = some true :=
  law_tells a0 fun x hx => ⟨(h.2 x hx).1.1, fun a ha => ((h.2 x hx).2.1.2 a ha).1⟩

theorem own : ownKnob Try.prog.godebug = none := by kernel_rfl

set_option maxRecDepth 100000 in
theorem lifted (law : ∀ (a0 : (List api_Row)), (a0.length ≤ maxLen ∧ ∀ y ∈ a0, Wf_api_Row y) → PCall Try.prog 9 [(eL (some 2) eapi_Row) a0] (.bool true)) (os : Os) (started : os.Started) (H : Type) (enc : TypeId × Value → H) :
    ReturnsInHanded {} Try.checked os 9 .any (Rows.slimTellsSpec.pre6 enc Try.prog Try.f9 Rows.slimTellsRow.domain false) (Rows.slimTellsSpec.post enc Try.prog Try.f9 false true false false) := by
  refine returnsInHanded_of_change_sized (C := Try.checked) own started (by kernel_rfl) Try.func9
    (ChangeSpec.witness6 (enc := enc) (C := Try.checked) false ⟨#[], #[.slice none 0 0], []⟩ 8 (by kernel_rfl) (by kernel_rfl) (by kernel_rfl) (by kernel_rfl)) ?_
  intro W base args ds gs before hval0 hW hcnd hsz0 _
  have hval : ∀ (j : Nat) t v, Try.f9.params[j]? = some t → args[j]? = some v → Value.okWide Try.prog W .any base t v := hval0
  have hW' := hW
  obtain ⟨p, q, hA0, hV, rfl, hfz, hnd⟩ := hW
  have hA : DataW.TrodAll enc Try.prog W 0 (fun _ => true) true Try.f9.params.toList args.toList ds p := hA0
  rw [Try.params9] at hA hval
  have hlt := hA.lt
  obtain ⟨rfl, rfl⟩ := trodVars_none hV
  obtain ⟨v0, vs0, d0, ds0, p0, q0, hargs0, rfl, rfl, h0, r0⟩ := trodAll_cons hA
  obtain ⟨hnil, rfl, rfl⟩ := trodAll_nil r0
  subst hnil
  obtain rfl : args = #[v0] := by cases args; simp_all
  obtain ⟨a0, ok0, R0⟩ := Opens.one (opE_slice (k := (some 2)) Try.underlying70 op76 (by kernel_rfl) (by decide) (fun x => rfl)) (.inr (.inr (.inr ⟨_, Try.underlying70⟩))) (fun x => rfl) (hval 0 70 v0 rfl rfl) h0
  clear hA0 hval0 hsz0
  refine ((law a0 ok0).2 (fun _ _ => False) W #[v0] (fun _ _ h => h.elim) rfl (fun i d v hd hv => ?_)).mono fun e W' ⟨cv, he, hr, bel⟩ => ?_
  · exact (CRA_cons R0 (vs := []) (ds := []) (fun i d v hd => by simp at hd)) i d v hd (by simpa using hv)
  · cases hr
    subst he
    have laid : laidOutB Try.prog = true := by kernel_rfl
    exact ⟨_, rfl, _, _, _, [], _, [], hW', trodAll_mk1 (shut_bool Try.underlying4 _), (trodAll_cons_mk (Below.trod laid (by kernel_rfl) (of_decide_eq_true (by kernel_rfl)) h0 bel (fun x hx => hlt x (by simp [hx]))) trodAll_mk0), rfl, bel.frame _, fun h => by cases h⟩

theorem slimTells_holds : Rows.SlimTellsSaid :=
  OpenClaim.holds_of_wide 9 Try.f9 rfl rfl rfl rfl rfl rfl rfl ⟨rfl, rfl, rfl, rfl, rfl⟩ rfl rfl rfl rfl rfl (by kernel_rfl) Try.func9 (by kernel_rfl)
    (of_decide_eq_true (by kernel_rfl)) (by unfold Func.isWrapper; first | (rw [if_pos (by decide +kernel)]; kernel_rfl) | (rw [if_neg (by decide +kernel)]; exact ⟨rfl, rfl⟩))
    (fun os started H enc _ => lifted (fun a0 h0 => c_law26_SlimTells (law_SlimTells a0 h0)) os started H enc)

end Go.Proofs.Ytjdaaclkihjjnaa.SlimTells
