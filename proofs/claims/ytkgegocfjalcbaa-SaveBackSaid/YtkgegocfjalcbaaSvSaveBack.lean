import Derived.Test.YtkgegocfjalcbaaSvW3
import Derived.Test.YtkgegocfjalcbaaTV9
import Derived.Test.YtkgegocfjalcbaaAmGlue
import Derived.Test.YtkgegocfjalcbaaRows
import Derived.WalkKit
import Derived.ProofKit
import Derived.OpenShut
import Derived.ShutString
import Derived.ChangeOld
import Derived.Below
import Derived.Carry
import Derived.SizedLaws
/- The bytes of a list of deeds, or the error, are the document's, and are decoded as the list without what is not told: the Go function SaveBack answers true for every input. -/
namespace Go.Proofs.Ytkgegocfjalcbaa.SaveBack
open Go Go.ChangeShapes Go.WideShapes Go.ChangeAt Go.RowKit Go.AM
open Go.ChangeMaps (open_string shut_string)
set_option linter.unusedVariables false
set_option linter.unusedSimpArgs false

def Wf_api_Deed (x : api_Deed) : Prop := (IntKind.i64.wrap x.What = x.What) ∧ (IntKind.i64.wrap x.N = x.N) ∧ (True) ∧ ((IntKind.u16.wrap x.P.a0 = x.P.a0) ∧ (IntKind.u16.wrap x.P.a1 = x.P.a1) ∧ (IntKind.u16.wrap x.P.a2 = x.P.a2) ∧ (IntKind.u16.wrap x.P.a3 = x.P.a3) ∧ (IntKind.u16.wrap x.P.a4 = x.P.a4) ∧ (IntKind.u16.wrap x.P.a5 = x.P.a5) ∧ (IntKind.u16.wrap x.P.a6 = x.P.a6) ∧ (IntKind.u16.wrap x.P.a7 = x.P.a7) ∧ True) ∧ (x.Raw.size ≤ maxLen) ∧ True

theorem op38 : OpE Try.prog 38 eapi_Deed Wf_api_Deed :=
  opE_struct Try.underlying38 (OpensF.cons (opE_int Try.underlying3) (OpensF.cons (opE_int Try.underlying3) (OpensF.cons (opE_bool Try.underlying4) (OpensF.cons (opE_A8 Try.underlying36 (opE_int Try.underlying33) (by kernel_rfl)) (OpensF.cons (opE_str Try.underlying9) OpensF.nil))))) (by kernel_rfl) (fun x => api_Deed.mk x.1 x.2.1 x.2.2.1 x.2.2.2.1 x.2.2.2.2.1) (fun x => rfl) (fun x h => h)

theorem w16_of {n : Int} (h : IntKind.u16.wrap n = n) : w16 n := by rw [w_u16] at h; exact ⟨by omega, by omega⟩
theorem law_SaveBack (a0 : List api_Deed) (h : a0.length ≤ maxLen ∧ ∀ y ∈ a0, Wf_api_Deed y) : law32_SaveBack a0 = some true := by
  refine law_back fun d hd => ?_
  obtain ⟨_, _, _, hp, _⟩ := h.2 d hd
  obtain ⟨_, _, p2, p3, p4, p5, p6, p7, _⟩ := hp
  exact ⟨w16_of p2, w16_of p3, w16_of p4, w16_of p5, w16_of p6, w16_of p7⟩

theorem own : ownKnob Try.prog.godebug = none := by kernel_rfl

set_option maxRecDepth 100000 in
theorem lifted (law : ∀ (a0 : (List api_Deed)), (a0.length ≤ maxLen ∧ ∀ y ∈ a0, Wf_api_Deed y) → PCall Try.prog 5 [(eL (some 12) eapi_Deed) a0] (.bool true)) (os : Os) (started : os.Started) (H : Type) (enc : TypeId × Value → H) :
    ReturnsInHanded {} Try.checked os 5 .any (Rows.saveBackSpec.pre6 enc Try.prog Try.f5 Rows.saveBackRow.domain false) (Rows.saveBackSpec.post enc Try.prog Try.f5 false true false false) := by
  refine returnsInHanded_of_change_sized (C := Try.checked) own started (by kernel_rfl) Try.func5
    (ChangeSpec.witness6 (enc := enc) (C := Try.checked) false ⟨#[], #[.slice none 0 0], []⟩ 8 (by kernel_rfl) (by kernel_rfl) (by kernel_rfl) (by kernel_rfl)) ?_
  intro W base args ds gs before hval0 hW hcnd hsz0 _
  have hval : ∀ (j : Nat) t v, Try.f5.params[j]? = some t → args[j]? = some v → Value.okWide Try.prog W .any base t v := hval0
  have hW' := hW
  obtain ⟨p, q, hA0, hV, rfl, hfz, hnd⟩ := hW
  have hA : DataW.TrodAll enc Try.prog W 0 (fun _ => true) true Try.f5.params.toList args.toList ds p := hA0
  rw [Try.params5] at hA hval
  have hlt := hA.lt
  obtain ⟨rfl, rfl⟩ := trodVars_none hV
  obtain ⟨v0, vs0, d0, ds0, p0, q0, hargs0, rfl, rfl, h0, r0⟩ := trodAll_cons hA
  obtain ⟨hnil, rfl, rfl⟩ := trodAll_nil r0
  subst hnil
  obtain rfl : args = #[v0] := by cases args; simp_all
  obtain ⟨a0, ok0, R0⟩ := Opens.one (opE_slice (k := (some 12)) Try.underlying23 op38 (by kernel_rfl) (by decide) (fun x => rfl)) (.inr (.inr (.inr ⟨_, Try.underlying23⟩))) (fun x => rfl) (hval 0 23 v0 rfl rfl) h0
  clear hA0 hval0 hsz0
  refine ((law a0 ok0).2 (fun _ _ => False) W #[v0] (fun _ _ h => h.elim) rfl (fun i d v hd hv => ?_)).mono fun e W' ⟨cv, he, hr, bel⟩ => ?_
  · exact (CRA_cons R0 (vs := []) (ds := []) (fun i d v hd => by simp at hd)) i d v hd (by simpa using hv)
  · cases hr
    subst he
    have laid : laidOutB Try.prog = true := by kernel_rfl
    exact ⟨_, rfl, _, _, _, [], _, [], hW', trodAll_mk1 (shut_bool Try.underlying4 _), (trodAll_cons_mk (Below.trod laid (by kernel_rfl) (of_decide_eq_true (by kernel_rfl)) h0 bel (fun x hx => hlt x (by simp [hx]))) trodAll_mk0), rfl, bel.frame _, fun h => by cases h⟩

theorem saveBack_holds : Rows.SaveBackSaid :=
  OpenClaim.holds_of_wide 5 Try.f5 rfl rfl rfl rfl rfl rfl rfl ⟨rfl, rfl, rfl, rfl, rfl⟩ rfl rfl rfl rfl rfl (by kernel_rfl) Try.func5 (by kernel_rfl)
    (of_decide_eq_true (by kernel_rfl)) (by unfold Func.isWrapper; first | (rw [if_pos (by decide +kernel)]; kernel_rfl) | (rw [if_neg (by decide +kernel)]; exact ⟨rfl, rfl⟩))
    (fun os started H enc _ => lifted (fun a0 h0 => c_law32_SaveBack (law_SaveBack a0 h0)) os started H enc)

end Go.Proofs.Ytkgegocfjalcbaa.SaveBack
