import Derived.Test.YtjdaaclkihjjnaaFrW2
import Derived.Test.YtjdaaclkihjjnaaTA7
import Derived.Test.YtjdaaclkihjjnaaAmGlue
import Derived.Test.YtjdaaclkihjjnaaRows
import Derived.WalkKit
import Derived.ProofKit
import Derived.OpenShut
import Derived.ShutString
import Derived.ChangeOld
import Derived.Below
import Derived.Carry
import Derived.SizedLaws
/- A frame encoded and decoded is that frame, its link and absent parts emptied, and both encodings are one string. No conditions. -/
namespace Go.Proofs.Ytjdaaclkihjjnaa.FrameBack
open Go Go.ChangeShapes Go.WideShapes Go.ChangeAt Go.RowKit Go.AM
open Go.ChangeMaps (open_string shut_string)
set_option linter.unusedVariables false
set_option linter.unusedSimpArgs false

def Wf_api_Frame (x : api_Frame) : Prop := ((IntKind.u16.wrap x.P.a0 = x.P.a0) ∧ (IntKind.u16.wrap x.P.a1 = x.P.a1) ∧ (IntKind.u16.wrap x.P.a2 = x.P.a2) ∧ (IntKind.u16.wrap x.P.a3 = x.P.a3) ∧ (IntKind.u16.wrap x.P.a4 = x.P.a4) ∧ (IntKind.u16.wrap x.P.a5 = x.P.a5) ∧ (IntKind.u16.wrap x.P.a6 = x.P.a6) ∧ (IntKind.u16.wrap x.P.a7 = x.P.a7) ∧ True) ∧ (True) ∧ (IntKind.u16.wrap x.Tag = x.Tag) ∧ (IntKind.u64.wrap x.Digest = x.Digest) ∧ True

theorem op57 : OpE Try.prog 57 eapi_Frame Wf_api_Frame :=
  opE_struct Try.underlying57 (OpensF.cons (opE_A8 Try.underlying53 (opE_int Try.underlying30) (by kernel_rfl)) (OpensF.cons (opE_bool Try.underlying4) (OpensF.cons (opE_int Try.underlying30) (OpensF.cons (opE_int Try.underlying55) OpensF.nil)))) (by kernel_rfl) (fun x => api_Frame.mk x.1 x.2.1 x.2.2.1 x.2.2.2.1) (fun x => rfl) (fun x h => h)

theorem law_FrameBack (a0 : api_Frame) (h : Wf_api_Frame a0) : law03_FrameBack a0 = some true := by
  obtain ⟨⟨_, _, h2, h3, h4, h5, h6, h7, _⟩, _, ht, hd, _⟩ := h
  exact law_back ⟨rg16 h2, rg16 h3, rg16 h4, rg16 h5, rg16 h6, rg16 h7, rg16 ht, rg64 hd⟩

theorem own : ownKnob Try.prog.godebug = none := by kernel_rfl

set_option maxRecDepth 100000 in
theorem lifted (law : ∀ (a0 : api_Frame), (Wf_api_Frame a0) → PCall Try.prog 8 [eapi_Frame a0] (.bool true)) (os : Os) (started : os.Started) (H : Type) (enc : TypeId × Value → H) :
    ReturnsInHanded {} Try.checked os 8 .any (Rows.frameBackSpec.pre6 enc Try.prog Try.f8 Rows.frameBackRow.domain false) (Rows.frameBackSpec.post enc Try.prog Try.f8 false true false false) := by
  refine returnsInHanded_of_change_sized (C := Try.checked) own started (by kernel_rfl) Try.func8
    (ChangeSpec.witness6 (enc := enc) (C := Try.checked) false ⟨#[], #[.agg #[.int .u16 0, .int .u16 0, .int .u16 0, .int .u16 0, .int .u16 0, .int .u16 0, .int .u16 0, .int .u16 0, .bool false, .int .u16 0, .int .u64 0]], []⟩ 8 (by kernel_rfl) (by kernel_rfl) (by kernel_rfl) (by kernel_rfl)) ?_
  intro W base args ds gs before hval0 hW hcnd hsz0 _
  have hval : ∀ (j : Nat) t v, Try.f8.params[j]? = some t → args[j]? = some v → Value.okWide Try.prog W .any base t v := hval0
  have hW' := hW
  obtain ⟨p, q, hA0, hV, rfl, hfz, hnd⟩ := hW
  have hA : DataW.TrodAll enc Try.prog W 0 (fun _ => true) true Try.f8.params.toList args.toList ds p := hA0
  rw [Try.params8] at hA hval
  have hlt := hA.lt
  obtain ⟨rfl, rfl⟩ := trodVars_none hV
  obtain ⟨v0, vs0, d0, ds0, p0, q0, hargs0, rfl, rfl, h0, r0⟩ := trodAll_cons hA
  obtain ⟨hnil, rfl, rfl⟩ := trodAll_nil r0
  subst hnil
  obtain rfl : args = #[v0] := by cases args; simp_all
  obtain ⟨a0, ok0, R0⟩ := Opens.agg op57 (.inl ⟨_, Try.underlying57⟩) (fun x => rfl) (hval 0 57 v0 rfl rfl) h0
  clear hA0 hval0 hsz0
  refine ((law a0 ok0).2 (fun _ _ => False) W #[v0] (fun _ _ h => h.elim) rfl (fun i d v hd hv => ?_)).mono fun e W' ⟨cv, he, hr, bel⟩ => ?_
  · exact (CRA_cons R0 (vs := []) (ds := []) (fun i d v hd => by simp at hd)) i d v hd (by simpa using hv)
  · cases hr
    subst he
    have laid : laidOutB Try.prog = true := by kernel_rfl
    exact ⟨_, rfl, _, _, _, [], _, [], hW', trodAll_mk1 (shut_bool Try.underlying4 _), (trodAll_cons_mk (Below.trod laid (by kernel_rfl) (of_decide_eq_true (by kernel_rfl)) h0 bel (fun x hx => hlt x (by simp [hx]))) trodAll_mk0), rfl, bel.frame _, fun h => by cases h⟩

theorem frameBack_holds : Rows.FrameBackSaid :=
  OpenClaim.holds_of_wide 8 Try.f8 rfl rfl rfl rfl rfl rfl rfl ⟨rfl, rfl, rfl, rfl, rfl⟩ rfl rfl rfl rfl rfl (by kernel_rfl) Try.func8 (by kernel_rfl)
    (of_decide_eq_true (by kernel_rfl)) (by unfold Func.isWrapper; first | (rw [if_pos (by decide +kernel)]; kernel_rfl) | (rw [if_neg (by decide +kernel)]; exact ⟨rfl, rfl⟩))
    (fun os started H enc _ => lifted (fun a0 h0 => c_law03_FrameBack (law_FrameBack a0 h0)) os started H enc)

end Go.Proofs.Ytjdaaclkihjjnaa.FrameBack
