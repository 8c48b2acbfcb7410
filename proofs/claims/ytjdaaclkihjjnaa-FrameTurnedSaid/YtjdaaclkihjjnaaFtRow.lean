import Derived.Test.YtjdaaclkihjjnaaFrW2
import Derived.Test.YtjdaaclkihjjnaaTA8
import Derived.Test.YtjdaaclkihjjnaaAmGlue
import Derived.Test.YtjdaaclkihjjnaaRows
import Derived.WalkKit
import Derived.ProofKit
import Derived.OpenShut
import Derived.ShutString
import Derived.ChangeOld
import Derived.Below
import Derived.Carry
import Derived.SizedLaws
/- A frame with a byte changed, cut short or lengthened is told to be bad. No conditions. -/
namespace Go.Proofs.Ytjdaaclkihjjnaa.FrameTurned
open Go Go.ChangeShapes Go.WideShapes Go.ChangeAt Go.RowKit Go.AM
open Go.ChangeMaps (open_string shut_string)
set_option linter.unusedVariables false
set_option linter.unusedSimpArgs false

def Wf_api_Frame (x : api_Frame) : Prop := ((IntKind.u16.wrap x.P.a0 = x.P.a0) ∧ (IntKind.u16.wrap x.P.a1 = x.P.a1) ∧ (IntKind.u16.wrap x.P.a2 = x.P.a2) ∧ (IntKind.u16.wrap x.P.a3 = x.P.a3) ∧ (IntKind.u16.wrap x.P.a4 = x.P.a4) ∧ (IntKind.u16.wrap x.P.a5 = x.P.a5) ∧ (IntKind.u16.wrap x.P.a6 = x.P.a6) ∧ (IntKind.u16.wrap x.P.a7 = x.P.a7) ∧ True) ∧ (True) ∧ (IntKind.u16.wrap x.Tag = x.Tag) ∧ (IntKind.u64.wrap x.Digest = x.Digest) ∧ True

theorem op57 : OpE Try.prog 57 eapi_Frame Wf_api_Frame :=
  opE_struct Try.underlying57 (OpensF.cons (opE_A8 Try.underlying53 (opE_int Try.underlying30) (by kernel_rfl)) (OpensF.cons (opE_bool Try.underlying4) (OpensF.cons (opE_int Try.underlying30) (OpensF.cons (opE_int Try.underlying55) OpensF.nil)))) (by kernel_rfl) (fun x => api_Frame.mk x.1 x.2.1 x.2.2.1 x.2.2.2.1) (fun x => rfl) (fun x h => h)

theorem law_FrameTurned (a0 : api_Frame) (a1 a2 : Int) (h : Wf_api_Frame a0) (k1 : IntKind.u8.wrap a1 = a1) (k2 : IntKind.u8.wrap a2 = a2) : law03_FrameTurned a0 a1 a2 = some true := by
  obtain ⟨⟨_, _, h2, h3, h4, h5, h6, h7, _⟩, _, ht, hd, _⟩ := h
  exact law_turned ⟨rg16 h2, rg16 h3, rg16 h4, rg16 h5, rg16 h6, rg16 h7, rg16 ht, rg64 hd⟩ (rg8 k1) (rg8 k2)

theorem own : ownKnob Try.prog.godebug = none := by kernel_rfl

set_option maxRecDepth 100000 in
theorem lifted (law : ∀ (a0 : api_Frame) (a1 : Int) (a2 : Int), (Wf_api_Frame a0) → (IntKind.u8.wrap a1 = a1) → (IntKind.u8.wrap a2 = a2) → PCall Try.prog 7 [eapi_Frame a0, (D.int .u8) a1, (D.int .u8) a2] (.bool true)) (os : Os) (started : os.Started) (H : Type) (enc : TypeId × Value → H) :
    ReturnsInHanded {} Try.checked os 7 .any (Rows.frameTurnedSpec.pre6 enc Try.prog Try.f7 Rows.frameTurnedRow.domain false) (Rows.frameTurnedSpec.post enc Try.prog Try.f7 false true false false) := by
  refine returnsInHanded_of_change_sized (C := Try.checked) own started (by kernel_rfl) Try.func7
    (ChangeSpec.witness6 (enc := enc) (C := Try.checked) false ⟨#[], #[.agg #[.int .u16 0, .int .u16 0, .int .u16 0, .int .u16 0, .int .u16 0, .int .u16 0, .int .u16 0, .int .u16 0, .bool false, .int .u16 0, .int .u64 0], .int .u8 0, .int .u8 0], []⟩ 8 (by kernel_rfl) (by kernel_rfl) (by kernel_rfl) (by kernel_rfl)) ?_
  intro W base args ds gs before hval0 hW hcnd hsz0 _
  have hval : ∀ (j : Nat) t v, Try.f7.params[j]? = some t → args[j]? = some v → Value.okWide Try.prog W .any base t v := hval0
  have hW' := hW
  obtain ⟨p, q, hA0, hV, rfl, hfz, hnd⟩ := hW
  have hA : DataW.TrodAll enc Try.prog W 0 (fun _ => true) true Try.f7.params.toList args.toList ds p := hA0
  rw [Try.params7] at hA hval
  have hlt := hA.lt
  obtain ⟨rfl, rfl⟩ := trodVars_none hV
  obtain ⟨v0, vs0, d0, ds0, p0, q0, hargs0, rfl, rfl, h0, r0⟩ := trodAll_cons hA
  obtain ⟨v1, vs1, d1, ds1, p1, q1, hargs1, rfl, rfl, h1, r1⟩ := trodAll_cons r0
  obtain ⟨v2, vs2, d2, ds2, p2, q2, hargs2, rfl, rfl, h2, r2⟩ := trodAll_cons r1
  obtain ⟨hnil, rfl, rfl⟩ := trodAll_nil r2
  subst hnil
  subst hargs2
  subst hargs1
  obtain rfl : args = #[v0, v1, v2] := by cases args; simp_all
  obtain ⟨a0, ok0, R0⟩ := Opens.agg op57 (.inl ⟨_, Try.underlying57⟩) (fun x => rfl) (hval 0 57 v0 rfl rfl) h0
  obtain ⟨a1, ok1, R1⟩ := Opens.one (opE_int Try.underlying5) (.inl ⟨_, Try.underlying5⟩) (fun x => rfl) (hval 1 5 v1 rfl rfl) h1
  obtain ⟨a2, ok2, R2⟩ := Opens.one (opE_int Try.underlying5) (.inl ⟨_, Try.underlying5⟩) (fun x => rfl) (hval 2 5 v2 rfl rfl) h2
  clear hA0 hval0 hsz0
  refine ((law a0 a1 a2 ok0 ok1 ok2).2 (fun _ _ => False) W #[v0, v1, v2] (fun _ _ h => h.elim) rfl (fun i d v hd hv => ?_)).mono fun e W' ⟨cv, he, hr, bel⟩ => ?_
  · exact (CRA_cons R0 (CRA_cons R1 (CRA_cons R2 (vs := []) (ds := []) (fun i d v hd => by simp at hd)))) i d v hd (by simpa using hv)
  · cases hr
    subst he
    have laid : laidOutB Try.prog = true := by kernel_rfl
    exact ⟨_, rfl, _, _, _, [], _, [], hW', trodAll_mk1 (shut_bool Try.underlying4 _), (trodAll_cons_mk (Below.trod laid (by kernel_rfl) (of_decide_eq_true (by kernel_rfl)) h0 bel (fun x hx => hlt x (by simp [hx]))) (trodAll_cons_mk (Below.trod laid (by kernel_rfl) (of_decide_eq_true (by kernel_rfl)) h1 bel (fun x hx => hlt x (by simp [hx]))) (trodAll_cons_mk (Below.trod laid (by kernel_rfl) (of_decide_eq_true (by kernel_rfl)) h2 bel (fun x hx => hlt x (by simp [hx]))) trodAll_mk0))), rfl, bel.frame _, fun h => by cases h⟩

theorem frameTurned_holds : Rows.FrameTurnedSaid :=
  OpenClaim.holds_of_wide 7 Try.f7 rfl rfl rfl rfl rfl rfl rfl ⟨rfl, rfl, rfl, rfl, rfl⟩ rfl rfl rfl rfl rfl (by kernel_rfl) Try.func7 (by kernel_rfl)
    (of_decide_eq_true (by kernel_rfl)) (by unfold Func.isWrapper; first | (rw [if_pos (by decide +kernel)]; kernel_rfl) | (rw [if_neg (by decide +kernel)]; exact ⟨rfl, rfl⟩))
    (fun os started H enc _ => lifted (fun a0 a1 a2 h0 h1 h2 => c_law03_FrameTurned (law_FrameTurned a0 a1 a2 h0 h1 h2)) os started H enc)

end Go.Proofs.Ytjdaaclkihjjnaa.FrameTurned
