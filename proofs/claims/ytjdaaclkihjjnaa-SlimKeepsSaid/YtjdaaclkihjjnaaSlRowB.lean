import Derived.Test.YtjdaaclkihjjnaaSlW2
import Derived.Test.YtjdaaclkihjjnaaTS3
import Derived.Test.YtjdaaclkihjjnaaAmGlue
import Derived.Test.YtjdaaclkihjjnaaRows
import Derived.WalkKit
import Derived.ProofKit
import Derived.OpenShut
import Derived.ShutString
import Derived.ChangeOld
import Derived.Below
import Derived.Carry
import Derived.SizedLaws
/- A list made slim makes of each packet what the list makes; it has no idle row, and made slim again it is the same: the Go function SlimKeeps answers true for every input. -/
namespace Go.Proofs.Ytjdaaclkihjjnaa.SlimKeeps
open Go Go.ChangeShapes Go.WideShapes Go.ChangeAt Go.RowKit Go.AM
open Go.ChangeMaps (open_string shut_string)
set_option linter.unusedVariables false
set_option linter.unusedSimpArgs false

def Wf_api_Pair (x : api_Pair) : Prop := (IntKind.i64.wrap x.F = x.F) ∧ (IntKind.u16.wrap x.N = x.N) ∧ True

theorem op101 : OpE Try.prog 101 eapi_Pair Wf_api_Pair :=
  opE_struct Try.underlying101 (OpensF.cons (opE_int Try.underlying3) (OpensF.cons (opE_int Try.underlying30) OpensF.nil)) (by kernel_rfl) (fun x => api_Pair.mk x.1 x.2.1) (fun x => rfl) (fun x h => h)

def Wf_api_Row (x : api_Row) : Prop := (x.Match.length ≤ maxLen ∧ ∀ y ∈ x.Match, Wf_api_Pair y) ∧ (x.Acts.length ≤ maxLen ∧ ∀ y ∈ x.Acts, y.length ≤ maxLen ∧ ∀ y1 ∈ y, Wf_api_Pair y1) ∧ True

theorem op76 : OpE Try.prog 76 eapi_Row Wf_api_Row :=
  opE_struct Try.underlying76 (OpensF.cons (opE_slice (k := (some 2)) Try.underlying73 op101 (by kernel_rfl) (by decide) (fun x => rfl)) (OpensF.cons (opE_slice (k := none) Try.underlying74 (opE_slice (k := (some 2)) Try.underlying102 op101 (by kernel_rfl) (by decide) (fun x => rfl)) (by kernel_rfl) (by decide) (fun x => rfl)) OpensF.nil)) (by kernel_rfl) (fun x => api_Row.mk x.1 x.2.1) (fun x => rfl) (fun x h => h)

theorem law_SlimKeeps (a0 : List api_Row) (a1 : List (A8 Int)) (h : a0.length ≤ maxLen ∧ ∀ y ∈ a0, Wf_api_Row y) (_ : a1.length ≤ maxLen ∧ ∀ y ∈ a1, (IntKind.u16.wrap y.a0 = y.a0) ∧ (IntKind.u16.wrap y.a1 = y.a1) ∧ (IntKind.u16.wrap y.a2 = y.a2) ∧ (IntKind.u16.wrap y.a3 = y.a3) ∧ (IntKind.u16.wrap y.a4 = y.a4) ∧ (IntKind.u16.wrap y.a5 = y.a5) ∧ (IntKind.u16.wrap y.a6 = y.a6) ∧ (IntKind.u16.wrap y.a7 = y.a7) ∧ True) : law26_SlimKeeps a0 a1 = some true :=
  law_keeps a0 a1 fun x hx => ⟨(h.2 x hx).1.1, fun a ha => ((h.2 x hx).2.1.2 a ha).1⟩

theorem own : ownKnob Try.prog.godebug = none := by kernel_rfl

set_option maxRecDepth 100000 in
theorem lifted (law : ∀ (a0 : (List api_Row)) (a1 : (List (A8 Int))), (a0.length ≤ maxLen ∧ ∀ y ∈ a0, Wf_api_Row y) → (a1.length ≤ maxLen ∧ ∀ y ∈ a1, (IntKind.u16.wrap y.a0 = y.a0) ∧ (IntKind.u16.wrap y.a1 = y.a1) ∧ (IntKind.u16.wrap y.a2 = y.a2) ∧ (IntKind.u16.wrap y.a3 = y.a3) ∧ (IntKind.u16.wrap y.a4 = y.a4) ∧ (IntKind.u16.wrap y.a5 = y.a5) ∧ (IntKind.u16.wrap y.a6 = y.a6) ∧ (IntKind.u16.wrap y.a7 = y.a7) ∧ True) → PCall Try.prog 10 [(eL (some 2) eapi_Row) a0, (eL (some 8) (eA8 (D.int .u16))) a1] (.bool true)) (os : Os) (started : os.Started) (H : Type) (enc : TypeId × Value → H) :
    ReturnsInHanded {} Try.checked os 10 .any (Rows.slimKeepsSpec.pre6 enc Try.prog Try.f10 Rows.slimKeepsRow.domain false) (Rows.slimKeepsSpec.post enc Try.prog Try.f10 false true false false) := by
  refine returnsInHanded_of_change_sized (C := Try.checked) own started (by kernel_rfl) Try.func10
    (ChangeSpec.witness6 (enc := enc) (C := Try.checked) false ⟨#[], #[.slice none 0 0, .slice none 0 0], []⟩ 8 (by kernel_rfl) (by kernel_rfl) (by kernel_rfl) (by kernel_rfl)) ?_
  intro W base args ds gs before hval0 hW hcnd hsz0 _
  have hval : ∀ (j : Nat) t v, Try.f10.params[j]? = some t → args[j]? = some v → Value.okWide Try.prog W .any base t v := hval0
  have hW' := hW
  obtain ⟨p, q, hA0, hV, rfl, hfz, hnd⟩ := hW
  have hA : DataW.TrodAll enc Try.prog W 0 (fun _ => true) true Try.f10.params.toList args.toList ds p := hA0
  rw [Try.params10] at hA hval
  have hlt := hA.lt
  obtain ⟨rfl, rfl⟩ := trodVars_none hV
  obtain ⟨v0, vs0, d0, ds0, p0, q0, hargs0, rfl, rfl, h0, r0⟩ := trodAll_cons hA
  obtain ⟨v1, vs1, d1, ds1, p1, q1, hargs1, rfl, rfl, h1, r1⟩ := trodAll_cons r0
  obtain ⟨hnil, rfl, rfl⟩ := trodAll_nil r1
  subst hnil
  subst hargs1
  obtain rfl : args = #[v0, v1] := by cases args; simp_all
  obtain ⟨a0, ok0, R0⟩ := Opens.one (opE_slice (k := (some 2)) Try.underlying70 op76 (by kernel_rfl) (by decide) (fun x => rfl)) (.inr (.inr (.inr ⟨_, Try.underlying70⟩))) (fun x => rfl) (hval 0 70 v0 rfl rfl) h0
  obtain ⟨a1, ok1, R1⟩ := Opens.one (opE_slice (k := (some 8)) Try.underlying80 (opE_A8 Try.underlying53 (opE_int Try.underlying30) (by kernel_rfl)) (by kernel_rfl) (by decide) (fun x => rfl)) (.inr (.inr (.inr ⟨_, Try.underlying80⟩))) (fun x => rfl) (hval 1 80 v1 rfl rfl) h1
  clear hA0 hval0 hsz0
  refine ((law a0 a1 ok0 ok1).2 (fun _ _ => False) W #[v0, v1] (fun _ _ h => h.elim) rfl (fun i d v hd hv => ?_)).mono fun e W' ⟨cv, he, hr, bel⟩ => ?_
  · exact (CRA_cons R0 (CRA_cons R1 (vs := []) (ds := []) (fun i d v hd => by simp at hd))) i d v hd (by simpa using hv)
  · cases hr
    subst he
    have laid : laidOutB Try.prog = true := by kernel_rfl
    exact ⟨_, rfl, _, _, _, [], _, [], hW', trodAll_mk1 (shut_bool Try.underlying4 _), (trodAll_cons_mk (Below.trod laid (by kernel_rfl) (of_decide_eq_true (by kernel_rfl)) h0 bel (fun x hx => hlt x (by simp [hx]))) (trodAll_cons_mk (Below.trod laid (by kernel_rfl) (of_decide_eq_true (by kernel_rfl)) h1 bel (fun x hx => hlt x (by simp [hx]))) trodAll_mk0)), rfl, bel.frame _, fun h => by cases h⟩

theorem slimKeeps_holds : Rows.SlimKeepsSaid :=
  OpenClaim.holds_of_wide 10 Try.f10 rfl rfl rfl rfl rfl rfl rfl ⟨rfl, rfl, rfl, rfl, rfl⟩ rfl rfl rfl rfl rfl (by kernel_rfl) Try.func10 (by kernel_rfl)
    (of_decide_eq_true (by kernel_rfl)) (by unfold Func.isWrapper; first | (rw [if_pos (by decide +kernel)]; kernel_rfl) | (rw [if_neg (by decide +kernel)]; exact ⟨rfl, rfl⟩))
    (fun os started H enc _ => lifted (fun a0 a1 h0 h1 => c_law26_SlimKeeps (law_SlimKeeps a0 a1 h0 h1)) os started H enc)

end Go.Proofs.Ytjdaaclkihjjnaa.SlimKeeps
