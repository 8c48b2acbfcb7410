import Derived.Test.YtjdaaclkihjjnaaQqW2
import Derived.Test.YtjdaaclkihjjnaaTQ5
import Derived.Test.YtjdaaclkihjjnaaAmGlue
import Derived.Test.YtjdaaclkihjjnaaRows
import Derived.WalkKit
import Derived.ProofKit
import Derived.OpenShut
import Derived.ShutString
import Derived.ChangeOld
import Derived.Below
import Derived.Carry
import Derived.SizedLaws
/- What leaves a queue is what entered it, in its order. No conditions. -/
namespace Go.Proofs.Ytjdaaclkihjjnaa.QueueOrder
open Go Go.ChangeShapes Go.WideShapes Go.ChangeAt Go.RowKit Go.AM
open Go.ChangeMaps (open_string shut_string)
set_option linter.unusedVariables false
set_option linter.unusedSimpArgs false

def Wf_api_Item (x : api_Item) : Prop := (IntKind.u16.wrap x.Pt = x.Pt) ∧ (x.Raw.size ≤ maxLen) ∧ (IntKind.i64.wrap x.N = x.N) ∧ True

theorem op32 : OpE Try.prog 32 eapi_Item Wf_api_Item :=
  opE_struct Try.underlying32 (OpensF.cons (opE_int Try.underlying30) (OpensF.cons (opE_str Try.underlying9) (OpensF.cons (opE_int Try.underlying3) OpensF.nil))) (by kernel_rfl) (fun x => api_Item.mk x.1 x.2.1 x.2.2.1) (fun x => rfl) (fun x h => h)

def Wf_law16_Act (x : law16_Act) : Prop := (IntKind.i64.wrap x.What = x.What) ∧ (Wf_api_Item x.X) ∧ True

theorem op34 : OpE Try.prog 34 elaw16_Act Wf_law16_Act :=
  opE_struct Try.underlying34 (OpensF.cons (opE_int Try.underlying3) (OpensF.cons op32 OpensF.nil)) (by kernel_rfl) (fun x => law16_Act.mk x.1 x.2.1) (fun x => rfl) (fun x h => h)

theorem law_QueueOrder (a0 : Int) (a1 : List law16_Act) (_ : IntKind.i64.wrap a0 = a0) (_ : a1.length ≤ maxLen ∧ ∀ y ∈ a1, Wf_law16_Act y) : law16_QueueOrder a0 a1 = some true := law_order a0 a1

theorem own : ownKnob Try.prog.godebug = none := by kernel_rfl

set_option maxRecDepth 100000 in
theorem lifted (law : ∀ (a0 : Int) (a1 : (List law16_Act)), (IntKind.i64.wrap a0 = a0) → (a1.length ≤ maxLen ∧ ∀ y ∈ a1, Wf_law16_Act y) → PCall Try.prog 4 [(D.int .i64) a0, (eL (some 4) elaw16_Act) a1] (.bool true)) (os : Os) (started : os.Started) (H : Type) (enc : TypeId × Value → H) :
    ReturnsInHanded {} Try.checked os 4 .any (Rows.queueOrderSpec.pre6 enc Try.prog Try.f4 Rows.queueOrderRow.domain false) (Rows.queueOrderSpec.post enc Try.prog Try.f4 false true false false) := by
  refine returnsInHanded_of_change_sized (C := Try.checked) own started (by kernel_rfl) Try.func4
    (ChangeSpec.witness6 (enc := enc) (C := Try.checked) false ⟨#[], #[.int .i64 0, .slice none 0 0], []⟩ 8 (by kernel_rfl) (by kernel_rfl) (by kernel_rfl) (by kernel_rfl)) ?_
  intro W base args ds gs before hval0 hW hcnd hsz0 _
  have hval : ∀ (j : Nat) t v, Try.f4.params[j]? = some t → args[j]? = some v → Value.okWide Try.prog W .any base t v := hval0
  have hW' := hW
  obtain ⟨p, q, hA0, hV, rfl, hfz, hnd⟩ := hW
  have hA : DataW.TrodAll enc Try.prog W 0 (fun _ => true) true Try.f4.params.toList args.toList ds p := hA0
  rw [Try.params4] at hA hval
  have hlt := hA.lt
  obtain ⟨rfl, rfl⟩ := trodVars_none hV
  obtain ⟨v0, vs0, d0, ds0, p0, q0, hargs0, rfl, rfl, h0, r0⟩ := trodAll_cons hA
  obtain ⟨v1, vs1, d1, ds1, p1, q1, hargs1, rfl, rfl, h1, r1⟩ := trodAll_cons r0
  obtain ⟨hnil, rfl, rfl⟩ := trodAll_nil r1
  subst hnil
  subst hargs1
  obtain rfl : args = #[v0, v1] := by cases args; simp_all
  obtain ⟨a0, ok0, R0⟩ := Opens.one (opE_int Try.underlying3) (.inl ⟨_, Try.underlying3⟩) (fun x => rfl) (hval 0 3 v0 rfl rfl) h0
  obtain ⟨a1, ok1, R1⟩ := Opens.one (opE_slice (k := (some 4)) Try.underlying22 op34 (by kernel_rfl) (by decide) (fun x => rfl)) (.inr (.inr (.inr ⟨_, Try.underlying22⟩))) (fun x => rfl) (hval 1 22 v1 rfl rfl) h1
  clear hA0 hval0 hsz0
  refine ((law a0 a1 ok0 ok1).2 (fun _ _ => False) W #[v0, v1] (fun _ _ h => h.elim) rfl (fun i d v hd hv => ?_)).mono fun e W' ⟨cv, he, hr, bel⟩ => ?_
  · exact (CRA_cons R0 (CRA_cons R1 (vs := []) (ds := []) (fun i d v hd => by simp at hd))) i d v hd (by simpa using hv)
  · cases hr
    subst he
    have laid : laidOutB Try.prog = true := by kernel_rfl
    exact ⟨_, rfl, _, _, _, [], _, [], hW', trodAll_mk1 (shut_bool Try.underlying4 _), (trodAll_cons_mk (Below.trod laid (by kernel_rfl) (of_decide_eq_true (by kernel_rfl)) h0 bel (fun x hx => hlt x (by simp [hx]))) (trodAll_cons_mk (Below.trod laid (by kernel_rfl) (of_decide_eq_true (by kernel_rfl)) h1 bel (fun x hx => hlt x (by simp [hx]))) trodAll_mk0)), rfl, bel.frame _, fun h => by cases h⟩

theorem queueOrder_holds : Rows.QueueOrderSaid :=
  OpenClaim.holds_of_wide 4 Try.f4 rfl rfl rfl rfl rfl rfl rfl ⟨rfl, rfl, rfl, rfl, rfl⟩ rfl rfl rfl rfl rfl (by kernel_rfl) Try.func4 (by kernel_rfl)
    (of_decide_eq_true (by kernel_rfl)) (by unfold Func.isWrapper; first | (rw [if_pos (by decide +kernel)]; kernel_rfl) | (rw [if_neg (by decide +kernel)]; exact ⟨rfl, rfl⟩))
    (fun os started H enc _ => lifted (fun a0 a1 h0 h1 => c_law16_QueueOrder (law_QueueOrder a0 a1 h0 h1)) os started H enc)

end Go.Proofs.Ytjdaaclkihjjnaa.QueueOrder
