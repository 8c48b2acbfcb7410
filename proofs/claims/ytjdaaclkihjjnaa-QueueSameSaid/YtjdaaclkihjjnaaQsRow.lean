import Derived.Test.YtjdaaclkihjjnaaQsW2
import Derived.Test.YtjdaaclkihjjnaaTQ7
import Derived.Test.YtjdaaclkihjjnaaAmGlue
import Derived.Test.YtjdaaclkihjjnaaRows
import Derived.WalkKit
import Derived.ProofKit
import Derived.OpenShut
import Derived.ShutString
import Derived.ChangeOld
import Derived.Below
import Derived.Carry
import Derived.SizedLaws
/- Queues that hold the same and lost as many are the same, however that came about; others are not: the Go function QueueSame answers true for every input. -/
namespace Go.Proofs.Ytjdaaclkihjjnaa.QueueSame
open Go Go.ChangeShapes Go.WideShapes Go.ChangeAt Go.RowKit Go.AM
open Go.ChangeMaps (open_string shut_string)
set_option linter.unusedVariables false
set_option linter.unusedSimpArgs false

def Wf_api_Item (x : api_Item) : Prop := (IntKind.u16.wrap x.Pt = x.Pt) ∧ (x.Raw.size ≤ maxLen) ∧ (IntKind.i64.wrap x.N = x.N) ∧ True

theorem op32 : OpE Try.prog 32 eapi_Item Wf_api_Item :=
  opE_struct Try.underlying32 (OpensF.cons (opE_int Try.underlying30) (OpensF.cons (opE_str Try.underlying9) (OpensF.cons (opE_int Try.underlying3) OpensF.nil))) (by kernel_rfl) (fun x => api_Item.mk x.1 x.2.1 x.2.2.1) (fun x => rfl) (fun x h => h)

def Wf_law16_Act (x : law16_Act) : Prop := (IntKind.i64.wrap x.What = x.What) ∧ (Wf_api_Item x.X) ∧ True

theorem op34 : OpE Try.prog 34 elaw16_Act Wf_law16_Act :=
  opE_struct Try.underlying34 (OpensF.cons (opE_int Try.underlying3) (OpensF.cons op32 OpensF.nil)) (by kernel_rfl) (fun x => law16_Act.mk x.1 x.2.1) (fun x => rfl) (fun x h => h)

theorem law_QueueSame (a0 : A2 Int) (a1 a2 : List law16_Act) (_ : (IntKind.i64.wrap a0.a0 = a0.a0) ∧ (IntKind.i64.wrap a0.a1 = a0.a1) ∧ True) (_ : a1.length ≤ maxLen ∧ ∀ y ∈ a1, Wf_law16_Act y) (_ : a2.length ≤ maxLen ∧ ∀ y ∈ a2, Wf_law16_Act y) : law16_QueueSame a0 a1 a2 = some true := law_same a0 a1 a2

theorem own : ownKnob Try.prog.godebug = none := by kernel_rfl

set_option maxRecDepth 100000 in
theorem lifted (law : ∀ (a0 : (A2 Int)) (a1 : (List law16_Act)) (a2 : (List law16_Act)), ((IntKind.i64.wrap a0.a0 = a0.a0) ∧ (IntKind.i64.wrap a0.a1 = a0.a1) ∧ True) → (a1.length ≤ maxLen ∧ ∀ y ∈ a1, Wf_law16_Act y) → (a2.length ≤ maxLen ∧ ∀ y ∈ a2, Wf_law16_Act y) → PCall Try.prog 5 [(eA2 (D.int .i64)) a0, (eL (some 4) elaw16_Act) a1, (eL (some 4) elaw16_Act) a2] (.bool true)) (os : Os) (started : os.Started) (H : Type) (enc : TypeId × Value → H) :
    ReturnsInHanded {} Try.checked os 5 .any (Rows.queueSameSpec.pre6 enc Try.prog Try.f5 Rows.queueSameRow.domain false) (Rows.queueSameSpec.post enc Try.prog Try.f5 false true false false) := by
  refine returnsInHanded_of_change_sized (C := Try.checked) own started (by kernel_rfl) Try.func5
    (ChangeSpec.witness6 (enc := enc) (C := Try.checked) false ⟨#[], #[.agg #[.int .i64 0, .int .i64 0], .slice none 0 0, .slice none 0 0], []⟩ 8 (by kernel_rfl) (by kernel_rfl) (by kernel_rfl) (by kernel_rfl)) ?_
  intro W base args ds gs before hval0 hW hcnd hsz0 _
  have hval : ∀ (j : Nat) t v, Try.f5.params[j]? = some t → args[j]? = some v → Value.okWide Try.prog W .any base t v := hval0
  have hW' := hW
  obtain ⟨p, q, hA0, hV, rfl, hfz, hnd⟩ := hW
  have hA : DataW.TrodAll enc Try.prog W 0 (fun _ => true) true Try.f5.params.toList args.toList ds p := hA0
  rw [Try.params5] at hA hval
  have hlt := hA.lt
  obtain ⟨rfl, rfl⟩ := trodVars_none hV
  obtain ⟨v0, vs0, d0, ds0, p0, q0, hargs0, rfl, rfl, h0, r0⟩ := trodAll_cons hA
  obtain ⟨v1, vs1, d1, ds1, p1, q1, hargs1, rfl, rfl, h1, r1⟩ := trodAll_cons r0
  obtain ⟨v2, vs2, d2, ds2, p2, q2, hargs2, rfl, rfl, h2, r2⟩ := trodAll_cons r1
  obtain ⟨hnil, rfl, rfl⟩ := trodAll_nil r2
  subst hnil
  subst hargs2
  subst hargs1
  obtain rfl : args = #[v0, v1, v2] := by cases args; simp_all
  obtain ⟨a0, ok0, R0⟩ := Opens.agg (opE_A2 Try.underlying46 (opE_int Try.underlying3) (by kernel_rfl)) (.inr ⟨_, _, Try.underlying46⟩) (fun x => rfl) (hval 0 46 v0 rfl rfl) h0
  obtain ⟨a1, ok1, R1⟩ := Opens.one (opE_slice (k := (some 4)) Try.underlying22 op34 (by kernel_rfl) (by decide) (fun x => rfl)) (.inr (.inr (.inr ⟨_, Try.underlying22⟩))) (fun x => rfl) (hval 1 22 v1 rfl rfl) h1
  obtain ⟨a2, ok2, R2⟩ := Opens.one (opE_slice (k := (some 4)) Try.underlying22 op34 (by kernel_rfl) (by decide) (fun x => rfl)) (.inr (.inr (.inr ⟨_, Try.underlying22⟩))) (fun x => rfl) (hval 2 22 v2 rfl rfl) h2
  clear hA0 hval0 hsz0
  refine ((law a0 a1 a2 ok0 ok1 ok2).2 (fun _ _ => False) W #[v0, v1, v2] (fun _ _ h => h.elim) rfl (fun i d v hd hv => ?_)).mono fun e W' ⟨cv, he, hr, bel⟩ => ?_
  · exact (CRA_cons R0 (CRA_cons R1 (CRA_cons R2 (vs := []) (ds := []) (fun i d v hd => by simp at hd)))) i d v hd (by simpa using hv)
  · cases hr
    subst he
    have laid : laidOutB Try.prog = true := by kernel_rfl
    exact ⟨_, rfl, _, _, _, [], _, [], hW', trodAll_mk1 (shut_bool Try.underlying4 _), (trodAll_cons_mk (Below.trod laid (by kernel_rfl) (of_decide_eq_true (by kernel_rfl)) h0 bel (fun x hx => hlt x (by simp [hx]))) (trodAll_cons_mk (Below.trod laid (by kernel_rfl) (of_decide_eq_true (by kernel_rfl)) h1 bel (fun x hx => hlt x (by simp [hx]))) (trodAll_cons_mk (Below.trod laid (by kernel_rfl) (of_decide_eq_true (by kernel_rfl)) h2 bel (fun x hx => hlt x (by simp [hx]))) trodAll_mk0))), rfl, bel.frame _, fun h => by cases h⟩

theorem queueSame_holds : Rows.QueueSameSaid :=
  OpenClaim.holds_of_wide 5 Try.f5 rfl rfl rfl rfl rfl rfl rfl ⟨rfl, rfl, rfl, rfl, rfl⟩ rfl rfl rfl rfl rfl (by kernel_rfl) Try.func5 (by kernel_rfl)
    (of_decide_eq_true (by kernel_rfl)) (by unfold Func.isWrapper; first | (rw [if_pos (by decide +kernel)]; kernel_rfl) | (rw [if_neg (by decide +kernel)]; exact ⟨rfl, rfl⟩))
    (fun os started H enc _ => lifted (fun a0 a1 a2 h0 h1 h2 => c_law16_QueueSame (law_QueueSame a0 a1 a2 h0 h1 h2)) os started H enc)

end Go.Proofs.Ytjdaaclkihjjnaa.QueueSame
