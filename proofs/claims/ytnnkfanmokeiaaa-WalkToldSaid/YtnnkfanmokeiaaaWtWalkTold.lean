import Derived.Test.YtnnkfanmokeiaaaWM11
import Derived.Test.YtnnkfanmokeiaaaWtW3
import Derived.Test.YtnnkfanmokeiaaaAmGlue
import Derived.Test.YtnnkfanmokeiaaaRows
import Derived.WalkKit
import Derived.ProofKit
import Derived.OpenShut
import Derived.ShutString
import Derived.ChangeOld
import Derived.Below
import Derived.Carry
import Derived.SizedLaws
/- All that is told are walks from the arrival that are over or cut, each once, in order. -/
namespace Go.Proofs.Ytnnkfanmokeiaaa.WalkTold
open Go Go.ChangeShapes Go.WideShapes Go.ChangeAt Go.RowKit Go.AM
open Go.ChangeMaps (open_string shut_string)
set_option linter.unusedVariables false
set_option linter.unusedSimpArgs false
def Wf_api_Port (x : api_Port) : Prop := (IntKind.u16.wrap x.Sw = x.Sw) ∧ (IntKind.u16.wrap x.Pt = x.Pt) ∧ True
theorem op65 : OpE Try.prog 65 eapi_Port Wf_api_Port :=
  opE_struct Try.underlying65 (OpensF.cons (opE_int Try.underlying24) (OpensF.cons (opE_int Try.underlying24) OpensF.nil)) (by kernel_rfl) (fun x => api_Port.mk x.1 x.2.1) (fun x => rfl) (fun x h => h)
def Wf_api_Topo (x : api_Topo) : Prop := (x.Switches.length ≤ maxLen ∧ ∀ y ∈ x.Switches, IntKind.u16.wrap y = y) ∧ (x.Links.length ≤ maxLen ∧ ∀ y ∈ x.Links, (Wf_api_Port y.a0) ∧ (Wf_api_Port y.a1) ∧ True) ∧ (x.Hosts.length ≤ maxLen ∧ ∀ y ∈ x.Hosts, Wf_api_Port y) ∧ True
theorem op59 : OpE Try.prog 59 eapi_Topo Wf_api_Topo :=
  opE_struct Try.underlying59 (OpensF.cons (opE_slice (k := none) Try.underlying23 (opE_int Try.underlying24) (by kernel_rfl) (by decide) (fun x => rfl)) (OpensF.cons (opE_slice (k := (some 4)) Try.underlying56 (opE_A2 Try.underlying126 op65 (by kernel_rfl)) (by kernel_rfl) (by decide) (fun x => rfl)) (OpensF.cons (opE_slice (k := (some 2)) Try.underlying57 op65 (by kernel_rfl) (by decide) (fun x => rfl)) OpensF.nil))) (by kernel_rfl) (fun x => api_Topo.mk x.1 x.2.1 x.2.2.1) (fun x => rfl) (fun x h => h)
def Wf_law05_Step (x : law05_Step) : Prop := (IntKind.i64.wrap x.What = x.What) ∧ (IntKind.i64.wrap x.F = x.F) ∧ (IntKind.u16.wrap x.N = x.N) ∧ (IntKind.u8.wrap x.K = x.K) ∧ True
theorem op98 : OpE Try.prog 98 elaw05_Step Wf_law05_Step :=
  opE_struct Try.underlying98 (OpensF.cons (opE_int Try.underlying3) (OpensF.cons (opE_int Try.underlying3) (OpensF.cons (opE_int Try.underlying24) (OpensF.cons (opE_int Try.underlying5) OpensF.nil)))) (by kernel_rfl) (fun x => law05_Step.mk x.1 x.2.1 x.2.2.1 x.2.2.2.1) (fun x => rfl) (fun x h => h)
def Wf_law14_Net (x : law14_Net) : Prop := (Wf_api_Topo x.T) ∧ (x.L.length ≤ maxLen ∧ ∀ y ∈ x.L, Wf_law05_Step y) ∧ (x.State.length ≤ maxLen ∧ ∀ y ∈ x.State, IntKind.u16.wrap y = y) ∧ True
theorem op86 : OpE Try.prog 86 elaw14_Net Wf_law14_Net :=
  opE_struct Try.underlying86 (OpensF.cons op59 (OpensF.cons (opE_slice (k := (some 4)) Try.underlying22 op98 (by kernel_rfl) (by decide) (fun x => rfl)) (OpensF.cons (opE_slice (k := none) Try.underlying23 (opE_int Try.underlying24) (by kernel_rfl) (by decide) (fun x => rfl)) OpensF.nil))) (by kernel_rfl) (fun x => law14_Net.mk x.1 x.2.1 x.2.2.1) (fun x => rfl) (fun x h => h)
theorem steps {l : List law05_Step} (h : l.length ≤ maxLen ∧ ∀ y ∈ l, Wf_law05_Step y) : StepOk l := fun x hx => by
  have h4 := (h.2 x hx).2.2.2.1
  rw [w_u8] at h4
  omega
theorem law_WalkTold (a0 : law14_Net) (a1 : A8 Int) (h : Wf_law14_Net a0) {Q : Prop} (_ : Q) : law14_WalkTold a0 a1 = some true := AM.law_WalkTold a0 (steps h.2.1) a1
theorem own : ownKnob Try.prog.godebug = none := by kernel_rfl
set_option maxRecDepth 100000 in
theorem lifted (law : ∀ (a0 : law14_Net) (a1 : (A8 Int)), (Wf_law14_Net a0) → ((IntKind.u16.wrap a1.a0 = a1.a0) ∧ (IntKind.u16.wrap a1.a1 = a1.a1) ∧ (IntKind.u16.wrap a1.a2 = a1.a2) ∧ (IntKind.u16.wrap a1.a3 = a1.a3) ∧ (IntKind.u16.wrap a1.a4 = a1.a4) ∧ (IntKind.u16.wrap a1.a5 = a1.a5) ∧ (IntKind.u16.wrap a1.a6 = a1.a6) ∧ (IntKind.u16.wrap a1.a7 = a1.a7) ∧ True) → PCall Try.prog 10 [elaw14_Net a0, (eA8 (D.int .u16)) a1] (.bool true)) (os : Os) (started : os.Started) (H : Type) (enc : TypeId × Value → H) :
    ReturnsInHanded {} Try.checked os 10 .any (Rows.walkToldSpec.pre6 enc Try.prog Try.f10 Rows.walkToldRow.domain false) (Rows.walkToldSpec.post enc Try.prog Try.f10 false true false false) := by
  refine returnsInHanded_of_change_sized (C := Try.checked) own started (by kernel_rfl) Try.func10
    (ChangeSpec.witness6 (enc := enc) (C := Try.checked) false ⟨#[], #[.agg #[.slice none 0 0, .slice none 0 0, .slice none 0 0, .slice none 0 0, .slice none 0 0], .agg #[.int .u16 0, .int .u16 0, .int .u16 0, .int .u16 0, .int .u16 0, .int .u16 0, .int .u16 0, .int .u16 0]], []⟩ 8 (by kernel_rfl) (by kernel_rfl) (by kernel_rfl) (by kernel_rfl)) ?_
  intro W base args ds gs before hval0 hW hcnd hsz0 _
  have hval : ∀ (j : Nat) t v, Try.f10.params[j]? = some t → args[j]? = some v → Value.okWide Try.prog W .any base t v := hval0
  have hW' := hW
  obtain ⟨p, q, hA0, hV, rfl, hfz, hnd⟩ := hW
  have hA : DataW.TrodAll enc Try.prog W 0 (fun _ => true) true Try.f10.params.toList args.toList ds p := hA0
  rw [Try.params10] at hA hval
  have hlt := hA.lt
  obtain ⟨rfl, rfl⟩ := trodVars_none hV
  obtain ⟨v0, vs0, d0, ds0, p0, q0, hargs0, rfl, rfl, h0, r0⟩ := trodAll_cons hA
  obtain ⟨v1, vs1, d1, ds1, p1, q1, hargs1, rfl, rfl, h1, r1⟩ := trodAll_cons r0
  obtain ⟨hnil, rfl, rfl⟩ := trodAll_nil r1
  subst hnil
  subst hargs1
  obtain rfl : args = #[v0, v1] := by cases args; simp_all
  obtain ⟨a0, ok0, R0⟩ := Opens.agg op86 (.inl ⟨_, Try.underlying86⟩) (fun x => rfl) (hval 0 86 v0 rfl rfl) h0
  obtain ⟨a1, ok1, R1⟩ := Opens.agg (opE_A8 Try.underlying26 (opE_int Try.underlying24) (by kernel_rfl)) (.inr ⟨_, _, Try.underlying26⟩) (fun x => rfl) (hval 1 26 v1 rfl rfl) h1
  clear hA0 hval0 hsz0
  refine ((law a0 a1 ok0 ok1).2 (fun _ _ => False) W #[v0, v1] (fun _ _ h => h.elim) (fun _ _ h => by cases h) rfl (fun i d v hd hv => ?_)).mono fun e W' ⟨cv, he, hr, bel⟩ => ?_
  · exact (CRA_cons R0 (CRA_cons R1 (vs := []) (ds := []) (fun i d v hd => by simp at hd))) i d v hd (by simpa using hv)
  · cases hr
    subst he
    have laid : laidOutB Try.prog = true := by kernel_rfl
    exact ⟨_, rfl, _, _, _, [], _, [], hW', trodAll_mk1 (shut_bool Try.underlying4 _), (trodAll_cons_mk (Below.trod laid (by kernel_rfl) (of_decide_eq_true (by kernel_rfl)) h0 bel (fun x hx => hlt x (by simp [hx]))) (trodAll_cons_mk (Below.trod laid (by kernel_rfl) (of_decide_eq_true (by kernel_rfl)) h1 bel (fun x hx => hlt x (by simp [hx]))) trodAll_mk0)), rfl, bel.frame _, fun h => by cases h⟩
theorem walkTold_holds : Rows.WalkToldSaid :=
  OpenClaim.holds_of_wide 10 Try.f10 rfl rfl rfl rfl rfl rfl rfl ⟨rfl, rfl, rfl, rfl, rfl⟩ rfl rfl rfl rfl rfl (by kernel_rfl) Try.func10 (by kernel_rfl)
    (of_decide_eq_true (by kernel_rfl)) (by unfold Func.isWrapper; first | (rw [if_pos (by decide +kernel)]; kernel_rfl) | (rw [if_neg (by decide +kernel)]; exact ⟨rfl, rfl⟩))
    (fun os started H enc _ => lifted (fun a0 a1 h0 h1 => c_law14_WalkTold (law_WalkTold a0 a1 h0 h1)) os started H enc)
end Go.Proofs.Ytnnkfanmokeiaaa.WalkTold
