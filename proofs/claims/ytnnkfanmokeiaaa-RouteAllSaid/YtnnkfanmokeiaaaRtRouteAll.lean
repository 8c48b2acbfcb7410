import Derived.Test.YtnnkfanmokeiaaaRB8
import Derived.Test.YtnnkfanmokeiaaaRtW3
import Derived.Test.YtnnkfanmokeiaaaAmGlue
import Derived.Test.YtnnkfanmokeiaaaRows
import Derived.WalkKit
import Derived.ProofKit
import Derived.OpenShut
import Derived.ShutString
import Derived.ChangeOld
import Derived.Below
import Derived.Carry
import Derived.SizedLaws
/- With a wish for each two hosts each host comes to each other one. -/
namespace Go.Proofs.Ytnnkfanmokeiaaa.RouteAll
open Go Go.ChangeShapes Go.WideShapes Go.ChangeAt Go.RowKit Go.AM
open Go.ChangeMaps (open_string shut_string)
set_option linter.unusedVariables false
set_option linter.unusedSimpArgs false
def Wf_api_Port (x : api_Port) : Prop := (IntKind.u16.wrap x.Sw = x.Sw) ∧ (IntKind.u16.wrap x.Pt = x.Pt) ∧ True
theorem op65 : OpE Try.prog 65 eapi_Port Wf_api_Port :=
  opE_struct Try.underlying65 (OpensF.cons (opE_int Try.underlying24) (OpensF.cons (opE_int Try.underlying24) OpensF.nil)) (by kernel_rfl) (fun x => api_Port.mk x.1 x.2.1) (fun x => rfl) (fun x h => h)
def Wf_api_Topo (x : api_Topo) : Prop := (x.Switches.length ≤ maxLen ∧ ∀ y ∈ x.Switches, IntKind.u16.wrap y = y) ∧ (x.Links.length ≤ maxLen ∧ ∀ y ∈ x.Links, (Wf_api_Port y.a0) ∧ (Wf_api_Port y.a1) ∧ True) ∧ (x.Hosts.length ≤ maxLen ∧ ∀ y ∈ x.Hosts, Wf_api_Port y) ∧ True
theorem op59 : OpE Try.prog 59 eapi_Topo Wf_api_Topo :=
  opE_struct Try.underlying59 (OpensF.cons (opE_slice (k := none) Try.underlying23 (opE_int Try.underlying24) (by kernel_rfl) (by decide) (fun x => rfl)) (OpensF.cons (opE_slice (k := (some 4)) Try.underlying56 (opE_A2 Try.underlying126 op65 (by kernel_rfl)) (by kernel_rfl) (by decide) (fun x => rfl)) (OpensF.cons (opE_slice (k := (some 2)) Try.underlying57 op65 (by kernel_rfl) (by decide) (fun x => rfl)) OpensF.nil))) (by kernel_rfl) (fun x => api_Topo.mk x.1 x.2.1 x.2.2.1) (fun x => rfl) (fun x h => h)
theorem u8_rng {n : Int} (h : IntKind.u8.wrap n = n) : 0 ≤ n ∧ n ≤ 10000000 := by rw [w_u8] at h; omega
theorem law_RouteAll (a0 : api_Topo) (a1 : A2 Int) {P : Prop} (_ : P) (h : (IntKind.u8.wrap a1.a0 = a1.a0) ∧ (IntKind.u8.wrap a1.a1 = a1.a1) ∧ True) : law30_RouteAll a0 a1 = some true := AM.law_RouteAll a0 a1 (u8_rng h.1)
theorem own : ownKnob Try.prog.godebug = none := by kernel_rfl
set_option maxRecDepth 100000 in
theorem lifted (law : ∀ (a0 : api_Topo) (a1 : (A2 Int)), (Wf_api_Topo a0) → ((IntKind.u8.wrap a1.a0 = a1.a0) ∧ (IntKind.u8.wrap a1.a1 = a1.a1) ∧ True) → PCall Try.prog 9 [eapi_Topo a0, (eA2 (D.int .u8)) a1] (.bool true)) (os : Os) (started : os.Started) (H : Type) (enc : TypeId × Value → H) :
    ReturnsInHanded {} Try.checked os 9 .any (Rows.routeAllSpec.pre6 enc Try.prog Try.f9 Rows.routeAllRow.domain false) (Rows.routeAllSpec.post enc Try.prog Try.f9 false true false false) := by
  refine returnsInHanded_of_change_sized (C := Try.checked) own started (by kernel_rfl) Try.func9
    (ChangeSpec.witness6 (enc := enc) (C := Try.checked) false ⟨#[], #[.agg #[.slice none 0 0, .slice none 0 0, .slice none 0 0], .agg #[.int .u8 0, .int .u8 0]], []⟩ 8 (by kernel_rfl) (by kernel_rfl) (by kernel_rfl) (by kernel_rfl)) ?_
  intro W base args ds gs before hval0 hW hcnd hsz0 _
  have hval : ∀ (j : Nat) t v, Try.f9.params[j]? = some t → args[j]? = some v → Value.okWide Try.prog W .any base t v := hval0
  have hW' := hW
  obtain ⟨p, q, hA0, hV, rfl, hfz, hnd⟩ := hW
  have hA : DataW.TrodAll enc Try.prog W 0 (fun _ => true) true Try.f9.params.toList args.toList ds p := hA0
  rw [Try.params9] at hA hval
  have hlt := hA.lt
  obtain ⟨rfl, rfl⟩ := trodVars_none hV
  obtain ⟨v0, vs0, d0, ds0, p0, q0, hargs0, rfl, rfl, h0, r0⟩ := trodAll_cons hA
  obtain ⟨v1, vs1, d1, ds1, p1, q1, hargs1, rfl, rfl, h1, r1⟩ := trodAll_cons r0
  obtain ⟨hnil, rfl, rfl⟩ := trodAll_nil r1
  subst hnil
  subst hargs1
  obtain rfl : args = #[v0, v1] := by cases args; simp_all
  obtain ⟨a0, ok0, R0⟩ := Opens.agg op59 (.inl ⟨_, Try.underlying59⟩) (fun x => rfl) (hval 0 59 v0 rfl rfl) h0
  obtain ⟨a1, ok1, R1⟩ := Opens.agg (opE_A2 Try.underlying74 (opE_int Try.underlying5) (by kernel_rfl)) (.inr ⟨_, _, Try.underlying74⟩) (fun x => rfl) (hval 1 74 v1 rfl rfl) h1
  clear hA0 hval0 hsz0
  refine ((law a0 a1 ok0 ok1).2 (fun _ _ => False) W #[v0, v1] (fun _ _ h => h.elim) (fun _ _ h => by cases h) rfl (fun i d v hd hv => ?_)).mono fun e W' ⟨cv, he, hr, bel⟩ => ?_
  · exact (CRA_cons R0 (CRA_cons R1 (vs := []) (ds := []) (fun i d v hd => by simp at hd))) i d v hd (by simpa using hv)
  · cases hr
    subst he
    have laid : laidOutB Try.prog = true := by kernel_rfl
    exact ⟨_, rfl, _, _, _, [], _, [], hW', trodAll_mk1 (shut_bool Try.underlying4 _), (trodAll_cons_mk (Below.trod laid (by kernel_rfl) (of_decide_eq_true (by kernel_rfl)) h0 bel (fun x hx => hlt x (by simp [hx]))) (trodAll_cons_mk (Below.trod laid (by kernel_rfl) (of_decide_eq_true (by kernel_rfl)) h1 bel (fun x hx => hlt x (by simp [hx]))) trodAll_mk0)), rfl, bel.frame _, fun h => by cases h⟩
theorem routeAll_holds : Rows.RouteAllSaid :=
  OpenClaim.holds_of_wide 9 Try.f9 rfl rfl rfl rfl rfl rfl rfl ⟨rfl, rfl, rfl, rfl, rfl⟩ rfl rfl rfl rfl rfl (by kernel_rfl) Try.func9 (by kernel_rfl)
    (of_decide_eq_true (by kernel_rfl)) (by unfold Func.isWrapper; first | (rw [if_pos (by decide +kernel)]; kernel_rfl) | (rw [if_neg (by decide +kernel)]; exact ⟨rfl, rfl⟩))
    (fun os started H enc _ => lifted (fun a0 a1 h0 h1 => c_law30_RouteAll (law_RouteAll a0 a1 h0 h1)) os started H enc)
end Go.Proofs.Ytnnkfanmokeiaaa.RouteAll
