import Derived.Test.YtfjelgjfbjjopaaDoorNS14
import Derived.Test.YtfjelgjfbjjopaaDoorNkW3
import Derived.Test.YtfjelgjfbjjopaaDoorAmGlob
import Derived.Test.YtfjelgjfbjjopaaDoorCards
import Derived.Test.YtfjelgjfbjjopaaDoorTie
import Derived.Test.YtfjelgjfbjjopaaDoorAmGlob
import Derived.Test.YtfjelgjfbjjopaaDoorCards
import Derived.Test.YtfjelgjfbjjopaaDoorTie
import Derived.Test.YtfjelgjfbjjopaaDoorAmGlue
import Derived.Test.YtfjelgjfbjjopaaDoorRows
import Derived.WalkKit
import Derived.ProofKit
import Derived.OpenShut
import Derived.ShutString
import Derived.ChangeOld
import Derived.Below
import Derived.Carry
import Derived.SizedLaws
import Derived.LaidMore
import Derived.SevenTiedAt
import Derived.Stop.Joined
/- What a packet makes happen is one of the sets, and a packet of another place, or other fields, makes nothing happen; proved by walking the program's code. -/
namespace Go.Proofs.YtfjelgjfbjjopaaDoor.NesSeen
open Go Go.ChangeShapes Go.WideShapes Go.ChangeAt Go.RowKit Go.AM
open Go.ChangeMaps (open_string shut_string)
set_option linter.unusedVariables false
set_option linter.unusedSimpArgs false
theorem op26N : ∀ N, OpensB Tryd.prog 26 (fun x => (uapi_Pol x).cells) (fun _ => True) N
  | 0 => opB_zero Tryd.underlying26
  | N + 1 => opB_struct Tryd.underlying26 (OpensFB.cons ((opE_int Tryd.underlying3).b N) (OpensFB.cons ((opE_int Tryd.underlying3).b N) (OpensFB.cons ((opE_int Tryd.underlying23).b N) (OpensFB.cons ((opB_slice (k := (some 4)) (e := eapi_Pol) (ec := fun x => (uapi_Pol x).cells) Tryd.underlying24 (op26N N) (by kernel_rfl) (by decide) (fun x => by rw [eu_api_Pol]; exact ⟨rfl, rfl⟩)).mono (Nat.le_succ N)) OpensFB.nil)))) (by kernel_rfl) (fun x => api_Pol.mk x.1 x.2.1 x.2.2.1 x.2.2.2.1) (fun x => rfl) (fun x h => trivial)
theorem op26 : OpE Tryd.prog 26 uapi_Pol (fun _ => True) := OpensB.all op26N
def Wf_api_Pair (x : api_Pair) : Prop := (IntKind.i64.wrap x.F = x.F) ∧ (IntKind.u16.wrap x.N = x.N) ∧ True
theorem op93 : OpE Tryd.prog 93 eapi_Pair Wf_api_Pair :=
  opE_struct Tryd.underlying93 (OpensF.cons (opE_int Tryd.underlying3) (OpensF.cons (opE_int Tryd.underlying23) OpensF.nil)) (by kernel_rfl) (fun x => api_Pair.mk x.1 x.2.1) (fun x => rfl) (fun x h => h)
def Wf_api_Rule (x : api_Rule) : Prop := (x.When.length ≤ maxLen ∧ ∀ y ∈ x.When, Wf_api_Pair y) ∧ (x.Guard.length ≤ maxLen ∧ ∀ y ∈ x.Guard, Wf_api_Pair y) ∧ (x.Then.length ≤ maxLen ∧ ∀ y ∈ x.Then, Wf_api_Pair y) ∧ True
theorem op59 : OpE Tryd.prog 59 eapi_Rule Wf_api_Rule :=
  opE_struct Tryd.underlying59 (OpensF.cons (opE_slice (k := (some 2)) Tryd.underlying57 op93 (by kernel_rfl) (by decide) (fun x => rfl)) (OpensF.cons (opE_slice (k := (some 2)) Tryd.underlying57 op93 (by kernel_rfl) (by decide) (fun x => rfl)) (OpensF.cons (opE_slice (k := (some 2)) Tryd.underlying57 op93 (by kernel_rfl) (by decide) (fun x => rfl)) OpensF.nil))) (by kernel_rfl) (fun x => api_Rule.mk x.1 x.2.1 x.2.2.1) (fun x => rfl) (fun x h => h)
def Wf_api_Program (x : api_Program) : Prop := (x.Init.length ≤ maxLen ∧ ∀ y ∈ x.Init, IntKind.u16.wrap y = y) ∧ (True) ∧ (x.Rules.length ≤ maxLen ∧ ∀ y ∈ x.Rules, Wf_api_Rule y) ∧ True
theorem op29 : OpE Tryd.prog 29 eapi_Program Wf_api_Program :=
  opE_struct Tryd.underlying29 (OpensF.cons (opE_slice (k := none) Tryd.underlying22 (opE_int Tryd.underlying23) (by kernel_rfl) (by decide) (fun x => rfl)) (OpensF.cons op26 (OpensF.cons (opE_slice (k := (some 3)) Tryd.underlying27 op59 (by kernel_rfl) (by decide) (fun x => rfl)) OpensF.nil))) (by kernel_rfl) (fun x => api_Program.mk x.1 x.2.1 x.2.2.1) (fun x => rfl) (fun x h => h)
theorem law_NesSeen (a0 : api_Program) (a1 : Int) (a2 : (A8 Int)) (h : Wf_api_Program a0) (h1 : IntKind.u8.wrap a1 = a1) {p : Prop} (_ : p) : law12_NesSeen a0 a1 a2 = some true := lawNesSeen a0 a1 a2 ⟨h.1.2, fun r hr => ⟨fun t ht => ((h.2.2.1.2 r hr).2.2.1.2 t ht).2.1, fun t ht => ((h.2.2.1.2 r hr).1.2 t ht).2.1⟩⟩ h1
theorem own : ownKnob Tryd.prog.godebug = none := by kernel_rfl
abbrev laidL : List (String × DataW Unit) := [("math/bits.deBruijn64tab", Rows.laid_math_bits_deBruijn64tab)]
theorem door_met (os : Os) (args : Array Value) : laidMetH Tryd.prog laidL ((World.doorLaid Tryd.prog 400 os).forCall (fun _ _ => 0) ⟨#[], args, []⟩).memory :=
  laidMetH_of_parts3 (fuel := 8) (laidMet_of_run' 8 (by kernel_rfl) (by kernel_rfl)) (by kernel_rfl) (by kernel_rfl)
theorem gTab : Tryd.prog.globalNamed "math/bits.deBruijn64tab" = some 0 := by kernel_rfl
theorem tTab : (Tryd.prog.globals[0]?).map (·.type) = some 146 := by kernel_rfl
theorem glob_of_laid {W : World} (h : laidMetH Tryd.prog laidL W) : GlobOk (fun _ _ => False) W := by
  rw [MakeChecks.laidMetH_plain _ _ _ (by kernel_rfl)] at h
  obtain ⟨ps, ⟨g0, t0, cs0, f0, p0, q0, hg0, ht0, hv0, hd0, _, _⟩, _⟩ := h
  obtain rfl := Option.some.inj (gTab.symm.trans hg0)
  obtain rfl := Option.some.inj (tTab.symm.trans ht0)
  have key := glob_u8 (l := gtab0) gTab hv0 (show Tryd.prog.underlying 146 = some (.array 64 5) by kernel_rfl) (show Tryd.prog.underlying 5 = some (.int .u8) by kernel_rfl) (by kernel_rfl) hd0
  intro g l hm i n hi
  obtain ⟨rfl, rfl⟩ : g = 0 ∧ l = gtab0 := by simpa [Glob.tab] using hm
  refine ⟨key i n hi, fun h => h, ?_⟩
  have : ∀ x ∈ gtab0, IntKind.u8.wrap x = x := by decide
  exact this n (List.mem_of_getElem? hi)
set_option maxRecDepth 100000 in
theorem lifted (law : ∀ (a0 : api_Program) (a1 : Int) (a2 : (A8 Int)), (Wf_api_Program a0) → (IntKind.u8.wrap a1 = a1) → ((IntKind.u16.wrap a2.a0 = a2.a0) ∧ (IntKind.u16.wrap a2.a1 = a2.a1) ∧ (IntKind.u16.wrap a2.a2 = a2.a2) ∧ (IntKind.u16.wrap a2.a3 = a2.a3) ∧ (IntKind.u16.wrap a2.a4 = a2.a4) ∧ (IntKind.u16.wrap a2.a5 = a2.a5) ∧ (IntKind.u16.wrap a2.a6 = a2.a6) ∧ (IntKind.u16.wrap a2.a7 = a2.a7) ∧ True) → PCall Tryd.prog 5 [eapi_Program a0, (D.int .u8) a1, (eA8 (D.int .u16)) a2] (.bool true)) (os : Os) (started : os.Started) (H : Type) (enc : TypeId × Value → H) :
    ReturnsInHanded {} Tryd.checked os 5 .any (fun w args => (Rows.nesSeenSpec.pre enc Tryd.prog Tryd.f5 [] false w args ∧ laidMetH Tryd.prog laidL w) ∧ sizedMet enc Tryd.prog Tryd.f5 (OpenSpec.ofChange Rows.nesSeenSpec) false w args) (Rows.nesSeenSpec.post enc Tryd.prog Tryd.f5 false true false false) := by
  refine returnsInHanded_of_change_and (C := Tryd.checked) (X := fun w _ => laidMetH Tryd.prog laidL w) (fun _ _ _ hh h => h.of_heap hh) own started (by kernel_rfl) Tryd.func5
    (ChangeSpec.witness_shaped (enc := enc) (C := Tryd.checked) (os := os) (X := fun w _ => laidMetH Tryd.prog laidL w) false (World.doorLaid Tryd.prog 400 os) #[.agg #[.slice none 0 0, .int .i64 0, .int .i64 0, .int .u16 0, .slice none 0 0, .slice none 0 0], .int .u8 0, .agg #[.int .u16 0, .int .u16 0, .int .u16 0, .int .u16 0, .int .u16 0, .int .u16 0, .int .u16 0, .int .u16 0]] 8 rfl (World.shaped_of_RefB (by kernel_rfl) (by kernel_rfl)) (by kernel_rfl) (by kernel_rfl) (by kernel_rfl) (door_met os _)) ?_
  intro W base args ds gs before hval0 hW _ _ hL _
  have hval : ∀ (j : Nat) t v, Tryd.f5.params[j]? = some t → args[j]? = some v → Value.okWide Tryd.prog W .any base t v := hval0
  have hW' := hW
  obtain ⟨p, q, hA0, hV, rfl, hfz, hnd⟩ := hW
  have hA : DataW.TrodAll enc Tryd.prog W 0 (fun _ => true) true Tryd.f5.params.toList args.toList ds p := hA0
  rw [Tryd.params5] at hA hval
  have hlt := hA.lt
  obtain ⟨rfl, rfl⟩ := trodVars_none hV
  obtain ⟨v0, vs0, d0, ds0, p0, q0, hargs0, rfl, rfl, h0, r0⟩ := trodAll_cons hA
  obtain ⟨v1, vs1, d1, ds1, p1, q1, hargs1, rfl, rfl, h1, r1⟩ := trodAll_cons r0
  obtain ⟨v2, vs2, d2, ds2, p2, q2, hargs2, rfl, rfl, h2, r2⟩ := trodAll_cons r1
  obtain ⟨hnil, rfl, rfl⟩ := trodAll_nil r2
  subst hnil
  subst hargs2
  subst hargs1
  obtain rfl : args = #[v0, v1, v2] := by cases args; simp_all
  obtain ⟨a0, ok0, R0⟩ := Opens.agg op29 (.inl ⟨_, Tryd.underlying29⟩) (fun x => rfl) (hval 0 29 v0 rfl rfl) h0
  obtain ⟨a1, ok1, R1⟩ := Opens.one (opE_int Tryd.underlying5) (.inl ⟨_, Tryd.underlying5⟩) (fun x => rfl) (hval 1 5 v1 rfl rfl) h1
  obtain ⟨a2, ok2, R2⟩ := Opens.agg (opE_A8 Tryd.underlying54 (opE_int Tryd.underlying23) (by kernel_rfl)) (.inr ⟨_, _, Tryd.underlying54⟩) (fun x => rfl) (hval 2 54 v2 rfl rfl) h2
  clear hA0 hval0
  refine ((law a0 a1 a2 ok0 ok1 ok2).2 (fun _ _ => False) W #[v0, v1, v2] (fun _ _ h => h.elim) (glob_of_laid hL) rfl (fun i d v hd hv => ?_)).mono fun e W' ⟨cv, he, hr, bel⟩ => ?_
  · exact (CRA_cons R0 (CRA_cons R1 (CRA_cons R2 (vs := []) (ds := []) (fun i d v hd => by simp at hd)))) i d v hd (by simpa using hv)
  · cases hr
    subst he
    have laid : laidOutB Tryd.prog = true := by kernel_rfl
    exact ⟨_, rfl, _, _, _, [], _, [], hW', trodAll_mk1 (shut_bool Tryd.underlying4 _), (trodAll_cons_mk (Below.trod laid (by kernel_rfl) (of_decide_eq_true (by kernel_rfl)) h0 bel (fun x hx => hlt x (by simp [hx]))) (trodAll_cons_mk (Below.trod laid (by kernel_rfl) (of_decide_eq_true (by kernel_rfl)) h1 bel (fun x hx => hlt x (by simp [hx]))) (trodAll_cons_mk (Below.trod laid (by kernel_rfl) (of_decide_eq_true (by kernel_rfl)) h2 bel (fun x hx => hlt x (by simp [hx]))) trodAll_mk0))), rfl, bel.frame _, fun h => by cases h⟩
theorem nesSeen_holds : Rows.NesSeenSaid :=
  OpenClaim.holds_of_wide 5 Tryd.f5 rfl rfl rfl rfl rfl rfl rfl ⟨rfl, rfl, rfl, rfl, rfl⟩ rfl rfl rfl rfl rfl (by kernel_rfl) Tryd.func5 (by kernel_rfl)
    (of_decide_eq_true (by kernel_rfl)) (by unfold Func.isWrapper; first | (rw [if_pos (by decide +kernel)]; kernel_rfl) | (rw [if_neg (by decide +kernel)]; exact ⟨rfl, rfl⟩))
    (fun os started H enc _ => lifted (fun a0 a1 a2 h0 h1 h2 => c_law12_NesSeen (law_NesSeen a0 a1 a2 h0 h1 h2)) os started H enc)
theorem card_holds : Rows.NesSeenCardSaid :=
  Claim7.holds_tied_plain_at .later [] [.data] true (true, "bb659c2b450dc5cb06341b8e3502d0dcd5a14580962b9edf4bbd753a0dbe9fc2") false
    nesSeen_holds (fun _ h => by cases h) (by kernel_rfl) (fun _ h => by cases h) nesSeen_row_tie rfl ⟨rfl, rfl⟩ (by kernel_rfl) rfl
    (fun f fn hf hfn => by
      obtain rfl : f = 5 := Option.some.inj ((show Tryd.prog.funcNamed Rows.nesSeenRow.func = some 5 by kernel_rfl).symm.trans hf) |>.symm
      obtain rfl : fn = Tryd.f5 := (Option.some.inj (Tryd.func5.symm.trans hfn)).symm
      exact ⟨by kernel_rfl, fun j t ht => by
        rw [Tryd.params5] at ht
        have hm : t ∈ [29, 5, 54] := by simpa using Array.mem_of_getElem? ht
        have hall : ([29, 5, 54].all fun u => !Tryd.prog.wantsStandIn u) = true := by kernel_rfl
        exact (show Tryd.prog.wantsStandIn t = false by simpa using List.all_eq_true.1 hall t hm)⟩)
    (by kernel_rfl)
end Go.Proofs.YtfjelgjfbjjopaaDoor.NesSeen
