import Derived.Test.YtjdaaclkihjjnaaDoorTD6
import Derived.Test.YtjdaaclkihjjnaaDoorCsW3
import Derived.Test.YtjdaaclkihjjnaaDoorAmGlob
import Derived.Test.YtjdaaclkihjjnaaDoorCards
import Derived.Test.YtjdaaclkihjjnaaDoorTie
import Derived.Test.YtjdaaclkihjjnaaDoorAmGlue
import Derived.Test.YtjdaaclkihjjnaaDoorRows
import Derived.WalkKit
import Derived.ProofKit
import Derived.OpenShut
import Derived.ShutString
import Derived.ChangeOld
import Derived.Below
import Derived.Carry
import Derived.SizedLaws
import Derived.LaidMore
import Derived.SevenTiedAt
import Derived.Stop.Joined
/- The row and its card: whatever it hears and tells, a controller answers as the document says. Conditions: those of the row. -/
namespace Go.Proofs.YtjdaaclkihjjnaaDoor.CtrlRuns
open Go Go.ChangeShapes Go.WideShapes Go.ChangeAt Go.RowKit Go.AM
open Go.ChangeMaps (open_string shut_string)
set_option linter.unusedVariables false
set_option linter.unusedSimpArgs false

theorem op26N : ∀ N, OpensB Tryd.prog 26 (fun x => (uapi_Pol x).cells) (fun _ => True) N
  | 0 => opB_zero Tryd.underlying26
  | N + 1 => opB_struct Tryd.underlying26 (OpensFB.cons ((opE_int Tryd.underlying3).b N) (OpensFB.cons ((opE_int Tryd.underlying3).b N) (OpensFB.cons ((opE_int Tryd.underlying23).b N) (OpensFB.cons ((opB_slice (k := (some 4)) (e := eapi_Pol) (ec := fun x => (uapi_Pol x).cells) Tryd.underlying24 (op26N N) (by kernel_rfl) (by decide) (fun x => by rw [eu_api_Pol]; exact ⟨rfl, rfl⟩)).mono (Nat.le_succ N)) OpensFB.nil)))) (by kernel_rfl) (fun x => api_Pol.mk x.1 x.2.1 x.2.2.1 x.2.2.2.1) (fun x => rfl) (fun x h => trivial)

theorem op26 : OpE Tryd.prog 26 uapi_Pol (fun _ => True) := OpensB.all op26N

def Wf_api_Pair (x : api_Pair) : Prop := (IntKind.i64.wrap x.F = x.F) ∧ (IntKind.u16.wrap x.N = x.N) ∧ True

theorem op112 : OpE Tryd.prog 112 eapi_Pair Wf_api_Pair :=
  opE_struct Tryd.underlying112 (OpensF.cons (opE_int Tryd.underlying3) (OpensF.cons (opE_int Tryd.underlying23) OpensF.nil)) (by kernel_rfl) (fun x => api_Pair.mk x.1 x.2.1) (fun x => rfl) (fun x h => h)

def Wf_api_Rule (x : api_Rule) : Prop := (x.When.length ≤ maxLen ∧ ∀ y ∈ x.When, Wf_api_Pair y) ∧ (x.Guard.length ≤ maxLen ∧ ∀ y ∈ x.Guard, Wf_api_Pair y) ∧ (x.Then.length ≤ maxLen ∧ ∀ y ∈ x.Then, Wf_api_Pair y) ∧ True

theorem op71 : OpE Tryd.prog 71 eapi_Rule Wf_api_Rule :=
  opE_struct Tryd.underlying71 (OpensF.cons (opE_slice (k := (some 2)) Tryd.underlying69 op112 (by kernel_rfl) (by decide) (fun x => rfl)) (OpensF.cons (opE_slice (k := (some 2)) Tryd.underlying69 op112 (by kernel_rfl) (by decide) (fun x => rfl)) (OpensF.cons (opE_slice (k := (some 2)) Tryd.underlying69 op112 (by kernel_rfl) (by decide) (fun x => rfl)) OpensF.nil))) (by kernel_rfl) (fun x => api_Rule.mk x.1 x.2.1 x.2.2.1) (fun x => rfl) (fun x h => h)

def Wf_api_Program (x : api_Program) : Prop := (x.Init.length ≤ maxLen ∧ ∀ y ∈ x.Init, IntKind.u16.wrap y = y) ∧ (True) ∧ (x.Rules.length ≤ maxLen ∧ ∀ y ∈ x.Rules, Wf_api_Rule y) ∧ True

theorem op29 : OpE Tryd.prog 29 eapi_Program Wf_api_Program :=
  opE_struct Tryd.underlying29 (OpensF.cons (opE_slice (k := none) Tryd.underlying22 (opE_int Tryd.underlying23) (by kernel_rfl) (by decide) (fun x => rfl)) (OpensF.cons op26 (OpensF.cons (opE_slice (k := (some 3)) Tryd.underlying27 op71 (by kernel_rfl) (by decide) (fun x => rfl)) OpensF.nil))) (by kernel_rfl) (fun x => api_Program.mk x.1 x.2.1 x.2.2.1) (fun x => rfl) (fun x h => h)

def Wf_law18_Act (x : law18_Act) : Prop := (IntKind.i64.wrap x.What = x.What) ∧ (IntKind.i64.wrap x.I = x.I) ∧ (IntKind.i64.wrap x.N = x.N) ∧ (IntKind.u64.wrap x.S = x.S) ∧ True

theorem op49 : OpE Tryd.prog 49 elaw18_Act Wf_law18_Act :=
  opE_struct Tryd.underlying49 (OpensF.cons (opE_int Tryd.underlying3) (OpensF.cons (opE_int Tryd.underlying3) (OpensF.cons (opE_int Tryd.underlying3) (OpensF.cons (opE_int Tryd.underlying43) OpensF.nil)))) (by kernel_rfl) (fun x => law18_Act.mk x.1 x.2.1 x.2.2.1 x.2.2.2.1) (fun x => rfl) (fun x h => h)

theorem sets {a2 : List law18_Act} (h : a2.length ≤ maxLen ∧ ∀ y ∈ a2, Wf_law18_Act y) : ∀ y ∈ a2, U64 y.S := fun y hy => by
  have h4 := (h.2 y hy).2.2.2.1
  rw [w_u64] at h4
  exact ⟨y.S.toNat, by omega, by omega⟩

theorem law_CtrlRuns (a0 : api_Program) (a1 : Int) (a2 : List law18_Act) {P Q : Prop} (_ : P) (_ : Q) (h : a2.length ≤ maxLen ∧ ∀ y ∈ a2, Wf_law18_Act y) : law18_CtrlRuns a0 a1 a2 = some true := AM.law_CtrlRuns a0 a1 a2 (sets h)

theorem own : ownKnob Tryd.prog.godebug = none := by kernel_rfl

abbrev laidL : List (String × DataW Unit) := [("math/bits.deBruijn64tab", Rows.laid_math_bits_deBruijn64tab)]

theorem door_met (os : Os) (args : Array Value) : laidMetH Tryd.prog laidL ((World.doorLaid Tryd.prog 400 os).forCall (fun _ _ => 0) ⟨#[], args, []⟩).memory :=
  laidMetH_of_parts3 (fuel := 8) (laidMet_of_run' 8 (by kernel_rfl) (by kernel_rfl)) (by kernel_rfl) (by kernel_rfl)

theorem gTab : Tryd.prog.globalNamed "math/bits.deBruijn64tab" = some 0 := by kernel_rfl
theorem tTab : (Tryd.prog.globals[0]?).map (·.type) = some 119 := by kernel_rfl
theorem glob_of_laid {W : World} (h : laidMetH Tryd.prog laidL W) : GlobOk (fun _ _ => False) W := by
  rw [MakeChecks.laidMetH_plain _ _ _ (by kernel_rfl)] at h
  obtain ⟨ps, ⟨g0, t0, cs0, f0, p0, q0, hg0, ht0, hv0, hd0, _, _⟩, _⟩ := h
  obtain rfl := Option.some.inj (gTab.symm.trans hg0)
  obtain rfl := Option.some.inj (tTab.symm.trans ht0)
  have key := glob_u8 (l := gtab0) gTab hv0 (show Tryd.prog.underlying 119 = some (.array 64 5) by kernel_rfl) (show Tryd.prog.underlying 5 = some (.int .u8) by kernel_rfl) (by kernel_rfl) hd0
  intro g l hm i n hi
  obtain ⟨rfl, rfl⟩ : g = 0 ∧ l = gtab0 := by simpa [Glob.tab] using hm
  refine ⟨key i n hi, fun h => h, ?_⟩
  have : ∀ x ∈ gtab0, IntKind.u8.wrap x = x := by decide
  exact this n (List.mem_of_getElem? hi)

set_option maxRecDepth 100000 in
theorem lifted (law : ∀ (a0 : api_Program) (a1 : Int) (a2 : (List law18_Act)), (Wf_api_Program a0) → (IntKind.i64.wrap a1 = a1) → (a2.length ≤ maxLen ∧ ∀ y ∈ a2, Wf_law18_Act y) → PCall Tryd.prog 3 [eapi_Program a0, (D.int .i64) a1, (eL (some 4) elaw18_Act) a2] (.bool true)) (os : Os) (started : os.Started) (H : Type) (enc : TypeId × Value → H) :
    ReturnsInHanded {} Tryd.checked os 3 .any (fun w args => (Rows.ctrlRunsSpec.pre enc Tryd.prog Tryd.f3 [] false w args ∧ laidMetH Tryd.prog laidL w) ∧ sizedMet enc Tryd.prog Tryd.f3 (OpenSpec.ofChange Rows.ctrlRunsSpec) false w args) (Rows.ctrlRunsSpec.post enc Tryd.prog Tryd.f3 false true false false) := by
  refine returnsInHanded_of_change_and (C := Tryd.checked) (X := fun w _ => laidMetH Tryd.prog laidL w) (fun _ _ _ hh h => h.of_heap hh) own started (by kernel_rfl) Tryd.func3
    (ChangeSpec.witness_shaped (enc := enc) (C := Tryd.checked) (os := os) (X := fun w _ => laidMetH Tryd.prog laidL w) false (World.doorLaid Tryd.prog 400 os) #[.agg #[.slice none 0 0, .int .i64 0, .int .i64 0, .int .u16 0, .slice none 0 0, .slice none 0 0], .int .i64 0, .slice none 0 0] 8 rfl (World.shaped_of_RefB (by kernel_rfl) (by kernel_rfl)) (by kernel_rfl) (by kernel_rfl) (by kernel_rfl) (door_met os _)) ?_
  intro W base args ds gs before hval0 hW _ _ hL _
  have hval : ∀ (j : Nat) t v, Tryd.f3.params[j]? = some t → args[j]? = some v → Value.okWide Tryd.prog W .any base t v := hval0
  have hW' := hW
  obtain ⟨p, q, hA0, hV, rfl, hfz, hnd⟩ := hW
  have hA : DataW.TrodAll enc Tryd.prog W 0 (fun _ => true) true Tryd.f3.params.toList args.toList ds p := hA0
  rw [Tryd.params3] at hA hval
  have hlt := hA.lt
  obtain ⟨rfl, rfl⟩ := trodVars_none hV
  obtain ⟨v0, vs0, d0, ds0, p0, q0, hargs0, rfl, rfl, h0, r0⟩ := trodAll_cons hA
  obtain ⟨v1, vs1, d1, ds1, p1, q1, hargs1, rfl, rfl, h1, r1⟩ := trodAll_cons r0
  obtain ⟨v2, vs2, d2, ds2, p2, q2, hargs2, rfl, rfl, h2, r2⟩ := trodAll_cons r1
  obtain ⟨hnil, rfl, rfl⟩ := trodAll_nil r2
  subst hnil
  subst hargs2
  subst hargs1
  obtain rfl : args = #[v0, v1, v2] := by cases args; simp_all
  obtain ⟨a0, ok0, R0⟩ := Opens.agg op29 (.inl ⟨_, Tryd.underlying29⟩) (fun x => rfl) (hval 0 29 v0 rfl rfl) h0
  obtain ⟨a1, ok1, R1⟩ := Opens.one (opE_int Tryd.underlying3) (.inl ⟨_, Tryd.underlying3⟩) (fun x => rfl) (hval 1 3 v1 rfl rfl) h1
  obtain ⟨a2, ok2, R2⟩ := Opens.one (opE_slice (k := (some 4)) Tryd.underlying30 op49 (by kernel_rfl) (by decide) (fun x => rfl)) (.inr (.inr (.inr ⟨_, Tryd.underlying30⟩))) (fun x => rfl) (hval 2 30 v2 rfl rfl) h2
  clear hA0 hval0
  refine ((law a0 a1 a2 ok0 ok1 ok2).2 (fun _ _ => False) W #[v0, v1, v2] (fun _ _ h => h.elim) (glob_of_laid hL) rfl (fun i d v hd hv => ?_)).mono fun e W' ⟨cv, he, hr, bel⟩ => ?_
  · exact (CRA_cons R0 (CRA_cons R1 (CRA_cons R2 (vs := []) (ds := []) (fun i d v hd => by simp at hd)))) i d v hd (by simpa using hv)
  · cases hr
    subst he
    have laid : laidOutB Tryd.prog = true := by kernel_rfl
    exact ⟨_, rfl, _, _, _, [], _, [], hW', trodAll_mk1 (shut_bool Tryd.underlying4 _), (trodAll_cons_mk (Below.trod laid (by kernel_rfl) (of_decide_eq_true (by kernel_rfl)) h0 bel (fun x hx => hlt x (by simp [hx]))) (trodAll_cons_mk (Below.trod laid (by kernel_rfl) (of_decide_eq_true (by kernel_rfl)) h1 bel (fun x hx => hlt x (by simp [hx]))) (trodAll_cons_mk (Below.trod laid (by kernel_rfl) (of_decide_eq_true (by kernel_rfl)) h2 bel (fun x hx => hlt x (by simp [hx]))) trodAll_mk0))), rfl, bel.frame _, fun h => by cases h⟩

theorem ctrlRuns_holds : Rows.CtrlRunsSaid :=
  OpenClaim.holds_of_wide 3 Tryd.f3 rfl rfl rfl rfl rfl rfl rfl ⟨rfl, rfl, rfl, rfl, rfl⟩ rfl rfl rfl rfl rfl (by kernel_rfl) Tryd.func3 (by kernel_rfl)
    (of_decide_eq_true (by kernel_rfl)) (by unfold Func.isWrapper; first | (rw [if_pos (by decide +kernel)]; kernel_rfl) | (rw [if_neg (by decide +kernel)]; exact ⟨rfl, rfl⟩))
    (fun os started H enc _ => lifted (fun a0 a1 a2 h0 h1 h2 => c_law18_CtrlRuns (law_CtrlRuns a0 a1 a2 h0 h1 h2)) os started H enc)

theorem card_holds : Rows.CtrlRunsCardSaid :=
  Claim7.holds_tied_plain_at .later [] [.data] true (true, "efbdc3cce39423e3bee3f9f9f4b629457c5b921cf004453ee7740c01e0300510") false
    ctrlRuns_holds (fun _ h => by cases h) (by kernel_rfl) (fun _ h => by cases h) ctrlRuns_row_tie rfl ⟨rfl, rfl⟩ (by kernel_rfl) rfl
    (fun f fn hf hfn => by
      obtain rfl : f = 3 := Option.some.inj ((show Tryd.prog.funcNamed Rows.ctrlRunsRow.func = some 3 by kernel_rfl).symm.trans hf) |>.symm
      obtain rfl : fn = Tryd.f3 := (Option.some.inj (Tryd.func3.symm.trans hfn)).symm
      exact ⟨by kernel_rfl, fun j t ht => by
        rw [Tryd.params3] at ht
        have hm : t ∈ [29, 3, 30] := by simpa using Array.mem_of_getElem? ht
        have hall : ([29, 3, 30].all fun u => !Tryd.prog.wantsStandIn u) = true := by kernel_rfl
        exact (show Tryd.prog.wantsStandIn t = false by simpa using List.all_eq_true.1 hall t hm)⟩)
    (by kernel_rfl)

end Go.Proofs.YtjdaaclkihjjnaaDoor.CtrlRuns
