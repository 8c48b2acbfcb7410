import Derived.Test.YtkgegocfjalcbaaDoorCZ6
import Derived.Test.YtkgegocfjalcbaaDoorCzW2
import Derived.Test.YtkgegocfjalcbaaDoorAmGlob
import Derived.Test.YtkgegocfjalcbaaDoorCards
import Derived.Test.YtkgegocfjalcbaaDoorTie
import Derived.Test.YtkgegocfjalcbaaDoorAmGlob
import Derived.Test.YtkgegocfjalcbaaDoorCards
import Derived.Test.YtkgegocfjalcbaaDoorTie
import Derived.Test.YtkgegocfjalcbaaDoorAmGlue
import Derived.Test.YtkgegocfjalcbaaDoorRows
import Derived.WalkKit
import Derived.ProofKit
import Derived.OpenShut
import Derived.ShutString
import Derived.ChangeOld
import Derived.Below
import Derived.Carry
import Derived.SizedLaws
import Derived.LaidMore
import Derived.SevenTiedAt
import Derived.Stop.Joined
/- Which steps of a history that is handed in are ahead of which, what is known at each, and which step made an event happen first: the program tells what the document tells. Conditions: those of the row. -/
namespace Go.Proofs.YtkgegocfjalcbaaDoor.CauseRaw
open Go Go.ChangeShapes Go.WideShapes Go.ChangeAt Go.RowKit Go.AM
open Go.ChangeMaps (open_string shut_string)
set_option linter.unusedVariables false
set_option linter.unusedSimpArgs false

def Wf_api_Path (x : api_Path) : Prop := (x.L.length ≤ maxLen ∧ ∀ y ∈ x.L, (IntKind.u16.wrap y.a0 = y.a0) ∧ (IntKind.u16.wrap y.a1 = y.a1) ∧ (IntKind.u16.wrap y.a2 = y.a2) ∧ (IntKind.u16.wrap y.a3 = y.a3) ∧ (IntKind.u16.wrap y.a4 = y.a4) ∧ (IntKind.u16.wrap y.a5 = y.a5) ∧ (IntKind.u16.wrap y.a6 = y.a6) ∧ (IntKind.u16.wrap y.a7 = y.a7) ∧ True) ∧ (IntKind.u16.wrap x.Tag = x.Tag) ∧ (IntKind.i64.wrap x.Born = x.Born) ∧ (IntKind.i64.wrap x.End = x.End) ∧ (IntKind.i64.wrap x.Of = x.Of) ∧ (IntKind.i64.wrap x.At = x.At) ∧ True

theorem op70 : OpE Tryd.prog 70 eapi_Path Wf_api_Path :=
  opE_struct Tryd.underlying70 (OpensF.cons (opE_slice (k := (some 8)) Tryd.underlying31 (opE_A8 Tryd.underlying28 (opE_int Tryd.underlying26) (by kernel_rfl)) (by kernel_rfl) (by decide) (fun x => rfl)) (OpensF.cons (opE_int Tryd.underlying26) (OpensF.cons (opE_int Tryd.underlying3) (OpensF.cons (opE_int Tryd.underlying3) (OpensF.cons (opE_int Tryd.underlying3) (OpensF.cons (opE_int Tryd.underlying3) OpensF.nil)))))) (by kernel_rfl) (fun x => api_Path.mk x.1 x.2.1 x.2.2.1 x.2.2.2.1 x.2.2.2.2.1 x.2.2.2.2.2.1) (fun x => rfl) (fun x h => h)

def Wf_api_Hop (x : api_Hop) : Prop := ((IntKind.u16.wrap x.In.a0 = x.In.a0) ∧ (IntKind.u16.wrap x.In.a1 = x.In.a1) ∧ (IntKind.u16.wrap x.In.a2 = x.In.a2) ∧ (IntKind.u16.wrap x.In.a3 = x.In.a3) ∧ (IntKind.u16.wrap x.In.a4 = x.In.a4) ∧ (IntKind.u16.wrap x.In.a5 = x.In.a5) ∧ (IntKind.u16.wrap x.In.a6 = x.In.a6) ∧ (IntKind.u16.wrap x.In.a7 = x.In.a7) ∧ True) ∧ (True) ∧ (IntKind.u16.wrap x.Tag = x.Tag) ∧ (IntKind.u64.wrap x.Was = x.Was) ∧ (IntKind.u64.wrap x.Now = x.Now) ∧ (IntKind.u64.wrap x.New = x.New) ∧ (x.Out.length ≤ maxLen ∧ ∀ y ∈ x.Out, (IntKind.u16.wrap y.a0 = y.a0) ∧ (IntKind.u16.wrap y.a1 = y.a1) ∧ (IntKind.u16.wrap y.a2 = y.a2) ∧ (IntKind.u16.wrap y.a3 = y.a3) ∧ (IntKind.u16.wrap y.a4 = y.a4) ∧ (IntKind.u16.wrap y.a5 = y.a5) ∧ (IntKind.u16.wrap y.a6 = y.a6) ∧ (IntKind.u16.wrap y.a7 = y.a7) ∧ True) ∧ (IntKind.i64.wrap x.Err = x.Err) ∧ True

theorem op34 : OpE Tryd.prog 34 eapi_Hop Wf_api_Hop :=
  opE_struct Tryd.underlying34 (OpensF.cons (opE_A8 Tryd.underlying28 (opE_int Tryd.underlying26) (by kernel_rfl)) (OpensF.cons (opE_bool Tryd.underlying4) (OpensF.cons (opE_int Tryd.underlying26) (OpensF.cons (opE_int Tryd.underlying30) (OpensF.cons (opE_int Tryd.underlying30) (OpensF.cons (opE_int Tryd.underlying30) (OpensF.cons (opE_slice (k := (some 8)) Tryd.underlying31 (opE_A8 Tryd.underlying28 (opE_int Tryd.underlying26) (by kernel_rfl)) (by kernel_rfl) (by decide) (fun x => rfl)) (OpensF.cons (opE_int Tryd.underlying32) OpensF.nil)))))))) (by kernel_rfl) (fun x => api_Hop.mk x.1 x.2.1 x.2.2.1 x.2.2.2.1 x.2.2.2.2.1 x.2.2.2.2.2.1 x.2.2.2.2.2.2.1 x.2.2.2.2.2.2.2.1) (fun x => rfl) (fun x h => h)

def Wf_api_Step (x : api_Step) : Prop := (IntKind.i64.wrap x.What = x.What) ∧ (IntKind.i64.wrap x.Switch = x.Switch) ∧ (Wf_api_Hop x.Hop) ∧ (IntKind.i64.wrap x.Path = x.Path) ∧ True

theorem op36 : OpE Tryd.prog 36 eapi_Step Wf_api_Step :=
  opE_struct Tryd.underlying36 (OpensF.cons (opE_int Tryd.underlying3) (OpensF.cons (opE_int Tryd.underlying3) (OpensF.cons op34 (OpensF.cons (opE_int Tryd.underlying3) OpensF.nil)))) (by kernel_rfl) (fun x => api_Step.mk x.1 x.2.1 x.2.2.1 x.2.2.2.1) (fun x => rfl) (fun x h => h)

theorem law_CauseRaw (a0 : List api_Path) (a1 : List api_Step) (a2 : Int) {p q : Prop} (_ : p) (h : a1.length ≤ maxLen ∧ ∀ y ∈ a1, Wf_api_Step y) (_ : q) : law21_CauseRaw a0 a1 a2 = some true := law_raw a0 a1 a2 fun s hs => (h.2 s hs).2.2.1.2.2.2.2.2.1

theorem own : ownKnob Tryd.prog.godebug = none := by kernel_rfl

abbrev laidL : List (String × DataW Unit) := [("math/bits.deBruijn64tab", Rows.laid_math_bits_deBruijn64tab)]

theorem door_met (os : Os) (args : Array Value) : laidMetH Tryd.prog laidL ((World.doorLaid Tryd.prog 400 os).forCall (fun _ _ => 0) ⟨#[], args, []⟩).memory :=
  laidMetH_of_parts3 (fuel := 8) (laidMet_of_run' 8 (by kernel_rfl) (by kernel_rfl)) (by kernel_rfl) (by kernel_rfl)

theorem gTab : Tryd.prog.globalNamed "math/bits.deBruijn64tab" = some 0 := by kernel_rfl
theorem tTab : (Tryd.prog.globals[0]?).map (·.type) = some 72 := by kernel_rfl
theorem glob_of_laid {W : World} (h : laidMetH Tryd.prog laidL W) : GlobOk (fun _ _ => False) W := by
  rw [MakeChecks.laidMetH_plain _ _ _ (by kernel_rfl)] at h
  obtain ⟨ps, ⟨g0, t0, cs0, f0, p0, q0, hg0, ht0, hv0, hd0, _, _⟩, _⟩ := h
  obtain rfl := Option.some.inj (gTab.symm.trans hg0)
  obtain rfl := Option.some.inj (tTab.symm.trans ht0)
  have key := glob_u8 (l := gtab0) gTab hv0 (show Tryd.prog.underlying 72 = some (.array 64 5) by kernel_rfl) (show Tryd.prog.underlying 5 = some (.int .u8) by kernel_rfl) (by kernel_rfl) hd0
  intro g l hm i n hi
  obtain ⟨rfl, rfl⟩ : g = 0 ∧ l = gtab0 := by simpa [Glob.tab] using hm
  refine ⟨key i n hi, fun h => h, ?_⟩
  have : ∀ x ∈ gtab0, IntKind.u8.wrap x = x := by decide
  exact this n (List.mem_of_getElem? hi)

set_option maxRecDepth 100000 in
theorem lifted (law : ∀ (a0 : (List api_Path)) (a1 : (List api_Step)) (a2 : Int), (a0.length ≤ maxLen ∧ ∀ y ∈ a0, Wf_api_Path y) → (a1.length ≤ maxLen ∧ ∀ y ∈ a1, Wf_api_Step y) → (IntKind.i64.wrap a2 = a2) → PCall Tryd.prog 3 [(eL (some 6) eapi_Path) a0, (eL (some 18) eapi_Step) a1, (D.int .i64) a2] (.bool true)) (os : Os) (started : os.Started) (H : Type) (enc : TypeId × Value → H) :
    ReturnsInHanded {} Tryd.checked os 3 .any (fun w args => (Rows.causeRawSpec.pre enc Tryd.prog Tryd.f3 [] false w args ∧ laidMetH Tryd.prog laidL w) ∧ sizedMet enc Tryd.prog Tryd.f3 (OpenSpec.ofChange Rows.causeRawSpec) false w args) (Rows.causeRawSpec.post enc Tryd.prog Tryd.f3 false true false false) := by
  refine returnsInHanded_of_change_and (C := Tryd.checked) (X := fun w _ => laidMetH Tryd.prog laidL w) (fun _ _ _ hh h => h.of_heap hh) own started (by kernel_rfl) Tryd.func3
    (ChangeSpec.witness_shaped (enc := enc) (C := Tryd.checked) (os := os) (X := fun w _ => laidMetH Tryd.prog laidL w) false (World.doorLaid Tryd.prog 400 os) #[.slice none 0 0, .slice none 0 0, .int .i64 0] 8 rfl (World.shaped_of_RefB (by kernel_rfl) (by kernel_rfl)) (by kernel_rfl) (by kernel_rfl) (by kernel_rfl) (door_met os _)) ?_
  intro W base args ds gs before hval0 hW _ _ hL _
  have hval : ∀ (j : Nat) t v, Tryd.f3.params[j]? = some t → args[j]? = some v → Value.okWide Tryd.prog W .any base t v := hval0
  have hW' := hW
  obtain ⟨p, q, hA0, hV, rfl, hfz, hnd⟩ := hW
  have hA : DataW.TrodAll enc Tryd.prog W 0 (fun _ => true) true Tryd.f3.params.toList args.toList ds p := hA0
  rw [Tryd.params3] at hA hval
  have hlt := hA.lt
  obtain ⟨rfl, rfl⟩ := trodVars_none hV
  obtain ⟨v0, vs0, d0, ds0, p0, q0, hargs0, rfl, rfl, h0, r0⟩ := trodAll_cons hA
  obtain ⟨v1, vs1, d1, ds1, p1, q1, hargs1, rfl, rfl, h1, r1⟩ := trodAll_cons r0
  obtain ⟨v2, vs2, d2, ds2, p2, q2, hargs2, rfl, rfl, h2, r2⟩ := trodAll_cons r1
  obtain ⟨hnil, rfl, rfl⟩ := trodAll_nil r2
  subst hnil
  subst hargs2
  subst hargs1
  obtain rfl : args = #[v0, v1, v2] := by cases args; simp_all
  obtain ⟨a0, ok0, R0⟩ := Opens.one (opE_slice (k := (some 6)) Tryd.underlying22 op70 (by kernel_rfl) (by decide) (fun x => rfl)) (.inr (.inr (.inr ⟨_, Tryd.underlying22⟩))) (fun x => rfl) (hval 0 22 v0 rfl rfl) h0
  obtain ⟨a1, ok1, R1⟩ := Opens.one (opE_slice (k := (some 18)) Tryd.underlying23 op36 (by kernel_rfl) (by decide) (fun x => rfl)) (.inr (.inr (.inr ⟨_, Tryd.underlying23⟩))) (fun x => rfl) (hval 1 23 v1 rfl rfl) h1
  obtain ⟨a2, ok2, R2⟩ := Opens.one (opE_int Tryd.underlying3) (.inl ⟨_, Tryd.underlying3⟩) (fun x => rfl) (hval 2 3 v2 rfl rfl) h2
  clear hA0 hval0
  refine ((law a0 a1 a2 ok0 ok1 ok2).2 (fun _ _ => False) W #[v0, v1, v2] (fun _ _ h => h.elim) (glob_of_laid hL) rfl (fun i d v hd hv => ?_)).mono fun e W' ⟨cv, he, hr, bel⟩ => ?_
  · exact (CRA_cons R0 (CRA_cons R1 (CRA_cons R2 (vs := []) (ds := []) (fun i d v hd => by simp at hd)))) i d v hd (by simpa using hv)
  · cases hr
    subst he
    have laid : laidOutB Tryd.prog = true := by kernel_rfl
    exact ⟨_, rfl, _, _, _, [], _, [], hW', trodAll_mk1 (shut_bool Tryd.underlying4 _), (trodAll_cons_mk (Below.trod laid (by kernel_rfl) (of_decide_eq_true (by kernel_rfl)) h0 bel (fun x hx => hlt x (by simp [hx]))) (trodAll_cons_mk (Below.trod laid (by kernel_rfl) (of_decide_eq_true (by kernel_rfl)) h1 bel (fun x hx => hlt x (by simp [hx]))) (trodAll_cons_mk (Below.trod laid (by kernel_rfl) (of_decide_eq_true (by kernel_rfl)) h2 bel (fun x hx => hlt x (by simp [hx]))) trodAll_mk0))), rfl, bel.frame _, fun h => by cases h⟩

theorem causeRaw_holds : Rows.CauseRawSaid :=
  OpenClaim.holds_of_wide 3 Tryd.f3 rfl rfl rfl rfl rfl rfl rfl ⟨rfl, rfl, rfl, rfl, rfl⟩ rfl rfl rfl rfl rfl (by kernel_rfl) Tryd.func3 (by kernel_rfl)
    (of_decide_eq_true (by kernel_rfl)) (by unfold Func.isWrapper; first | (rw [if_pos (by decide +kernel)]; kernel_rfl) | (rw [if_neg (by decide +kernel)]; exact ⟨rfl, rfl⟩))
    (fun os started H enc _ => lifted (fun a0 a1 a2 h0 h1 h2 => c_law21_CauseRaw (law_CauseRaw a0 a1 a2 h0 h1 h2)) os started H enc)

theorem card_holds : Rows.CauseRawCardSaid :=
  Claim7.holds_tied_plain_at .later [] [.data] true (true, "e80b7f7af35cbad3b5531247c51cccdee6187e89bbac1a6f4a6144e75aa68f21") false
    causeRaw_holds (fun _ h => by cases h) (by kernel_rfl) (fun _ h => by cases h) causeRaw_row_tie rfl ⟨rfl, rfl⟩ (by kernel_rfl) rfl
    (fun f fn hf hfn => by
      obtain rfl : f = 3 := Option.some.inj ((show Tryd.prog.funcNamed Rows.causeRawRow.func = some 3 by kernel_rfl).symm.trans hf) |>.symm
      obtain rfl : fn = Tryd.f3 := (Option.some.inj (Tryd.func3.symm.trans hfn)).symm
      exact ⟨by kernel_rfl, fun j t ht => by
        rw [Tryd.params3] at ht
        have hm : t ∈ [22, 23, 3] := by simpa using Array.mem_of_getElem? ht
        have hall : ([22, 23, 3].all fun u => !Tryd.prog.wantsStandIn u) = true := by kernel_rfl
        exact (show Tryd.prog.wantsStandIn t = false by simpa using List.all_eq_true.1 hall t hm)⟩)
    (by kernel_rfl)

end Go.Proofs.YtkgegocfjalcbaaDoor.CauseRaw
