import Derived.Test.YtfjelgjfbjjopaaMF0
import Derived.Test.YtfjelgjfbjjopaaMfW1
import Derived.Test.YtfjelgjfbjjopaaAmGlue
import Derived.Test.YtfjelgjfbjjopaaRows
import Derived.WalkKit
import Derived.ProofKit
import Derived.OpenShut
import Derived.ShutString
import Derived.ChangeOld
import Derived.Below
import Derived.Carry
import Derived.SizedLaws
/- As many rows as there may be go into a table, one more does not; lists that are the same count once. No conditions. -/
namespace Go.Proofs.Ytfjelgjfbjjopaa.MergeFull
open Go Go.ChangeShapes Go.WideShapes Go.ChangeAt Go.RowKit Go.AM
open Go.ChangeMaps (open_string shut_string)
set_option linter.unusedVariables false
set_option linter.unusedSimpArgs false

theorem law_MergeFull (a0 a1 : Int) (h0 : IntKind.u8.wrap a0 = a0) (h1 : IntKind.u8.wrap a1 = a1) : law10_MergeFull a0 a1 = some true := law_full a0 a1 h0 h1

theorem own : ownKnob Try.prog.godebug = none := by kernel_rfl

set_option maxRecDepth 100000 in
theorem lifted (law : ∀ (a0 : Int) (a1 : Int), (IntKind.u8.wrap a0 = a0) → (IntKind.u8.wrap a1 = a1) → PCall Try.prog 10 [(D.int .u8) a0, (D.int .u8) a1] (.bool true)) (os : Os) (started : os.Started) (H : Type) (enc : TypeId × Value → H) :
    ReturnsInHanded {} Try.checked os 10 .any (Rows.mergeFullSpec.pre6 enc Try.prog Try.f10 Rows.mergeFullRow.domain false) (Rows.mergeFullSpec.post enc Try.prog Try.f10 false true false false) := by
  refine returnsInHanded_of_change_sized (C := Try.checked) own started (by kernel_rfl) Try.func10
    (ChangeSpec.witness6 (enc := enc) (C := Try.checked) false ⟨#[], #[.int .u8 0, .int .u8 0], []⟩ 8 (by kernel_rfl) (by kernel_rfl) (by kernel_rfl) (by kernel_rfl)) ?_
  intro W base args ds gs before hval0 hW hcnd hsz0 _
  have hval : ∀ (j : Nat) t v, Try.f10.params[j]? = some t → args[j]? = some v → Value.okWide Try.prog W .any base t v := hval0
  have hW' := hW
  obtain ⟨p, q, hA0, hV, rfl, hfz, hnd⟩ := hW
  have hA : DataW.TrodAll enc Try.prog W 0 (fun _ => true) true Try.f10.params.toList args.toList ds p := hA0
  rw [Try.params10] at hA hval
  have hlt := hA.lt
  obtain ⟨rfl, rfl⟩ := trodVars_none hV
  obtain ⟨v0, vs0, d0, ds0, p0, q0, hargs0, rfl, rfl, h0, r0⟩ := trodAll_cons hA
  obtain ⟨v1, vs1, d1, ds1, p1, q1, hargs1, rfl, rfl, h1, r1⟩ := trodAll_cons r0
  obtain ⟨hnil, rfl, rfl⟩ := trodAll_nil r1
  subst hnil
  subst hargs1
  obtain rfl : args = #[v0, v1] := by cases args; simp_all
  obtain ⟨a0, ok0, R0⟩ := Opens.one (opE_int Try.underlying5) (.inl ⟨_, Try.underlying5⟩) (fun x => rfl) (hval 0 5 v0 rfl rfl) h0
  obtain ⟨a1, ok1, R1⟩ := Opens.one (opE_int Try.underlying5) (.inl ⟨_, Try.underlying5⟩) (fun x => rfl) (hval 1 5 v1 rfl rfl) h1
  clear hA0 hval0 hsz0
  refine ((law a0 a1 ok0 ok1).2 (fun _ _ => False) W #[v0, v1] (fun _ _ h => h.elim) (fun _ _ h => by cases h) rfl (fun i d v hd hv => ?_)).mono fun e W' ⟨cv, he, hr, bel⟩ => ?_
  · exact (CRA_cons R0 (CRA_cons R1 (vs := []) (ds := []) (fun i d v hd => by simp at hd))) i d v hd (by simpa using hv)
  · cases hr
    subst he
    have laid : laidOutB Try.prog = true := by kernel_rfl
    exact ⟨_, rfl, _, _, _, [], _, [], hW', trodAll_mk1 (shut_bool Try.underlying4 _), (trodAll_cons_mk (Below.trod laid (by kernel_rfl) (of_decide_eq_true (by kernel_rfl)) h0 bel (fun x hx => hlt x (by simp [hx]))) (trodAll_cons_mk (Below.trod laid (by kernel_rfl) (of_decide_eq_true (by kernel_rfl)) h1 bel (fun x hx => hlt x (by simp [hx]))) trodAll_mk0)), rfl, bel.frame _, fun h => by cases h⟩

theorem mergeFull_holds : Rows.MergeFullSaid :=
  OpenClaim.holds_of_wide 10 Try.f10 rfl rfl rfl rfl rfl rfl rfl ⟨rfl, rfl, rfl, rfl, rfl⟩ rfl rfl rfl rfl rfl (by kernel_rfl) Try.func10 (by kernel_rfl)
    (of_decide_eq_true (by kernel_rfl)) (by unfold Func.isWrapper; first | (rw [if_pos (by decide +kernel)]; kernel_rfl) | (rw [if_neg (by decide +kernel)]; exact ⟨rfl, rfl⟩))
    (fun os started H enc _ => lifted (fun a0 a1 h0 h1 => c_law10_MergeFull (law_MergeFull a0 a1 h0 h1)) os started H enc)

end Go.Proofs.Ytfjelgjfbjjopaa.MergeFull
