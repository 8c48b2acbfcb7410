import Derived.Test.YtkgegocfjalcbaaSvW3
import Derived.Test.YtkgegocfjalcbaaTV9
import Derived.Test.YtkgegocfjalcbaaAmGlue
import Derived.Test.YtkgegocfjalcbaaRows
import Derived.WalkKit
import Derived.ProofKit
import Derived.OpenShut
import Derived.ShutString
import Derived.ChangeOld
import Derived.Below
import Derived.Carry
import Derived.SizedLaws
/- Any bytes are decoded by the program as the document says: the Go function SaveAny answers true for every input. -/
namespace Go.Proofs.Ytkgegocfjalcbaa.SaveAny
open Go Go.ChangeShapes Go.WideShapes Go.ChangeAt Go.RowKit Go.AM
open Go.ChangeMaps (open_string shut_string)
set_option linter.unusedVariables false
set_option linter.unusedSimpArgs false

theorem law_SaveAny (a0 : ByteArray) (_ : a0.size ≤ maxLen) : law32_SaveAny a0 = some true := law_any a0

theorem own : ownKnob Try.prog.godebug = none := by kernel_rfl

set_option maxRecDepth 100000 in
theorem lifted (law : ∀ (a0 : ByteArray), (a0.size ≤ maxLen) → PCall Try.prog 3 [D.str a0] (.bool true)) (os : Os) (started : os.Started) (H : Type) (enc : TypeId × Value → H) :
    ReturnsInHanded {} Try.checked os 3 .any (Rows.saveAnySpec.pre6 enc Try.prog Try.f3 Rows.saveAnyRow.domain false) (Rows.saveAnySpec.post enc Try.prog Try.f3 false true false false) := by
  refine returnsInHanded_of_change_sized (C := Try.checked) own started (by kernel_rfl) Try.func3
    (ChangeSpec.witness6 (enc := enc) (C := Try.checked) false ⟨#[], #[.string ByteArray.empty], []⟩ 8 (by kernel_rfl) (by kernel_rfl) (by kernel_rfl) (by kernel_rfl)) ?_
  intro W base args ds gs before hval0 hW hcnd hsz0 _
  have hval : ∀ (j : Nat) t v, Try.f3.params[j]? = some t → args[j]? = some v → Value.okWide Try.prog W .any base t v := hval0
  have hW' := hW
  obtain ⟨p, q, hA0, hV, rfl, hfz, hnd⟩ := hW
  have hA : DataW.TrodAll enc Try.prog W 0 (fun _ => true) true Try.f3.params.toList args.toList ds p := hA0
  rw [Try.params3] at hA hval
  have hlt := hA.lt
  obtain ⟨rfl, rfl⟩ := trodVars_none hV
  obtain ⟨v0, vs0, d0, ds0, p0, q0, hargs0, rfl, rfl, h0, r0⟩ := trodAll_cons hA
  obtain ⟨hnil, rfl, rfl⟩ := trodAll_nil r0
  subst hnil
  obtain rfl : args = #[v0] := by cases args; simp_all
  obtain ⟨a0, ok0, R0⟩ := Opens.one (opE_str Try.underlying9) (.inr (.inr (.inl Try.underlying9))) (fun x => rfl) (hval 0 9 v0 rfl rfl) h0
  clear hA0 hval0 hsz0
  refine ((law a0 ok0).2 (fun _ _ => False) W #[v0] (fun _ _ h => h.elim) rfl (fun i d v hd hv => ?_)).mono fun e W' ⟨cv, he, hr, bel⟩ => ?_
  · exact (CRA_cons R0 (vs := []) (ds := []) (fun i d v hd => by simp at hd)) i d v hd (by simpa using hv)
  · cases hr
    subst he
    have laid : laidOutB Try.prog = true := by kernel_rfl
    exact ⟨_, rfl, _, _, _, [], _, [], hW', trodAll_mk1 (shut_bool Try.underlying4 _), (trodAll_cons_mk (Below.trod laid (by kernel_rfl) (of_decide_eq_true (by kernel_rfl)) h0 bel (fun x hx => hlt x (by simp [hx]))) trodAll_mk0), rfl, bel.frame _, fun h => by cases h⟩

theorem saveAny_holds : Rows.SaveAnySaid :=
  OpenClaim.holds_of_wide 3 Try.f3 rfl rfl rfl rfl rfl rfl rfl ⟨rfl, rfl, rfl, rfl, rfl⟩ rfl rfl rfl rfl rfl (by kernel_rfl) Try.func3 (by kernel_rfl)
    (of_decide_eq_true (by kernel_rfl)) (by unfold Func.isWrapper; first | (rw [if_pos (by decide +kernel)]; kernel_rfl) | (rw [if_neg (by decide +kernel)]; exact ⟨rfl, rfl⟩))
    (fun os started H enc _ => lifted (fun a0 h0 => c_law32_SaveAny (law_SaveAny a0 h0)) os started H enc)

end Go.Proofs.Ytkgegocfjalcbaa.SaveAny
