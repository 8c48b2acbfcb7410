import Derived.Test.YtfjelgjfbjjopaaAmDel
import Derived.Test.YtfjelgjfbjjopaaUlW1
import Derived.Test.YtfjelgjfbjjopaaAmGlue
import Derived.Test.YtfjelgjfbjjopaaRows
import Derived.WalkKit
import Derived.ProofKit
import Derived.OpenShut
import Derived.ShutString
import Derived.ChangeOld
import Derived.Below
import Derived.Carry
import Derived.SizedLaws
/- Lists of more than 1000 rows have no edits. -/
namespace Go.Proofs.Ytfjelgjfbjjopaa.UpdateLong
open Go Go.ChangeShapes Go.WideShapes Go.ChangeAt Go.RowKit Go.AM
open Go.ChangeMaps (open_string shut_string)
set_option linter.unusedVariables false
set_option linter.unusedSimpArgs false
theorem u8_rng {n : Int} (h : IntKind.u8.wrap n = n) : 0 ≤ n ∧ n < 256 := by rw [w_u8] at h; omega
theorem law_UpdateLong (a0 : Int) (h : IntKind.u8.wrap a0 = a0) : law34_UpdateLong a0 = some true := AM.law_UpdateLong a0 (u8_rng h)
theorem own : ownKnob Try.prog.godebug = none := by kernel_rfl
set_option maxRecDepth 100000 in
theorem lifted (law : ∀ (a0 : Int), (IntKind.u8.wrap a0 = a0) → PCall Try.prog 6 [(D.int .u8) a0] (.bool true)) (os : Os) (started : os.Started) (H : Type) (enc : TypeId × Value → H) :
    ReturnsInHanded {} Try.checked os 6 .any (Rows.updateLongSpec.pre6 enc Try.prog Try.f6 Rows.updateLongRow.domain false) (Rows.updateLongSpec.post enc Try.prog Try.f6 false true false false) := by
  refine returnsInHanded_of_change_sized (C := Try.checked) own started (by kernel_rfl) Try.func6
    (ChangeSpec.witness6 (enc := enc) (C := Try.checked) false ⟨#[], #[.int .u8 0], []⟩ 8 (by kernel_rfl) (by kernel_rfl) (by kernel_rfl) (by kernel_rfl)) ?_
  intro W base args ds gs before hval0 hW hcnd hsz0 _
  have hval : ∀ (j : Nat) t v, Try.f6.params[j]? = some t → args[j]? = some v → Value.okWide Try.prog W .any base t v := hval0
  have hW' := hW
  obtain ⟨p, q, hA0, hV, rfl, hfz, hnd⟩ := hW
  have hA : DataW.TrodAll enc Try.prog W 0 (fun _ => true) true Try.f6.params.toList args.toList ds p := hA0
  rw [Try.params6] at hA hval
  have hlt := hA.lt
  obtain ⟨rfl, rfl⟩ := trodVars_none hV
  obtain ⟨v0, vs0, d0, ds0, p0, q0, hargs0, rfl, rfl, h0, r0⟩ := trodAll_cons hA
  obtain ⟨hnil, rfl, rfl⟩ := trodAll_nil r0
  subst hnil
  obtain rfl : args = #[v0] := by cases args; simp_all
  obtain ⟨a0, ok0, R0⟩ := Opens.one (opE_int Try.underlying5) (.inl ⟨_, Try.underlying5⟩) (fun x => rfl) (hval 0 5 v0 rfl rfl) h0
  clear hA0 hval0 hsz0
  refine ((law a0 ok0).2 (fun _ _ => False) W #[v0] (fun _ _ h => h.elim) (fun _ _ h => by cases h) rfl (fun i d v hd hv => ?_)).mono fun e W' ⟨cv, he, hr, bel⟩ => ?_
  · exact (CRA_cons R0 (vs := []) (ds := []) (fun i d v hd => by simp at hd)) i d v hd (by simpa using hv)
  · cases hr
    subst he
    have laid : laidOutB Try.prog = true := by kernel_rfl
    exact ⟨_, rfl, _, _, _, [], _, [], hW', trodAll_mk1 (shut_bool Try.underlying4 _), (trodAll_cons_mk (Below.trod laid (by kernel_rfl) (of_decide_eq_true (by kernel_rfl)) h0 bel (fun x hx => hlt x (by simp [hx]))) trodAll_mk0), rfl, bel.frame _, fun h => by cases h⟩
theorem updateLong_holds : Rows.UpdateLongSaid :=
  OpenClaim.holds_of_wide 6 Try.f6 rfl rfl rfl rfl rfl rfl rfl ⟨rfl, rfl, rfl, rfl, rfl⟩ rfl rfl rfl rfl rfl (by kernel_rfl) Try.func6 (by kernel_rfl)
    (of_decide_eq_true (by kernel_rfl)) (by unfold Func.isWrapper; first | (rw [if_pos (by decide +kernel)]; kernel_rfl) | (rw [if_neg (by decide +kernel)]; exact ⟨rfl, rfl⟩))
    (fun os started H enc _ => lifted (fun a0 h0 => c_law34_UpdateLong (law_UpdateLong a0 h0)) os started H enc)
end Go.Proofs.Ytfjelgjfbjjopaa.UpdateLong
