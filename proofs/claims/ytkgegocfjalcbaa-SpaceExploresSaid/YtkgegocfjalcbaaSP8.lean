import Derived.Test.YtkgegocfjalcbaaSP7
/-
  Layer 11: the program's states and edges are the document's.
-/
set_option linter.unusedVariables false
set_option linter.unusedSimpArgs false
namespace Go.AM
open Go

theorem explore_eq (p : api_Program) (hp : p.Pol = dropP) (hs : SmallP p) (hr : RulesOk p) : ∃ x f, space_Explore p = some (x, f) ∧ ref11_Explore p = some (x, f) ∧ (f = 0 → SpU p.Init.length x.States x.Edges ∧ x.Edges.length ≤ 26 * 128) ∧ (f ≠ 0 → x = noneS) := by
  unfold space_Explore ref11_Explore
  rw [check_ok p hp hs, checkS_ok p hp hs]
  simp only [Option.bind_some]
  obtain ⟨h1, h2, h3⟩ := hs
  by_cases c : chk05 p = 0
  · rw [if_neg (by simpa using c), if_neg (by simpa using c)]
    unfold slices_Clone_uint16
    rw [gapp_some (by simp; omega)]
    simp only [Option.bind_some, List.nil_append]
    have hu : U16 p.Init := hr.1 p.Init (by simp)
    have hpl := place_ok (S := []) (E := []) (t := p.Init) (by simp) hu (by omega) (by simp)
    have hm0 : mapOf [] = ([] : List (ByteArray × Int)) := rfl
    rw [hm0] at hpl
    rw [hpl]
    simp only [Option.bind_some]
    have hp1 : (placed [] p.Init).1 = [p.Init] := rfl
    rw [hp1]
    have hok : SpU p.Init.length [p.Init] [] := ⟨⟨by simp, by simp, by simp, by simp⟩, hr.1, fun j h0 hj => by simp at hj; omega⟩
    obtain ⟨m, hm⟩ := FUEL_big 200 (by omega)
    rcases outer_sim p (n := p.Init.length) (by omega) h2 hr 129 FUEL 0 [p.Init] [] hok (by simp) (by simp) (by omega) (by omega) with ⟨S, E, j, e1, e2, g1, g2⟩ | ⟨e1, e2⟩
    · have e1' : whR (ref11_Explore_b1 p) FUEL ([p.Init], [], 0) = some (.done (S, E, j)) := e1
      have e2' : whR (space_Explore_b1 p) FUEL ([p.Init], [], mapOf [p.Init], 0) = some (.done (S, E, mapOf S, j)) := e2
      rw [e1', e2']
      simp only [Option.bind_some]
      rw [back_eq g1 (by omega)]
      obtain ⟨b, hb, _⟩ := round_spec S E g1.ok.edg (by have := g1.ok.le; omega)
      rw [hb]
      cases b
      · exact ⟨_, _, rfl, rfl, fun _ => ⟨g1, g2⟩, fun h => (h rfl).elim⟩
      · exact ⟨_, _, rfl, rfl, fun h => by simp at h, fun _ => rfl⟩
    · have e1' : whR (ref11_Explore_b1 p) FUEL ([p.Init], [], 0) = some (.ret (noneS, 21)) := e1
      have e2' : whR (space_Explore_b1 p) FUEL ([p.Init], [], mapOf [p.Init], 0) = some (.ret (noneS, 21)) := e2
      rw [e1', e2']
      exact ⟨_, _, rfl, rfl, fun h => by simp at h, fun _ => rfl⟩
  · rw [if_pos (by simpa using c), if_pos (by simpa using c)]
    exact ⟨_, _, rfl, rfl, fun h => (c h).elim, fun _ => rfl⟩

theorem sameS (x : api_Space) : law11_Same x x = some true := by
  unfold law11_Same
  rw [if_neg (by simp)]
  rw [any_run (fun _ => false) false x.States _ (fun j s hj => by simp [law11_Same_b1, gat_nat, hj, same11, sameB])]
  rw [any_run (fun _ => false) false x.Edges _ (fun j s hj => by simp [law11_Same_b2, gat_nat, hj])]
  have hA : (x.States.any fun _ => false) = false := by simp
  have hB : (x.Edges.any fun _ => false) = false := by simp
  rw [hA, hB]
  rfl

/-- What the input's form tells of it. -/
def RulesOk' (p : api_Program) : Prop := U16 p.Init ∧ ∀ r ∈ p.Rules, ∀ t ∈ r.Then, IntKind.u16.wrap t.N = t.N

theorem RulesOk'.ok {p : api_Program} {q : api_Pol} (h : RulesOk' p) (hs : SmallP (api_Program.mk p.Init q p.Rules)) : RulesOk (api_Program.mk p.Init q p.Rules) :=
  ⟨fun s hs => by simp at hs; subst hs; exact h.1, fun r hr => ⟨by have := (hs.2.2 r hr).2.1; omega, h.2 r hr⟩⟩

theorem law_explores (a0 : api_Program) (hr : RulesOk' a0) : law11_SpaceExplores a0 = some true := by
  unfold law11_SpaceExplores
  rw [awake11]
  simp only [Option.bind_some, Bool.not_true, Bool.false_eq_true, if_false]
  obtain ⟨b, hb, hsm⟩ := small_ok (api_Program.mk a0.Init (api_Pol.mk 0 0 0 []) a0.Rules)
  rw [hb]
  cases b with
  | false => rfl
  | true =>
    have hs := hsm rfl
    simp only [Option.bind_some, Bool.not_true, Bool.false_eq_true, if_false]
    obtain ⟨x, f, e1, e2, _⟩ := explore_eq _ rfl hs (hr.ok hs)
    rw [e1, e2]
    simp [sameS]
end Go.AM
