import Derived.Test.YtfjelgjfbjjopaaDoorAmN8
import Derived.OpenShut
import Derived.FnData
set_option linter.unusedVariables false
namespace Go.AM
open Go Go.RowKit Go.ChangeShapes
theorem glob_u8 {P : Program} {H : Type} {enc : TypeId × Value → H} {w : World} {name : String} {g : Nat} {t e : TypeId} {n fuel : Nat} {l : List Int} {cs : Array Value} {base : Nat} {sp : Nat → Bool} {held : Bool} {pl : List MemPlace}
    (hg : P.globalNamed name = some g) (hv : w.var? P name = some cs) (ht : P.underlying t = some (.array n e)) (he : P.underlying e = some (.int .u8)) (hc : P.cellsOf e = 1)
    (hd : DataW.trod enc P w base sp held fuel t cs.toList = some (.agg (l.map fun n => .lit (.int .u8 n)), pl)) : ∀ (i : Nat) k, l[i]? = some k → w.cell? ⟨g, i, none⟩ = some (.int .u8 k) := by
  obtain ⟨xs, m, rfl, hx, hlen, hn, hel⟩ := DataW.trod_array ht hd
  simp only [Prod.mk.injEq, DataW.agg.injEq] at hx
  intro i k hk
  have hxl : xs.length = l.length := by
    have := congrArg List.length hx.1
    simpa using this.symm
  have hi : i < l.length := (List.getElem?_eq_some_iff.1 hk).1
  have hi2 : i < xs.length := by omega
  have h1 := hel i (by omega)
  rw [hc, Nat.mul_one, bt hi2] at h1
  obtain ⟨k', e1, e2, _⟩ := DataW.trod_int he h1
  have e3 : (xs.map (·.1))[i]? = (l.map fun n => (DataW.lit (.int .u8 n) : DataW H))[i]? := by rw [hx.1]
  rw [List.getElem?_map, List.getElem?_map, bt hi2, hk, e2] at e3
  simp only [Option.map_some, Option.some.injEq, DataW.lit.injEq, Lit.int.injEq, true_and] at e3
  subst e3
  rw [World.var?_cell hg hv i]
  have : (cs.toList.drop i)[0]? = some (.int .u8 k') := by
    have h2 : ((cs.toList.drop i).take 1)[0]? = some (.int .u8 k') := by rw [e1]; rfl
    rwa [List.getElem?_take, if_pos (by decide)] at h2
  simpa using this
end Go.AM
