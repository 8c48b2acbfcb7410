import Derived.Test.YtkgegocfjalcbaaSP2
import Derived.Test.YtkgegocfjalcbaaSP3
/-
  Layer 11 of the program: its states and edges, as the document's.
-/
set_option linter.unusedVariables false
set_option linter.unusedSimpArgs false
namespace Go.AM
open Go

/-! the form of a program -/

theorem sizeS_drop : syntax_Size dropP = some 1 := by
  obtain ⟨m, hm⟩ := FUEL_big 1 (by omega)
  unfold syntax_Size; rw [hm]; rfl
theorem depthS_drop : syntax_Depth dropP = some 1 := by
  obtain ⟨m, hm⟩ := FUEL_big 1 (by omega)
  unfold syntax_Depth; rw [hm]; rfl
theorem formedS_drop (n : Int) : syntax_formed dropP n = some true := by
  obtain ⟨m, hm⟩ := FUEL_big 1 (by omega)
  unfold syntax_formed; rw [hm]; rfl

theorem once_eq (l : List api_Pair) (n : Int) : syntax_once l n = ref05_rising l n := rfl

theorem checkS_ok (p : api_Program) (hp : p.Pol = dropP) (hs : SmallP p) : syntax_Check p = some (chk05 p) := by
  obtain ⟨h1, h2, h3⟩ := hs
  unfold syntax_Check chk05
  rw [hp, sizeS_drop, depthS_drop, formedS_drop]
  by_cases c1 : p.Init.length < 1
  · rw [if_pos (by simp; omega), if_pos (by omega)]; rfl
  by_cases c2 : p.Init.length > 4
  · rw [if_neg (by simp; omega), if_pos (by simp; omega), if_pos (by omega)]; rfl
  rw [if_neg (by simp; omega), if_neg (by simp; omega)]
  by_cases c3 : p.Rules.length > 24
  · rw [if_pos (show p.Init.length < 1 ∨ p.Init.length > 4 ∨ p.Rules.length > 24 by omega)]
    have e : (decide ((p.Rules.length : Int) > 24)) = true := by simp; omega
    simp only [Option.bind_some, e, show decide ((1 : Int) > 300) = false from rfl, show decide ((1 : Int) > 20) = false from rfl, Bool.false_eq_true, if_false, if_true]
  rw [if_neg (show ¬ (p.Init.length < 1 ∨ p.Init.length > 4 ∨ p.Rules.length > 24) by omega)]
  have e : (decide ((p.Rules.length : Int) > 24)) = false := by simp; omega
  simp only [Option.bind_some, e, Bool.not_true, Bool.false_eq_true, if_false, show decide ((1 : Int) > 300) = false from rfl, show decide ((1 : Int) > 20) = false from rfl]
  rw [any_run (fun r => ruleBad r p.Init.length) 11 p.Rules]
  · cases p.Rules.any _ <;> rfl
  intro j x hj
  obtain ⟨g1, g2, g3⟩ := h3 x (List.mem_of_getElem? hj)
  unfold syntax_Check_b1
  simp only [gat_nat, hj, Option.bind_some, once_eq, rising_ok _ _ (show x.When.length ≤ 1000 by omega), rising_ok _ _ (show x.Guard.length ≤ 1000 by omega), rising_ok _ _ (show x.Then.length ≤ 1000 by omega)]
  unfold ruleBad
  match hw : x.When with
  | [] => simp
  | [a] => simp
  | a :: b :: r =>
    simp [gat]
    by_cases d1 : a.F = 0
    · by_cases d2 : b.F = 1
      · cases d3 : risingB (a :: b :: r) 8 <;> cases d4 : risingB x.Guard (p.Init.length : Int) <;> cases d5 : risingB x.Then (p.Init.length : Int) <;> cases d6 : x.Then <;> simp [d1, d2, d3, d4, d5, show ((2 : Int) ≤ (r.length : Int) + 1 + 1) by omega, show ¬ (r.length + 1 + 1 < 2) by omega] <;> (try omega)
      · simp [d1, d2, show ((2 : Int) ≤ (r.length : Int) + 1 + 1) by omega]
    · simp [d1, show ((2 : Int) ≤ (r.length : Int) + 1 + 1) by omega]

/-! keys -/

def U16 (s : List Int) : Prop := ∀ x ∈ s, IntKind.u16.wrap x = x

def keyL (s : List Int) : List Int := s.flatMap fun x => [IntKind.u8.wrap (x.fdiv (2 ^ 8)), IntKind.u8.wrap x]
def keyB (s : List Int) : ByteArray := strOfB (keyL s)

theorem keyL_len (s : List Int) : (keyL s).length = 2 * s.length := by
  unfold keyL
  induction s with
  | nil => rfl
  | cons x s ih => simp only [List.flatMap_cons, List.length_append, ih, List.length_cons, List.length_nil]; omega

theorem key_ok (s : List Int) (hl : s.length ≤ 1000) : space_key s = some (keyB s) := by
  unfold space_key
  obtain ⟨t, e, ht⟩ := forO_list (space_key_b1 s) s (fun l t => t = keyL l) [] rfl (fun i x t hx ht => by
    subst ht
    refine ⟨keyL (s.take i ++ [x]), ?_, rfl⟩
    have hlen : (keyL (s.take i)).length ≤ 2000 := by rw [keyL_len]; simp; omega
    simp only [space_key_b1, gat_nat, hx, Option.bind_some]
    rw [gapp_some (by simp; omega)]
    simp [keyL])
  subst ht
  rw [e]; rfl

theorem byte_wrap (x : Int) : 0 ≤ IntKind.u8.wrap x ∧ IntKind.u8.wrap x < 256 := by
  have e : IntKind.u8.wrap x = x % 256 := rfl
  rw [e]; omega

theorem keyL_byte (s : List Int) : Byte (keyL s) := by
  intro b hb
  unfold keyL at hb
  obtain ⟨x, _, hb⟩ := List.mem_flatMap.1 hb
  rcases List.mem_cons.1 hb with rfl | hb
  · exact byte_wrap _
  · rcases List.mem_cons.1 hb with rfl | hb
    · exact byte_wrap _
    · cases hb

theorem keyL_inj : ∀ {s t : List Int}, U16 s → U16 t → keyL s = keyL t → s = t
  | [], [], _, _, _ => rfl
  | [], _ :: _, _, _, h => by simp [keyL] at h
  | _ :: _, [], _, _, h => by simp [keyL] at h
  | x :: s, y :: t, hs, ht, h => by
    simp only [keyL, List.flatMap_cons, List.cons_append, List.nil_append, List.cons.injEq] at h
    obtain ⟨h1, h2, h3⟩ := h
    have e1 := hs x (by simp)
    have e2 := ht y (by simp)
    have f8 : ∀ z : Int, IntKind.u8.wrap z = z % 256 := fun z => rfl
    have f16 : ∀ z : Int, IntKind.u16.wrap z = z % 65536 := fun z => rfl
    rw [f8, f8] at h1 h2
    rw [f16] at e1 e2
    have d : ∀ z : Int, z.fdiv (2 ^ 8) = z / 256 := fun z => by
      rw [show ((2 : Int) ^ 8) = 256 from rfl]; exact Int.fdiv_eq_ediv_of_nonneg _ (by decide)
    rw [d, d] at h1
    have : x = y := by omega
    subst this
    rw [keyL_inj (fun z hz => hs z (by simp [hz])) (fun z hz => ht z (by simp [hz])) h3]

theorem keyB_inj {s t : List Int} (hs : U16 s) (ht : U16 t) (h : keyB s = keyB t) : s = t :=
  keyL_inj hs ht (strOfB_inj (keyL_byte s) (keyL_byte t) h)

/-! the map of the states -/

def mapF (a : Nat) : List (List Int) → List (ByteArray × Int)
  | [] => []
  | s :: S => (keyB s, (a : Int)) :: mapF (a + 1) S
def mapOf (S : List (List Int)) : List (ByteArray × Int) := mapF 0 S

theorem mget_mapF {t : List Int} (ht : U16 t) : ∀ (S : List (List Int)) (a : Nat), (∀ s ∈ S, U16 s) → mget (mapF a S) (keyB t) = (S.findIdx? fun x => sameB x t).map fun i => ((i + a : Nat) : Int)
  | [], a, _ => rfl
  | s :: S, a, h => by
    simp only [mapF, mget, List.findIdx?_cons]
    by_cases c : s = t
    · subst c; simp [sameB]
    · have h1 : ¬ keyB t = keyB s := fun e => c (keyB_inj (h s (by simp)) ht e.symm)
      rw [if_neg h1, mget_mapF ht S (a + 1) fun x hx => h x (by simp [hx])]
      simp only [sameB, c, decide_false, Bool.false_eq_true, if_false, Option.map_map]
      congr 1
      funext i
      simp only [Function.comp_apply]
      omega

theorem mput_new {κ ν : Type} [DecidableEq κ] {k : κ} {v : ν} : ∀ {m : List (κ × ν)}, mget m k = none → mput m k v = m ++ [(k, v)]
  | [], _ => rfl
  | p :: m, h => by
    simp only [mget] at h
    split at h
    · cases h
    · rename_i c
      simp only [mput, if_neg c, mput_new h, List.cons_append]

theorem mapF_app (t : List Int) : ∀ (S : List (List Int)) (a : Nat), mapF a (S ++ [t]) = mapF a S ++ [(keyB t, ((a + S.length : Nat) : Int))]
  | [], a => rfl
  | s :: S, a => by
    simp only [List.cons_append, mapF, mapF_app t S (a + 1), List.length_cons]
    rw [show a + 1 + S.length = a + (S.length + 1) by omega]

def placed (S : List (List Int)) (t : List Int) : List (List Int) × Int := match S.findIdx? (fun x => sameB x t) with
  | some a => (S, a)
  | none => (S ++ [t], S.length)

theorem place_ok {S : List (List Int)} {E : List api_Edge} {t : List Int} (hS : ∀ s ∈ S, U16 s) (ht : U16 t) (hl : t.length ≤ 1000) (hSl : S.length ≤ 1000) :
    space_explorer_place (space_explorer.mk (api_Space.mk S E) (mapOf S)) t = some ((placed S t).2, space_explorer.mk (api_Space.mk (placed S t).1 E) (mapOf (placed S t).1)) := by
  unfold space_explorer_place placed
  rw [key_ok t hl]
  simp only [Option.bind_some]
  have hm := mget_mapF ht S 0 hS
  cases hf : S.findIdx? (fun x => sameB x t) with
  | some a =>
    rw [hf] at hm
    have hm' : mget (mapOf S) (keyB t) = some (a : Int) := hm
    rw [hm']
    rfl
  | none =>
    rw [hf] at hm
    have hm' : mget (mapOf S) (keyB t) = none := hm
    rw [hm']
    simp only [Option.isSome_none, Bool.not_false, if_true]
    rw [gapp_some (by simp; omega), mput_new hm']
    simp only [Option.bind_some, mapOf, mapF_app, Nat.zero_add]

theorem equal16 (a b : List Int) : slices_Equal_uint16 a b = some (sameB a b) := by
  unfold slices_Equal_uint16 sameB
  by_cases h : a.length = b.length
  · rw [if_neg (by simp; omega)]
    rw [forR_zip _ (fun x : Int × Int => if x.1 ≠ x.2 then some false else none) a b h (fun j x y hx hy => by
      simp only [slices_Equal_uint16_b1, gat_nat, hx, hy, Option.bind_some]
      by_cases c : x = y
      · subst c; simp [brOf]
      · simp [c, brOf])]
    have := zip_ne h
    have e : (fun x : Int × Int => if x.1 ≠ x.2 then some false else (none : Option Bool)) = fun x => if (decide (x.1 ≠ x.2)) then some false else none := by funext x; simp
    rw [e, runL_any, this]
    by_cases c : a = b
    · subst c; simp [exOf]
    · simp [c, exOf]
  · rw [if_pos (by simp; omega)]
    have : a ≠ b := fun e => h (by rw [e])
    simp [this]

/-! one rule -/

theorem u16_put {s : List Int} {t : api_Pair} (hs : U16 s) (ht : IntKind.u16.wrap t.N = t.N) : U16 (put1 s t) := by
  unfold put1
  split
  · intro x hx
    rcases List.mem_or_eq_of_mem_set hx with hx | rfl
    · exact hs x hx
    · exact ht
  · exact hs

theorem u16_aft {r : api_Rule} {s : List Int} (hs : U16 s) (hr : ∀ t ∈ r.Then, IntKind.u16.wrap t.N = t.N) : U16 (aftL r s) := by
  unfold aftL
  have : ∀ (l : List api_Pair) (s : List Int), U16 s → (∀ t ∈ l, IntKind.u16.wrap t.N = t.N) → U16 (l.foldl put1 s) := by
    intro l
    induction l with
    | nil => intro s h _; exact h
    | cons t l ih => intro s h hl; exact ih _ (u16_put h (hl t (by simp))) fun x hx => hl x (by simp [hx])
  exact this _ _ hs hr

theorem b2S_eq (p : api_Program) {i k : Nat} {S : List (List Int)} {E : List api_Edge} {r : api_Rule} {s : List Int} (hr : p.Rules[k]? = some r) (hs : S[i]? = some s) (h1 : s.length ≤ 1000) (h2 : S.length ≤ 1000) (h3 : E.length ≤ 100000)
    (hg : r.Guard.length ≤ 1000) (hS : ∀ s ∈ S, U16 s) (hN : ∀ t ∈ r.Then, IntKind.u16.wrap t.N = t.N) :
    space_Explore_b2 p i k (S, E, mapOf S) = some (match stepE r s i k S E with | .go S' E' => .next (S', E', mapOf S') | .many => .ret (.ret (noneS, 21))) := by
  unfold space_Explore_b2 stepE
  simp only [gat_nat, hr, hs, Option.bind_some, goes_ok r s hg, after_ok r s h1, equal16]
  have hsu := hS s (List.mem_of_getElem? hs)
  cases hgo : goB r s
  · simp
  have hsw : sameB s (aftL r s) = sameB (aftL r s) s := by unfold sameB; simp [eq_comm]
  rw [hsw]
  cases hsm : sameB (aftL r s) s
  · simp only [Bool.not_true, Bool.false_eq_true, if_false, Option.bind_some, Bool.not_false, Bool.and_self, if_true]
    rw [place_ok hS (u16_aft hsu hN) (by rw [aftL_len]; exact h1) h2]
    simp only [Option.bind_some]
    rw [gapp_some (by simp; omega)]
    simp only [Option.bind_some]
    unfold placed
    cases hf : S.findIdx? (fun x => sameB x (aftL r s)) with
    | some a =>
      simp only
      by_cases c : S.length > 128
      · rw [if_pos (by simp; omega), if_pos c]; rfl
      · rw [if_neg (by simp; omega), if_neg c]; rfl
    | none =>
      simp only
      by_cases c : S.length + 1 > 128
      · rw [if_pos (by simp; omega), if_pos c]; rfl
      · rw [if_neg (by simp; omega), if_neg c]; rfl
  · simp
end Go.AM
