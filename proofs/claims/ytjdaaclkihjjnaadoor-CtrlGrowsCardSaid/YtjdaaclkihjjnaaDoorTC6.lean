import Derived.Test.YtjdaaclkihjjnaaDoorTC5
/-
  The controller: the statement CtrlGrows.
-/
set_option linter.unusedVariables false
set_option linter.unusedSimpArgs false
namespace Go.AM
open Go

theorem index_ok (l : List Int) (s : Int) : slices_Index_api_Set l s = some (ix (l.findIdx? fun x => x == s)) := by
  unfold slices_Index_api_Set
  rw [find_run (fun x => x == s) l _ fun j x hj => by
    simp only [slices_Index_api_Set_b1, gat_nat, hj, Option.bind_some]
    by_cases c : x = s
    · subst c; simp
    · have : ¬ s = x := fun e => c e.symm
      simp [c, this]]
  cases l.findIdx? _ <;> rfl

theorem tag_ok (n : api_Nes) (s : Int) : nes_Tag n s = some (IntKind.u16.wrap (imax (ix (n.Sets.findIdx? fun x => x == s)) 0), decide (ix (n.Sets.findIdx? fun x => x == s) ≥ 0)) := by
  unfold nes_Tag; rw [index_ok]; rfl

/-- Is a set one of the structure's? -/
def isSet (S : List Int) (s : Int) : Bool := (S.findIdx? fun x => x == s).isSome

theorem ix_isSome (o : Option Nat) : decide (ix o ≥ 0) = o.isSome := by cases o <;> simp [ix]
theorem ix_lt0 (o : Option Nat) : decide (ix o < 0) = !o.isSome := by
  cases o with
  | none => rfl
  | some a => show decide ((a : Int) < 0) = false; simp

theorem isSet_mem {S : List Int} {s : Int} (h : s ∈ S) : isSet S s = true := by
  unfold isSet
  rw [List.findIdx?_isSome]
  simp [h]

theorem fits_ok (c : ctrl_Ctrl) (s : Int) : ctrl_Ctrl_fits c s = some (isSet c.n_.Sets s) := by
  unfold ctrl_Ctrl_fits; rw [tag_ok]
  simp only [Option.bind_some, ix_isSome]; rfl

theorem has_ok (c : ctrl_Ctrl) (i : Int) : ctrl_Ctrl_has c i = some (decide (0 ≤ i ∧ i < c.peers.length)) := by
  unfold ctrl_Ctrl_has
  by_cases h1 : 0 ≤ i <;> by_cases h2 : i < c.peers.length <;> simp [h1, h2]

theorem filter_or {α : Type} (p q : α → Bool) : ∀ l : List α, (l.filter fun x => p x || q x).length = (l.filter p).length + (l.filter fun x => q x && !p x).length
  | [] => rfl
  | x :: l => by
    have := filter_or p q l
    simp only [List.filter_cons]
    cases hp : p x <;> cases hq : q x <;> simp [this] <;> omega

theorem bits_or (x y : Nat) : (bits (x ||| y)).length = (bits x).length + (bits (sub64 y x)).length := by
  unfold bits
  have := filter_or (fun e => x.testBit e) (fun e => y.testBit e) (List.range 64)
  simp only [Nat.testBit_or, sub64_bit]
  exact this

/-- What holds of a controller whose known set is K. -/
structure CInv (S : List Int) (c : ctrl_Ctrl) (K : Nat) : Prop where
  sets : c.n_.Sets = S
  known : c.known = K
  lt : K < 2 ^ 64
  peers : c.peers.length = 12
  u : ∀ p ∈ c.peers, U64 p.heard ∧ U64 p.told
  is : isSet S K = true
  ord : ∃ O : List Nat, c.order = castL O ∧ O.length = (bits K).length ∧ ∀ e ∈ O, e < 64 ∧ K.testBit e = true

theorem hear_ok {S : List Int} {c : ctrl_Ctrl} {K x : Nat} (h : CInv S c K) (hx : x < 2 ^ 64) (hs : isSet S x = true) {i : Nat} (hi : i < 12) :
    (∃ c', ctrl_Ctrl_Hear c i x = some (0, c') ∧ CInv S c' (K ||| x)) ∨ (ctrl_Ctrl_Hear c i x = some (31, c) ∧ isSet S ((K ||| x : Nat) : Int) = false) := by
  unfold ctrl_Ctrl_Hear
  simp only [has_ok, fits_ok, h.sets, h.known, Option.bind_some, orI_nat h.lt hx, hs]
  rw [decide_eq_true (show (0 : Int) ≤ i ∧ (i : Int) < c.peers.length by rw [h.peers]; omega)]
  simp only [Bool.not_true, Bool.false_eq_true, if_false, Option.bind_some]
  have hor := Nat.or_lt_two_pow h.lt hx
  cases hf : isSet S ((K ||| x : Nat) : Int)
  · exact .inr ⟨rfl, rfl⟩
  · refine .inl ?_
    simp only [Bool.not_true, Bool.false_eq_true, if_false, andNotI_nat hx h.lt, events_list (sub64_lt hx K), Option.bind_some]
    obtain ⟨O, h1, h2, h3⟩ := h.ord
    have b1 := bits_len K
    have b2 := bits_len (sub64 x K)
    have hip : i < c.peers.length := by rw [h.peers]; exact hi
    rw [gapp_some (by rw [h1, castL_len, castL_len]; omega)]
    simp only [Option.bind_some, gat_nat, List.getElem?_eq_getElem hip]
    rw [gput_lt _ (by omega) (by omega)]
    refine ⟨_, rfl, ⟨h.sets, rfl, hor, by simp [h.peers], fun p hp => ?_, hf, O ++ bits (sub64 x K), by simp only [h1, castL_app], by rw [List.length_append, bits_or, h2], fun e he => ?_⟩⟩
    · rcases List.mem_or_eq_of_mem_set hp with hp | rfl
      · exact h.u p hp
      · exact ⟨.of hx, (h.u _ (List.getElem_mem hip)).2⟩
    · rcases List.mem_append.1 he with he | he
      · have := h3 e he
        rw [Nat.testBit_or, this.2]; exact ⟨this.1, rfl⟩
      · obtain ⟨g1, g2⟩ := mem_bits.1 he
        rw [sub64_bit] at g2
        rw [Nat.testBit_or]
        simp at g2
        simp [g1, g2.1]

theorem andNot_self (x y : Nat) : sub64 x (x ||| y) = 0 := by
  apply Nat.eq_of_testBit_eq
  intro i
  rw [sub64_bit, Nat.testBit_or, Nat.zero_testBit]
  cases x.testBit i <;> simp

theorem tell_ok {S : List Int} {c : ctrl_Ctrl} {K : Nat} (h : CInv S c K) {i : Nat} (hi : i < 12) :
    ∃ c', ctrl_Ctrl_Tell c i = some ((K : Int), 0, c') ∧ CInv S c' K ∧ ctrl_Ctrl_Owes c' i = some false := by
  unfold ctrl_Ctrl_Tell
  have hip : i < c.peers.length := by rw [h.peers]; exact hi
  simp only [has_ok, Option.bind_some]
  rw [decide_eq_true (show (0 : Int) ≤ i ∧ (i : Int) < c.peers.length by rw [h.peers]; omega)]
  simp only [Bool.not_true, Bool.false_eq_true, if_false, gat_nat, List.getElem?_eq_getElem hip, Option.bind_some]
  rw [gput_lt _ (by omega) (by omega)]
  simp only [Option.bind_some, h.known, Int.toNat_natCast]
  obtain ⟨y, hy, hy2⟩ := (h.u _ (List.getElem_mem hip)).1
  refine ⟨_, rfl, ⟨h.sets, rfl, h.lt, by simp [h.peers], fun p hp => ?_, h.is, h.ord⟩, ?_⟩
  · rcases List.mem_or_eq_of_mem_set hp with hp | rfl
    · exact h.u p hp
    · exact ⟨(h.u _ (List.getElem_mem hip)).1, .of h.lt⟩
  · unfold ctrl_Ctrl_Owes
    simp only [has_ok, Option.bind_some, List.length_set]
    rw [decide_eq_true (show (0 : Int) ≤ i ∧ (i : Int) < c.peers.length by rw [h.peers]; omega)]
    simp only [if_true, gat_nat, List.getElem?_set_self hip, Option.bind_some, hy, orI_nat h.lt hy2, events_In, andNotI_nat h.lt (Nat.or_lt_two_pow h.lt hy2), andNot_self]
    rfl

theorem tmod_range {a k : Int} (hk : 0 < k) (h : k ≤ 1000) : ∃ m : Nat, (IntKind.i64.wrap (a.tmod k + k)).tmod k = m ∧ (m : Int) < k := by
  have h1 : a.tmod k < k := Int.tmod_lt_of_pos a hk
  have h2 : -k < a.tmod k := by
    have e := Int.natAbs_tmod a k
    have := Nat.mod_lt a.natAbs (show 0 < k.natAbs by omega)
    omega
  rw [w_i64 (by omega) (by omega)]
  have h3 : 0 ≤ (a.tmod k + k).tmod k := Int.tmod_nonneg k (by omega)
  have h4 : (a.tmod k + k).tmod k < k := Int.tmod_lt_of_pos _ hk
  exact ⟨((a.tmod k + k).tmod k).toNat, by omega, by omega⟩

theorem awake18 : law18_awake = some true := by decide +kernel

theorem and_or_self (x y : Nat) : (x ||| y) &&& x = x := by
  apply Nat.eq_of_testBit_eq
  intro i
  rw [Nat.testBit_and, Nat.testBit_or]
  cases x.testBit i <;> simp

theorem order_ok {S : List Int} {c : ctrl_Ctrl} {K : Nat} (h : CInv S c K) : ctrl_Ctrl_Order c = some (c.order, c) := by
  obtain ⟨O, h1, h2, _⟩ := h.ord
  have := bits_len K
  unfold ctrl_Ctrl_Order slices_Clone_int
  rw [gapp_some (by rw [h1, castL_len]; simp; omega)]
  rfl

/-- The state of the loop is a controller whose known set is all that was heard. -/
def GInv (S : List Int) (q : List api_Event × List Int × List (List Int) × Int × List ctrl_peer × List Int × Int) : Prop :=
  ∃ K : Nat, CInv S (ctrl_Ctrl.mk (api_Nes.mk q.1 q.2.1 q.2.2.1) q.2.2.2.1 q.2.2.2.2.1 q.2.2.2.2.2.1) K ∧ q.2.2.2.2.2.2 = K

theorem ctrl_eta (c : ctrl_Ctrl) : ctrl_Ctrl.mk (api_Nes.mk c.n_.Events c.n_.Sets c.n_.States) c.known c.peers c.order = c := rfl

theorem grows_b2 {S : List Int} {c : ctrl_Ctrl} {K : Nat} (h : CInv S c K) : forR (law18_CtrlGrows_b2 (K : Int) (c.order, c)) (irange 0 (c.order.length : Int)) () = some (.done ()) := by
  rw [any_run (fun _ => false) (Sum.inr (Br.ret false)) c.order _ (fun j x hj => by
    obtain ⟨O, h1, _, h3⟩ := h.ord
    have hm : x ∈ castL O := by rw [← h1]; exact List.mem_of_getElem? hj
    obtain ⟨e, he, rfl⟩ := List.mem_map.1 hm
    obtain ⟨g1, g2⟩ := h3 e he
    simp only [law18_CtrlGrows_b2, gat_nat, hj, Option.bind_some, hasN h.lt g1, g2]
    rfl)]
  simp [exOf]

theorem grows_b1 {n : api_Nes} {a1 : List law18_Act} (hS : NesOk n.Events n.Sets n.States) {i : Nat} (hi : i < a1.length) {q : List api_Event × List Int × List (List Int) × Int × List ctrl_peer × List Int × Int} (hq : GInv n.Sets q) :
    ∃ q', law18_CtrlGrows_b1 a1 (n, 0) i q = some (.next q') ∧ GInv n.Sets q' := by
  obtain ⟨y9, y10, y11, i12, l13, l14, i15⟩ := q
  obtain ⟨K, h, hK⟩ := hq
  simp only at h hK
  subst hK
  have hle := hS.le
  have hpos := hS.pos
  obtain ⟨m, hm, hmk⟩ := tmod_range (a := a1[i].N) (k := (n.Sets.length : Int)) (by omega) (by omega)
  obtain ⟨w, hw, hwk⟩ := tmod_range (a := a1[i].I) (k := 12) (by omega) (by omega)
  have hml : m < n.Sets.length := by omega
  obtain ⟨x, hx, hx2⟩ := hS.u _ (List.getElem_mem hml)
  have hxs : isSet n.Sets (x : Int) = true := isSet_mem (by rw [← hx]; exact List.getElem_mem hml)
  simp only [law18_CtrlGrows_b1, gat_nat, List.getElem?_eq_getElem hi, Option.bind_some]
  rw [remI, if_neg (by omega)]
  simp only [Option.bind_some]
  rw [remI, if_neg (by omega), hm]
  simp only [Option.bind_some, gat_nat, List.getElem?_eq_getElem hml, ctrl_Ctrl_Known, hw]
  have hkn := h.known
  simp only at hkn
  subst hkn
  by_cases c : (a1[i].What == 2) = true
  · rw [if_pos c]
    obtain ⟨c', e1, g1, g2⟩ := tell_ok h (i := w) (by omega)
    rw [e1]
    simp only [Option.bind_some, bne_self_eq_false, Bool.false_eq_true, if_false, g2]
    exact ⟨_, rfl, K, g1, rfl⟩
  · rw [if_neg c, hx]
    rcases hear_ok h hx2 hxs (i := w) (by omega) with ⟨c', e1, g1⟩ | ⟨e1, g1⟩
    · rw [e1]
      simp only [Option.bind_some, beq_self_eq_true, if_true, orI_nat h.lt hx2, ctrl_eta]
      have hk' := g1.known
      have hlt := g1.lt
      simp only [hk', bne_self_eq_false, Bool.false_eq_true, if_false, andI_nat hlt h.lt, and_or_self, tag12, Option.bind_some, ix_lt0]
      have his := g1.is
      unfold isSet at his
      rw [his]
      simp only [Bool.not_true, Bool.false_eq_true, if_false, order_ok g1, list02 hlt, Option.bind_some]
      obtain ⟨O, o1, o2, _⟩ := g1.ord
      have hlen : ((c'.order.length : Int) != ((castL (bits (K ||| x))).length : Int)) = false := by rw [o1, castL_len, castL_len, o2]; simp
      rw [hlen]
      simp only [Bool.false_eq_true, if_false, ctrl_eta, order_ok g1, Option.bind_some, grows_b2 g1]
      exact ⟨_, rfl, K ||| x, g1, rfl⟩
    · rw [e1]
      simp only [Option.bind_some, show ((31 : Int) == 0) = false from rfl, Bool.false_eq_true, if_false, orI_nat h.lt hx2, tag12]
      have : (decide (ix (n.Sets.findIdx? fun z => z == ((K ||| x : Nat) : Int)) ≥ 0)) = false := by rw [ix_isSome]; exact g1
      rw [this]
      simp only [Bool.false_eq_true, if_false, Option.bind_some, ctrl_eta]
      have his := h.is
      unfold isSet at his
      have hkk : ((K : Int) != K) = false := by simp
      simp only [hkk, andI_nat h.lt h.lt, Nat.and_self, Bool.false_eq_true, if_false, tag12, Option.bind_some, ix_lt0, his, Bool.not_true, order_ok h, list02 h.lt, Option.bind_some]
      obtain ⟨O, o1, o2, _⟩ := h.ord
      simp only at o1
      have hlen : ((l14.length : Int) != ((castL (bits K)).length : Int)) = false := by rw [o1, castL_len, castL_len, o2]; simp
      rw [hlen]
      have hb := grows_b2 h
      simp only at hb
      simp only [Bool.false_eq_true, if_false, order_ok h, Option.bind_some, hb]
      exact ⟨_, rfl, K, h, rfl⟩

theorem law_CtrlGrows (a0 : api_Program) (a1 : List law18_Act) : law18_CtrlGrows a0 a1 = some true := by
  unfold law18_CtrlGrows
  rw [awake18]
  simp only [Option.bind_some, Bool.not_true, Bool.false_eq_true, if_false]
  obtain ⟨b, hb, hs⟩ := small_ok (api_Program.mk a0.Init (api_Pol.mk 0 0 0 []) a0.Rules)
  rw [hb]
  simp only [Option.bind_some]
  by_cases c : ((!b) || decide ((a1.length : Int) > 60)) = true
  · rw [if_pos c]
  rw [if_neg c]
  simp at c
  obtain ⟨n, f, e, hn⟩ := of_total (api_Program.mk a0.Init (api_Pol.mk 0 0 0 []) a0.Rules) rfl (hs c.1)
  rw [e]
  simp only [Option.bind_some]
  by_cases c2 : ¬ f = 0
  · rw [if_pos (by simpa using c2)]
  have c2 : f = 0 := by simpa using c2
  subst c2
  rw [if_neg (by simp)]
  have hS := hn rfl
  have hnew : ctrl_New n 12 = some (ctrl_Ctrl.mk n 0 (List.replicate 12 (ctrl_peer.mk 0 0)) []) := rfl
  rw [hnew]
  simp only [Option.bind_some]
  have h0 : GInv n.Sets (n.Events, n.Sets, n.States, 0, List.replicate 12 (ctrl_peer.mk 0 0), [], 0) := by
    refine ⟨0, ⟨rfl, rfl, by omega, by simp, fun p hp => ?_, isSet_mem (List.mem_of_getElem? hS.zero), [], rfl, rfl, by simp⟩, rfl⟩
    have := List.eq_of_mem_replicate hp
    subst this
    exact ⟨.of (x := 0) (by omega), .of (x := 0) (by omega)⟩
  have := forR_keep (law18_CtrlGrows_b1 a1 (n, 0)) a1.length (GInv n.Sets) (fun _ => False) _ h0 (fun i hi q hq => by
    obtain ⟨q', e, h⟩ := grows_b1 hS hi hq
    exact .inl ⟨q', e, h⟩)
  rcases this with ⟨q, e, _⟩ | ⟨r, _, h⟩
  · rw [e]; rfl
  · exact h.elim

end Go.AM
