import Derived.Test.YtkgegocfjalcbaaSP6
/-
  Layer 11: the program's search for a way back.
-/
set_option linter.unusedVariables false
set_option linter.unusedSimpArgs false
namespace Go.AM
open Go

def outE (E : List api_Edge) (i : Nat) : List api_Edge := E.filter fun e => e.From == (i : Int)

theorem from_ok (S : List (List Int)) (E : List api_Edge) (hE : E.length ≤ 100000) (i : Nat) : space_From (api_Space.mk S E) i = some (outE E i) := by
  unfold space_From
  obtain ⟨t, e, ht⟩ := forO_list (space_From_b1 (api_Space.mk S E) i) E (fun m t => t = outE m i) [] rfl (fun k x t hx ht => by
    subst ht
    have hlen : (outE (E.take k) i).length ≤ 100000 := by
      have := List.length_filter_le (fun e : api_Edge => e.From == (i : Int)) (E.take k)
      have h2 : (E.take k).length ≤ E.length := by simp; omega
      unfold outE; omega
    refine ⟨outE (E.take k ++ [x]) i, ?_, rfl⟩
    have e1 : outE (E.take k ++ [x]) i = outE (E.take k) i ++ (if x.From == (i : Int) then [x] else []) := by
      unfold outE
      rw [List.filter_append]
      congr 1
      by_cases c : (x.From == (i : Int)) = true <;> simp [List.filter_cons, c]
    rw [e1]
    simp only [space_From_b1, gat_nat, hx, Option.bind_some]
    by_cases c : (x.From == (i : Int)) = true
    · rw [if_pos c, if_pos c, gapp_some (by simp; omega)]; rfl
    · rw [if_neg c, if_neg c]; simp)
  simp only
  rw [e, ht]; rfl

theorem mem_out {E : List api_Edge} {i : Nat} {e : api_Edge} : e ∈ outE E i ↔ e ∈ E ∧ e.From = (i : Int) := by simp [outE]

structure Col (E : List api_Edge) (N : Nat) (c : List Int) : Prop where
  len : c.length = N
  val : ∀ x ∈ c, x = 0 ∨ x = 1 ∨ x = 2
  blk : ∀ i : Nat, c[i]? = some 2 → Term E i

def whites (c : List Int) : Nat := c.countP fun x => x == 0

/-- The search has gone from 'c' to 'd'. -/
structure Gone (E : List api_Edge) (N : Nat) (c d : List Int) : Prop where
  col : Col E N d
  gray : ∀ i : Nat, d[i]? = some 1 ↔ c[i]? = some 1
  black : ∀ i : Nat, c[i]? = some 2 → d[i]? = some 2
  wh : whites d ≤ whites c

theorem Gone.trans {E : List api_Edge} {N : Nat} {c d e : List Int} (h : Gone E N c d) (g : Gone E N d e) : Gone E N c e :=
  ⟨g.col, fun i => (g.gray i).trans (h.gray i), fun i hi => g.black i (h.black i hi), Nat.le_trans g.wh h.wh⟩

def Bad (E : List api_Edge) (N : Nat) : Prop := ∃ j, j < N ∧ ¬ Term E j

theorem whites_set {c : List Int} {i : Nat} (hi : c[i]? = some 0) {v : Int} (hv : v ≠ 0) : whites (c.set i v) + 1 = whites c := by
  unfold whites
  induction c generalizing i with
  | nil => simp at hi
  | cons x c ih =>
    cases i with
    | zero =>
      simp at hi; subst hi
      simp [hv]
    | succ i =>
      have := ih (i := i) (by simpa using hi)
      simp only [List.set_cons_succ, List.countP_cons]
      omega
theorem whites_set' {c : List Int} {i : Nat} {v : Int} (hv : v ≠ 0) : whites (c.set i v) ≤ whites c := by
  unfold whites
  induction c generalizing i with
  | nil => simp
  | cons x c ih =>
    cases i with
    | zero => simp [hv, List.countP_cons]
    | succ i =>
      have := ih (i := i)
      simp only [List.set_cons_succ, List.countP_cons]
      omega

theorem dfs (S : List (List Int)) (E : List api_Edge) (hE : EIn E S.length) (hl : E.length ≤ 100000) : ∀ (k i : Nat) (c : List Int), whites c < k → i < S.length → Col E S.length c → (∀ g : Nat, c[g]? = some 1 → Pl E g i) →
    ∃ b d, space_comesBack_1_f k i c (api_Space.mk S E) = some (b, d) ∧ (b = false → Gone E S.length c d ∧ d[i]? = some 2) ∧ (b = true → Bad E S.length) := by
  intro k
  induction k with
  | zero => intro i c h; omega
  | succ k ih =>
    intro i c hw hi hc hg
    have hil : i < c.length := by rw [hc.len]; exact hi
    have hci := List.getElem?_eq_getElem hil
    show ∃ b d, space_comesBack_1_s (space_comesBack_1_f k) i c (api_Space.mk S E) = some (b, d) ∧ _
    unfold space_comesBack_1_s
    simp only [gat_nat, hci, Option.bind_some]
    rcases hc.val _ (List.getElem_mem hil) with h0 | h1 | h2
    rotate_left
    · rw [if_pos (by rw [h1]; rfl), h1]
      exact ⟨_, _, rfl, fun h => by simp at h, fun _ => ⟨i, hi, fun hT => hT.nocycle (hg i (by rw [hci, h1]))⟩⟩
    · rw [if_pos (by rw [h2]; rfl), h2]
      exact ⟨_, _, rfl, fun _ => ⟨⟨hc, fun _ => Iff.rfl, fun _ h => h, Nat.le_refl _⟩, by rw [hci, h2]⟩, fun h => by simp at h⟩
    -- not come to yet
    rw [if_neg (by rw [h0]; simp)]
    have hp : gput c (i : Int) 1 = some (c.set i 1) := by rw [gput_lt c (by omega) (by omega)]; rfl
    rw [hp]
    simp only [Option.bind_some]
    rw [from_ok S E hl i]
    simp only [Option.bind_some]
    rw [h0] at hci
    have hw1 := whites_set hci (v := 1) (by decide)
    have hc1 : Col E S.length (c.set i 1) := by
      refine ⟨by rw [List.length_set]; exact hc.len, fun x hx => ?_, fun j hj => ?_⟩
      · rcases List.mem_or_eq_of_mem_set hx with hx | rfl
        · exact hc.val x hx
        · exact .inr (.inl rfl)
      · rw [List.getElem?_set] at hj
        by_cases q : i = j
        · subst q; rw [if_pos rfl, if_pos hil] at hj; simp at hj
        · rw [if_neg q] at hj; exact hc.blk j hj
    have hi1 : (c.set i 1)[i]? = some 1 := by rw [List.getElem?_set, if_pos rfl, if_pos hil]
    have hgr : ∀ g : Nat, (c.set i 1)[g]? = some 1 → g = i ∨ Pl E g i := by
      intro g h
      rw [List.getElem?_set] at h
      by_cases q : i = g
      · exact .inl q.symm
      · rw [if_neg q] at h; exact .inr (hg g h)
    have := forR_list (space_comesBack_1_b1 (api_Space.mk S E) (outE E i) (space_comesBack_1_f k)) (outE E i) (fun m d => Gone E S.length (c.set i 1) d ∧ ∀ e ∈ m, d[e.To.toNat]? = some 2) (fun _ => False) (fun r => ∃ d, r = (true, d) ∧ Bad E S.length) (c.set i 1)
      ⟨⟨hc1, fun _ => Iff.rfl, fun _ h => h, Nat.le_refl _⟩, fun e he => by simp at he⟩ (by
        intro j x d hx ⟨hd, hm⟩
        obtain ⟨hxE, hxF⟩ := mem_out.1 (List.mem_of_getElem? hx)
        obtain ⟨t1, t2⟩ := (hE x hxE).2
        have hto : x.To = ((x.To.toNat : Nat) : Int) := by omega
        have hedge : Eg E i x.To.toNat := ⟨x, hxE, hxF, hto⟩
        obtain ⟨b, d', e1, e2, e3⟩ := ih x.To.toNat d (by have := hd.wh; omega) (by omega) hd.col (fun g h => by
          rcases hgr g ((hd.gray g).1 h) with rfl | h
          · exact .one hedge
          · exact .step h hedge)
        rw [← hto] at e1
        simp only [space_comesBack_1_b1, gat_nat, hx, Option.bind_some, e1]
        cases b with
        | true => exact .inr (.inr ⟨_, rfl, _, rfl, e3 rfl⟩)
        | false =>
          obtain ⟨g1, g2⟩ := e2 rfl
          refine .inl ⟨d', rfl, hd.trans g1, fun e he => ?_⟩
          rcases List.mem_append.1 he with he | he
          · exact g1.black _ (hm e he)
          · simp at he; subst he; exact g2)
    rcases this with ⟨d, e, ⟨hd, hm⟩ | hf⟩ | ⟨r, e, d, rfl, hb⟩
    · rw [e]
      simp only [Option.bind_some]
      have hdl : i < d.length := by rw [hd.col.len]; exact hi
      have hp2 : gput d (i : Int) 2 = some (d.set i 2) := by rw [gput_lt d (by omega) (by omega)]; rfl
      simp only [gat_nat, List.getElem?_eq_getElem hdl, Option.bind_some, hp2]
      refine ⟨_, _, rfl, fun _ => ⟨⟨⟨by rw [List.length_set]; exact hd.col.len, fun x hx => ?_, fun j hj => ?_⟩, fun j => ?_, fun j hj => ?_, ?_⟩, by rw [List.getElem?_set, if_pos rfl, if_pos hdl]⟩, fun h => by simp at h⟩
      · rcases List.mem_or_eq_of_mem_set hx with hx | rfl
        · exact hd.col.val x hx
        · exact .inr (.inr rfl)
      · rw [List.getElem?_set] at hj
        by_cases q : i = j
        · subst q
          refine .mk i fun j ⟨e, he, h1, h2⟩ => hd.col.blk j ?_
          have := hm e (mem_out.2 ⟨he, h1⟩)
          rw [h2] at this
          simpa using this
        · rw [if_neg q] at hj; exact hd.col.blk j hj
      · rw [List.getElem?_set]
        by_cases q : i = j
        · subst q; rw [if_pos rfl, if_pos hdl, hci]; simp
        · rw [if_neg q, hd.gray j, List.getElem?_set, if_neg q]
      · rw [List.getElem?_set]
        by_cases q : i = j
        · subst q; rw [hci] at hj; simp at hj
        · rw [if_neg q]; refine hd.black j ?_; rw [List.getElem?_set, if_neg q]; exact hj
      · have h1 := whites_set' (c := d) (i := i) (v := 2) (by decide)
        have h2 := hd.wh
        omega
    · exact hf.elim
    · rw [e]
      exact ⟨_, _, rfl, fun h => by simp at h, fun _ => hb⟩

theorem all_term {S : List (List Int)} {E : List api_Edge} (hR : Rch S E) (h0 : Term E 0) : ∀ n j : Nat, j < n → j < S.length → Term E j := by
  intro n
  induction n with
  | zero => intro j h; omega
  | succ n ih =>
    intro j hj hl
    by_cases c : j = 0
    · subst c; exact h0
    · obtain ⟨e, he, h1, h2, h3⟩ := hR j (by omega) hl
      refine (ih e.From.toNat (by omega) (by omega)).next ⟨e, he, by omega, h1⟩

theorem back_eq {n : Nat} {S : List (List Int)} {E : List api_Edge} (h : SpU n S E) (hl : E.length ≤ 100000) : space_comesBack (api_Space.mk S E) = ref11_round (api_Space.mk S E) := by
  have hE : EIn E S.length := h.ok.edg
  have hle := h.ok.le
  have hpos : 0 < S.length := List.length_pos_iff.2 h.ok.ne
  obtain ⟨b, e, hb⟩ := round_spec S E hE (by omega)
  have hg : gmk (S.length : Int) (0 : Int) = some (List.replicate S.length 0) := by unfold gmk; rw [if_pos (by omega)]; simp
  have hz : ∀ (i : Nat) (v : Int), (List.replicate S.length (0 : Int))[i]? = some v → v = 0 := by
    intro i v hv
    rw [List.getElem?_replicate] at hv
    split at hv
    · cases hv; rfl
    · cases hv
  obtain ⟨m, hm⟩ := FUEL_big 1000 (by omega)
  obtain ⟨b', d, e1, e2, e3⟩ := dfs S E hE hl FUEL 0 (List.replicate S.length 0) (by
    have := List.countP_le_length (p := fun x : Int => x == 0) (l := List.replicate S.length 0)
    unfold whites
    simp only [List.length_replicate] at this
    omega) hpos ⟨by simp, fun x hx => .inl (List.eq_of_mem_replicate hx), fun i hi => by have := hz i _ hi; simp at this⟩ (fun g hg => by have := hz g _ hg; simp at this)
  rw [e]
  unfold space_comesBack
  simp only [hg, Option.bind_some]
  rw [if_pos (by simp; omega)]
  unfold space_comesBack_1
  have e1' : space_comesBack_1_f FUEL 0 (List.replicate S.length 0) (api_Space.mk S E) = some (b', d) := e1
  rw [e1']
  simp only [Option.bind_some]
  congr 1
  cases b' with
  | true => exact (hb.2 (e3 rfl)).symm
  | false =>
    obtain ⟨g1, g2⟩ := e2 rfl
    cases b with
    | false => rfl
    | true =>
      obtain ⟨j, hj, hT⟩ := hb.1 rfl
      exact (hT (all_term h.rch (g1.col.blk 0 g2) (j + 1) j (by omega) hj)).elim
end Go.AM
