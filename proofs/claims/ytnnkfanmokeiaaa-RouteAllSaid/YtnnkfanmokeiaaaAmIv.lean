import Derived.Test.YtnnkfanmokeiaaaAmSl
import Derived.Test.YtnnkfanmokeiaaaAmG
import Derived.Shelf.Sort.Plain
import Derived.Shelf.Slices.In.SortNone
import Derived.Test.YtnnkfanmokeiaaaProg
import Derived.Test.YtnnkfanmokeiaaaRG1
/-  Several texts in one. -/
section
set_option linter.unusedVariables false
set_option linter.unusedSectionVars false
set_option linter.unusedSimpArgs false
namespace Go.AM
open Go Go.RowKit
variable [Glob]
def ik (ρ : Nat → Nat) (b : Nat) (L : List (List Int)) : List V := L.mapIdx fun i l => .loc (ρ (b + i)) 0 l.length
def cS (b : Nat) (L : List (List Int)) : List V := ik id b L
def jK (bl : List (Nat × bu)) (b : Nat) (L : List (List Int)) : aL := fun id => if id < b then ai bl id else (L[id - b]?).map fun l => .lst true none (l.map (D.int .i64))
theorem sa (ρ : Nat → Nat) (b : Nat) (L : List (List Int)) (i : Nat) : (ik ρ b L)[i]? = (L[i]?).map fun l => .loc (ρ (b + i)) 0 l.length := by simp [ik]
theorem jc (b : Nat) (L : List (List Int)) (i : Nat) : (cS b L)[i]? = (L[i]?).map fun l => .loc (b + i) 0 l.length := by simp [cS, ik]
theorem Cc (ρ : Nat → Nat) (b : Nat) (L : List (List Int)) : (ik ρ b L).length = L.length := by simp [ik]
theorem jd (b : Nat) (L : List (List Int)) : (cS b L).length = L.length := by simp [cS, ik]
theorem Cd {bl : List (Nat × bu)} {b : Nat} {L : List (List Int)} {id : Nat} (h : id < b) : jK bl b L id = ai bl id := if_pos h
theorem nc {bl : List (Nat × bu)} {b : Nat} {L : List (List Int)} {i : Nat} {l : List Int} (h : L[i]? = some l) : jK bl b L (b + i) = some (.lst true none (l.map (D.int .i64))) := by
  unfold jK
  rw [if_neg (by omega), Nat.add_sub_cancel_left, h]; rfl
section
variable {na : Nat}
theorem bW.fam {s : S} {bl : List (Nat × bu)} {l : List (Nat × V)} {b : Nat} {L : List (List Int)} (ρ : Nat → Nat) (h1 : ∀ id, id < na → ρ id = id) (hinj : ∀ x y, x < b + L.length → y < b + L.length → ρ x = ρ y → x = y) (hna : na ≤ b)
    (hT : TN ρ (b + L.length) s.T l) (hk : ∀ p ∈ bl, p.1 < b) (hbl : SN ρ (b + L.length) s.σ bl) (hin : ∀ i l, L[i]? = some l → s.σ (ρ (b + i)) = some (.lst true none (l.map (D.int .i64)))) : bW na s ⟨tab l, AM.jK bl b L, b + L.length⟩ := by
  have hlt : ∀ id, AM.jK bl b L id ≠ none → id < b ∨ ∃ i, i < L.length ∧ id = b + i := by
    intro id h
    by_cases e : id < b
    · exact .inl e
    · unfold AM.jK at h
      rw [if_neg e] at h
      refine .inr ⟨id - b, ?_, by omega⟩
      rcases Nat.lt_or_ge (id - b) L.length with h' | h'
      · exact h'
      · rw [List.getElem?_eq_none h'] at h; exact (h rfl).elim
  have hlt' : ∀ id, AM.jK bl b L id ≠ none → id < b + L.length := fun id h => (hlt id h).elim (fun h => by omega) fun ⟨i, h1, h2⟩ => by omega
  refine bW.of ρ (b + L.length) (by omega) h1 (fun x y hx hy e => hinj x y (hlt' x hx) (hlt' y hy) e) hT.all (fun id blk h => ?_)
  · rcases hlt id (by rw [h]; simp) with hid | ⟨i, hi, rfl⟩
    · rw [Cd hid] at h
      obtain ⟨_, b', g1, g2⟩ := hbl.all id blk h
      exact ⟨by omega, b', g1, g2⟩
    · obtain ⟨l, hl⟩ : ∃ l, L[i]? = some l := ⟨_, bU hi⟩
      rw [nc hl] at h
      cases h
      exact ⟨by omega, _, hin i l hl, .lst _ _ _⟩
theorem BN.locs {ρ : Nat → Nat} {b : Nat} {L : List (List Int)} {cs : List V} (h : cs = ik ρ b L) {n0 : Nat} (hn : n0 = b + L.length) : BN ρ n0 (.var cs) (.var (AM.cS b L)) := by
  subst h; subst hn
  refine .var _ _ (by rw [Cc, jd]) fun i x y hx hy => ?_
  rw [sa] at hx
  rw [jc] at hy
  cases hl : L[i]? with
  | none => rw [hl] at hx; cases hx
  | some l =>
    rw [hl] at hx hy
    cases hx; cases hy
    exact .loc (b + i) 0 l.length (by have := (List.getElem?_eq_some_iff.1 hl).1; omega)
theorem wS {T : Nat → V} {n : Nat} {bl : List (Nat × bu)} {l : List (Nat × V)} {b : Nat} {L : List (List Int)} (hna : na ≤ b) (hT : TN id (b + L.length) T l) (hk : ∀ p ∈ bl, p.1 < b) (hbl : SN id (b + L.length) (AM.jK bl b L) bl) :
    bW na ⟨T, AM.jK bl b L, n⟩ ⟨tab l, AM.jK bl b L, b + L.length⟩ :=
  bW.fam id (fun _ _ => rfl) (fun i j _ _ h => h) hna hT hk hbl fun i l h => nc h
theorem Ce {s : S} {o k : Nat} (b0 : Nat) (hb0 : s.n ≤ b0) (ho : s.σ o = some (.var (List.replicate k (.d .nils)))) (hon : o < s.n) :
    bW na s ⟨s.T, fun id => if id = o then some (.var (cS b0 (List.replicate k []))) else if b0 ≤ id ∧ id < b0 + k then some (.lst true none []) else s.σ id, b0 + k⟩ := by
  intro N A μ a w ⟨hs, hfr⟩
  obtain ⟨μ', hμ'⟩ : ∃ μ' : Nat → Option bI, μ' = fun id => if b0 ≤ id ∧ id < b0 + k then some .nil else μ id := ⟨_, rfl⟩
  obtain ⟨σ', hσ'⟩ : ∃ σ' : aL, σ' = fun id => if id = o then some (.var (cS b0 (List.replicate k []))) else if b0 ≤ id ∧ id < b0 + k then some (.lst true none []) else s.σ id := ⟨_, rfl⟩
  rw [← hσ']
  have hn : ∀ id, b0 ≤ id → μ id = none := fun id h => hfr id (by omega)
  have m1 : ∀ id, b0 ≤ id → id < b0 + k → μ' id = some .nil := fun id h1 h2 => by rw [hμ']; exact if_pos ⟨h1, h2⟩
  have m2 : ∀ id, ¬ (b0 ≤ id ∧ id < b0 + k) → μ' id = μ id := fun id h => by rw [hμ']; exact if_neg h
  have s1 : σ' o = some (.var (cS b0 (List.replicate k []))) := by rw [hσ']; exact if_pos rfl
  have s2 : ∀ id, b0 ≤ id → id < b0 + k → σ' id = some (.lst true none []) := fun id h1 h2 => by rw [hσ']; simp only; rw [if_neg (by omega), if_pos ⟨h1, h2⟩]
  have s3 : ∀ id, id ≠ o → ¬ (b0 ≤ id ∧ id < b0 + k) → σ' id = s.σ id := fun id h1 h2 => by rw [hσ']; simp only; rw [if_neg h1, if_neg h2]
  have mat : ∀ id b k', μ' id = some (.at b k') → ¬ (b0 ≤ id ∧ id < b0 + k) ∧ μ id = some (.at b k') := by
    intro id b k' h
    by_cases e : b0 ≤ id ∧ id < b0 + k
    · rw [m1 id e.1 e.2] at h; cases h
    · rw [m2 id e] at h; exact ⟨e, h⟩
  have hμ : ∀ j p, μ j = some p → μ' j = some p := by
    intro j p h
    rw [m2 j (fun e => by rw [hn j e.1] at h; cases h)]; exact h
  -- blocks of the new store, in the old one
  have back : ∀ id blk b k', σ' id = some blk → μ' id = some (.at b k') → ∃ blk', s.σ id = some blk' ∧ μ id = some (.at b k') := by
    intro id blk b k' h1 h2
    obtain ⟨e, h3⟩ := mat id b k' h2
    by_cases ho' : id = o
    · subst ho'; exact ⟨_, ho, h3⟩
    · rw [s3 id ho' e] at h1; exact ⟨blk, h1, h3⟩
  have hown : ∀ b o', dl μ' σ' b o' → dl μ s.σ b o' := by
    rintro b o' ⟨j, blk, h1, h2⟩
    by_cases e : b0 ≤ j ∧ j < b0 + k
    · rw [m1 j e.1 e.2] at h2
      cases blk with
      | lst m _ _ => cases m <;> exact h2.elim
      | var _ => exact h2.elim
      | mp _ => exact h2.elim
    · rw [m2 j e] at h2
      by_cases ho' : j = o
      · subst ho'
        rw [s1] at h1; cases h1
        refine ⟨j, _, ho, ?_⟩
        revert h2
        cases μ j with
        | none => exact id
        | some p => cases p <;> exact id
      · rw [s3 j ho' e] at h1; exact ⟨j, blk, h1, h2⟩
  have hownB : ∀ b, fG μ' σ' b → fG μ s.σ b := by
    rintro b ⟨j, blk, kk, h1, h2⟩
    obtain ⟨blk', g1, g2⟩ := back j blk b kk h1 h2
    exact ⟨j, blk', kk, g1, g2⟩
  have hfull : ∀ b o', aD A μ' σ' b o' → aD A μ s.σ b o' := fun b o' h => h.elim (fun h => .inl (hown b o' h)) .inr
  have hg : bk μ s.σ w μ' σ' w :=
    ⟨rfl, rfl, rfl, Nat.le_refl _, fun _ _ _ => rfl, fun _ c _ _ h => ⟨c, h, rfl, fun _ _ => rfl⟩, fun b o h => .inl (hown b o h), fun b h => .inl (hownB b h), hμ⟩
  refine ⟨μ', ⟨⟨hs.size, hs.defers, fun i => hg.keepV hs.store.alt (hs.tmps i), ⟨fun j blk h => ?_, fun j j' x y b k1 k2 h1 h2 h3 h4 => ?_, fun j x b k1 h1 h2 => ?_, hs.store.alt, hs.store.glob.mono (hg.keepCell hs.store.alt)⟩⟩, fun id h => ?_⟩, hg.ng⟩
  · have h : σ' j = some blk := h
    by_cases e : b0 ≤ j ∧ j < b0 + k
    · rw [s2 j e.1 e.2] at h; cases h; exact .inl ⟨m1 j e.1 e.2, rfl⟩
    · by_cases ho' : j = o
      · subst ho'
        rw [s1] at h; cases h
        obtain ⟨b, c, ty, fr, g1, g2, g3, g4, g5⟩ := hs.store.blks j _ ho
        rw [List.length_replicate] at g4
        refine ⟨b, c, ty, fr, hμ _ _ g1, g2, g3, by rw [jd, List.length_replicate]; exact g4, fun i x v hx hv => ?_⟩
        have hi : i < k := by have := (Array.getElem?_eq_some_iff.1 hv).1; omega
        rw [jc, List.getElem?_replicate, if_pos hi] at hx
        cases hx
        obtain ⟨q1, q2⟩ := g5 i (.d .nils) v (by rw [List.getElem?_replicate, if_pos hi]) hv
        refine ⟨q1, ?_⟩
        cases q2 with | d _ _ hd => cases hd; exact .loc0 _ _ _ (by rw [m1 _ (by omega) (by omega)]; simp)
      · rw [s3 j ho' e] at h
        exact cH.keep hg hs.store.alt (fun b k h => rfl) (hs.store.blks j blk h)
  · obtain ⟨x', g1, g2⟩ := back j x b k1 h1 h3
    obtain ⟨y', g3, g4⟩ := back j' y b k2 h2 h4
    exact hs.store.inj j j' x' y' b k1 k2 g1 g3 g2 g4
  · obtain ⟨x', g1, g2⟩ := back j x b k1 h1 h2
    exact hs.store.amb j x' b k1 g1 g2
  · rw [m2 id (by simp only at h; omega)]
    exact hfr id (by simp only at h; omega)
end
theorem Cf {bl : List (Nat × bu)} {b : Nat} {L : List (List Int)} : cg ((cS b L).map (eZ (jK bl b L))) = some (L.map (fun l => D.vec none (l.map (D.int .i64)))) := by
  have key : ∀ (M : List (List Int)) (k : Nat), (∀ i, M[i]? = L[k + i]?) → cg ((M.mapIdx fun i l => V.loc (b + (k + i)) 0 l.length).map (eZ (jK bl b L))) = some (M.map (fun l => D.vec none (l.map (D.int .i64)))) := by
    intro M
    induction M with
    | nil => intro k _; rfl
    | cons l M ih =>
      intro k hM
      rw [List.mapIdx_cons, List.map_cons]
      have h0 : eZ (jK bl b L) (V.loc (b + (k + 0)) 0 l.length) = some (D.vec none (l.map (D.int .i64))) := ql (nc (by have := hM 0; simpa using this.symm)) (by simp)
      rw [h0]
      have e : (fun i (l : List Int) => V.loc (b + (k + (i + 1))) 0 l.length) = fun i l => V.loc (b + (k + 1 + i)) 0 l.length := by
        funext i l; congr 1; omega
      have := ih (k + 1) (fun i => by have := hM (i + 1); rw [List.getElem?_cons_succ] at this; rw [this]; congr 1; omega)
      rw [kH]
      show Option.map _ (cg (List.map _ (List.mapIdx (fun i (l : List Int) => V.loc (b + (k + (i + 1))) 0 l.length) M))) = _
      rw [e, this]; rfl
  have := key L 0 (fun i => by rw [Nat.zero_add])
  simpa [cS, ik] using this
theorem Cg {b : Nat} {L : List (List Int)} {j : Nat} {l : List Int} {m : Nat} (hj : j < L.length) : (cS b L).set j (.loc m 0 l.length) = ik (fun id => if id = b + j then m else id) b (L.set j l) := by
  apply List.ext_getElem?
  intro i
  rw [sa, List.getElem?_set, List.getElem?_set, jd]
  by_cases e : j = i
  · subst e; simp [hj]
  · have : b + i ≠ b + j := by omega
    rw [if_neg e, if_neg e, jc, if_neg this]
theorem Ch {α : Type} (cs : List α) (j : Nat) (x : α) (hj : j < cs.length) : cs.take j ++ [x] ++ cs.drop (j + 1) = cs.set j x := by
  rw [List.set_eq_take_append_cons_drop, if_pos hj]; simp
end Go.AM
end
section
set_option linter.unusedVariables false
set_option linter.unusedSectionVars false
set_option linter.unusedSimpArgs false
namespace Go.AM
open Go Go.RowKit Go.Proofs Go.Sort
variable [Glob]
theorem Ci {w : World} {b : Nat} {c : Array Value} {ty : TypeId} {fr : Nat × Nat} (f : Array Value → Array Value) (h : w.heap[b]? = some (.cells c ty fr)) : mapBlock w b f = c8 w b (f c) := by
  unfold mapBlock c8
  congr 1
  apply Array.ext_getElem?
  intro i
  simp only [Array.getElem?_modify]
  by_cases e : b = i
  · subst e; simp [h, onCells]
  · simp [e]
theorem Cj (w : World) (n B : Nat) : RowKit.Below B w (Sort.ahead w n) := ⟨rfl, rfl, rfl, Nat.le_refl _, fun _ _ => rfl⟩
theorem Cm (w : World) (os : Array Obj) (B : Nat) (h : B ≤ w.heap.size) : RowKit.Below B w (grow w os) :=
  ⟨rfl, rfl, rfl, by simp [grow], fun k hk => by simp only [grow]; rw [Array.getElem?_append_left (by omega)]⟩
def Cn : Go.Shelf.Ren := ⟨fun | 189 => 124 | 125 => 122 | 257 => 137 | 128 => 134 | 129 => 135 | 294 => 143 | 295 => 144 | 296 => 145 | 297 => 146 | 298 => 147 | 299 => 148 | 216 => 149 | 300 => 150 | 301 => 151 | 328 => 153 | 329 => 139 | 330 => 140 | 331 => 154 | 332 => 155 | 215 => 156 | 343 => 157 | n => n, fun | 28 => 123 | 3 => 3 | 46 => 176 | 0 => 0 | 51 => 188 | 53 => 190 | 4 => 4 | 183 => 182 | 182 => 181 | 131 => 69 | 5 => 5 | 9 => 9 | 218 => 193 | 222 => 197 | 228 => 205 | 229 => 162 | n => n, fun | n => n⟩
set_option maxRecDepth 100000 in
theorem wT : Lays.n189 Try.prog Cn where
  mixed := by kernel_rfl
  f125 := Try.func122.trans (congrArg some (by kernel_rfl))
  f128 := Try.func134.trans (congrArg some (by kernel_rfl))
  f129 := Try.func135.trans (congrArg some (by kernel_rfl))
  f189 := Try.func124.trans (congrArg some (by kernel_rfl))
  f215 := Try.func156.trans (congrArg some (by kernel_rfl))
  f216 := Try.func149.trans (congrArg some (by kernel_rfl))
  f257 := Try.func137.trans (congrArg some (by kernel_rfl))
  f294 := Try.func143.trans (congrArg some (by kernel_rfl))
  f295 := Try.func144.trans (congrArg some (by kernel_rfl))
  f296 := Try.func145.trans (congrArg some (by kernel_rfl))
  f297 := Try.func146.trans (congrArg some (by kernel_rfl))
  f298 := Try.func147.trans (congrArg some (by kernel_rfl))
  f299 := Try.func148.trans (congrArg some (by kernel_rfl))
  f300 := Try.func150.trans (congrArg some (by kernel_rfl))
  f301 := Try.func151.trans (congrArg some (by kernel_rfl))
  f328 := Try.func153.trans (congrArg some (by kernel_rfl))
  f329 := Try.func139.trans (congrArg some (by kernel_rfl))
  f330 := Try.func140.trans (congrArg some (by kernel_rfl))
  f331 := Try.func154.trans (congrArg some (by kernel_rfl))
  f332 := Try.func155.trans (congrArg some (by kernel_rfl))
  f343 := Try.func157.trans (congrArg some (by kernel_rfl))
  t0 := Try.underlying0
  a0 := Try.isAgg0
  z0 := Try.sizeOf0
  v0 := Try.zeroValue0
  t3 := Try.underlying3
  a3 := Try.isAgg3
  z3 := Try.sizeOf3
  v3 := Try.zeroValue3
  t4 := Try.underlying4
  a4 := Try.isAgg4
  z4 := Try.sizeOf4
  v4 := Try.zeroValue4
  t5 := Try.underlying5
  a5 := Try.isAgg5
  z5 := Try.sizeOf5
  v5 := Try.zeroValue5
  t9 := Try.underlying9
  a9 := Try.isAgg9
  z9 := Try.sizeOf9
  v9 := Try.zeroValue9
  t28 := Try.underlying123
  a28 := Try.isAgg123
  z28 := Try.sizeOf123
  v28 := Try.zeroValue123
  t46 := Try.underlying176
  a46 := Try.isAgg176
  z46 := Try.sizeOf176
  v46 := Try.zeroValue176
  t51 := Try.underlying188
  a51 := Try.isAgg188
  z51 := Try.sizeOf188
  v51 := Try.zeroValue188
  t53 := Try.underlying190
  a53 := Try.isAgg190
  z53 := Try.sizeOf190
  v53 := Try.zeroValue190
  t131 := Try.underlying69
  a131 := Try.isAgg69
  z131 := Try.sizeOf69
  v131 := Try.zeroValue69
  t182 := Try.underlying181
  a182 := Try.isAgg181
  z182 := Try.sizeOf181
  v182 := Try.zeroValue181
  t183 := Try.underlying182
  a183 := Try.isAgg182
  z183 := Try.sizeOf182
  v183 := Try.zeroValue182
  t218 := Try.underlying193
  a218 := Try.isAgg193
  z218 := Try.sizeOf193
  v218 := Try.zeroValue193
  t222 := Try.underlying197
  a222 := Try.isAgg197
  z222 := Try.sizeOf197
  v222 := Try.zeroValue197
  t228 := Try.underlying205
  a228 := Try.isAgg205
  z228 := Try.sizeOf205
  v228 := Try.zeroValue205
  t229 := Try.underlying162
  a229 := Try.isAgg162
  z229 := Try.sizeOf162
  v229 := Try.zeroValue162
theorem Co {l : List Int} (hlen : l.length < 4611686018427387904) :
    dp Try.prog 124 [.loc 0 0 l.length] (ai [(0, .lst true none (l.map (D.int .i64)))]) 1 (.d (.tup [])) (ai [(0, .lst true none ((db l).map (D.int .i64)))]) 1 := by
  refine ⟨by kernel_rfl, fun A μ w vs hs hfr hlen2 hrel => ?_⟩
  have h2 : vs.size = 1 := by simpa using hlen2.symm
  have r0 := hrel 0 _ vs[0] rfl (by simp [h2])
  have evs : vs = #[vs[0]] := by
    apply Array.ext (by simp [h2])
    intro q h1 _
    have : q = 0 := by omega
    subst this; rfl
  generalize hu : vs[0] = u at r0 evs
  have upd0 : ∀ x y : bu, ai [(0, y)] = aw (ai [(0, x)]) 0 (some y) := by
    intro x y
    funext q
    by_cases h : q = 0
    · subst h; simp [ai, aw]
    · simp [ai, aw, h]
  have hid : ai [(0, bu.lst true none (l.map (D.int .i64)))] 0 = some (.lst true none (l.map (D.int .i64))) := rfl
  have htup : ∀ O w', aR μ O w' (.d (.tup [])) (.tuple #[]) := fun O w' => .d _ _ (.tup [] #[] rfl (fun i d v h => by simp at h))
  have none : l.length = 0 → ∀ (a : Option Addr) (cap : Nat), u = .slice a 0 cap → Calls Try.prog 124 vs w fun e w' => ∃ cv μ', e = .returned cv ∧ aR μ' (aD A μ' (ai [(0, .lst true none ((db l).map (D.int .i64)))])) w' (.d (.tup [])) cv ∧ bm A μ' (ai [(0, .lst true none ((db l).map (D.int .i64)))]) w' ∧ bk μ (ai [(0, .lst true none (l.map (D.int .i64)))]) w μ' (ai [(0, .lst true none ((db l).map (D.int .i64)))]) w' ∧ ∀ id, μ' id ≠ none → μ id ≠ none ∨ (1 ≤ id ∧ id < 1) := by
    rintro hz a cap rfl
    obtain rfl : l = [] := List.eq_nil_of_length_eq_zero hz
    rw [evs]
    refine (Any.slices_Sort_int_none wT a cap w).mono ?_
    rintro e w' ⟨rfl, rfl⟩
    have e0 : db [] = [] := rfl
    rw [e0]
    exact ⟨_, μ, rfl, htup _ _, hs, bk.refl _ _ _, fun id h => .inl h⟩
  rcases r0.loc_inv with ⟨hz, a, ha, hm⟩ | ⟨b, k', cap, ha, m1, m2, m3, m4⟩
  · exact none hz a 0 ha
  · by_cases hz : l.length = 0
    · exact none hz _ cap (by rw [ha, hz])
    · rcases hs.blks 0 _ hid with ⟨_, hnil⟩ | ⟨b', c, ty, fr, g1, g2, g4, g5, g6⟩
      · exact absurd (by simpa using hnil) hz
      · rw [g1] at m1
        cases m1
        rw [List.length_map] at g5
        have g5 : l.length * 1 ≤ c.size := g5
        have cell : ∀ (q : Nat) (x : Int), l[q]? = some x → c[q]? = some (.int .i64 x) ∧ IntKind.i64.wrap x = x := by
          intro q x hq
          obtain ⟨_, s2⟩ := g6 q (D.int .i64 x) (by simp [hq])
          obtain ⟨v, hv, _, hr⟩ := s2 0 (D.int .i64 x) rfl
          have e : q * am Option.none + 0 = q := by simp [am]
          rw [e] at hv
          cases hr with
          | int _ _ hw => exact ⟨hv, hw⟩
        have cellw : ∀ q, w.cell? ⟨b, q, .none⟩ = c[q]? := fun q => by rw [fu g2]
        have hH : Holds (Value.int .i64) w b 0 l.toArray := by
          intro j hj
          have hj' : j < l.length := by simpa using hj
          obtain ⟨k1, _⟩ := cell j l[j] (by simp [hj'])
          refine ⟨?_, sT g2 g4 (by omega)⟩
          rw [cellw, Nat.zero_add, k1, getElem!_pos l.toArray _ (by simpa using hj')]
          simp
        have hblt : b < w.heap.size := eA g2
        rw [evs, ha]
        have hz0 : (0 : Nat) * am Option.none = 0 := rfl
        rw [hz0]
        refine (Any.slices_Sort_int wT b 0 cap l w hH hblt hlen).mono ?_
        rintro e w' ⟨rfl, n, os, rfl⟩
        show ∃ cv μ', _
        have es : (l.mergeSort fun x y => decide (x ≤ y)) = db l := AJ l
        rw [es]
        unfold putRow
        have b1 : RowKit.Below w.heap.size w (Sort.ahead w n) := Cj _ _ _
        have hs1 := hs.ofBelow b1
        have gd1 := bk.ofBelow hs b1
        have g2' : (Sort.ahead w n).heap[b]? = some (.cells c ty fr) := g2
        rw [Ci _ g2']
        generalize hc2 : putCells (Value.int .i64) 0 (db l).toArray c = c2
        have hlen' : (db l).length = l.length := (ky l).length_eq
        have hsz2 : c2.size = c.size := by rw [← hc2]; simp [putCells]
        have get2 : ∀ (q : Nat) (x : Int), (db l)[q]? = some x → c2[q]? = some (.int .i64 x) := by
          intro q x hq
          obtain ⟨hql, hqx⟩ := List.getElem?_eq_some_iff.1 hq
          have hj : q < c.size := by omega
          rw [← hc2]
          simp only [putCells, Array.getElem?_mapIdx, Array.getElem?_eq_getElem hj, Option.map_some, Nat.zero_le, true_and, Nat.zero_add, Nat.sub_zero, List.size_toArray]
          rw [if_pos hql, getElem!_pos (db l).toArray q (by simpa using hql)]
          simp only [List.getElem_toArray, hqx]
        have g := bk.write (blk' := .lst true Option.none ((db l).map (D.int .i64))) (c' := c2) hs1 hid g1 g2' hsz2 (fun o' ho' => (ho' rfl).elim) (fun o' ho' => ho')
        have hsw := hs1.write hid g1 g2' g (.inr ⟨b, _, ty, fr, g1, ir g2', by show fr.1 = fr.2 ∨ _ ≤ fr.1; rw [hsz2]; exact g4, by rw [List.length_map, hlen', hsz2]; exact g5, fun q d hq => by
          rw [List.getElem?_map] at hq
          cases hx : (db l)[q]? with
          | none => rw [hx] at hq; cases hq
          | some x =>
            rw [hx] at hq
            cases hq
            refine ⟨rfl, fun y d hd => ?_⟩
            have hy : y = 0 ∧ d = D.int .i64 x := by
              cases y with
              | zero => exact ⟨rfl, by simpa [D.cells] using hd.symm⟩
              | succ y => simp [D.cells] at hd
            obtain ⟨rfl, rfl⟩ := hy
            have hxm : x ∈ l := (ky l).mem_iff.1 (c7 hx)
            obtain ⟨q0, hq0⟩ := List.getElem?_of_mem hxm
            have e : q * am Option.none + 0 = q := by simp [am]
            exact ⟨_, by rw [e]; exact get2 q x hx, rfl, .int _ _ (cell q0 x hq0).2⟩⟩)
        rw [← upd0] at g hsw
        have b2 : RowKit.Below (c8 (Sort.ahead w n) b c2).heap.size (c8 (Sort.ahead w n) b c2) (grow (c8 (Sort.ahead w n) b c2) os) := Cm _ _ _ (Nat.le_refl _)
        exact ⟨_, μ, rfl, htup _ _, hsw.ofBelow b2, (gd1.trans g).trans (bk.ofBelow hsw b2), fun id h => .inl h⟩
end Go.AM
end
section
set_option linter.unusedVariables false
set_option linter.unusedSectionVars false
set_option linter.unusedSimpArgs false
namespace Go.AM
open Go Go.RowKit
variable [Glob]
variable {P : Program} {na : Nat}
theorem Cp {s : S} (t : Nat) {id j : Nat} {ds : List D} (hT : s.T t = .ptr id 0 j) (hid : s.σ id = some (.var (ds.map V.d))) : bW na s ⟨mm s.T [t] (.d (.cptr (some ds.length) (.agg ds) j)), aw s.σ id none, s.n⟩ := by
  intro N A μ a w ⟨hs, hfr⟩
  have hσ : ∀ j blk, aw s.σ id none j = some blk → s.σ j = some blk := by
    intro j blk h
    by_cases e : j = id
    · subst e; simp [bz] at h
    · rw [bg _ _ e] at h; exact h
  refine ⟨μ, ⟨⟨hs.size, hs.defers, fun i => ?_, hs.store.drop hσ⟩, hfr⟩, (bk.drop hσ).ng⟩
  unfold mm
  by_cases c : i = t
  · subst c
    have : ([i] : List Nat).contains i = true := by simp
    simp only [this, if_true]
    have h0 := hs.tmps i
    rw [hT] at h0
    generalize a.tmps.getD i Go.undef = u at h0 ⊢
    cases h0 with
    | ptr _ _ _ b k hp =>
      obtain ⟨b', cc, ty, fr, g1, g2, g3, g4, g5⟩ := hs.store.blks id _ hid
      rw [g1] at hp; cases hp
      have hno : ∀ o, ¬ aD A μ (aw s.σ id none) b o := by
        rintro o (ho | ho)
        · obtain ⟨j', blk, k', h1, h2⟩ := jP ho
          have e := hs.store.inj j' id blk _ b k' none (hσ _ _ h1) hid h2 g1
          subst e
          simp [bz] at h1
        · exact hs.store.amb id _ b none hid g1 o ho
      have key : ∀ (i : Nat) y, ds[i]? = some y → ∃ v, cc[i]? = some v ∧ v.oneCell' = true ∧ DRel (aD A μ (aw s.σ id none)) w y v := by
        intro i y hy
        have hi : i < ds.length := (List.getElem?_eq_some_iff.1 hy).1
        have hlt : i < cc.size := by rw [← g4]; simpa using hi
        obtain ⟨q1, q2⟩ := g5 i (.d y) (cc[i]'hlt) (by simp [hy]) (by simp)
        cases q2 with
        | d _ _ h => exact ⟨_, by simp, q1, (bk.drop hσ).keepD hs.store.alt h⟩
      refine .d _ _ ?_
      have := DRel.cptr (own := aD A μ (aw s.σ id none)) (w := w) (some ds.length) (.agg ds) j b 0 (fun i => cc.getD i Go.undef) (by simp [D.shape]) (fun i y hy => by
          obtain ⟨v, h1, _⟩ := key i y hy
          rw [fu g2]; simp [h1]) (fun i y hy => hno _) (fun i y hy => by
          obtain ⟨v, h1, _, h3⟩ := key i y hy
          simpa [h1] using h3) (fun i y hy => by
          obtain ⟨v, h1, h2, _⟩ := key i y hy
          simpa [h1] using h2)
      simpa using this
  · have : ([t] : List Nat).contains i = false := by simpa using c
    simp only [this, Bool.false_eq_true, if_false]
    exact (bk.drop hσ).keepV hs.store.alt (hs.tmps i)
theorem Cq {P : Program} {f : Nat} (ds : List D) {len n' : Nat} {m : Bool} {k0 k : Option Nat} {els : List D} (h : dp P f (ds.map V.d ++ [.loc 0 0 0]) (ai [(0, .lst true k0 [])]) 1 (.loc 1 0 len) (ai [(1, .lst m k els)]) n') (hl : len = els.length) : PCall P f (ds ++ [.nils]) (.vec k els) := by
  subst hl
  refine ⟨h.1, fun A w vs halt hglob hlen hrel => ?_⟩
  let μ0 : Nat → Option bI := fun id => if id = 0 then some .nil else none
  have hμ : ∀ {id b k}, μ0 id ≠ some (.at b k) := by
    intro id b k h
    simp only [μ0] at h
    split at h <;> cases h
  have hnow : ∀ b o, ¬ dl μ0 (ai [(0, .lst true k0 [])]) b o := fun b o h => by
    obtain ⟨j, bl, kk, _, h2⟩ := jP h
    exact hμ h2
  have hfull : aD A μ0 (ai [(0, .lst true k0 [])]) = A := by
    funext b o
    apply propext
    exact ⟨fun h => h.elim (fun h => (hnow b o h).elim) id, .inr⟩
  have hb0 : ∀ id blk, ai [(0, bu.lst true k0 [])] id = some blk → cH (aD A μ0 (ai [(0, .lst true k0 [])])) μ0 w id blk := by
    intro id blk hb
    simp only [ai] at hb
    split at hb
    · rename_i e; cases hb; subst e; exact .inl ⟨rfl, rfl⟩
    · cases hb
  have hs : bm A μ0 (ai [(0, .lst true k0 [])]) w := { blks := hb0, inj := fun _ _ _ _ _ _ _ _ _ h _ => (hμ h).elim, amb := fun _ _ _ _ _ h => (hμ h).elim, alt := halt, glob := by rw [hfull]; exact hglob }
  refine (h.2 A μ0 w vs hs (fun id hid => by simp only [μ0]; rw [if_neg (by omega)]) (by simpa using hlen) (fun i x v hx hv => ?_)).mono fun e w' ⟨cv, μ', he, hv', hs', hg, hfr'⟩ => ?_
  · rw [hfull]
    by_cases hi : i < ds.length
    · rw [List.getElem?_append_left (by simpa using hi), List.getElem?_map, bU hi] at hx
      cases hx
      exact .d _ _ (hrel i _ v (by rw [List.getElem?_append_left hi, bU hi]) hv)
    · have hv2 := (Array.getElem?_eq_some_iff.1 hv).1
      have hi2 : i = ds.length := by simp at hlen; omega
      subst hi2
      simp at hx
      subst hx
      have := hrel ds.length .nils v (by simp) hv
      cases this
      exact .loc0 _ _ _ (by simp [μ0])
  · refine ⟨cv, he, tL hs' (v := .loc 1 0 els.length) ?_ hv', ⟨hg.os, hg.tape, hg.output, hg.size, fun b hb => hg.block b hb fun ⟨id, blk, k, _, h2⟩ => hμ h2⟩⟩
    simp [kY, fJ, eZ, ai]
end Go.AM
end
