import Derived.Test.YtfjelgjfbjjopaaAmOps8
set_option linter.unusedVariables false
set_option linter.unusedSectionVars false
set_option linter.unusedSimpArgs false
namespace Go.AM
open Go Go.RowKit
variable [Glob]
section
variable {P : Program} {A : Nat → Nat → Prop} {μ : Nat → Option aJ} {σ σ' : au} {w : World} {o : Oper} {a : Act} {v : V} {n n' : Nat} {e : AX → V}
def da (O : Nat → Nat → Prop) (w : World) (k : Option Nat) (ys : List D) (news : List Value) : Prop :=
  news.length = ys.length * ah k ∧ (∀ v ∈ news, v.oneCell' = true) ∧
  ∀ (i : Nat) d, ys[i]? = some d → d.shape k = true ∧ ∀ (j : Nat) x, d.cells[j]? = some x → ∃ v, news[i * ah k + j]? = some v ∧ v.oneCell' = true ∧ DRel O w x v
theorem ju {O : Nat → Nat → Prop} {k : Option Nat} {ys : List D} (hpos : 0 < ah k) (f : Nat → Nat → Value) (hsh : ∀ (i : Nat) d, ys[i]? = some d → d.shape k = true)
    (h1 : ∀ (i : Nat) d (j : Nat) x, ys[i]? = some d → d.cells[j]? = some x → (f i j).oneCell' = true) (h2 : ∀ (i : Nat) d (j : Nat) x, ys[i]? = some d → d.cells[j]? = some x → DRel O w x (f i j)) :
    da O w k ys ((List.range (ys.length * ah k)).map fun q => f (q / ah k) (q % ah k)) := by
  refine ⟨by simp, fun v hv => ?_, fun i d hd => ⟨hsh i d hd, fun j x hx => ?_⟩⟩
  · obtain ⟨q, hq, rfl⟩ := List.mem_map.1 hv
    have hq := List.mem_range.1 hq
    have hi : q / ah k < ys.length := by rw [Nat.div_lt_iff_lt_mul hpos]; exact hq
    have hj : q % ah k < (ys[q / ah k]).cells.length := by rw [ck (hsh _ _ (bt hi))]; exact Nat.mod_lt _ hpos
    exact h1 _ _ _ _ (bt hi) (bt hj)
  · have hi : i < ys.length := (List.getElem?_eq_some_iff.1 hd).1
    have hj : j < ah k := by have := (List.getElem?_eq_some_iff.1 hx).1; rw [ck (hsh i d hd)] at this; exact this
    have hlt : i * ah k + j < ys.length * ah k := by
      have : (i + 1) * ah k ≤ ys.length * ah k := Nat.mul_le_mul_right _ hi
      rw [Nat.add_mul] at this; omega
    have e1 : (i * ah k + j) / ah k = i := by rw [Nat.mul_comm, Nat.mul_add_div hpos, Nat.div_eq_of_lt hj]; omega
    have e2 : (i * ah k + j) % ah k = j := by rw [Nat.mul_comm, Nat.mul_add_mod, Nat.mod_eq_of_lt hj]
    refine ⟨f i j, ?_, h1 i d j x hd hx, h2 i d j x hd hx⟩
    rw [List.getElem?_map, List.getElem?_range hlt]
    simp [e1, e2]
theorem jv {k : Option Nat} {ys : List D} (hpos : 0 < ah k) (b off : Nat) (f : Nat → Nat → Value) (hsh : ∀ (i : Nat) d, ys[i]? = some d → d.shape k = true)
    (hc : ∀ (i : Nat) d (j : Nat) x, ys[i]? = some d → d.cells[j]? = some x → w.cell? ⟨b, off + i * ah k + j, none⟩ = some (f i j)) (dr : Nat) :
    (loadCells ⟨b, off, none⟩ (ys.length * ah k)).run P { w with drawn := dr } = .ok ((List.range (ys.length * ah k)).map fun q => f (q / ah k) (q % ah k)).toArray { w with drawn := dr } := by
  refine run_loadCells _ _ _ _ fun q hq => ?_
  have hi : q / ah k < ys.length := by rw [Nat.div_lt_iff_lt_mul hpos]; exact hq
  have hj : q % ah k < (ys[q / ah k]).cells.length := by rw [ck (hsh _ _ (bt hi))]; exact Nat.mod_lt _ hpos
  have := hc _ _ _ _ (bt hi) (bt hj)
  have e : off + q / ah k * ah k + q % ah k = off + q := by have := Nat.div_add_mod q (ah k); rw [Nat.mul_comm] at this; omega
  rw [Addr.add_lit]
  rw [e] at this
  exact this
theorem mH {k : Option Nat} (hpos : 0 < ah k) {y : V} {u : Value} (hs : aB A μ σ w) (hy : aw μ (ak A μ σ) w y u) {ys : List D}
    (h : (y = .d .nils ∧ ys = []) ∨ (bX σ y = some k ∧ cW σ y = some ys)) :
    ∃ p c news, u = .slice p ys.length c ∧ da (ak A μ σ) w k ys news ∧ ∀ dr, (Builtin.firstCells (ah k) ys.length u).run P { w with drawn := dr } = .ok news.toArray { w with drawn := dr } := by
  rcases h with ⟨rfl, rfl⟩ | ⟨hk, hel⟩
  · have := jm hy
    subst this
    exact ⟨none, 0, [], rfl, ⟨by simp, by simp, fun i d h => by simp at h⟩, fun dr => by simp [Builtin.firstCells]⟩
  · cases y with
    | d x =>
      cases x with
      | vec k' vs =>
        simp [bX] at hk; subst hk
        simp [cW] at hel; subst hel
        cases hy with | d _ _ hd => cases hd with
          | vecn _ ad => exact ⟨ad, 0, [], rfl, ⟨by simp, by simp, fun i d h => by simp at h⟩, fun dr => by cases ad <;> simp [Builtin.firstCells, loadCells, loadCellsFrom]⟩
          | vec _ _ b off cap f h1 h2 h3 h4 h5 h6 =>
            exact ⟨_, cap, _, rfl, ju hpos f h2 h6 h5, fun dr => by simp only [Builtin.firstCells]; exact jv hpos b off f h2 h3 dr⟩
      | _ => simp [bX] at hk
    | loc id off len =>
      simp only [bX] at hk
      simp only [cW] at hel
      cases hid : σ id with
      | none => simp [hid] at hk
      | some blk =>
        cases blk with
        | var cs => simp [hid] at hel
        | mp es => simp [hid] at hel
        | lst m k' els =>
          simp [hid] at hk; subst hk
          simp only [hid] at hel
          split at hel
          · rename_i hle
            cases hel
            have hlen : ((els.drop off).take len).length = len := by simp; omega
            have hget : ∀ (i : Nat) d, ((els.drop off).take len)[i]? = some d → i < len ∧ els[off + i]? = some d := by
              intro i d hd
              rw [List.getElem?_take] at hd
              split at hd
              · rename_i hi; rw [List.getElem?_drop] at hd; exact ⟨hi, hd⟩
              · cases hd
            rw [hlen]
            cases hy with
            | loc0 _ _ ad =>
              refine ⟨ad, 0, [], rfl, ⟨by simp, by simp, fun i d h => by simp at h⟩, fun dr => ?_⟩
              cases ad <;> simp [Builtin.firstCells, loadCells, loadCellsFrom]
            | loc _ _ _ b k'' cap h1 h2 h3 h4 =>
              rcases hs.blks id _ hid with ⟨g1, _⟩ | ⟨b', c, ty, fr, g1, g2, g3, g4, g5⟩
              · rw [g1] at h1; cases h1
              · rw [g1] at h1; cases h1
                have hcell : ∀ (i : Nat) d (j : Nat) x, ((els.drop off).take len)[i]? = some d → d.cells[j]? = some x → ∃ v, c[(off + i) * ah k' + j]? = some v ∧ v.oneCell' = true ∧ DRel (ak A μ σ) w x v :=
                  fun i d j x hd hx => (g5 _ d (hget i d hd).2).2 j x hx
                have hsh : ∀ (i : Nat) d, ((els.drop off).take len)[i]? = some d → d.shape k' = true := fun i d hd => (g5 _ d (hget i d hd).2).1
                have hrow := ju (O := ak A μ σ) (w := w) (k := k') hpos (fun i j => c.getD ((off + i) * ah k' + j) Go.undef) hsh
                  (fun i d j x hd hx => by obtain ⟨v, hv, ho, hr⟩ := hcell i d j x hd hx; simpa [hv] using ho)
                  (fun i d j x hd hx => by obtain ⟨v, hv, ho, hr⟩ := hcell i d j x hd hx; simpa [hv] using hr)
                refine ⟨_, cap, _, rfl, hrow, fun dr => ?_⟩
                have := jv (P := P) (w := w) hpos b (off * ah k') (fun i j => c.getD ((off + i) * ah k' + j) Go.undef) hsh (fun i d j x hd hx => by
                  obtain ⟨v, hv, ho, hr⟩ := hcell i d j x hd hx
                  rw [cD g2, show off * ah k' + i * ah k' + j = (off + i) * ah k' + j by rw [Nat.add_mul], hv]
                  simp [hv]) dr
                rw [hlen] at this ⊢
                simp only [Builtin.firstCells]
                exact this
          · cases hel
    | _ => simp [bX] at hk
theorem mI {O : Nat → Nat → Prop} (s : ByteArray) : da O w none (dC s) (s.data.toList.map fun b => Value.int .u8 b.toNat) := by
  refine ⟨by simp [dC], fun v hv => ?_, fun i d hd => ?_⟩
  · obtain ⟨b, _, rfl⟩ := List.mem_map.1 hv; rfl
  · simp only [dC, List.getElem?_map] at hd
    cases hb : s.data.toList[i]? with
    | none => simp [hb] at hd
    | some b =>
      simp [hb] at hd
      subst hd
      refine ⟨rfl, fun j x hx => ?_⟩
      cases j <;> simp [D.cells] at hx
      subst hx
      exact ⟨.int .u8 b.toNat, by rw [List.getElem?_map]; simp only [lU, Nat.mul_one, Nat.add_zero, hb]; rfl, rfl, .int _ _ (lT b)⟩
theorem fR {t el t2 : TypeId} {u2 : TypeDesc} {k : Option Nat} {i : TypeInfo} {z : Value} (ht : P.underlying t = some (.slice el)) (hu2 : P.underlying t2 = some u2) (hni : (∃ q, u2 = .slice q) ∨ u2 = .string)
    (hk : bp P el = some k) (hi : P.info? el = some i) (hz : i.zero = some z) (hby : P.bytesOf el ≤ 4096) (ty : TypeId) (base : Option Addr) (sLen sCap m : Nat) (u : Value) (olds news : List Value)
    (hlen : (Builtin.lenOf u).run P w = .ok m w) (hnew : ∀ dr, (Builtin.firstCells (ah k) m u).run P { w with drawn := dr } = .ok news.toArray { w with drawn := dr })
    (hold : ∀ dr, (Builtin.firstCells (ah k) sLen (.slice base sLen sCap)).run P { w with drawn := dr } = .ok olds.toArray { w with drawn := dr }) (hlim : sLen + m ≤ 4294967296) :
    (sLen + m ≤ sCap ∧ ∀ w', (match base with | some ad => (storeCells (ad.add (sLen * ah k)) news).run P w | none => .ok () w) = .ok () w' →
      (Builtin.append_ #[t, t2] ty #[.slice base sLen sCap, u]).run P w = .ok (.slice base (sLen + m) sCap) w') ∨
    (sCap < sLen + m ∧ ∃ cap, sLen + m ≤ cap ∧ cap ≤ maxLen ∧ (Builtin.append_ #[t, t2] ty #[.slice base sLen sCap, u]).run P w =
      .ok (.slice (some ⟨w.heap.size, 0, none⟩) (sLen + m) cap) (({ w with drawn := w.drawn + 1 } : World).alloc (.cells (olds.toArray ++ news.toArray ++ Builtin.zeroCells z.cells (cap - (sLen + m))) el))) := by
  obtain ⟨_, hsz, _, _, hpos⟩ := cH (w := w) hk
  by_cases hroom : sLen + m ≤ sCap
  · left
    refine ⟨hroom, fun w' hw => ?_⟩
    have hn0 := hnew w.drawn
    have hn0' : (Builtin.firstCells (ah k) m u).run P w = .ok news.toArray w := hn0
    cases base with
    | none =>
      simp at hw
      subst hw
      rcases hni with ⟨q, rfl⟩ | rfl <;> simp [Builtin.append_, bf ht, bf hu2, hsz, hlen, hroom, hn0']
    | some ad =>
      simp only at hw
      rcases hni with ⟨q, rfl⟩ | rfl <;> simp [Builtin.append_, bf ht, bf hu2, hsz, hlen, hroom, hn0', hw]
  · right
    have hc : sCap < sLen + m := by omega
    have hbi : P.bytesOf el = i.bytes := by simp [Program.bytesOf, hi]
    rw [hbi] at hby
    have hnb : (sLen + m) * i.bytes ≤ 140737488355328 := by
      have : (sLen + m) * i.bytes ≤ 4294967296 * 4096 := Nat.mul_le_mul hlim hby
      omega
    have hfit := growslice_fits hc hnb
    have h63 : ¬ (((sLen + m : Nat) : Int) > IntKind.i64.max) := by
      simp [IntKind.max, IntKind.signed, IntKind.bits]; omega
    have hzv : (zeroValue el).run P { w with drawn := w.drawn + 1 } = .ok z { w with drawn := w.drawn + 1 } := ew hi hz
    have hn1 := hnew (w.drawn + 1)
    have ho1 := hold (w.drawn + 1)
    have hge := grownCap_ge w (sLen + m) sCap el
    have hcm := grownCap_le_maxLen w (sLen + m) sCap el (by simp only [maxLen]; omega)
    refine ⟨hc, grownCap w (sLen + m) sCap el, hge, hcm, ?_⟩
    have hfit' : ¬ (281474976710656 < Builtin.nextslicecap (sLen + m) sCap * i.bytes) := by omega
    have h63' : ¬ (9223372036854775807 < ((sLen : Int) + (m : Int))) := by omega
    have hn2 : (Builtin.firstCells (ah k) m u).run P w.drew = .ok news.toArray w.drew := hn1
    have ho2 : (Builtin.firstCells (ah k) sLen (.slice base sLen sCap)).run P w.drew = .ok olds.toArray w.drew := ho1
    have hz2 : (zeroValue el).run P w.drew = .ok z w.drew := hzv
    have hdr : ({ w with drawn := w.drawn + 1 } : World) = w.drew := rfl
    rw [hdr]
    clear hdr hn1 ho1 hzv
    have hcell : ∀ X : Array Value, (olds.toArray ++ (news.toArray ++ X)) = (olds ++ news).toArray ++ X := fun X => by
      apply Array.ext'; simp
    rcases hni with ⟨q, rfl⟩ | rfl <;>
      simp [Builtin.append_, bf ht, bf hu2, hsz, hlen, hroom, typeInfo, hi, h63', hfit', Question.forced, ho2, hn2, hz2, newRow, grownCap, hcell]
theorem aZ.ofDrop {σ0 : au} (hd : ∀ j blk, σ0 j = some blk → σ j = some blk) (h : aZ P A μ σ0 w o a v σ' n n') : aZ P A μ σ w o a v σ' n n' := by
  obtain ⟨nx, cv, w', μ', h1, h2, h3, h4, h5, h6⟩ := h
  exact ⟨nx, cv, w', μ', h1, h2, h3, h4, (aA.drop hd).trans h5, h6⟩
theorem jw (hs : aB A μ σ w) (hn : μ n = none) (m : Bool) (k : Option Nat) {ad : Option Addr} (hr : (execOp a.eval o).run P w = .ok (.value (.slice ad 0 0)) w) :
    aZ P A μ σ w o a (.loc n 0 0) (aj σ n (some (.lst m k []))) n (n + 1) := by
  have g : aA μ σ w (aj μ n (some .nil)) (aj σ n (some (.lst m k []))) w :=
    { os := rfl, tape := rfl, output := rfl, size := Nat.le_refl _, block := fun _ _ _ => rfl, cells := fun _ c _ _ hc => ⟨c, hc, rfl, fun _ _ => rfl⟩
      own := fun b o' ho => by
        obtain ⟨id, bl, h1, h2⟩ := ho
        by_cases e : id = n
        · subst e; simp only [aL] at h2; unfold aK.ownsAt at h2; split at h2 <;> simp_all
        · rw [aG _ _ e] at h1 h2; exact .inl ⟨id, bl, h1, h2⟩
      ownB := fun b ho => by
        obtain ⟨id, bl, k', h1, h2⟩ := ho
        by_cases e : id = n
        · subst e; simp only [aL] at h2; cases h2
        · rw [aG _ _ e] at h1 h2; exact .inl ⟨id, bl, k', h1, h2⟩
      grow := fun id p hp => by rw [aG]; exact hp; rintro rfl; rw [hn] at hp; cases hp }
  refine ⟨_, _, w, aj μ n (some .nil), hr, .inl rfl, .loc0 _ _ _ (by rw [aL]; simp), hs.update g n (fun j x hj h => by rwa [aG _ _ hj] at h) (fun j hj => aG _ _ hj) (fun x hx => ?_) (fun _ _ _ _ _ _ _ => rfl) (fun b k' x hx hp => ?_), g, fun id h => ?_⟩
  · simp only [aL, Option.some.injEq] at hx; subst hx; exact .inl ⟨aL _ _ _, rfl⟩
  · simp only [aL] at hp; cases hp
  · by_cases e : id = n
    · exact .inr (by omega)
    · rw [aG _ _ e] at h; exact .inl h
theorem mJ (hs : aB A μ σ w) {id : Nat} {blk : aK} {p : aJ} (hid : σ id = some blk) (hp : μ id = some p) (hn : μ n = none) :
    aA μ σ w (aj μ n (some p)) (aj (aj σ id none) n (some blk)) w ∧ aB A (aj μ n (some p)) (aj (aj σ id none) n (some blk)) w := by
  have hne : id ≠ n := by rintro rfl; rw [hn] at hp; cases hp
  have hsn : ∀ j, j ≠ n → ∀ x, aj (aj σ id none) n (some blk) j = some x → j ≠ id ∧ σ j = some x := by
    intro j hj x hx
    rw [aG _ _ hj] at hx
    by_cases e : j = id
    · subst e; simp [aL] at hx
    · rw [aG _ _ e] at hx; exact ⟨e, hx⟩
  have g : aA μ σ w (aj μ n (some p)) (aj (aj σ id none) n (some blk)) w :=
    { os := rfl, tape := rfl, output := rfl, size := Nat.le_refl _, block := fun _ _ _ => rfl, cells := fun _ c _ _ hc => ⟨c, hc, rfl, fun _ _ => rfl⟩
      own := fun b o' ho => by
        obtain ⟨j, bl, h1, h2⟩ := ho
        by_cases e : j = n
        · subst e; simp only [aL, Option.some.injEq] at h1 h2; subst h1; exact .inl ⟨id, blk, hid, by rw [hp]; exact h2⟩
        · obtain ⟨_, h3⟩ := hsn j e bl h1; rw [aG _ _ e] at h2; exact .inl ⟨j, bl, h3, h2⟩
      ownB := fun b ho => by
        obtain ⟨j, bl, k', h1, h2⟩ := ho
        by_cases e : j = n
        · subst e; simp only [aL, Option.some.injEq] at h2; subst h2; exact .inl ⟨id, blk, k', hid, hp⟩
        · obtain ⟨_, h3⟩ := hsn j e bl h1; rw [aG _ _ e] at h2; exact .inl ⟨j, bl, k', h3, h2⟩
      grow := fun j q hq => by rw [aG]; exact hq; rintro rfl; rw [hn] at hq; cases hq }
  refine ⟨g, hs.update g n (fun j x hj h => (hsn j hj x h).2) (fun j hj => aG _ _ hj) (fun x hx => ?_) (fun _ _ _ _ _ _ _ => rfl) (fun b k' x hx hq => ?_)⟩
  · simp only [aL, Option.some.injEq] at hx
    subst hx
    have hb := bD.keep g hs.alt (fun _ _ _ => rfl) (hs.blks id blk hid)
    cases blk with
    | lst m k els =>
      rcases hb with ⟨h1, h2⟩ | ⟨b, c, ty, fr, h1, h2⟩
      · rw [aG _ _ hne, hp] at h1
        exact .inl ⟨by rw [aL, h1], h2⟩
      · rw [aG _ _ hne, hp] at h1
        exact .inr ⟨b, c, ty, fr, by rw [aL, h1], h2⟩
    | var cs =>
      obtain ⟨b, c, ty, fr, h1, h2⟩ := hb
      rw [aG _ _ hne, hp] at h1
      exact ⟨b, c, ty, fr, by rw [aL, h1], h2⟩
    | mp es =>
      obtain ⟨b, c, clk, h1, h2⟩ := hb
      rw [aG _ _ hne, hp] at h1
      exact ⟨b, c, clk, by rw [aL, h1], h2⟩
  · simp only [aL, Option.some.injEq] at hq
    subst hq
    refine ⟨hs.amb id blk b k' hid hp, fun j x' k'' hj hx' hq' => ?_⟩
    obtain ⟨h1, h2⟩ := hsn j hj x' hx'
    rw [aG _ _ hj] at hq'
    exact h1 (hs.inj j id x' blk b k'' k' h2 hid hq' hp)
theorem kz {O : Nat → Nat → Prop} {k : Option Nat} {els ys : List D} {olds news rest : List Value} (h1 : da O w k els olds) (h2 : da O w k ys news) :
    ∀ (i : Nat) d, (els ++ ys)[i]? = some d → d.shape k = true ∧ ∀ (j : Nat) x, d.cells[j]? = some x → ∃ v, (olds ++ news ++ rest).toArray[i * ah k + j]? = some v ∧ v.oneCell' = true ∧ DRel O w x v := by
  intro i d hd
  by_cases hi : i < els.length
  · rw [List.getElem?_append_left hi] at hd
    obtain ⟨a1, a2⟩ := h1.2.2 i d hd
    refine ⟨a1, fun j x hx => ?_⟩
    obtain ⟨v, hv, b1, b2⟩ := a2 j x hx
    have := (List.getElem?_eq_some_iff.1 hv).1
    exact ⟨v, by rw [List.getElem?_toArray, List.append_assoc, List.getElem?_append_left this]; exact hv, b1, b2⟩
  · rw [List.getElem?_append_right (by omega)] at hd
    obtain ⟨a1, a2⟩ := h2.2.2 _ d hd
    refine ⟨a1, fun j x hx => ?_⟩
    obtain ⟨v, hv, b1, b2⟩ := a2 j x hx
    have hl := (List.getElem?_eq_some_iff.1 hv).1
    have e : i * ah k + j - olds.length = (i - els.length) * ah k + j := by
      rw [h1.1, Nat.mul_sub_right_distrib]
      have : els.length * ah k ≤ i * ah k := Nat.mul_le_mul_right _ (by omega)
      omega
    have hge : olds.length ≤ i * ah k + j := by
      rw [h1.1]
      have : els.length * ah k ≤ i * ah k := Nat.mul_le_mul_right _ (by omega)
      omega
    refine ⟨v, ?_, b1, b2⟩
    rw [List.getElem?_toArray, List.append_assoc, List.getElem?_append_right hge, e, List.getElem?_append_left hl]
    exact hv
end
end Go.AM
