import Derived.Test.YtfjelgjfbjjopaaAmOps4
import Derived.Laws.CopyRow
set_option linter.unusedVariables false
set_option linter.unusedSectionVars false
set_option linter.unusedSimpArgs false
namespace Go.AM
open Go Go.RowKit
variable [Glob]
section
variable {P : Program} {A : Nat → Nat → Prop} {μ : Nat → Option aJ} {σ σ' : au} {w : World} {o : Oper} {a : Act} {v : V} {n n' : Nat} {e : AX → V}
theorem pG {x : V} {i : Int} (h : eN x = some i) : ∃ k, x = .d (.int k i) := by
  unfold eN at h
  split at h
  · cases h; exact ⟨_, rfl⟩
  · cases h
theorem jr {O : Nat → Nat → Prop} (he : cx μ O w e a) {lo : Option AX} {l : Option Operand} (hc : cP lo l = true) {v : V} {i : Int} (hlo : lo.map e = some v) (hi : eN v = some i) : ∃ k, l.map a.eval = some (.int k i) := by
  cases lo with
  | none => simp at hlo
  | some x => cases l with
    | none => simp [cP] at hc
    | some y =>
      simp at hlo
      subst hlo
      obtain ⟨k, hk⟩ := pG hi
      have := he x y (by simpa [cP] using hc)
      rw [hk] at this
      exact ⟨k, by simp [cQ this]⟩
theorem js {lo : Option AX} {l : Option Operand} (hc : cP lo l = true) (hlo : lo.map e = none) : l.map a.eval = none := by
  cases lo with
  | some x => simp at hlo
  | none => cases l with
    | none => rfl
    | some y => simp [cP] at hc
theorem gC {O : Nat → Nat → Prop} (he : cx μ O w e a) {lo hi : Option AX} {l h : Option Operand} (hl : cP lo l = true) (hh : cP hi h = true) {len cap p q : Nat} (hcap : len ≤ cap) (isS : Bool)
    (hb : dg len (lo.map e) (hi.map e) = some (p, q)) : (Instr.sliceBounds isS len cap (l.map a.eval) (h.map a.eval) none).run P w = .ok (p, q, cap) w ∧ p ≤ q ∧ q ≤ len := by
  unfold dg at hb
  split at hb
  · rename_i hv lv hhv hlv
    split at hb
    · rename_i hc
      obtain ⟨c1, c2, c3⟩ := hc
      simp at hb
      obtain ⟨rfl, rfl⟩ := hb
      refine ⟨?_, by omega, by omega⟩
      have eh : (hi.map e = none ∧ hv = len) ∨ ∃ v, hi.map e = some v ∧ eN v = some hv := by
        cases hq : hi.map e with
        | none => rw [hq] at hhv; cases hhv; exact .inl ⟨rfl, rfl⟩
        | some v => rw [hq] at hhv; exact .inr ⟨v, rfl, hhv⟩
      have el : (lo.map e = none ∧ lv = 0) ∨ ∃ v, lo.map e = some v ∧ eN v = some lv := by
        cases hq : lo.map e with
        | none => rw [hq] at hlv; cases hlv; exact .inl ⟨rfl, rfl⟩
        | some v => rw [hq] at hlv; exact .inr ⟨v, rfl, hlv⟩
      rcases eh with ⟨h1, rfl⟩ | ⟨v1, h1, h2⟩ <;> rcases el with ⟨g1, rfl⟩ | ⟨v2, g1, g2⟩
      · rw [js hh h1, js hl g1]
        simp [Instr.sliceBounds]
      · obtain ⟨k2, e2⟩ := jr he hl g1 g2
        rw [js hh h1, e2]
        simp [Instr.sliceBounds, Instr.sliceBound, asIntOf, c1, c2]
      · obtain ⟨k1, e1⟩ := jr he hh h1 h2
        rw [e1, js hl g1]
        have : hv ≤ cap := by omega
        have h0 : 0 ≤ hv := by omega
        simp [Instr.sliceBounds, Instr.sliceBound, asIntOf, this, h0]
      · obtain ⟨k1, e1⟩ := jr he hh h1 h2
        obtain ⟨k2, e2⟩ := jr he hl g1 g2
        rw [e1, e2]
        have : hv ≤ cap := by omega
        have h0 : 0 ≤ hv := by omega
        have h3 : lv ≤ ↑hv.toNat := by omega
        simp [Instr.sliceBounds, Instr.sliceBound, asIntOf, this, h0, c1, h3]
        intro hgt
        omega
    · cases hb
  · cases hb
theorem pH {x : AX} {lo hi : Option AX} {y : Operand} {l h : Option Operand} {t : TypeId} {s : ByteArray} {p q : Nat} (ho : o.op = .slice t y l h none) (hl : cP lo l = true) (hh : cP hi h = true) (ht : dD P t = true)
    (he : cx μ (ak A μ σ) w e a) (hx : aw μ (ak A μ σ) w (e x) (a.eval y)) (hxe : e x = .d (.str s)) (hs : aB A μ σ w) (hb : dg s.size (lo.map e) (hi.map e) = some (p, q)) :
    aZ P A μ σ w o a (.d (.str (s.extract p q))) σ n n := by
  rw [hxe] at hx
  have hrr := kg hx
  have hy := fq hx
  obtain ⟨hr, _, _⟩ := gC (P := P) he hl hh (Nat.le_refl s.size) false hb
  exact .val hs (cv := .string (s.extract p q)) (by simp [execOp, ho, hy, Instr.sliceAt, Instr.slice, bf (gA ht), hr]) (.d _ _ (.str _ (by rw [ByteArray.size_extract]; omega)))
theorem mt {id off len : Nat} {k : Option Nat} (hs : aB A μ σ w) (h : bX σ (.loc id off len) = some k) : μ id = some .nil ∨ ∃ b, μ id = some (.at b k) := by
  unfold bX at h
  simp only at h
  cases hid : σ id with
  | none => simp [hid] at h
  | some blk =>
    cases blk with
    | lst m k' els =>
      simp [hid] at h
      subst h
      rcases hs.blks id _ hid with ⟨h1, _⟩ | ⟨b, c, ty, fr, h1, _⟩
      · exact .inl h1
      · exact .inr ⟨b, h1⟩
    | var cs =>
      simp [hid] at h
      subst h
      obtain ⟨b, c, ty, fr, h1, _⟩ := hs.blks id _ hid
      exact .inr ⟨b, h1⟩
    | mp es => simp [hid] at h
theorem pI {cs : List D} {j l h : Nat} {k : Option Nat} {els : List D} (he : je cs j k l h = some els) : els.length = h - l ∧ j + h * ah k ≤ cs.length ∧
    ∀ (i : Nat) d, els[i]? = some d → i < h - l ∧ d.shape k = true ∧ cI cs (j + (l + i) * ah k) k = some d := by
  unfold je at he
  split at he
  · rename_i h1
    simp only at he
    split at he
    · rename_i h2
      cases he
      refine ⟨by simp, h1, fun i d hd => ?_⟩
      have hi : i < h - l := by have := (List.getElem?_eq_some_iff.1 hd).1; simpa using this
      have hsh : d.shape k = true := List.all_eq_true.1 h2 d (dx hd)
      rw [List.getElem?_map, List.getElem?_range hi] at hd
      simp only [Option.map_some, Option.some.injEq] at hd
      refine ⟨hi, hsh, ?_⟩
      cases hs : cI cs (j + (l + i) * ah k) k with
      | none => rw [hs] at hd; simp at hd; subst hd; simp [D.shape] at hsh
      | some x => rw [hs] at hd; simp at hd; rw [hd]
    · cases he
  · cases he
theorem pJ {cs : List D} {j : Nat} {k : Option Nat} {d : D} (h : cI cs j k = some d) (hs : d.shape k = true) (i : Nat) (x : D) (hx : d.cells[i]? = some x) : cs[j + i]? = some x := by
  cases k with
  | none =>
    simp only [cI] at h
    cases d <;> simp [D.shape] at hs <;> (simp only [D.cells] at hx; cases i with
      | zero => simp at hx; subst hx; simpa using h
      | succ i => simp at hx)
  | some m =>
    simp only [cI] at h
    split at h
    · cases h
      simp only [D.cells] at hx
      rw [List.getElem?_take] at hx
      split at hx
      · rw [List.getElem?_drop] at hx; exact hx
      · cases hx
    · cases h
theorem pK {m : Nat} (hmax : m ≤ maxLen) {k : Option Nat} {x : AX} {lo hi : Option AX} {y : Operand} {l h : Option Operand} {t el : TypeId} (ho : o.op = .slice t y l h none) (hl : cP lo l = true) (hh : cP hi h = true) (ht : P.underlying t = some (.array m el)) (hk : bp P el = some k)
    (he : cx μ (ak A μ σ) w e a) (hx : aw μ (ak A μ σ) w (e x) (a.eval y)) (hs : aB A μ σ w) {p q : Nat} {kb : Option Nat} {d : D} {j : Nat} {els : List D}
    (hxe : e x = .d (.cptr kb d j)) (hb : dg m (lo.map e) (hi.map e) = some (p, q)) (hels : je d.cells j k p q = some els) : aZ P A μ σ w o a (.d (.vec k els)) σ n n := by
  obtain ⟨_, hsz, _, _, hpos⟩ := cH (w := w) hk
  generalize hav : a.eval y = u at hx
  rw [hxe] at hx
  obtain ⟨e1, e2, e3⟩ := pI hels
  cases hx with
  | d _ _ hd =>
    cases hd with
    | cptr _ _ _ b off f h1 h2 h3 h4 h5 =>
      obtain ⟨hr, hpq, hq⟩ := gC (P := P) (w := w) he hl hh (Nat.le_refl m) false hb
      refine .val hs (cv := .slice (some ⟨b, if m = p then off + j else off + j + p * ah k, none⟩) (q - p) (m - p)) ?_ (.d _ _ ?_)
      · simp only [execOp, ho, hav, Instr.sliceAt]
        simp [bf ht, hr, hsz, Instr.sureAddr]
        split <;> simp [Addr.add_lit]
      · have hoff : ∀ i, i < q - p → ∀ jj, (if m = p then off + j else off + j + p * ah k) + i * ah k + jj = off + (j + (p + i) * ah k + jj) := by
          intro i hi jj
          rw [if_neg (by omega), Nat.add_mul]; omega
        have hc : ∀ (i : Nat) d' (jj : Nat) z, els[i]? = some d' → d'.cells[jj]? = some z → i < q - p ∧ d.cells[j + (p + i) * ah k + jj]? = some z := fun i d' jj z hd hz => by
          obtain ⟨g1, g2, g3⟩ := e3 i d' hd
          exact ⟨g1, pJ g3 g2 jj z hz⟩
        have := DRel.vec (own := ak A μ σ) (w := w) k els b (if m = p then off + j else off + j + p * ah k) (m - p) (fun i jj => f (j + (p + i) * ah k + jj)) ⟨by omega, by omega⟩
          (fun i d' hd => (e3 i d' hd).2.1)
          (fun i d' jj z hd hz => by rw [hoff i (hc i d' jj z hd hz).1]; exact h2 _ z (hc i d' jj z hd hz).2)
          (fun i d' jj z hd hz => by rw [hoff i (hc i d' jj z hd hz).1]; exact h3 _ z (hc i d' jj z hd hz).2)
          (fun i d' jj z hd hz => h4 _ z (hc i d' jj z hd hz).2)
          (fun i d' jj z hd hz => h5 _ z (hc i d' jj z hd hz).2)
        rw [e1] at this
        exact this
theorem ku {k : Option Nat} {x : AX} {lo hi : Option AX} {y : Operand} {l h : Option Operand} {t el : TypeId} (ho : o.op = .slice t y l h none) (hl : cP lo l = true) (hh : cP hi h = true) (ht : P.underlying t = some (.slice el)) (hk : bp P el = some k)
    (he : cx μ (ak A μ σ) w e a) (hx : aw μ (ak A μ σ) w (e x) (a.eval y)) (hs : aB A μ σ w) {p q : Nat}
    (hv : (∃ vs, e x = .d (.vec k vs) ∧ dg vs.length (lo.map e) (hi.map e) = some (p, q) ∧ v = .d (.vec k ((vs.drop p).take (q - p)))) ∨
      (e x = .d .nils ∧ dg 0 (lo.map e) (hi.map e) = some (p, q) ∧ v = .d .nils) ∨
      (∃ id off len, e x = .loc id off len ∧ bX σ (.loc id off len) = some k ∧ dg len (lo.map e) (hi.map e) = some (p, q) ∧ v = .loc id (off + p) (q - p))) : aZ P A μ σ w o a v σ n n := by
  obtain ⟨_, hsz, _, _, hpos⟩ := cH (w := w) hk
  generalize hav : a.eval y = u at hx
  have fin : ∀ {b : Nat} {oo len cap : Nat}, u = .slice (some ⟨b, oo, none⟩) len cap → len ≤ cap → dg len (lo.map e) (hi.map e) = some (p, q) →
      (execOp a.eval o).run P w = .ok (.value (.slice (some ⟨b, if cap = p then oo else oo + p * ah k, none⟩) (q - p) (cap - p))) w ∧ p ≤ q ∧ q ≤ len := by
    intro b oo len cap hu hc hb
    obtain ⟨hr, h1, h2⟩ := gC (P := P) he hl hh hc true hb
    refine ⟨?_, h1, h2⟩
    subst hu
    simp only [execOp, ho, hav, Instr.sliceAt, Instr.slice]
    simp [bf ht, hr, hsz]
    split <;> simp [Addr.add_lit]
  rcases hv with ⟨vs, hxe, hb, rfl⟩ | ⟨hxe, hb, rfl⟩ | ⟨id, off, len, hxe, hkd, hb, rfl⟩ <;> rw [hxe] at hx
  · cases hx with
    | d _ _ hd =>
      cases hd with
      | vecn _ ad =>
        obtain ⟨hr, h1, h2⟩ := gC (P := P) he hl hh (Nat.le_refl 0) true (by simpa using hb)
        have hq : q = 0 := by omega
        have hp : p = 0 := by omega
        subst hq; subst hp
        refine .val hs (cv := .slice ad 0 0) ?_ (.d _ _ ?_)
        · simp only [execOp, ho, hav, Instr.sliceAt, Instr.slice]
          simp [bf ht, hr, hsz]
        · simp; exact .vecn k ad
      | vec _ _ b oo cap f h1 h2 h3 h4 h5 h6 =>
        obtain ⟨hr, hpq, hq⟩ := fin rfl h1.1 hb
        refine .val hs hr (.d _ _ ?_)
        have hlen : ((vs.drop p).take (q - p)).length = q - p := by simp; omega
        have hget : ∀ (i : Nat) d, ((vs.drop p).take (q - p))[i]? = some d → i < q - p ∧ vs[p + i]? = some d := by
          intro i d hd
          rw [List.getElem?_take] at hd
          split at hd
          · rename_i hi; rw [List.getElem?_drop] at hd; exact ⟨hi, hd⟩
          · cases hd
        have hoff : ∀ i, i < q - p → ∀ j, (if cap = p then oo else oo + p * ah k) + i * ah k + j = oo + (p + i) * ah k + j := by
          intro i hi j
          rw [if_neg (by omega), Nat.add_mul]; omega
        have := DRel.vec (own := ak A μ σ) (w := w) k ((vs.drop p).take (q - p)) b (if cap = p then oo else oo + p * ah k) (cap - p) (fun i j => f (p + i) j) ⟨by rw [hlen]; omega, by omega⟩
          (fun i d hd => h2 _ d (hget i d hd).2)
          (fun i d j x hd hx => by rw [hoff i (hget i d hd).1]; exact h3 _ d j x (hget i d hd).2 hx)
          (fun i d j x hd hx => by rw [hoff i (hget i d hd).1]; exact h4 _ d j x (hget i d hd).2 hx)
          (fun i d j x hd hx => h5 _ d j x (hget i d hd).2 hx) (fun i d j x hd hx => h6 _ d j x (hget i d hd).2 hx)
        rw [hlen] at this
        exact this
  · have hu := jm hx
    obtain ⟨hr, h1, h2⟩ := gC (P := P) he hl hh (Nat.le_refl 0) true hb
    have hq : q = 0 := by omega
    have hp : p = 0 := by omega
    subst hq; subst hp
    refine .val hs (cv := .slice none 0 0) ?_ (.d _ _ .nils)
    subst hu
    simp only [execOp, ho, hav, Instr.sliceAt, Instr.slice]
    simp [bf ht, hr, hsz]
  · cases hx with
    | loc0 _ _ ad hm =>
      obtain ⟨hr, h1, h2⟩ := gC (P := P) he hl hh (Nat.le_refl 0) true hb
      have hq : q = 0 := by omega
      have hp : p = 0 := by omega
      subst hq; subst hp
      refine .val hs (cv := .slice ad 0 0) ?_ (.loc0 _ _ _ hm)
      simp only [execOp, ho, hav, Instr.sliceAt, Instr.slice]
      simp [bf ht, hr, hsz]
    | loc _ _ _ b k' cap h1 h2 h3 h4 =>
      obtain ⟨hr, hpq, hq⟩ := fin rfl h2 hb
      have hkk : k' = k := by
        rcases mt hs hkd with h | ⟨b', h⟩ <;> rw [h] at h1 <;> cases h1; rfl
      subst hkk
      refine .val hs hr ?_
      by_cases hcp : cap = p
      · have : q - p = 0 := by omega
        rw [this, show cap - p = 0 by omega]
        exact .loc0 _ _ _ (by rw [h1]; simp)
      · rw [if_neg hcp, ← Nat.add_mul]
        refine .loc id (off + p) (q - p) b k' (cap - p) h1 (by omega) (by omega) ?_
        rw [show off + p + (cap - p) = off + cap by omega]
        exact h4
theorem mu {k : Option Nat} {x i : AX} {y j : Operand} {t el : TypeId} {q : IntKind} {ix : Int} (ho : o.op = .indexAddr t y j) (ht : P.underlying t = some (.slice el)) (hk : bp P el = some k)
    (hx : aw μ (ak A μ σ) w (e x) (a.eval y)) (hi : aw μ (ak A μ σ) w (e i) (a.eval j)) (hs : aB A μ σ w) (hie : e i = .d (.int q ix)) (h0 : 0 ≤ ix)
    (hv : (∃ vs d, e x = .d (.vec k vs) ∧ vs[ix.toNat]? = some d ∧ v = .d (.cptr k d 0)) ∨ (∃ id off len, e x = .loc id off len ∧ bX σ (.loc id off len) = some k ∧ ix < (len : Int) ∧ v = .ptr id (off + ix.toNat) 0)) : aZ P A μ σ w o a v σ n n := by
  obtain ⟨_, hsz, _, _, hpos⟩ := cH (w := w) hk
  rw [hie] at hi
  have hi' := cQ hi
  generalize hav : a.eval y = u at hx
  have fin : ∀ {b oo len cap : Nat}, u = .slice (some ⟨b, oo, none⟩) len cap → ix < (len : Int) → (execOp a.eval o).run P w = .ok (.value (.pointer (some ⟨b, oo + ix.toNat * ah k, none⟩))) w := by
    intro b oo len cap hu hlt
    subst hu
    simp only [execOp, ho, hav, hi', Instr.indexAt]
    simp [asIntOf, bf ht, h0, hlt, hsz, Addr.add_lit]
  rcases hv with ⟨vs, d, hxe, hd, rfl⟩ | ⟨id, off, len, hxe, hkd, hlt, rfl⟩ <;> rw [hxe] at hx
  · have hlt : ix.toNat < vs.length := (List.getElem?_eq_some_iff.1 hd).1
    cases hx with
    | d _ _ hdr => cases hdr with
      | vecn _ _ => simp at hlt
      | vec _ _ b oo cap f h1 h2 h3 h4 h5 h6 =>
        refine .val hs (fin rfl (by omega)) (.d _ _ ?_)
        have := DRel.cptr (own := ak A μ σ) (w := w) k d 0 b (oo + ix.toNat * ah k) (f ix.toNat) (h2 _ d hd) (fun j x hx => h3 _ d j x hd hx) (fun j x hx => h4 _ d j x hd hx) (fun j x hx => h5 _ d j x hd hx) (fun j x hx => h6 _ d j x hd hx)
        simpa using this
  · cases hx with
    | loc0 => exact absurd hlt (by omega)
    | loc _ _ _ b k' cap h1 h2 h3 h4 =>
      have hkk : k' = k := by
        rcases mt hs hkd with h | ⟨b', h⟩ <;> rw [h] at h1 <;> cases h1; rfl
      subst hkk
      refine .val hs (fin rfl hlt) ?_
      rw [← Nat.add_mul]
      have := aw.ptr (own := ak A μ σ) (w := w) id (off + ix.toNat) 0 b k' h1
      simpa using this
theorem mw {m : Nat} {k : Option Nat} {x i : AX} {y j : Operand} {t el : TypeId} {q : IntKind} {ix : Int} (ho : o.op = .indexAddr t y j) (ht : P.underlying t = some (.array m el)) (hk : bp P el = some k)
    (hx : aw μ (ak A μ σ) w (e x) (a.eval y)) (hi : aw μ (ak A μ σ) w (e i) (a.eval j)) (hs : aB A μ σ w) (hie : e i = .d (.int q ix)) (h0 : 0 ≤ ix) (hm : ix < m)
    (hv : (∃ id ii jj, e x = .ptr id ii jj ∧ v = .ptr id ii (jj + ix.toNat * ah k)) ∨ (∃ k' d jj, e x = .d (.cptr k' d jj) ∧ v = .d (.cptr k' d (jj + ix.toNat * ah k)))) : aZ P A μ σ w o a v σ n n := by
  obtain ⟨_, hsz, _, _, hpos⟩ := cH (w := w) hk
  rw [hie] at hi
  have hi' := cQ hi
  generalize hav : a.eval y = u at hx
  have fin : ∀ {b oo : Nat}, u = .pointer (some ⟨b, oo, none⟩) → (execOp a.eval o).run P w = .ok (.value (.pointer (some ⟨b, oo + ix.toNat * ah k, none⟩))) w := by
    intro b oo hu
    subst hu
    simp only [execOp, ho, hav, hi', Instr.indexAt]
    simp [asIntOf, bf ht, h0, hm, hsz, Addr.add_lit, Instr.sureAddr]
  rcases hv with ⟨id, ii, jj, hxe, rfl⟩ | ⟨k', d, jj, hxe, rfl⟩ <;> rw [hxe] at hx
  · cases hx with
    | ptr _ _ _ b k' hp =>
      refine .val hs (fin rfl) ?_
      rw [Nat.add_assoc]
      exact .ptr _ _ _ b k' hp
  · cases hx with
    | d _ _ hd => cases hd with
      | cptr _ _ _ b oo g h1 h2 h3 h4 h5 =>
        refine .val hs (fin rfl) (.d _ _ ?_)
        rw [Nat.add_assoc]
        exact .cptr _ _ _ b oo g h1 h2 h3 h4 h5
theorem kv : ∀ (l : List Value) (k off : Nat) (cells : Array Value), off + k + l.length ≤ cells.size →
    ((l.zipIdx k).foldl (fun cs (x : Value × Nat) => cs.setIfInBounds (off + x.2) x.1) cells).toList = cells.toList.take (off + k) ++ l ++ cells.toList.drop (off + k + l.length)
  | [], k, off, cells, h => by simp
  | v :: l, k, off, cells, h => by
    simp only [List.zipIdx_cons, List.foldl_cons]
    rw [kv l (k + 1) off (cells.setIfInBounds (off + k) v) (by simp at h ⊢; omega)]
    simp at h
    have e := list_seg_step cells.toList (off + k) v l (by simp; omega)
    simpa [Array.toList_setIfInBounds, Nat.add_assoc] using e
theorem pL {O : Nat → Nat → Prop} {cells mid : List V} {cs mids : List Value} {off : Nat} (hl : cells.length = cs.length) (hm : mid.length = mids.length)
    (h1 : ∀ (i : Nat) x v, cells[i]? = some x → cs[i]? = some v → aw μ O w x v) (h2 : ∀ (i : Nat) x v, mid[i]? = some x → mids[i]? = some v → aw μ O w x v) (hle : off + mid.length ≤ cells.length) :
    ∀ (i : Nat) x v, (cells.take off ++ mid ++ cells.drop (off + mid.length))[i]? = some x → (cs.take off ++ mids ++ cs.drop (off + mids.length))[i]? = some v → aw μ O w x v := by
  intro i x v hx hv
  have l1 : (cells.take off).length = off := by simp; omega
  have l2 : (cs.take off).length = off := by simp; omega
  by_cases c1 : i < off
  · rw [List.append_assoc, List.getElem?_append_left (by omega), List.getElem?_take, if_pos c1] at hx hv
    exact h1 i x v hx hv
  · by_cases c2 : i < off + mid.length
    · rw [List.append_assoc, List.getElem?_append_right (by omega), List.getElem?_append_left (by omega)] at hx hv
      rw [l1] at hx; rw [l2] at hv
      exact h2 _ x v hx hv
    · rw [List.getElem?_append_right (by simp; omega)] at hx hv
      simp only [List.length_append, l1, l2, List.getElem?_drop] at hx hv
      refine h1 i x v ?_ ?_
      · rw [← hx]; congr 1; omega
      · rw [← hv]; congr 1; omega
theorem kw {O : Nat → Nat → Prop} (place : Nat → Option (Nat × Nat)) : ∀ (parts : List (Nat × Nat × V)) (vals : List (Nat × Value)) (cells : List V) (cs : Array Value) (out : List V), parts.length = vals.length →
    (∀ (i : Nat) p q, parts[i]? = some p → vals[i]? = some q → place q.1 = some (p.1, p.2.1) ∧ aw μ O w p.2.2 q.2) →
    cells.length = cs.size → (∀ (i : Nat) x v, cells[i]? = some x → cs[i]? = some v → aw μ O w x v) → eZ cells parts = some out →
    ∃ r, Instr.fill place cs vals = some r ∧ out.length = r.size ∧ ∀ (i : Nat) x v, out[i]? = some x → r[i]? = some v → aw μ O w x v
  | [], [], cells, cs, out, _, _, hl, hr, hf => by
    simp [eZ] at hf; subst hf
    exact ⟨cs, rfl, hl, hr⟩
  | (off, size, x) :: parts, (i, u) :: vals, cells, cs, out, hlen, hp, hl, hr, hf => by
    obtain ⟨hpl, hxu0⟩ := hp 0 _ _ rfl rfl
    have hxu : aw μ O w x u := hxu0
    simp only [eZ] at hf
    split at hf
    · rename_i hc
      obtain ⟨h1, h2, h3⟩ := hc
      obtain ⟨hsz, hcr⟩ := hxu.cells h1
      have hcs := kv u.cells.toList 0 off cs (by simp; omega)
      simp only [Nat.add_zero] at hcs
      obtain ⟨r, hr1, hr2⟩ := kw (O := O) place parts vals (cells.take off ++ x.cells ++ cells.drop (off + size)) ((u.cells.toList.zipIdx 0).foldl (fun cs (x : Value × Nat) => cs.setIfInBounds (off + x.2) x.1) cs) out (by simpa using hlen)
        (fun j p q hj hq => hp (j + 1) p q (by simpa using hj) (by simpa using hq))
        (by rw [← Array.length_toList, hcs]; simp; omega)
        (fun j y v hy hv => by
          rw [← Array.getElem?_toList, hcs] at hv
          subst h2
          exact pL (cells := cells) (mid := x.cells) (cs := cs.toList) (mids := u.cells.toList) (off := off) (by simpa using hl) (by simpa using hsz.symm) (fun i x v hx hv => hr i x v hx (by simpa using hv))
            (fun i x v hx hv => (hcr i x v hx (by simpa using hv)).1) (by omega) j y v hy hv) hf
      refine ⟨r, ?_, hr2⟩
      simp only [Instr.fill, hpl]
      rw [if_neg (by simp; omega)]
      rw [← hr1]
      congr 1
      rw [← Array.foldl_toList, Array.toList_zipIdx]
    · cases hf
  | [], _ :: _, _, _, _, h, _, _, _, _ => by simp at h
  | _ :: _, [], _, _, _, h, _, _, _, _ => by simp at h
end
end Go.AM
