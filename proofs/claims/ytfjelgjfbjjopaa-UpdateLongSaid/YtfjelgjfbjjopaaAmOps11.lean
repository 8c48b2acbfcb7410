import Derived.Test.YtfjelgjfbjjopaaAmOps10
set_option linter.unusedVariables false
set_option linter.unusedSectionVars false
set_option linter.unusedSimpArgs false
namespace Go.AM
open Go Go.RowKit
variable [Glob]
section
variable {P : Program} {A : Nat → Nat → Prop} {μ : Nat → Option aJ} {σ σ' : au} {w : World} {o : Oper} {a : Act} {v : V} {n n' : Nat} {e : AX → V}
theorem mN {t : TypeId} (h : gv P t = true) : P.underlying t = some (.int .u8) := by
  unfold gv at h; split at h <;> first | assumption | cases h
theorem pW (w : World) (c : Array Value) (ty : TypeId) : (w.alloc (.cells c ty)).freeze ⟨w.heap.size, c.size, none⟩ 1 = w.alloc (.cells c ty (c.size, c.size + 1)) := by
  cases w with
  | mk heap tape drawn os output =>
    simp only [World.alloc, World.freeze]
    rw [if_neg (by omega)]
    congr 1
    apply Array.ext (by simp)
    intro i hi hi'
    simp only [Array.getElem_modify, Array.getElem_push]
    by_cases h : i < heap.size
    · simp [h]
      intro hq
      omega
    · have : i = heap.size := by simp at hi; omega
      subst this
      simp
theorem pX {x : AX} {y : Operand} {s t el : TypeId} {b : ByteArray} {m : Bool} (ho : o.op = .convert s t y) (hsu : dD P s = true) (ht : P.underlying t = some (.slice el)) (hu8 : gv P el = true) (hk : bp P el = some none)
    (he : aw μ (ak A μ σ) w (e x) (a.eval y)) (hx : e x = .d (.str b)) (hlim : b.size ≤ dN) (hs : aB A μ σ w) (hn : μ n = none) :
    aZ P A μ σ w o a (.loc n 0 b.size) (aj σ n (some (.lst m none (dC b)))) n (n + 1) := by
  rw [hx] at he
  have hx' := fq he
  have hl : (dC b).length = b.size := by simp [dC]
  have hge := grownCap_ge w b.size 0 el
  have hcm := grownCap_le_maxLen w b.size 0 el (by simp only [maxLen]; simp [dN] at hlim; omega)
  generalize hcap : grownCap w b.size 0 el = cap at hge hcm
  have hcap' : (Question.appendCap b.size 0 el).cut (w.tape w.drawn (.appendCap b.size 0 el)) = cap := hcap
  have hsz : ((b.data.map fun (b : UInt8) => Value.int .u8 (b.toNat : Int)) ++ Array.replicate (cap - b.size) (Value.int .u8 0)).size = cap := by
    have : b.data.size = b.size := rfl
    simp [this]; omega
  have hrun : (execOp a.eval o).run P w = .ok (.value (.slice (some ⟨w.heap.size, 0, none⟩) b.size cap)) (w.drew.alloc (.cells ((b.data.map fun (b : UInt8) => Value.int .u8 (b.toNat : Int)) ++ Array.replicate (cap - b.size) (Value.int .u8 0)) el
      (cap, cap + 1))) := by
    have hfz := pW w.drew ((b.data.map fun (b : UInt8) => Value.int .u8 (b.toNat : Int)) ++ Array.replicate (cap - b.size) (Value.int .u8 0)) el
    rw [hsz] at hfz
    simp only [execOp, ho, hx', convert, Sem.run_bind, bf (gA hsu), bf ht, Result.andThen_ok, bf (mN hu8), Conv.stringToBytes, run_choose, Question.forced, Bool.false_eq_true, if_false, hcap', newRow, run_newObj, World.drew_eq, World.alloc_eq, Sem.run_pure]
    have hshape : (w.drew.alloc (.cells ((b.data.map fun (b : UInt8) => Value.int .u8 (b.toNat : Int)) ++ Array.replicate (cap - b.size) (Value.int .u8 0)) el)).shape? w.heap.size = some (el, cap) := by
      have := heap_alloc_new w.drew (.cells ((b.data.map fun (b : UInt8) => Value.int .u8 (b.toNat : Int)) ++ Array.replicate (cap - b.size) (Value.int .u8 0)) el)
      simp only [World.size_drew] at this
      simp only [World.shape?, this, hsz]
    simp only [World.size_drew] at hfz ⊢
    simp [markStringish, hshape, hfz]
  have := jt (P := P) (A := A) (μ := μ) (σ := σ) (w := w) (o := o) (a := a) (n := n) (d := w.drawn + 1) (k := none) (els := dC b) (ty := el) (cap := cap) hs hn m (by simp) (cap, cap + 1) (.inr (by rw [hsz]; exact Nat.le_refl _))
    (by rw [hl]; exact hrun) (by omega) hcm (by rw [hsz]; simp) (by
      intro i d hd
      obtain ⟨r1, r2, r3⟩ := mI (w := w) (O := ak A μ σ) b
      obtain ⟨s1, s2⟩ := r3 i d hd
      refine ⟨s1, fun j x hx => ?_⟩
      obtain ⟨v, hv, h1, h2⟩ := s2 j x hx
      refine ⟨v, ?_, h1, h2⟩
      have hlt := (List.getElem?_eq_some_iff.1 hv).1
      rw [Array.getElem?_append_left (by simpa using hlt)]
      simpa using hv)
  rw [hl] at this
  exact this
theorem mO : ∀ {l : List D} {bs : List UInt8}, bu (l.map gr) = some bs → ∃ ns : List Int, l = ns.map (D.int .u8) ∧ bs = ns.map fun n => UInt8.ofNat n.toNat
  | [], bs, h => by simp at h; subst h; exact ⟨[], rfl, rfl⟩
  | d :: l, bs, h => by
    simp only [List.map_cons] at h
    cases hd : gr d with
    | none => rw [hd] at h; simp at h
    | some q =>
      rw [hd] at h
      simp only [ie] at h
      cases hr : bu (l.map gr) with
      | none => rw [hr] at h; simp at h
      | some r =>
        rw [hr] at h
        simp at h
        subst h
        obtain ⟨ns, rfl, rfl⟩ := mO hr
        unfold gr at hd
        split at hd
        · rename_i n; cases hd; exact ⟨n :: ns, rfl, rfl⟩
        · cases hd
theorem pY {O : Nat → Nat → Prop} {x : V} {u : Value} {l : List D} (h : aw μ O w x u) (hl : cW σ x = some l) : l.length ≤ maxLen := by
  unfold cW at hl
  split at hl
  · cases hl; exact Nat.zero_le _
  · cases hl
    cases h with | d _ _ hd => cases hd with
      | vecn => exact Nat.zero_le _
      | vec _ _ _ _ _ _ hc => exact Nat.le_trans hc.1 hc.2
  · split at hl
    · split at hl
      · cases hl
        refine Nat.le_trans (List.length_take_le _ _) ?_
        cases h with
        | loc0 => exact Nat.zero_le _
        | loc _ _ _ _ _ _ _ h1 h2 => exact Nat.le_trans h1 h2
      · cases hl
    · cases hl
  · cases hl
theorem pZ {x : AX} {y : Operand} {s t el : TypeId} {l : List D} {b : ByteArray} (ho : o.op = .convert s t y) (htu : dD P t = true) (hs' : P.underlying s = some (.slice el)) (hu8 : gv P el = true)
    (he : aw μ (ak A μ σ) w (e x) (a.eval y)) (hx : (e x = .d .nils ∧ l = []) ∨ (bX σ (e x) = some none ∧ cW σ (e x) = some l)) (hb : ka l = some b) (hs : aB A μ σ w) :
    aZ P A μ σ w o a (.d (.str b)) σ n n := by
  obtain ⟨p, c, news, hu, hrow, hread⟩ := mH (P := P) (k := none) (by simp) hs he hx
  unfold ka at hb
  cases hbs : bu (l.map gr) with
  | none => rw [hbs] at hb; simp at hb
  | some bs =>
    rw [hbs] at hb
    simp at hb
    subst hb
    obtain ⟨ns, rfl, rfl⟩ := mO hbs
    have hnews : news = ns.map (Value.int .u8) := by
      apply List.ext_getElem?
      intro i
      cases hi : ns[i]? with
      | none =>
        have h1 : ns.length ≤ i := List.getElem?_eq_none_iff.1 hi
        rw [List.getElem?_eq_none (by rw [hrow.1]; simpa using h1), List.getElem?_eq_none (by simpa using h1)]
      | some q =>
        obtain ⟨_, h2⟩ := hrow.2.2 i (.int .u8 q) (by simp [hi])
        obtain ⟨v, hv, _, hr⟩ := h2 0 (.int .u8 q) (by simp [D.cells])
        cases hr
        simp at hv
        simp [hv, hi]
    have hlen : ns.length ≤ maxLen := by
      rcases hx with ⟨_, h0⟩ | ⟨_, h0⟩
      · simp at h0; subst h0; exact Nat.zero_le _
      · simpa using pY he h0
    refine .val hs (cv := .string ⟨(ns.map fun n => UInt8.ofNat n.toNat).toArray⟩) ?_ (.d _ _ (.str _ (by simpa [ByteArray.size] using hlen)))
    have hrd := hread w.drawn
    have hrd' : (Builtin.firstCells (ah none) (ns.map (D.int .u8)).length (a.eval y)).run P w = .ok news.toArray w := hrd
    rw [hu] at hrd'
    have hloop : ∀ (g : Value → ByteArray → Sem (ForInStep ByteArray)), (∀ q acc, (g (.int .u8 q) acc).run P w = .ok (.yield (acc.push (UInt8.ofNat q.toNat))) w) → ∀ (ns : List Int) (acc : ByteArray),
        ((forIn (ns.map (Value.int .u8)) acc g) : Sem ByteArray).run P w = .ok ⟨acc.data ++ (ns.map fun n => UInt8.ofNat n.toNat).toArray⟩ w := by
      intro g hg ns
      induction ns with
      | nil => intro acc; simp
      | cons q ns ih =>
        intro acc
        simp only [List.map_cons, List.forIn_cons, Sem.run_bind, hg, Result.andThen_ok, ih]
        congr 2
        apply Array.ext'
        simp
    simp only [execOp, ho, convert, Sem.run_bind, bf hs', bf (gA htu), Result.andThen_ok, hu, bf (mN hu8)]
    cases p with
    | none =>
      simp [Builtin.firstCells] at hrd'
      have : ns = [] := by
        rw [hnews] at hrd'
        simpa using hrd'
      subst this
      simp [Conv.bytesToString]
      rfl
    | some ad =>
      simp only [Builtin.firstCells, lU, Nat.mul_one] at hrd'
      simp only [Conv.bytesToString, Sem.run_bind, hrd', Result.andThen_ok]
      rw [hnews, List.forIn_toArray, hloop _ (fun q acc => by simp) ns ByteArray.empty]
      simp
theorem p4 (zc : Array Value) (m k : Nat) (hk : zc.size = k) (hpos : 0 < k) (h1 : ∀ v ∈ zc, v.oneCell' = true) : (Builtin.zeroCells zc m).toList.length = m * k ∧ ∀ v ∈ (Builtin.zeroCells zc m).toList, v.oneCell' = true := by
  refine ⟨by simp [Builtin.zeroCells, hk], fun v hv => ?_⟩
  simp only [Builtin.zeroCells, Array.toList_map, List.mem_map] at hv
  obtain ⟨i, _, rfl⟩ := hv
  have hlt : i % zc.size < zc.size := Nat.mod_lt _ (by omega)
  rw [getElem!_pos zc _ hlt]
  exact h1 _ (Array.getElem_mem hlt)
theorem p5 {k : Option Nat} {zero : List D} {x : AX} {c : Call} {el : TypeId} (ho : o.op = .call c) (hb : c.callee = .builtin .clear) (hsz2 : c.argTypes.size = 1) (hc : bM [x] c.args.toList = true)
    (hu : (c.argTypes[0]?).bind P.underlying = some (.slice el)) (hk : bp P el = some k) (hz : dh P el zero = true) (hz1 : zero.all D.one = true) (hzl : zero.length = ah k)
    (he : cx μ (ak A μ σ) w e a) (hs : aB A μ σ w) {id off len : Nat} {els : List D} (hx : e x = .loc id off len) (hid : σ id = some (.lst true k els)) (hle : off + len = els.length) :
    aZ P A μ σ w o a (.d (.tup [])) (aj σ id (some (.lst true k (els.take off)))) n n := by
  obtain ⟨y, hy, hxy⟩ := jo hc
  obtain ⟨t, ht⟩ := ip hsz2
  have hu' : P.underlying t = some (.slice el) := by rw [ht] at hu; simpa using hu
  have hv := he x y hxy
  rw [hx] at hv
  generalize hay : a.eval y = u at hv
  obtain ⟨_, _, _, _, hpos⟩ := cH (w := w) hk
  have triv : len = 0 → ∀ (ad : Option Addr) (cp : Nat), u = .slice ad 0 cp → aZ P A μ σ w o a (.d (.tup [])) (aj σ id (some (.lst true k (els.take off)))) n n := by
    rintro h0 ad cp rfl
    have e1 : els.take off = els := List.take_of_length_le (by omega)
    rw [e1, show aj σ id (some (.lst true k els)) = σ by funext j; by_cases h : j = id <;> simp [aj, h, hid]]
    refine .val hs (cv := .tuple #[]) ?_ (.d _ _ (.tup [] #[] rfl fun i d v h _ => by simp at h))
    cases ad <;> simp [execOp, ho, resolve, hb, hy, hay, ht, invoke, builtin, Builtin.clear_, bf hu']
  cases hv with
  | loc0 _ _ ad h1 => exact triv rfl ad 0 rfl
  | loc _ _ _ b k' cap h1 h2 h3 h4 =>
    by_cases hl0 : len = 0
    · subst hl0; exact triv rfl _ _ rfl
    rcases hs.blks id _ hid with ⟨g1, g2⟩ | ⟨b', c', ty, fr, g1, g2, g3, g4, g5⟩
    · rw [g2] at hle; simp at hle; omega
    · rw [h1] at g1; cases g1
      obtain ⟨i, z, hi, hzz, hzr⟩ := gz hz
      obtain ⟨hl, hr⟩ := fo (own := ak A μ σ) (w := w) hzr
      have hzs : z.cells.size = ah k := by simpa [hzl] using hl.symm
      have hzone : ∀ v ∈ z.cells, v.oneCell' = true := by
        intro v hv
        obtain ⟨j, hj, rfl⟩ := Array.getElem_of_mem hv
        have hjl : j < zero.length := by rw [hzl, ← hzs]; exact hj
        have hd := hr j zero[j] z.cells[j] (by simp [hjl]) (by simp [hj])
        exact hd.one (by simpa using (List.all_eq_true.1 hz1) zero[j] (List.getElem_mem hjl))
      obtain ⟨z1, z2⟩ := p4 z.cells len (ah k) hzs hpos hzone
      have hfit : off * ah k + len * ah k ≤ c'.size := by rw [← Nat.add_mul, hle]; exact g4
      have hrun := iv (P := P) b (off * ah k) ty fr (Builtin.zeroCells z.cells len).toList 0 c' w g2 g3 (by rw [z1]; simpa using hfit) z2
      rw [Nat.add_zero, z1] at hrun
      have hfull : (c'.toList.take (off * ah k) ++ (Builtin.zeroCells z.cells len).toList ++ c'.toList.drop (off * ah k + len * ah k)).toArray.size = c'.size := by simp [Builtin.zeroCells, hzs]; omega
      have g := aA.write (blk' := .lst true k (els.take off)) (c' := (c'.toList.take (off * ah k) ++ (Builtin.zeroCells z.cells len).toList ++ c'.toList.drop (off * ah k + len * ah k)).toArray) hs hid h1 g2 hfull
        (fun o' ho' => (ho' rfl).elim) (fun o' ho' => ho')
      have hst := hs.write hid h1 g2 g (.inr ⟨b, _, ty, fr, h1, dY g2, by show fr.1 = fr.2 ∨ _ ≤ fr.1; rw [hfull]; exact g3, ?_, fun i' d' hd' => ?_⟩)
      · refine ⟨_, .tuple #[], _, μ, ?_, .inl rfl, .d _ _ (.tup [] #[] rfl fun i d v h _ => by simp at h), hst, g, fun id h => .inl h⟩
        obtain ⟨l0, hl0'⟩ : ∃ l0, len = l0 + 1 := ⟨len - 1, by omega⟩
        subst hl0'
        simp [execOp, ho, resolve, hb, hy, hay, ht, invoke, builtin, Builtin.clear_, bf hu', ew hi hzz, hrun]
      · rw [hfull]
        exact Nat.le_trans (Nat.mul_le_mul_right _ (by simp; omega)) g4
      · have hi'o : i' < off := by have := (List.getElem?_eq_some_iff.1 hd').1; simp at this; omega
        rw [List.getElem?_take, if_pos hi'o] at hd'
        obtain ⟨hsh, hcs⟩ := g5 i' d' hd'
        refine ⟨hsh, fun j x0 hx0 => ?_⟩
        obtain ⟨v, hv, ho', hr'⟩ := hcs j x0 hx0
        have hj : j < ah k := by have := (List.getElem?_eq_some_iff.1 hx0).1; rw [ck hsh] at this; exact this
        have hlt : i' * ah k + j < off * ah k := by
          have : (i' + 1) * ah k ≤ off * ah k := Nat.mul_le_mul_right _ hi'o
          rw [Nat.add_mul] at this; omega
        refine ⟨v, ?_, ho', g.keepD hs.alt hr'⟩
        rw [List.getElem?_toArray, ← z1, gE (by rw [z1]; simp; omega), if_pos hlt, Array.getElem?_toList]
        exact hv
theorem gG {α β : Type} {f : α → Option β} : ∀ {l : List α} {r : List β}, bu (l.map f) = some r → l.length = r.length ∧ ∀ (i : Nat) a b, l[i]? = some a → r[i]? = some b → f a = some b
  | [], r, h => by simp at h; subst h; exact ⟨rfl, fun i a b h => by simp at h⟩
  | a :: l, r, h => by
    simp only [List.map_cons] at h
    cases hf : f a with
    | none => rw [hf] at h; simp at h
    | some b =>
      rw [hf] at h
      simp only [ie] at h
      cases hr : bu (l.map f) with
      | none => rw [hr] at h; simp at h
      | some r' =>
        rw [hr] at h
        simp at h
        subst h
        obtain ⟨h1, h2⟩ := gG hr
        refine ⟨by simp [h1], fun i x y hx hy => ?_⟩
        cases i with
        | zero => simp at hx hy; subst hx; subst hy; exact hf
        | succ i => exact h2 i x y (by simpa using hx) (by simpa using hy)
theorem fS (hs : aB A μ σ w) {v : V} {d : D} {u : Value} (h : cJ σ v = some d) (hv : aw μ (ak A μ σ) w v u) : DRel (ak A μ σ) w d u := by
  unfold cJ at h
  split at h
  · cases h
    cases hv with | d _ _ h => exact h
  · rename_i id off len
    split at h
    · rename_i k els hid
      split at h
      · rename_i hle
        cases h
        have hlen : ((els.drop off).take len).length = len := by simp; omega
        have hget : ∀ (i : Nat) d, ((els.drop off).take len)[i]? = some d → i < len ∧ els[off + i]? = some d := by
          intro i d hd
          rw [List.getElem?_take] at hd
          split at hd
          · rename_i hi; rw [List.getElem?_drop] at hd; exact ⟨hi, hd⟩
          · cases hd
        cases hv with
        | loc0 _ _ ad hm =>
          have : (els.drop off).take 0 = [] := by simp
          rw [this]
          exact .vecn k ad
        | loc _ _ _ b k' cap h1 h2 h3 h4 =>
          rcases hs.blks id _ hid with ⟨g1, _⟩ | ⟨b', c, ty, fr, g1, g2, g3, g4, g5⟩
          · rw [g1] at h1; cases h1
          · rw [g1] at h1; cases h1
            have hcell : ∀ (i : Nat) d (j : Nat) x, ((els.drop off).take len)[i]? = some d → d.cells[j]? = some x → ∃ v, c[(off + i) * ah k + j]? = some v ∧ v.oneCell' = true ∧ DRel (ak A μ σ) w x v :=
              fun i d j x hd hx => (g5 _ d (hget i d hd).2).2 j x hx
            have := DRel.vec (own := ak A μ σ) (w := w) k ((els.drop off).take len) b (off * ah k) cap (fun i j => c.getD ((off + i) * ah k + j) Go.undef) ⟨by rw [hlen]; exact h2, h3⟩
              (fun i d hd => (g5 _ d (hget i d hd).2).1)
              (fun i d j x hd hx => by
                obtain ⟨v, hv, _⟩ := hcell i d j x hd hx
                rw [cD g2, show off * ah k + i * ah k + j = (off + i) * ah k + j by rw [Nat.add_mul], hv]; simp [hv])
              (fun i d j x hd hx => by
                rintro (⟨id', blk', q1, q2⟩ | hA)
                · have hpl : ∃ kk, μ id' = some (.at b kk) := by
                    cases hm' : μ id' with
                    | none => rw [hm'] at q2; cases blk' with
                      | lst m _ _ => cases m <;> exact q2.elim
                      | var _ => exact q2.elim
                      | mp _ => exact q2.elim
                    | some pl => cases pl with
                      | nil => rw [hm'] at q2; cases blk' with
                        | lst m _ _ => cases m <;> exact q2.elim
                        | var _ => exact q2.elim
                        | mp _ => exact q2.elim
                      | «at» b0 k0 =>
                        rw [hm'] at q2
                        cases blk' with
                        | lst m _ _ => cases m with
                          | true => have : b = b0 := q2; subst this; exact ⟨k0, rfl⟩
                          | false => obtain ⟨h, _⟩ := q2; subst h; exact ⟨k0, rfl⟩
                        | var _ => have : b = b0 := q2; subst this; exact ⟨k0, rfl⟩
                        | mp _ => have : b = b0 := q2; subst this; exact ⟨k0, rfl⟩
                  obtain ⟨kk, hkk⟩ := hpl
                  have := hs.inj id' id blk' _ b kk k q1 hid hkk g1
                  subst this
                  rw [hid] at q1; cases q1
                  rw [g1] at q2
                  obtain ⟨_, q2⟩ := q2
                  have hj : j < ah k := by have := (List.getElem?_eq_some_iff.1 hx).1; rw [ck (g5 _ d (hget i d hd).2).1] at this; exact this
                  have hi := (List.getElem?_eq_some_iff.1 (hget i d hd).2).1
                  have : (off + i + 1) * ah k ≤ els.length * ah k := Nat.mul_le_mul_right _ hi
                  rw [Nat.add_mul, Nat.add_mul] at this
                  omega
                · exact hs.amb id _ b k hid g1 _ hA)
              (fun i d j x hd hx => by obtain ⟨v, hv, _, hr⟩ := hcell i d j x hd hx; simpa [hv] using hr)
              (fun i d j x hd hx => by obtain ⟨v, hv, ho, _⟩ := hcell i d j x hd hx; simpa [hv] using ho)
            rw [hlen] at this
            exact this
      · cases h
    · cases h
  · cases h
theorem kD (hs : aB A μ σ w) {v : V} {d : D} {u : Value} (h : cO σ v = some d) (hv : aw μ (ak A μ σ) w v u) : DRel (ak A μ σ) w d u := by
  unfold cO at h
  split at h
  · rename_i vs
    cases hr : bu (vs.map (cJ σ)) with
    | none => rw [hr] at h; simp at h
    | some r =>
      rw [hr] at h
      simp at h
      subst h
      obtain ⟨h1, h2⟩ := gG hr
      cases hv with
      | agg _ cs hl hc =>
        refine .agg r cs (by omega) fun i d v hd hv => ?_
        have hi : i < vs.length := by have := (List.getElem?_eq_some_iff.1 hd).1; omega
        exact fS hs (h2 i vs[i] d (by simp [hi]) hd) (hc i vs[i] v (by simp [hi]) hv)
  · exact fS hs h hv
end
end Go.AM
