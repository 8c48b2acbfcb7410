import Derived.Test.YtnnkfanmokeiaaaPmS
import Derived.Test.YtnnkfanmokeiaaaAmN4
import Derived.Test.YtnnkfanmokeiaaaWtT
import Derived.Test.YtnnkfanmokeiaaaAmPan
import Derived.Recover
import Derived.WalkKit
import Derived.Sort.WalkB12
import Derived.Test.YtnnkfanmokeiaaaAmN6
/-  Several texts in one. -/
section
set_option linter.unusedVariables false
set_option linter.unusedSectionVars false
set_option linter.unusedSimpArgs false
namespace Go.AM
open Go Go.RowKit Go.Proofs Go.Sort
variable [Glob]
theorem w6 (w : World) (n B : Nat) : RowKit.Below B w (Sort.ahead w n) := ⟨rfl, rfl, rfl, Nat.le_refl _, fun _ _ => rfl⟩
theorem w7 (w : World) (os : Array Obj) (B : Nat) (h : B ≤ w.heap.size) : RowKit.Below B w (grow w os) :=
  ⟨rfl, rfl, rfl, by simp [grow], fun k hk => by simp only [grow]; rw [Array.getElem?_append_left (by omega)]⟩
theorem w8 {A : Nat → Nat → Prop} {w : World} {x : A8 Int} {i : Nat} {d : D} (hd : (eA8 (D.int .u16) x).cells[i]? = some d) : i < 8 ∧ d = .int .u16 (x.l.getD i 0) := by
  rw [su, List.getElem?_map] at hd
  cases hg : x.l[i]? with
  | none => rw [hg] at hd; cases hd
  | some n =>
    rw [hg] at hd
    have hi := (List.getElem?_eq_some_iff.1 hg).1
    rw [kf] at hi
    refine ⟨hi, ?_⟩
    rw [List.getD_eq_getElem?_getD, hg]
    cases hd; rfl
theorem w9 {l : List (A8 Int)} (hlen : l.length < 4611686018427387904) :
    bY Try.prog 111 [.loc 0 0 l.length, .d (.func 112 [])] (ac [(0, .lst true (some 8) (l.map (eA8 (D.int .u16))))]) 1 (.d (.tup [])) (ac [(0, .lst true (some 8) ((du l).map (eA8 (D.int .u16))))]) 1 := by
  refine ⟨by kernel_rfl, fun A μ w vs hs hfr hlen2 hrel => ?_⟩
  have h2 : vs.size = 2 := by simpa using hlen2.symm
  have r0 := hrel 0 _ vs[0] rfl (by simp [h2])
  have r1 := hrel 1 _ vs[1] rfl (by simp [h2])
  have e1 : vs[1] = .func (.func 112) #[] #[] := by
    generalize vs[1] = u at r1
    cases r1 with | d _ _ h => cases h with
      | func _ _ c q1 q2 =>
        have : c = #[] := Array.eq_empty_of_size_eq_zero (by simpa using q1.symm)
        rw [this]
  have evs : vs = #[vs[0], .func (.func 112) #[] #[]] := by
    apply Array.ext (by simp [h2])
    intro q h1 _
    have : q = 0 ∨ q = 1 := by omega
    rcases this with rfl | rfl
    · rfl
    · exact e1
  generalize hu : vs[0] = u at r0 evs
  have upd0 : ∀ x y : aX, ac [(0, y)] = al (ac [(0, x)]) 0 (some y) := by
    intro x y
    funext q
    by_cases h : q = 0
    · subst h; simp [ac, al]
    · simp [ac, al, h]
  have hid : ac [(0, aX.lst true (some 8) (l.map (eA8 (D.int .u16))))] 0 = some (.lst true (some 8) (l.map (eA8 (D.int .u16)))) := rfl
  have htup : ∀ O w', aE μ O w' (.d (.tup [])) (.tuple #[]) := fun O w' => .d _ _ (.tup [] #[] rfl (fun i d v h => by simp at h))
  have none : l.length = 0 → ∀ (a : Option Addr) (cap : Nat), u = .slice a 0 cap → Calls Try.prog 111 vs w fun e w' => ∃ cv μ', e = .returned cv ∧ aE μ' (aw A μ' (ac [(0, .lst true (some 8) ((du l).map (eA8 (D.int .u16))))])) w' (.d (.tup [])) cv ∧ aJ A μ' (ac [(0, .lst true (some 8) ((du l).map (eA8 (D.int .u16))))]) w' ∧ aM μ (ac [(0, .lst true (some 8) (l.map (eA8 (D.int .u16))))]) w μ' (ac [(0, .lst true (some 8) ((du l).map (eA8 (D.int .u16))))]) w' ∧ ∀ id, μ' id ≠ none → μ id ≠ none ∨ (1 ≤ id ∧ id < 1) := by
    rintro hz a cap rfl
    obtain rfl : l = [] := List.eq_nil_of_length_eq_zero hz
    rw [evs]
    refine (wV a cap _ w w4).mono ?_
    rintro e w' ⟨rfl, rfl⟩
    exact ⟨_, μ, rfl, htup _ _, hs, aM.refl _ _ _, fun id h => .inl h⟩
  rcases r0.loc_inv with ⟨hz, a, ha, hm⟩ | ⟨b, k', cap, ha, m1, m2, m3, m4⟩
  · exact none hz a 0 ha
  · by_cases hz : l.length = 0
    · exact none hz _ cap (by rw [ha, hz])
    · rcases hs.blks 0 _ hid with ⟨_, hnil⟩ | ⟨b', c, ty, fr, g1, g2, g4, g5, g6⟩
      · exact absurd (by simpa using hnil) hz
      · rw [g1] at m1
        cases m1
        rw [List.length_map] at g5
        have g5 : l.length * 8 ≤ c.size := g5
        have cell : ∀ (q : Nat) (x : A8 Int) (i : Nat), l[q]? = some x → i < 8 → c[q * 8 + i]? = some (.int .u16 (x.l.getD i 0)) ∧ IntKind.u16.wrap (x.l.getD i 0) = x.l.getD i 0 := by
          intro q x i hq hi
          obtain ⟨_, s2⟩ := g6 q (eA8 (D.int .u16) x) (by simp [hq])
          have hc : (eA8 (D.int .u16) x).cells[i]? = some (.int .u16 (x.l.getD i 0)) := by
            rw [su, List.getElem?_map, bV (by rw [kf]; exact hi), List.getD_eq_getElem?_getD, bV (by rw [kf]; exact hi)]; rfl
          obtain ⟨v, hv, _, hr⟩ := s2 i _ hc
          cases hr with
          | int _ _ hw => exact ⟨hv, hw⟩
        have cellw : ∀ q, w.cell? ⟨b, q, .none⟩ = c[q]? := fun q => by rw [dY g2]
        have hH : HoldsK fR 8 w b 0 l.toArray := by
          intro j hj
          rw [size_flatK] at hj
          have hj' : j < l.length * 8 := by simpa using hj
          have hq : j / 8 < l.length := by omega
          have hr : j % 8 < 8 := Nat.mod_lt _ (by decide)
          obtain ⟨k1, _⟩ := cell (j / 8) l[j / 8] (j % 8) (by simp [hq]) hr
          have hjj : j / 8 * 8 + j % 8 = j := by omega
          rw [hjj] at k1
          refine ⟨?_, kE g2 g4 (by omega)⟩
          rw [cellw, Nat.zero_add, k1, get_flatK _ _ _ _ (by simpa using hj'), getElem!_pos l.toArray _ (by simpa using hq)]
          simp only [List.getElem_toArray, id]
          rw [sv _ _ hr]
        have hblt : b < w.heap.size := cU g2
        rw [evs, ha]
        have hz0 : (0 : Nat) * ap (some 8) = 0 := rfl
        rw [hz0]
        refine (w5 b cap l w hH hblt hlen).mono ?_
        rintro e w' ⟨rfl, n, os, rfl⟩
        unfold sortWorldK putRowK putRow
        have b1 : RowKit.Below w.heap.size w (Sort.ahead w n) := w6 _ _ _
        have hs1 := hs.ofBelow b1
        have gd1 := aM.ofBelow hs b1
        have g2' : (Sort.ahead w n).heap[b]? = some (.cells c ty fr) := g2
        rw [wW _ g2']
        generalize hc2 : putCells id 0 (flatK fR 8 (du l).toArray) c = c2
        have hlen' : (du l).length = l.length := (iv l).length_eq
        have hsz2 : c2.size = c.size := by rw [← hc2]; simp [putCells]
        have get2 : ∀ (q : Nat) (x : A8 Int) (i : Nat), (du l)[q]? = some x → i < 8 → c2[q * 8 + i]? = some (.int .u16 (x.l.getD i 0)) := by
          intro q x i hq hi
          obtain ⟨hql, hqx⟩ := List.getElem?_eq_some_iff.1 hq
          have hj : q * 8 + i < c.size := by omega
          rw [← hc2]
          simp only [putCells, Array.getElem?_mapIdx, Array.getElem?_eq_getElem hj, Option.map_some, size_flatK, Nat.zero_le, true_and, Nat.zero_add, Nat.sub_zero, List.size_toArray]
          rw [if_pos (by omega), get_flatK _ _ _ _ (by simp; omega)]
          have d1 : (q * 8 + i) / 8 = q := by omega
          have d2 : (q * 8 + i) % 8 = i := by omega
          rw [d1, d2, getElem!_pos (du l).toArray q (by simpa using hql)]
          simp only [List.getElem_toArray, hqx, id]
          rw [sv _ _ hi]
        have g := aM.write (blk' := .lst true (some 8) ((du l).map (eA8 (D.int .u16)))) (c' := c2) hs1 hid g1 g2' hsz2 (fun o' ho' => (ho' rfl).elim) (fun o' ho' => ho')
        have hsw := hs1.write hid g1 g2' g (.inr ⟨b, _, ty, fr, g1, gO g2', by show fr.1 = fr.2 ∨ _ ≤ fr.1; rw [hsz2]; exact g4, by rw [List.length_map, hlen', hsz2]; exact g5, fun q d hq => by
          rw [List.getElem?_map] at hq
          cases hx : (du l)[q]? with
          | none => rw [hx] at hq; cases hq
          | some x =>
            rw [hx] at hq
            cases hq
            refine ⟨rfl, fun y d hd => ?_⟩
            obtain ⟨hy, rfl⟩ := w8 (A := A) (w := w) hd
            have hxm : x ∈ l := (iv l).mem_iff.1 (dx hx)
            obtain ⟨q0, hq0⟩ := List.getElem?_of_mem hxm
            exact ⟨_, get2 q x y hx hy, rfl, .int _ _ (cell q0 x y hq0 hy).2⟩⟩)
        rw [← upd0] at g hsw
        have b2 : RowKit.Below (cC (Sort.ahead w n) b c2).heap.size (cC (Sort.ahead w n) b c2) (grow (cC (Sort.ahead w n) b c2) os) := w7 _ _ _ (Nat.le_refl _)
        exact ⟨_, μ, rfl, htup _ _, hsw.ofBelow b2, (gd1.trans g).trans (aM.ofBelow hsw b2), fun id h => .inl h⟩
end Go.AM
end
section
set_option linter.unusedVariables false
set_option linter.unusedSectionVars false
set_option linter.unusedSimpArgs false
namespace Go.AM
open Go Go.RowKit
variable [Glob]
section
variable {P : Program} {N na : Nat}
theorem bM.dfr {Q : Exit → S → Prop} {s : S} {t G : Nat} (h : Q .normal ⟨al s.T t V.undef, s.σ, s.n⟩) : bM P N (.dfr t G) Q s := by
  intro code hc A μ a w ⟨hs, hfr⟩
  cases code <;> simp only [cP, Bool.false_eq_true] at hc
  rename_i id ops draw
  simp only [Bool.and_eq_true, Bool.not_eq_true'] at hc
  obtain ⟨hd, hc⟩ := hc
  subst hd
  unfold oQ at hc
  split at hc
  · rename_i o1 o2 hops
    simp only [Bool.and_eq_true, beq_iff_eq, decide_eq_true_eq, Option.isNone_iff_eq_none, List.contains_iff_mem] at hc
    obtain ⟨⟨⟨⟨⟨⟨⟨g1, g2⟩, d1⟩, htN⟩, d2⟩, hG⟩, m1⟩, m2⟩ := hc
    have e : ops = #[o1, o2] := Array.toList_inj.1 (by simpa using hops)
    subst e
    refine wp_region ?_
    have hr : List.range (#[o1, o2] : Array Oper).size = [0, 1] := rfl
    rw [hr]
    split at m1
    · rename_i gg first caps ho1
      simp only [Bool.and_eq_true, beq_iff_eq] at m1
      obtain ⟨rfl, hf⟩ := m1
      have e0 : first = #[] := Array.eq_empty_of_size_eq_zero hf
      subst e0
      split at m2
      · rename_i c ho2
        simp only [Bool.and_eq_true, beq_iff_eq] at m2
        obtain ⟨m2, m3⟩ := m2
        split at m2
        · rename_i q hq
          have m2 := beq_iff_eq.1 m2
          subst m2
          have ha : c.args = #[] := Array.eq_empty_of_size_eq_zero m3
          obtain ⟨callee, args, argTypes⟩ := c
          simp only at hq ha
          subst hq; subst ha
          simp only [wpOps]
          have w1 : Region.wanted o1 (yielded #[o1, o2] a.tmps) = true := by simp [Region.wanted, g1]
          have gg0 : (#[o1, o2] : Array Oper)[0]? = some o1 := rfl
          have gg1 : (#[o1, o2] : Array Oper)[1]? = some o2 := rfl
          simp only [gg0, gg1, w1, if_true]
          left
          have r1 : (execOp a.eval o1).run P w = .ok (.value (.func (.func gg) #[] (caps.map a.eval))) w := by simp [execOp, ho1, Instr.makeFunc]
          unfold Oper.wp
          rw [r1, Oper.upon_value, d1]
          have w2 : Region.wanted o2 (yielded #[o1, o2] (a.put (some q) (.func (.func gg) #[] (caps.map a.eval))).tmps) = true := by simp [Region.wanted, g2]
          simp only [w2, if_true]
          left
          have hqs : q < a.tmps.size := by rw [hs.size]; exact htN
          have r2 : (execOp (a.put (some q) (.func (.func gg) #[] (caps.map a.eval))).eval o2).run P w = .ok (.defer { target := .fn (.func gg) (caps.map a.eval), args := #[] }) w := by
            simp [execOp, ho2, resolve, go_sem, hqs]
          rw [r2, Oper.upon_defer, d2]
          refine ⟨trivial, ⟨al s.T q V.undef, s.σ, s.n⟩, μ, h, ⟨⟨?_, ?_, fun i => ?_, hs.store⟩, hfr⟩, aM.refl _ _ _, fI.refl _ _⟩
          · simp [Act.put, hs.size]
          · intro d hd
            simp only [Act.put, List.mem_cons] at hd
            rcases hd with rfl | hd
            · exact ⟨rfl, gg, _, hG, rfl⟩
            · exact hs.defers d hd
          · show aE μ (aw A μ s.σ) w (al s.T q V.undef i) _
            by_cases e : i = q
            · subst e; rw [bm]; exact .d _ _ (.undef _)
            · rw [aR _ _ e]
              have := hs.tmps i
              simp only [Act.put]
              rw [Array.getD_eq_getD_getElem?, Array.getElem?_setIfInBounds_ne (fun h => e h.symm), ← Array.getD_eq_getD_getElem?]
              exact this
        · cases m2
      · cases m2
    · cases m1
  · cases hc
theorem aI.dfr {Q : Exit → S → Prop} {s : S} {t G : Nat} (h : Q .normal ⟨al s.T t V.undef, s.σ, s.n⟩) : aI P N na (.dfr t G) Q s := (bM.dfr h).nwp
theorem xa {Q : Exit → S → Prop} {s : S} {t G : Nat} {y : bA} (h : aI P N na y Q ⟨al s.T t V.undef, s.σ, s.n⟩) : aI P N na (.seq (.dfr t G) y) Q s := aG (aI.dfr h)
end
end Go.AM
end
section
namespace Go.AM
open Go Go.RowKit
theorem xb {a0 r : List (A8 Int)} {a1 : A8 Int → A8 Int → Option Int} (h : iy a0 a1 = some r) : r.length = a0.length := by
  unfold iy at h
  split at h
  · cases h; exact (iv a0).length_eq
  · cases h
def fS : List PanicEntry := [{ v := .iface 104 (.agg #[]), recovered := false }]
theorem xc {A : Nat → Nat → Prop} {w : World} {k : Option Nat} {els : List D} {v : Value} (h : DRel A w (.vec k els) v) : ∃ p cap, v = .slice p els.length cap := by
  cases h with
  | vecn _ a => exact ⟨a, 0, rfl⟩
  | vec _ _ b off cap => exact ⟨_, _, rfl⟩
instance noDfr0 : @NoDfr noGlob := @NoDfr.mk noGlob rfl
end Go.AM
end
section
set_option linter.unusedVariables false
set_option linter.unusedSectionVars false
namespace Go.AM
open Go Go.RowKit
variable [Glob]
@[reducible] def vi (x : Int) : V := .d (.int .i64 x)
@[reducible] def vh (x : Int) : V := .d (.int .u16 x)
@[reducible] def v8 (x : Int) : V := .d (.int .u8 x)
@[reducible] def oo (n : Nat) (op : be) : bt := ⟨some n, op, none⟩
@[reducible] def ci (n : Int) : AX := .c (.int .i64 n)
@[reducible] def vb (x : Bool) : V := .d (.bool x)
@[reducible] def mv (a b : Nat) : bt := ⟨some a, .mov (.t b), none⟩
@[reducible] def ld (a b : Nat) : bt := ⟨some a, .load none (.t b), none⟩
@[reducible] def li (a b : Nat) : bt := ⟨some a, .ldI none (.t b), none⟩
@[reducible] def ia (a b c : Nat) : bt := ⟨some a, .iaddr none (.t b) (.t c), none⟩
@[reducible] def ln (a b : Nat) : bt := ⟨some a, .len (.t b), none⟩
@[reducible] def fa (a k b : Nat) : bt := ⟨some a, .faddr k (.t b), none⟩
@[reducible] def bi (a : Nat) (o : BinOp) (b c : Nat) : bt := ⟨some a, .bin o (.t b) (.t c), none⟩
@[reducible] def bc (a : Nat) (o : BinOp) (b : Nat) (n : Int) : bt := ⟨some a, .bin o (.t b) (.c (.int .i64 n)), none⟩
@[reducible] def so (l : List bt) (y : bA) : bA := .seq (.ops false l) y
def V.flat (n0 : Nat) : V → Bool
  | .d _ => true
  | .loc id _ _ => decide (id < n0)
  | .ptr id _ _ => decide (id < n0)
  | .mref id => decide (id < n0)
  | _ => false
def V.rn0 (ρ : Nat → Nat) : V → V
  | .loc id o l => .loc (ρ id) o l
  | .ptr id i j => .ptr (ρ id) i j
  | .mref id => .mref (ρ id)
  | v => v
def V.simple (n0 : Nat) : V → Bool
  | .d _ => true
  | .loc id _ _ => decide (id < n0)
  | .ptr id _ _ => decide (id < n0)
  | .mref id => decide (id < n0)
  | .func _ cs => cs.all (V.flat n0)
  | _ => false
def V.rn1 (ρ : Nat → Nat) : V → V
  | .loc id o l => .loc (ρ id) o l
  | .ptr id i j => .ptr (ρ id) i j
  | .mref id => .mref (ρ id)
  | .func f cs => .func f (cs.map (V.rn0 ρ))
  | v => v
theorem xd {ρ : Nat → Nat} {n0 : Nat} {y : V} (hs : y.flat n0 = true) : VN ρ n0 (y.rn0 ρ) y := by
  cases y <;> simp [V.flat] at hs
  case d x => exact .d x
  case loc id o l => exact .loc id o l hs
  case ptr id i j => exact .ptr id i j hs
  case mref id => exact .mref id hs
theorem VN.rr {ρ : Nat → Nat} {n0 : Nat} {x y : V} (h : x = y.rn1 ρ) (hs : y.simple n0 = true) : VN ρ n0 x y := by
  subst h
  cases y <;> simp [V.simple] at hs
  case d x => exact .d x
  case loc id o l => exact .loc id o l hs
  case ptr id i j => exact .ptr id i j hs
  case mref id => exact .mref id hs
  case func f cs =>
    refine .func f _ _ (by simp) fun i a b ha hb => ?_
    rw [List.getElem?_map, hb] at ha
    cases aq ha
    exact xd (hs b (dx hb))
theorem TN.rr {ρ : Nat → Nat} {n0 : Nat} {T : Nat → V} : ∀ {l : List (Nat × V)}, l.map (fun p => T p.1) = l.map (fun p => p.2.rn1 ρ) → l.all (fun p => p.2.simple n0) = true → TN ρ n0 T l
  | [], _, _ => trivial
  | p :: l, h, hs => by
    simp only [List.map_cons, List.cons.injEq, List.all_cons, Bool.and_eq_true] at h hs
    exact ⟨.rr h.1 hs.1, TN.rr h.2 hs.2⟩
def aX.simple (n0 : Nat) : aX → Bool
  | .lst _ _ _ => true
  | .mp _ => true
  | .var cs => cs.all (V.simple n0)
def aX.rn1 (ρ : Nat → Nat) : aX → aX
  | .var cs => .var (cs.map (V.rn1 ρ))
  | b => b
theorem bo.rr {ρ : Nat → Nat} {n0 : Nat} : ∀ {l : List V}, l.all (V.simple n0) = true → bo ρ n0 (l.map (V.rn1 ρ)) l
  | [], _ => trivial
  | x :: l, h => by
    simp only [List.all_cons, Bool.and_eq_true] at h
    exact ⟨.rr rfl h.1, bo.rr h.2⟩
theorem SN.rr {ρ : Nat → Nat} {n0 : Nat} {σ : aB} : ∀ {l : List (Nat × aX)}, l.map (fun p => σ (ρ p.1)) = l.map (fun p => some (p.2.rn1 ρ)) → l.all (fun p => decide (p.1 < n0) && p.2.simple n0) = true → SN ρ n0 σ l
  | [], _, _ => trivial
  | p :: l, h, hs => by
    simp only [List.map_cons, List.cons.injEq, List.all_cons, Bool.and_eq_true, decide_eq_true_eq] at h hs
    refine ⟨⟨hs.1.1, _, h.1, ?_⟩, SN.rr h.2 hs.2⟩
    cases hp : p.2 with
    | lst m k els => exact .lst _ _ _
    | mp es => exact .mp _
    | var cs =>
      have := hs.1.2
      rw [hp] at this
      exact .vars (bo.rr this)
theorem nr {na : Nat} (rl : List Nat) {s : S} {l : List (Nat × V)} {bl : List (Nat × aX)} (h1 : rl.Nodup := by decide) (h2 : rl.take na = List.range na := by decide) (h3 : na ≤ rl.length := by decide)
    (hT : l.map (fun p => s.T p.1) = l.map (fun p => p.2.rn1 (rn rl)) := by exact rfl) (hs : l.all (fun p => p.2.simple rl.length) = true := by exact rfl)
    (hσ : bl.map (fun p => s.σ (rn rl p.1)) = bl.map (fun p => some (p.2.rn1 (rn rl))) := by exact rfl) (hb : bl.all (fun p => decide (p.1 < rl.length) && p.2.simple rl.length) = true := by exact rfl) : bO na s ⟨tab l, ac bl, rl.length⟩ :=
  bO.mk rl h1 h2 h3 (TN.rr hT hs) (SN.rr hσ hb)
theorem nR {P : Program} {na : Nat} (rl : List Nat) {s : S} {l : List (Nat × V)} {bl : List (Nat × aX)} (h1 : rl.Nodup := by decide) (h2 : rl.take na = List.range na := by decide) (h3 : na ≤ rl.length := by decide)
    (hT : l.map (fun p => s.T p.1) = l.map (fun p => p.2.rn1 (rn rl)) := by exact rfl) (hs : l.all (fun p => p.2.simple rl.length) = true := by exact rfl)
    (hσ : bl.map (fun p => s.σ (rn rl p.1)) = bl.map (fun p => some (p.2.rn1 (rn rl))) := by exact rfl) (hb : bl.all (fun p => decide (p.1 < rl.length) && p.2.simple rl.length) = true := by exact rfl) : aZ P [] s (fun s' => bO na s' ⟨tab l, ac bl, rl.length⟩) :=
  bO.mk rl h1 h2 h3 (TN.rr hT hs) (SN.rr hσ hb)
theorem nm {na : Nat} (rl : List Nat) {s : S} {l : List (Nat × V)} {bl : List (Nat × aX)} (hT : TN (rn rl) rl.length s.T l) (hσ : SN (rn rl) rl.length s.σ bl) (h1 : rl.Nodup := by decide) (h2 : rl.take na = List.range na := by decide) (h3 : na ≤ rl.length := by decide) : bO na s ⟨tab l, ac bl, rl.length⟩ :=
  bO.mk rl h1 h2 h3 hT hσ
section
variable {P : Program} {T : Nat → V} {σ : aB} {n : Nat} {dst : Option Nat} {op : be} {l : List bt} {K : S → Prop}
theorem q1 (v : V) {σ' : aB} {n' : Nat} (k : aZ P l ⟨bf T dst v, σ', n'⟩ K) (h : aD op (aA T) σ n = some (v, σ', n') := by exact rfl) : aZ P (⟨dst, op, none⟩ :: l) ⟨T, σ, n⟩ K := step h k
theorem qX (c : Bool) {g : Nat} {b : Bool} (hb : ¬ c = b) (k : aZ P l ⟨bf T dst V.skip, σ, n⟩ K) (hg : T g = .d (.bool c) := by exact rfl) : aZ P (⟨dst, op, some (g, b)⟩ :: l) ⟨T, σ, n⟩ K := uU hg hb k
theorem qG (c : Bool) {g : Nat} {b : Bool} (hb : c = b) (k : aZ P (⟨dst, op, none⟩ :: l) ⟨T, σ, n⟩ K) (hg : T g = .d (.bool c) := by exact rfl) : aZ P (⟨dst, op, some (g, b)⟩ :: l) ⟨T, σ, n⟩ K := uT hg hb k
end
theorem VN.lc {ρ : Nat → Nat} {n0 : Nat} (id : Nat) {off len : Nat} (h : id < n0 := by decide) : VN ρ n0 (.loc (ρ id) off len) (.loc id off len) := .loc id off len h
theorem VN.pt {ρ : Nat → Nat} {n0 : Nat} (id : Nat) {i j : Nat} (h : id < n0 := by decide) : VN ρ n0 (.ptr (ρ id) i j) (.ptr id i j) := .ptr id i j h
section
variable {P : Program} {T : Nat → V} {σ : aB} {n : Nat} {d d2 d3 d4 : Option Nat} {o o2 o3 o4 : be} {l : List bt} {K : S → Prop} {v v2 v3 v4 : V} {σ' σ2 σ3 σ4 : aB} {n' n2 n3 n4 : Nat}
theorem q2 (k : aZ P l ⟨bf (bf T d v) d2 v2, σ2, n2⟩ K) (h : aD o (aA T) σ n = some (v, σ', n') := by exact rfl) (h2 : aD o2 (aA (bf T d v)) σ' n' = some (v2, σ2, n2) := by exact rfl) :
    aZ P (⟨d, o, none⟩ :: ⟨d2, o2, none⟩ :: l) ⟨T, σ, n⟩ K := step h (step h2 k)
theorem q3 (k : aZ P l ⟨bf (bf (bf T d v) d2 v2) d3 v3, σ3, n3⟩ K) (h : aD o (aA T) σ n = some (v, σ', n') := by exact rfl) (h2 : aD o2 (aA (bf T d v)) σ' n' = some (v2, σ2, n2) := by exact rfl)
    (h3 : aD o3 (aA (bf (bf T d v) d2 v2)) σ2 n2 = some (v3, σ3, n3) := by exact rfl) : aZ P (⟨d, o, none⟩ :: ⟨d2, o2, none⟩ :: ⟨d3, o3, none⟩ :: l) ⟨T, σ, n⟩ K := step h (step h2 (step h3 k))
theorem q4 (k : aZ P l ⟨bf (bf (bf (bf T d v) d2 v2) d3 v3) d4 v4, σ4, n4⟩ K) (h : aD o (aA T) σ n = some (v, σ', n') := by exact rfl) (h2 : aD o2 (aA (bf T d v)) σ' n' = some (v2, σ2, n2) := by exact rfl)
    (h3 : aD o3 (aA (bf (bf T d v) d2 v2)) σ2 n2 = some (v3, σ3, n3) := by exact rfl) (h4 : aD o4 (aA (bf (bf (bf T d v) d2 v2) d3 v3)) σ3 n3 = some (v4, σ4, n4) := by exact rfl) :
    aZ P (⟨d, o, none⟩ :: ⟨d2, o2, none⟩ :: ⟨d3, o3, none⟩ :: ⟨d4, o4, none⟩ :: l) ⟨T, σ, n⟩ K := step h (step h2 (step h3 (step h4 k)))
theorem qq (k : aZ P l ⟨bf T d v, σ', n'⟩ K) (h : aD o (aA T) σ n = some (v, σ', n') := by exact rfl) : aZ P (⟨d, o, none⟩ :: l) ⟨T, σ, n⟩ K := step h k
end
section
variable {P : Program} {N na : Nat} {T : Nat → V} {σ : aB} {n : Nat} {y : bA} {Q : Exit → S → Prop}
def jr (T : Nat → V) : List (Nat × V) → Prop
  | [] => True
  | p :: l => T p.1 = p.2 ∧ jr T l
theorem jr.of {T : Nat → V} : ∀ {l : List (Nat × V)}, l.map (fun p => T p.1) = l.map (·.2) → jr T l
  | [], _ => trivial
  | p :: l, h => by
    simp only [List.map_cons, List.cons.injEq] at h
    exact ⟨h.1, jr.of h.2⟩
theorem bO.slots {na : Nat} {s : S} (l : List (Nat × V)) (h : jr s.T l) : bO na s ⟨tab l, s.σ, s.n⟩ := by
  intro N A μ a w ⟨hs, hfr⟩
  refine ⟨μ, ⟨⟨hs.size, hs.defers, fun i => ?_, hs.store⟩, hfr⟩, (aM.refl _ _ _).ng⟩
  have key : ∀ l : List (Nat × V), jr s.T l → tab l i = s.T i ∨ tab l i = V.undef := by
    intro l
    induction l with
    | nil => intro _; exact .inr rfl
    | cons p l ih =>
      intro h
      simp only [tab]
      by_cases c : i = p.1
      · rw [if_pos c, c]; exact .inl h.1.symm
      · rw [if_neg c]; exact ih h.2
  rcases key l h with e | e
  · show aE _ _ _ (tab l i) _
    rw [e]; exact hs.tmps i
  · show aE _ _ _ (tab l i) _
    rw [e]; exact .d _ _ (.undef _)
end
theorem dn {p : Prop} [Decidable p] (h : ¬ p) : ¬ decide p = true := fun hq => h (of_decide_eq_true hq)
section
variable {P : Program} {n n' : Nat}
theorem PCall.inW [DfrOk P] {f : Nat} (af : bI) {ds : List D} {r : D} (h : aI P af.n 0 af.code (FQ af.res r) ⟨eZ (ds.map V.d), fun _ => none, 0⟩) (hc : bL P f af = true := by kernel_rfl) (hl : Nat.ble ds.length af.n = true := by exact rfl) : PCall P f ds r :=
  PCall.introN hc (Nat.le_of_ble_eq_true hl) h
theorem bY.inW [DfrOk P] {f : Nat} (af : bI) {vals : List V} {bl bl' : List (Nat × aX)} {v : V} (h : aI P af.n n af.code (SQ af.res v bl' n') ⟨eZ vals, ac bl, n⟩) (hc : bL P f af = true := by kernel_rfl) (hl : Nat.ble vals.length af.n = true := by exact rfl)
    (hdom : bl.map (·.1) = List.range n := by exact rfl) : bY P f vals (ac bl) n v (ac bl') n' :=
  bY.introN hc (Nat.le_of_ble_eq_true hl) hdom h
end
end Go.AM
end
