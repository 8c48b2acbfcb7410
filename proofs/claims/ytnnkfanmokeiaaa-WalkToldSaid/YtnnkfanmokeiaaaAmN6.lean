import Derived.Test.YtnnkfanmokeiaaaAmN5
import Derived.Laws.Strings
set_option linter.unusedVariables false
set_option linter.unusedSectionVars false
set_option linter.unusedSimpArgs false
namespace Go.AM
open Go Go.RowKit
variable [Glob]
section
variable {P : Program} {N na : Nat} {A : Nat → Nat → Prop} {μ μ' : Nat → Option bn} {T T' : Nat → V} {σ σ' : aB} {w w' : World} {a : Act} {n n' : Nat} {l : List bt} {dst : Option Nat} {op : be} {K : S → Prop}
theorem cq {α β : Type} {o : Option α} {g : α → β} {x : β} (h : o.map g = some x) : ∃ y, o = some y ∧ g y = x := by
  cases o with
  | none => cases h
  | some y => exact ⟨y, rfl, aq h⟩
theorem BN.vars {ρ : Nat → Nat} {n0 : Nat} {vs us : List V} (h : bo ρ n0 vs us) : BN ρ n0 (.var vs) (.var us) := .var vs us h.all.1 h.all.2
theorem VN.aggs {ρ : Nat → Nat} {n0 : Nat} {vs us : List V} (h : bo ρ n0 vs us) : VN ρ n0 (.agg vs) (.agg us) := .agg vs us h.all.1 h.all.2
theorem jX {s : S} (t : Nat) (m : Bool) (k : Option Nat) (h : s.T t = .d .nils) : bO na s ⟨al s.T t (.loc s.n 0 0), al s.σ s.n (some (.lst m k [])), s.n + 1⟩ := by
  refine bO.nil _ m k fun i => ?_
  by_cases e : i = t
  · subst e; exact .inr ⟨bm _ _ _, h⟩
  · exact .inl (aR _ _ e)
theorem qC {cs cs' : List V} {pl : Option bn} {b o : Nat} (h : aX.ownsAt (.var cs) pl b o) : aX.ownsAt (.var cs') pl b o := by
  cases pl with
  | none => exact h
  | some p => cases p <;> exact h
theorem mZ {A : Nat → Nat → Prop} {μ : Nat → Option bn} {σ : aB} {id : Nat} {cs cs' : List V} (hid : σ id = some (.var cs)) : aw A μ (al σ id (some (.var cs'))) = aw A μ σ := by
  funext b o
  apply propext
  unfold aw cO
  refine or_congr ⟨?_, ?_⟩ Iff.rfl
  · rintro ⟨j, blk, h1, h2⟩
    by_cases e : j = id
    · subst e
      rw [bm] at h1; cases h1
      exact ⟨j, _, hid, qC h2⟩
    · rw [aR _ _ e] at h1; exact ⟨j, blk, h1, h2⟩
  · rintro ⟨j, blk, h1, h2⟩
    by_cases e : j = id
    · subst e
      rw [hid] at h1; cases h1
      exact ⟨j, _, bm _ _ _, qC h2⟩
    · exact ⟨j, blk, by rw [aR _ _ e]; exact h1, h2⟩
theorem qD {μ : Nat → Option bn} {σ : aB} {w : World} {id : Nat} {cs cs' : List V} (hid : σ id = some (.var cs)) : aM μ σ w μ (al σ id (some (.var cs'))) w where
  os := rfl
  tape := rfl
  output := rfl
  size := Nat.le_refl _
  block _ _ _ := rfl
  cells _ c _ _ hc := ⟨c, hc, rfl, fun _ _ => rfl⟩
  own b o ho := by
    have : aw (fun _ _ => False) μ (al σ id (some (.var cs'))) b o := .inl ho
    rw [mZ hid] at this
    exact .inl (this.elim (fun h => h) (fun h => h.elim))
  ownB b ho := by
    obtain ⟨j, blk, k, h1, h2⟩ := ho
    by_cases e : j = id
    · subst e; exact .inl ⟨j, _, k, hid, h2⟩
    · rw [aR _ _ e] at h1; exact .inl ⟨j, blk, k, h1, h2⟩
  grow _ _ h := h
theorem vd {s : S} (id j m : Nat) {cs : List V} {blk : aX} (hid : s.σ id = some (.var cs)) (hj : cs[j]? = some (.d .nils)) (hm : s.σ m = some blk) : bO na s ⟨s.T, al s.σ id (some (.var (cs.set j (.loc m 0 0)))), s.n⟩ := by
  intro N A μ a w ⟨hs, hfr⟩
  have hp := cf.placed (hs.store.blks m _ hm)
  have hst : aJ A μ (al s.σ id (some (.var (cs.set j (.loc m 0 0))))) w := by
    refine hs.store.update (qD hid) id (fun q x hq h => by rwa [aR _ _ hq] at h) (fun q hq => rfl) (fun x hx => ?_) (fun _ _ _ _ _ _ _ => rfl) (fun b k' x hx hp' => ⟨fun o => hs.store.amb id _ b k' hid hp' o, fun q y k'' hq hy hq' => hq ?_⟩)
    · simp only [bm, Option.some.injEq] at hx
      subst hx
      rw [mZ hid]
      obtain ⟨b, c, ty, fr, h1, h2, h3, h4, h5⟩ := hs.store.blks id _ hid
      refine ⟨b, c, ty, fr, h1, h2, h3, by simpa using h4, fun i x v hx hv => ?_⟩
      rw [List.getElem?_set] at hx
      split at hx
      · rename_i e
        subst e
        split at hx
        · cases hx
          obtain ⟨g1, g2⟩ := h5 j _ v hj hv
          refine ⟨g1, ?_⟩
          cases g2 with | d _ _ hd => cases hd; exact .loc0 _ _ _ hp
        · cases hx
      · exact h5 i x v hx hv
    · rw [aR _ _ hq] at hy
      exact hs.store.inj q id y _ b k'' k' hy hid hq' hp'
  refine ⟨μ, ⟨⟨hs.size, hs.defers, fun i => ?_, hst⟩, hfr⟩, (qD hid).ng⟩
  show aE μ (aw A μ (al s.σ id (some (.var (cs.set j (.loc m 0 0)))))) w (s.T i) _
  rw [mZ hid]
  exact hs.tmps i
theorem ve {s : S} (id j : Nat) (m : Bool) (k : Option Nat) {cs : List V} (hid : s.σ id = some (.var cs)) (hj : cs[j]? = some (.d .nils)) (hlt : id ≠ s.n) : bO na s ⟨s.T, al (al s.σ s.n (some (.lst m k []))) id (some (.var (cs.set j (.loc s.n 0 0)))), s.n + 1⟩ :=
  bO.trans (bO.nil s.T m k fun i => .inl rfl) (vd id j s.n (s := ⟨s.T, al s.σ s.n (some (.lst m k [])), s.n + 1⟩) ((aR _ _ hlt).trans hid) hj (bm _ _ _))
def jY (T : Nat → V) (ts : List Nat) (v : V) : Nat → V := fun i => if ts.contains i then v else T i
theorem vf {s : S} (ts : List Nat) {id : Nat} {m : Bool} {k : Option Nat} {α : Type} {xs : List α} {e : α → D} (hid : s.σ id = some (.lst m k (xs.map e))) (h0 : ∀ t ∈ ts, ∃ len, s.T t = .loc id 0 len ∧ len = xs.length) : bO na s ⟨jY s.T ts (.d (.vec k (xs.map e))), al s.σ id none, s.n⟩ := by
  generalize hels : xs.map e = els at *
  have h : ∀ t ∈ ts, ∃ len, s.T t = .loc id 0 len ∧ len = els.length := fun t ht => by
    obtain ⟨len, h1, h2⟩ := h0 t ht
    exact ⟨len, h1, by rw [h2, ← hels, List.length_map]⟩
  refine bO.imm _ hid fun i => ?_
  unfold jY
  by_cases e : ts.contains i = true
  · simp only [e, if_true]
    obtain ⟨len, h1, rfl⟩ := h i (by simpa using e)
    rw [h1]
    have := fw.loc (id := id) (k := k) (els := els) 0 els.length (by omega)
    simpa using this
  · have e' : ts.contains i = false := by simpa using e
    simp only [e', Bool.false_eq_true, if_false]
    exact .refl _
theorem vg {s : S} (k : Nat) {v : V} {d : D} (hT : s.T k = v) (hv : cZ s.σ v = some d) : bO na s ⟨jY s.T [k] (.d d), s.σ, s.n⟩ := by
  intro N A μ a w ⟨hs, hfr⟩
  refine ⟨μ, ⟨⟨hs.size, hs.defers, fun i => ?_, hs.store⟩, hfr⟩, (aM.refl _ _ _).ng⟩
  unfold jY
  by_cases c : i = k
  · subst c
    have : ([i] : List Nat).contains i = true := by simp
    simp only [this, if_true]
    have h0 := hs.tmps i
    rw [hT] at h0
    exact .d _ _ (iR hs.store hv h0)
  · have : ([k] : List Nat).contains i = false := by simpa using c
    simp only [this, Bool.false_eq_true, if_false]
    exact hs.tmps i
theorem Az {s : S} (t : Nat) {id : Nat} {k : Option Nat} {α : Type} {xs l : List α} {e : α → D} {lo hi : Int} (hT : s.T t = .loc id lo.toNat (hi.toNat - lo.toNat)) (hid : s.σ id = some (.lst false k (xs.map e))) (hc : cJ xs lo hi = some l) : bO na s ⟨jY s.T [t] (.d (.vec k (l.map e))), s.σ, s.n⟩ := by
  refine vg t hT ?_
  unfold cJ at hc
  split at hc
  · rename_i h
    cases hc
    simp only [cZ, hid, List.length_map]
    rw [if_pos (by omega), List.map_take, List.map_drop]
  · cases hc
section
variable {α : Type} {e : α → D} {x y : AX} {k kb : Option Nat}
theorem qE {β : Type} {id : Nat} {xs l : List β} {lo hi : Int} (hx : aA T x = .loc id lo.toNat (hi.toNat - lo.toNat)) (hc : cJ xs lo hi = some l) : aD (.len x) (aA T) σ n = some (.d (.int .i64 l.length), σ, n) := by
  have : hi.toNat - lo.toNat = l.length := by
    unfold cJ at hc
    split at hc
    · cases hc; simp; omega
    · cases hc
  simp [aD, hx, this]
theorem bF {xs : List α} (hx : aA T x = .d (.vec k (xs.map e))) : aD (.len x) (aA T) σ n = some (.d (.int .i64 xs.length), σ, n) := by simp [aD, hx]
theorem ip {d z : D} {j : Nat} (hx : aA T x = .d (.cptr kb d j)) (hd : eu kb d j k = some z) : aD (.ldI k x) (aA T) σ n = some (.d z, σ, n) := by simp [aD, hx, hd]
theorem m0 (ds : List D) : hS (ds.map V.d) = .d (.agg ds) := by
  have : bQ ((ds.map V.d).map V.toD) = some ds := by
    induction ds with
    | nil => rfl
    | cons d ds ih => simp only [List.map_cons, V.toD, jy]; rw [ih]; rfl
  simp only [hS, this]
def ir : Nat → List V → List V → List V
  | 0, [], cs => cs
  | 0, v :: vs, [] => v :: vs
  | 0, v :: vs, _ :: cs => v :: ir 0 vs cs
  | _ + 1, vs, [] => vs
  | off + 1, vs, c :: cs => c :: ir off vs cs
theorem m5 : ∀ (off : Nat) (vs cs : List V), off + vs.length ≤ cs.length → ir off vs cs = cs.take off ++ vs ++ cs.drop (off + vs.length)
  | 0, [], cs, _ => by simp [ir]
  | 0, v :: vs, [], h => by simp at h
  | 0, v :: vs, c :: cs, h => by
    have := m5 0 vs cs (by simp at h ⊢; omega)
    simp [ir, this]
  | off + 1, vs, [], h => by simp at h
  | off + 1, vs, c :: cs, h => by
    have := m5 off vs cs (by simp at h ⊢; omega)
    rw [show off + 1 + vs.length = (off + vs.length) + 1 by omega]
    simp [ir, this]
def kQ (cells : List V) : List (Nat × Nat × V) → Option (List V)
  | [] => some cells
  | (off, size, v) :: r =>
    if v.cells.all V.one = true ∧ v.cells.length = size ∧ off + size ≤ cells.length then kQ (ir off v.cells cells) r else none
theorem qF : ∀ (parts : List (Nat × Nat × V)) (cells : List V), kQ cells parts = gu cells parts
  | [], _ => rfl
  | (off, size, v) :: r, cells => by
    simp only [kQ, gu]
    split
    · rename_i h
      obtain ⟨_, h2, h3⟩ := h
      subst h2
      rw [m5 off v.cells cells h3, qF r]
    · rfl
theorem de {zero : List D} {parts : List (Nat × Nat × AX)} {ds : List D} (h : kQ (zero.map V.d) (parts.map fun p => (p.1, p.2.1, aA T p.2.2)) = some (ds.map V.d)) : aD (.build zero parts) (aA T) σ n = some (.d (.agg ds), σ, n) := by
  rw [qF] at h
  simp only [aD, h, Option.map_some, m0]
theorem cb {m id j : Nat} {cs : List V} {ds : List D} (hx : aA T x = .ptr id 0 j) (hid : σ id = some (.var cs)) (hl : j + m ≤ cs.length) (hs : (cs.drop j).take m = ds.map V.d) : aD (.load (some m) x) (aA T) σ n = some (.d (.agg ds), σ, n) := by
  simp only [aD, cB, hx, hid, eI, Nat.zero_add, if_pos hl, hs, m0, Option.map_some]
theorem ff {s : S} {t m id j : Nat} {cs : List V} {ds : List D} {l : List eD} {vs : List V} (hx : s.T t = .ptr id 0 j) (hid : s.σ id = some (.var cs)) (hl : j + m ≤ cs.length) (hs : (cs.drop j).take m = ds.map V.d) (hr : dT s l = some vs) : dT s (.cell t (some m) :: l) = some (.d (.agg ds) :: vs) := by
  simp only [dT, jO, cB, hx, hid, eI, Nat.zero_add, if_pos hl, hs, m0, hr]
theorem bg {s : S} {t : Nat} {v : V} {l : List eD} {vs : List V} (hx : s.T t = v) (hr : dT s l = some vs) : dT s (.t t :: l) = some (v :: vs) := by
  simp only [dT, jO, hx, hr]
theorem iu {m : Nat} {xs : List α} {i : Int} {v : α} {kk : IntKind} {d : D} {j : Nat} (h : bq xs i = some v) (hm : xs.length = m) (hx : aA T x = .d (.cptr kb d j)) (hy : aA T y = .d (.int kk i)) : aD (.iaddrA m k x y) (aA T) σ n = some (.d (.cptr kb d (j + i.toNat * ap k)), σ, n) := by
  obtain ⟨h0, h1⟩ := kO h
  have : i < (m : Int) := by omega
  simp [aD, hx, hy, h0, this]
theorem vk {m : Nat} {xs : List α} {i : Int} {v : α} {kk : IntKind} {id q j : Nat} (h : bq xs i = some v) (hm : xs.length = m) (hx : aA T x = .ptr id q j) (hy : aA T y = .d (.int kk i)) : aD (.iaddrA m k x y) (aA T) σ n = some (.ptr id q (j + i.toNat * ap k), σ, n) := by
  obtain ⟨h0, h1⟩ := kO h
  have : i < (m : Int) := by omega
  simp [aD, hx, hy, h0, this]
theorem vl {xs xs' : List α} {i : Int} {v : α} {id j : Nat} {pre post : List V} (h : dz xs i v = some xs') (hx : aA T x = .ptr id 0 (j + i.toNat * 1)) (hy : aA T y = .d (e v)) (hid : σ id = some (.var (pre ++ (xs.map (fun x => V.d (e x)) ++ post)))) (hj : pre.length = j)
    (hc : (e v).cells = [e v]) (h1 : (e v).one = true) : aD (.store none x y) (aA T) σ n = some (V.undef, al σ id (some (.var (pre ++ (xs'.map (fun x => V.d (e x)) ++ post)))), n) := by
  obtain ⟨h0, hlt, rfl⟩ := jV h
  subst hj
  have e1 : (V.d (e v)).cells = [V.d (e v)] := by simp [V.cells, hc]
  have e2 : (V.d (e v)).one = true := h1
  have hle : 0 + (pre.length + i.toNat) + 1 ≤ (pre ++ (xs.map (fun x => V.d (e x)) ++ post)).length := by simp; omega
  have key : (pre ++ (xs.map (fun x => V.d (e x)) ++ post)).take (pre.length + i.toNat) ++ [V.d (e v)] ++ (pre ++ (xs.map (fun x => V.d (e x)) ++ post)).drop (pre.length + i.toNat + 1) = pre ++ ((xs.set i.toNat v).map (fun x => V.d (e x)) ++ post) := by
    rw [← List.set_eq_take_append_cons_drop_aux (by simp; omega)]
    rw [List.set_append_right _ _ (by omega), Nat.add_sub_cancel_left, List.set_append_left _ _ (by simpa using hlt), List.map_set]
  simp only [aD, eU, hx, hy, hid, e1, Nat.mul_one]
  rw [if_pos ⟨rfl, by simp [e2], by simpa [ap] using hle⟩]
  simp only [ap, Option.getD_none, Nat.zero_add, Option.map_some]
  rw [key]
where
  List.set_eq_take_append_cons_drop_aux {β : Type} {l : List β} {m : Nat} {v : β} (h : m < l.length) : l.set m v = l.take m ++ [v] ++ l.drop (m + 1) := by
    rw [List.set_eq_take_append_cons_drop, if_pos h]; simp
theorem A8.put_l {a a' : A8 α} {i : Int} {v : α} (h : a.put i v = some a') : dz a.l i v = some a'.l := by
  unfold A8.put at h
  cases hg : dz a.l i v with
  | none => rw [hg] at h; cases h
  | some xs =>
    rw [hg] at h
    obtain ⟨_, _, rfl⟩ := jV hg
    have hl : (a.l.set i.toNat v).length = 8 := by simp [A8.l]
    generalize a.l.set i.toNat v = q at h hl
    match q, hl with
    | [_, _, _, _, _, _, _, _], _ => cases h; rfl
theorem A2.put_l {a a' : A2 α} {i : Int} {v : α} (h : a.put i v = some a') : dz a.l i v = some a'.l := by
  unfold A2.put at h
  cases hg : dz a.l i v with
  | none => rw [hg] at h; cases h
  | some xs =>
    rw [hg] at h
    obtain ⟨_, _, rfl⟩ := jV hg
    have hl : (a.l.set i.toNat v).length = 2 := by simp [A2.l]
    generalize a.l.set i.toNat v = q at h hl
    match q, hl with
    | [_, _], _ => cases h; rfl
end
def RV (σ : aB) : List V → List D → Prop
  | [], [] => True
  | v :: l, d :: r => (∃ d0, e8 σ v = some d0 ∧ dc d0 d) ∧ RV σ l r
  | _, _ => False
theorem RV.all {σ : aB} : ∀ {vs : List V} {ds : List D}, RV σ vs ds → ∃ ds0, bQ (vs.map (e8 σ)) = some ds0 ∧ ds0.length = ds.length ∧ ∀ (i : Nat) a b, ds0[i]? = some a → ds[i]? = some b → dc a b
  | [], [], _ => ⟨[], rfl, rfl, fun i a b h => by simp at h⟩
  | v :: vs, d :: ds, ⟨⟨d0, h1, h2⟩, h3⟩ => by
    obtain ⟨ds0, g1, g2, g3⟩ := RV.all h3
    refine ⟨d0 :: ds0, by simp [h1, g1], by simp [g2], fun i a b ha hb => ?_⟩
    cases i with
    | zero => simp at ha hb; subst ha; subst hb; exact h2
    | succ i => exact g3 i a b (by simpa using ha) (by simpa using hb)
  | [], _ :: _, h => h.elim
  | _ :: _, [], h => h.elim
theorem RV.d {σ : aB} {vs : List V} {d : D} {ds : List D} (h : RV σ vs ds) : RV σ (.d d :: vs) (d :: ds) := ⟨⟨d, rfl, .refl _⟩, h⟩
theorem RV.sub {σ : aB} {vs : List V} {d0 d : D} {ds : List D} (hs : dc d0 d) (h : RV σ vs ds) : RV σ (.d d0 :: vs) (d :: ds) := ⟨⟨d0, rfl, hs⟩, h⟩
theorem RV.nl {σ : aB} {vs : List V} {k : Option Nat} {ds : List D} (h : RV σ vs ds) : RV σ (.d .nils :: vs) (.vec k [] :: ds) := ⟨⟨.nils, rfl, .nils k⟩, h⟩
theorem qH {σ : aB} {id len : Nat} {m : Bool} {k : Option Nat} {els : List D} (hid : σ id = some (.lst m k els)) (hl : len = els.length) : fu σ (.loc id 0 len) = some (.vec k els) := by
  subst hl; simp [fu, hid]
theorem RV.loc {σ : aB} {vs : List V} {id len : Nat} {m : Bool} {k : Option Nat} {α : Type} {xs : List α} {e : α → D} {ds : List D} (hid : σ id = some (.lst m k (xs.map e))) (hl : len = xs.length) (h : RV σ vs ds) : RV σ (.loc id 0 len :: vs) (.vec k (xs.map e) :: ds) :=
  ⟨⟨_, qH hid (by simpa using hl), .refl _⟩, h⟩
def eQ (σ : aB) : List V → List D → Prop
  | [], [] => True
  | v :: l, d :: r => (∃ d0, fu σ v = some d0 ∧ dc d0 d) ∧ eQ σ l r
  | _, _ => False
theorem eQ.all {σ : aB} : ∀ {vs : List V} {ds : List D}, eQ σ vs ds → ∃ ds0, bQ (vs.map (fu σ)) = some ds0 ∧ ds0.length = ds.length ∧ ∀ (i : Nat) a b, ds0[i]? = some a → ds[i]? = some b → dc a b
  | [], [], _ => ⟨[], rfl, rfl, fun i a b h => by simp at h⟩
  | v :: vs, d :: ds, ⟨⟨d0, h1, h2⟩, h3⟩ => by
    obtain ⟨ds0, g1, g2, g3⟩ := eQ.all h3
    refine ⟨d0 :: ds0, by simp [h1, g1], by simp [g2], fun i a b ha hb => ?_⟩
    cases i with
    | zero => simp at ha hb; subst ha; subst hb; exact h2
    | succ i => exact g3 i a b (by simpa using ha) (by simpa using hb)
  | [], _ :: _, h => h.elim
  | _ :: _, [], h => h.elim
theorem eQ.d {σ : aB} {vs : List V} {d : D} {ds : List D} (h : eQ σ vs ds) : eQ σ (.d d :: vs) (d :: ds) := ⟨⟨d, rfl, .refl _⟩, h⟩
theorem eQ.nl {σ : aB} {vs : List V} {k : Option Nat} {ds : List D} (h : eQ σ vs ds) : eQ σ (.d .nils :: vs) (.vec k [] :: ds) := ⟨⟨.nils, rfl, .nils k⟩, h⟩
theorem eQ.loc {σ : aB} {vs : List V} {id len : Nat} {m : Bool} {k : Option Nat} {α : Type} {xs : List α} {e : α → D} {ds : List D} (hid : σ id = some (.lst m k (xs.map e))) (hl : len = xs.length) (h : eQ σ vs ds) : eQ σ (.loc id 0 len :: vs) (.vec k (xs.map e) :: ds) :=
  ⟨⟨_, qH hid (by simpa using hl), .refl _⟩, h⟩
theorem RV.agg {σ : aB} {vs cs : List V} {es ds : List D} (hc : eQ σ cs es) (h : RV σ vs ds) : RV σ (.agg cs :: vs) (.agg es :: ds) := by
  obtain ⟨es0, g1, g2, g3⟩ := hc.all
  exact ⟨⟨.agg es0, by simp [e8, g1], .agg _ _ g2 g3⟩, h⟩
def jZ : List D → List D → Prop
  | [], [] => True
  | a :: l, b :: r => dc a b ∧ jZ l r
  | _, _ => False
theorem jZ.all : ∀ {l r : List D}, jZ l r → l.length = r.length ∧ ∀ (i : Nat) a b, l[i]? = some a → r[i]? = some b → dc a b
  | [], [], _ => ⟨rfl, fun i a b h => by simp at h⟩
  | x :: l, y :: r, h => by
    obtain ⟨h1, h2⟩ := jZ.all h.2
    refine ⟨by simp [h1], fun i u v hu hv => ?_⟩
    cases i with
    | zero => simp at hu hv; subst hu; subst hv; exact h.1
    | succ i => exact h2 i u v (by simpa using hu) (by simpa using hv)
  | [], _ :: _, h => h.elim
  | _ :: _, [], h => h.elim
theorem dc.aggs {l r : List D} (h : jZ l r) : dc (.agg l) (.agg r) := .agg l r h.all.1 h.all.2
theorem br {res : List eD} {e : Exit} {s' : S} {v : V} {d : D} (he : e = .normal ∨ e = .ret) (h1 : dT s' res = some [v]) (h2 : RV s'.σ [v] [d]) : FQ res d e s' := by
  obtain ⟨⟨d0, g1, g2⟩, _⟩ := h2
  refine ⟨he, [v], h1, d0, ?_, g2⟩
  cases v with
  | tup vs => simp [e8, fu] at g1
  | _ => exact g1
theorem eE {res : List eD} {e : Exit} {s' : S} {v v' : V} {vs : List V} {ds : List D} (he : e = .normal ∨ e = .ret) (h1 : dT s' res = some (v :: v' :: vs)) (h2 : RV s'.σ (v :: v' :: vs) ds) : FQ res (.tup ds) e s' := by
  obtain ⟨ds0, g1, g2, g3⟩ := h2.all
  refine ⟨he, _, h1, .tup ds0, ?_, .tup _ _ g2 g3⟩
  show iU s'.σ (jz (v :: v' :: vs)) = _
  unfold jz
  split
  · rename_i xs hx
    have : bQ ((v :: v' :: vs).map (e8 s'.σ)) = some xs := by
      have key : ∀ (l : List V) (xs : List D), bQ (l.map V.toD) = some xs → bQ (l.map (e8 s'.σ)) = some xs := by
        intro l
        induction l with
        | nil => intro xs h; exact h
        | cons u l ih =>
          intro xs h
          cases u <;> simp [V.toD] at h
          rename_i q
          obtain ⟨ys, h1, rfl⟩ := h
          simp [e8, fu, ih ys h1]
      exact key _ _ hx
    rw [this] at g1
    cases g1
    rfl
  · simp only [iU, g1, Option.map_some]
theorem m8 {vs : List V} {id len : Nat} {k : Option Nat} {α : Type} {xs : List α} {e : α → D} {ds : List D} (hid : σ id = some (.lst false k (xs.map e))) (hl : len = xs.length) (h : aQ σ vs ds) : aQ σ (.loc id 0 len :: vs) (.vec k (xs.map e) :: ds) := aQ.lc hid (by simpa using hl) h
theorem dU {β γ : Type} {f : β → Option γ} {a : β} {x : γ} {l : List β} {r : List γ} (h : f a = some x) (h' : bQ (l.map f) = some r) : bQ ((a :: l).map f) = some (x :: r) := by
  simp [h, h']
theorem kR {β γ : Type} {f : β → Option γ} : bQ (([] : List β).map f) = some [] := rfl
theorem kS {id len : Nat} {k : Option Nat} {α : Type} {xs : List α} {e : α → D} (hid : σ id = some (.lst false k (xs.map e))) (hl : len = xs.length) : cZ σ (.loc id 0 len) = some (.vec k (xs.map e)) := by
  subst hl
  simp only [cZ, hid]
  rw [if_pos (by simp)]
  congr 2
  rw [List.drop_zero]
  exact List.take_of_length_le (by simp)
theorem fg {x : D} : cZ σ (.d x) = some x := rfl
theorem nb {cs : List V} {ds : List D} (h : bQ (cs.map (cZ σ)) = some ds) : cV σ (.agg cs) = some (.agg ds) := by
  simp [cV, h]
theorem nc {id len : Nat} {k : Option Nat} {α : Type} {xs : List α} {e : α → D} (hid : σ id = some (.lst false k (xs.map e))) (hl : len = xs.length) : cV σ (.loc id 0 len) = some (.vec k (xs.map e)) := kS hid hl
theorem vm {parts : List AX} {m : Bool} {k : Option Nat} {ds : List D} (h : bQ (parts.map fun x => cV σ (aA T x)) = some ds) (hs : ds.all (fun d => d.shape k && d.cells.all D.one) = true) : aD (.bsliceV k parts m) (aA T) σ n = some (.loc n 0 ds.length, al σ n (some (.lst m k ds)), n + 1) := by
  simp only [aD, h, hs, if_true]
def iZ (σ : aB) : List V → List V → Prop
  | [], [] => True
  | x :: l, y :: r => (x = y ∨ ∃ d, cV σ x = some d ∧ y = .d d) ∧ iZ σ l r
  | _, _ => False
theorem iZ.all {σ : aB} : ∀ {l r : List V}, iZ σ l r → l.length = r.length ∧ ∀ (i : Nat) y, r[i]? = some y → ∃ x, l[i]? = some x ∧ (x = y ∨ ∃ d, cV σ x = some d ∧ y = .d d)
  | [], [], _ => ⟨rfl, fun i y h => by simp at h⟩
  | x :: l, y :: r, h => by
    obtain ⟨h1, h2⟩ := iZ.all h.2
    refine ⟨by simp [h1], fun i z hz => ?_⟩
    cases i with
    | zero => simp at hz; subst hz; exact ⟨x, rfl, h.1⟩
    | succ i => exact h2 i z (by simpa using hz)
  | [], _ :: _, h => h.elim
  | _ :: _, [], h => h.elim
theorem bY.sees {P : Program} {f : Nat} {vals vals' : List V} {σ σ' : aB} {n n' : Nat} {v : V} (h : eX P f vals' σ n v σ' n') (hv : iZ σ vals vals') : eX P f vals σ n v σ' n' := by
  obtain ⟨hl, hv⟩ := hv.all
  refine ⟨h.1, fun A μ w vs hs hfr hlen hrel => h.2 A μ w vs hs hfr (by omega) fun i y u hy hu => ?_⟩
  obtain ⟨x, hx, rfl | ⟨d, hd, rfl⟩⟩ := hv i y hy
  · exact hrel i x u hx hu
  · exact .d _ _ (mF hs hd (hrel i x u hx hu))
theorem qI {ks : List Ck} {a b : List D} {p : Bool} (h1 : a.length = ks.length) (h2 : b.length = ks.length) (h : bX ks a b = some p) : gM ks (.d (.agg a)) (.d (.agg b)) = some p := by
  simp [gM, h1, h2, h]
theorem qJ {a b : ByteArray} : a.toList = b.toList ↔ a = b := by
  rw [ByteArray.toList_eq, ByteArray.toList_eq]
  constructor
  · intro h
    have : a.data = b.data := Array.toList_inj.1 h
    cases a; cases b; simp at this; subst this; rfl
  · rintro rfl; rfl
theorem fe.c {v : V} {d : D} {l : List V} {r : List D} (h : dq σ v d) (h' : fe σ l r) : fe σ (v :: l) (d :: r) := ⟨h, h'⟩
theorem fe.nil0 : fe σ [] [] := trivial
theorem bo.c {ρ : Nat → Nat} {n0 : Nat} {v u : V} {l r : List V} (h : VN ρ n0 v u) (h' : bo ρ n0 l r) : bo ρ n0 (v :: l) (u :: r) := ⟨h, h'⟩
theorem bo.nil0 {ρ : Nat → Nat} {n0 : Nat} : bo ρ n0 [] [] := trivial
theorem SN.c {ρ : Nat → Nat} {n0 i : Nat} {b b' : aX} {l : List (Nat × aX)} (hi : i < n0) (hb : σ (ρ i) = some b') (h : BN ρ n0 b' b) (h' : SN ρ n0 σ l) : SN ρ n0 σ ((i, b) :: l) := ⟨⟨hi, b', hb, h⟩, h'⟩
theorem SN.nil0 {ρ : Nat → Nat} {n0 : Nat} : SN ρ n0 σ [] := trivial
theorem d8 {m i : Nat} {b : aX} {l : List (Nat × aX)} (h : i < m) (h' : ∀ q ∈ l, q.1 < m) : ∀ q ∈ (i, b) :: l, q.1 < m := by
  intro q hq
  rcases List.mem_cons.1 hq with rfl | hq
  · exact h
  · exact h' q hq
theorem fz {m : Nat} : ∀ q ∈ ([] : List (Nat × aX)), q.1 < m := by intro q hq; cases hq
end
end Go.AM
