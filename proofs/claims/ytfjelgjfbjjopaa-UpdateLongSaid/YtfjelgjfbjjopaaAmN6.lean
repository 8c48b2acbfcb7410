import Derived.Test.YtfjelgjfbjjopaaAmN5
import Derived.Laws.Strings
set_option linter.unusedVariables false
set_option linter.unusedSectionVars false
set_option linter.unusedSimpArgs false
namespace Go.AM
open Go Go.RowKit
variable [Glob]
section
variable {P : Program} {N na : Nat} {A : Nat → Nat → Prop} {μ μ' : Nat → Option aJ} {T T' : Nat → V} {σ σ' : au} {w w' : World} {a : Act} {n n' : Nat} {l : List aQ} {dst : Option Nat} {op : aM} {K : S → Prop}
theorem eC {α β : Type} {o : Option α} {g : α → β} {x : β} (h : o.map g = some x) : ∃ y, o = some y ∧ g y = x := by
  cases o with
  | none => cases h
  | some y => exact ⟨y, rfl, aH h⟩
theorem BN.vars {ρ : Nat → Nat} {n0 : Nat} {vs us : List V} (h : ce ρ n0 vs us) : BN ρ n0 (.var vs) (.var us) := .var vs us h.all.1 h.all.2
theorem VN.aggs {ρ : Nat → Nat} {n0 : Nat} {vs us : List V} (h : ce ρ n0 vs us) : VN ρ n0 (.agg vs) (.agg us) := .agg vs us h.all.1 h.all.2
theorem nT {s : S} (t : Nat) (m : Bool) (k : Option Nat) (h : s.T t = .d .nils) : a8 na s ⟨aj s.T t (.loc s.n 0 0), aj s.σ s.n (some (.lst m k [])), s.n + 1⟩ := by
  refine a8.nil _ m k fun i => ?_
  by_cases e : i = t
  · subst e; exact .inr ⟨aL _ _ _, h⟩
  · exact .inl (aG _ _ e)
theorem nU {cs cs' : List V} {pl : Option aJ} {b o : Nat} (h : aK.ownsAt (.var cs) pl b o) : aK.ownsAt (.var cs') pl b o := by
  cases pl with
  | none => exact h
  | some p => cases p <;> exact h
theorem k5 {A : Nat → Nat → Prop} {μ : Nat → Option aJ} {σ : au} {id : Nat} {cs cs' : List V} (hid : σ id = some (.var cs)) : ak A μ (aj σ id (some (.var cs'))) = ak A μ σ := by
  funext b o
  apply propext
  unfold ak bJ
  refine or_congr ⟨?_, ?_⟩ Iff.rfl
  · rintro ⟨j, blk, h1, h2⟩
    by_cases e : j = id
    · subst e
      rw [aL] at h1; cases h1
      exact ⟨j, _, hid, nU h2⟩
    · rw [aG _ _ e] at h1; exact ⟨j, blk, h1, h2⟩
  · rintro ⟨j, blk, h1, h2⟩
    by_cases e : j = id
    · subst e
      rw [hid] at h1; cases h1
      exact ⟨j, _, aL _ _ _, nU h2⟩
    · exact ⟨j, blk, by rw [aG _ _ e]; exact h1, h2⟩
theorem nV {μ : Nat → Option aJ} {σ : au} {w : World} {id : Nat} {cs cs' : List V} (hid : σ id = some (.var cs)) : aA μ σ w μ (aj σ id (some (.var cs'))) w where
  os := rfl
  tape := rfl
  output := rfl
  size := Nat.le_refl _
  block _ _ _ := rfl
  cells _ c _ _ hc := ⟨c, hc, rfl, fun _ _ => rfl⟩
  own b o ho := by
    have : ak (fun _ _ => False) μ (aj σ id (some (.var cs'))) b o := .inl ho
    rw [k5 hid] at this
    exact .inl (this.elim (fun h => h) (fun h => h.elim))
  ownB b ho := by
    obtain ⟨j, blk, k, h1, h2⟩ := ho
    by_cases e : j = id
    · subst e; exact .inl ⟨j, _, k, hid, h2⟩
    · rw [aG _ _ e] at h1; exact .inl ⟨j, blk, k, h1, h2⟩
  grow _ _ h := h
theorem re {s : S} (id j m : Nat) {cs : List V} {blk : aK} (hid : s.σ id = some (.var cs)) (hj : cs[j]? = some (.d .nils)) (hm : s.σ m = some blk) : a8 na s ⟨s.T, aj s.σ id (some (.var (cs.set j (.loc m 0 0)))), s.n⟩ := by
  intro N A μ a w ⟨hs, hfr⟩
  have hp := bD.placed (hs.store.blks m _ hm)
  have hst : aB A μ (aj s.σ id (some (.var (cs.set j (.loc m 0 0))))) w := by
    refine hs.store.update (nV hid) id (fun q x hq h => by rwa [aG _ _ hq] at h) (fun q hq => rfl) (fun x hx => ?_) (fun _ _ _ _ _ _ _ => rfl) (fun b k' x hx hp' => ⟨fun o => hs.store.amb id _ b k' hid hp' o, fun q y k'' hq hy hq' => hq ?_⟩)
    · simp only [aL, Option.some.injEq] at hx
      subst hx
      rw [k5 hid]
      obtain ⟨b, c, ty, fr, h1, h2, h3, h4, h5⟩ := hs.store.blks id _ hid
      refine ⟨b, c, ty, fr, h1, h2, h3, by simpa using h4, fun i x v hx hv => ?_⟩
      rw [List.getElem?_set] at hx
      split at hx
      · rename_i e
        subst e
        split at hx
        · cases hx
          obtain ⟨g1, g2⟩ := h5 j _ v hj hv
          refine ⟨g1, ?_⟩
          cases g2 with | d _ _ hd => cases hd; exact .loc0 _ _ _ hp
        · cases hx
      · exact h5 i x v hx hv
    · rw [aG _ _ hq] at hy
      exact hs.store.inj q id y _ b k'' k' hy hid hq' hp'
  refine ⟨μ, ⟨⟨hs.size, hs.defers, fun i => ?_, hst⟩, hfr⟩, (nV hid).ng⟩
  show aw μ (ak A μ (aj s.σ id (some (.var (cs.set j (.loc m 0 0)))))) w (s.T i) _
  rw [k5 hid]
  exact hs.tmps i
theorem k6 {s : S} (id j : Nat) (m : Bool) (k : Option Nat) {cs : List V} (hid : s.σ id = some (.var cs)) (hj : cs[j]? = some (.d .nils)) (hlt : id ≠ s.n) : a8 na s ⟨s.T, aj (aj s.σ s.n (some (.lst m k []))) id (some (.var (cs.set j (.loc s.n 0 0)))), s.n + 1⟩ :=
  a8.trans (a8.nil s.T m k fun i => .inl rfl) (re id j s.n (s := ⟨s.T, aj s.σ s.n (some (.lst m k [])), s.n + 1⟩) ((aG _ _ hlt).trans hid) hj (aL _ _ _))
def fZ (T : Nat → V) (ts : List Nat) (v : V) : Nat → V := fun i => if ts.contains i then v else T i
theorem nW {s : S} (ts : List Nat) {id : Nat} {m : Bool} {k : Option Nat} {α : Type} {xs : List α} {e : α → D} (hid : s.σ id = some (.lst m k (xs.map e))) (h0 : ∀ t ∈ ts, ∃ len, s.T t = .loc id 0 len ∧ len = xs.length) : a8 na s ⟨fZ s.T ts (.d (.vec k (xs.map e))), aj s.σ id none, s.n⟩ := by
  generalize hels : xs.map e = els at *
  have h : ∀ t ∈ ts, ∃ len, s.T t = .loc id 0 len ∧ len = els.length := fun t ht => by
    obtain ⟨len, h1, h2⟩ := h0 t ht
    exact ⟨len, h1, by rw [h2, ← hels, List.length_map]⟩
  refine a8.imm _ hid fun i => ?_
  unfold fZ
  by_cases e : ts.contains i = true
  · simp only [e, if_true]
    obtain ⟨len, h1, rfl⟩ := h i (by simpa using e)
    rw [h1]
    have := d7.loc (id := id) (k := k) (els := els) 0 els.length (by omega)
    simpa using this
  · have e' : ts.contains i = false := by simpa using e
    simp only [e', Bool.false_eq_true, if_false]
    exact .refl _
theorem rf {s : S} (k : Nat) {v : V} {d : D} (hT : s.T k = v) (hv : cJ s.σ v = some d) : a8 na s ⟨fZ s.T [k] (.d d), s.σ, s.n⟩ := by
  intro N A μ a w ⟨hs, hfr⟩
  refine ⟨μ, ⟨⟨hs.size, hs.defers, fun i => ?_, hs.store⟩, hfr⟩, (aA.refl _ _ _).ng⟩
  unfold fZ
  by_cases c : i = k
  · subst c
    have : ([i] : List Nat).contains i = true := by simp
    simp only [this, if_true]
    have h0 := hs.tmps i
    rw [hT] at h0
    exact .d _ _ (fS hs.store hv h0)
  · have : ([k] : List Nat).contains i = false := by simpa using c
    simp only [this, Bool.false_eq_true, if_false]
    exact hs.tmps i
theorem uE {s : S} (t : Nat) {id : Nat} {k : Option Nat} {α : Type} {xs l : List α} {e : α → D} {lo hi : Int} (hT : s.T t = .loc id lo.toNat (hi.toNat - lo.toNat)) (hid : s.σ id = some (.lst false k (xs.map e))) (hc : gl xs lo hi = some l) : a8 na s ⟨fZ s.T [t] (.d (.vec k (l.map e))), s.σ, s.n⟩ := by
  refine rf t hT ?_
  unfold gl at hc
  split at hc
  · rename_i h
    cases hc
    simp only [cJ, hid, List.length_map]
    rw [if_pos (by omega), List.map_take, List.map_drop]
  · cases hc
section
variable {α : Type} {e : α → D} {x y : AX} {k kb : Option Nat}
theorem bL {xs : List α} (hx : aD T x = .d (.vec k (xs.map e))) : ay (.len x) (aD T) σ n = some (.d (.int .i64 xs.length), σ, n) := by simp [ay, hx]
theorem k7 (ds : List D) : fI (ds.map V.d) = .d (.agg ds) := by
  have : bu ((ds.map V.d).map V.toD) = some ds := by
    induction ds with
    | nil => rfl
    | cons d ds ih => simp only [List.map_cons, V.toD, ie]; rw [ih]; rfl
  simp only [fI, this]
def f0 : Nat → List V → List V → List V
  | 0, [], cs => cs
  | 0, v :: vs, [] => v :: vs
  | 0, v :: vs, _ :: cs => v :: f0 0 vs cs
  | _ + 1, vs, [] => vs
  | off + 1, vs, c :: cs => c :: f0 off vs cs
theorem k8 : ∀ (off : Nat) (vs cs : List V), off + vs.length ≤ cs.length → f0 off vs cs = cs.take off ++ vs ++ cs.drop (off + vs.length)
  | 0, [], cs, _ => by simp [f0]
  | 0, v :: vs, [], h => by simp at h
  | 0, v :: vs, c :: cs, h => by
    have := k8 0 vs cs (by simp at h ⊢; omega)
    simp [f0, this]
  | off + 1, vs, [], h => by simp at h
  | off + 1, vs, c :: cs, h => by
    have := k8 off vs cs (by simp at h ⊢; omega)
    rw [show off + 1 + vs.length = (off + vs.length) + 1 by omega]
    simp [f0, this]
def jC (cells : List V) : List (Nat × Nat × V) → Option (List V)
  | [] => some cells
  | (off, size, v) :: r =>
    if v.cells.all V.one = true ∧ v.cells.length = size ∧ off + size ≤ cells.length then jC (f0 off v.cells cells) r else none
theorem nX : ∀ (parts : List (Nat × Nat × V)) (cells : List V), jC cells parts = eZ cells parts
  | [], _ => rfl
  | (off, size, v) :: r, cells => by
    simp only [jC, eZ]
    split
    · rename_i h
      obtain ⟨_, h2, h3⟩ := h
      subst h2
      rw [k8 off v.cells cells h3, nX r]
    · rfl
theorem iH {zero : List D} {parts : List (Nat × Nat × AX)} {ds : List D} (h : jC (zero.map V.d) (parts.map fun p => (p.1, p.2.1, aD T p.2.2)) = some (ds.map V.d)) : ay (.build zero parts) (aD T) σ n = some (.d (.agg ds), σ, n) := by
  rw [nX] at h
  simp only [ay, h, Option.map_some, k7]
theorem iI {m id j : Nat} {cs : List V} {ds : List D} (hx : aD T x = .ptr id 0 j) (hid : σ id = some (.var cs)) (hl : j + m ≤ cs.length) (hs : (cs.drop j).take m = ds.map V.d) : ay (.load (some m) x) (aD T) σ n = some (.d (.agg ds), σ, n) := by
  simp only [ay, bU, hx, hid, dz, Nat.zero_add, if_pos hl, hs, k7, Option.map_some]
theorem rg {s : S} {t m id j : Nat} {cs : List V} {ds : List D} {l : List d6} {vs : List V} (hx : s.T t = .ptr id 0 j) (hid : s.σ id = some (.var cs)) (hl : j + m ≤ cs.length) (hs : (cs.drop j).take m = ds.map V.d) (hr : db s l = some vs) : db s (.cell t (some m) :: l) = some (.d (.agg ds) :: vs) := by
  simp only [db, iA, bU, hx, hid, dz, Nat.zero_add, if_pos hl, hs, k7, hr]
theorem bG {s : S} {t : Nat} {v : V} {l : List d6} {vs : List V} (hx : s.T t = v) (hr : db s l = some vs) : db s (.t t :: l) = some (v :: vs) := by
  simp only [db, iA, hx, hr]
theorem A8.put_l {a a' : A8 α} {i : Int} {v : α} (h : a.put i v = some a') : cB a.l i v = some a'.l := by
  unfold A8.put at h
  cases hg : cB a.l i v with
  | none => rw [hg] at h; cases h
  | some xs =>
    rw [hg] at h
    obtain ⟨_, _, rfl⟩ := iF hg
    have hl : (a.l.set i.toNat v).length = 8 := by simp [A8.l]
    generalize a.l.set i.toNat v = q at h hl
    match q, hl with
    | [_, _, _, _, _, _, _, _], _ => cases h; rfl
theorem A2.put_l {a a' : A2 α} {i : Int} {v : α} (h : a.put i v = some a') : cB a.l i v = some a'.l := by
  unfold A2.put at h
  cases hg : cB a.l i v with
  | none => rw [hg] at h; cases h
  | some xs =>
    rw [hg] at h
    obtain ⟨_, _, rfl⟩ := iF hg
    have hl : (a.l.set i.toNat v).length = 2 := by simp [A2.l]
    generalize a.l.set i.toNat v = q at h hl
    match q, hl with
    | [_, _], _ => cases h; rfl
end
def RV (σ : au) : List V → List D → Prop
  | [], [] => True
  | v :: l, d :: r => (∃ d0, dk σ v = some d0 ∧ cK d0 d) ∧ RV σ l r
  | _, _ => False
theorem RV.all {σ : au} : ∀ {vs : List V} {ds : List D}, RV σ vs ds → ∃ ds0, bu (vs.map (dk σ)) = some ds0 ∧ ds0.length = ds.length ∧ ∀ (i : Nat) a b, ds0[i]? = some a → ds[i]? = some b → cK a b
  | [], [], _ => ⟨[], rfl, rfl, fun i a b h => by simp at h⟩
  | v :: vs, d :: ds, ⟨⟨d0, h1, h2⟩, h3⟩ => by
    obtain ⟨ds0, g1, g2, g3⟩ := RV.all h3
    refine ⟨d0 :: ds0, by simp [h1, g1], by simp [g2], fun i a b ha hb => ?_⟩
    cases i with
    | zero => simp at ha hb; subst ha; subst hb; exact h2
    | succ i => exact g3 i a b (by simpa using ha) (by simpa using hb)
  | [], _ :: _, h => h.elim
  | _ :: _, [], h => h.elim
theorem RV.d {σ : au} {vs : List V} {d : D} {ds : List D} (h : RV σ vs ds) : RV σ (.d d :: vs) (d :: ds) := ⟨⟨d, rfl, .refl _⟩, h⟩
theorem RV.sub {σ : au} {vs : List V} {d0 d : D} {ds : List D} (hs : cK d0 d) (h : RV σ vs ds) : RV σ (.d d0 :: vs) (d :: ds) := ⟨⟨d0, rfl, hs⟩, h⟩
theorem RV.nl {σ : au} {vs : List V} {k : Option Nat} {ds : List D} (h : RV σ vs ds) : RV σ (.d .nils :: vs) (.vec k [] :: ds) := ⟨⟨.nils, rfl, .nils k⟩, h⟩
theorem jD {σ : au} {id len : Nat} {m : Bool} {k : Option Nat} {els : List D} (hid : σ id = some (.lst m k els)) (hl : len = els.length) : c4 σ (.loc id 0 len) = some (.vec k els) := by
  subst hl; simp [c4, hid]
theorem rh {σ : au} {id len : Nat} {m : Bool} {k : Option Nat} {els : List D} (hid : σ id = some (.lst m k els)) (hl : len = els.length) : dk σ (.loc id 0 len) = some (.vec k els) := by
  unfold dk; simp only [hid]; exact jD hid hl
theorem RV.loc {σ : au} {vs : List V} {id len : Nat} {m : Bool} {k : Option Nat} {α : Type} {xs : List α} {e : α → D} {ds : List D} (hid : σ id = some (.lst m k (xs.map e))) (hl : len = xs.length) (h : RV σ vs ds) : RV σ (.loc id 0 len :: vs) (.vec k (xs.map e) :: ds) :=
  ⟨⟨_, rh hid (by simpa using hl), .refl _⟩, h⟩
def dJ (σ : au) : List V → List D → Prop
  | [], [] => True
  | v :: l, d :: r => (∃ d0, c4 σ v = some d0 ∧ cK d0 d) ∧ dJ σ l r
  | _, _ => False
theorem dJ.all {σ : au} : ∀ {vs : List V} {ds : List D}, dJ σ vs ds → ∃ ds0, bu (vs.map (c4 σ)) = some ds0 ∧ ds0.length = ds.length ∧ ∀ (i : Nat) a b, ds0[i]? = some a → ds[i]? = some b → cK a b
  | [], [], _ => ⟨[], rfl, rfl, fun i a b h => by simp at h⟩
  | v :: vs, d :: ds, ⟨⟨d0, h1, h2⟩, h3⟩ => by
    obtain ⟨ds0, g1, g2, g3⟩ := dJ.all h3
    refine ⟨d0 :: ds0, by simp [h1, g1], by simp [g2], fun i a b ha hb => ?_⟩
    cases i with
    | zero => simp at ha hb; subst ha; subst hb; exact h2
    | succ i => exact g3 i a b (by simpa using ha) (by simpa using hb)
  | [], _ :: _, h => h.elim
  | _ :: _, [], h => h.elim
theorem dJ.d {σ : au} {vs : List V} {d : D} {ds : List D} (h : dJ σ vs ds) : dJ σ (.d d :: vs) (d :: ds) := ⟨⟨d, rfl, .refl _⟩, h⟩
theorem dJ.nl {σ : au} {vs : List V} {k : Option Nat} {ds : List D} (h : dJ σ vs ds) : dJ σ (.d .nils :: vs) (.vec k [] :: ds) := ⟨⟨.nils, rfl, .nils k⟩, h⟩
theorem dJ.loc {σ : au} {vs : List V} {id len : Nat} {m : Bool} {k : Option Nat} {α : Type} {xs : List α} {e : α → D} {ds : List D} (hid : σ id = some (.lst m k (xs.map e))) (hl : len = xs.length) (h : dJ σ vs ds) : dJ σ (.loc id 0 len :: vs) (.vec k (xs.map e) :: ds) :=
  ⟨⟨_, jD hid (by simpa using hl), .refl _⟩, h⟩
theorem RV.agg {σ : au} {vs cs : List V} {es ds : List D} (hc : dJ σ cs es) (h : RV σ vs ds) : RV σ (.agg cs :: vs) (.agg es :: ds) := by
  obtain ⟨es0, g1, g2, g3⟩ := hc.all
  exact ⟨⟨.agg es0, by simp [dk, g1], .agg _ _ g2 g3⟩, h⟩
def iJ : List D → List D → Prop
  | [], [] => True
  | a :: l, b :: r => cK a b ∧ iJ l r
  | _, _ => False
theorem iJ.all : ∀ {l r : List D}, iJ l r → l.length = r.length ∧ ∀ (i : Nat) a b, l[i]? = some a → r[i]? = some b → cK a b
  | [], [], _ => ⟨rfl, fun i a b h => by simp at h⟩
  | x :: l, y :: r, h => by
    obtain ⟨h1, h2⟩ := iJ.all h.2
    refine ⟨by simp [h1], fun i u v hu hv => ?_⟩
    cases i with
    | zero => simp at hu hv; subst hu; subst hv; exact h.1
    | succ i => exact h2 i u v (by simpa using hu) (by simpa using hv)
  | [], _ :: _, h => h.elim
  | _ :: _, [], h => h.elim
theorem cK.aggs {l r : List D} (h : iJ l r) : cK (.agg l) (.agg r) := .agg l r h.all.1 h.all.2
theorem cf {res : List d6} {e : Exit} {s' : S} {v : V} {d : D} (he : e = .normal ∨ e = .ret) (h1 : db s' res = some [v]) (h2 : RV s'.σ [v] [d]) : FQ res d e s' := by
  obtain ⟨⟨d0, g1, g2⟩, _⟩ := h2
  refine ⟨he, [v], h1, d0, ?_, g2⟩
  cases v with
  | tup vs => simp [dk, c4] at g1
  | _ => exact g1
theorem gR {res : List d6} {e : Exit} {s' : S} {v v' : V} {vs : List V} {ds : List D} (he : e = .normal ∨ e = .ret) (h1 : db s' res = some (v :: v' :: vs)) (h2 : RV s'.σ (v :: v' :: vs) ds) : FQ res (.tup ds) e s' := by
  obtain ⟨ds0, g1, g2, g3⟩ := h2.all
  refine ⟨he, _, h1, .tup ds0, ?_, .tup _ _ g2 g3⟩
  show iC s'.σ (ig (v :: v' :: vs)) = _
  unfold ig
  split
  · rename_i xs hx
    have : bu ((v :: v' :: vs).map (dk s'.σ)) = some xs := by
      have key : ∀ (l : List V) (xs : List D), bu (l.map V.toD) = some xs → bu (l.map (dk s'.σ)) = some xs := by
        intro l
        induction l with
        | nil => intro xs h; exact h
        | cons u l ih =>
          intro xs h
          cases u <;> simp [V.toD] at h
          rename_i q
          obtain ⟨ys, h1, rfl⟩ := h
          simp [dk, c4, ih ys h1]
      exact key _ _ hx
    rw [this] at g1
    cases g1
    rfl
  · simp only [iC, g1, Option.map_some]
def iK (σ : au) : List V → List V → Prop
  | [], [] => True
  | x :: l, y :: r => (x = y ∨ ∃ d, cO σ x = some d ∧ y = .d d) ∧ iK σ l r
  | _, _ => False
theorem iK.all {σ : au} : ∀ {l r : List V}, iK σ l r → l.length = r.length ∧ ∀ (i : Nat) y, r[i]? = some y → ∃ x, l[i]? = some x ∧ (x = y ∨ ∃ d, cO σ x = some d ∧ y = .d d)
  | [], [], _ => ⟨rfl, fun i y h => by simp at h⟩
  | x :: l, y :: r, h => by
    obtain ⟨h1, h2⟩ := iK.all h.2
    refine ⟨by simp [h1], fun i z hz => ?_⟩
    cases i with
    | zero => simp at hz; subst hz; exact ⟨x, rfl, h.1⟩
    | succ i => exact h2 i z (by simpa using hz)
  | [], _ :: _, h => h.elim
  | _ :: _, [], h => h.elim
theorem cy.sees {P : Program} {f : Nat} {vals vals' : List V} {σ σ' : au} {n n' : Nat} {v : V} (h : dE P f vals' σ n v σ' n') (hv : iK σ vals vals') : dE P f vals σ n v σ' n' := by
  obtain ⟨hl, hv⟩ := hv.all
  refine ⟨h.1, fun A μ w vs hs hfr hlen hrel => h.2 A μ w vs hs hfr (by omega) fun i y u hy hu => ?_⟩
  obtain ⟨x, hx, rfl | ⟨d, hd, rfl⟩⟩ := hv i y hy
  · exact hrel i x u hx hu
  · exact .d _ _ (kD hs hd (hrel i x u hx hu))
theorem rk {id len : Nat} {m : Bool} {k : Option Nat} {α : Type} {xs : List α} {e : α → D} (hid : σ id = some (.lst m k (xs.map e))) (hl : len = xs.length) : cr σ (.loc id 0 len) (.vec k (xs.map e)) := by
  subst hl
  have := cr.loc (off := 0) (len := xs.length) hid (by simp)
  have h2 : ((xs.map e).drop 0).take xs.length = xs.map e := List.take_of_length_le (by simp)
  rwa [h2] at this
theorem rm {id j : Nat} {cs : List V} {ds : List D} (hid : σ id = some (.var cs)) (h : cw σ cs ds) : cr σ (.ptr id 0 j) (.cptr (some ds.length) (.agg ds) j) := .var hid h.all.1 h.all.2
theorem ro {ks : List Ck} {a b : List D} {p : Bool} (h1 : a.length = ks.length) (h2 : b.length = ks.length) (h : bH ks a b = some p) : fJ ks (.d (.agg a)) (.d (.agg b)) = some p := by
  simp [fJ, h1, h2, h]
theorem rp {a b : ByteArray} : a.toList = b.toList ↔ a = b := by
  rw [ByteArray.toList_eq, ByteArray.toList_eq]
  constructor
  · intro h
    have : a.data = b.data := Array.toList_inj.1 h
    cases a; cases b; simp at this; subst this; rfl
  · rintro rfl; rfl
theorem rq {f : Nat} {cs : List V} {ds : List D} (h : cw σ cs ds) : cr σ (.func f cs) (.func f ds) := .func h.all.1 h.all.2
theorem cw.c {v : V} {d : D} {l : List V} {r : List D} (h : cr σ v d) (h' : cw σ l r) : cw σ (v :: l) (d :: r) := ⟨h, h'⟩
theorem cw.nil0 : cw σ [] [] := trivial
theorem ce.c {ρ : Nat → Nat} {n0 : Nat} {v u : V} {l r : List V} (h : VN ρ n0 v u) (h' : ce ρ n0 l r) : ce ρ n0 (v :: l) (u :: r) := ⟨h, h'⟩
theorem ce.nil0 {ρ : Nat → Nat} {n0 : Nat} : ce ρ n0 [] [] := trivial
theorem SN.c {ρ : Nat → Nat} {n0 i : Nat} {b b' : aK} {l : List (Nat × aK)} (hi : i < n0) (hb : σ (ρ i) = some b') (h : BN ρ n0 b' b) (h' : SN ρ n0 σ l) : SN ρ n0 σ ((i, b) :: l) := ⟨⟨hi, b', hb, h⟩, h'⟩
theorem SN.nil0 {ρ : Nat → Nat} {n0 : Nat} : SN ρ n0 σ [] := trivial
theorem k9 {m i : Nat} {b : aK} {l : List (Nat × aK)} (h : i < m) (h' : ∀ q ∈ l, q.1 < m) : ∀ q ∈ (i, b) :: l, q.1 < m := by
  intro q hq
  rcases List.mem_cons.1 hq with rfl | hq
  · exact h
  · exact h' q hq
theorem la {m : Nat} : ∀ q ∈ ([] : List (Nat × aK)), q.1 < m := by intro q hq; cases hq
end
end Go.AM
