import Derived.Test.YtfjelgjfbjjopaaAmN5
import Derived.Laws.Strings
set_option linter.unusedVariables false
set_option linter.unusedSectionVars false
set_option linter.unusedSimpArgs false
namespace Go.AM
open Go Go.RowKit
variable [Glob]
section
variable {P : Program} {N na : Nat} {A : Nat → Nat → Prop} {μ μ' : Nat → Option aR} {T T' : Nat → V} {σ σ' : au} {w w' : World} {a : Act} {n n' : Nat} {l : List aX} {dst : Option Nat} {op : aO} {K : S → Prop}
theorem dU {α β : Type} {o : Option α} {g : α → β} {x : β} (h : o.map g = some x) : ∃ y, o = some y ∧ g y = x := by
  cases o with
  | none => cases h
  | some y => exact ⟨y, rfl, aB h⟩
theorem BN.vars {ρ : Nat → Nat} {n0 : Nat} {vs us : List V} (h : cZ ρ n0 vs us) : BN ρ n0 (.var vs) (.var us) := .var vs us h.all.1 h.all.2
theorem VN.aggs {ρ : Nat → Nat} {n0 : Nat} {vs us : List V} (h : cZ ρ n0 vs us) : VN ρ n0 (.agg vs) (.agg us) := .agg vs us h.all.1 h.all.2
theorem ki {s : S} (t : Nat) (m : Bool) (k : Option Nat) (h : s.T t = .d .nils) : bu na s ⟨aj s.T t (.loc s.n 0 0), aj s.σ s.n (some (.lst m k [])), s.n + 1⟩ := by
  refine bu.nil _ m k fun i => ?_
  by_cases e : i = t
  · subst e; exact .inr ⟨aM _ _ _, h⟩
  · exact .inl (aH _ _ e)
def l7 (T : Nat → V) (ts : List Nat) (v : V) : Nat → V := fun i => if ts.contains i then v else T i
theorem r6 {s : S} (k : Nat) {v : V} {d : D} (hT : s.T k = v) (hv : c8 s.σ v = some d) : bu na s ⟨l7 s.T [k] (.d d), s.σ, s.n⟩ := by
  intro N A μ a w ⟨hs, hfr⟩
  refine ⟨μ, ⟨⟨hs.size, hs.defers, fun i => ?_, hs.store⟩, hfr⟩, (aJ.refl _ _ _).ng⟩
  unfold l7
  by_cases c : i = k
  · subst c
    have : ([i] : List Nat).contains i = true := by simp
    simp only [this, if_true]
    have h0 := hs.tmps i
    rw [hT] at h0
    exact .d _ _ (hY hs.store hv h0)
  · have : ([k] : List Nat).contains i = false := by simpa using c
    simp only [this, Bool.false_eq_true, if_false]
    exact hs.tmps i
theorem wc {s : S} (t : Nat) {id : Nat} {k : Option Nat} {α : Type} {xs l : List α} {e : α → D} {lo hi : Int} (hT : s.T t = .loc id lo.toNat (hi.toNat - lo.toNat)) (hid : s.σ id = some (.lst false k (xs.map e))) (hc : cN xs lo hi = some l) : bu na s ⟨l7 s.T [t] (.d (.vec k (l.map e))), s.σ, s.n⟩ := by
  refine r6 t hT ?_
  unfold cN at hc
  split at hc
  · rename_i h
    cases hc
    simp only [c8, hid, List.length_map]
    rw [if_pos (by omega), List.map_take, List.map_drop]
  · cases hc
section
variable {α : Type} {e : α → D} {x y : AX} {k kb : Option Nat}
theorem oX {β : Type} {id : Nat} {xs l : List β} {lo hi : Int} (hx : aC T x = .loc id lo.toNat (hi.toNat - lo.toNat)) (hc : cN xs lo hi = some l) : ay (.len x) (aC T) σ n = some (.d (.int .i64 l.length), σ, n) := by
  have : hi.toNat - lo.toNat = l.length := by
    unfold cN at hc
    split at hc
    · cases hc; simp; omega
    · cases hc
  simp [ay, hx, this]
theorem bH {xs : List α} (hx : aC T x = .d (.vec k (xs.map e))) : ay (.len x) (aC T) σ n = some (.d (.int .i64 xs.length), σ, n) := by simp [ay, hx]
theorem oY (ds : List D) : gj (ds.map V.d) = .d (.agg ds) := by
  have : bJ ((ds.map V.d).map V.toD) = some ds := by
    induction ds with
    | nil => rfl
    | cons d ds ih => simp only [List.map_cons, V.toD, gW]; rw [ih]; rfl
  simp only [gj, this]
def gN : Nat → List V → List V → List V
  | 0, [], cs => cs
  | 0, v :: vs, [] => v :: vs
  | 0, v :: vs, _ :: cs => v :: gN 0 vs cs
  | _ + 1, vs, [] => vs
  | off + 1, vs, c :: cs => c :: gN off vs cs
theorem ma : ∀ (off : Nat) (vs cs : List V), off + vs.length ≤ cs.length → gN off vs cs = cs.take off ++ vs ++ cs.drop (off + vs.length)
  | 0, [], cs, _ => by simp [gN]
  | 0, v :: vs, [], h => by simp at h
  | 0, v :: vs, c :: cs, h => by
    have := ma 0 vs cs (by simp at h ⊢; omega)
    simp [gN, this]
  | off + 1, vs, [], h => by simp at h
  | off + 1, vs, c :: cs, h => by
    have := ma off vs cs (by simp at h ⊢; omega)
    rw [show off + 1 + vs.length = (off + vs.length) + 1 by omega]
    simp [gN, this]
def kl (cells : List V) : List (Nat × Nat × V) → Option (List V)
  | [] => some cells
  | (off, size, v) :: r =>
    if v.cells.all V.one = true ∧ v.cells.length = size ∧ off + size ≤ cells.length then kl (gN off v.cells cells) r else none
theorem oZ : ∀ (parts : List (Nat × Nat × V)) (cells : List V), kl cells parts = fw cells parts
  | [], _ => rfl
  | (off, size, v) :: r, cells => by
    simp only [kl, fw]
    split
    · rename_i h
      obtain ⟨_, h2, h3⟩ := h
      subst h2
      rw [ma off v.cells cells h3, oZ r]
    · rfl
theorem gO {zero : List D} {parts : List (Nat × Nat × AX)} {ds : List D} (h : kl (zero.map V.d) (parts.map fun p => (p.1, p.2.1, aC T p.2.2)) = some (ds.map V.d)) : ay (.build zero parts) (aC T) σ n = some (.d (.agg ds), σ, n) := by
  rw [oZ] at h
  simp only [ay, h, Option.map_some, oY]
theorem km {m id j : Nat} {cs : List V} {ds : List D} (hx : aC T x = .ptr id 0 j) (hid : σ id = some (.var cs)) (hl : j + m ≤ cs.length) (hs : (cs.drop j).take m = ds.map V.d) : ay (.load (some m) x) (aC T) σ n = some (.d (.agg ds), σ, n) := by
  simp only [ay, co, hx, hid, dP, Nat.zero_add, if_pos hl, hs, oY, Option.map_some]
theorem bn {s : S} {t : Nat} {v : V} {l : List eS} {vs : List V} (hx : s.T t = v) (hr : dT s l = some vs) : dT s (.t t :: l) = some (v :: vs) := by
  simp only [dT, kc, hx, hr]
theorem A8.put_l {a a' : A8 α} {i : Int} {v : α} (h : a.put i v = some a') : b4 a.l i v = some a'.l := by
  unfold A8.put at h
  cases hg : b4 a.l i v with
  | none => rw [hg] at h; cases h
  | some xs =>
    rw [hg] at h
    obtain ⟨_, _, rfl⟩ := jc hg
    have hl : (a.l.set i.toNat v).length = 8 := by simp [A8.l]
    generalize a.l.set i.toNat v = q at h hl
    match q, hl with
    | [_, _, _, _, _, _, _, _], _ => cases h; rfl
theorem A2.put_l {a a' : A2 α} {i : Int} {v : α} (h : a.put i v = some a') : b4 a.l i v = some a'.l := by
  unfold A2.put at h
  cases hg : b4 a.l i v with
  | none => rw [hg] at h; cases h
  | some xs =>
    rw [hg] at h
    obtain ⟨_, _, rfl⟩ := jc hg
    have hl : (a.l.set i.toNat v).length = 2 := by simp [A2.l]
    generalize a.l.set i.toNat v = q at h hl
    match q, hl with
    | [_, _], _ => cases h; rfl
end
def RV (σ : au) : List V → List D → Prop
  | [], [] => True
  | v :: l, d :: r => (∃ d0, dJ σ v = some d0 ∧ cY d0 d) ∧ RV σ l r
  | _, _ => False
theorem RV.all {σ : au} : ∀ {vs : List V} {ds : List D}, RV σ vs ds → ∃ ds0, bJ (vs.map (dJ σ)) = some ds0 ∧ ds0.length = ds.length ∧ ∀ (i : Nat) a b, ds0[i]? = some a → ds[i]? = some b → cY a b
  | [], [], _ => ⟨[], rfl, rfl, fun i a b h => by simp at h⟩
  | v :: vs, d :: ds, ⟨⟨d0, h1, h2⟩, h3⟩ => by
    obtain ⟨ds0, g1, g2, g3⟩ := RV.all h3
    refine ⟨d0 :: ds0, by simp [h1, g1], by simp [g2], fun i a b ha hb => ?_⟩
    cases i with
    | zero => simp at ha hb; subst ha; subst hb; exact h2
    | succ i => exact g3 i a b (by simpa using ha) (by simpa using hb)
  | [], _ :: _, h => h.elim
  | _ :: _, [], h => h.elim
theorem RV.d {σ : au} {vs : List V} {d : D} {ds : List D} (h : RV σ vs ds) : RV σ (.d d :: vs) (d :: ds) := ⟨⟨d, rfl, .refl _⟩, h⟩
theorem RV.sub {σ : au} {vs : List V} {d0 d : D} {ds : List D} (hs : cY d0 d) (h : RV σ vs ds) : RV σ (.d d0 :: vs) (d :: ds) := ⟨⟨d0, rfl, hs⟩, h⟩
theorem RV.nl {σ : au} {vs : List V} {k : Option Nat} {ds : List D} (h : RV σ vs ds) : RV σ (.d .nils :: vs) (.vec k [] :: ds) := ⟨⟨.nils, rfl, .nils k⟩, h⟩
theorem mb {σ : au} {id len : Nat} {m : Bool} {k : Option Nat} {els : List D} (hid : σ id = some (.lst m k els)) (hl : len = els.length) : dj σ (.loc id 0 len) = some (.vec k els) := by
  subst hl; simp [dj, hid]
theorem sa {σ : au} {id len : Nat} {m : Bool} {k : Option Nat} {els : List D} (hid : σ id = some (.lst m k els)) (hl : len = els.length) : dJ σ (.loc id 0 len) = some (.vec k els) := by
  unfold dJ; simp only [hid]; exact mb hid hl
theorem RV.loc {σ : au} {vs : List V} {id len : Nat} {m : Bool} {k : Option Nat} {α : Type} {xs : List α} {e : α → D} {ds : List D} (hid : σ id = some (.lst m k (xs.map e))) (hl : len = xs.length) (h : RV σ vs ds) : RV σ (.loc id 0 len :: vs) (.vec k (xs.map e) :: ds) :=
  ⟨⟨_, sa hid (by simpa using hl), .refl _⟩, h⟩
def dV (σ : au) : List V → List D → Prop
  | [], [] => True
  | v :: l, d :: r => (∃ d0, dj σ v = some d0 ∧ cY d0 d) ∧ dV σ l r
  | _, _ => False
theorem dV.all {σ : au} : ∀ {vs : List V} {ds : List D}, dV σ vs ds → ∃ ds0, bJ (vs.map (dj σ)) = some ds0 ∧ ds0.length = ds.length ∧ ∀ (i : Nat) a b, ds0[i]? = some a → ds[i]? = some b → cY a b
  | [], [], _ => ⟨[], rfl, rfl, fun i a b h => by simp at h⟩
  | v :: vs, d :: ds, ⟨⟨d0, h1, h2⟩, h3⟩ => by
    obtain ⟨ds0, g1, g2, g3⟩ := dV.all h3
    refine ⟨d0 :: ds0, by simp [h1, g1], by simp [g2], fun i a b ha hb => ?_⟩
    cases i with
    | zero => simp at ha hb; subst ha; subst hb; exact h2
    | succ i => exact g3 i a b (by simpa using ha) (by simpa using hb)
  | [], _ :: _, h => h.elim
  | _ :: _, [], h => h.elim
theorem dV.d {σ : au} {vs : List V} {d : D} {ds : List D} (h : dV σ vs ds) : dV σ (.d d :: vs) (d :: ds) := ⟨⟨d, rfl, .refl _⟩, h⟩
theorem dV.nl {σ : au} {vs : List V} {k : Option Nat} {ds : List D} (h : dV σ vs ds) : dV σ (.d .nils :: vs) (.vec k [] :: ds) := ⟨⟨.nils, rfl, .nils k⟩, h⟩
theorem dV.loc {σ : au} {vs : List V} {id len : Nat} {m : Bool} {k : Option Nat} {α : Type} {xs : List α} {e : α → D} {ds : List D} (hid : σ id = some (.lst m k (xs.map e))) (hl : len = xs.length) (h : dV σ vs ds) : dV σ (.loc id 0 len :: vs) (.vec k (xs.map e) :: ds) :=
  ⟨⟨_, mb hid (by simpa using hl), .refl _⟩, h⟩
theorem RV.agg {σ : au} {vs cs : List V} {es ds : List D} (hc : dV σ cs es) (h : RV σ vs ds) : RV σ (.agg cs :: vs) (.agg es :: ds) := by
  obtain ⟨es0, g1, g2, g3⟩ := hc.all
  exact ⟨⟨.agg es0, by simp [dJ, g1], .agg _ _ g2 g3⟩, h⟩
def jd : List D → List D → Prop
  | [], [] => True
  | a :: l, b :: r => cY a b ∧ jd l r
  | _, _ => False
theorem jd.all : ∀ {l r : List D}, jd l r → l.length = r.length ∧ ∀ (i : Nat) a b, l[i]? = some a → r[i]? = some b → cY a b
  | [], [], _ => ⟨rfl, fun i a b h => by simp at h⟩
  | x :: l, y :: r, h => by
    obtain ⟨h1, h2⟩ := jd.all h.2
    refine ⟨by simp [h1], fun i u v hu hv => ?_⟩
    cases i with
    | zero => simp at hu hv; subst hu; subst hv; exact h.1
    | succ i => exact h2 i u v (by simpa using hu) (by simpa using hv)
  | [], _ :: _, h => h.elim
  | _ :: _, [], h => h.elim
theorem cY.aggs {l r : List D} (h : jd l r) : cY (.agg l) (.agg r) := .agg l r h.all.1 h.all.2
theorem bR {res : List eS} {e : Exit} {s' : S} {v : V} {d : D} (he : e = .normal ∨ e = .ret) (h1 : dT s' res = some [v]) (h2 : RV s'.σ [v] [d]) : FQ res d e s' := by
  obtain ⟨⟨d0, g1, g2⟩, _⟩ := h2
  refine ⟨he, [v], h1, d0, ?_, g2⟩
  cases v with
  | tup vs => simp [dJ, dj] at g1
  | _ => exact g1
theorem eZ {res : List eS} {e : Exit} {s' : S} {v v' : V} {vs : List V} {ds : List D} (he : e = .normal ∨ e = .ret) (h1 : dT s' res = some (v :: v' :: vs)) (h2 : RV s'.σ (v :: v' :: vs) ds) : FQ res (.tup ds) e s' := by
  obtain ⟨ds0, g1, g2, g3⟩ := h2.all
  refine ⟨he, _, h1, .tup ds0, ?_, .tup _ _ g2 g3⟩
  show iZ s'.σ (iK (v :: v' :: vs)) = _
  unfold iK
  split
  · rename_i xs hx
    have : bJ ((v :: v' :: vs).map (dJ s'.σ)) = some xs := by
      have key : ∀ (l : List V) (xs : List D), bJ (l.map V.toD) = some xs → bJ (l.map (dJ s'.σ)) = some xs := by
        intro l
        induction l with
        | nil => intro xs h; exact h
        | cons u l ih =>
          intro xs h
          cases u <;> simp [V.toD] at h
          rename_i q
          obtain ⟨ys, h1, rfl⟩ := h
          simp [dJ, dj, ih ys h1]
      exact key _ _ hx
    rw [this] at g1
    cases g1
    rfl
  · simp only [iZ, g1, Option.map_some]
theorem o0 {vs : List V} {id len : Nat} {k : Option Nat} {α : Type} {xs : List α} {e : α → D} {ds : List D} (hid : σ id = some (.lst false k (xs.map e))) (hl : len = xs.length) (h : aS σ vs ds) : aS σ (.loc id 0 len :: vs) (.vec k (xs.map e) :: ds) := aS.lc hid (by simpa using hl) h
def je (σ : au) : List V → List V → Prop
  | [], [] => True
  | x :: l, y :: r => (x = y ∨ ∃ d, c9 σ x = some d ∧ y = .d d) ∧ je σ l r
  | _, _ => False
theorem je.all {σ : au} : ∀ {l r : List V}, je σ l r → l.length = r.length ∧ ∀ (i : Nat) y, r[i]? = some y → ∃ x, l[i]? = some x ∧ (x = y ∨ ∃ d, c9 σ x = some d ∧ y = .d d)
  | [], [], _ => ⟨rfl, fun i y h => by simp at h⟩
  | x :: l, y :: r, h => by
    obtain ⟨h1, h2⟩ := je.all h.2
    refine ⟨by simp [h1], fun i z hz => ?_⟩
    cases i with
    | zero => simp at hz; subst hz; exact ⟨x, rfl, h.1⟩
    | succ i => exact h2 i z (by simpa using hz)
  | [], _ :: _, h => h.elim
  | _ :: _, [], h => h.elim
theorem dS.sees {P : Program} {f : Nat} {vals vals' : List V} {σ σ' : au} {n n' : Nat} {v : V} (h : ef P f vals' σ n v σ' n') (hv : je σ vals vals') : ef P f vals σ n v σ' n' := by
  obtain ⟨hl, hv⟩ := hv.all
  refine ⟨h.1, fun A μ w vs hs hfr hlen hrel => h.2 A μ w vs hs hfr (by omega) fun i y u hy hu => ?_⟩
  obtain ⟨x, hx, rfl | ⟨d, hd, rfl⟩⟩ := hv i y hy
  · exact hrel i x u hx hu
  · exact .d _ _ (lD hs hd (hrel i x u hx hu))
theorem sb {ks : List Ck} {a b : List D} {p : Bool} (h1 : a.length = ks.length) (h2 : b.length = ks.length) (h : bV ks a b = some p) : gn ks (.d (.agg a)) (.d (.agg b)) = some p := by
  simp [gn, h1, h2, h]
theorem sd {a b : ByteArray} : a.toList = b.toList ↔ a = b := by
  rw [ByteArray.toList_eq, ByteArray.toList_eq]
  constructor
  · intro h
    have : a.data = b.data := Array.toList_inj.1 h
    cases a; cases b; simp at this; subst this; rfl
  · rintro rfl; rfl
theorem se {f : Nat} {cs : List V} {ds : List D} (h : cQ σ cs ds) : cL σ (.func f cs) (.func f ds) := .func h.all.1 h.all.2
theorem cQ.c {v : V} {d : D} {l : List V} {r : List D} (h : cL σ v d) (h' : cQ σ l r) : cQ σ (v :: l) (d :: r) := ⟨h, h'⟩
theorem cQ.nil0 : cQ σ [] [] := trivial
theorem cZ.c {ρ : Nat → Nat} {n0 : Nat} {v u : V} {l r : List V} (h : VN ρ n0 v u) (h' : cZ ρ n0 l r) : cZ ρ n0 (v :: l) (u :: r) := ⟨h, h'⟩
theorem cZ.nil0 {ρ : Nat → Nat} {n0 : Nat} : cZ ρ n0 [] [] := trivial
theorem SN.c {ρ : Nat → Nat} {n0 i : Nat} {b b' : aV} {l : List (Nat × aV)} (hi : i < n0) (hb : σ (ρ i) = some b') (h : BN ρ n0 b' b) (h' : SN ρ n0 σ l) : SN ρ n0 σ ((i, b) :: l) := ⟨⟨hi, b', hb, h⟩, h'⟩
theorem SN.nil0 {ρ : Nat → Nat} {n0 : Nat} : SN ρ n0 σ [] := trivial
theorem o5 {m i : Nat} {b : aV} {l : List (Nat × aV)} (h : i < m) (h' : ∀ q ∈ l, q.1 < m) : ∀ q ∈ (i, b) :: l, q.1 < m := by
  intro q hq
  rcases List.mem_cons.1 hq with rfl | hq
  · exact h
  · exact h' q hq
theorem o6 {m : Nat} : ∀ q ∈ ([] : List (Nat × aV)), q.1 < m := by intro q hq; cases hq
end
end Go.AM
