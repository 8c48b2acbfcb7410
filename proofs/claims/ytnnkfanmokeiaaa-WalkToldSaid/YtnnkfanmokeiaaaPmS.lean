import Derived.Test.YtnnkfanmokeiaaaAmK8
import Derived.Sort.Grow
import Derived.Deep.QuietTactic
import Derived.Shelf.RegionOpenPlain
import Derived.Deep.RegionLaw
import Derived.Sort.WalkB12
import Derived.Deep.LoopGhost
import Derived.WalkKit
import Derived.Test.YtnnkfanmokeiaaaAmOr
import Derived.Test.YtnnkfanmokeiaaaProg
import Derived.Shelf.SlLaysE0
import Derived.Lib.Walk
import Derived.Lib.SliceRun
import Derived.Deep.MidRow
import Derived.Test.YtnnkfanmokeiaaaAmN6
import Derived.Shelf.SlSortCmp.WholeK
/-  Several texts in one. -/
section
set_option linter.unusedVariables false
namespace Go.AM
open Go
variable [Glob]
theorem gl.sees {P : Program} {f : Nat} {vals vals' : List V} {pre : List (Nat × aX)} {v : V} {post : List (Nat × Option aX)} {n m : Nat} {W : List Nat} (h : gl P f vals' pre v post n m W) (ex : List (Nat × aX)) (hv : ∀ σ : aB, (∀ p ∈ ex, σ p.1 = some p.2) → iZ σ vals vals') : gl P f vals (pre ++ ex) v post n m W :=
  ⟨h.le, h.dom, fun id hid => by rw [List.map_append]; exact List.mem_append_left _ (h.sub id hid), h.cov, fun σ hp =>
    bY.sees (h.run σ fun p hq => hp p (List.mem_append_left _ hq)) (hv σ fun p hq => hp p (List.mem_append_right _ hq))⟩
end Go.AM
end
section
set_option linter.unusedVariables false
set_option linter.unusedSimpArgs false
namespace Go.Proofs
open Go.RowKit Go.Lib Go.Sort
theorem wQ (x : Int) (W : World) : Calls Try.prog 136 #[.int .u16 x] W fun e w' => e = .returned (.bool false) ∧ w' = W := by
  go_enter Try.func136, Try.ntmps136
  go_wp2
  go_ret
  exact ⟨rfl, rfl⟩
theorem wR (x y : Int) (W : World) : Calls Try.prog 123 #[.int .u16 x, .int .u16 y] W fun e w' => e = .returned (.int .i64 (AM.dA x y)) ∧ w' = W := by
  have hn := fun z => wQ z W
  unfold AM.dA
  go_enter Try.func123, Try.ntmps123
  go_wp2_with (first | (go_at_call 136; refine (hn _).mono ?_; rintro e w' ⟨rfl, rfl⟩))
  all_goals (go_ret; first | exact ⟨rfl, rfl⟩ | (refine ⟨?_, rfl⟩; congr 2; split <;> first | omega | (split <;> omega) | rfl))
theorem ss (W : World) (n m : Nat) (os : Array Obj) : (grow (W.drewN n) os).drewN m = grow (W.drewN (n + m)) os := by
  rw [← World.drewN_drewN]; rfl
theorem Aside.intro {p : Prop} (h : p) : Aside p := h
def fR (x : Go.AM.A8 Int) : List Value := x.l.map (Value.int .u16)
theorem wS (x y : Go.AM.A8 Int) (W : World) : Calls Try.prog 112 #[.agg (fR x).toArray, .agg (fR y).toArray] W fun e w' => e = .returned (.int .i64 (AM.di x y)) ∧ ∃ q os', w' = grow (W.drewN q) os' := by
  have hc := fun a b w => wR a b w
  have mixed : Try.prog.follows .mixedOrders = true := by kernel_rfl
  obtain ⟨os, hos⟩ : ∃ os : Array Obj, os = #[Obj.cells (List.map (Value.int IntKind.u16) x.l).toArray 26, Obj.cells (List.map (Value.int IntKind.u16) y.l).toArray 26] := ⟨_, rfl⟩
  have hW : (W.alloc (Obj.cells (List.map (Value.int IntKind.u16) x.l).toArray 26)).alloc (Obj.cells (List.map (Value.int IntKind.u16) y.l).toArray 26) = grow W os := by
    rw [alloc_eq_grow, alloc_eq_grow, grow_grow, hos]; rfl
  have hx : ∀ n i, i < 8 → (grow (W.drewN n) os).cell? ⟨W.heap.size, i, none⟩ = some (.int .u16 (x.l.getD i 0)) := by
    intro n i hi
    rw [hos]
    have : i = 0 ∨ i = 1 ∨ i = 2 ∨ i = 3 ∨ i = 4 ∨ i = 5 ∨ i = 6 ∨ i = 7 := by omega
    rcases this with rfl | rfl | rfl | rfl | rfl | rfl | rfl | rfl <;> simp [World.cell?, grow, World.drewN, Go.AM.A8.l]
  have hy : ∀ n i, i < 8 → (grow (W.drewN n) os).cell? ⟨W.heap.size + 1, i, none⟩ = some (.int .u16 (y.l.getD i 0)) := by
    intro n i hi
    rw [hos]
    have : i = 0 ∨ i = 1 ∨ i = 2 ∨ i = 3 ∨ i = 4 ∨ i = 5 ∨ i = 6 ∨ i = 7 := by omega
    rcases this with rfl | rfl | rfl | rfl | rfl | rfl | rfl | rfl <;> simp [World.cell?, grow, World.drewN, Go.AM.A8.l]
  replace hx := Aside.intro hx
  replace hy := Aside.intro hy
  clear hos
  unfold AM.di fR
  go_enter Try.func112, Try.ntmps112
  go_wp2_with fail
  generalize (List.map (Value.int IntKind.u16) x.l).toArray = X0
  generalize (List.map (Value.int IntKind.u16) y.l).toArray = Y0
  clear hW
  go_loopg [7] 8 (fun g v wr => ∃ (i n : Nat), v = .int .i64 i ∧ i + g = 8 ∧ wr = grow (W.drewN n) os ∧ Aside (AM.d9 x.l y.l 8 0 = AM.d9 x.l y.l g i))
  case atStart => exact ⟨0, 0, rfl, rfl, rfl, rfl⟩
  case round =>
    obtain ⟨i, n, rfl, hg, rfl, hh⟩ := hrel
    have hhW := hx.out n
    have hhY := hy.out n
    generalize hW2 : grow (W.drewN n) os = W2 at hhW hhY ⊢
    replace hW2 := Aside.intro hW2
    by_cases hi : i < 8
    · have hx1 := hhW i hi
      have hy1 := hhY i hi
      obtain ⟨g, rfl⟩ : ∃ g, gk = g + 1 := ⟨gk - 1, by omega⟩
      unfold AM.d9 at hh
      generalize x.l.getD i 0 = a at hx1 hh
      generalize y.l.getD i 0 = b at hy1 hh
      replace hh : Aside (AM.d9 x.l y.l 8 0 = if AM.dA a b ≠ 0 then AM.dA a b else AM.d9 x.l y.l g (i + 1)) := hh
      have hi1 : (i : Int) < 8 := by omega
      clear hhW hhY
      go_wp2_with fail
      go_quiet (first | (go_at_call 123; exact Calls.quiet_of_same (hc _ _ _)))
      generalize AM.dA a b = c at hh ⊢
      by_cases hc0 : c = 0
      · go_wp2
        go_roundg g
        case measure => omega
        case rel => exact ⟨i + 1, n + nq, by go_num, by omega, by rw [← hW2.out]; exact ss _ _ _ _, Aside.intro (hh.out.trans (by rw [if_neg (by simp [hc0])]))⟩
      · go_wp2
        go_ret
        refine ⟨?_, n + nq, os, by rw [← hW2.out]; exact ss _ _ _ _⟩
        rw [hh.out, if_pos hc0]; rfl
    · obtain rfl : gk = 0 := by omega
      go_wp2
      go_ret
      refine ⟨?_, n, os, hW2.out.symm⟩
      rw [hh.out]; rfl
end Go.Proofs
end
section
set_option linter.unusedVariables false
set_option linter.unusedSimpArgs false
namespace Go.Proofs
open Go.RowKit Go.Lib Go.Sort
theorem wT (p : Option Addr) (cap : Nat) (fv : Value) (w : World) : Calls Try.prog 126 #[.slice p 0 cap, .int .i64 0, .int .i64 0, fv] w fun e w' => e = .returned (.tuple #[]) ∧ w' = w := by
  go_enter Try.func126, Try.ntmps126
  go_wp2
  refine wp_loop_rounds 1 ?_
  rw [rounds_succ]
  go_wp2
  go_end0
  exact ⟨rfl, rfl⟩
theorem wU (p : Option Addr) (cap : Nat) (dR : Int) (fv : Value) (w : World) : Calls Try.prog 121 #[.slice p 0 cap, .int .i64 0, .int .i64 0, .int .i64 dR, fv] w fun e w' => e = .returned (.tuple #[]) ∧ w' = w := by
  have hi := fun W => wT p cap fv W
  go_enter Try.func121, Try.ntmps121
  go_wp2
  refine wp_loop_rounds 1 ?_
  rw [rounds_succ]
  go_wp2_with (go_at_call 126; refine (hi _).mono ?_; rintro e w' ⟨rfl, rfl⟩)
  (try simp only [Exit.inBlock, Exit.then]); refine bodyPost_ret (results_none rfl _ _ _) rfl ?_
  exact ⟨rfl, rfl⟩
theorem wV (p : Option Addr) (cap : Nat) (fv : Value) (w : World) (hl : ∀ W, Calls Try.prog 122 #[.int .u64 0] W fun e w' => (∃ l : Int, e = .returned (.int .i64 l)) ∧ w' = W) : Calls Try.prog 111 #[.slice p 0 cap, fv] w fun e w' => e = .returned (.tuple #[]) ∧ w' = w := by
  have hp := fun dR W => wU p cap dR fv W
  go_enter Try.func111, Try.ntmps111
  go_wp2_with (first | (go_at_call 122; refine (hl _).mono ?_; rintro e w' ⟨⟨l, rfl⟩, rfl⟩) | (go_at_call 121; refine (hp _ _).mono ?_; rintro e w' ⟨rfl, rfl⟩))
  go_end0
  exact ⟨rfl, rfl⟩
end Go.Proofs
end
section
set_option linter.unusedVariables false
set_option linter.unusedSectionVars false
namespace Go.Proofs
open Go.Shelf Go.RowKit Go.Lib
variable {P : Program} {ρ : Ren}
end Go.Proofs
end
section
set_option linter.unusedVariables false
set_option linter.unusedSectionVars false
set_option linter.unusedSimpArgs false
namespace Go.AM
open Go Go.RowKit Go.Proofs
variable [Glob]
variable {P : Program} {ρ : Shelf.Ren}
theorem aE.loc_inv {μ : Nat → Option bn} {O : Nat → Nat → Prop} {w : World} {id off len : Nat} {u : Value} (h : aE μ O w (.loc id off len) u) :
    (len = 0 ∧ ∃ a, u = .slice a 0 0 ∧ μ id ≠ none) ∨ ∃ b k cap, u = .slice (some ⟨b, off * ap k, none⟩) len cap ∧ μ id = some (.at b k) ∧ len ≤ cap ∧ cap ≤ maxLen ∧ gL w b ((off + cap) * ap k) := by
  cases h with
  | loc0 _ _ a h => exact .inl ⟨rfl, a, rfl, h⟩
  | loc _ _ _ b k cap h1 h2 h3 h4 => exact .inr ⟨b, k, cap, rfl, h1, h2, h3, h4⟩
end Go.AM
end
section
set_option linter.unusedVariables false
set_option linter.unusedSectionVars false
set_option linter.unusedSimpArgs false
namespace Go.AM
open Go Go.RowKit Go.Proofs Go.Sort
variable [Glob]
theorem su (x : A8 Int) : (eA8 (D.int .u16) x).cells = x.l.map (D.int .u16) := rfl
theorem kf (x : A8 Int) : x.l.length = 8 := rfl
theorem sv (x : A8 Int) (i : Nat) (h : i < 8) : (fR x)[i]! = .int .u16 (x.l.getD i 0) := by
  have : i < (x.l.map (Value.int .u16)).length := by simpa [kf] using h
  unfold fR
  rw [getElem!_pos (x.l.map (Value.int .u16)) i this, List.getElem_map, List.getD_eq_getElem?_getD, bV (by simpa [kf] using h)]
  rfl
theorem wW {w : World} {b : Nat} {c : Array Value} {ty : TypeId} {fr : Nat × Nat} (f : Array Value → Array Value) (h : w.heap[b]? = some (.cells c ty fr)) : mapBlock w b f = cC w b (f c) := by
  unfold mapBlock cC
  congr 1
  apply Array.ext_getElem?
  intro i
  simp only [Array.getElem?_modify]
  by_cases e : b = i
  · subst e; simp [h, onCells]
  · simp [e]
theorem wX {d d' : Array (A8 Int)} (h : PermIn 0 d.size d d') : d'.toList.Perm d.toList := by
  obtain ⟨h1, _, h3⟩ := h
  have e1 : d'.extract 0 d.size = d' := by rw [← h1]; simp
  have e2 : d.extract 0 d.size = d := by simp
  rw [e1, e2] at h3
  exact h3
theorem wY {d : Array (A8 Int)} (h : SortedIn (ltOf di) 0 d.size d) : gI d.toList := by
  unfold gI
  rw [List.pairwise_iff_getElem]
  intro i j hi hj hij
  have hi' : i < d.size := by simpa using hi
  have hj' : j < d.size := by simpa using hj
  have := h i j (Nat.zero_le _) hij hj'
  rw [getElem!_pos d j hj', getElem!_pos d i hi'] at this
  have := of_decide_eq_false this
  have k := gX d[j] d[i]
  simp only [Array.getElem_toList]
  omega
theorem wZ : SWO (ltOf di) where
  irrefl x := by unfold ltOf; rw [nh]; decide
  trans x y z h k := by
    have h := of_decide_eq_true h
    have k := of_decide_eq_true k
    obtain ⟨h1, h2⟩ := ni (x := x) (y := y) (z := z) (by omega) (by omega)
    refine decide_eq_true ?_
    by_cases e : di x z = 0
    · have := (h2 e).1; omega
    · omega
  ntrans x y z h k := by
    have h := of_decide_eq_false h
    have k := of_decide_eq_false k
    have a1 := gX x y
    have a2 := gX y z
    have a3 := gX x z
    obtain ⟨h1, _⟩ := ni (x := z) (y := y) (z := x) (by omega) (by omega)
    exact decide_eq_false (by omega)
def sw : Shelf.Ren := ⟨fun n => if n = 6 then 111 else if n = 14 then 121 else if n = 15 then 122 else if n = 20 then 126 else if n = 21 then 127 else if n = 22 then 128 else if n = 23 then 129 else if n = 24 then 130 else if n = 25 then 131 else if n = 26 then 132 else if n = 27 then 133 else if n = 28 then 134 else if n = 29 then 135 else if n = 46 then 138 else if n = 47 then 139 else if n = 48 then 140 else if n = 49 then 141 else if n = 50 then 142 else if n = 57 then 152 else n, fun t => if t = 0 then 0 else if t = 3 then 3 else if t = 4 then 4 else if t = 5 then 5 else if t = 9 then 9 else if t = 22 then 33 else if t = 24 then 26 else if t = 25 then 131 else if t = 39 then 176 else if t = 45 then 181 else if t = 46 then 182 else if t = 50 then 69 else if t = 53 then 188 else if t = 55 then 190 else if t = 66 then 193 else if t = 70 then 197 else if t = 76 then 205 else if t = 77 then 162 else t, fun x => x⟩
set_option maxRecDepth 100000 in
theorem sx : SlLaysF0.n6 Try.prog sw where
  mixed := by kernel_rfl
  f6 := ⟨Try.f111.name, by kernel_rfl, by kernel_rfl⟩
  f14 := ⟨Try.f121.name, by kernel_rfl, by kernel_rfl⟩
  f15 := by kernel_rfl
  f20 := ⟨Try.f126.name, by kernel_rfl, by kernel_rfl⟩
  f21 := ⟨Try.f127.name, by kernel_rfl, by kernel_rfl⟩
  f22 := ⟨Try.f128.name, by kernel_rfl, by kernel_rfl⟩
  f23 := ⟨Try.f129.name, by kernel_rfl, by kernel_rfl⟩
  f24 := ⟨Try.f130.name, by kernel_rfl, by kernel_rfl⟩
  f25 := ⟨Try.f131.name, by kernel_rfl, by kernel_rfl⟩
  f26 := ⟨Try.f132.name, by kernel_rfl, by kernel_rfl⟩
  f27 := ⟨Try.f133.name, by kernel_rfl, by kernel_rfl⟩
  f28 := by kernel_rfl
  f29 := by kernel_rfl
  f46 := ⟨Try.f138.name, by kernel_rfl, by kernel_rfl⟩
  f47 := by kernel_rfl
  f48 := by kernel_rfl
  f49 := ⟨Try.f141.name, by kernel_rfl, by kernel_rfl⟩
  f50 := ⟨Try.f142.name, by kernel_rfl, by kernel_rfl⟩
  f57 := ⟨Try.f152.name, by kernel_rfl, by kernel_rfl⟩
  t0 := Try.underlying0
  a0 := Try.isAgg0
  z0 := Try.sizeOf0
  v0 := Try.zeroValue0
  t3 := Try.underlying3
  a3 := Try.isAgg3
  z3 := Try.sizeOf3
  v3 := Try.zeroValue3
  t4 := Try.underlying4
  a4 := Try.isAgg4
  z4 := Try.sizeOf4
  v4 := Try.zeroValue4
  t5 := Try.underlying5
  a5 := Try.isAgg5
  z5 := Try.sizeOf5
  v5 := Try.zeroValue5
  t9 := Try.underlying9
  a9 := Try.isAgg9
  z9 := Try.sizeOf9
  v9 := Try.zeroValue9
  t22 := Try.underlying33
  a22 := Try.isAgg33
  z22 := Try.sizeOf33
  v22 := Try.zeroValue33
  t25 := Try.underlying131
  a25 := Try.isAgg131
  z25 := Try.sizeOf131
  v25 := Try.zeroValue131
  t39 := Try.underlying176
  a39 := Try.isAgg176
  z39 := Try.sizeOf176
  v39 := Try.zeroValue176
  t45 := Try.underlying181
  a45 := Try.isAgg181
  z45 := Try.sizeOf181
  v45 := Try.zeroValue181
  t46 := Try.underlying182
  a46 := Try.isAgg182
  z46 := Try.sizeOf182
  v46 := Try.zeroValue182
  t50 := Try.underlying69
  a50 := Try.isAgg69
  z50 := Try.sizeOf69
  v50 := Try.zeroValue69
  t53 := Try.underlying188
  a53 := Try.isAgg188
  z53 := Try.sizeOf188
  v53 := Try.zeroValue188
  t55 := Try.underlying190
  a55 := Try.isAgg190
  z55 := Try.sizeOf190
  v55 := Try.zeroValue190
  t66 := Try.underlying193
  a66 := Try.isAgg193
  z66 := Try.sizeOf193
  v66 := Try.zeroValue193
  t70 := Try.underlying197
  a70 := Try.isAgg197
  z70 := Try.sizeOf197
  v70 := Try.zeroValue197
  t76 := Try.underlying205
  a76 := Try.isAgg205
  z76 := Try.sizeOf205
  v76 := Try.zeroValue205
  t77 := Try.underlying162
  a77 := Try.isAgg162
  z77 := Try.sizeOf162
  v77 := Try.zeroValue162
theorem w4 (W : World) : Calls Try.prog 122 #[.int .u64 0] W fun e w' => (∃ l : Int, e = .returned (.int .i64 l)) ∧ w' = W :=
  (Any.bits_Len (SlLaysF0.n15.bits (P := Try.prog) (ρ := sw) { sx with }) 0 W (by omega) (by omega)).mono fun _ _ ⟨he, hw⟩ => ⟨⟨_, he⟩, hw⟩
set_option maxHeartbeats 1000000 in
set_option maxRecDepth 100000 in
theorem w5 (b cap : Nat) (l : List (A8 Int)) (w : World) (hH : HoldsK fR 8 w b 0 l.toArray) (hb : b < w.heap.size) (hl : l.length < 4611686018427387904) :
    Calls Try.prog 111 #[.slice (some ⟨b, 0, none⟩) l.length cap, .func (.func 112) #[] #[]] w fun e w' => e = .returned (.tuple #[]) ∧ ∃ n os, w' = sortWorldK fR 8 w b 0 n (du l).toArray os := by
  have eg : ∀ args w, (callFunc 112 args).run Try.prog w = .ok (.enter 112 args) w := enters_of Try.func112 (by kernel_rfl) rfl
  have h := AnyQ.slices_SortFunc sx 8 Try.isAgg26 Try.sizeOf26 fR (fun _ => rfl) (fun x v hv => by simp only [fR, List.mem_map] at hv; obtain ⟨n, _, rfl⟩ := hv; rfl) di wZ 112 #[] b 0 cap l.toArray w eg (fun m os dk _ x y => wS x y _) hH hb (by simpa using hl)
  have h : Calls Try.prog 111 _ _ _ := h
  simp only [List.size_toArray] at h
  refine h.mono fun e w' ⟨he, d', n, os, hp, hs, hw⟩ => ⟨he, n, os, ?_⟩
  have e1 : d'.toList = du l := by
    refine vr (by simpa using wX hp) (wY ?_)
    rw [hp.1]; simpa using hs
  rw [hw, ← e1]
end Go.AM
end
