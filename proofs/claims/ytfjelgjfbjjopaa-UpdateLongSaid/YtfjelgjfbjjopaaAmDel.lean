import Derived.Test.YtfjelgjfbjjopaaUP3
import Derived.Test.YtfjelgjfbjjopaaUlT
import Derived.Shelf.SlLaysE0
import Derived.Shelf.RegionOpenPlain
import Derived.WalkKit
import Derived.Deep.LoopGhost
import Derived.Deep.RegionLaw
import Derived.Lib.Walk
import Derived.Sort.WalkB12
import Derived.Lib.SliceRun
import Derived.Deep.MidRow
/-  Several texts in one. -/
section
set_option linter.unusedVariables false
set_option linter.unusedSimpArgs false
namespace Go.AM
open Go
def gW (a : List al) (xs : List Nat) : Nat → List al
  | 0 => []
  | n + 1 => gW a xs n ++ (match a[n]? with | some r => if n ∈ xs then [r] else [] | none => [])
theorem rI {es : List bg} {j n : Nat} {r : al} {pre post : List al} (h : es[j]? = some (bg.mk (n : Int) true r)) (hn : pre.length = n) (hb : n ≤ 1000000) : hO es (j : Int) (pre ++ r :: post) = some (.next (pre ++ post)) := by
  unfold hO
  simp only [bV, h, Option.bind_some]
  have e1 : ((decide ((n : Int) < 0)) || (decide ((n : Int) > ((pre ++ r :: post).length : Int)))) = false := by simp; omega
  have e2 : ((n : Int) == ((pre ++ r :: post).length : Int)) = false := by simp; omega
  have e3 : (pre ++ r :: post)[n]? = some r := by rw [List.getElem?_append_right (by omega)]; simp [hn]
  rw [e1, e2, if_neg (by simp), if_neg (by simp), if_neg (by simp), e3]
  simp only [Option.bind_some, ob, decide_true, Bool.not_true, Bool.false_eq_true, if_false]
  unfold jc
  have w1 : IntKind.i64.wrap ((n : Int) + 1) = ((n + 1 : Nat) : Int) := by rw [eD (by omega) (by omega)]; omega
  rw [w1, if_pos ⟨by omega, by omega, by simp; omega⟩]
  simp only [Option.bind_some, Int.toNat_natCast]
  congr 2
  rw [List.take_append_of_le_length (by omega), ← hn, List.take_length, List.drop_append]
  simp
theorem rJ {j m : Nat} (h : j < m) : bq (j : Int) (m : Int) = (j : Int) :: bq ((j + 1 : Nat) : Int) (m : Int) := by
  obtain ⟨d, rfl⟩ : ∃ d, m = j + (d + 1) := ⟨m - j - 1, by omega⟩
  exact gS j d
theorem lu (es : List bg) (a : List al) (xs : List Nat) (ha : a.length ≤ 1000000) : ∀ (n : Nat) (tail : List al) (j : Nat), n ≤ a.length → (∀ q e, (cM a xs n)[q]? = some e → es[j + q]? = some e) →
    cG (hO es) (bq (j : Int) (es.length : Int)) (a.take n ++ tail) = cG (hO es) (bq ((j + (cM a xs n).length : Nat) : Int) (es.length : Int)) (gW a xs n ++ tail)
  | 0, tail, j, _, _ => by simp [cM, gW]
  | n + 1, tail, j, hn, he => by
    have hr : a[n]? = some (a[n]'(by omega)) := bt _
    generalize a[n]'(by omega) = r at hr
    have ht : a.take (n + 1) ++ tail = a.take n ++ r :: tail := by
      rw [List.take_add_one, hr]; simp
    rw [ht]
    unfold cM gW at *
    rw [hr] at he ⊢
    simp only at he ⊢
    by_cases e : n ∈ xs
    · rw [if_pos e] at he ⊢
      rw [if_pos e]
      rw [List.nil_append] at he ⊢
      rw [lu es a xs ha n (r :: tail) j (by omega) he]
      simp
    · rw [if_neg e] at he ⊢
      rw [if_neg e]
      have h0 : es[j]? = some (bg.mk (n : Int) true r) := he 0 _ rfl
      have hj : j < es.length := (List.getElem?_eq_some_iff.1 h0).1
      rw [rJ hj]
      simp only [cG]
      rw [rI h0 (by simp; omega) (by omega)]
      simp only [Option.bind_some]
      rw [lu es a xs ha n tail (j + 1) (by omega) fun q e hq => by
        have := he (q + 1) e (by simpa using hq)
        rwa [show j + (q + 1) = j + 1 + q by omega] at this]
      simp only [List.append_nil, List.cons_append, List.nil_append, List.length_cons]
      rw [show j + 1 + (cM a xs n).length = j + ((cM a xs n).length + 1) by omega]
end Go.AM
end
section
set_option linter.unusedVariables false
namespace Go.AM
open Go
theorem rK : j6 = some true := by decide +kernel
end Go.AM
end
section
set_option linter.unusedVariables false
set_option linter.unusedSimpArgs false
namespace Go.AM
open Go
theorem rL (A : List Int) (i k : Nat) : kp A i [] k = [] := by
  have := jH A i [] k
  rw [fz] at this
  exact List.length_eq_zero_iff.1 this
theorem rM (B : List Int) (i k : Nat) : kp [] i B k = [] := rfl
theorem ow (a : List al) : ∀ n, n ≤ a.length → (cM a [] n).length = n
  | 0, _ => rfl
  | n + 1, h => by
    unfold cM
    rw [bt (show n < a.length by omega)]
    simp [ow a n (by omega)]
theorem ox (a : List al) : ∀ n, n ≤ a.length → (d9 a [] n).length = n ∧ ∀ j, j < n → ∃ r, (d9 a [] n)[j]? = some (bg.mk (j : Int) false r)
  | 0, _ => ⟨rfl, fun j h => by omega⟩
  | n + 1, h => by
    obtain ⟨h1, h2⟩ := ox a n (by omega)
    unfold d9
    rw [bt (show n < a.length by omega)]
    simp only [List.not_mem_nil, if_false]
    refine ⟨by simp [h1], fun j hj => ?_⟩
    rcases Nat.lt_or_ge j n with h | h
    · rw [List.getElem?_append_left (by omega)]; exact h2 j h
    · obtain rfl : j = n := by omega
      rw [List.getElem?_append_right (by omega), h1]
      exact ⟨_, by simp; rfl⟩
theorem oy (a : List al) : ∀ n, gW a [] n = []
  | 0 => rfl
  | n + 1 => by
    unfold gW
    rw [oy a n]
    cases a[n]? <;> simp
theorem law_UpdateLong (n : Int) (hn : 0 ≤ n ∧ n < 256) : law34_UpdateLong n = some true := by
  unfold law34_UpdateLong
  rw [rK]
  simp only [Option.bind_some, Bool.not_true, Bool.false_eq_true, if_false]
  obtain ⟨m, hm, hml⟩ : ∃ m : Nat, IntKind.i64.wrap (990 + ((IntKind.i64.wrap n).tmod 21)) = (m : Int) ∧ m ≤ 1100 ∧ 1 ≤ m := by
    have e1 : IntKind.i64.wrap n = n := eD hn.1 (by omega)
    rw [e1]
    have h1 : 0 ≤ n.tmod 21 := Int.tmod_nonneg _ hn.1
    have h2 : n.tmod 21 < 21 := Int.tmod_lt_of_pos _ (by decide)
    rw [eD (by omega) (by omega)]
    exact ⟨(990 + n.tmod 21).toNat, by omega, by omega, by omega⟩
  rw [hm, iN _ _ (by omega)]
  simp only [Option.bind_some, List.length_replicate]
  obtain ⟨z, ez, hz⟩ := n7 j7 (fun _ l => l.length = m) m (List.replicate m (al.mk [] [])) (by simp) (fun j l hj hl => by
    unfold j7
    simp only [bV, bt (show j < l.length by omega), Option.bind_some, f5 _ (show j < l.length by omega)]
    exact ⟨_, rfl, by simpa using hl⟩)
  rw [ez]
  simp only [Option.bind_some]
  by_cases hbig : (m : Int) > 1000
  · have f1 : en z [] = some ([], 2) := by
      unfold en
      rw [iP]
      have : ¬ (z.length ≤ 1000 ∧ ([] : List al).length ≤ 1000) := by omega
      rw [decide_eq_false this]
      rfl
    have f2 : en [] z = some ([], 2) := by
      unfold en
      rw [iP]
      have : ¬ (([] : List al).length ≤ 1000 ∧ z.length ≤ 1000) := by omega
      rw [decide_eq_false this]
      rfl
    have f3 : fG z z = some 0 := by
      unfold fG
      rw [iP]
      have : ¬ (z.length ≤ 1000 ∧ z.length ≤ 1000) := by omega
      rw [decide_eq_false this]
      rfl
    rw [f1, f2]
    simp only [Option.bind_some, f3]
    rw [if_pos (by simpa using hbig)]
    rfl
  · have hm2 : m ≤ 1000 := by omega
    obtain ⟨K1, A1, B1, u1, f1, _⟩ := ov z [] (by omega) (by simp)
    obtain ⟨K2, A2, B2, u2, f2, _⟩ := ov [] z (by simp) (by omega)
    have hB1 : B1 = [] := by rw [u1.eb]; rfl
    have hA2 : A2 = [] := by rw [u2.ea]; rfl
    rw [hB1, rL] at f1
    rw [hA2, rM] at f2
    simp only [List.map_nil] at f1 f2
    rw [show d9 ([] : List al) [] ([] : List al).length = [] from rfl, List.append_nil, hz] at f1
    rw [show cM ([] : List al) [] ([] : List al).length = [] from rfl, List.nil_append, hz] at f2
    have l1 := ow z m (by omega)
    obtain ⟨l2, g2⟩ := ox z m (by omega)
    obtain ⟨r, hr⟩ := g2 (m - 1) (by omega)
    have fd : hP z (cM z [] m) = some ([], true) := by
      unfold hP jb
      rw [gU (by simp; omega)]
      simp only [Option.bind_some, List.nil_append]
      have := lu (cM z [] m) z [] (by omega) m [] 0 (by omega) (fun q e h => by rw [Nat.zero_add]; exact h)
      rw [show (bq 0 ((cM z [] m).length : Int)) = bq ((0 : Nat) : Int) ((cM z [] m).length : Int) from rfl]
      rw [List.append_nil, ← hz, List.take_length, hz, oy, Nat.zero_add, gT] at this
      rw [this]
      rfl
    rw [f1, f2]
    simp only [Option.bind_some, fd]
    rw [if_neg (by simpa using hbig)]
    have w1 : IntKind.i64.wrap ((m : Int) - 1) = ((m - 1 : Nat) : Int) := by rw [eD (by omega) (by omega)]; omega
    simp only [l1, l2, w1, bV, hr, Option.bind_some]
    simp
end Go.AM
end
section
set_option linter.unusedVariables false
set_option linter.unusedSectionVars false
namespace Go.Proofs
open Go.Shelf Go.RowKit Go.Lib
variable {P : Program} {ρ : Ren}
theorem rN (w : World) (t e ty : TypeId) (z : Value) (ht : P.underlying t = some (.slice e)) (hv : ∀ w, (zeroValue e).run P w = .ok z w) (b o n c : Nat) (zs : List Value) (hz : (Builtin.zeroCells z.cells n).toList = zs) (h1 : ∀ v ∈ zs, v.oneCell' = true) (hn : 0 < n)
    (hc : ∀ j, j < zs.length → (w.cell? ⟨b, o + j, none⟩).isSome = true) (hf : ∀ j, j < zs.length → w.frozen? ⟨b, o + j, none⟩ = false) :
    (Builtin.clear_ #[t] ty #[.slice (some ⟨b, o, none⟩) n c]).run P w = .ok (.tuple #[]) (w.setCells b o zs) := by
  have hst := run_storeCells_cells (P := P) b o zs 0 w (by simpa using hc) (by simpa using hf) h1
  simp only [Nat.add_zero] at hst
  obtain ⟨m, rfl⟩ : ∃ m, n = m + 1 := ⟨n - 1, by omega⟩
  simp [Builtin.clear_, run_underlying ht, hv, hz, hst]
set_option maxHeartbeats 4000000 in
set_option maxRecDepth 1000000 in
theorem rO (L : SlLaysE0.n45 P ρ) (k : Nat) (z23 : ∀ w, (Go.sizeOf (ρ.t 23)).run P w = .ok k w) (a : Option Addr) (n cap i : Nat) (w : World) (hcap : n ≤ cap) (hm : cap ≤ 9223372036854775807) (hi : i ≤ n) (ha : a = none → cap = 0) :
    Calls P (ρ.f 45) #[.slice a n cap, .int .i64 i, .int .i64 i] w fun e w' => e = .returned (.slice a n cap) ∧ w' = w := by
  have mixed := L.mixed; have t0 := L.t0; have a0 := L.a0; have z0 := L.z0; have v0 := L.v0; have t3 := L.t3; have a3 := L.a3; have z3 := L.z3; have v3 := L.v3; have t4 := L.t4; have a4 := L.a4; have z4 := L.z4; have v4 := L.v4; have t22 := L.t22; have a22 := L.a22; have z22 := L.z22; have v22 := L.v22
  obtain ⟨_, _, FG⟩ := L.f45
  cases a with
  | none =>
    obtain rfl := ha rfl
    obtain rfl : n = 0 := by omega
    obtain rfl : i = 0 := by omega
    go_enter FG, SlBodyN.n45_ntmps ρ
    go_wp2
    all_goals (go_ret; exact ⟨rfl, rfl⟩)
  | some a =>
    go_enter FG, SlBodyN.n45_ntmps ρ
    go_wp2
    all_goals (go_ret; exact ⟨rfl, rfl⟩)
set_option maxHeartbeats 4000000 in
set_option maxRecDepth 1000000 in
theorem rP (L : SlLaysE0.n45 P ρ) (k : Nat) (hk : 0 < k) (z23 : ∀ w, (Go.sizeOf (ρ.t 23)).run P w = .ok k w) (z : Value) (v23 : ∀ w, (zeroValue (ρ.t 23)).run P w = .ok z w) (i0 : TypeInfo) (hi0 : P.info? (ρ.t 23) = some i0) (hz1 : i0.size = k)
    (blk off n cap i j : Nat) (w : World) (news zs : List Value) (hlen : news.length = (n - j) * k) (hzs : (Builtin.zeroCells z.cells (j - i)).toList = zs) (hzl : zs.length = (j - i) * k) (hzo : ∀ v ∈ zs, v.oneCell' = true)
    (hnews : ∀ t u, news[t]? = some u → w.cell? ⟨blk, off + j * k + t, none⟩ = some u) (hone : ∀ u ∈ news, u.oneCell' = true)
    (hsome : ∀ t, t < n * k → (w.cell? ⟨blk, off + t, none⟩).isSome = true) (hfr : ∀ t, t < n * k → w.frozen? ⟨blk, off + t, none⟩ = false)
    (hcap : n ≤ cap) (hm : cap ≤ 9223372036854775807) (hij : i < j) (hj : j ≤ n) :
    Calls P (ρ.f 45) #[.slice (some ⟨blk, off, none⟩) n cap, .int .i64 i, .int .i64 j] w fun e w' => e = .returned (.slice (some ⟨blk, off, none⟩) (i + (n - j)) cap) ∧ w' = (w.drew.setCells blk (off + i * k) news).setCells blk (off + (i + (n - j)) * k) zs := by
  have mixed := L.mixed; have t0 := L.t0; have a0 := L.a0; have z0 := L.z0; have v0 := L.v0; have t3 := L.t3; have a3 := L.a3; have z3 := L.z3; have v3 := L.v3; have t4 := L.t4; have a4 := L.a4; have z4 := L.z4; have v4 := L.v4; have t22 := L.t22; have a22 := L.a22; have z22 := L.z22; have v22 := L.v22
  obtain ⟨A, hA, hsrc⟩ : ∃ A : Addr, (if cap = j then some (⟨blk, off, none⟩ : Addr) else some ⟨blk, off + j * k, none⟩) = some A ∧ Hid (∀ t u, news[t]? = some u → w.drew.cell? (A.add t) = some u) := by
    by_cases h : cap = j
    · refine ⟨⟨blk, off, none⟩, by simp [h], fun t u hu => ?_⟩
      have h0 : news.length = 0 := by rw [hlen, show n - j = 0 by omega]; simp
      rw [List.length_eq_zero_iff.1 h0] at hu
      simp at hu
    · refine ⟨⟨blk, off + j * k, none⟩, by simp [h], fun t u hu => ?_⟩
      rw [Addr.add_lit]
      exact hnews t u hu
  have hmul : (n - j) * k + i * k ≤ n * k := by rw [← Nat.add_mul]; exact Nat.mul_le_mul_right _ (by omega)
  have hmul2 : (i + (n - j)) * k + (j - i) * k = n * k := by rw [← Nat.add_mul]; congr 1; omega
  have s1 : Hid (news.length = (n - j) * k) := hlen
  have s2 : Hid (∀ u ∈ news, u.oneCell' = true) := hone
  have s3 : Hid (∀ t, t < news.length → (w.drew.cell? ⟨blk, off + i * k + t, none⟩).isSome = true ∧ w.drew.frozen? ⟨blk, off + i * k + t, none⟩ = false) := by
    intro t ht
    rw [hlen] at ht
    rw [Nat.add_assoc]
    exact ⟨hsome (i * k + t) (by omega), hfr (i * k + t) (by omega)⟩
  obtain ⟨W1, hW1⟩ : ∃ W1, W1 = w.drew.setCells blk (off + i * k) news := ⟨_, rfl⟩
  have hcl : ∀ ty, (Builtin.clear_ #[ρ.t 22] ty #[.slice (some ⟨blk, off + (i + (n - j)) * k, none⟩) (n - (i + (n - j))) (cap - (i + (n - j)))]).run P W1 = .ok (.tuple #[]) (W1.setCells blk (off + (i + (n - j)) * k) zs) := by
    intro ty
    refine rN W1 _ _ ty z t22 v23 blk _ _ _ zs (by rw [show n - (i + (n - j)) = j - i by omega]; exact hzs) hzo (by omega) (fun t ht => ?_) (fun t ht => ?_)
    · rw [hW1]
      refine World.isSome_setCells _ _ _ _ _ ?_
      rw [Nat.add_assoc]
      exact hsome _ (by omega)
    · rw [hW1, World.frozen?_setCells, Nat.add_assoc]
      exact hfr _ (by omega)
  have hW : Hid (W1 = w.drew.setCells blk (off + i * k) news) := hW1
  have hic : i ≤ cap := by omega
  have hjc : j ≤ cap := by omega
  clear hW1 hnews hsome hfr hone hzo hlen hzs hzl hmul hmul2
  obtain ⟨_, _, FG⟩ := L.f45
  go_enter FG, SlBodyN.n45_ntmps ρ
  go_wp2_with fail
  go_region_law_o (refine step_append_room rfl (.tmp 22) (.tmp 25) (ρ.t 22) rfl (ρ.t 23) i0 k t22 hi0 hz1 blk off i cap (by simp [Act.eval, Act.put]) A (n - j) (cap - j) news (by simp [Act.eval, Act.put]) s1.out hsrc.out s2.out (by omega) s3.out ?_; rw [← hW.out])
  go_wp2
  go_ret
  exact ⟨rfl, by rw [hW.out]⟩
end Go.Proofs
end
