import Derived.Test.YtkgegocfjalcbaaDoorCZ3
/-
  Layer 21: both looks at a history, step by step.
-/
set_option linter.unusedVariables false
set_option linter.unusedSimpArgs false
namespace Go.AM
open Go

/-- What both have after 'i' steps. -/
structure Both (paths : List api_Path) (h : List api_Step) (n i : Nat) (s : (List api_Path) × (List api_Step) × (List (List Int)) × (List Int) × (List (List Int)) × (List (Int × Int))) (t : (List (List Bool)) × (List Bool) × (List (List Bool))) (ws os : List Nat) (c : Nat) : Prop where
  paths_ : s.1 = paths
  h_ : s.2.1 = h
  sw : SL n s.2.2.1 ws
  ctrl : St n c s.2.2.2.1
  ahead : SL n s.2.2.2.2.1 os
  last : ∀ p : Int, 0 ≤ p → mget s.2.2.2.2.2 p = (lastH h p i).map fun (k : Nat) => (k : Int)
  have_ : t.1 = ws.map (bm n)
  rctrl : t.2.1 = bm n c
  out : t.2.2 = os.map (bm n)
  len : os.length = i
  wl : ws.length ≤ 100

theorem mget_mput' {κ ν : Type} [DecidableEq κ] (k k' : κ) (v : ν) : ∀ m : List (κ × ν), mget (mput m k v) k' = if k' = k then some v else mget m k'
  | [] => by simp [mput, mget]
  | p :: m => by
    simp only [mput]
    by_cases c : k = p.1
    · rw [if_pos c]
      simp only [mget]
      by_cases d : k' = k
      · rw [if_pos d, if_pos d]
      · rw [if_neg d, if_neg d, if_neg (by rw [← c]; exact d)]
    · rw [if_neg c]
      simp only [mget, mget_mput' k k' v m]
      by_cases d : k' = p.1
      · rw [if_pos d, if_pos d, if_neg (by rw [d]; exact fun e => c e.symm)]
      · rw [if_neg d, if_neg d]

theorem lastH_not {h : List api_Step} {p : Int} {i : Nat} (hh : isHop h p i = false) : lastH h p (i + 1) = lastH h p i := by simp [lastH, hh]

theorem st_zero (n : Nat) : St n 0 [] := ⟨Nat.two_pow_pos n, .inl ⟨rfl, rfl⟩⟩

theorem both_step {paths : List api_Path} {h : List api_Step} {n i : Nat} (hn : n ≤ 20) (hnh : h.length = n) (hi : i < n) {s : (List api_Path) × (List api_Step) × (List (List Int)) × (List Int) × (List (List Int)) × (List (Int × Int))} {t : (List (List Bool)) × (List Bool) × (List (List Bool))} {ws os : List Nat} {c : Nat} (hb : Both paths h n i s t ws os c) :
    (∃ s' t' ws' os' c', cause_look_b1 i s = some (.next s') ∧ ref21_Ahead_b2 paths h (bm n 0) i t = some (.next t') ∧ Both paths h n (i + 1) s' t' ws' os' c' ∧ ws'.length = ws.length) ∨
    (cause_look_b1 i s = some (.ret ([], false)) ∧ ref21_Ahead_b2 paths h (bm n 0) i t = some (.ret ([], false))) := by
  obtain ⟨s1, s2, sw, sc, sa, sl⟩ := s
  obtain ⟨t1, t2, t3⟩ := t
  obtain ⟨rfl, rfl, hsw, hsc, hsa, hsl, rfl, rfl, rfl, hlen, hwl⟩ := hb
  simp only at hsw hsc hsa hsl hnh ⊢
  have hil : i < s2.length := by omega
  have hx := List.getElem?_eq_getElem hil
  generalize s2[i] = x at hx
  unfold cause_look_b1 ref21_Ahead_b2
  simp only [cause_looker_one, gat_nat, hx, Option.bind_some, List.length_map]
  rw [hsw.1]
  by_cases cb : (x.Switch < 0 ∨ x.Switch ≥ ws.length ∨ x.Path < -1 ∨ x.Path ≥ s1.length)
  · right
    have hc1 : (decide (x.Switch < 0) || (decide (x.Switch ≥ (ws.length : Int)) || (decide (x.Path < -1) || decide (x.Path ≥ (s1.length : Int))))) = true := by simpa using cb
    rw [if_pos hc1, if_pos hc1]
    exact ⟨rfl, rfl⟩
  · have hc1 : ¬ ((decide (x.Switch < 0) || (decide (x.Switch ≥ (ws.length : Int)) || (decide (x.Path < -1) || decide (x.Path ≥ (s1.length : Int))))) = true) := by simpa using cb
    rw [if_neg hc1, if_neg hc1]
    obtain ⟨q, hq⟩ : ∃ q : Nat, x.Switch = q := ⟨x.Switch.toNat, by omega⟩
    have hqw : q < ws.length := by omega
    have hpl : x.Path < s1.length := by omega
    obtain ⟨sq, hsq, hstq⟩ := hsw.get hqw
    have hqs : q < sw.length := by rw [hsw.1]; exact hqw
    rw [hq]
    by_cases c2 : x.What = 2
    · -- a hop
      have e2 : (x.What == 2) = true := by simpa using c2
      have e5 : ¬ ((x.What == 5) = true) := by rw [c2]; decide
      have e6 : ¬ ((x.What == 6) = true) := by rw [c2]; decide
      rw [if_pos e2, if_neg e5, if_neg e6, if_pos e2]
      simp only [cause_looker_step, gat_nat, hx, Option.bind_some, hq, hsq]
      have hgw : gat (List.map (bm n) ws) (q : Int) = some (bm n ws[q]) := gmapat hqw
      rw [gat_nat] at hgw
      rw [hgw]
      simp only [Option.bind_some]
      obtain ⟨k1, ok1, g1, g2⟩ := earlier_ok (paths := s1) hx (by omega) hpl
      obtain ⟨k2, sm, ok2, f1, f2⟩ := from_ok (a0 := cause_looker.mk s1 s2 sw sc sa sl) hx hpl hsl
      rw [g1, f1]
      simp only [Option.bind_some]
      cases her : er s1 s2 x i with
      | bad =>
        simp only [her] at g2 f2
        subst g2; subst f2
        right
        exact ⟨rfl, rfl⟩
      | _ =>
        -- what is ahead of it
        have hY : ∃ y w, (if (sm && (x.Hop.Err == 0)) = true then (gat sa k2).bind fun x7 => (cause_steps_with sq x7).bind fun r8 => (cause_steps_and r8 k2).bind fun r9 => some r9 else some sq) = some y ∧ St n w y ∧ ok1 = true ∧ ok2 = true ∧
            (if ((decide (k1 ≥ 0)) && (x.Hop.Err == 0)) = true then (gat (os.map (bm n)) k1).bind fun x39 => (ref21_union (bm n ws[q]) x39).bind fun r40 => (gat r40 k1).bind fun x41 => (gput r40 k1 true).bind fun l42 => some l42 else some (bm n ws[q])) = some (bm n w) := by
          first
          | (simp only [her] at g2 f2
             obtain ⟨h1, h2⟩ := g2
             obtain ⟨h3, h4⟩ := f2
             subst h3
             refine ⟨sq, ws[q], by simp, hstq, h2, h4, ?_⟩
             rw [if_neg (by simp; omega)])
          | (rename_i k
             simp only [her] at g2 f2
             obtain ⟨h1, h2⟩ := g2
             obtain ⟨h3, h4, h5⟩ := f2
             subst h1; subst h3; subst h4
             have hki := er_lt her
             have hko : k < os.length := by omega
             by_cases ce : x.Hop.Err = 0
             · obtain ⟨sk, hsk, hstk⟩ := hsa.get hko
               obtain ⟨u, e1, hu⟩ := with_ok hn hstq hstk
               obtain ⟨u2, e3, hu2⟩ := and_ok (i := k) hn hu (by omega)
               refine ⟨u2, _, ?_, hu2, h2, h5, ?_⟩
               · rw [if_pos (by simp [ce]), gat_nat, hsk]
                 simp only [Option.bind_some, e1, e3]
               · rw [if_pos (by simp [ce]), gmapat hko]
                 simp only [Option.bind_some, union_ok (show n ≤ 1000 by omega)]
                 rw [gat_nat, bm_get (by omega)]
                 simp only [Option.bind_some]
                 rw [bm_gput (by omega)]; rfl
             · refine ⟨sq, ws[q], ?_, hstq, h2, h5, ?_⟩
               · rw [if_neg (by simp [ce])]
               · rw [if_neg (by simp [ce])])
        obtain ⟨y, w, y1, y2, y3, y4, y5⟩ := hY
        subst y3; subst y4
        left
        simp only [Bool.not_true, Bool.false_eq_true, if_false]
        rw [y1, y5]
        simp only [Option.bind_some]
        have hal : sa.length ≤ 20 := by rw [hsa.1]; omega
        rw [gapp_some (by simp; omega), gapp_some (by simp; omega)]
        simp only [Option.bind_some]
        obtain ⟨u, e1, hu⟩ := and_ok (i := i) hn y2 hi
        rw [e1, union_ok (by omega)]
        simp only [Option.bind_some, Nat.or_zero]
        rw [gput_nat' hqs, bm_get hi]
        simp only [Option.bind_some]
        rw [bm_gput hi]
        simp only [Option.bind_some]
        rw [gmapput hqw]
        simp only [Option.bind_some]
        have hgo : gapp (os.map (bm n)) [bm n w] = some (os.map (bm n) ++ [bm n w]) := gapp_some (by simp; omega)
        rw [hgo]
        simp only [Option.bind_some]
        by_cases cp : x.Path ≥ 0
        · rw [if_pos (by simpa using cp)]
          refine ⟨(s1, s2, sw.set q u, sc, sa ++ [y], mput sl x.Path (i : Int)), ((ws.set q (w ||| 2 ^ i)).map (bm n), bm n c, os.map (bm n) ++ [bm n w]), ws.set q (w ||| 2 ^ i), os ++ [w], c, rfl, rfl, ⟨rfl, rfl, hsw.set q hu, hsc, hsa.snoc y2, ?_, rfl, rfl, by simp, by simp [hlen], by simpa using hwl⟩, by simp⟩
          intro p hp
          simp only [mget_mput']
          by_cases cpp : p = x.Path
          · rw [if_pos cpp]
            have : isHop s2 p i = true := by unfold isHop; rw [hx]; simp [c2, cpp]
            simp [lastH, this]
          · rw [if_neg cpp, hsl p hp, lastH_not]
            unfold isHop; rw [hx]; simp [c2]; exact fun e => cpp e.symm
        · rw [if_neg (by simpa using cp)]
          refine ⟨(s1, s2, sw.set q u, sc, sa ++ [y], sl), ((ws.set q (w ||| 2 ^ i)).map (bm n), bm n c, os.map (bm n) ++ [bm n w]), ws.set q (w ||| 2 ^ i), os ++ [w], c, rfl, rfl, ⟨rfl, rfl, hsw.set q hu, hsc, hsa.snoc y2, ?_, rfl, rfl, by simp, by simp [hlen], by simpa using hwl⟩, by simp⟩
          intro p hp
          rw [hsl p hp, lastH_not]
          unfold isHop; rw [hx]; simp [c2]; intro e; omega
    · have e2 : ¬ ((x.What == 2) = true) := by simpa using c2
      have hnohop : ∀ p, isHop s2 p i = false := by intro p; unfold isHop; rw [hx]; simp [c2]
      have hal : sa.length ≤ 20 := by rw [hsa.1]; omega
      rw [if_neg e2, if_neg e2]
      have hgw : gat (List.map (bm n) ws) (q : Int) = some (bm n ws[q]) := gmapat hqw
      rw [gat_nat] at hgw
      simp only [gat_nat, hsq, hgw, Option.bind_some]
      by_cases c5 : x.What = 5
      · have e5 : (x.What == 5) = true := by simpa using c5
        rw [if_pos e5, if_pos e5]
        obtain ⟨u, e1, hu⟩ := with_ok hn hsc hstq
        rw [e1, union_ok (by omega)]
        simp only [Option.bind_some]
        rw [gapp_some (by simp; omega), gapp_some (by simp; omega)]
        left
        refine ⟨(s1, s2, sw, u, sa ++ [[]], sl), (ws.map (bm n), bm n (c ||| ws[q]), os.map (bm n) ++ [bm n 0]), ws, os ++ [0], c ||| ws[q], rfl, rfl, ⟨rfl, rfl, hsw, hu, hsa.snoc (st_zero n), fun p hp => ?_, rfl, rfl, by simp, by simp [hlen], hwl⟩, rfl⟩
        simp only
        rw [hsl p hp, lastH_not (hnohop p)]
      · have e5 : ¬ ((x.What == 5) = true) := by simpa using c5
        rw [if_neg e5, if_neg e5]
        by_cases c6 : x.What = 6
        · have e6 : (x.What == 6) = true := by simpa using c6
          rw [if_pos e6, if_pos e6]
          obtain ⟨u, e1, hu⟩ := with_ok hn hstq hsc
          rw [e1, union_ok (by omega)]
          simp only [Option.bind_some]
          rw [gput_nat' hqs, gmapput hqw]
          simp only [Option.bind_some]
          rw [gapp_some (by simp; omega), gapp_some (by simp; omega)]
          left
          refine ⟨(s1, s2, sw.set q u, sc, sa ++ [[]], sl), ((ws.set q (ws[q] ||| c)).map (bm n), bm n c, os.map (bm n) ++ [bm n 0]), ws.set q (ws[q] ||| c), os ++ [0], c, rfl, rfl, ⟨rfl, rfl, hsw.set q hu, hsc, hsa.snoc (st_zero n), fun p hp => ?_, rfl, rfl, by simp, by simp [hlen], by simpa using hwl⟩, by simp⟩
          simp only
          rw [hsl p hp, lastH_not (hnohop p)]
        · have e6 : ¬ ((x.What == 6) = true) := by simpa using c6
          rw [if_neg e6, if_neg e6]
          right
          exact ⟨rfl, rfl⟩
end Go.AM
