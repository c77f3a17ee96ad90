/- Equality of geometries, as the program asks it: lists of pairs, of ints. -/
import Derived.Test.YtegkdkilbnighaaGSp2
import Derived.Test.YtegkdkilbnighaaGSp3
import Derived.Deep.RegionHeld3
import Derived.Test.YtegkdkilbnighaaGSp5
import Derived.Test.YtegkdkilbnighaaWktK

set_option linter.unusedVariables false
set_option linter.unusedSimpArgs false
namespace Go.Proofs.Ytegkdkilbnighaa
open Go.RowKit Go.Rg
attribute [local go_sem] Oper.semAt_some

theorem getD_ints (l : List Int) (j : Nat) (h : j < l.length) : (intsZ l)[j]? = some (.int .i64 (l.getD j 0)) := by
  unfold intsZ
  rw [List.getElem?_map, List.getElem?_eq_getElem h, List.getD_eq_getElem?_getD, List.getElem?_eq_getElem h]; rfl
theorem eqInts_any2 (v u : Value) (l m : List Int) (w : World) (h : RdC w v l.length (intsZ l)) (h2 : RdC w u m.length (intsZ m)) :
    Calls Try.prog 35 #[v, u] w fun e w' => e = .returned (.bool (decide (l = m))) ∧ Below w.heap.size w w' := by
  obtain ⟨a1, c1, rfl, hm1, ho1⟩ := h
  obtain ⟨a2, c2, rfl, hm2, ho2⟩ := h2
  have hm1' : l.length ≤ 9223372036854775807 := hm1
  have hm2' : m.length ≤ 9223372036854775807 := hm2
  by_cases hl : l.length = m.length
  · rcases Nat.eq_zero_or_pos l.length with h0 | h0
    · have e1 : l = [] := List.eq_nil_of_length_eq_zero h0
      have e2 : m = [] := List.eq_nil_of_length_eq_zero (by omega)
      subst e1; subst e2
      exact (Try.slices_Equal_int_empty a1 a2 c1 0 c2 w (by decide)).mono fun e w' ⟨h1, h2⟩ => ⟨h1, h2 ▸ Below.refl _ _⟩
    · obtain ⟨g1, o1, rfl, _, _, _, q1⟩ := ho1 (fun e => by have := congrArg List.length e; unfold intsZ at this; rw [List.length_map] at this; simp only [List.length_nil] at this; omega)
      obtain ⟨g2, o2, rfl, _, _, _, q2⟩ := ho2 (fun e => by have := congrArg List.length e; unfold intsZ at this; rw [List.length_map] at this; simp only [List.length_nil] at this; omega)
      have := Try.slices_Equal_int g1 o1 l.length c1 g2 o2 m.length c2 l m w (Nat.le_refl _) (Nat.le_refl _) hm1' hm2' (fun j hj => q1 _ _ (getD_ints l j hj)) (fun j hj => q2 _ _ (getD_ints m j hj))
      refine this.mono fun e w' ⟨h1, q, h2⟩ => ⟨?_, h2 ▸ below_drewN _ _ _⟩
      rw [h1, List.take_length, List.take_length]
      congr 2
      rw [Bool.eq_iff_iff]; simp
  · exact (Try.slices_Equal_int_lens a1 a2 l.length c1 m.length c2 w hl).mono fun e w' ⟨h1, h2⟩ => ⟨by rw [h1]; congr 2; rw [eq_comm, decide_eq_false_iff_not]; exact fun e => hl (by rw [e]), h2 ▸ Below.refl _ _⟩

set_option maxRecDepth 100000 in
set_option maxHeartbeats 4000000 in
theorem eqPairs_any2 (v u : Value) (l m : List Wk.Pr) (w : World) (h : RdC w v l.length (flatP l)) (h2 : RdC w u m.length (flatP m)) :
    Calls Try.prog 34 #[v, u] w fun e w' => e = .returned (.bool (decide (l = m))) ∧ Below w.heap.size w w' := by
  obtain ⟨a1, c1, rfl, hm1, ho1⟩ := h
  obtain ⟨a2, c2, rfl, hm2, ho2⟩ := h2
  have Ho1 := Lib.hid ho1
  have Ho2 := Lib.hid ho2
  unfold maxLen at hm1 hm2
  obtain ⟨n, hn⟩ : ∃ n, n = l.length := ⟨_, rfl⟩
  obtain ⟨n2, hn2⟩ : ∃ n, n = m.length := ⟨_, rfl⟩
  rw [← hn] at hm1 ⊢
  rw [← hn2] at hm2 ⊢
  have Hn := Lib.hid hn
  have Hn2 := Lib.hid hn2
  clear ho1 ho2 hn hn2
  go_enter Try.func34, Try.ntmps34
  by_cases hnn : n = n2
  · subst hnn
    go_wp2_with fail
    go_loopg [13] n (fun q s13 wx => ∃ i : Nat, i + q = n ∧ s13 = .int .i64 (i : Int) ∧ Hid (l.take i = m.take i) ∧ Hid (Below w.heap.size w wx))
    case atStart => exact ⟨0, by omega, rfl, rfl, Below.refl _ _⟩
    case round =>
      obtain ⟨i, hiq, rfl, Hi, Hb⟩ := hrel
      cases gk with
      | zero =>
        have hin : i = n := by omega
        subst hin
        have Heq : Hid (l = m) := by
          have := Hi.out
          rw [Hn.out, List.take_length, ← Hn.out, Hn2.out, List.take_length] at this
          exact this
        go_wp2_with fail
        try rw [Exit.noGoto_ret]
        go_ret
        exact ⟨by rw [Heq.out]; simp, Hb.out⟩
      | succ q =>
        have hin : i < n := by omega
        obtain ⟨p, hp⟩ : ∃ p, l[i]? = some p := ⟨_, List.getElem?_eq_getElem (by rw [← Hn.out]; exact hin)⟩
        obtain ⟨p2, hp2⟩ : ∃ p, m[i]? = some p := ⟨_, List.getElem?_eq_getElem (by rw [← Hn2.out]; exact hin)⟩
        obtain ⟨f1, f2⟩ := flatP_at2 _ _ _ hp
        obtain ⟨f3, f4⟩ := flatP_at2 _ _ _ hp2
        obtain ⟨g1, o1, rfl, q1, q2, q3, q4⟩ := Ho1.out (fun e => by rw [e] at f1; cases f1)
        obtain ⟨g2, o2, rfl, r1, r2, r3, r4⟩ := Ho2.out (fun e => by rw [e] at f3; cases f3)
        rw [← Hn.out] at q1
        rw [← Hn2.out] at r1
        have y1 : wr.cell? ⟨g1, o1 + i * 2, none⟩ = some (.string ⟨p.1.toArray⟩) := keepc Hb.out q3 (q4 _ _ f1)
        have y2 : wr.cell? ⟨g1, o1 + i * 2 + 1, none⟩ = some (.string ⟨p.2.toArray⟩) := keepc Hb.out q3 (q4 _ _ f2)
        have z1 : wr.cell? ⟨g2, o2 + i * 2, none⟩ = some (.string ⟨p2.1.toArray⟩) := keepc Hb.out r3 (r4 _ _ f3)
        have z2 : wr.cell? ⟨g2, o2 + i * 2 + 1, none⟩ = some (.string ⟨p2.2.toArray⟩) := keepc Hb.out r3 (r4 _ _ f4)
        unfold maxLen at q2 r2
        have Hp := Lib.hid hp
        have Hp2 := Lib.hid hp2
        clear q4 r4 f1 f2 f3 f4 hp hp2
        obtain ⟨A1, hA1⟩ : ∃ A : ByteArray, A = ⟨p.1.toArray⟩ := ⟨_, rfl⟩
        obtain ⟨A2, hA2⟩ : ∃ A : ByteArray, A = ⟨p.2.toArray⟩ := ⟨_, rfl⟩
        obtain ⟨C1, hC1⟩ : ∃ A : ByteArray, A = ⟨p2.1.toArray⟩ := ⟨_, rfl⟩
        obtain ⟨C2, hC2⟩ : ∃ A : ByteArray, A = ⟨p2.2.toArray⟩ := ⟨_, rfl⟩
        have d1 : (A1.toList == C1.toList) = decide (p.1 = p2.1) := by rw [Lib.toList_data, Lib.toList_data, hA1, hC1, Bool.eq_iff_iff]; simp
        have d2 : (A2.toList == C2.toList) = decide (p.2 = p2.2) := by rw [Lib.toList_data, Lib.toList_data, hA2, hC2, Bool.eq_iff_iff]; simp
        rw [← hA1] at y1
        rw [← hA2] at y2
        rw [← hC1] at z1
        rw [← hC2] at z2
        have D1 := Lib.hid d1
        have D2 := Lib.hid d2
        clear hA1 hA2 hC1 hC2 d1 d2
        by_cases he : p = p2
        · subst he
          have e1 : (A1.toList == C1.toList) = true := by rw [D1.out]; simp
          have e2 : (A2.toList == C2.toList) = true := by rw [D2.out]; simp
          go_wp2_with fail
          go_quiet (fail)
          go_wp2_with fail
          go_roundg q
          case measure => omega
          case rel => exact ⟨i + 1, by omega, by first | rfl | simp, by unfold Hid; rw [List.take_add_one, List.take_add_one, Hi.out, Hp.out, Hp2.out], Hb.out.trans (below_drewN _ _ _)⟩
        · have hno : ¬ l = m := fun e => by rw [e] at Hp; have := Hp.out.symm.trans Hp2.out; exact he (Option.some.inj this)
          have Hno := Lib.hid hno
          clear hno
          by_cases h1 : p.1 = p2.1
          · have h2 : ¬ p.2 = p2.2 := fun e => he (Prod.ext h1 e)
            have e1 : (A1.toList == C1.toList) = true := by rw [D1.out]; exact decide_eq_true h1
            have e2 : (A2.toList == C2.toList) = false := by rw [D2.out]; exact decide_eq_false h2
            clear he h1 h2
            go_wp2_with fail
            go_quiet (fail)
            go_wp2_with fail
            try rw [Exit.noGoto_ret]
            go_ret
            exact ⟨by rw [decide_eq_false Hno.out]; rfl, Hb.out.trans (below_drewN _ _ _)⟩
          · have e1 : (A1.toList == C1.toList) = false := by rw [D1.out]; exact decide_eq_false h1
            clear he h1
            go_wp2_with fail
            go_quiet (fail)
            go_wp2_with fail
            try rw [Exit.noGoto_ret]
            go_ret
            exact ⟨by rw [decide_eq_false Hno.out]; rfl, Hb.out.trans (below_drewN _ _ _)⟩
  · have hno : ¬ l = m := fun e => hnn (by rw [Hn.out, Hn2.out, e])
    have Hno := Lib.hid hno
    clear hno
    have hz : ((n : Int) == (n2 : Int)) = false := by rw [beq_eq_false_iff_ne]; omega
    go_wp2_with fail
    go_ret
    exact ⟨by rw [decide_eq_false Hno.out]; rfl, Below.refl _ _⟩
end Go.Proofs.Ytegkdkilbnighaa

set_option linter.unusedVariables false
set_option linter.unusedSimpArgs false
namespace Go.Proofs.Ytegkdkilbnighaa
open Go.RowKit Go.Rg
attribute [local go_sem] Oper.semAt_some

theorem enter_eqPairs (args : Array Value) (w : World) : (callFunc 34 args).run Try.prog w = .ok (.enter 34 args) w := enters_of Try.func34 (by kernel_rfl) rfl args w

set_option maxRecDepth 100000 in
set_option maxHeartbeats 4000000 in
theorem eqLists_any2 (v u : Value) (vs us : List Value) (l m : List (List Wk.Pr)) (w : World) (h : RdC w v l.length vs) (hv : LsC w vs l) (h2 : RdC w u m.length us) (hu : LsC w us m) :
    Calls Try.prog 33 #[v, u, .func (.func 34) #[] #[]] w fun e w' => e = .returned (.bool (decide (l = m))) ∧ Below w.heap.size w w' := by
  obtain ⟨a1, c1, rfl, hm1, ho1⟩ := h
  obtain ⟨a2, c2, rfl, hm2, ho2⟩ := h2
  have Ho1 := Lib.hid ho1
  have Ho2 := Lib.hid ho2
  have Hv := Lib.hid hv
  have Hu := Lib.hid hu
  unfold maxLen at hm1 hm2
  obtain ⟨n, hn⟩ : ∃ n, n = l.length := ⟨_, rfl⟩
  obtain ⟨n2, hn2⟩ : ∃ n, n = m.length := ⟨_, rfl⟩
  rw [← hn] at hm1 ⊢
  rw [← hn2] at hm2 ⊢
  have Hn := Lib.hid hn
  have Hn2 := Lib.hid hn2
  have eg := enter_eqPairs
  clear ho1 ho2 hn hn2 hv hu
  go_enter Try.func33, Try.ntmps33
  by_cases hnn : n = n2
  · subst hnn
    go_wp2_with fail
    go_loopg [17] n (fun q s17 wx => ∃ i : Nat, i + q = n ∧ s17 = .int .i64 (i : Int) ∧ Hid (l.take i = m.take i) ∧ Hid (Below w.heap.size w wx))
    case atStart => exact ⟨0, by omega, rfl, rfl, Below.refl _ _⟩
    case round =>
      obtain ⟨i, hiq, rfl, Hi, Hb⟩ := hrel
      cases gk with
      | zero =>
        have hin : i = n := by omega
        subst hin
        have Heq : Hid (l = m) := by
          have := Hi.out
          rw [Hn.out, List.take_length, ← Hn.out, Hn2.out, List.take_length] at this
          exact this
        go_wp2_with fail
        try rw [Exit.noGoto_ret]
        go_ret
        exact ⟨by rw [Heq.out]; simp, Hb.out⟩
      | succ q =>
        have hin : i < n := by omega
        obtain ⟨p, hp⟩ : ∃ p, l[i]? = some p := ⟨_, List.getElem?_eq_getElem (by rw [← Hn.out]; exact hin)⟩
        obtain ⟨p2, hp2⟩ : ∃ p, m[i]? = some p := ⟨_, List.getElem?_eq_getElem (by rw [← Hn2.out]; exact hin)⟩
        obtain ⟨vk, hvk, hPk⟩ := Hv.out i p hp
        obtain ⟨uk, huk, hQk⟩ := Hu.out i p2 hp2
        obtain ⟨g1, o1, rfl, q1, q2, q3, q4⟩ := Ho1.out (fun e => by rw [e] at hvk; cases hvk)
        obtain ⟨g2, o2, rfl, r1, r2, r3, r4⟩ := Ho2.out (fun e => by rw [e] at huk; cases huk)
        rw [← Hn.out] at q1
        rw [← Hn2.out] at r1
        have y1 : wr.cell? ⟨g1, o1 + i, none⟩ = some vk := keepc Hb.out q3 (q4 _ _ hvk)
        have z1 : wr.cell? ⟨g2, o2 + i, none⟩ = some uk := keepc Hb.out r3 (r4 _ _ huk)
        unfold maxLen at q2 r2
        have Hp := Lib.hid hp
        have Hp2 := Lib.hid hp2
        have HC := Lib.hid (eqPairs_any2 vk uk p p2 wr (hPk.call Hb.out) (hQk.call Hb.out))
        clear q4 r4 hvk huk hPk hQk hp hp2
        by_cases he : p = p2
        · rw [decide_eq_true he] at HC
          have He := Lib.hid he
          clear he
          go_wp2_with fail
          refine HC.out.mono ?_
          rintro e w5 ⟨rfl, hb5⟩
          have Hb5 := Lib.hid (Hb.out.trans (hb5.mono Hb.out.size))
          clear hb5
          go_wp2_with fail
          go_roundg q
          case measure => omega
          case rel => exact ⟨i + 1, by omega, by first | rfl | simp, by unfold Hid; rw [List.take_add_one, List.take_add_one, Hi.out, Hp.out, Hp2.out, He.out], Hb5⟩
        · rw [decide_eq_false he] at HC
          have hno : ¬ l = m := fun e => by rw [e] at Hp; have := Hp.out.symm.trans Hp2.out; exact he (Option.some.inj this)
          have Hno := Lib.hid hno
          clear hno he
          go_wp2_with fail
          refine HC.out.mono ?_
          rintro e w5 ⟨rfl, hb5⟩
          have Hb5 := Lib.hid (Hb.out.trans (hb5.mono Hb.out.size))
          clear hb5
          go_wp2_with fail
          try rw [Exit.noGoto_ret]
          go_ret
          exact ⟨by rw [decide_eq_false Hno.out]; rfl, Hb5.out⟩
  · have hno : ¬ l = m := fun e => hnn (by rw [Hn.out, Hn2.out, e])
    have Hno := Lib.hid hno
    clear hno
    have hz : ((n : Int) == (n2 : Int)) = false := by rw [beq_eq_false_iff_ne]; omega
    go_wp2_with fail
    go_ret
    exact ⟨by rw [decide_eq_false Hno.out]; rfl, Below.refl _ _⟩

def eqA (g h : GA) : Bool := g.kind == h.kind && (g.level == h.level && (decide (g.lists = h.lists) && decide (g.sizes = h.sizes)))
theorem eqA_iff (g h : GA) : eqA g h = true ↔ g = h := by
  obtain ⟨k, l, ls, ss⟩ := g
  obtain ⟨k', l', ls', ss'⟩ := h
  unfold eqA
  simp

set_option maxRecDepth 100000 in
set_option maxHeartbeats 4000000 in
theorem equalA_any (g h : GA) (lv zv lu zu : Value) (w : World) (hg : BdA w lv zv g) (hh : BdA w lu zu h) :
    Calls Try.prog 19 #[gaV g lv zv, gaV h lu zu] w fun e w' => e = .returned (.bool (eqA g h)) ∧ Below w.heap.size w w' := by
  obtain ⟨k, l, ls, ss⟩ := g
  obtain ⟨k2, l2, ls2, ss2⟩ := h
  obtain ⟨vs, _, hl, hvs, hz⟩ := hg
  obtain ⟨us, _, hl2, hus, hz2⟩ := hh
  simp only at hl hvs hz hl2 hus hz2
  obtain ⟨la, lc, rfl, _⟩ := hl.form
  obtain ⟨za, zc, rfl, _⟩ := hz.form
  obtain ⟨la2, lc2, rfl, _⟩ := hl2.form
  obtain ⟨za2, zc2, rfl, _⟩ := hz2.form
  have HLc : Hid (∀ X, Below w.heap.size w X → Calls Try.prog 33 #[.slice la ls.length lc, .slice la2 ls2.length lc2, .func (.func 34) #[] #[]] X fun e X' => e = .returned (.bool (decide (ls = ls2))) ∧ Below X.heap.size X X') := fun X hX => eqLists_any2 _ _ vs us ls ls2 X (hl.call hX) (hvs.call hX) (hl2.call hX) (hus.call hX)
  have HZc : Hid (∀ X, Below w.heap.size w X → Calls Try.prog 35 #[.slice za ss.length zc, .slice za2 ss2.length zc2] X fun e X' => e = .returned (.bool (decide (ss = ss2))) ∧ Below X.heap.size X X') := fun X hX => eqInts_any2 _ _ ss ss2 X (hz.call hX) (hz2.call hX)
  unfold gaV
  simp only
  obtain ⟨n1, hn1⟩ : ∃ n, n = ls.length := ⟨_, rfl⟩
  obtain ⟨n2, hn2⟩ : ∃ n, n = ls2.length := ⟨_, rfl⟩
  obtain ⟨n3, hn3⟩ : ∃ n, n = ss.length := ⟨_, rfl⟩
  obtain ⟨n4, hn4⟩ : ∃ n, n = ss2.length := ⟨_, rfl⟩
  rw [← hn1, ← hn2] at HLc
  rw [← hn3, ← hn4] at HZc
  rw [← hn1, ← hn2, ← hn3, ← hn4]
  obtain ⟨W0, hW0⟩ : ∃ W0, [.cells #[.int .i64 k, .int .i64 l, .slice la n1 lc, .slice za n3 zc] 40, .cells #[.int .i64 k2, .int .i64 l2, .slice la2 n2 lc2, .slice za2 n4 zc2] 40].foldl World.alloc w = W0 := ⟨_, rfl⟩
  have B0 : Blk W0 w.heap.size [.int .i64 k, .int .i64 l, .slice la n1 lc, .slice za n3 zc] 40 := Blk.allocs _ hW0 0 rfl
  have B1 : Blk W0 (w.heap.size + 1) [.int .i64 k2, .int .i64 l2, .slice la2 n2 lc2, .slice za2 n4 zc2] 40 := Blk.allocs _ hW0 1 rfl
  have hBel : Below w.heap.size w W0 := hW0 ▸ allocs_below _ w
  have hz0 : w.heap.size + 2 ≤ W0.heap.size := Nat.le_of_eq (hW0 ▸ allocs_size _ w).symm
  simp only [List.foldl_cons, List.foldl_nil] at hW0
  have a0 := B0.cell (j := 0) rfl
  have a1 := B0.cell (j := 1) rfl
  have a2 := B0.cell (j := 2) rfl
  have b0 := B1.cell (j := 0) rfl
  have b1 := B1.cell (j := 1) rfl
  have b2 := B1.cell (j := 2) rfl
  have HB0 := Lib.hid B0
  have HB1 := Lib.hid B1
  have HBel := Lib.hid hBel
  clear B0 B1 hl hvs hz hBel hl2 hus hz2 hn1 hn2 hn3 hn4
  go_enter Try.func19, Try.ntmps19
  cases hk : (k == k2) with
  | false =>
    have Hk := Lib.hid hk
    go_wp2_with fail
    go_ret
    exact ⟨by unfold eqA; simp only; rw [Hk.out]; rfl, HBel.out⟩
  | true =>
    have Hk := Lib.hid hk
    cases hl : (l == l2) with
    | false =>
      have Hl := Lib.hid hl
      go_wp2_with fail
      go_ret
      exact ⟨by unfold eqA; simp only; rw [Hk.out, Hl.out]; rfl, HBel.out⟩
    | true =>
      have Hl := Lib.hid hl
      by_cases he : ls = ls2
      · rw [decide_eq_true he] at HLc
        have He := Lib.hid he
        clear he
        go_wp2_with fail
        (try simp only [hW0])
        refine (HLc.out W0 HBel.out).mono ?_
        rintro e w5 ⟨rfl, hb5⟩
        have hbw := Lib.hid (HBel.out.trans (hb5.mono HBel.out.size))
        have q3 := (HB0.out.call hb5).cell (j := 3) rfl
        have q4 := (HB1.out.call hb5).cell (j := 3) rfl
        clear hb5
        go_wp2_with fail
        refine (HZc.out w5 hbw.out).mono ?_
        rintro e w6 ⟨rfl, hb6⟩
        have hbw6 := hbw.out.trans (hb6.mono hbw.out.size)
        clear hb6
        go_wp2_with fail
        go_ret
        exact ⟨by unfold eqA; simp only; rw [Hk.out, Hl.out, decide_eq_true He.out]; rfl, hbw6⟩
      · rw [decide_eq_false he] at HLc
        have He := Lib.hid he
        clear he
        go_wp2_with fail
        (try simp only [hW0])
        refine (HLc.out W0 HBel.out).mono ?_
        rintro e w5 ⟨rfl, hb5⟩
        have hbw := Lib.hid (HBel.out.trans (hb5.mono HBel.out.size))
        clear hb5
        go_wp2_with fail
        go_ret
        exact ⟨by unfold eqA; simp only; rw [Hk.out, Hl.out, decide_eq_false He.out]; rfl, hbw.out⟩
end Go.Proofs.Ytegkdkilbnighaa

set_option linter.unusedVariables false
set_option linter.unusedSimpArgs false
namespace Go.Proofs.Ytegkdkilbnighaa
open Go.RowKit Go.Rg
attribute [local go_sem] Oper.semAt_some

set_option maxRecDepth 100000 in
set_option maxHeartbeats 8000000 in
theorem equalL_any (v u : Value) (cs ds : List Value) (l m : List GA) (w : World) (h : RdC w v l.length cs) (hg : GsC w cs l) (h2 : RdC w u m.length ds) (hg2 : GsC w ds m) :
    Calls Try.prog 14 #[v, u] w fun e w' => ∃ b : Bool, e = .returned (.bool b) ∧ Hid (b = true ↔ l = m) ∧ Below w.heap.size w w' := by
  obtain ⟨a1, c1, rfl, hm1⟩ := h.form
  obtain ⟨a2, c2, rfl, hm2⟩ := h2.form
  have Ho1 := Lib.hid h
  have Ho2 := Lib.hid h2
  have Hg := Lib.hid hg
  have Hg2 := Lib.hid hg2
  unfold maxLen at hm1 hm2
  obtain ⟨n, hn⟩ : ∃ n, n = l.length := ⟨_, rfl⟩
  obtain ⟨n2, hn2⟩ : ∃ n, n = m.length := ⟨_, rfl⟩
  rw [← hn] at hm1 Ho1 ⊢
  rw [← hn2] at hm2 Ho2 ⊢
  have Hn := Lib.hid hn
  have Hn2 := Lib.hid hn2
  clear h h2 hn hn2 hg hg2
  go_enter Try.func14, Try.ntmps14
  by_cases hnn : n = n2
  · subst hnn
    go_wp2_with fail
    go_loopg [13] n (fun q s13 wx => ∃ i : Nat, i + q = n ∧ s13 = .int .i64 (i : Int) ∧ Hid (l.take i = m.take i) ∧ Hid (Below w.heap.size w wx))
    case atStart => exact ⟨0, by omega, rfl, rfl, Below.refl _ _⟩
    case round =>
      obtain ⟨i, hiq, rfl, Hi, Hb⟩ := hrel
      cases gk with
      | zero =>
        have hin : i = n := by omega
        subst hin
        have Heq : Hid (l = m) := by
          have := Hi.out
          rw [Hn.out, List.take_length, ← Hn.out, Hn2.out, List.take_length] at this
          exact this
        go_wp2_with fail
        try rw [Exit.noGoto_ret]
        go_ret
        exact ⟨true, rfl, ⟨fun _ => Heq.out, fun _ => rfl⟩, Hb.out⟩
      | succ q =>
        have hin : i < n := by omega
        obtain ⟨g, hp⟩ : ∃ p, l[i]? = some p := ⟨_, List.getElem?_eq_getElem (by rw [← Hn.out]; exact hin)⟩
        obtain ⟨g', hp2⟩ : ∃ p, m[i]? = some p := ⟨_, List.getElem?_eq_getElem (by rw [← Hn2.out]; exact hin)⟩
        obtain ⟨b1, o1, lv, zv, rfl, q1, q2, hB, q3, y0, y1, y2, y3⟩ := gs_at Ho1.out Hg.out i g hp
        obtain ⟨b2, o2, lu, zu, rfl, r1, r2, hB2, r3, z0, z1, z2, z3⟩ := gs_at Ho2.out Hg2.out i g' hp2
        have x0 : wr.cell? ⟨b1, o1 + i * 4, none⟩ = some (.int .i64 g.kind) := keepc Hb.out q3 y0
        have x1 : wr.cell? ⟨b1, o1 + i * 4 + 1, none⟩ = some (.int .i64 g.level) := keepc Hb.out q3 y1
        have x2 : wr.cell? ⟨b1, o1 + i * 4 + 2, none⟩ = some lv := keepc Hb.out q3 y2
        have x3 : wr.cell? ⟨b1, o1 + i * 4 + 3, none⟩ = some zv := keepc Hb.out q3 y3
        have u0 : wr.cell? ⟨b2, o2 + i * 4, none⟩ = some (.int .i64 g'.kind) := keepc Hb.out r3 z0
        have u1 : wr.cell? ⟨b2, o2 + i * 4 + 1, none⟩ = some (.int .i64 g'.level) := keepc Hb.out r3 z1
        have u2 : wr.cell? ⟨b2, o2 + i * 4 + 2, none⟩ = some lu := keepc Hb.out r3 z2
        have u3 : wr.cell? ⟨b2, o2 + i * 4 + 3, none⟩ = some zu := keepc Hb.out r3 z3
        have hsz := Hb.out.size
        have HC : Hid (∀ X, Below w.heap.size w X → Calls Try.prog 19 #[gaV g lv zv, gaV g' lu zu] X fun e X' => e = .returned (.bool (eqA g g')) ∧ Below X.heap.size X X') := fun X hX => equalA_any g g' lv zv lu zu X (hB.call hX) (hB2.call hX)
        have Hp := Lib.hid hp
        have Hp2 := Lib.hid hp2
        clear y0 y1 y2 y3 z0 z1 z2 z3 hB hB2 hp hp2
        cases he : eqA g g' with
        | true =>
          rw [he] at HC
          have He := Lib.hid ((eqA_iff g g').1 he)
          clear he
          go_wp2_with fail
          go_region_held3 (fun w' => w'.cell? ⟨b1, o1 + i * 4, none⟩ = some (.int .i64 g.kind) ∧ w'.cell? ⟨b1, o1 + i * 4 + 1, none⟩ = some (.int .i64 g.level) ∧ w'.cell? ⟨b1, o1 + i * 4 + 2, none⟩ = some lv ∧ w'.cell? ⟨b1, o1 + i * 4 + 3, none⟩ = some zv ∧ w'.cell? ⟨b2, o2 + i * 4, none⟩ = some (.int .i64 g'.kind) ∧ w'.cell? ⟨b2, o2 + i * 4 + 1, none⟩ = some (.int .i64 g'.level) ∧ w'.cell? ⟨b2, o2 + i * 4 + 2, none⟩ = some lu ∧ w'.cell? ⟨b2, o2 + i * 4 + 3, none⟩ = some zu)
            (first
              | exact ⟨x0, x1, x2, x3, u0, u1, u2, u3⟩
              | exact ⟨keepc hb5 (by show _ < wr.heap.size; omega) x0, keepc hb5 (by show _ < wr.heap.size; omega) x1, keepc hb5 (by show _ < wr.heap.size; omega) x2, keepc hb5 (by show _ < wr.heap.size; omega) x3, keepc hb5 (by show _ < wr.heap.size; omega) u0, keepc hb5 (by show _ < wr.heap.size; omega) u1, keepc hb5 (by show _ < wr.heap.size; omega) u2, keepc hb5 (by show _ < wr.heap.size; omega) u3⟩
              | go_keep)
            ((go_at_call 19; refine (HC.out _ Hb.out.drew).mono ?_; rintro e w5 ⟨rfl, hb5⟩))
          have Hb5 : Hid (Below w.heap.size w w5) := (Hb.out.drew).trans (hb5.mono hsz)
          clear hb5
          go_wp2_with fail
          go_roundg q
          case measure => omega
          case rel => exact ⟨i + 1, by omega, by first | rfl | simp, by unfold Hid; rw [List.take_add_one, List.take_add_one, Hi.out, Hp.out, Hp2.out, He.out], Hb5⟩
        | false =>
          rw [he] at HC
          have hno : ¬ l = m := fun e => by
            rw [e] at Hp
            have := Option.some.inj (Hp.out.symm.trans Hp2.out)
            rw [(eqA_iff g g').2 this] at he; cases he
          have Hno := Lib.hid hno
          clear hno he
          go_wp2_with fail
          go_region_held3 (fun w' => w'.cell? ⟨b1, o1 + i * 4, none⟩ = some (.int .i64 g.kind) ∧ w'.cell? ⟨b1, o1 + i * 4 + 1, none⟩ = some (.int .i64 g.level) ∧ w'.cell? ⟨b1, o1 + i * 4 + 2, none⟩ = some lv ∧ w'.cell? ⟨b1, o1 + i * 4 + 3, none⟩ = some zv ∧ w'.cell? ⟨b2, o2 + i * 4, none⟩ = some (.int .i64 g'.kind) ∧ w'.cell? ⟨b2, o2 + i * 4 + 1, none⟩ = some (.int .i64 g'.level) ∧ w'.cell? ⟨b2, o2 + i * 4 + 2, none⟩ = some lu ∧ w'.cell? ⟨b2, o2 + i * 4 + 3, none⟩ = some zu)
            (first
              | exact ⟨x0, x1, x2, x3, u0, u1, u2, u3⟩
              | exact ⟨keepc hb5 (by show _ < wr.heap.size; omega) x0, keepc hb5 (by show _ < wr.heap.size; omega) x1, keepc hb5 (by show _ < wr.heap.size; omega) x2, keepc hb5 (by show _ < wr.heap.size; omega) x3, keepc hb5 (by show _ < wr.heap.size; omega) u0, keepc hb5 (by show _ < wr.heap.size; omega) u1, keepc hb5 (by show _ < wr.heap.size; omega) u2, keepc hb5 (by show _ < wr.heap.size; omega) u3⟩
              | go_keep)
            ((go_at_call 19; refine (HC.out _ Hb.out.drew).mono ?_; rintro e w5 ⟨rfl, hb5⟩))
          have Hb5 : Hid (Below w.heap.size w w5) := (Hb.out.drew).trans (hb5.mono hsz)
          clear hb5
          go_wp2_with fail
          try rw [Exit.noGoto_ret]
          go_ret
          exact ⟨false, rfl, ⟨(fun h => by cases h), fun h => absurd h Hno.out⟩, Hb5.out⟩
  · have hno : ¬ l = m := fun e => hnn (by rw [Hn.out, Hn2.out, e])
    have Hno := Lib.hid hno
    clear hno
    have hz : ((n : Int) == (n2 : Int)) = false := by rw [beq_eq_false_iff_ne]; omega
    go_wp2_with fail
    go_ret
    exact ⟨false, rfl, ⟨(fun h => by cases h), fun h => absurd h Hno.out⟩, Below.refl _ _⟩
end Go.Proofs.Ytegkdkilbnighaa

set_option linter.unusedVariables false
set_option linter.unusedSimpArgs false
namespace Go.Proofs.Ytegkdkilbnighaa
open Go.RowKit Go.Rg
attribute [local go_sem] Oper.semAt_some

theorem BdC.of2 {R : Nat} {w : World} {lv zv : Value} {g : Wk.Geo} (h : BodyR R w lv zv (g.lists, g.sizes)) : BdC w lv zv g := by
  obtain ⟨vs, h1, h2, h3⟩ := h
  exact ⟨vs, h2.len, .of h1, .of h2, .of h3⟩
theorem GsC.of2 {R : Nat} {w : World} : ∀ {gs : List Wk.Geo} {cs : List Value}, rdsG R w cs gs → GsC w cs (gs.map Wk.toA)
  | [], cs, _ => fun i g h => by cases h
  | x :: gs, cs, ⟨v, u, ds, e, h1, h2⟩ => by
    subst e
    exact GsC.cons (bdC_toA (.of2 h1)) (GsC.of2 h2)

/-- a text that was written is read: where it lies -/
theorem parse_write_any (gs : List Wk.Geo) (hR : Wk.RightG gs) (w : World) (hl : (Wk.write gs).length ≤ 100000) :
    Calls Try.prog 9 #[str (Wk.write gs)] w fun e w' => ∃ a c cs, e = .returned (.tuple #[.slice a gs.length c, .int .i64 0, .int .i64 0]) ∧ RdC w' (.slice a gs.length c) gs.length cs ∧ GsC w' cs (gs.map Wk.toA) ∧ Below w.heap.size w w' := by
  refine (parse_any ⟨(Wk.write gs).toArray⟩ w (by rw [Lib.size_eq]; exact hl)).mono ?_
  rintro e w' ⟨v, at_, er, rfl, h, hb⟩
  unfold parseRes at h
  rw [show (⟨(Wk.write gs).toArray⟩ : ByteArray).data.toList = Wk.write gs from rfl, Wk.parse_write gs hR] at h
  obtain ⟨⟨R, cs, hv, hg⟩, rfl, rfl⟩ := h
  have hc : RdC w' v gs.length cs := .of hv
  obtain ⟨a, c, rfl, _⟩ := hc.form
  exact ⟨a, c, cs, rfl, hc, .of2 hg, hb⟩

set_option maxRecDepth 100000 in
set_option maxHeartbeats 8000000 in
theorem lawReadsW (s : ByteArray) (hs : s.size ≤ maxLen) (w : World) : Calls Try.prog 4 #[.string s] w fun e w' => e = .returned (.bool true) ∧ Below w.heap.size w w' := by
  have hm : s.size ≤ 9223372036854775807 := hs
  go_enter Try.func4, Try.ntmps4
  by_cases h2 : s.size ≤ 2000
  · have hs6 : s.size ≤ 100000 := by omega
    go_wp2_with fail
    refine (parse_any s w hs6).mono ?_
    rintro e w1 ⟨v1, at1, e1, rfl, h1, hw1⟩
    unfold parseRes at h1
    cases hp : Wk.parse s.data.toList with
    | error k =>
      rw [hp] at h1
      obtain ⟨hv1, rfl, rfl⟩ := h1
      cases hv1
      have hw1' := Lib.hid hw1
      clear hp hw1
      go_wp2_with fail
      refine (rightA_any (.slice none 0 0) [] [] w1 (RdC.nil _) (GsC.nil _) (fun g h => by cases h)).mono ?_
      rintro e w2 ⟨b, rfl, hb, hw2⟩
      cases b with
      | true => exact absurd rfl (hb.out.1 rfl).1
      | false =>
        clear hb
        have hw12 := Lib.hid (hw1'.out.trans (hw2.mono hw1'.out.size))
        clear hw2
        go_wp2_with fail
        refine (awake12_any w2).mono ?_
        rintro e w3 ⟨rfl, hw3⟩
        have hw13 := hw12.out.trans (hw3.mono hw12.out.size)
        clear hw3
        go_wp2_with fail
        go_ret
        exact ⟨rfl, hw13⟩
    | ok gs =>
      rw [hp] at h1
      obtain ⟨⟨R, cs, hv, hg⟩, rfl, rfl⟩ := h1
      obtain ⟨hR, hsz⟩ := Wk.parse_right s gs hp
      have hw := Wk.write_size gs hR
      have hfit : ∀ x ∈ gs.map Wk.toA, Wk.FitA x := fun x hx => by
        obtain ⟨g, hgm, rfl⟩ := List.mem_map.1 hx
        exact Wk.fitA_of g _ (Wk.mG_le gs g hgm) (by omega)
      have hc1 : RdC w1 v1 gs.length cs := .of hv
      have hG : GsC w1 cs (gs.map Wk.toA) := .of2 hg
      have HW : Hid (∀ (v : Value) (ds : List Value) (X : World), RdC X v gs.length ds → GsC X ds (gs.map Wk.toA) → Calls Try.prog 11 #[v] X fun e X' => e = .returned (.tuple #[str (Wk.write gs), .int .i64 0]) ∧ Below X.heap.size X X') := fun v ds X h1 h2 => write_any gs v ds X hR h1 h2 hfit (by omega)
      have HP : Hid (∀ X : World, Calls Try.prog 9 #[str (Wk.write gs)] X fun e w' => ∃ a c cs, e = .returned (.tuple #[.slice a gs.length c, .int .i64 0, .int .i64 0]) ∧ RdC w' (.slice a gs.length c) gs.length cs ∧ GsC w' cs (gs.map Wk.toA) ∧ Below X.heap.size X w') := fun X => parse_write_any gs hR X (by omega)
      have HA : Hid (∀ X, Below w1.heap.size w1 X → Calls Try.prog 13 #[v1] X fun e X' => e = .returned (.bool true) ∧ Below X.heap.size X X') := fun X hX =>
        (rightA_any _ _ (gs.map Wk.toA) X (by rw [List.length_map]; exact hc1.call hX) (hG.call hX) hfit).mono fun e X' ⟨b, he, hb, hx⟩ => by
          have : b = true := hb.out.2 (Wk.right_toA _ hR)
          subst this; exact ⟨he, hx⟩
      obtain ⟨n, hn⟩ : ∃ n, n = gs.length := ⟨_, rfl⟩
      obtain ⟨t, ht⟩ : ∃ t, t = Wk.write gs := ⟨_, rfl⟩
      rw [← ht] at HW HP
      have Hn := Lib.hid hn
      obtain ⟨va, vc, rfl, _⟩ := hc1.form
      rw [← hn] at hc1 HP HW HA ⊢
      have Hc1 := Lib.hid hc1
      have HG := Lib.hid hG
      have hw1' := Lib.hid hw1
      clear hc1 hG hn ht hv hg hfit hR hsz hw hp hw1
      go_wp2_with fail
      refine (HW.out _ cs w1 Hc1.out HG.out).mono ?_
      rintro e w2 ⟨rfl, hb2⟩
      have hw2 := Lib.hid hb2
      clear hb2
      go_wp2_with fail
      refine (HP.out w2).mono ?_
      rintro e w3 ⟨ua, uc, ds, rfl, hu, hgu, hb3⟩
      have hw3 := Lib.hid (hw2.out.trans (hb3.mono hw2.out.size))
      have Hu := Lib.hid hu
      have HGu := Lib.hid hgu
      clear hb3 hu hgu
      go_wp2_with fail
      refine (HW.out _ ds w3 Hu.out HGu.out).mono ?_
      rintro e w4 ⟨rfl, hb4⟩
      have hw4 := Lib.hid (hw3.out.trans (hb4.mono hw3.out.size))
      have H34 := Lib.hid hb4
      clear hb4
      go_wp2_with fail
      refine (HA.out w4 hw4.out).mono ?_
      rintro e w5 ⟨rfl, hb5⟩
      have hw5 := Lib.hid (hw4.out.trans (hb5.mono hw4.out.size))
      have H35 := Lib.hid (H34.out.trans (hb5.mono H34.out.size))
      clear hb5
      go_wp2_with fail
      refine (equalL_any _ _ cs ds (gs.map Wk.toA) (gs.map Wk.toA) w5 (by rw [List.length_map, ← Hn.out]; exact Hc1.out.call hw5.out) (HG.out.call hw5.out) (by rw [List.length_map, ← Hn.out]; exact Hu.out.call H35.out) (HGu.out.call H35.out)).mono ?_
      rintro e w6 ⟨b, rfl, hb, hb6⟩
      have hbt : b = true := hb.out.2 rfl
      subst hbt
      have hw6 := Lib.hid (hw5.out.trans (hb6.mono hw5.out.size))
      clear hb hb6
      go_wp2_with fail
      refine (awake12_any w6).mono ?_
      rintro e w7 ⟨rfl, hb7⟩
      have hw7 := hw1'.out.trans ((hw6.out.trans (hb7.mono hw6.out.size)).mono hw1'.out.size)
      clear hb7
      go_wp2_with fail
      go_ret
      exact ⟨by simp, hw7⟩
  · go_wp2_with (first | (go_at_call 8; refine (awake12_any _).mono ?_; rintro e w1 ⟨rfl, hb⟩))
    go_ret
    exact ⟨rfl, hb⟩
end Go.Proofs.Ytegkdkilbnighaa
