/- gromaref01's Add, Sub. Printed by wip/genbf.py. -/
import Derived.Test.YtkhpfdgkmnifcaaDoorBgE
set_option linter.unusedVariables false
set_option linter.unusedSimpArgs false
namespace Go.Proofs.YtkhpfdgkmnifcaaDoor
open Go.RowKit Go.Rg Bg
attribute [local go_sem] Oper.semAt_some

theorem keepc {w wx : World} {g o : Nat} {v : Value} (hb : Below w.heap.size w wx) (hg : g < w.heap.size) (h : w.cell? ⟨g, o, none⟩ = some v) : wx.cell? ⟨g, o, none⟩ = some v := (hb.cell (p := ⟨g, o, none⟩) hg).trans h
theorem keeps2 {w : World} {q b i : Nat} {v x y : Value} (hne : q ≠ b) (h : w.cell? ⟨q, i, none⟩ = some v) : ((w.setCell ⟨b, 0, none⟩ x).setCell ⟨b, 1, none⟩ y).cell? ⟨q, i, none⟩ = some v := by
  rw [World.cell?_setCell_other (h := fun e => hne (congrArg Addr.block e).symm), World.cell?_setCell_other (h := fun e => hne (congrArg Addr.block e).symm)]; exact h
theorem add_same (n : Bool) (a b : Nat) : sgn n a + sgn n b = sgn n (a + b) := by unfold sgn; cases n <;> simp <;> omega
theorem add_first (n1 n2 : Bool) (a b : Nat) (h : n1 ≠ n2) (hle : b ≤ a) : sgn n1 a + sgn n2 b = sgn n1 (a - b) := by unfold sgn; cases n1 <;> cases n2 <;> simp at h ⊢ <;> omega
theorem add_second (n1 n2 : Bool) (a b : Nat) (h : n1 ≠ n2) (hle : a ≤ b) : sgn n1 a + sgn n2 b = sgn n2 (b - a) := by unfold sgn; cases n1 <;> cases n2 <;> simp at h ⊢ <;> omega
theorem len_of_le {a b : List Nat} (ha : ok a) (hb : nz b) (h : val b ≤ val a) : b.length ≤ a.length := by
  rcases Nat.lt_or_ge a.length b.length with h1 | h1
  · have := shorter ha hb h1; omega
  · exact h1
theorem cmpN_ge (a b : Nat) : (0 ≤ cmpN a b) ↔ b ≤ a := by
  unfold cmpN
  split
  · constructor
    · intro h; omega
    · intro h; omega
  · split <;> constructor <;> intro h <;> omega

set_option maxHeartbeats 4000000 in
theorem add_any (v1 v2 : Value) (x y : Int) (w : World) (b1 : Big w v1 x) (b2 : Big w v2 y) (hx : x.natAbs < lim) (hy : y.natAbs < lim) :
    Calls Tryd.prog 24 #[v1, v2] w fun e w' => ∃ v, e = .returned v ∧ Big w' v (x + y) ∧ Below w.heap.size w w' := by
  obtain ⟨n1, l1, ⟨s1, rfl, r1⟩, o1, z1, m1, e1, q1⟩ := b1.small hx
  obtain ⟨n2, l2, ⟨s2, rfl, r2⟩, o2, z2, m2, e2, q2⟩ := b2.small hy
  obtain ⟨a1, c1, rfl, _⟩ := reads_digits r1
  obtain ⟨a2, c2, rfl, _⟩ := reads_digits r2
  have R1 := Lib.hid r1
  have R2 := Lib.hid r2
  have O1 := Lib.hid o1
  have O2 := Lib.hid o2
  have Z1 := Lib.hid z1
  have Z2 := Lib.hid z2
  have E1 := Lib.hid e1
  have E2 := Lib.hid e2
  obtain ⟨k1, hk1⟩ : ∃ k, k = l1.length := ⟨_, rfl⟩
  obtain ⟨k2, hk2⟩ : ∃ k, k = l2.length := ⟨_, rfl⟩
  rw [← hk1] at q1 ⊢
  rw [← hk2] at q2 ⊢
  have K1 := Lib.hid hk1
  have K2 := Lib.hid hk2
  clear r1 r2 o1 o2 z1 z2 m1 m2 e1 e2 hk1 hk2 hx hy
  have HSz : Hid (∀ X, Below w.heap.size w X → Calls Tryd.prog 27 #[.slice a1 k1 c1, .slice a2 k2 c2] X fun e X' => e = .returned (.int .i64 (cmpN (val l1) (val l2))) ∧ Below X.heap.size X X') := fun X hX => by
    rw [K1.out, K2.out]
    exact sizes_any _ _ l1 l2 X ((R1.out.below hX).mono hX.size) ((R2.out.below hX).mono hX.size) O1.out O2.out Z1.out Z2.out (by rw [← K1.out]; omega) (by rw [← K2.out]; omega)
  have HMore : Hid (∀ X, Below w.heap.size w X → Calls Tryd.prog 45 #[.slice a1 k1 c1, .slice a2 k2 c2] X fun e X' => ∃ v l, e = .returned v ∧ RdN X' X'.heap.size v l.length (ints l) ∧ ok l ∧ l.length ≤ 1001 ∧ val l = val l1 + val l2 ∧ Below X.heap.size X X') := fun X hX => by
    rw [K1.out, K2.out]
    exact more_any _ _ l1 l2 X ((R1.out.below hX).mono hX.size) ((R2.out.below hX).mono hX.size) O1.out O2.out (by rw [← K1.out]; omega) (by rw [← K2.out]; omega)
  have HL1 : Hid (val l2 ≤ val l1 → ∀ X, Below w.heap.size w X → Calls Tryd.prog 46 #[.slice a1 k1 c1, .slice a2 k2 c2] X fun e X' => ∃ v l, e = .returned v ∧ RdN X' X'.heap.size v l.length (ints l) ∧ ok l ∧ l.length ≤ 1001 ∧ val l = val l1 - val l2 ∧ Below X.heap.size X X') := fun hle X hX => by
    rw [K1.out, K2.out]
    exact less_any _ _ l1 l2 X ((R1.out.below hX).mono hX.size) ((R2.out.below hX).mono hX.size) O1.out O2.out (by rw [← K1.out]; omega) (len_of_le O1.out Z2.out hle) hle
  have HL2 : Hid (val l1 ≤ val l2 → ∀ X, Below w.heap.size w X → Calls Tryd.prog 46 #[.slice a2 k2 c2, .slice a1 k1 c1] X fun e X' => ∃ v l, e = .returned v ∧ RdN X' X'.heap.size v l.length (ints l) ∧ ok l ∧ l.length ≤ 1001 ∧ val l = val l2 - val l1 ∧ Below X.heap.size X X') := fun hle X hX => by
    rw [K1.out, K2.out]
    exact less_any _ _ l2 l1 X ((R2.out.below hX).mono hX.size) ((R1.out.below hX).mono hX.size) O2.out O1.out (by rw [← K2.out]; omega) (len_of_le O2.out Z1.out hle) hle
  by_cases hnn : n1 = n2
  · have HV : Hid (x + y = sgn n1 (val l1 + val l2)) := by unfold Hid; rw [E1.out, E2.out, ← hnn, add_same]
    have hnb : (n1 == n2) = true := by rw [hnn]; exact beq_self_eq_true _
    clear hnn
    go_enter Tryd.func24, Tryd.ntmps24
    go_wp2_with fail
    obtain ⟨W, hW⟩ : ∃ W, ([.cells #[.bool n1, .slice a1 k1 c1] 29, .cells #[.bool n2, .slice a2 k2 c2] 29, .cells #[.bool false, .slice none 0 0] 29] : List Obj).foldl World.alloc w = W := ⟨_, rfl⟩
    have hB1 : Blk W (w.heap.size + 0) [.bool n1, .slice a1 k1 c1] 29 := Blk.allocs _ hW 0 rfl
    have hB2 : Blk W (w.heap.size + 1) [.bool n2, .slice a2 k2 c2] 29 := Blk.allocs _ hW 1 rfl
    have hB3 : Blk W (w.heap.size + 2) [.bool false, .slice none 0 0] 29 := Blk.allocs _ hW 2 rfl
    have hBw : Below w.heap.size w W := hW ▸ allocs_below _ w
    have hsz : w.heap.size + 2 < W.heap.size := hB3.lt
    simp only [List.foldl_cons, List.foldl_nil] at hW
    rw [hW]
    clear hW
    have x0 := hB1.cell (j := 0) rfl
    have x1 := hB1.cell (j := 1) rfl
    have y0 := hB2.cell (j := 0) rfl
    have y1 := hB2.cell (j := 1) rfl
    simp only [Nat.add_zero] at x0 x1
    have HB3 := Lib.hid hB3
    have HBw := Lib.hid hBw
    clear hB1 hB2 hB3 hBw
    have hS3 : ∀ X : World, Below w.heap.size w X → Big X (.agg #[.bool false, .slice none 0 0]) 0 := fun X _ => big_zero X
    clear hS3
    go_wp2_with fail
    go_region_held3 (fun w' => w'.cell? ⟨w.heap.size, 0, none⟩ = some (.bool n1) ∧ w'.cell? ⟨w.heap.size, 1, none⟩ = some (.slice a1 k1 c1) ∧ w'.cell? ⟨w.heap.size + 1, 0, none⟩ = some (.bool n2) ∧ w'.cell? ⟨w.heap.size + 1, 1, none⟩ = some (.slice a2 k2 c2))
      (first | exact ⟨x0, x1, y0, y1⟩ | exact ⟨X0, X1, Y0, Y1⟩ | exact ⟨XX0, XX1, YY0, YY1⟩ | exact ⟨keeps2 (by omega) XX0, keeps2 (by omega) XX1, keeps2 (by omega) YY0, keeps2 (by omega) YY1⟩ | go_keep)
      ((first
        | (go_at_call 45; refine (HMore.out _ (HBw.out.drew)).mono ?_; rintro e w5 ⟨v5, l5, rfl, r5, o5, k5, e5, hb5⟩; obtain ⟨a5, c5, rfl, _⟩ := reads_digits r5; have X0 := keepc hb5 (by show _ < W.heap.size; omega) x0; have X1 := keepc hb5 (by show _ < W.heap.size; omega) x1; have Y0 := keepc hb5 (by show _ < W.heap.size; omega) y0; have Y1 := keepc hb5 (by show _ < W.heap.size; omega) y1; have HB5 := Lib.hid ((show Blk W.drew _ _ _ from HB3.out).call hb5); have Hb5 := Lib.hid ((HBw.out.drew).trans (hb5.mono HBw.out.size)); have hz5 : W.heap.size ≤ w5.heap.size := hb5.size; clear hb5)
        | (go_at_call 26; refine (trim_any n1 _ l5 _ r5 o5 (by omega)).mono ?_; rintro e w6 ⟨v6, rfl, H6, hb6⟩; have XX0 := keepc hb6 (by omega) X0; have XX1 := keepc hb6 (by omega) X1; have YY0 := keepc hb6 (by omega) Y0; have YY1 := keepc hb6 (by omega) Y1; rw [e5] at H6; obtain ⟨n6, a6, m6, c6, rfl, b0, b1, bf, z0, z1, HH, Hbp⟩ := H6.ends (HB5.out.call hb6) (Hb5.out.trans (hb6.mono Hb5.out.size)) (by omega); clear hb6)))
    go_wp2_with fail
    refine bodyPost_ret (v := .agg #[.bool n6, .slice a6 m6 c6]) (by simp [results, Tryd.results24, go_sem, *]) rfl ⟨_, rfl, ?_, Hbp.out⟩
    rw [HV.out]
    exact HH.out
  · have hnb : (n1 == n2) = false := by rw [beq_eq_false_iff_ne]; exact hnn
    have Hnn := Lib.hid hnn
    clear hnn
    by_cases hc : val l2 ≤ val l1
    · have HV : Hid (x + y = sgn n1 (val l1 - val l2)) := by unfold Hid; rw [E1.out, E2.out, add_first _ _ _ _ Hnn.out hc]
      have hc2 : 0 ≤ cmpN (val l1) (val l2) := (cmpN_ge _ _).2 hc
      have HM := Lib.hid (HL1.out hc)
      clear hc
      generalize cmpN (val l1) (val l2) = R at *
      go_enter Tryd.func24, Tryd.ntmps24
      go_wp2_with fail
      obtain ⟨W, hW⟩ : ∃ W, ([.cells #[.bool n1, .slice a1 k1 c1] 29, .cells #[.bool n2, .slice a2 k2 c2] 29, .cells #[.bool false, .slice none 0 0] 29] : List Obj).foldl World.alloc w = W := ⟨_, rfl⟩
      have hB1 : Blk W (w.heap.size + 0) [.bool n1, .slice a1 k1 c1] 29 := Blk.allocs _ hW 0 rfl
      have hB2 : Blk W (w.heap.size + 1) [.bool n2, .slice a2 k2 c2] 29 := Blk.allocs _ hW 1 rfl
      have hB3 : Blk W (w.heap.size + 2) [.bool false, .slice none 0 0] 29 := Blk.allocs _ hW 2 rfl
      have hBw : Below w.heap.size w W := hW ▸ allocs_below _ w
      have hsz : w.heap.size + 2 < W.heap.size := hB3.lt
      simp only [List.foldl_cons, List.foldl_nil] at hW
      rw [hW]
      clear hW
      have x0 := hB1.cell (j := 0) rfl
      have x1 := hB1.cell (j := 1) rfl
      have y0 := hB2.cell (j := 0) rfl
      have y1 := hB2.cell (j := 1) rfl
      simp only [Nat.add_zero] at x0 x1
      have HB3 := Lib.hid hB3
      have HBw := Lib.hid hBw
      clear hB1 hB2 hB3 hBw
      refine (HSz.out _ HBw.out).mono ?_
      rintro e W1 ⟨rfl, hb1⟩
      have x0 := keepc hb1 (by omega) x0
      have x1 := keepc hb1 (by omega) x1
      have y0 := keepc hb1 (by omega) y0
      have y1 := keepc hb1 (by omega) y1
      have HB3 := Lib.hid (HB3.out.call hb1)
      have HBw := Lib.hid (HBw.out.trans (hb1.mono HBw.out.size))
      have hsz : w.heap.size + 2 < W1.heap.size := HB3.out.lt
      clear hb1
      have hS3 : ∀ X : World, Below w.heap.size w X → Big X (.agg #[.bool false, .slice none 0 0]) 0 := fun X _ => big_zero X
      clear hS3
      go_wp2_with fail
      go_region_held3 (fun w' => w'.cell? ⟨w.heap.size, 0, none⟩ = some (.bool n1) ∧ w'.cell? ⟨w.heap.size, 1, none⟩ = some (.slice a1 k1 c1) ∧ w'.cell? ⟨w.heap.size + 1, 0, none⟩ = some (.bool n2) ∧ w'.cell? ⟨w.heap.size + 1, 1, none⟩ = some (.slice a2 k2 c2))
        (first | exact ⟨x0, x1, y0, y1⟩ | exact ⟨X0, X1, Y0, Y1⟩ | exact ⟨XX0, XX1, YY0, YY1⟩ | exact ⟨keeps2 (by omega) XX0, keeps2 (by omega) XX1, keeps2 (by omega) YY0, keeps2 (by omega) YY1⟩ | go_keep)
        ((first
          | (go_at_call 46; refine (HM.out _ (HBw.out.drew)).mono ?_; rintro e w5 ⟨v5, l5, rfl, r5, o5, k5, e5, hb5⟩; obtain ⟨a5, c5, rfl, _⟩ := reads_digits r5; have X0 := keepc hb5 (by show _ < W1.heap.size; omega) x0; have X1 := keepc hb5 (by show _ < W1.heap.size; omega) x1; have Y0 := keepc hb5 (by show _ < W1.heap.size; omega) y0; have Y1 := keepc hb5 (by show _ < W1.heap.size; omega) y1; have HB5 := Lib.hid ((show Blk W1.drew _ _ _ from HB3.out).call hb5); have Hb5 := Lib.hid ((HBw.out.drew).trans (hb5.mono HBw.out.size)); have hz5 : W1.heap.size ≤ w5.heap.size := hb5.size; clear hb5)
          | (go_at_call 26; refine (trim_any n1 _ l5 _ r5 o5 (by omega)).mono ?_; rintro e w6 ⟨v6, rfl, H6, hb6⟩; have XX0 := keepc hb6 (by omega) X0; have XX1 := keepc hb6 (by omega) X1; have YY0 := keepc hb6 (by omega) Y0; have YY1 := keepc hb6 (by omega) Y1; rw [e5] at H6; obtain ⟨n6, a6, m6, c6, rfl, b0, b1, bf, z0, z1, HH, Hbp⟩ := H6.ends (HB5.out.call hb6) (Hb5.out.trans (hb6.mono Hb5.out.size)) (by omega); clear hb6)))
      go_wp2_with fail
      refine bodyPost_ret (v := .agg #[.bool n6, .slice a6 m6 c6]) (by simp [results, Tryd.results24, go_sem, *]) rfl ⟨_, rfl, ?_, Hbp.out⟩
      rw [HV.out]
      exact HH.out
    · have hc' : val l1 ≤ val l2 := by omega
      have HV : Hid (x + y = sgn n2 (val l2 - val l1)) := by unfold Hid; rw [E1.out, E2.out, add_second _ _ _ _ Hnn.out hc']
      have hc2 : ¬ (0 ≤ cmpN (val l1) (val l2)) := fun h => hc ((cmpN_ge _ _).1 h)
      have HM := Lib.hid (HL2.out hc')
      clear hc hc'
      generalize cmpN (val l1) (val l2) = R at *
      go_enter Tryd.func24, Tryd.ntmps24
      go_wp2_with fail
      obtain ⟨W, hW⟩ : ∃ W, ([.cells #[.bool n1, .slice a1 k1 c1] 29, .cells #[.bool n2, .slice a2 k2 c2] 29, .cells #[.bool false, .slice none 0 0] 29] : List Obj).foldl World.alloc w = W := ⟨_, rfl⟩
      have hB1 : Blk W (w.heap.size + 0) [.bool n1, .slice a1 k1 c1] 29 := Blk.allocs _ hW 0 rfl
      have hB2 : Blk W (w.heap.size + 1) [.bool n2, .slice a2 k2 c2] 29 := Blk.allocs _ hW 1 rfl
      have hB3 : Blk W (w.heap.size + 2) [.bool false, .slice none 0 0] 29 := Blk.allocs _ hW 2 rfl
      have hBw : Below w.heap.size w W := hW ▸ allocs_below _ w
      have hsz : w.heap.size + 2 < W.heap.size := hB3.lt
      simp only [List.foldl_cons, List.foldl_nil] at hW
      rw [hW]
      clear hW
      have x0 := hB1.cell (j := 0) rfl
      have x1 := hB1.cell (j := 1) rfl
      have y0 := hB2.cell (j := 0) rfl
      have y1 := hB2.cell (j := 1) rfl
      simp only [Nat.add_zero] at x0 x1
      have HB3 := Lib.hid hB3
      have HBw := Lib.hid hBw
      clear hB1 hB2 hB3 hBw
      refine (HSz.out _ HBw.out).mono ?_
      rintro e W1 ⟨rfl, hb1⟩
      have x0 := keepc hb1 (by omega) x0
      have x1 := keepc hb1 (by omega) x1
      have y0 := keepc hb1 (by omega) y0
      have y1 := keepc hb1 (by omega) y1
      have HB3 := Lib.hid (HB3.out.call hb1)
      have HBw := Lib.hid (HBw.out.trans (hb1.mono HBw.out.size))
      have hsz : w.heap.size + 2 < W1.heap.size := HB3.out.lt
      clear hb1
      have hS3 : ∀ X : World, Below w.heap.size w X → Big X (.agg #[.bool false, .slice none 0 0]) 0 := fun X _ => big_zero X
      clear hS3
      go_wp2_with fail
      go_region_held3 (fun w' => w'.cell? ⟨w.heap.size, 0, none⟩ = some (.bool n1) ∧ w'.cell? ⟨w.heap.size, 1, none⟩ = some (.slice a1 k1 c1) ∧ w'.cell? ⟨w.heap.size + 1, 0, none⟩ = some (.bool n2) ∧ w'.cell? ⟨w.heap.size + 1, 1, none⟩ = some (.slice a2 k2 c2))
        (first | exact ⟨x0, x1, y0, y1⟩ | exact ⟨X0, X1, Y0, Y1⟩ | exact ⟨XX0, XX1, YY0, YY1⟩ | exact ⟨keeps2 (by omega) XX0, keeps2 (by omega) XX1, keeps2 (by omega) YY0, keeps2 (by omega) YY1⟩ | go_keep)
        ((first
          | (go_at_call 46; refine (HM.out _ (HBw.out.drew)).mono ?_; rintro e w5 ⟨v5, l5, rfl, r5, o5, k5, e5, hb5⟩; obtain ⟨a5, c5, rfl, _⟩ := reads_digits r5; have X0 := keepc hb5 (by show _ < W1.heap.size; omega) x0; have X1 := keepc hb5 (by show _ < W1.heap.size; omega) x1; have Y0 := keepc hb5 (by show _ < W1.heap.size; omega) y0; have Y1 := keepc hb5 (by show _ < W1.heap.size; omega) y1; have HB5 := Lib.hid ((show Blk W1.drew _ _ _ from HB3.out).call hb5); have Hb5 := Lib.hid ((HBw.out.drew).trans (hb5.mono HBw.out.size)); have hz5 : W1.heap.size ≤ w5.heap.size := hb5.size; clear hb5)
          | (go_at_call 26; refine (trim_any n2 _ l5 _ r5 o5 (by omega)).mono ?_; rintro e w6 ⟨v6, rfl, H6, hb6⟩; have XX0 := keepc hb6 (by omega) X0; have XX1 := keepc hb6 (by omega) X1; have YY0 := keepc hb6 (by omega) Y0; have YY1 := keepc hb6 (by omega) Y1; rw [e5] at H6; obtain ⟨n6, a6, m6, c6, rfl, b0, b1, bf, z0, z1, HH, Hbp⟩ := H6.ends (HB5.out.call hb6) (Hb5.out.trans (hb6.mono Hb5.out.size)) (by omega); clear hb6)))
      go_wp2_with fail
      refine bodyPost_ret (v := .agg #[.bool n6, .slice a6 m6 c6]) (by simp [results, Tryd.results24, go_sem, *]) rfl ⟨_, rfl, ?_, Hbp.out⟩
      rw [HV.out]
      exact HH.out

set_option maxHeartbeats 4000000 in
theorem sub_any (v1 v2 : Value) (x y : Int) (w : World) (b1 : Big w v1 x) (b2 : Big w v2 y) (hx : x.natAbs < lim) (hy : y.natAbs < lim) :
    Calls Tryd.prog 28 #[v1, v2] w fun e w' => ∃ v, e = .returned v ∧ Big w' v (x - y) ∧ Below w.heap.size w w' := by
  have HMin : Hid (∀ X, Below w.heap.size w X → Calls Tryd.prog 17 #[v2] X fun e X' => ∃ v', e = .returned v' ∧ Big X' v' (-y) ∧ Below X.heap.size X X') := fun X hX => minus_any v2 y X (b2.call hX)
  have HAdd : Hid (∀ X v, Below w.heap.size w X → Big X v (-y) → Calls Tryd.prog 24 #[v1, v] X fun e X' => ∃ v', e = .returned v' ∧ Big X' v' (x + -y) ∧ Below X.heap.size X X') := fun X v hX hv => add_any v1 v x (-y) X (b1.call hX) hv hx (by rw [Int.natAbs_neg]; exact hy)
  obtain ⟨n1, a1, k1, c1, rfl⟩ := b1.form
  obtain ⟨n2, a2, k2, c2, rfl⟩ := b2.form
  have HV : Hid (x - y = x + -y) := Int.sub_eq_add_neg
  clear b1 b2 hx hy
  go_enter Tryd.func28, Tryd.ntmps28
  go_wp2_with fail
  obtain ⟨W, hW⟩ : ∃ W, ([.cells #[.bool n1, .slice a1 k1 c1] 29, .cells #[.bool n2, .slice a2 k2 c2] 29, .cells #[.bool false, .slice none 0 0] 29] : List Obj).foldl World.alloc w = W := ⟨_, rfl⟩
  have hB1 : Blk W (w.heap.size + 0) [.bool n1, .slice a1 k1 c1] 29 := Blk.allocs _ hW 0 rfl
  have hB2 : Blk W (w.heap.size + 1) [.bool n2, .slice a2 k2 c2] 29 := Blk.allocs _ hW 1 rfl
  have hB3 : Blk W (w.heap.size + 2) [.bool false, .slice none 0 0] 29 := Blk.allocs _ hW 2 rfl
  have hBw : Below w.heap.size w W := hW ▸ allocs_below _ w
  have hsz : w.heap.size + 2 < W.heap.size := hB3.lt
  simp only [List.foldl_cons, List.foldl_nil] at hW
  rw [hW]
  clear hW
  have x0 := hB1.cell (j := 0) rfl
  have x1 := hB1.cell (j := 1) rfl
  have y0 := hB2.cell (j := 0) rfl
  have y1 := hB2.cell (j := 1) rfl
  simp only [Nat.add_zero] at x0 x1
  have HB3 := Lib.hid hB3
  have HBw := Lib.hid hBw
  clear hB1 hB2 hB3 hBw
  go_wp2_with fail
  go_region_held3 (fun w' => w'.cell? ⟨w.heap.size, 0, none⟩ = some (.bool n1) ∧ w'.cell? ⟨w.heap.size, 1, none⟩ = some (.slice a1 k1 c1) ∧ w'.cell? ⟨w.heap.size + 1, 0, none⟩ = some (.bool n2) ∧ w'.cell? ⟨w.heap.size + 1, 1, none⟩ = some (.slice a2 k2 c2))
    (first | exact ⟨x0, x1, y0, y1⟩ | exact ⟨X0, X1, Y0, Y1⟩ | exact ⟨XX0, XX1, YY0, YY1⟩ | exact ⟨keeps2 (by omega) XX0, keeps2 (by omega) XX1, keeps2 (by omega) YY0, keeps2 (by omega) YY1⟩ | go_keep)
    ((first
      | (go_at_call 17; refine (HMin.out _ (HBw.out.drew)).mono ?_; rintro e w5 ⟨v5, rfl, H5, hb5⟩; obtain ⟨n5, a5, k5, c5, rfl⟩ := H5.form; have X0 := keepc hb5 (by show _ < W.heap.size; omega) x0; have X1 := keepc hb5 (by show _ < W.heap.size; omega) x1; have Y0 := keepc hb5 (by show _ < W.heap.size; omega) y0; have Y1 := keepc hb5 (by show _ < W.heap.size; omega) y1; have HB5 := Lib.hid ((show Blk W.drew _ _ _ from HB3.out).call hb5); have Hb5 := Lib.hid ((HBw.out.drew).trans (hb5.mono HBw.out.size)); have hz5 : W.heap.size ≤ w5.heap.size := hb5.size; clear hb5)
      | (go_at_call 24; refine (HAdd.out _ _ Hb5.out H5).mono ?_; rintro e w6 ⟨v6, rfl, H6, hb6⟩; have XX0 := keepc hb6 (by omega) X0; have XX1 := keepc hb6 (by omega) X1; have YY0 := keepc hb6 (by omega) Y0; have YY1 := keepc hb6 (by omega) Y1; obtain ⟨n6, a6, m6, c6, rfl, b0, b1, bf, z0, z1, HH, Hbp⟩ := H6.ends (HB5.out.call hb6) (Hb5.out.trans (hb6.mono Hb5.out.size)) (by omega); clear hb6)))
  go_wp2_with fail
  refine bodyPost_ret (v := .agg #[.bool n6, .slice a6 m6 c6]) (by simp [results, Tryd.results28, go_sem, *]) rfl ⟨_, rfl, ?_, Hbp.out⟩
  rw [HV.out]
  exact HH.out
end Go.Proofs.YtkhpfdgkmnifcaaDoor
