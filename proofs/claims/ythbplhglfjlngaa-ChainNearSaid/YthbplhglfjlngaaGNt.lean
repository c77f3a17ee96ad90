/- Parts of the proof. -/
import Derived.Test.YthbplhglfjlngaaGNs
import Derived.Test.YthbplhglfjlngaaGNn

set_option linter.unusedVariables false
set_option linter.unusedSimpArgs false
namespace Go.Proofs.Ythbplhglfjlngaa
open Go.RowKit Go.Rg Go.Wd
attribute [local go_sem] Oper.semAt_some
theorem size_p3 : (Try.prog.info? 30).map (·.size) = some 2 := by kernel_rfl

set_option maxRecDepth 100000 in
theorem ref_any (x y : Int) (w : World) :
    Calls Try.prog 7 #[pV x y] w fun e w' => e = .returned (.agg #[.int .i64 x, .int .i64 y]) ∧ Below w.heap.size w w' := by
  obtain ⟨W0, hW0⟩ : ∃ W0, [.cells #[.int .i64 x, .int .i64 y] 23, .cells #[.int .i64 0, .int .i64 0] 30].foldl World.alloc w = W0 := ⟨_, rfl⟩
  have B0 : Blk W0 w.heap.size [.int .i64 x, .int .i64 y] 23 := Blk.allocs _ hW0 0 rfl
  have B1 : Blk W0 (w.heap.size + 1) [.int .i64 0, .int .i64 0] 30 := Blk.allocs _ hW0 1 rfl
  have HB : Below w.heap.size w W0 := hW0 ▸ allocs_below _ w
  have hsz : W0.heap.size = w.heap.size + 2 := hW0 ▸ allocs_size _ w
  simp only [List.foldl_cons, List.foldl_nil] at hW0
  obtain ⟨x0, x1⟩ := c2 B0
  obtain ⟨y0, y1⟩ := c2 B1
  have f0 := B1.frozen 0
  have f1 := B1.frozen 1
  go_enter Try.func7, Try.ntmps7
  go_upto_region 1 with (fail)
  (try rw [hW0])
  clear hW0
  go_wp2_with fail
  have hC : Blk ((W0.setCell ⟨w.heap.size + 1, 0, none⟩ (.int .i64 x)).setCell ⟨w.heap.size + 1, 1, none⟩ (.int .i64 y)) (w.heap.size + 1) [.int .i64 x, .int .i64 y] 30 := (B1.set 0 _).set 1 _
  obtain ⟨s0, s1⟩ := c2 hC
  refine bodyPost_ret (v := .agg #[.int .i64 x, .int .i64 y]) (by simp [results, Try.results7, go_sem, s0, s1]) rfl ⟨rfl, ?_⟩
  exact (HB.setCell (p := ⟨w.heap.size + 1, 0, none⟩) (show w.heap.size ≤ w.heap.size + 1 from Nat.le_succ _) _).setCell (p := ⟨w.heap.size + 1, 1, none⟩) (show w.heap.size ≤ w.heap.size + 1 from Nat.le_succ _) _

set_option maxRecDepth 100000 in
theorem right3_0 (x y : Int) (h0 : ¬ -2199023255552 ≤ x) (w : World) :
    Calls Try.prog 6 #[.agg #[.int .i64 x, .int .i64 y]] w fun e w' => e = .returned (.bool false) ∧ Below w.heap.size w w' := by
  obtain ⟨W0, hW0⟩ : ∃ W0, [.cells #[.int .i64 x, .int .i64 y] 30].foldl World.alloc w = W0 := ⟨_, rfl⟩
  have B0 : Blk W0 (w.heap.size) ([.int .i64 x, .int .i64 y]) 30 := Blk.allocs _ hW0 0 rfl
  have HB : Below w.heap.size w W0 := hW0 ▸ allocs_below _ w
  have hsz : W0.heap.size = w.heap.size + 1 := hW0 ▸ allocs_size _ w
  replace hsz : w.heap.size + 1 ≤ W0.heap.size := Nat.le_of_eq hsz.symm
  simp only [List.foldl_cons, List.foldl_nil] at hW0
  have d0 : decide (-2199023255552 ≤ x) = false := by simpa using h0
  go_enter Try.func6, Try.ntmps6
  go_upto_region 1 with (fail)
  clear hW0
  refine calm_plain (by kernel_rfl) ?_
  refine calm_none (by kernel_rfl) ?_
  refine cW ?_ ?_ ?_
  refine cX ?_ ?_ (by intro wz hSw; obtain ⟨q0, q1⟩ := c2 (B0.stay hSw.1 (by simp <;> omega)); go_simp; all_goals (with_reducible rfl)) ?_
  refine cW ?_ ?_ ?_
  refine cW ?_ ?_ ?_
  refine cS ?_ ?_
  refine cS ?_ ?_
  refine cS ?_ ?_
  refine cW ?_ ?_ ?_
  refine cW ?_ ?_ ?_
  refine cS ?_ ?_
  refine cS ?_ ?_
  refine cS ?_ ?_
  refine cW ?_ ?_ ?_
  refine cW ?_ ?_ ?_
  refine cS ?_ ?_
  refine cS ?_ ?_
  refine cS ?_ ?_
  refine cW ?_ ?_ ?_
  refine cW ?_ ?_ ?_
  refine calm_end ?_
  intro w1 hS
  have hS := Stay.of_below hS
  have B0 := B0.stay hS (by simp <;> omega)
  have hz1 : W0.heap.size ≤ w1.heap.size := hS.size
  have HB := grow_stay HB hS (by simp <;> omega) (by omega)
  clear hS
  go_wp2_with fail
  go_ret
  exact ⟨rfl, HB⟩

set_option maxRecDepth 100000 in
theorem right3_1 (x y : Int) (h0 : -2199023255552 ≤ x) (h1 : ¬ x ≤ 2199023255552) (w : World) :
    Calls Try.prog 6 #[.agg #[.int .i64 x, .int .i64 y]] w fun e w' => e = .returned (.bool false) ∧ Below w.heap.size w w' := by
  obtain ⟨W0, hW0⟩ : ∃ W0, [.cells #[.int .i64 x, .int .i64 y] 30].foldl World.alloc w = W0 := ⟨_, rfl⟩
  have B0 : Blk W0 (w.heap.size) ([.int .i64 x, .int .i64 y]) 30 := Blk.allocs _ hW0 0 rfl
  have HB : Below w.heap.size w W0 := hW0 ▸ allocs_below _ w
  have hsz : W0.heap.size = w.heap.size + 1 := hW0 ▸ allocs_size _ w
  replace hsz : w.heap.size + 1 ≤ W0.heap.size := Nat.le_of_eq hsz.symm
  simp only [List.foldl_cons, List.foldl_nil] at hW0
  have d0 : decide (-2199023255552 ≤ x) = true := by simpa using h0
  have d1 : decide (x ≤ 2199023255552) = false := by simpa using h1
  go_enter Try.func6, Try.ntmps6
  go_upto_region 1 with (fail)
  clear hW0
  refine calm_plain (by kernel_rfl) ?_
  refine calm_none (by kernel_rfl) ?_
  refine cW ?_ ?_ ?_
  refine cX ?_ ?_ (by intro wz hSw; obtain ⟨q0, q1⟩ := c2 (B0.stay hSw.1 (by simp <;> omega)); go_simp; all_goals (with_reducible rfl)) ?_
  refine cW ?_ ?_ ?_
  refine cW ?_ ?_ ?_
  refine cW ?_ ?_ ?_
  refine cX ?_ ?_ (by intro wz hSw; obtain ⟨q0, q1⟩ := c2 (B0.stay hSw.1 (by simp <;> omega)); go_simp; all_goals (with_reducible rfl)) ?_
  refine cW ?_ ?_ ?_
  refine cW ?_ ?_ ?_
  refine cW ?_ ?_ ?_
  refine cS ?_ ?_
  refine cS ?_ ?_
  refine cS ?_ ?_
  refine cW ?_ ?_ ?_
  refine cW ?_ ?_ ?_
  refine cS ?_ ?_
  refine cS ?_ ?_
  refine cS ?_ ?_
  refine cW ?_ ?_ ?_
  refine cW ?_ ?_ ?_
  refine calm_end ?_
  intro w1 hS
  have hS := Stay.of_below hS
  have B0 := B0.stay hS (by simp <;> omega)
  have hz1 : W0.heap.size ≤ w1.heap.size := hS.size
  have HB := grow_stay HB hS (by simp <;> omega) (by omega)
  clear hS
  go_wp2_with fail
  go_ret
  exact ⟨rfl, HB⟩

set_option maxRecDepth 100000 in
theorem right3_2 (x y : Int) (h0 : -2199023255552 ≤ x) (h1 : x ≤ 2199023255552) (h2 : ¬ -2199023255552 ≤ y) (w : World) :
    Calls Try.prog 6 #[.agg #[.int .i64 x, .int .i64 y]] w fun e w' => e = .returned (.bool false) ∧ Below w.heap.size w w' := by
  obtain ⟨W0, hW0⟩ : ∃ W0, [.cells #[.int .i64 x, .int .i64 y] 30].foldl World.alloc w = W0 := ⟨_, rfl⟩
  have B0 : Blk W0 (w.heap.size) ([.int .i64 x, .int .i64 y]) 30 := Blk.allocs _ hW0 0 rfl
  have HB : Below w.heap.size w W0 := hW0 ▸ allocs_below _ w
  have hsz : W0.heap.size = w.heap.size + 1 := hW0 ▸ allocs_size _ w
  replace hsz : w.heap.size + 1 ≤ W0.heap.size := Nat.le_of_eq hsz.symm
  simp only [List.foldl_cons, List.foldl_nil] at hW0
  have d0 : decide (-2199023255552 ≤ x) = true := by simpa using h0
  have d1 : decide (x ≤ 2199023255552) = true := by simpa using h1
  have d2 : decide (-2199023255552 ≤ y) = false := by simpa using h2
  go_enter Try.func6, Try.ntmps6
  go_upto_region 1 with (fail)
  clear hW0
  refine calm_plain (by kernel_rfl) ?_
  refine calm_none (by kernel_rfl) ?_
  refine cW ?_ ?_ ?_
  refine cX ?_ ?_ (by intro wz hSw; obtain ⟨q0, q1⟩ := c2 (B0.stay hSw.1 (by simp <;> omega)); go_simp; all_goals (with_reducible rfl)) ?_
  refine cW ?_ ?_ ?_
  refine cW ?_ ?_ ?_
  refine cW ?_ ?_ ?_
  refine cX ?_ ?_ (by intro wz hSw; obtain ⟨q0, q1⟩ := c2 (B0.stay hSw.1 (by simp <;> omega)); go_simp; all_goals (with_reducible rfl)) ?_
  refine cW ?_ ?_ ?_
  refine cW ?_ ?_ ?_
  refine cW ?_ ?_ ?_
  refine cW ?_ ?_ ?_
  refine cX ?_ ?_ (by intro wz hSw; obtain ⟨q0, q1⟩ := c2 (B0.stay hSw.1 (by simp <;> omega)); go_simp; all_goals (with_reducible rfl)) ?_
  refine cW ?_ ?_ ?_
  refine cW ?_ ?_ ?_
  refine cW ?_ ?_ ?_
  refine cS ?_ ?_
  refine cS ?_ ?_
  refine cS ?_ ?_
  refine cW ?_ ?_ ?_
  refine cW ?_ ?_ ?_
  refine calm_end ?_
  intro w1 hS
  have hS := Stay.of_below hS
  have B0 := B0.stay hS (by simp <;> omega)
  have hz1 : W0.heap.size ≤ w1.heap.size := hS.size
  have HB := grow_stay HB hS (by simp <;> omega) (by omega)
  clear hS
  go_wp2_with fail
  go_ret
  exact ⟨rfl, HB⟩

set_option maxRecDepth 100000 in
theorem right3_3 (x y : Int) (h0 : -2199023255552 ≤ x) (h1 : x ≤ 2199023255552) (h2 : -2199023255552 ≤ y) (h3 : ¬ y ≤ 2199023255552) (w : World) :
    Calls Try.prog 6 #[.agg #[.int .i64 x, .int .i64 y]] w fun e w' => e = .returned (.bool false) ∧ Below w.heap.size w w' := by
  obtain ⟨W0, hW0⟩ : ∃ W0, [.cells #[.int .i64 x, .int .i64 y] 30].foldl World.alloc w = W0 := ⟨_, rfl⟩
  have B0 : Blk W0 (w.heap.size) ([.int .i64 x, .int .i64 y]) 30 := Blk.allocs _ hW0 0 rfl
  have HB : Below w.heap.size w W0 := hW0 ▸ allocs_below _ w
  have hsz : W0.heap.size = w.heap.size + 1 := hW0 ▸ allocs_size _ w
  replace hsz : w.heap.size + 1 ≤ W0.heap.size := Nat.le_of_eq hsz.symm
  simp only [List.foldl_cons, List.foldl_nil] at hW0
  have d0 : decide (-2199023255552 ≤ x) = true := by simpa using h0
  have d1 : decide (x ≤ 2199023255552) = true := by simpa using h1
  have d2 : decide (-2199023255552 ≤ y) = true := by simpa using h2
  have d3 : decide (y ≤ 2199023255552) = false := by simpa using h3
  go_enter Try.func6, Try.ntmps6
  go_upto_region 1 with (fail)
  clear hW0
  refine calm_plain (by kernel_rfl) ?_
  refine calm_none (by kernel_rfl) ?_
  refine cW ?_ ?_ ?_
  refine cX ?_ ?_ (by intro wz hSw; obtain ⟨q0, q1⟩ := c2 (B0.stay hSw.1 (by simp <;> omega)); go_simp; all_goals (with_reducible rfl)) ?_
  refine cW ?_ ?_ ?_
  refine cW ?_ ?_ ?_
  refine cW ?_ ?_ ?_
  refine cX ?_ ?_ (by intro wz hSw; obtain ⟨q0, q1⟩ := c2 (B0.stay hSw.1 (by simp <;> omega)); go_simp; all_goals (with_reducible rfl)) ?_
  refine cW ?_ ?_ ?_
  refine cW ?_ ?_ ?_
  refine cW ?_ ?_ ?_
  refine cW ?_ ?_ ?_
  refine cX ?_ ?_ (by intro wz hSw; obtain ⟨q0, q1⟩ := c2 (B0.stay hSw.1 (by simp <;> omega)); go_simp; all_goals (with_reducible rfl)) ?_
  refine cW ?_ ?_ ?_
  refine cW ?_ ?_ ?_
  refine cW ?_ ?_ ?_
  refine cW ?_ ?_ ?_
  refine cX ?_ ?_ (by intro wz hSw; obtain ⟨q0, q1⟩ := c2 (B0.stay hSw.1 (by simp <;> omega)); go_simp; all_goals (with_reducible rfl)) ?_
  refine cW ?_ ?_ ?_
  refine cW ?_ ?_ ?_
  refine cW ?_ ?_ ?_
  refine calm_end ?_
  intro w1 hS
  have hS := Stay.of_below hS
  have B0 := B0.stay hS (by simp <;> omega)
  have hz1 : W0.heap.size ≤ w1.heap.size := hS.size
  have HB := grow_stay HB hS (by simp <;> omega) (by omega)
  clear hS
  go_wp2_with fail
  go_ret
  exact ⟨rfl, HB⟩

set_option maxRecDepth 100000 in
theorem right3_4 (x y : Int) (h0 : -2199023255552 ≤ x) (h1 : x ≤ 2199023255552) (h2 : -2199023255552 ≤ y) (h3 : y ≤ 2199023255552) (w : World) :
    Calls Try.prog 6 #[.agg #[.int .i64 x, .int .i64 y]] w fun e w' => e = .returned (.bool true) ∧ Below w.heap.size w w' := by
  obtain ⟨W0, hW0⟩ : ∃ W0, [.cells #[.int .i64 x, .int .i64 y] 30].foldl World.alloc w = W0 := ⟨_, rfl⟩
  have B0 : Blk W0 (w.heap.size) ([.int .i64 x, .int .i64 y]) 30 := Blk.allocs _ hW0 0 rfl
  have HB : Below w.heap.size w W0 := hW0 ▸ allocs_below _ w
  have hsz : W0.heap.size = w.heap.size + 1 := hW0 ▸ allocs_size _ w
  replace hsz : w.heap.size + 1 ≤ W0.heap.size := Nat.le_of_eq hsz.symm
  simp only [List.foldl_cons, List.foldl_nil] at hW0
  have d0 : decide (-2199023255552 ≤ x) = true := by simpa using h0
  have d1 : decide (x ≤ 2199023255552) = true := by simpa using h1
  have d2 : decide (-2199023255552 ≤ y) = true := by simpa using h2
  have d3 : decide (y ≤ 2199023255552) = true := by simpa using h3
  go_enter Try.func6, Try.ntmps6
  go_upto_region 1 with (fail)
  clear hW0
  refine calm_plain (by kernel_rfl) ?_
  refine calm_none (by kernel_rfl) ?_
  refine cW ?_ ?_ ?_
  refine cX ?_ ?_ (by intro wz hSw; obtain ⟨q0, q1⟩ := c2 (B0.stay hSw.1 (by simp <;> omega)); go_simp; all_goals (with_reducible rfl)) ?_
  refine cW ?_ ?_ ?_
  refine cW ?_ ?_ ?_
  refine cW ?_ ?_ ?_
  refine cX ?_ ?_ (by intro wz hSw; obtain ⟨q0, q1⟩ := c2 (B0.stay hSw.1 (by simp <;> omega)); go_simp; all_goals (with_reducible rfl)) ?_
  refine cW ?_ ?_ ?_
  refine cW ?_ ?_ ?_
  refine cW ?_ ?_ ?_
  refine cW ?_ ?_ ?_
  refine cX ?_ ?_ (by intro wz hSw; obtain ⟨q0, q1⟩ := c2 (B0.stay hSw.1 (by simp <;> omega)); go_simp; all_goals (with_reducible rfl)) ?_
  refine cW ?_ ?_ ?_
  refine cW ?_ ?_ ?_
  refine cW ?_ ?_ ?_
  refine cW ?_ ?_ ?_
  refine cX ?_ ?_ (by intro wz hSw; obtain ⟨q0, q1⟩ := c2 (B0.stay hSw.1 (by simp <;> omega)); go_simp; all_goals (with_reducible rfl)) ?_
  refine cW ?_ ?_ ?_
  refine cW ?_ ?_ ?_
  refine cW ?_ ?_ ?_
  refine calm_end ?_
  intro w1 hS
  have hS := Stay.of_below hS
  have B0 := B0.stay hS (by simp <;> omega)
  have hz1 : W0.heap.size ≤ w1.heap.size := hS.size
  have HB := grow_stay HB hS (by simp <;> omega) (by omega)
  clear hS
  go_wp2_with fail
  go_ret
  exact ⟨rfl, HB⟩

theorem right3_any (x y : Int) (b : Bool) (h : ptB x y = b) (w : World) :
    Calls Try.prog 6 #[.agg #[.int .i64 x, .int .i64 y]] w fun e w' => e = .returned (.bool b) ∧ Below w.heap.size w w' := by
  subst h
  by_cases h0 : -2199023255552 ≤ x
  · by_cases h1 : x ≤ 2199023255552
    · by_cases h2 : -2199023255552 ≤ y
      · by_cases h3 : y ≤ 2199023255552
        · have e : ptB x y = true := by unfold ptB; rw [Bool.and_eq_true, inB_iff, inB_iff]; exact ⟨⟨h0, h1⟩, h2, h3⟩
          rw [e]; exact right3_4 x y h0 h1 h2 h3 w
        · have e : ptB x y = false := by rw [Bool.eq_false_iff]; intro h; unfold ptB at h; rw [Bool.and_eq_true, inB_iff, inB_iff] at h; exact h3 h.2.2
          rw [e]; exact right3_3 x y h0 h1 h2 h3 w
      · have e : ptB x y = false := by rw [Bool.eq_false_iff]; intro h; unfold ptB at h; rw [Bool.and_eq_true, inB_iff, inB_iff] at h; exact h2 h.2.1
        rw [e]; exact right3_2 x y h0 h1 h2 w
    · have e : ptB x y = false := by rw [Bool.eq_false_iff]; intro h; unfold ptB at h; rw [Bool.and_eq_true, inB_iff, inB_iff] at h; exact h1 h.1.2
      rw [e]; exact right3_1 x y h0 h1 w
  · have e : ptB x y = false := by rw [Bool.eq_false_iff]; intro h; unfold ptB at h; rw [Bool.and_eq_true, inB_iff, inB_iff] at h; exact h0 h.1.1
    rw [e]; exact right3_0 x y h0 w
theorem near_Z (a b c d cx cy size rounds : Int) (R : Bool) (h : nearZ a b c d cx cy size rounds = R) (w : World) (hg : sgB a b c d = true) (hc : ptB cx cy = true) (hs : szB size = true) (h1 : 0 ≤ rounds) (h2 : rounds ≤ 64) :
    Calls Try.prog 5 #[gV a b c d, pV cx cy, .int .i64 size, .int .i64 rounds] w fun e w' => e = .returned (.bool R) ∧ Below w.heap.size w w' := by
  subst h
  exact near_any a b c d cx cy size rounds hs hg hc h1 h2 w
theorem near17_Z (a b c d cx cy size rounds : Int) (R : Bool) (h : nearZ a b c d cx cy size rounds = R) (w : World) (hg : sgB a b c d = true) (hc : ptB cx cy = true) (hs : szB size = true) (h1 : 0 ≤ rounds) (h2 : rounds ≤ 64) :
    Calls Try.prog 9 #[.agg #[.int .i64 a, .int .i64 b], .agg #[.int .i64 c, .int .i64 d], .int .i64 (2 * cx * size), .int .i64 (2 * cy * size), .int .i64 (rounds * size)] w fun e w' => e = .returned (.bool R) ∧ Below w.heap.size w w' := by
  subst h
  unfold sgB ptB at hg
  unfold ptB at hc
  simp only [Bool.and_eq_true, inB_iff] at hg hc
  rw [szB_iff] at hs
  have px := prod_bd (c := cx) hc.1.1 hc.1.2 hs.1 hs.2
  have py := prod_bd (c := cy) hc.2.1 hc.2.2 hs.1 hs.2
  have pf := far_bd h1 h2 hs.1 hs.2
  rw [← docN_near a b c d cx cy size rounds pf.1]
  exact near17_any a b c d _ _ _ w (by omega) (by omega) (by omega) (by omega) (by omega) (by omega) pf.1 pf.2

set_option maxRecDepth 100000 in
set_option maxHeartbeats 4000000 in
theorem ln_0 (a b c d cx cy size rounds : Int) (h0 : size < 1)  (hn : ¬ (szB size = true ∧ sgB a b c d = true ∧ ptB cx cy = true ∧ 0 ≤ rounds ∧ rounds ≤ 64)) (w : World) :
    Calls Try.prog 3 #[.agg #[.int .i64 a, .int .i64 b, .int .i64 c, .int .i64 d, .int .i64 cx, .int .i64 cy, .int .i64 size, .int .i64 rounds]] w fun e w' => e = .returned (.bool true) ∧ Below w.heap.size w w' := by
  obtain ⟨W0, hW0⟩ : ∃ W0, [.cells #[.int .i64 a, .int .i64 b, .int .i64 c, .int .i64 d, .int .i64 cx, .int .i64 cy, .int .i64 size, .int .i64 rounds] 27].foldl World.alloc w = W0 := ⟨_, rfl⟩
  have B0 : Blk W0 (w.heap.size) ([.int .i64 a, .int .i64 b, .int .i64 c, .int .i64 d, .int .i64 cx, .int .i64 cy, .int .i64 size, .int .i64 rounds]) 27 := Blk.allocs _ hW0 0 rfl
  have HB : Below w.heap.size w W0 := hW0 ▸ allocs_below _ w
  have hsz : W0.heap.size = w.heap.size + 1 := hW0 ▸ allocs_size _ w
  replace hsz : w.heap.size + 1 ≤ W0.heap.size := Nat.le_of_eq hsz.symm
  simp only [List.foldl_cons, List.foldl_nil] at hW0
  have d0 : decide (size < 1) = true := by simpa using h0
  have HN := Lib.hid hn
  clear hn
  clear h0
  go_enter Try.func3, Try.ntmps3
  go_upto_region 1 with (fail)
  clear hW0
  refine calm_plain (by kernel_rfl) ?_
  refine calm_none (by kernel_rfl) ?_
  refine cW ?_ ?_ ?_
  refine cX ?_ ?_ (by intro wz hSw; obtain ⟨q0, q1, q2, q3, q4, q5, q6, q7⟩ := c8 (B0.stay hSw.1 (by simp <;> omega)); go_simp; all_goals (with_reducible rfl)) ?_
  refine cW ?_ ?_ ?_
  refine cX ?_ ?_ (by intro wz hSw; obtain ⟨q0, q1, q2, q3, q4, q5, q6, q7⟩ := c8 (B0.stay hSw.1 (by simp <;> omega)); go_simp; all_goals (with_reducible rfl)) ?_
  refine cW ?_ ?_ ?_
  refine cX ?_ ?_ (by intro wz hSw; obtain ⟨q0, q1, q2, q3, q4, q5, q6, q7⟩ := c8 (B0.stay hSw.1 (by simp <;> omega)); go_simp; all_goals (with_reducible rfl)) ?_
  refine cW ?_ ?_ ?_
  refine cX ?_ ?_ (by intro wz hSw; obtain ⟨q0, q1, q2, q3, q4, q5, q6, q7⟩ := c8 (B0.stay hSw.1 (by simp <;> omega)); go_simp; all_goals (with_reducible rfl)) ?_
  refine cC ?_ ?_ ?_ ?_ ?hc6_8 ?_
  case hc6_8 => (intro w hSw; exact near_no a b c d cx cy size rounds HN.out w)
  refine cW ?_ ?_ ?_
  refine calm_end ?_
  intro w1 hS
  have hS := Stay.of_below hS
  have B0 := B0.stay hS (by simp <;> omega)
  have hz1 : W0.heap.size ≤ w1.heap.size := hS.size
  have HB := grow_stay HB hS (by simp <;> omega) (by omega)
  clear hS
  go_upto_region 2 with (fail)
  refine calm_plain (by kernel_rfl) ?_
  refine calm_none (by kernel_rfl) ?_
  refine cW ?_ ?_ ?_
  refine cX ?_ ?_ (by intro wz hSw; obtain ⟨q0, q1, q2, q3, q4, q5, q6, q7⟩ := c8 (B0.stay hSw.1 (by simp <;> omega)); go_simp; all_goals (with_reducible rfl)) ?_
  refine cW ?_ ?_ ?_
  refine cW ?_ ?_ ?_
  refine cS ?_ ?_
  refine cS ?_ ?_
  refine cS ?_ ?_
  refine cW ?_ ?_ ?_
  refine cW ?_ ?_ ?_
  refine cS ?_ ?_
  refine cS ?_ ?_
  refine cS ?_ ?_
  refine cW ?_ ?_ ?_
  refine cW ?_ ?_ ?_
  refine cS ?_ ?_
  refine cS ?_ ?_
  refine cS ?_ ?_
  refine cW ?_ ?_ ?_
  refine cW ?_ ?_ ?_
  refine cS ?_ ?_
  refine cS ?_ ?_
  refine cS ?_ ?_
  refine cS ?_ ?_
  refine cS ?_ ?_
  refine cS ?_ ?_
  refine cW ?_ ?_ ?_
  refine cW ?_ ?_ ?_
  refine cS ?_ ?_
  refine cS ?_ ?_
  refine cS ?_ ?_
  refine cS ?_ ?_
  refine cS ?_ ?_
  refine cS ?_ ?_
  refine cW ?_ ?_ ?_
  refine cW ?_ ?_ ?_
  refine cS ?_ ?_
  refine cS ?_ ?_
  refine cS ?_ ?_
  refine cS ?_ ?_
  refine cS ?_ ?_
  refine cW ?_ ?_ ?_
  refine calm_end ?_
  intro w2 hS
  have hS := Stay.of_below hS
  have B0 := B0.stay hS (by simp <;> omega)
  have hz2 : w1.heap.size ≤ w2.heap.size := hS.size
  have HB := grow_stay HB hS (by simp <;> omega) (by omega)
  clear hS
  go_upto_region 3 with (fail)
  refine calm_plain (by kernel_rfl) ?_
  refine calm_none (by kernel_rfl) ?_
  refine cW ?_ ?_ ?_
  refine cW ?_ ?_ ?_
  refine cW ?_ ?_ ?_
  refine cC ?_ ?_ ?_ ?_ ?hc8_3 ?_
  case hc8_3 => (intro w hSw; exact awake17_any w)
  refine cW ?_ ?_ ?_
  refine cW ?_ ?_ ?_
  refine calm_end ?_
  intro w3 hS
  have hS := Stay.of_below hS
  have B0 := B0.stay hS (by simp <;> omega)
  have hz3 : w2.heap.size ≤ w3.heap.size := hS.size
  have HB := grow_stay HB hS (by simp <;> omega) (by omega)
  clear hS
  go_wp2_with fail
  go_ret
  exact ⟨rfl, HB⟩

set_option maxRecDepth 100000 in
set_option maxHeartbeats 4000000 in
theorem ln_1 (a b c d cx cy size rounds : Int) (h0 : ¬ size < 1) (h1 : 1048576 < size)  (hn : ¬ (szB size = true ∧ sgB a b c d = true ∧ ptB cx cy = true ∧ 0 ≤ rounds ∧ rounds ≤ 64)) (w : World) :
    Calls Try.prog 3 #[.agg #[.int .i64 a, .int .i64 b, .int .i64 c, .int .i64 d, .int .i64 cx, .int .i64 cy, .int .i64 size, .int .i64 rounds]] w fun e w' => e = .returned (.bool true) ∧ Below w.heap.size w w' := by
  obtain ⟨W0, hW0⟩ : ∃ W0, [.cells #[.int .i64 a, .int .i64 b, .int .i64 c, .int .i64 d, .int .i64 cx, .int .i64 cy, .int .i64 size, .int .i64 rounds] 27].foldl World.alloc w = W0 := ⟨_, rfl⟩
  have B0 : Blk W0 (w.heap.size) ([.int .i64 a, .int .i64 b, .int .i64 c, .int .i64 d, .int .i64 cx, .int .i64 cy, .int .i64 size, .int .i64 rounds]) 27 := Blk.allocs _ hW0 0 rfl
  have HB : Below w.heap.size w W0 := hW0 ▸ allocs_below _ w
  have hsz : W0.heap.size = w.heap.size + 1 := hW0 ▸ allocs_size _ w
  replace hsz : w.heap.size + 1 ≤ W0.heap.size := Nat.le_of_eq hsz.symm
  simp only [List.foldl_cons, List.foldl_nil] at hW0
  have d0 : decide (size < 1) = false := by simpa using h0
  have d1 : decide (1048576 < size) = true := by simpa using h1
  have HN := Lib.hid hn
  clear hn
  clear h0
  clear h1
  go_enter Try.func3, Try.ntmps3
  go_upto_region 1 with (fail)
  clear hW0
  refine calm_plain (by kernel_rfl) ?_
  refine calm_none (by kernel_rfl) ?_
  refine cW ?_ ?_ ?_
  refine cX ?_ ?_ (by intro wz hSw; obtain ⟨q0, q1, q2, q3, q4, q5, q6, q7⟩ := c8 (B0.stay hSw.1 (by simp <;> omega)); go_simp; all_goals (with_reducible rfl)) ?_
  refine cW ?_ ?_ ?_
  refine cX ?_ ?_ (by intro wz hSw; obtain ⟨q0, q1, q2, q3, q4, q5, q6, q7⟩ := c8 (B0.stay hSw.1 (by simp <;> omega)); go_simp; all_goals (with_reducible rfl)) ?_
  refine cW ?_ ?_ ?_
  refine cX ?_ ?_ (by intro wz hSw; obtain ⟨q0, q1, q2, q3, q4, q5, q6, q7⟩ := c8 (B0.stay hSw.1 (by simp <;> omega)); go_simp; all_goals (with_reducible rfl)) ?_
  refine cW ?_ ?_ ?_
  refine cX ?_ ?_ (by intro wz hSw; obtain ⟨q0, q1, q2, q3, q4, q5, q6, q7⟩ := c8 (B0.stay hSw.1 (by simp <;> omega)); go_simp; all_goals (with_reducible rfl)) ?_
  refine cC ?_ ?_ ?_ ?_ ?hc9_8 ?_
  case hc9_8 => (intro w hSw; exact near_no a b c d cx cy size rounds HN.out w)
  refine cW ?_ ?_ ?_
  refine calm_end ?_
  intro w1 hS
  have hS := Stay.of_below hS
  have B0 := B0.stay hS (by simp <;> omega)
  have hz1 : W0.heap.size ≤ w1.heap.size := hS.size
  have HB := grow_stay HB hS (by simp <;> omega) (by omega)
  clear hS
  go_upto_region 2 with (fail)
  refine calm_plain (by kernel_rfl) ?_
  refine calm_none (by kernel_rfl) ?_
  refine cW ?_ ?_ ?_
  refine cX ?_ ?_ (by intro wz hSw; obtain ⟨q0, q1, q2, q3, q4, q5, q6, q7⟩ := c8 (B0.stay hSw.1 (by simp <;> omega)); go_simp; all_goals (with_reducible rfl)) ?_
  refine cW ?_ ?_ ?_
  refine cW ?_ ?_ ?_
  refine cW ?_ ?_ ?_
  refine cX ?_ ?_ (by intro wz hSw; obtain ⟨q0, q1, q2, q3, q4, q5, q6, q7⟩ := c8 (B0.stay hSw.1 (by simp <;> omega)); go_simp; all_goals (with_reducible rfl)) ?_
  refine cW ?_ ?_ ?_
  refine cW ?_ ?_ ?_
  refine cW ?_ ?_ ?_
  refine cS ?_ ?_
  refine cS ?_ ?_
  refine cS ?_ ?_
  refine cW ?_ ?_ ?_
  refine cW ?_ ?_ ?_
  refine cS ?_ ?_
  refine cS ?_ ?_
  refine cS ?_ ?_
  refine cW ?_ ?_ ?_
  refine cW ?_ ?_ ?_
  refine cS ?_ ?_
  refine cS ?_ ?_
  refine cS ?_ ?_
  refine cS ?_ ?_
  refine cS ?_ ?_
  refine cS ?_ ?_
  refine cW ?_ ?_ ?_
  refine cW ?_ ?_ ?_
  refine cS ?_ ?_
  refine cS ?_ ?_
  refine cS ?_ ?_
  refine cS ?_ ?_
  refine cS ?_ ?_
  refine cS ?_ ?_
  refine cW ?_ ?_ ?_
  refine cW ?_ ?_ ?_
  refine cS ?_ ?_
  refine cS ?_ ?_
  refine cS ?_ ?_
  refine cS ?_ ?_
  refine cS ?_ ?_
  refine cW ?_ ?_ ?_
  refine calm_end ?_
  intro w2 hS
  have hS := Stay.of_below hS
  have B0 := B0.stay hS (by simp <;> omega)
  have hz2 : w1.heap.size ≤ w2.heap.size := hS.size
  have HB := grow_stay HB hS (by simp <;> omega) (by omega)
  clear hS
  go_upto_region 3 with (fail)
  refine calm_plain (by kernel_rfl) ?_
  refine calm_none (by kernel_rfl) ?_
  refine cW ?_ ?_ ?_
  refine cW ?_ ?_ ?_
  refine cW ?_ ?_ ?_
  refine cC ?_ ?_ ?_ ?_ ?hc11_3 ?_
  case hc11_3 => (intro w hSw; exact awake17_any w)
  refine cW ?_ ?_ ?_
  refine cW ?_ ?_ ?_
  refine calm_end ?_
  intro w3 hS
  have hS := Stay.of_below hS
  have B0 := B0.stay hS (by simp <;> omega)
  have hz3 : w2.heap.size ≤ w3.heap.size := hS.size
  have HB := grow_stay HB hS (by simp <;> omega) (by omega)
  clear hS
  go_wp2_with fail
  go_ret
  exact ⟨rfl, HB⟩

set_option maxRecDepth 100000 in
set_option maxHeartbeats 4000000 in
theorem ln_2 (a b c d cx cy size rounds : Int) (h0 : ¬ size < 1) (h1 : ¬ 1048576 < size) (h2 : rounds < 0)  (hn : ¬ (szB size = true ∧ sgB a b c d = true ∧ ptB cx cy = true ∧ 0 ≤ rounds ∧ rounds ≤ 64)) (w : World) :
    Calls Try.prog 3 #[.agg #[.int .i64 a, .int .i64 b, .int .i64 c, .int .i64 d, .int .i64 cx, .int .i64 cy, .int .i64 size, .int .i64 rounds]] w fun e w' => e = .returned (.bool true) ∧ Below w.heap.size w w' := by
  obtain ⟨W0, hW0⟩ : ∃ W0, [.cells #[.int .i64 a, .int .i64 b, .int .i64 c, .int .i64 d, .int .i64 cx, .int .i64 cy, .int .i64 size, .int .i64 rounds] 27].foldl World.alloc w = W0 := ⟨_, rfl⟩
  have B0 : Blk W0 (w.heap.size) ([.int .i64 a, .int .i64 b, .int .i64 c, .int .i64 d, .int .i64 cx, .int .i64 cy, .int .i64 size, .int .i64 rounds]) 27 := Blk.allocs _ hW0 0 rfl
  have HB : Below w.heap.size w W0 := hW0 ▸ allocs_below _ w
  have hsz : W0.heap.size = w.heap.size + 1 := hW0 ▸ allocs_size _ w
  replace hsz : w.heap.size + 1 ≤ W0.heap.size := Nat.le_of_eq hsz.symm
  simp only [List.foldl_cons, List.foldl_nil] at hW0
  have d0 : decide (size < 1) = false := by simpa using h0
  have d1 : decide (1048576 < size) = false := by simpa using h1
  have d2 : decide (rounds < 0) = true := by simpa using h2
  have HN := Lib.hid hn
  clear hn
  clear h0
  clear h1
  clear h2
  go_enter Try.func3, Try.ntmps3
  go_upto_region 1 with (fail)
  clear hW0
  refine calm_plain (by kernel_rfl) ?_
  refine calm_none (by kernel_rfl) ?_
  refine cW ?_ ?_ ?_
  refine cX ?_ ?_ (by intro wz hSw; obtain ⟨q0, q1, q2, q3, q4, q5, q6, q7⟩ := c8 (B0.stay hSw.1 (by simp <;> omega)); go_simp; all_goals (with_reducible rfl)) ?_
  refine cW ?_ ?_ ?_
  refine cX ?_ ?_ (by intro wz hSw; obtain ⟨q0, q1, q2, q3, q4, q5, q6, q7⟩ := c8 (B0.stay hSw.1 (by simp <;> omega)); go_simp; all_goals (with_reducible rfl)) ?_
  refine cW ?_ ?_ ?_
  refine cX ?_ ?_ (by intro wz hSw; obtain ⟨q0, q1, q2, q3, q4, q5, q6, q7⟩ := c8 (B0.stay hSw.1 (by simp <;> omega)); go_simp; all_goals (with_reducible rfl)) ?_
  refine cW ?_ ?_ ?_
  refine cX ?_ ?_ (by intro wz hSw; obtain ⟨q0, q1, q2, q3, q4, q5, q6, q7⟩ := c8 (B0.stay hSw.1 (by simp <;> omega)); go_simp; all_goals (with_reducible rfl)) ?_
  refine cC ?_ ?_ ?_ ?_ ?hc12_8 ?_
  case hc12_8 => (intro w hSw; exact near_no a b c d cx cy size rounds HN.out w)
  refine cW ?_ ?_ ?_
  refine calm_end ?_
  intro w1 hS
  have hS := Stay.of_below hS
  have B0 := B0.stay hS (by simp <;> omega)
  have hz1 : W0.heap.size ≤ w1.heap.size := hS.size
  have HB := grow_stay HB hS (by simp <;> omega) (by omega)
  clear hS
  go_upto_region 2 with (fail)
  refine calm_plain (by kernel_rfl) ?_
  refine calm_none (by kernel_rfl) ?_
  refine cW ?_ ?_ ?_
  refine cX ?_ ?_ (by intro wz hSw; obtain ⟨q0, q1, q2, q3, q4, q5, q6, q7⟩ := c8 (B0.stay hSw.1 (by simp <;> omega)); go_simp; all_goals (with_reducible rfl)) ?_
  refine cW ?_ ?_ ?_
  refine cW ?_ ?_ ?_
  refine cW ?_ ?_ ?_
  refine cX ?_ ?_ (by intro wz hSw; obtain ⟨q0, q1, q2, q3, q4, q5, q6, q7⟩ := c8 (B0.stay hSw.1 (by simp <;> omega)); go_simp; all_goals (with_reducible rfl)) ?_
  refine cW ?_ ?_ ?_
  refine cW ?_ ?_ ?_
  refine cW ?_ ?_ ?_
  refine cW ?_ ?_ ?_
  refine cX ?_ ?_ (by intro wz hSw; obtain ⟨q0, q1, q2, q3, q4, q5, q6, q7⟩ := c8 (B0.stay hSw.1 (by simp <;> omega)); go_simp; all_goals (with_reducible rfl)) ?_
  refine cW ?_ ?_ ?_
  refine cW ?_ ?_ ?_
  refine cW ?_ ?_ ?_
  refine cS ?_ ?_
  refine cS ?_ ?_
  refine cS ?_ ?_
  refine cW ?_ ?_ ?_
  refine cW ?_ ?_ ?_
  refine cS ?_ ?_
  refine cS ?_ ?_
  refine cS ?_ ?_
  refine cS ?_ ?_
  refine cS ?_ ?_
  refine cS ?_ ?_
  refine cW ?_ ?_ ?_
  refine cW ?_ ?_ ?_
  refine cS ?_ ?_
  refine cS ?_ ?_
  refine cS ?_ ?_
  refine cS ?_ ?_
  refine cS ?_ ?_
  refine cS ?_ ?_
  refine cW ?_ ?_ ?_
  refine cW ?_ ?_ ?_
  refine cS ?_ ?_
  refine cS ?_ ?_
  refine cS ?_ ?_
  refine cS ?_ ?_
  refine cS ?_ ?_
  refine cW ?_ ?_ ?_
  refine calm_end ?_
  intro w2 hS
  have hS := Stay.of_below hS
  have B0 := B0.stay hS (by simp <;> omega)
  have hz2 : w1.heap.size ≤ w2.heap.size := hS.size
  have HB := grow_stay HB hS (by simp <;> omega) (by omega)
  clear hS
  go_upto_region 3 with (fail)
  refine calm_plain (by kernel_rfl) ?_
  refine calm_none (by kernel_rfl) ?_
  refine cW ?_ ?_ ?_
  refine cW ?_ ?_ ?_
  refine cW ?_ ?_ ?_
  refine cC ?_ ?_ ?_ ?_ ?hc14_3 ?_
  case hc14_3 => (intro w hSw; exact awake17_any w)
  refine cW ?_ ?_ ?_
  refine cW ?_ ?_ ?_
  refine calm_end ?_
  intro w3 hS
  have hS := Stay.of_below hS
  have B0 := B0.stay hS (by simp <;> omega)
  have hz3 : w2.heap.size ≤ w3.heap.size := hS.size
  have HB := grow_stay HB hS (by simp <;> omega) (by omega)
  clear hS
  go_wp2_with fail
  go_ret
  exact ⟨rfl, HB⟩

set_option maxRecDepth 100000 in
set_option maxHeartbeats 4000000 in
theorem ln_3 (a b c d cx cy size rounds : Int) (h0 : ¬ size < 1) (h1 : ¬ 1048576 < size) (h2 : ¬ rounds < 0) (h3 : 64 < rounds)  (hn : ¬ (szB size = true ∧ sgB a b c d = true ∧ ptB cx cy = true ∧ 0 ≤ rounds ∧ rounds ≤ 64)) (w : World) :
    Calls Try.prog 3 #[.agg #[.int .i64 a, .int .i64 b, .int .i64 c, .int .i64 d, .int .i64 cx, .int .i64 cy, .int .i64 size, .int .i64 rounds]] w fun e w' => e = .returned (.bool true) ∧ Below w.heap.size w w' := by
  obtain ⟨W0, hW0⟩ : ∃ W0, [.cells #[.int .i64 a, .int .i64 b, .int .i64 c, .int .i64 d, .int .i64 cx, .int .i64 cy, .int .i64 size, .int .i64 rounds] 27].foldl World.alloc w = W0 := ⟨_, rfl⟩
  have B0 : Blk W0 (w.heap.size) ([.int .i64 a, .int .i64 b, .int .i64 c, .int .i64 d, .int .i64 cx, .int .i64 cy, .int .i64 size, .int .i64 rounds]) 27 := Blk.allocs _ hW0 0 rfl
  have HB : Below w.heap.size w W0 := hW0 ▸ allocs_below _ w
  have hsz : W0.heap.size = w.heap.size + 1 := hW0 ▸ allocs_size _ w
  replace hsz : w.heap.size + 1 ≤ W0.heap.size := Nat.le_of_eq hsz.symm
  simp only [List.foldl_cons, List.foldl_nil] at hW0
  have d0 : decide (size < 1) = false := by simpa using h0
  have d1 : decide (1048576 < size) = false := by simpa using h1
  have d2 : decide (rounds < 0) = false := by simpa using h2
  have d3 : decide (64 < rounds) = true := by simpa using h3
  have HN := Lib.hid hn
  clear hn
  clear h0
  clear h1
  clear h2
  clear h3
  go_enter Try.func3, Try.ntmps3
  go_upto_region 1 with (fail)
  clear hW0
  refine calm_plain (by kernel_rfl) ?_
  refine calm_none (by kernel_rfl) ?_
  refine cW ?_ ?_ ?_
  refine cX ?_ ?_ (by intro wz hSw; obtain ⟨q0, q1, q2, q3, q4, q5, q6, q7⟩ := c8 (B0.stay hSw.1 (by simp <;> omega)); go_simp; all_goals (with_reducible rfl)) ?_
  refine cW ?_ ?_ ?_
  refine cX ?_ ?_ (by intro wz hSw; obtain ⟨q0, q1, q2, q3, q4, q5, q6, q7⟩ := c8 (B0.stay hSw.1 (by simp <;> omega)); go_simp; all_goals (with_reducible rfl)) ?_
  refine cW ?_ ?_ ?_
  refine cX ?_ ?_ (by intro wz hSw; obtain ⟨q0, q1, q2, q3, q4, q5, q6, q7⟩ := c8 (B0.stay hSw.1 (by simp <;> omega)); go_simp; all_goals (with_reducible rfl)) ?_
  refine cW ?_ ?_ ?_
  refine cX ?_ ?_ (by intro wz hSw; obtain ⟨q0, q1, q2, q3, q4, q5, q6, q7⟩ := c8 (B0.stay hSw.1 (by simp <;> omega)); go_simp; all_goals (with_reducible rfl)) ?_
  refine cC ?_ ?_ ?_ ?_ ?hc15_8 ?_
  case hc15_8 => (intro w hSw; exact near_no a b c d cx cy size rounds HN.out w)
  refine cW ?_ ?_ ?_
  refine calm_end ?_
  intro w1 hS
  have hS := Stay.of_below hS
  have B0 := B0.stay hS (by simp <;> omega)
  have hz1 : W0.heap.size ≤ w1.heap.size := hS.size
  have HB := grow_stay HB hS (by simp <;> omega) (by omega)
  clear hS
  go_upto_region 2 with (fail)
  refine calm_plain (by kernel_rfl) ?_
  refine calm_none (by kernel_rfl) ?_
  refine cW ?_ ?_ ?_
  refine cX ?_ ?_ (by intro wz hSw; obtain ⟨q0, q1, q2, q3, q4, q5, q6, q7⟩ := c8 (B0.stay hSw.1 (by simp <;> omega)); go_simp; all_goals (with_reducible rfl)) ?_
  refine cW ?_ ?_ ?_
  refine cW ?_ ?_ ?_
  refine cW ?_ ?_ ?_
  refine cX ?_ ?_ (by intro wz hSw; obtain ⟨q0, q1, q2, q3, q4, q5, q6, q7⟩ := c8 (B0.stay hSw.1 (by simp <;> omega)); go_simp; all_goals (with_reducible rfl)) ?_
  refine cW ?_ ?_ ?_
  refine cW ?_ ?_ ?_
  refine cW ?_ ?_ ?_
  refine cW ?_ ?_ ?_
  refine cX ?_ ?_ (by intro wz hSw; obtain ⟨q0, q1, q2, q3, q4, q5, q6, q7⟩ := c8 (B0.stay hSw.1 (by simp <;> omega)); go_simp; all_goals (with_reducible rfl)) ?_
  refine cW ?_ ?_ ?_
  refine cW ?_ ?_ ?_
  refine cW ?_ ?_ ?_
  refine cW ?_ ?_ ?_
  refine cX ?_ ?_ (by intro wz hSw; obtain ⟨q0, q1, q2, q3, q4, q5, q6, q7⟩ := c8 (B0.stay hSw.1 (by simp <;> omega)); go_simp; all_goals (with_reducible rfl)) ?_
  refine cW ?_ ?_ ?_
  refine cW ?_ ?_ ?_
  refine cW ?_ ?_ ?_
  refine cS ?_ ?_
  refine cS ?_ ?_
  refine cS ?_ ?_
  refine cS ?_ ?_
  refine cS ?_ ?_
  refine cS ?_ ?_
  refine cW ?_ ?_ ?_
  refine cW ?_ ?_ ?_
  refine cS ?_ ?_
  refine cS ?_ ?_
  refine cS ?_ ?_
  refine cS ?_ ?_
  refine cS ?_ ?_
  refine cS ?_ ?_
  refine cW ?_ ?_ ?_
  refine cW ?_ ?_ ?_
  refine cS ?_ ?_
  refine cS ?_ ?_
  refine cS ?_ ?_
  refine cS ?_ ?_
  refine cS ?_ ?_
  refine cW ?_ ?_ ?_
  refine calm_end ?_
  intro w2 hS
  have hS := Stay.of_below hS
  have B0 := B0.stay hS (by simp <;> omega)
  have hz2 : w1.heap.size ≤ w2.heap.size := hS.size
  have HB := grow_stay HB hS (by simp <;> omega) (by omega)
  clear hS
  go_upto_region 3 with (fail)
  refine calm_plain (by kernel_rfl) ?_
  refine calm_none (by kernel_rfl) ?_
  refine cW ?_ ?_ ?_
  refine cW ?_ ?_ ?_
  refine cW ?_ ?_ ?_
  refine cC ?_ ?_ ?_ ?_ ?hc17_3 ?_
  case hc17_3 => (intro w hSw; exact awake17_any w)
  refine cW ?_ ?_ ?_
  refine cW ?_ ?_ ?_
  refine calm_end ?_
  intro w3 hS
  have hS := Stay.of_below hS
  have B0 := B0.stay hS (by simp <;> omega)
  have hz3 : w2.heap.size ≤ w3.heap.size := hS.size
  have HB := grow_stay HB hS (by simp <;> omega) (by omega)
  clear hS
  go_wp2_with fail
  go_ret
  exact ⟨rfl, HB⟩

set_option maxRecDepth 100000 in
set_option maxHeartbeats 4000000 in
theorem ln_4 (a b c d cx cy size rounds : Int) (h0 : ¬ size < 1) (h1 : ¬ 1048576 < size) (h2 : ¬ rounds < 0) (h3 : ¬ 64 < rounds) (h4 : ptB a b = false) (hn : ¬ (szB size = true ∧ sgB a b c d = true ∧ ptB cx cy = true ∧ 0 ≤ rounds ∧ rounds ≤ 64)) (w : World) :
    Calls Try.prog 3 #[.agg #[.int .i64 a, .int .i64 b, .int .i64 c, .int .i64 d, .int .i64 cx, .int .i64 cy, .int .i64 size, .int .i64 rounds]] w fun e w' => e = .returned (.bool true) ∧ Below w.heap.size w w' := by
  obtain ⟨W0, hW0⟩ : ∃ W0, [.cells #[.int .i64 a, .int .i64 b, .int .i64 c, .int .i64 d, .int .i64 cx, .int .i64 cy, .int .i64 size, .int .i64 rounds] 27].foldl World.alloc w = W0 := ⟨_, rfl⟩
  have B0 : Blk W0 (w.heap.size) ([.int .i64 a, .int .i64 b, .int .i64 c, .int .i64 d, .int .i64 cx, .int .i64 cy, .int .i64 size, .int .i64 rounds]) 27 := Blk.allocs _ hW0 0 rfl
  have HB : Below w.heap.size w W0 := hW0 ▸ allocs_below _ w
  have hsz : W0.heap.size = w.heap.size + 1 := hW0 ▸ allocs_size _ w
  replace hsz : w.heap.size + 1 ≤ W0.heap.size := Nat.le_of_eq hsz.symm
  simp only [List.foldl_cons, List.foldl_nil] at hW0
  have d0 : decide (size < 1) = false := by simpa using h0
  have d1 : decide (1048576 < size) = false := by simpa using h1
  have d2 : decide (rounds < 0) = false := by simpa using h2
  have d3 : decide (64 < rounds) = false := by simpa using h3
  have H4 := Lib.hid h4
  have HN := Lib.hid hn
  clear hn
  clear h0
  clear h1
  clear h2
  clear h3
  clear h4
  go_enter Try.func3, Try.ntmps3
  go_upto_region 1 with (fail)
  clear hW0
  refine calm_plain (by kernel_rfl) ?_
  refine calm_none (by kernel_rfl) ?_
  refine cW ?_ ?_ ?_
  refine cX ?_ ?_ (by intro wz hSw; obtain ⟨q0, q1, q2, q3, q4, q5, q6, q7⟩ := c8 (B0.stay hSw.1 (by simp <;> omega)); go_simp; all_goals (with_reducible rfl)) ?_
  refine cW ?_ ?_ ?_
  refine cX ?_ ?_ (by intro wz hSw; obtain ⟨q0, q1, q2, q3, q4, q5, q6, q7⟩ := c8 (B0.stay hSw.1 (by simp <;> omega)); go_simp; all_goals (with_reducible rfl)) ?_
  refine cW ?_ ?_ ?_
  refine cX ?_ ?_ (by intro wz hSw; obtain ⟨q0, q1, q2, q3, q4, q5, q6, q7⟩ := c8 (B0.stay hSw.1 (by simp <;> omega)); go_simp; all_goals (with_reducible rfl)) ?_
  refine cW ?_ ?_ ?_
  refine cX ?_ ?_ (by intro wz hSw; obtain ⟨q0, q1, q2, q3, q4, q5, q6, q7⟩ := c8 (B0.stay hSw.1 (by simp <;> omega)); go_simp; all_goals (with_reducible rfl)) ?_
  refine cC ?_ ?_ ?_ ?_ ?hc18_8 ?_
  case hc18_8 => (intro w hSw; exact near_no a b c d cx cy size rounds HN.out w)
  refine cW ?_ ?_ ?_
  refine calm_end ?_
  intro w1 hS
  have hS := Stay.of_below hS
  have B0 := B0.stay hS (by simp <;> omega)
  have hz1 : W0.heap.size ≤ w1.heap.size := hS.size
  have HB := grow_stay HB hS (by simp <;> omega) (by omega)
  clear hS
  go_upto_region 2 with (fail)
  refine calm_plain (by kernel_rfl) ?_
  refine calm_none (by kernel_rfl) ?_
  refine cW ?_ ?_ ?_
  refine cX ?_ ?_ (by intro wz hSw; obtain ⟨q0, q1, q2, q3, q4, q5, q6, q7⟩ := c8 (B0.stay hSw.1 (by simp <;> omega)); go_simp; all_goals (with_reducible rfl)) ?_
  refine cW ?_ ?_ ?_
  refine cW ?_ ?_ ?_
  refine cW ?_ ?_ ?_
  refine cX ?_ ?_ (by intro wz hSw; obtain ⟨q0, q1, q2, q3, q4, q5, q6, q7⟩ := c8 (B0.stay hSw.1 (by simp <;> omega)); go_simp; all_goals (with_reducible rfl)) ?_
  refine cW ?_ ?_ ?_
  refine cW ?_ ?_ ?_
  refine cW ?_ ?_ ?_
  refine cW ?_ ?_ ?_
  refine cX ?_ ?_ (by intro wz hSw; obtain ⟨q0, q1, q2, q3, q4, q5, q6, q7⟩ := c8 (B0.stay hSw.1 (by simp <;> omega)); go_simp; all_goals (with_reducible rfl)) ?_
  refine cW ?_ ?_ ?_
  refine cW ?_ ?_ ?_
  refine cW ?_ ?_ ?_
  refine cW ?_ ?_ ?_
  refine cX ?_ ?_ (by intro wz hSw; obtain ⟨q0, q1, q2, q3, q4, q5, q6, q7⟩ := c8 (B0.stay hSw.1 (by simp <;> omega)); go_simp; all_goals (with_reducible rfl)) ?_
  refine cW ?_ ?_ ?_
  refine cW ?_ ?_ ?_
  refine cW ?_ ?_ ?_
  refine cW ?_ ?_ ?_
  refine cW ?_ ?_ ?_
  refine cX ?_ ?_ (by intro wz hSw; obtain ⟨q0, q1, q2, q3, q4, q5, q6, q7⟩ := c8 (B0.stay hSw.1 (by simp <;> omega)); go_simp; all_goals (with_reducible rfl)) ?_
  refine cC ?_ ?_ ?_ ?_ ?hc19_22 ?_
  case hc19_22 => (intro w hSw; exact ref_any a b w)
  refine cC ?_ ?_ ?_ ?_ ?hc19_23 ?_
  case hc19_23 => (intro w hSw; exact right3_any a b false H4.out w)
  refine cW ?_ ?_ ?_
  refine cW ?_ ?_ ?_
  refine cW ?_ ?_ ?_
  refine cS ?_ ?_
  refine cS ?_ ?_
  refine cS ?_ ?_
  refine cS ?_ ?_
  refine cS ?_ ?_
  refine cS ?_ ?_
  refine cW ?_ ?_ ?_
  refine cW ?_ ?_ ?_
  refine cS ?_ ?_
  refine cS ?_ ?_
  refine cS ?_ ?_
  refine cS ?_ ?_
  refine cS ?_ ?_
  refine cW ?_ ?_ ?_
  refine calm_end ?_
  intro w2 hS
  have hS := Stay.of_below hS
  have B0 := B0.stay hS (by simp <;> omega)
  have hz2 : w1.heap.size ≤ w2.heap.size := hS.size
  have HB := grow_stay HB hS (by simp <;> omega) (by omega)
  clear hS
  go_upto_region 3 with (fail)
  refine calm_plain (by kernel_rfl) ?_
  refine calm_none (by kernel_rfl) ?_
  refine cW ?_ ?_ ?_
  refine cW ?_ ?_ ?_
  refine cW ?_ ?_ ?_
  refine cC ?_ ?_ ?_ ?_ ?hc20_3 ?_
  case hc20_3 => (intro w hSw; exact awake17_any w)
  refine cW ?_ ?_ ?_
  refine cW ?_ ?_ ?_
  refine calm_end ?_
  intro w3 hS
  have hS := Stay.of_below hS
  have B0 := B0.stay hS (by simp <;> omega)
  have hz3 : w2.heap.size ≤ w3.heap.size := hS.size
  have HB := grow_stay HB hS (by simp <;> omega) (by omega)
  clear hS
  go_wp2_with fail
  go_ret
  exact ⟨rfl, HB⟩

set_option maxRecDepth 100000 in
set_option maxHeartbeats 4000000 in
theorem ln_5 (a b c d cx cy size rounds : Int) (h0 : ¬ size < 1) (h1 : ¬ 1048576 < size) (h2 : ¬ rounds < 0) (h3 : ¬ 64 < rounds) (h4 : ptB a b = true) (h5 : ptB c d = false) (hn : ¬ (szB size = true ∧ sgB a b c d = true ∧ ptB cx cy = true ∧ 0 ≤ rounds ∧ rounds ≤ 64)) (w : World) :
    Calls Try.prog 3 #[.agg #[.int .i64 a, .int .i64 b, .int .i64 c, .int .i64 d, .int .i64 cx, .int .i64 cy, .int .i64 size, .int .i64 rounds]] w fun e w' => e = .returned (.bool true) ∧ Below w.heap.size w w' := by
  obtain ⟨W0, hW0⟩ : ∃ W0, [.cells #[.int .i64 a, .int .i64 b, .int .i64 c, .int .i64 d, .int .i64 cx, .int .i64 cy, .int .i64 size, .int .i64 rounds] 27].foldl World.alloc w = W0 := ⟨_, rfl⟩
  have B0 : Blk W0 (w.heap.size) ([.int .i64 a, .int .i64 b, .int .i64 c, .int .i64 d, .int .i64 cx, .int .i64 cy, .int .i64 size, .int .i64 rounds]) 27 := Blk.allocs _ hW0 0 rfl
  have HB : Below w.heap.size w W0 := hW0 ▸ allocs_below _ w
  have hsz : W0.heap.size = w.heap.size + 1 := hW0 ▸ allocs_size _ w
  replace hsz : w.heap.size + 1 ≤ W0.heap.size := Nat.le_of_eq hsz.symm
  simp only [List.foldl_cons, List.foldl_nil] at hW0
  have d0 : decide (size < 1) = false := by simpa using h0
  have d1 : decide (1048576 < size) = false := by simpa using h1
  have d2 : decide (rounds < 0) = false := by simpa using h2
  have d3 : decide (64 < rounds) = false := by simpa using h3
  have H4 := Lib.hid h4
  have H5 := Lib.hid h5
  have HN := Lib.hid hn
  clear hn
  clear h0
  clear h1
  clear h2
  clear h3
  clear h4
  clear h5
  go_enter Try.func3, Try.ntmps3
  go_upto_region 1 with (fail)
  clear hW0
  refine calm_plain (by kernel_rfl) ?_
  refine calm_none (by kernel_rfl) ?_
  refine cW ?_ ?_ ?_
  refine cX ?_ ?_ (by intro wz hSw; obtain ⟨q0, q1, q2, q3, q4, q5, q6, q7⟩ := c8 (B0.stay hSw.1 (by simp <;> omega)); go_simp; all_goals (with_reducible rfl)) ?_
  refine cW ?_ ?_ ?_
  refine cX ?_ ?_ (by intro wz hSw; obtain ⟨q0, q1, q2, q3, q4, q5, q6, q7⟩ := c8 (B0.stay hSw.1 (by simp <;> omega)); go_simp; all_goals (with_reducible rfl)) ?_
  refine cW ?_ ?_ ?_
  refine cX ?_ ?_ (by intro wz hSw; obtain ⟨q0, q1, q2, q3, q4, q5, q6, q7⟩ := c8 (B0.stay hSw.1 (by simp <;> omega)); go_simp; all_goals (with_reducible rfl)) ?_
  refine cW ?_ ?_ ?_
  refine cX ?_ ?_ (by intro wz hSw; obtain ⟨q0, q1, q2, q3, q4, q5, q6, q7⟩ := c8 (B0.stay hSw.1 (by simp <;> omega)); go_simp; all_goals (with_reducible rfl)) ?_
  refine cC ?_ ?_ ?_ ?_ ?hc21_8 ?_
  case hc21_8 => (intro w hSw; exact near_no a b c d cx cy size rounds HN.out w)
  refine cW ?_ ?_ ?_
  refine calm_end ?_
  intro w1 hS
  have hS := Stay.of_below hS
  have B0 := B0.stay hS (by simp <;> omega)
  have hz1 : W0.heap.size ≤ w1.heap.size := hS.size
  have HB := grow_stay HB hS (by simp <;> omega) (by omega)
  clear hS
  go_upto_region 2 with (fail)
  refine calm_plain (by kernel_rfl) ?_
  refine calm_none (by kernel_rfl) ?_
  refine cW ?_ ?_ ?_
  refine cX ?_ ?_ (by intro wz hSw; obtain ⟨q0, q1, q2, q3, q4, q5, q6, q7⟩ := c8 (B0.stay hSw.1 (by simp <;> omega)); go_simp; all_goals (with_reducible rfl)) ?_
  refine cW ?_ ?_ ?_
  refine cW ?_ ?_ ?_
  refine cW ?_ ?_ ?_
  refine cX ?_ ?_ (by intro wz hSw; obtain ⟨q0, q1, q2, q3, q4, q5, q6, q7⟩ := c8 (B0.stay hSw.1 (by simp <;> omega)); go_simp; all_goals (with_reducible rfl)) ?_
  refine cW ?_ ?_ ?_
  refine cW ?_ ?_ ?_
  refine cW ?_ ?_ ?_
  refine cW ?_ ?_ ?_
  refine cX ?_ ?_ (by intro wz hSw; obtain ⟨q0, q1, q2, q3, q4, q5, q6, q7⟩ := c8 (B0.stay hSw.1 (by simp <;> omega)); go_simp; all_goals (with_reducible rfl)) ?_
  refine cW ?_ ?_ ?_
  refine cW ?_ ?_ ?_
  refine cW ?_ ?_ ?_
  refine cW ?_ ?_ ?_
  refine cX ?_ ?_ (by intro wz hSw; obtain ⟨q0, q1, q2, q3, q4, q5, q6, q7⟩ := c8 (B0.stay hSw.1 (by simp <;> omega)); go_simp; all_goals (with_reducible rfl)) ?_
  refine cW ?_ ?_ ?_
  refine cW ?_ ?_ ?_
  refine cW ?_ ?_ ?_
  refine cW ?_ ?_ ?_
  refine cW ?_ ?_ ?_
  refine cX ?_ ?_ (by intro wz hSw; obtain ⟨q0, q1, q2, q3, q4, q5, q6, q7⟩ := c8 (B0.stay hSw.1 (by simp <;> omega)); go_simp; all_goals (with_reducible rfl)) ?_
  refine cC ?_ ?_ ?_ ?_ ?hc22_22 ?_
  case hc22_22 => (intro w hSw; exact ref_any a b w)
  refine cC ?_ ?_ ?_ ?_ ?hc22_23 ?_
  case hc22_23 => (intro w hSw; exact right3_any a b true H4.out w)
  refine cW ?_ ?_ ?_
  refine cW ?_ ?_ ?_
  refine cW ?_ ?_ ?_
  refine cW ?_ ?_ ?_
  refine cW ?_ ?_ ?_
  refine cX ?_ ?_ (by intro wz hSw; obtain ⟨q0, q1, q2, q3, q4, q5, q6, q7⟩ := c8 (B0.stay hSw.1 (by simp <;> omega)); go_simp; all_goals (with_reducible rfl)) ?_
  refine cC ?_ ?_ ?_ ?_ ?hc22_30 ?_
  case hc22_30 => (intro w hSw; exact ref_any c d w)
  refine cC ?_ ?_ ?_ ?_ ?hc22_31 ?_
  case hc22_31 => (intro w hSw; exact right3_any c d false H5.out w)
  refine cW ?_ ?_ ?_
  refine cW ?_ ?_ ?_
  refine cW ?_ ?_ ?_
  refine cS ?_ ?_
  refine cS ?_ ?_
  refine cS ?_ ?_
  refine cS ?_ ?_
  refine cS ?_ ?_
  refine cW ?_ ?_ ?_
  refine calm_end ?_
  intro w2 hS
  have hS := Stay.of_below hS
  have B0 := B0.stay hS (by simp <;> omega)
  have hz2 : w1.heap.size ≤ w2.heap.size := hS.size
  have HB := grow_stay HB hS (by simp <;> omega) (by omega)
  clear hS
  go_upto_region 3 with (fail)
  refine calm_plain (by kernel_rfl) ?_
  refine calm_none (by kernel_rfl) ?_
  refine cW ?_ ?_ ?_
  refine cW ?_ ?_ ?_
  refine cW ?_ ?_ ?_
  refine cC ?_ ?_ ?_ ?_ ?hc23_3 ?_
  case hc23_3 => (intro w hSw; exact awake17_any w)
  refine cW ?_ ?_ ?_
  refine cW ?_ ?_ ?_
  refine calm_end ?_
  intro w3 hS
  have hS := Stay.of_below hS
  have B0 := B0.stay hS (by simp <;> omega)
  have hz3 : w2.heap.size ≤ w3.heap.size := hS.size
  have HB := grow_stay HB hS (by simp <;> omega) (by omega)
  clear hS
  go_wp2_with fail
  go_ret
  exact ⟨rfl, HB⟩

set_option maxRecDepth 100000 in
set_option maxHeartbeats 4000000 in
theorem ln_6 (a b c d cx cy size rounds : Int) (h0 : ¬ size < 1) (h1 : ¬ 1048576 < size) (h2 : ¬ rounds < 0) (h3 : ¬ 64 < rounds) (h4 : ptB a b = true) (h5 : ptB c d = true) (h6 : ptB cx cy = false) (hn : ¬ (szB size = true ∧ sgB a b c d = true ∧ ptB cx cy = true ∧ 0 ≤ rounds ∧ rounds ≤ 64)) (w : World) :
    Calls Try.prog 3 #[.agg #[.int .i64 a, .int .i64 b, .int .i64 c, .int .i64 d, .int .i64 cx, .int .i64 cy, .int .i64 size, .int .i64 rounds]] w fun e w' => e = .returned (.bool true) ∧ Below w.heap.size w w' := by
  obtain ⟨W0, hW0⟩ : ∃ W0, [.cells #[.int .i64 a, .int .i64 b, .int .i64 c, .int .i64 d, .int .i64 cx, .int .i64 cy, .int .i64 size, .int .i64 rounds] 27].foldl World.alloc w = W0 := ⟨_, rfl⟩
  have B0 : Blk W0 (w.heap.size) ([.int .i64 a, .int .i64 b, .int .i64 c, .int .i64 d, .int .i64 cx, .int .i64 cy, .int .i64 size, .int .i64 rounds]) 27 := Blk.allocs _ hW0 0 rfl
  have HB : Below w.heap.size w W0 := hW0 ▸ allocs_below _ w
  have hsz : W0.heap.size = w.heap.size + 1 := hW0 ▸ allocs_size _ w
  replace hsz : w.heap.size + 1 ≤ W0.heap.size := Nat.le_of_eq hsz.symm
  simp only [List.foldl_cons, List.foldl_nil] at hW0
  have d0 : decide (size < 1) = false := by simpa using h0
  have d1 : decide (1048576 < size) = false := by simpa using h1
  have d2 : decide (rounds < 0) = false := by simpa using h2
  have d3 : decide (64 < rounds) = false := by simpa using h3
  have H4 := Lib.hid h4
  have H5 := Lib.hid h5
  have H6 := Lib.hid h6
  have HN := Lib.hid hn
  clear hn
  clear h0
  clear h1
  clear h2
  clear h3
  clear h4
  clear h5
  clear h6
  go_enter Try.func3, Try.ntmps3
  go_upto_region 1 with (fail)
  clear hW0
  refine calm_plain (by kernel_rfl) ?_
  refine calm_none (by kernel_rfl) ?_
  refine cW ?_ ?_ ?_
  refine cX ?_ ?_ (by intro wz hSw; obtain ⟨q0, q1, q2, q3, q4, q5, q6, q7⟩ := c8 (B0.stay hSw.1 (by simp <;> omega)); go_simp; all_goals (with_reducible rfl)) ?_
  refine cW ?_ ?_ ?_
  refine cX ?_ ?_ (by intro wz hSw; obtain ⟨q0, q1, q2, q3, q4, q5, q6, q7⟩ := c8 (B0.stay hSw.1 (by simp <;> omega)); go_simp; all_goals (with_reducible rfl)) ?_
  refine cW ?_ ?_ ?_
  refine cX ?_ ?_ (by intro wz hSw; obtain ⟨q0, q1, q2, q3, q4, q5, q6, q7⟩ := c8 (B0.stay hSw.1 (by simp <;> omega)); go_simp; all_goals (with_reducible rfl)) ?_
  refine cW ?_ ?_ ?_
  refine cX ?_ ?_ (by intro wz hSw; obtain ⟨q0, q1, q2, q3, q4, q5, q6, q7⟩ := c8 (B0.stay hSw.1 (by simp <;> omega)); go_simp; all_goals (with_reducible rfl)) ?_
  refine cC ?_ ?_ ?_ ?_ ?hc24_8 ?_
  case hc24_8 => (intro w hSw; exact near_no a b c d cx cy size rounds HN.out w)
  refine cW ?_ ?_ ?_
  refine calm_end ?_
  intro w1 hS
  have hS := Stay.of_below hS
  have B0 := B0.stay hS (by simp <;> omega)
  have hz1 : W0.heap.size ≤ w1.heap.size := hS.size
  have HB := grow_stay HB hS (by simp <;> omega) (by omega)
  clear hS
  go_upto_region 2 with (fail)
  refine calm_plain (by kernel_rfl) ?_
  refine calm_none (by kernel_rfl) ?_
  refine cW ?_ ?_ ?_
  refine cX ?_ ?_ (by intro wz hSw; obtain ⟨q0, q1, q2, q3, q4, q5, q6, q7⟩ := c8 (B0.stay hSw.1 (by simp <;> omega)); go_simp; all_goals (with_reducible rfl)) ?_
  refine cW ?_ ?_ ?_
  refine cW ?_ ?_ ?_
  refine cW ?_ ?_ ?_
  refine cX ?_ ?_ (by intro wz hSw; obtain ⟨q0, q1, q2, q3, q4, q5, q6, q7⟩ := c8 (B0.stay hSw.1 (by simp <;> omega)); go_simp; all_goals (with_reducible rfl)) ?_
  refine cW ?_ ?_ ?_
  refine cW ?_ ?_ ?_
  refine cW ?_ ?_ ?_
  refine cW ?_ ?_ ?_
  refine cX ?_ ?_ (by intro wz hSw; obtain ⟨q0, q1, q2, q3, q4, q5, q6, q7⟩ := c8 (B0.stay hSw.1 (by simp <;> omega)); go_simp; all_goals (with_reducible rfl)) ?_
  refine cW ?_ ?_ ?_
  refine cW ?_ ?_ ?_
  refine cW ?_ ?_ ?_
  refine cW ?_ ?_ ?_
  refine cX ?_ ?_ (by intro wz hSw; obtain ⟨q0, q1, q2, q3, q4, q5, q6, q7⟩ := c8 (B0.stay hSw.1 (by simp <;> omega)); go_simp; all_goals (with_reducible rfl)) ?_
  refine cW ?_ ?_ ?_
  refine cW ?_ ?_ ?_
  refine cW ?_ ?_ ?_
  refine cW ?_ ?_ ?_
  refine cW ?_ ?_ ?_
  refine cX ?_ ?_ (by intro wz hSw; obtain ⟨q0, q1, q2, q3, q4, q5, q6, q7⟩ := c8 (B0.stay hSw.1 (by simp <;> omega)); go_simp; all_goals (with_reducible rfl)) ?_
  refine cC ?_ ?_ ?_ ?_ ?hc25_22 ?_
  case hc25_22 => (intro w hSw; exact ref_any a b w)
  refine cC ?_ ?_ ?_ ?_ ?hc25_23 ?_
  case hc25_23 => (intro w hSw; exact right3_any a b true H4.out w)
  refine cW ?_ ?_ ?_
  refine cW ?_ ?_ ?_
  refine cW ?_ ?_ ?_
  refine cW ?_ ?_ ?_
  refine cW ?_ ?_ ?_
  refine cX ?_ ?_ (by intro wz hSw; obtain ⟨q0, q1, q2, q3, q4, q5, q6, q7⟩ := c8 (B0.stay hSw.1 (by simp <;> omega)); go_simp; all_goals (with_reducible rfl)) ?_
  refine cC ?_ ?_ ?_ ?_ ?hc25_30 ?_
  case hc25_30 => (intro w hSw; exact ref_any c d w)
  refine cC ?_ ?_ ?_ ?_ ?hc25_31 ?_
  case hc25_31 => (intro w hSw; exact right3_any c d true H5.out w)
  refine cW ?_ ?_ ?_
  refine cW ?_ ?_ ?_
  refine cW ?_ ?_ ?_
  refine cW ?_ ?_ ?_
  refine cX ?_ ?_ (by intro wz hSw; obtain ⟨q0, q1, q2, q3, q4, q5, q6, q7⟩ := c8 (B0.stay hSw.1 (by simp <;> omega)); go_simp; all_goals (with_reducible rfl)) ?_
  refine cC ?_ ?_ ?_ ?_ ?hc25_37 ?_
  case hc25_37 => (intro w hSw; exact ref_any cx cy w)
  refine cC ?_ ?_ ?_ ?_ ?hc25_38 ?_
  case hc25_38 => (intro w hSw; exact right3_any cx cy false H6.out w)
  refine cW ?_ ?_ ?_
  refine cW ?_ ?_ ?_
  refine calm_end ?_
  intro w2 hS
  have hS := Stay.of_below hS
  have B0 := B0.stay hS (by simp <;> omega)
  have hz2 : w1.heap.size ≤ w2.heap.size := hS.size
  have HB := grow_stay HB hS (by simp <;> omega) (by omega)
  clear hS
  go_upto_region 3 with (fail)
  refine calm_plain (by kernel_rfl) ?_
  refine calm_none (by kernel_rfl) ?_
  refine cW ?_ ?_ ?_
  refine cW ?_ ?_ ?_
  refine cW ?_ ?_ ?_
  refine cC ?_ ?_ ?_ ?_ ?hc26_3 ?_
  case hc26_3 => (intro w hSw; exact awake17_any w)
  refine cW ?_ ?_ ?_
  refine cW ?_ ?_ ?_
  refine calm_end ?_
  intro w3 hS
  have hS := Stay.of_below hS
  have B0 := B0.stay hS (by simp <;> omega)
  have hz3 : w2.heap.size ≤ w3.heap.size := hS.size
  have HB := grow_stay HB hS (by simp <;> omega) (by omega)
  clear hS
  go_wp2_with fail
  go_ret
  exact ⟨rfl, HB⟩

set_option maxRecDepth 100000 in
set_option maxHeartbeats 4000000 in
theorem ln_7 (a b c d cx cy size rounds : Int) (h0 : ¬ size < 1) (h1 : ¬ 1048576 < size) (h2 : ¬ rounds < 0) (h3 : ¬ 64 < rounds) (h4 : ptB a b = true) (h5 : ptB c d = true) (h6 : ptB cx cy = true) (hs : szB size = true) (hg : sgB a b c d = true) (w : World) :
    Calls Try.prog 3 #[.agg #[.int .i64 a, .int .i64 b, .int .i64 c, .int .i64 d, .int .i64 cx, .int .i64 cy, .int .i64 size, .int .i64 rounds]] w fun e w' => e = .returned (.bool true) ∧ Below w.heap.size w w' := by
  obtain ⟨W0, hW0⟩ : ∃ W0, [.cells #[.int .i64 a, .int .i64 b, .int .i64 c, .int .i64 d, .int .i64 cx, .int .i64 cy, .int .i64 size, .int .i64 rounds] 27].foldl World.alloc w = W0 := ⟨_, rfl⟩
  have B0 : Blk W0 (w.heap.size) ([.int .i64 a, .int .i64 b, .int .i64 c, .int .i64 d, .int .i64 cx, .int .i64 cy, .int .i64 size, .int .i64 rounds]) 27 := Blk.allocs _ hW0 0 rfl
  have HB : Below w.heap.size w W0 := hW0 ▸ allocs_below _ w
  have hsz : W0.heap.size = w.heap.size + 1 := hW0 ▸ allocs_size _ w
  replace hsz : w.heap.size + 1 ≤ W0.heap.size := Nat.le_of_eq hsz.symm
  simp only [List.foldl_cons, List.foldl_nil] at hW0
  have d0 : decide (size < 1) = false := by simpa using h0
  have d1 : decide (1048576 < size) = false := by simpa using h1
  have d2 : decide (rounds < 0) = false := by simpa using h2
  have d3 : decide (64 < rounds) = false := by simpa using h3
  have H4 := Lib.hid h4
  have H5 := Lib.hid h5
  have H6 := Lib.hid h6
  have Hs := Lib.hid hs
  have Hg := Lib.hid hg
  obtain ⟨R, HR⟩ : ∃ R, Hid (nearZ a b c d cx cy size rounds = R) := ⟨_, Lib.hid rfl⟩
  have hc1 := h6
  unfold ptB at hc1
  simp only [Bool.and_eq_true, inB_iff] at hc1
  have hs1 := szB_iff.1 hs
  have px := prod_bd (c := cx) hc1.1.1 hc1.1.2 hs1.1 hs1.2
  have py := prod_bd (c := cy) hc1.2.1 hc1.2.2 hs1.1 hs1.2
  have pf := far_bd (by omega : 0 ≤ rounds) (by omega) hs1.1 hs1.2
  have m1 : IntKind.i64.wrap (2 * cx) = 2 * cx := by rw [IntKind.wrap_i64]; omega
  have m2 : IntKind.i64.wrap (2 * cy) = 2 * cy := by rw [IntKind.wrap_i64]; omega
  have m3 : IntKind.i64.wrap (2 * cx * size) = 2 * cx * size := IntWalk.i64_in _ (by omega)
  have m4 : IntKind.i64.wrap (2 * cy * size) = 2 * cy * size := IntWalk.i64_in _ (by omega)
  have m5 : IntKind.i64.wrap (rounds * size) = rounds * size := IntWalk.i64_in _ (by omega)
  have rr : (R == R) = true := beq_self_eq_true R
  have HM := Lib.hid (And.intro m1 (And.intro m2 (And.intro m3 (And.intro m4 m5))))
  have HRR := Lib.hid rr
  have h03 : Hid (0 ≤ rounds ∧ rounds ≤ 64) := Lib.hid ⟨by omega, by omega⟩
  clear m1 m2 m3 m4 m5 rr px py pf hs1 hc1 hs hg
  clear h0
  clear h1
  clear h2
  clear h3
  clear h4
  clear h5
  clear h6
  go_enter Try.func3, Try.ntmps3
  go_upto_region 1 with (fail)
  clear hW0
  refine calm_plain (by kernel_rfl) ?_
  refine calm_none (by kernel_rfl) ?_
  refine cW ?_ ?_ ?_
  refine cX ?_ ?_ (by intro wz hSw; obtain ⟨q0, q1, q2, q3, q4, q5, q6, q7⟩ := c8 (B0.stay hSw.1 (by simp <;> omega)); go_simp; all_goals (with_reducible rfl)) ?_
  refine cW ?_ ?_ ?_
  refine cX ?_ ?_ (by intro wz hSw; obtain ⟨q0, q1, q2, q3, q4, q5, q6, q7⟩ := c8 (B0.stay hSw.1 (by simp <;> omega)); go_simp; all_goals (with_reducible rfl)) ?_
  refine cW ?_ ?_ ?_
  refine cX ?_ ?_ (by intro wz hSw; obtain ⟨q0, q1, q2, q3, q4, q5, q6, q7⟩ := c8 (B0.stay hSw.1 (by simp <;> omega)); go_simp; all_goals (with_reducible rfl)) ?_
  refine cW ?_ ?_ ?_
  refine cX ?_ ?_ (by intro wz hSw; obtain ⟨q0, q1, q2, q3, q4, q5, q6, q7⟩ := c8 (B0.stay hSw.1 (by simp <;> omega)); go_simp; all_goals (with_reducible rfl)) ?_
  refine cC ?_ ?_ ?_ ?_ ?hc27_8 ?_
  case hc27_8 => (intro w hSw; exact near_Z a b c d cx cy size rounds R HR.out w Hg.out H6.out Hs.out h03.out.1 h03.out.2)
  refine cW ?_ ?_ ?_
  refine calm_end ?_
  intro w1 hS
  have hS := Stay.of_below hS
  have B0 := B0.stay hS (by simp <;> omega)
  have hz1 : W0.heap.size ≤ w1.heap.size := hS.size
  have HB := grow_stay HB hS (by simp <;> omega) (by omega)
  clear hS
  go_upto_region 2 with (fail)
  refine calm_plain (by kernel_rfl) ?_
  refine calm_none (by kernel_rfl) ?_
  refine cW ?_ ?_ ?_
  refine cX ?_ ?_ (by intro wz hSw; obtain ⟨q0, q1, q2, q3, q4, q5, q6, q7⟩ := c8 (B0.stay hSw.1 (by simp <;> omega)); go_simp; all_goals (with_reducible rfl)) ?_
  refine cW ?_ ?_ ?_
  refine cW ?_ ?_ ?_
  refine cW ?_ ?_ ?_
  refine cX ?_ ?_ (by intro wz hSw; obtain ⟨q0, q1, q2, q3, q4, q5, q6, q7⟩ := c8 (B0.stay hSw.1 (by simp <;> omega)); go_simp; all_goals (with_reducible rfl)) ?_
  refine cW ?_ ?_ ?_
  refine cW ?_ ?_ ?_
  refine cW ?_ ?_ ?_
  refine cW ?_ ?_ ?_
  refine cX ?_ ?_ (by intro wz hSw; obtain ⟨q0, q1, q2, q3, q4, q5, q6, q7⟩ := c8 (B0.stay hSw.1 (by simp <;> omega)); go_simp; all_goals (with_reducible rfl)) ?_
  refine cW ?_ ?_ ?_
  refine cW ?_ ?_ ?_
  refine cW ?_ ?_ ?_
  refine cW ?_ ?_ ?_
  refine cX ?_ ?_ (by intro wz hSw; obtain ⟨q0, q1, q2, q3, q4, q5, q6, q7⟩ := c8 (B0.stay hSw.1 (by simp <;> omega)); go_simp; all_goals (with_reducible rfl)) ?_
  refine cW ?_ ?_ ?_
  refine cW ?_ ?_ ?_
  refine cW ?_ ?_ ?_
  refine cW ?_ ?_ ?_
  refine cW ?_ ?_ ?_
  refine cX ?_ ?_ (by intro wz hSw; obtain ⟨q0, q1, q2, q3, q4, q5, q6, q7⟩ := c8 (B0.stay hSw.1 (by simp <;> omega)); go_simp; all_goals (with_reducible rfl)) ?_
  refine cC ?_ ?_ ?_ ?_ ?hc28_22 ?_
  case hc28_22 => (intro w hSw; exact ref_any a b w)
  refine cC ?_ ?_ ?_ ?_ ?hc28_23 ?_
  case hc28_23 => (intro w hSw; exact right3_any a b true H4.out w)
  refine cW ?_ ?_ ?_
  refine cW ?_ ?_ ?_
  refine cW ?_ ?_ ?_
  refine cW ?_ ?_ ?_
  refine cW ?_ ?_ ?_
  refine cX ?_ ?_ (by intro wz hSw; obtain ⟨q0, q1, q2, q3, q4, q5, q6, q7⟩ := c8 (B0.stay hSw.1 (by simp <;> omega)); go_simp; all_goals (with_reducible rfl)) ?_
  refine cC ?_ ?_ ?_ ?_ ?hc28_30 ?_
  case hc28_30 => (intro w hSw; exact ref_any c d w)
  refine cC ?_ ?_ ?_ ?_ ?hc28_31 ?_
  case hc28_31 => (intro w hSw; exact right3_any c d true H5.out w)
  refine cW ?_ ?_ ?_
  refine cW ?_ ?_ ?_
  refine cW ?_ ?_ ?_
  refine cW ?_ ?_ ?_
  refine cX ?_ ?_ (by intro wz hSw; obtain ⟨q0, q1, q2, q3, q4, q5, q6, q7⟩ := c8 (B0.stay hSw.1 (by simp <;> omega)); go_simp; all_goals (with_reducible rfl)) ?_
  refine cC ?_ ?_ ?_ ?_ ?hc28_37 ?_
  case hc28_37 => (intro w hSw; exact ref_any cx cy w)
  refine cC ?_ ?_ ?_ ?_ ?hc28_38 ?_
  case hc28_38 => (intro w hSw; exact right3_any cx cy true H6.out w)
  refine cW ?_ ?_ ?_
  refine cW ?_ ?_ ?_
  refine calm_end ?_
  intro w2 hS
  have hS := Stay.of_below hS
  have B0 := B0.stay hS (by simp <;> omega)
  have hz2 : w1.heap.size ≤ w2.heap.size := hS.size
  have HB := grow_stay HB hS (by simp <;> omega) (by omega)
  clear hS
  go_upto_region 4 with (fail)
  refine calm_go (by kernel_rfl) ?_
  refine calm_none (by kernel_rfl) ?_
  refine cW ?_ ?_ ?_
  refine cW ?_ ?_ ?_
  refine cX ?_ ?_ (by intro wz hSw; obtain ⟨q0, q1, q2, q3, q4, q5, q6, q7⟩ := c8 (B0.stay hSw.1 (by simp <;> omega)); go_simp; all_goals (with_reducible rfl)) ?_
  refine cC ?_ ?_ ?_ ?_ ?hc29_3 ?_
  case hc29_3 => (intro w hSw; exact ref_any a b w)
  refine cW ?_ ?_ ?_
  refine cW ?_ ?_ ?_
  refine cX ?_ ?_ (by intro wz hSw; obtain ⟨q0, q1, q2, q3, q4, q5, q6, q7⟩ := c8 (B0.stay hSw.1 (by simp <;> omega)); go_simp; all_goals (with_reducible rfl)) ?_
  refine cC ?_ ?_ ?_ ?_ ?hc29_7 ?_
  case hc29_7 => (intro w hSw; exact ref_any c d w)
  refine cW ?_ ?_ ?_
  refine cW ?_ ?_ ?_
  refine cX ?_ ?_ (by intro wz hSw; obtain ⟨q0, q1, q2, q3, q4, q5, q6, q7⟩ := c8 (B0.stay hSw.1 (by simp <;> omega)); go_simp; all_goals (with_reducible rfl)) ?_
  refine cX ?_ ?_ (by intro wz hSw; obtain ⟨m1, m2, m3, m4, m5⟩ := HM.out; go_simp; all_goals (with_reducible rfl)) ?_
  refine cW ?_ ?_ ?_
  refine cX ?_ ?_ (by intro wz hSw; obtain ⟨q0, q1, q2, q3, q4, q5, q6, q7⟩ := c8 (B0.stay hSw.1 (by simp <;> omega)); go_simp; all_goals (with_reducible rfl)) ?_
  refine cX ?_ ?_ (by intro wz hSw; obtain ⟨m1, m2, m3, m4, m5⟩ := HM.out; go_simp; all_goals (with_reducible rfl)) ?_
  refine cW ?_ ?_ ?_
  refine cW ?_ ?_ ?_
  refine cX ?_ ?_ (by intro wz hSw; obtain ⟨q0, q1, q2, q3, q4, q5, q6, q7⟩ := c8 (B0.stay hSw.1 (by simp <;> omega)); go_simp; all_goals (with_reducible rfl)) ?_
  refine cX ?_ ?_ (by intro wz hSw; obtain ⟨m1, m2, m3, m4, m5⟩ := HM.out; go_simp; all_goals (with_reducible rfl)) ?_
  refine cW ?_ ?_ ?_
  refine cX ?_ ?_ (by intro wz hSw; obtain ⟨q0, q1, q2, q3, q4, q5, q6, q7⟩ := c8 (B0.stay hSw.1 (by simp <;> omega)); go_simp; all_goals (with_reducible rfl)) ?_
  refine cX ?_ ?_ (by intro wz hSw; obtain ⟨m1, m2, m3, m4, m5⟩ := HM.out; go_simp; all_goals (with_reducible rfl)) ?_
  refine cW ?_ ?_ ?_
  refine cX ?_ ?_ (by intro wz hSw; obtain ⟨q0, q1, q2, q3, q4, q5, q6, q7⟩ := c8 (B0.stay hSw.1 (by simp <;> omega)); go_simp; all_goals (with_reducible rfl)) ?_
  refine cW ?_ ?_ ?_
  refine cX ?_ ?_ (by intro wz hSw; obtain ⟨q0, q1, q2, q3, q4, q5, q6, q7⟩ := c8 (B0.stay hSw.1 (by simp <;> omega)); go_simp; all_goals (with_reducible rfl)) ?_
  refine cX ?_ ?_ (by intro wz hSw; obtain ⟨m1, m2, m3, m4, m5⟩ := HM.out; go_simp; all_goals (with_reducible rfl)) ?_
  refine cC ?_ ?_ ?_ ?_ ?hc29_27 ?_
  case hc29_27 => (intro w hSw; exact near17_Z a b c d cx cy size rounds R HR.out w Hg.out H6.out Hs.out h03.out.1 h03.out.2)
  refine cW ?_ ?_ ?_
  refine calm_end ?_
  intro w3 hS
  have hS := Stay.of_below hS
  have B0 := B0.stay hS (by simp <;> omega)
  have hz3 : w2.heap.size ≤ w3.heap.size := hS.size
  have HB := grow_stay HB hS (by simp <;> omega) (by omega)
  clear hS
  go_upto_region 5 with (fail)
  refine calm_plain (by kernel_rfl) ?_
  refine calm_none (by kernel_rfl) ?_
  refine cW ?_ ?_ ?_
  refine cW ?_ ?_ ?_
  refine cX ?_ ?_ (by intro wz hSw; have rr := HRR.out; go_simp; all_goals (with_reducible rfl)) ?_
  refine cW ?_ ?_ ?_
  refine cC ?_ ?_ ?_ ?_ ?hc30_4 ?_
  case hc30_4 => (intro w hSw; exact awake17_any w)
  refine cW ?_ ?_ ?_
  refine cW ?_ ?_ ?_
  refine calm_end ?_
  intro w4 hS
  have hS := Stay.of_below hS
  have B0 := B0.stay hS (by simp <;> omega)
  have hz4 : w3.heap.size ≤ w4.heap.size := hS.size
  have HB := grow_stay HB hS (by simp <;> omega) (by omega)
  clear hS
  go_wp2_with fail
  go_ret
  exact ⟨rfl, HB⟩

theorem lawNearV (a b c d cx cy size rounds : Int) (w : World) :
    Calls Try.prog 3 #[.agg #[.int .i64 a, .int .i64 b, .int .i64 c, .int .i64 d, .int .i64 cx, .int .i64 cy, .int .i64 size, .int .i64 rounds]] w fun e w' => e = .returned (.bool true) ∧ Below w.heap.size w w' := by
  by_cases h0 : size < 1
  · exact ln_0 a b c d cx cy size rounds h0 (fun h => by have := szB_iff.1 h.1; omega) w
  by_cases h1 : 1048576 < size
  · exact ln_1 a b c d cx cy size rounds h0 h1 (fun h => by have := szB_iff.1 h.1; omega) w
  by_cases h2 : rounds < 0
  · exact ln_2 a b c d cx cy size rounds h0 h1 h2 (fun h => by have := h.2.2.2.1; omega) w
  by_cases h3 : 64 < rounds
  · exact ln_3 a b c d cx cy size rounds h0 h1 h2 h3 (fun h => by have := h.2.2.2.2; omega) w
  cases h4 : ptB a b with
  | false => exact ln_4 a b c d cx cy size rounds h0 h1 h2 h3 h4 (fun h => by have := h.2.1; unfold sgB at this; rw [h4] at this; cases this) w
  | true =>
    cases h5 : ptB c d with
    | false => exact ln_5 a b c d cx cy size rounds h0 h1 h2 h3 h4 h5 (fun h => by have := h.2.1; unfold sgB at this; rw [h4, h5] at this; cases this) w
    | true =>
      cases h6 : ptB cx cy with
      | false => exact ln_6 a b c d cx cy size rounds h0 h1 h2 h3 h4 h5 h6 (fun h => by rw [h6] at h; cases h.2.2.1) w
      | true => exact ln_7 a b c d cx cy size rounds h0 h1 h2 h3 h4 h5 h6 (szB_iff.2 ⟨by omega, by omega⟩) (by unfold sgB; rw [h4, h5]; rfl) w
end Go.Proofs.Ythbplhglfjlngaa
