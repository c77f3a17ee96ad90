/- The product of two numbers of four words, row by row: plain laws. No program in sight. -/
import Derived.Test.YthbplhglfjlngaaGreatGPb
import Derived.Deep.Cut
import Derived.Test.YthbplhglfjlngaaGreatGPc
import Derived.Test.YthbplhglfjlngaaGreatGPa
import Derived.Laws.Cover3
set_option linter.unusedVariables false
set_option linter.unusedSimpArgs false
set_option maxRecDepth 100000
namespace Go.Proofs.YthbplhglfjlngaaGreat
open Go.RowKit Go.Rg Go.Wd
attribute [local go_sem] Oper.semAt_some
theorem wideSub_11 (x y : Int) (hx : Fit x) (hy : Fit y) (hd : Fit (x - y)) (hx0 : x < 0) (hy0 : y < 0) (w : World) :
  Calls Tryz.prog 105 #[wI x, wI y] w fun e w' => e = .returned (.tuple #[wI (x - y), .bool true]) ∧ Below w.heap.size w w' := by
 obtain ⟨W0, hW0⟩ : ∃ W0, [.cells #[u64 (lb (tc x) 0), u64 (lb (tc x) 1), u64 (lb (tc x) 2), u64 (lb (tc x) 3)] 60, .cells #[u64 (lb (tc y) 0), u64 (lb (tc y) 1), u64 (lb (tc y) 2), u64 (lb (tc y) 3)] 60, .cells #[.int .u64 0, .int .u64 0, .int .u64 0, .int .u64 0] 60].foldl World.alloc w = W0 := ⟨_, rfl⟩
 have B0 : Blk W0 (w.heap.size) (uL (tc x)) 60 := Blk.allocs _ hW0 0 rfl
 have B1 : Blk W0 (w.heap.size + 1) (uL (tc y)) 60 := Blk.allocs _ hW0 1 rfl
 have B2 : Blk W0 (w.heap.size + 1 + 1) (uL 0) 60 := Blk.allocs _ hW0 2 rfl
 have HB := aB hW0
 have hsz : w.heap.size + 3 ≤ W0.heap.size := aZ hW0
 simp only [List.foldl_cons, List.foldl_nil] at hW0
 have hbx : decide (x < 0) = true := by simpa using hx0
 have hby : decide (y < 0) = true := by simpa using hy0
 go_enter Tryz.func105, Tryz.ntmps105
 unfold wI U
 go_upto_region 1 with (fail)
 clear hW0
 refine cG ?_
 refine calm_a (k := 4) (d := 6) (st := 5) (x := (.tmp 10)) (u := wI (x - y)) (T := 60) (by kernel_rfl) (by rfl) (by rfl) info_wide rfl rfl (by first | exact wI_one _ | exact U_one _) ?_
 refine cX ?_ ?_ (by intro wz hSw; obtain ⟨q0, q1, q2, q3⟩ := c4 (B0.y hSw.1); go_simp; all_goals with_reducible rfl) ?_
 refine cX ?_ ?_ (by intro wz hSw; obtain ⟨q0, q1, q2, q3⟩ := c4 (B1.y hSw.1); go_simp; all_goals with_reducible rfl) ?_
 refine cC ?_ ?_ ?_ ?_ ?hc1_2 ?_
 case hc1_2 => (intro w hSw; exact wideTurned_any y w)
 refine cC ?_ ?_ ?_ ?_ ?hc1_3 ?_
 case hc1_3 => (intro w hSw; exact widePlus_z x (-y - 1) (x - y) 1 (by omega) (by omega) w)
 refine cB ?_
 refine cB ?_
 refine calm_end ?_
 refine ⟨(by rfl), fun b4 w1 hb4 hS D0 => ?_⟩
 have hl4_0 : w.heap.size < b4 := lL B0.lt hb4
 have hl4_1 : w.heap.size + 1 < b4 := lL B1.lt hb4
 have hl4_2 : w.heap.size + 1 + 1 < b4 := lL B2.lt hb4
 have hS := sO hS
 have B0 := B0.y hS
 have B1 := B1.y hS
 have B2 := B2.y hS
 have B4 : Blk w1 b4 (uL (tc (x - y))) 60 := D0
 have hz1 : W0.heap.size ≤ w1.heap.size := hS.size
 have HB := gS HB hS
 clear hS D0
 go_upto_region 2 with (fail)
 refine cG ?_
 refine calm_k (b := w.heap.size + 1 + 1) (o := 0) (st := 16) (ado := .tmp 4) (x := (.tmp 25)) (u := wI (x - y)) (by kernel_rfl) B2 (by rfl) size_wide (by first | exact wI_one _ | exact U_one _) (by first | exact Nat.le_refl _ | (simp; done) | decide) ?_
 refine cX ?_ ?_ (by intro wz hSw; obtain ⟨q0, q1, q2, q3⟩ := c4 (B4.y hSw.1); go_simp; all_goals with_reducible rfl) ?_
 refine cX ?_ ?_ (by intro wz hSw; obtain ⟨q0, q1, q2, q3⟩ := c4 (B0.y hSw.1); go_simp; all_goals with_reducible rfl) ?_
 refine cC ?_ ?_ ?_ ?_ ?hc2_2 ?_
 case hc2_2 => (intro w hSw; exact wideNeg_b x true hx hbx w)
 refine cX ?_ ?_ (by intro wz hSw; obtain ⟨q0, q1, q2, q3⟩ := c4 (B1.y hSw.1); go_simp; all_goals with_reducible rfl) ?_
 refine cC ?_ ?_ ?_ ?_ ?hc2_4 ?_
 case hc2_4 => (intro w hSw; exact wideNeg_b y true hy hby w)
 refine cW ?_ ?_ ?_
 refine cW ?_ ?_ ?_
 refine cS ?_ ?_
 refine cS ?_ ?_
 refine cS ?_ ?_
 refine cS ?_ ?_
 refine cS ?_ ?_
 refine cW ?_ ?_ ?_
 refine cC ?_ ?_ ?_ ?_ ?hc2_13 ?_
 case hc2_13 => (intro w hSw; exact wideKept_b (x - y) (x - y) true rfl w)
 refine cW ?_ ?_ ?_
 refine cW ?_ ?_ ?_
 refine cB ?_
 refine cW ?_ ?_ ?_
 refine calm_end ?_
 refine ⟨(by rfl), (by rfl), fun w2 hS D0 => ?_⟩
 have B0 := B0.y hS
 have B1 := B1.y hS
 have B4 := B4.y hS
 have B2 : Blk w2 (w.heap.size + 1 + 1) (uL (tc (x - y))) 60 := blk_whole D0 rfl
 have hz2 : w1.heap.size ≤ w2.heap.size := hS.size
 have HB := gS HB hS
 clear hS D0
 go_wp2_with fail
 obtain ⟨s0_0, s0_1, s0_2, s0_3⟩ := c4 (B2)
 refine bodyPost_ret (v := .tuple #[wI (x - y), .bool true]) (by simp [results, Tryz.results105, go_sem, s0_0, s0_1, s0_2, s0_3]) rfl ⟨rfl, HB⟩
theorem wideSub_10 (x y : Int) (hx : Fit x) (hy : Fit y) (hd : Fit (x - y)) (hx0 : x < 0) (hy0 : ¬ y < 0) (w : World) :
  Calls Tryz.prog 105 #[wI x, wI y] w fun e w' => e = .returned (.tuple #[wI (x - y), .bool true]) ∧ Below w.heap.size w w' := by
 have hbs : decide (x - y < 0) = true := by have h1 := hx0; have h2 := hy0; simp only [decide_eq_true_eq, decide_eq_false_iff_not]; omega
 obtain ⟨W0, hW0⟩ : ∃ W0, [.cells #[u64 (lb (tc x) 0), u64 (lb (tc x) 1), u64 (lb (tc x) 2), u64 (lb (tc x) 3)] 60, .cells #[u64 (lb (tc y) 0), u64 (lb (tc y) 1), u64 (lb (tc y) 2), u64 (lb (tc y) 3)] 60, .cells #[.int .u64 0, .int .u64 0, .int .u64 0, .int .u64 0] 60].foldl World.alloc w = W0 := ⟨_, rfl⟩
 have B0 : Blk W0 (w.heap.size) (uL (tc x)) 60 := Blk.allocs _ hW0 0 rfl
 have B1 : Blk W0 (w.heap.size + 1) (uL (tc y)) 60 := Blk.allocs _ hW0 1 rfl
 have B2 : Blk W0 (w.heap.size + 1 + 1) (uL 0) 60 := Blk.allocs _ hW0 2 rfl
 have HB := aB hW0
 have hsz : w.heap.size + 3 ≤ W0.heap.size := aZ hW0
 simp only [List.foldl_cons, List.foldl_nil] at hW0
 have hbx : decide (x < 0) = true := by simpa using hx0
 have hby : decide (y < 0) = false := by simpa using hy0
 go_enter Tryz.func105, Tryz.ntmps105
 unfold wI U
 go_upto_region 1 with (fail)
 clear hW0
 refine cG ?_
 refine calm_a (k := 4) (d := 6) (st := 5) (x := (.tmp 10)) (u := wI (x - y)) (T := 60) (by kernel_rfl) (by rfl) (by rfl) info_wide rfl rfl (by first | exact wI_one _ | exact U_one _) ?_
 refine cX ?_ ?_ (by intro wz hSw; obtain ⟨q0, q1, q2, q3⟩ := c4 (B0.y hSw.1); go_simp; all_goals with_reducible rfl) ?_
 refine cX ?_ ?_ (by intro wz hSw; obtain ⟨q0, q1, q2, q3⟩ := c4 (B1.y hSw.1); go_simp; all_goals with_reducible rfl) ?_
 refine cC ?_ ?_ ?_ ?_ ?hc3_2 ?_
 case hc3_2 => (intro w hSw; exact wideTurned_any y w)
 refine cC ?_ ?_ ?_ ?_ ?hc3_3 ?_
 case hc3_3 => (intro w hSw; exact widePlus_z x (-y - 1) (x - y) 1 (by omega) (by omega) w)
 refine cB ?_
 refine cB ?_
 refine calm_end ?_
 refine ⟨(by rfl), fun b4 w1 hb4 hS D0 => ?_⟩
 have hl4_0 : w.heap.size < b4 := lL B0.lt hb4
 have hl4_1 : w.heap.size + 1 < b4 := lL B1.lt hb4
 have hl4_2 : w.heap.size + 1 + 1 < b4 := lL B2.lt hb4
 have hS := sO hS
 have B0 := B0.y hS
 have B1 := B1.y hS
 have B2 := B2.y hS
 have B4 : Blk w1 b4 (uL (tc (x - y))) 60 := D0
 have hz1 : W0.heap.size ≤ w1.heap.size := hS.size
 have HB := gS HB hS
 clear hS D0
 go_upto_region 2 with (fail)
 refine cG ?_
 refine calm_k (b := w.heap.size + 1 + 1) (o := 0) (st := 16) (ado := .tmp 4) (x := (.tmp 25)) (u := wI (x - y)) (by kernel_rfl) B2 (by rfl) size_wide (by first | exact wI_one _ | exact U_one _) (by first | exact Nat.le_refl _ | (simp; done) | decide) ?_
 refine cX ?_ ?_ (by intro wz hSw; obtain ⟨q0, q1, q2, q3⟩ := c4 (B4.y hSw.1); go_simp; all_goals with_reducible rfl) ?_
 refine cX ?_ ?_ (by intro wz hSw; obtain ⟨q0, q1, q2, q3⟩ := c4 (B0.y hSw.1); go_simp; all_goals with_reducible rfl) ?_
 refine cC ?_ ?_ ?_ ?_ ?hc4_2 ?_
 case hc4_2 => (intro w hSw; exact wideNeg_b x true hx hbx w)
 refine cX ?_ ?_ (by intro wz hSw; obtain ⟨q0, q1, q2, q3⟩ := c4 (B1.y hSw.1); go_simp; all_goals with_reducible rfl) ?_
 refine cC ?_ ?_ ?_ ?_ ?hc4_4 ?_
 case hc4_4 => (intro w hSw; exact wideNeg_b y false hy hby w)
 refine cW ?_ ?_ ?_
 refine cW ?_ ?_ ?_
 refine cX ?_ ?_ (by intro wz hSw; obtain ⟨q0, q1, q2, q3⟩ := c4 (B4.y hSw.1); go_simp; all_goals with_reducible rfl) ?_
 refine cC ?_ ?_ ?_ ?_ ?hc4_8 ?_
 case hc4_8 => (intro w hSw; exact wideNeg_b (x - y) true hd hbs w)
 refine cX ?_ ?_ (by intro wz hSw; obtain ⟨q0, q1, q2, q3⟩ := c4 (B0.y hSw.1); go_simp; all_goals with_reducible rfl) ?_
 refine cC ?_ ?_ ?_ ?_ ?hc4_10 ?_
 case hc4_10 => (intro w hSw; exact wideNeg_b x true hx hbx w)
 refine cW ?_ ?_ ?_
 refine cW ?_ ?_ ?_
 refine cC ?_ ?_ ?_ ?_ ?hc4_13 ?_
 case hc4_13 => (intro w hSw; exact wideKept_b (x - y) (x - y) true rfl w)
 refine cW ?_ ?_ ?_
 refine cW ?_ ?_ ?_
 refine cB ?_
 refine cW ?_ ?_ ?_
 refine calm_end ?_
 refine ⟨(by rfl), (by rfl), fun w2 hS D0 => ?_⟩
 have B0 := B0.y hS
 have B1 := B1.y hS
 have B4 := B4.y hS
 have B2 : Blk w2 (w.heap.size + 1 + 1) (uL (tc (x - y))) 60 := blk_whole D0 rfl
 have hz2 : w1.heap.size ≤ w2.heap.size := hS.size
 have HB := gS HB hS
 clear hS D0
 go_wp2_with fail
 obtain ⟨s0_0, s0_1, s0_2, s0_3⟩ := c4 (B2)
 refine bodyPost_ret (v := .tuple #[wI (x - y), .bool true]) (by simp [results, Tryz.results105, go_sem, s0_0, s0_1, s0_2, s0_3]) rfl ⟨rfl, HB⟩
theorem wideSub_01 (x y : Int) (hx : Fit x) (hy : Fit y) (hd : Fit (x - y)) (hx0 : ¬ x < 0) (hy0 : y < 0) (w : World) :
  Calls Tryz.prog 105 #[wI x, wI y] w fun e w' => e = .returned (.tuple #[wI (x - y), .bool true]) ∧ Below w.heap.size w w' := by
 have hbs : decide (x - y < 0) = false := by have h1 := hx0; have h2 := hy0; simp only [decide_eq_true_eq, decide_eq_false_iff_not]; omega
 obtain ⟨W0, hW0⟩ : ∃ W0, [.cells #[u64 (lb (tc x) 0), u64 (lb (tc x) 1), u64 (lb (tc x) 2), u64 (lb (tc x) 3)] 60, .cells #[u64 (lb (tc y) 0), u64 (lb (tc y) 1), u64 (lb (tc y) 2), u64 (lb (tc y) 3)] 60, .cells #[.int .u64 0, .int .u64 0, .int .u64 0, .int .u64 0] 60].foldl World.alloc w = W0 := ⟨_, rfl⟩
 have B0 : Blk W0 (w.heap.size) (uL (tc x)) 60 := Blk.allocs _ hW0 0 rfl
 have B1 : Blk W0 (w.heap.size + 1) (uL (tc y)) 60 := Blk.allocs _ hW0 1 rfl
 have B2 : Blk W0 (w.heap.size + 1 + 1) (uL 0) 60 := Blk.allocs _ hW0 2 rfl
 have HB := aB hW0
 have hsz : w.heap.size + 3 ≤ W0.heap.size := aZ hW0
 simp only [List.foldl_cons, List.foldl_nil] at hW0
 have hbx : decide (x < 0) = false := by simpa using hx0
 have hby : decide (y < 0) = true := by simpa using hy0
 go_enter Tryz.func105, Tryz.ntmps105
 unfold wI U
 go_upto_region 1 with (fail)
 clear hW0
 refine cG ?_
 refine calm_a (k := 4) (d := 6) (st := 5) (x := (.tmp 10)) (u := wI (x - y)) (T := 60) (by kernel_rfl) (by rfl) (by rfl) info_wide rfl rfl (by first | exact wI_one _ | exact U_one _) ?_
 refine cX ?_ ?_ (by intro wz hSw; obtain ⟨q0, q1, q2, q3⟩ := c4 (B0.y hSw.1); go_simp; all_goals with_reducible rfl) ?_
 refine cX ?_ ?_ (by intro wz hSw; obtain ⟨q0, q1, q2, q3⟩ := c4 (B1.y hSw.1); go_simp; all_goals with_reducible rfl) ?_
 refine cC ?_ ?_ ?_ ?_ ?hc5_2 ?_
 case hc5_2 => (intro w hSw; exact wideTurned_any y w)
 refine cC ?_ ?_ ?_ ?_ ?hc5_3 ?_
 case hc5_3 => (intro w hSw; exact widePlus_z x (-y - 1) (x - y) 1 (by omega) (by omega) w)
 refine cB ?_
 refine cB ?_
 refine calm_end ?_
 refine ⟨(by rfl), fun b4 w1 hb4 hS D0 => ?_⟩
 have hl4_0 : w.heap.size < b4 := lL B0.lt hb4
 have hl4_1 : w.heap.size + 1 < b4 := lL B1.lt hb4
 have hl4_2 : w.heap.size + 1 + 1 < b4 := lL B2.lt hb4
 have hS := sO hS
 have B0 := B0.y hS
 have B1 := B1.y hS
 have B2 := B2.y hS
 have B4 : Blk w1 b4 (uL (tc (x - y))) 60 := D0
 have hz1 : W0.heap.size ≤ w1.heap.size := hS.size
 have HB := gS HB hS
 clear hS D0
 go_upto_region 2 with (fail)
 refine cG ?_
 refine calm_k (b := w.heap.size + 1 + 1) (o := 0) (st := 16) (ado := .tmp 4) (x := (.tmp 25)) (u := wI (x - y)) (by kernel_rfl) B2 (by rfl) size_wide (by first | exact wI_one _ | exact U_one _) (by first | exact Nat.le_refl _ | (simp; done) | decide) ?_
 refine cX ?_ ?_ (by intro wz hSw; obtain ⟨q0, q1, q2, q3⟩ := c4 (B4.y hSw.1); go_simp; all_goals with_reducible rfl) ?_
 refine cX ?_ ?_ (by intro wz hSw; obtain ⟨q0, q1, q2, q3⟩ := c4 (B0.y hSw.1); go_simp; all_goals with_reducible rfl) ?_
 refine cC ?_ ?_ ?_ ?_ ?hc6_2 ?_
 case hc6_2 => (intro w hSw; exact wideNeg_b x false hx hbx w)
 refine cX ?_ ?_ (by intro wz hSw; obtain ⟨q0, q1, q2, q3⟩ := c4 (B1.y hSw.1); go_simp; all_goals with_reducible rfl) ?_
 refine cC ?_ ?_ ?_ ?_ ?hc6_4 ?_
 case hc6_4 => (intro w hSw; exact wideNeg_b y true hy hby w)
 refine cW ?_ ?_ ?_
 refine cW ?_ ?_ ?_
 refine cX ?_ ?_ (by intro wz hSw; obtain ⟨q0, q1, q2, q3⟩ := c4 (B4.y hSw.1); go_simp; all_goals with_reducible rfl) ?_
 refine cC ?_ ?_ ?_ ?_ ?hc6_8 ?_
 case hc6_8 => (intro w hSw; exact wideNeg_b (x - y) false hd hbs w)
 refine cX ?_ ?_ (by intro wz hSw; obtain ⟨q0, q1, q2, q3⟩ := c4 (B0.y hSw.1); go_simp; all_goals with_reducible rfl) ?_
 refine cC ?_ ?_ ?_ ?_ ?hc6_10 ?_
 case hc6_10 => (intro w hSw; exact wideNeg_b x false hx hbx w)
 refine cW ?_ ?_ ?_
 refine cW ?_ ?_ ?_
 refine cC ?_ ?_ ?_ ?_ ?hc6_13 ?_
 case hc6_13 => (intro w hSw; exact wideKept_b (x - y) (x - y) true rfl w)
 refine cW ?_ ?_ ?_
 refine cW ?_ ?_ ?_
 refine cB ?_
 refine cW ?_ ?_ ?_
 refine calm_end ?_
 refine ⟨(by rfl), (by rfl), fun w2 hS D0 => ?_⟩
 have B0 := B0.y hS
 have B1 := B1.y hS
 have B4 := B4.y hS
 have B2 : Blk w2 (w.heap.size + 1 + 1) (uL (tc (x - y))) 60 := blk_whole D0 rfl
 have hz2 : w1.heap.size ≤ w2.heap.size := hS.size
 have HB := gS HB hS
 clear hS D0
 go_wp2_with fail
 obtain ⟨s0_0, s0_1, s0_2, s0_3⟩ := c4 (B2)
 refine bodyPost_ret (v := .tuple #[wI (x - y), .bool true]) (by simp [results, Tryz.results105, go_sem, s0_0, s0_1, s0_2, s0_3]) rfl ⟨rfl, HB⟩
theorem wideSub_00 (x y : Int) (hx : Fit x) (hy : Fit y) (hd : Fit (x - y)) (hx0 : ¬ x < 0) (hy0 : ¬ y < 0) (w : World) :
  Calls Tryz.prog 105 #[wI x, wI y] w fun e w' => e = .returned (.tuple #[wI (x - y), .bool true]) ∧ Below w.heap.size w w' := by
 obtain ⟨W0, hW0⟩ : ∃ W0, [.cells #[u64 (lb (tc x) 0), u64 (lb (tc x) 1), u64 (lb (tc x) 2), u64 (lb (tc x) 3)] 60, .cells #[u64 (lb (tc y) 0), u64 (lb (tc y) 1), u64 (lb (tc y) 2), u64 (lb (tc y) 3)] 60, .cells #[.int .u64 0, .int .u64 0, .int .u64 0, .int .u64 0] 60].foldl World.alloc w = W0 := ⟨_, rfl⟩
 have B0 : Blk W0 (w.heap.size) (uL (tc x)) 60 := Blk.allocs _ hW0 0 rfl
 have B1 : Blk W0 (w.heap.size + 1) (uL (tc y)) 60 := Blk.allocs _ hW0 1 rfl
 have B2 : Blk W0 (w.heap.size + 1 + 1) (uL 0) 60 := Blk.allocs _ hW0 2 rfl
 have HB := aB hW0
 have hsz : w.heap.size + 3 ≤ W0.heap.size := aZ hW0
 simp only [List.foldl_cons, List.foldl_nil] at hW0
 have hbx : decide (x < 0) = false := by simpa using hx0
 have hby : decide (y < 0) = false := by simpa using hy0
 go_enter Tryz.func105, Tryz.ntmps105
 unfold wI U
 go_upto_region 1 with (fail)
 clear hW0
 refine cG ?_
 refine calm_a (k := 4) (d := 6) (st := 5) (x := (.tmp 10)) (u := wI (x - y)) (T := 60) (by kernel_rfl) (by rfl) (by rfl) info_wide rfl rfl (by first | exact wI_one _ | exact U_one _) ?_
 refine cX ?_ ?_ (by intro wz hSw; obtain ⟨q0, q1, q2, q3⟩ := c4 (B0.y hSw.1); go_simp; all_goals with_reducible rfl) ?_
 refine cX ?_ ?_ (by intro wz hSw; obtain ⟨q0, q1, q2, q3⟩ := c4 (B1.y hSw.1); go_simp; all_goals with_reducible rfl) ?_
 refine cC ?_ ?_ ?_ ?_ ?hc7_2 ?_
 case hc7_2 => (intro w hSw; exact wideTurned_any y w)
 refine cC ?_ ?_ ?_ ?_ ?hc7_3 ?_
 case hc7_3 => (intro w hSw; exact widePlus_z x (-y - 1) (x - y) 1 (by omega) (by omega) w)
 refine cB ?_
 refine cB ?_
 refine calm_end ?_
 refine ⟨(by rfl), fun b4 w1 hb4 hS D0 => ?_⟩
 have hl4_0 : w.heap.size < b4 := lL B0.lt hb4
 have hl4_1 : w.heap.size + 1 < b4 := lL B1.lt hb4
 have hl4_2 : w.heap.size + 1 + 1 < b4 := lL B2.lt hb4
 have hS := sO hS
 have B0 := B0.y hS
 have B1 := B1.y hS
 have B2 := B2.y hS
 have B4 : Blk w1 b4 (uL (tc (x - y))) 60 := D0
 have hz1 : W0.heap.size ≤ w1.heap.size := hS.size
 have HB := gS HB hS
 clear hS D0
 go_upto_region 2 with (fail)
 refine cG ?_
 refine calm_k (b := w.heap.size + 1 + 1) (o := 0) (st := 16) (ado := .tmp 4) (x := (.tmp 25)) (u := wI (x - y)) (by kernel_rfl) B2 (by rfl) size_wide (by first | exact wI_one _ | exact U_one _) (by first | exact Nat.le_refl _ | (simp; done) | decide) ?_
 refine cX ?_ ?_ (by intro wz hSw; obtain ⟨q0, q1, q2, q3⟩ := c4 (B4.y hSw.1); go_simp; all_goals with_reducible rfl) ?_
 refine cX ?_ ?_ (by intro wz hSw; obtain ⟨q0, q1, q2, q3⟩ := c4 (B0.y hSw.1); go_simp; all_goals with_reducible rfl) ?_
 refine cC ?_ ?_ ?_ ?_ ?hc8_2 ?_
 case hc8_2 => (intro w hSw; exact wideNeg_b x false hx hbx w)
 refine cX ?_ ?_ (by intro wz hSw; obtain ⟨q0, q1, q2, q3⟩ := c4 (B1.y hSw.1); go_simp; all_goals with_reducible rfl) ?_
 refine cC ?_ ?_ ?_ ?_ ?hc8_4 ?_
 case hc8_4 => (intro w hSw; exact wideNeg_b y false hy hby w)
 refine cW ?_ ?_ ?_
 refine cW ?_ ?_ ?_
 refine cS ?_ ?_
 refine cS ?_ ?_
 refine cS ?_ ?_
 refine cS ?_ ?_
 refine cS ?_ ?_
 refine cW ?_ ?_ ?_
 refine cC ?_ ?_ ?_ ?_ ?hc8_13 ?_
 case hc8_13 => (intro w hSw; exact wideKept_b (x - y) (x - y) true rfl w)
 refine cW ?_ ?_ ?_
 refine cW ?_ ?_ ?_
 refine cB ?_
 refine cW ?_ ?_ ?_
 refine calm_end ?_
 refine ⟨(by rfl), (by rfl), fun w2 hS D0 => ?_⟩
 have B0 := B0.y hS
 have B1 := B1.y hS
 have B4 := B4.y hS
 have B2 : Blk w2 (w.heap.size + 1 + 1) (uL (tc (x - y))) 60 := blk_whole D0 rfl
 have hz2 : w1.heap.size ≤ w2.heap.size := hS.size
 have HB := gS HB hS
 clear hS D0
 go_wp2_with fail
 obtain ⟨s0_0, s0_1, s0_2, s0_3⟩ := c4 (B2)
 refine bodyPost_ret (v := .tuple #[wI (x - y), .bool true]) (by simp [results, Tryz.results105, go_sem, s0_0, s0_1, s0_2, s0_3]) rfl ⟨rfl, HB⟩
theorem wideSub_any (x y : Int) (hx : Fit x) (hy : Fit y) (hd : Fit (x - y)) (w : World) :
  Calls Tryz.prog 105 #[wI x, wI y] w fun e w' => e = .returned (.tuple #[wI (x - y), .bool true]) ∧ Below w.heap.size w w' := by
 by_cases h1 : x < 0
 ·by_cases h2 : y < 0
  ·exact wideSub_11 x y hx hy hd h1 h2 w
  ·exact wideSub_10 x y hx hy hd h1 h2 w
 ·by_cases h2 : y < 0
  ·exact wideSub_01 x y hx hy hd h1 h2 w
  ·exact wideSub_00 x y hx hy hd h1 h2 w
theorem wideAdd_11 (x y : Int) (hx : Fit x) (hy : Fit y) (hd : Fit (x + y)) (hx0 : x < 0) (hy0 : y < 0) (w : World) :
  Calls Tryz.prog 106 #[wI x, wI y] w fun e w' => e = .returned (.tuple #[wI (x + y), .bool true]) ∧ Below w.heap.size w w' := by
 have hbs : decide (x + y < 0) = true := by have h1 := hx0; have h2 := hy0; simp only [decide_eq_true_eq, decide_eq_false_iff_not]; omega
 obtain ⟨W0, hW0⟩ : ∃ W0, [.cells #[u64 (lb (tc x) 0), u64 (lb (tc x) 1), u64 (lb (tc x) 2), u64 (lb (tc x) 3)] 60, .cells #[u64 (lb (tc y) 0), u64 (lb (tc y) 1), u64 (lb (tc y) 2), u64 (lb (tc y) 3)] 60, .cells #[.int .u64 0, .int .u64 0, .int .u64 0, .int .u64 0] 60].foldl World.alloc w = W0 := ⟨_, rfl⟩
 have B0 : Blk W0 (w.heap.size) (uL (tc x)) 60 := Blk.allocs _ hW0 0 rfl
 have B1 : Blk W0 (w.heap.size + 1) (uL (tc y)) 60 := Blk.allocs _ hW0 1 rfl
 have B2 : Blk W0 (w.heap.size + 1 + 1) (uL 0) 60 := Blk.allocs _ hW0 2 rfl
 have HB := aB hW0
 have hsz : w.heap.size + 3 ≤ W0.heap.size := aZ hW0
 simp only [List.foldl_cons, List.foldl_nil] at hW0
 have hbx : decide (x < 0) = true := by simpa using hx0
 have hby : decide (y < 0) = true := by simpa using hy0
 go_enter Tryz.func106, Tryz.ntmps106
 unfold wI U
 go_upto_region 1 with (fail)
 clear hW0
 refine cP ?_
 refine calm_a (k := 3) (d := 6) (st := 4) (x := (.tmp 9)) (u := wI (x + y)) (T := 60) (by kernel_rfl) (by rfl) (by rfl) info_wide rfl rfl (by first | exact wI_one _ | exact U_one _) ?_
 refine cX ?_ ?_ (by intro wz hSw; obtain ⟨q0, q1, q2, q3⟩ := c4 (B0.y hSw.1); go_simp; all_goals with_reducible rfl) ?_
 refine cX ?_ ?_ (by intro wz hSw; obtain ⟨q0, q1, q2, q3⟩ := c4 (B1.y hSw.1); go_simp; all_goals with_reducible rfl) ?_
 refine cC ?_ ?_ ?_ ?_ ?hc9_2 ?_
 case hc9_2 => (intro w hSw; exact widePlus_z x y (x + y) 0 (by omega) (by omega) w)
 refine cB ?_
 refine cB ?_
 refine calm_end ?_
 refine ⟨(by rfl), fun b4 w1 hb4 hS D0 => ?_⟩
 have hl4_0 : w.heap.size < b4 := lL B0.lt hb4
 have hl4_1 : w.heap.size + 1 < b4 := lL B1.lt hb4
 have hl4_2 : w.heap.size + 1 + 1 < b4 := lL B2.lt hb4
 have hS := sO hS
 have B0 := B0.y hS
 have B1 := B1.y hS
 have B2 := B2.y hS
 have B4 : Blk w1 b4 (uL (tc (x + y))) 60 := D0
 have hz1 : W0.heap.size ≤ w1.heap.size := hS.size
 have HB := gS HB hS
 clear hS D0
 go_upto_region 2 with (fail)
 refine cG ?_
 refine calm_k (b := w.heap.size + 1 + 1) (o := 0) (st := 16) (ado := .tmp 4) (x := (.tmp 24)) (u := wI (x + y)) (by kernel_rfl) B2 (by rfl) size_wide (by first | exact wI_one _ | exact U_one _) (by first | exact Nat.le_refl _ | (simp; done) | decide) ?_
 refine cX ?_ ?_ (by intro wz hSw; obtain ⟨q0, q1, q2, q3⟩ := c4 (B4.y hSw.1); go_simp; all_goals with_reducible rfl) ?_
 refine cX ?_ ?_ (by intro wz hSw; obtain ⟨q0, q1, q2, q3⟩ := c4 (B0.y hSw.1); go_simp; all_goals with_reducible rfl) ?_
 refine cC ?_ ?_ ?_ ?_ ?hc10_2 ?_
 case hc10_2 => (intro w hSw; exact wideNeg_b x true hx hbx w)
 refine cX ?_ ?_ (by intro wz hSw; obtain ⟨q0, q1, q2, q3⟩ := c4 (B1.y hSw.1); go_simp; all_goals with_reducible rfl) ?_
 refine cC ?_ ?_ ?_ ?_ ?hc10_4 ?_
 case hc10_4 => (intro w hSw; exact wideNeg_b y true hy hby w)
 refine cW ?_ ?_ ?_
 refine cW ?_ ?_ ?_
 refine cX ?_ ?_ (by intro wz hSw; obtain ⟨q0, q1, q2, q3⟩ := c4 (B4.y hSw.1); go_simp; all_goals with_reducible rfl) ?_
 refine cC ?_ ?_ ?_ ?_ ?hc10_8 ?_
 case hc10_8 => (intro w hSw; exact wideNeg_b (x + y) true hd hbs w)
 refine cX ?_ ?_ (by intro wz hSw; obtain ⟨q0, q1, q2, q3⟩ := c4 (B0.y hSw.1); go_simp; all_goals with_reducible rfl) ?_
 refine cC ?_ ?_ ?_ ?_ ?hc10_10 ?_
 case hc10_10 => (intro w hSw; exact wideNeg_b x true hx hbx w)
 refine cW ?_ ?_ ?_
 refine cW ?_ ?_ ?_
 refine cC ?_ ?_ ?_ ?_ ?hc10_13 ?_
 case hc10_13 => (intro w hSw; exact wideKept_b (x + y) (x + y) true rfl w)
 refine cW ?_ ?_ ?_
 refine cW ?_ ?_ ?_
 refine cB ?_
 refine cW ?_ ?_ ?_
 refine calm_end ?_
 refine ⟨(by rfl), (by rfl), fun w2 hS D0 => ?_⟩
 have B0 := B0.y hS
 have B1 := B1.y hS
 have B4 := B4.y hS
 have B2 : Blk w2 (w.heap.size + 1 + 1) (uL (tc (x + y))) 60 := blk_whole D0 rfl
 have hz2 : w1.heap.size ≤ w2.heap.size := hS.size
 have HB := gS HB hS
 clear hS D0
 go_wp2_with fail
 obtain ⟨s0_0, s0_1, s0_2, s0_3⟩ := c4 (B2)
 refine bodyPost_ret (v := .tuple #[wI (x + y), .bool true]) (by simp [results, Tryz.results106, go_sem, s0_0, s0_1, s0_2, s0_3]) rfl ⟨rfl, HB⟩
theorem wideAdd_10 (x y : Int) (hx : Fit x) (hy : Fit y) (hd : Fit (x + y)) (hx0 : x < 0) (hy0 : ¬ y < 0) (w : World) :
  Calls Tryz.prog 106 #[wI x, wI y] w fun e w' => e = .returned (.tuple #[wI (x + y), .bool true]) ∧ Below w.heap.size w w' := by
 obtain ⟨W0, hW0⟩ : ∃ W0, [.cells #[u64 (lb (tc x) 0), u64 (lb (tc x) 1), u64 (lb (tc x) 2), u64 (lb (tc x) 3)] 60, .cells #[u64 (lb (tc y) 0), u64 (lb (tc y) 1), u64 (lb (tc y) 2), u64 (lb (tc y) 3)] 60, .cells #[.int .u64 0, .int .u64 0, .int .u64 0, .int .u64 0] 60].foldl World.alloc w = W0 := ⟨_, rfl⟩
 have B0 : Blk W0 (w.heap.size) (uL (tc x)) 60 := Blk.allocs _ hW0 0 rfl
 have B1 : Blk W0 (w.heap.size + 1) (uL (tc y)) 60 := Blk.allocs _ hW0 1 rfl
 have B2 : Blk W0 (w.heap.size + 1 + 1) (uL 0) 60 := Blk.allocs _ hW0 2 rfl
 have HB := aB hW0
 have hsz : w.heap.size + 3 ≤ W0.heap.size := aZ hW0
 simp only [List.foldl_cons, List.foldl_nil] at hW0
 have hbx : decide (x < 0) = true := by simpa using hx0
 have hby : decide (y < 0) = false := by simpa using hy0
 go_enter Tryz.func106, Tryz.ntmps106
 unfold wI U
 go_upto_region 1 with (fail)
 clear hW0
 refine cP ?_
 refine calm_a (k := 3) (d := 6) (st := 4) (x := (.tmp 9)) (u := wI (x + y)) (T := 60) (by kernel_rfl) (by rfl) (by rfl) info_wide rfl rfl (by first | exact wI_one _ | exact U_one _) ?_
 refine cX ?_ ?_ (by intro wz hSw; obtain ⟨q0, q1, q2, q3⟩ := c4 (B0.y hSw.1); go_simp; all_goals with_reducible rfl) ?_
 refine cX ?_ ?_ (by intro wz hSw; obtain ⟨q0, q1, q2, q3⟩ := c4 (B1.y hSw.1); go_simp; all_goals with_reducible rfl) ?_
 refine cC ?_ ?_ ?_ ?_ ?hc11_2 ?_
 case hc11_2 => (intro w hSw; exact widePlus_z x y (x + y) 0 (by omega) (by omega) w)
 refine cB ?_
 refine cB ?_
 refine calm_end ?_
 refine ⟨(by rfl), fun b4 w1 hb4 hS D0 => ?_⟩
 have hl4_0 : w.heap.size < b4 := lL B0.lt hb4
 have hl4_1 : w.heap.size + 1 < b4 := lL B1.lt hb4
 have hl4_2 : w.heap.size + 1 + 1 < b4 := lL B2.lt hb4
 have hS := sO hS
 have B0 := B0.y hS
 have B1 := B1.y hS
 have B2 := B2.y hS
 have B4 : Blk w1 b4 (uL (tc (x + y))) 60 := D0
 have hz1 : W0.heap.size ≤ w1.heap.size := hS.size
 have HB := gS HB hS
 clear hS D0
 go_upto_region 2 with (fail)
 refine cG ?_
 refine calm_k (b := w.heap.size + 1 + 1) (o := 0) (st := 16) (ado := .tmp 4) (x := (.tmp 24)) (u := wI (x + y)) (by kernel_rfl) B2 (by rfl) size_wide (by first | exact wI_one _ | exact U_one _) (by first | exact Nat.le_refl _ | (simp; done) | decide) ?_
 refine cX ?_ ?_ (by intro wz hSw; obtain ⟨q0, q1, q2, q3⟩ := c4 (B4.y hSw.1); go_simp; all_goals with_reducible rfl) ?_
 refine cX ?_ ?_ (by intro wz hSw; obtain ⟨q0, q1, q2, q3⟩ := c4 (B0.y hSw.1); go_simp; all_goals with_reducible rfl) ?_
 refine cC ?_ ?_ ?_ ?_ ?hc12_2 ?_
 case hc12_2 => (intro w hSw; exact wideNeg_b x true hx hbx w)
 refine cX ?_ ?_ (by intro wz hSw; obtain ⟨q0, q1, q2, q3⟩ := c4 (B1.y hSw.1); go_simp; all_goals with_reducible rfl) ?_
 refine cC ?_ ?_ ?_ ?_ ?hc12_4 ?_
 case hc12_4 => (intro w hSw; exact wideNeg_b y false hy hby w)
 refine cW ?_ ?_ ?_
 refine cW ?_ ?_ ?_
 refine cS ?_ ?_
 refine cS ?_ ?_
 refine cS ?_ ?_
 refine cS ?_ ?_
 refine cS ?_ ?_
 refine cW ?_ ?_ ?_
 refine cC ?_ ?_ ?_ ?_ ?hc12_13 ?_
 case hc12_13 => (intro w hSw; exact wideKept_b (x + y) (x + y) true rfl w)
 refine cW ?_ ?_ ?_
 refine cW ?_ ?_ ?_
 refine cB ?_
 refine cW ?_ ?_ ?_
 refine calm_end ?_
 refine ⟨(by rfl), (by rfl), fun w2 hS D0 => ?_⟩
 have B0 := B0.y hS
 have B1 := B1.y hS
 have B4 := B4.y hS
 have B2 : Blk w2 (w.heap.size + 1 + 1) (uL (tc (x + y))) 60 := blk_whole D0 rfl
 have hz2 : w1.heap.size ≤ w2.heap.size := hS.size
 have HB := gS HB hS
 clear hS D0
 go_wp2_with fail
 obtain ⟨s0_0, s0_1, s0_2, s0_3⟩ := c4 (B2)
 refine bodyPost_ret (v := .tuple #[wI (x + y), .bool true]) (by simp [results, Tryz.results106, go_sem, s0_0, s0_1, s0_2, s0_3]) rfl ⟨rfl, HB⟩
theorem wideAdd_01 (x y : Int) (hx : Fit x) (hy : Fit y) (hd : Fit (x + y)) (hx0 : ¬ x < 0) (hy0 : y < 0) (w : World) :
  Calls Tryz.prog 106 #[wI x, wI y] w fun e w' => e = .returned (.tuple #[wI (x + y), .bool true]) ∧ Below w.heap.size w w' := by
 obtain ⟨W0, hW0⟩ : ∃ W0, [.cells #[u64 (lb (tc x) 0), u64 (lb (tc x) 1), u64 (lb (tc x) 2), u64 (lb (tc x) 3)] 60, .cells #[u64 (lb (tc y) 0), u64 (lb (tc y) 1), u64 (lb (tc y) 2), u64 (lb (tc y) 3)] 60, .cells #[.int .u64 0, .int .u64 0, .int .u64 0, .int .u64 0] 60].foldl World.alloc w = W0 := ⟨_, rfl⟩
 have B0 : Blk W0 (w.heap.size) (uL (tc x)) 60 := Blk.allocs _ hW0 0 rfl
 have B1 : Blk W0 (w.heap.size + 1) (uL (tc y)) 60 := Blk.allocs _ hW0 1 rfl
 have B2 : Blk W0 (w.heap.size + 1 + 1) (uL 0) 60 := Blk.allocs _ hW0 2 rfl
 have HB := aB hW0
 have hsz : w.heap.size + 3 ≤ W0.heap.size := aZ hW0
 simp only [List.foldl_cons, List.foldl_nil] at hW0
 have hbx : decide (x < 0) = false := by simpa using hx0
 have hby : decide (y < 0) = true := by simpa using hy0
 go_enter Tryz.func106, Tryz.ntmps106
 unfold wI U
 go_upto_region 1 with (fail)
 clear hW0
 refine cP ?_
 refine calm_a (k := 3) (d := 6) (st := 4) (x := (.tmp 9)) (u := wI (x + y)) (T := 60) (by kernel_rfl) (by rfl) (by rfl) info_wide rfl rfl (by first | exact wI_one _ | exact U_one _) ?_
 refine cX ?_ ?_ (by intro wz hSw; obtain ⟨q0, q1, q2, q3⟩ := c4 (B0.y hSw.1); go_simp; all_goals with_reducible rfl) ?_
 refine cX ?_ ?_ (by intro wz hSw; obtain ⟨q0, q1, q2, q3⟩ := c4 (B1.y hSw.1); go_simp; all_goals with_reducible rfl) ?_
 refine cC ?_ ?_ ?_ ?_ ?hc13_2 ?_
 case hc13_2 => (intro w hSw; exact widePlus_z x y (x + y) 0 (by omega) (by omega) w)
 refine cB ?_
 refine cB ?_
 refine calm_end ?_
 refine ⟨(by rfl), fun b4 w1 hb4 hS D0 => ?_⟩
 have hl4_0 : w.heap.size < b4 := lL B0.lt hb4
 have hl4_1 : w.heap.size + 1 < b4 := lL B1.lt hb4
 have hl4_2 : w.heap.size + 1 + 1 < b4 := lL B2.lt hb4
 have hS := sO hS
 have B0 := B0.y hS
 have B1 := B1.y hS
 have B2 := B2.y hS
 have B4 : Blk w1 b4 (uL (tc (x + y))) 60 := D0
 have hz1 : W0.heap.size ≤ w1.heap.size := hS.size
 have HB := gS HB hS
 clear hS D0
 go_upto_region 2 with (fail)
 refine cG ?_
 refine calm_k (b := w.heap.size + 1 + 1) (o := 0) (st := 16) (ado := .tmp 4) (x := (.tmp 24)) (u := wI (x + y)) (by kernel_rfl) B2 (by rfl) size_wide (by first | exact wI_one _ | exact U_one _) (by first | exact Nat.le_refl _ | (simp; done) | decide) ?_
 refine cX ?_ ?_ (by intro wz hSw; obtain ⟨q0, q1, q2, q3⟩ := c4 (B4.y hSw.1); go_simp; all_goals with_reducible rfl) ?_
 refine cX ?_ ?_ (by intro wz hSw; obtain ⟨q0, q1, q2, q3⟩ := c4 (B0.y hSw.1); go_simp; all_goals with_reducible rfl) ?_
 refine cC ?_ ?_ ?_ ?_ ?hc14_2 ?_
 case hc14_2 => (intro w hSw; exact wideNeg_b x false hx hbx w)
 refine cX ?_ ?_ (by intro wz hSw; obtain ⟨q0, q1, q2, q3⟩ := c4 (B1.y hSw.1); go_simp; all_goals with_reducible rfl) ?_
 refine cC ?_ ?_ ?_ ?_ ?hc14_4 ?_
 case hc14_4 => (intro w hSw; exact wideNeg_b y true hy hby w)
 refine cW ?_ ?_ ?_
 refine cW ?_ ?_ ?_
 refine cS ?_ ?_
 refine cS ?_ ?_
 refine cS ?_ ?_
 refine cS ?_ ?_
 refine cS ?_ ?_
 refine cW ?_ ?_ ?_
 refine cC ?_ ?_ ?_ ?_ ?hc14_13 ?_
 case hc14_13 => (intro w hSw; exact wideKept_b (x + y) (x + y) true rfl w)
 refine cW ?_ ?_ ?_
 refine cW ?_ ?_ ?_
 refine cB ?_
 refine cW ?_ ?_ ?_
 refine calm_end ?_
 refine ⟨(by rfl), (by rfl), fun w2 hS D0 => ?_⟩
 have B0 := B0.y hS
 have B1 := B1.y hS
 have B4 := B4.y hS
 have B2 : Blk w2 (w.heap.size + 1 + 1) (uL (tc (x + y))) 60 := blk_whole D0 rfl
 have hz2 : w1.heap.size ≤ w2.heap.size := hS.size
 have HB := gS HB hS
 clear hS D0
 go_wp2_with fail
 obtain ⟨s0_0, s0_1, s0_2, s0_3⟩ := c4 (B2)
 refine bodyPost_ret (v := .tuple #[wI (x + y), .bool true]) (by simp [results, Tryz.results106, go_sem, s0_0, s0_1, s0_2, s0_3]) rfl ⟨rfl, HB⟩
theorem wideAdd_00 (x y : Int) (hx : Fit x) (hy : Fit y) (hd : Fit (x + y)) (hx0 : ¬ x < 0) (hy0 : ¬ y < 0) (w : World) :
  Calls Tryz.prog 106 #[wI x, wI y] w fun e w' => e = .returned (.tuple #[wI (x + y), .bool true]) ∧ Below w.heap.size w w' := by
 have hbs : decide (x + y < 0) = false := by have h1 := hx0; have h2 := hy0; simp only [decide_eq_true_eq, decide_eq_false_iff_not]; omega
 obtain ⟨W0, hW0⟩ : ∃ W0, [.cells #[u64 (lb (tc x) 0), u64 (lb (tc x) 1), u64 (lb (tc x) 2), u64 (lb (tc x) 3)] 60, .cells #[u64 (lb (tc y) 0), u64 (lb (tc y) 1), u64 (lb (tc y) 2), u64 (lb (tc y) 3)] 60, .cells #[.int .u64 0, .int .u64 0, .int .u64 0, .int .u64 0] 60].foldl World.alloc w = W0 := ⟨_, rfl⟩
 have B0 : Blk W0 (w.heap.size) (uL (tc x)) 60 := Blk.allocs _ hW0 0 rfl
 have B1 : Blk W0 (w.heap.size + 1) (uL (tc y)) 60 := Blk.allocs _ hW0 1 rfl
 have B2 : Blk W0 (w.heap.size + 1 + 1) (uL 0) 60 := Blk.allocs _ hW0 2 rfl
 have HB := aB hW0
 have hsz : w.heap.size + 3 ≤ W0.heap.size := aZ hW0
 simp only [List.foldl_cons, List.foldl_nil] at hW0
 have hbx : decide (x < 0) = false := by simpa using hx0
 have hby : decide (y < 0) = false := by simpa using hy0
 go_enter Tryz.func106, Tryz.ntmps106
 unfold wI U
 go_upto_region 1 with (fail)
 clear hW0
 refine cP ?_
 refine calm_a (k := 3) (d := 6) (st := 4) (x := (.tmp 9)) (u := wI (x + y)) (T := 60) (by kernel_rfl) (by rfl) (by rfl) info_wide rfl rfl (by first | exact wI_one _ | exact U_one _) ?_
 refine cX ?_ ?_ (by intro wz hSw; obtain ⟨q0, q1, q2, q3⟩ := c4 (B0.y hSw.1); go_simp; all_goals with_reducible rfl) ?_
 refine cX ?_ ?_ (by intro wz hSw; obtain ⟨q0, q1, q2, q3⟩ := c4 (B1.y hSw.1); go_simp; all_goals with_reducible rfl) ?_
 refine cC ?_ ?_ ?_ ?_ ?hc15_2 ?_
 case hc15_2 => (intro w hSw; exact widePlus_z x y (x + y) 0 (by omega) (by omega) w)
 refine cB ?_
 refine cB ?_
 refine calm_end ?_
 refine ⟨(by rfl), fun b4 w1 hb4 hS D0 => ?_⟩
 have hl4_0 : w.heap.size < b4 := lL B0.lt hb4
 have hl4_1 : w.heap.size + 1 < b4 := lL B1.lt hb4
 have hl4_2 : w.heap.size + 1 + 1 < b4 := lL B2.lt hb4
 have hS := sO hS
 have B0 := B0.y hS
 have B1 := B1.y hS
 have B2 := B2.y hS
 have B4 : Blk w1 b4 (uL (tc (x + y))) 60 := D0
 have hz1 : W0.heap.size ≤ w1.heap.size := hS.size
 have HB := gS HB hS
 clear hS D0
 go_upto_region 2 with (fail)
 refine cG ?_
 refine calm_k (b := w.heap.size + 1 + 1) (o := 0) (st := 16) (ado := .tmp 4) (x := (.tmp 24)) (u := wI (x + y)) (by kernel_rfl) B2 (by rfl) size_wide (by first | exact wI_one _ | exact U_one _) (by first | exact Nat.le_refl _ | (simp; done) | decide) ?_
 refine cX ?_ ?_ (by intro wz hSw; obtain ⟨q0, q1, q2, q3⟩ := c4 (B4.y hSw.1); go_simp; all_goals with_reducible rfl) ?_
 refine cX ?_ ?_ (by intro wz hSw; obtain ⟨q0, q1, q2, q3⟩ := c4 (B0.y hSw.1); go_simp; all_goals with_reducible rfl) ?_
 refine cC ?_ ?_ ?_ ?_ ?hc16_2 ?_
 case hc16_2 => (intro w hSw; exact wideNeg_b x false hx hbx w)
 refine cX ?_ ?_ (by intro wz hSw; obtain ⟨q0, q1, q2, q3⟩ := c4 (B1.y hSw.1); go_simp; all_goals with_reducible rfl) ?_
 refine cC ?_ ?_ ?_ ?_ ?hc16_4 ?_
 case hc16_4 => (intro w hSw; exact wideNeg_b y false hy hby w)
 refine cW ?_ ?_ ?_
 refine cW ?_ ?_ ?_
 refine cX ?_ ?_ (by intro wz hSw; obtain ⟨q0, q1, q2, q3⟩ := c4 (B4.y hSw.1); go_simp; all_goals with_reducible rfl) ?_
 refine cC ?_ ?_ ?_ ?_ ?hc16_8 ?_
 case hc16_8 => (intro w hSw; exact wideNeg_b (x + y) false hd hbs w)
 refine cX ?_ ?_ (by intro wz hSw; obtain ⟨q0, q1, q2, q3⟩ := c4 (B0.y hSw.1); go_simp; all_goals with_reducible rfl) ?_
 refine cC ?_ ?_ ?_ ?_ ?hc16_10 ?_
 case hc16_10 => (intro w hSw; exact wideNeg_b x false hx hbx w)
 refine cW ?_ ?_ ?_
 refine cW ?_ ?_ ?_
 refine cC ?_ ?_ ?_ ?_ ?hc16_13 ?_
 case hc16_13 => (intro w hSw; exact wideKept_b (x + y) (x + y) true rfl w)
 refine cW ?_ ?_ ?_
 refine cW ?_ ?_ ?_
 refine cB ?_
 refine cW ?_ ?_ ?_
 refine calm_end ?_
 refine ⟨(by rfl), (by rfl), fun w2 hS D0 => ?_⟩
 have B0 := B0.y hS
 have B1 := B1.y hS
 have B4 := B4.y hS
 have B2 : Blk w2 (w.heap.size + 1 + 1) (uL (tc (x + y))) 60 := blk_whole D0 rfl
 have hz2 : w1.heap.size ≤ w2.heap.size := hS.size
 have HB := gS HB hS
 clear hS D0
 go_wp2_with fail
 obtain ⟨s0_0, s0_1, s0_2, s0_3⟩ := c4 (B2)
 refine bodyPost_ret (v := .tuple #[wI (x + y), .bool true]) (by simp [results, Tryz.results106, go_sem, s0_0, s0_1, s0_2, s0_3]) rfl ⟨rfl, HB⟩
theorem wideAdd_any (x y : Int) (hx : Fit x) (hy : Fit y) (hd : Fit (x + y)) (w : World) :
  Calls Tryz.prog 106 #[wI x, wI y] w fun e w' => e = .returned (.tuple #[wI (x + y), .bool true]) ∧ Below w.heap.size w w' := by
 by_cases h1 : x < 0
 ·by_cases h2 : y < 0
  ·exact wideAdd_11 x y hx hy hd h1 h2 w
  ·exact wideAdd_10 x y hx hy hd h1 h2 w
 ·by_cases h2 : y < 0
  ·exact wideAdd_01 x y hx hy hd h1 h2 w
  ·exact wideAdd_00 x y hx hy hd h1 h2 w
theorem wideSigned_neg (n : Int) (hn : Fit (-n)) (h0 : 0 < n) (w : World) :
  Calls Tryz.prog 104 #[wI n, .bool true] w fun e w' => e = .returned (.tuple #[wI (-n), .bool true]) ∧ Below w.heap.size w w' := by
 obtain ⟨W0, hW0⟩ : ∃ W0, [.cells #[u64 (lb (tc n) 0), u64 (lb (tc n) 1), u64 (lb (tc n) 2), u64 (lb (tc n) 3)] 60, .cells #[.int .u64 0, .int .u64 0, .int .u64 0, .int .u64 0] 60].foldl World.alloc w = W0 := ⟨_, rfl⟩
 have B0 : Blk W0 (w.heap.size) (uL (tc n)) 60 := Blk.allocs _ hW0 0 rfl
 have B1 : Blk W0 (w.heap.size + 1) (uL 0) 60 := Blk.allocs _ hW0 1 rfl
 have HB := aB hW0
 have hsz : w.heap.size + 2 ≤ W0.heap.size := aZ hW0
 simp only [List.foldl_cons, List.foldl_nil] at hW0
 have hb : decide (-n < 0) = true := by simpa using h0
 go_enter Tryz.func104, Tryz.ntmps104
 unfold wI U
 go_upto_region 2 with (fail)
 clear hW0
 refine cP ?_
 refine calm_a (k := 4) (d := 6) (st := 5) (x := (.tmp 11)) (u := wI (-n)) (T := 60) (by kernel_rfl) (by rfl) (by rfl) info_wide rfl rfl (by first | exact wI_one _ | exact U_one _) ?_
 refine cW ?_ ?_ ?_
 refine cX ?_ ?_ (by intro wz hSw; obtain ⟨q0, q1, q2, q3⟩ := c4 (B0.y hSw.1); go_simp; all_goals with_reducible rfl) ?_
 refine cC ?_ ?_ ?_ ?_ ?hc17_2 ?_
 case hc17_2 => (intro w hSw; exact wideTurned_any n w)
 refine cC ?_ ?_ ?_ ?_ ?hc17_3 ?_
 case hc17_3 => (intro w hSw; exact widePlus_z 0 (-n - 1) (-n) 1 (by omega) (by omega) w)
 refine cB ?_
 refine cB ?_
 refine calm_end ?_
 refine ⟨(by rfl), fun b3 w1 hb3 hS D0 => ?_⟩
 have hl3_0 : w.heap.size < b3 := lL B0.lt hb3
 have hl3_1 : w.heap.size + 1 < b3 := lL B1.lt hb3
 have hS := sO hS
 have B0 := B0.y hS
 have B1 := B1.y hS
 have B3 : Blk w1 b3 (uL (tc (-n))) 60 := D0
 have hz1 : W0.heap.size ≤ w1.heap.size := hS.size
 have HB := gS HB hS
 clear hS D0
 go_upto_region 3 with (fail)
 refine cG ?_
 refine calm_k (b := w.heap.size + 1) (o := 0) (st := 11) (ado := .tmp 4) (x := (.tmp 21)) (u := wI (-n)) (by kernel_rfl) B1 (by rfl) size_wide (by first | exact wI_one _ | exact U_one _) (by first | exact Nat.le_refl _ | (simp; done) | decide) ?_
 refine cX ?_ ?_ (by intro wz hSw; obtain ⟨q0, q1, q2, q3⟩ := c4 (B3.y hSw.1); go_simp; all_goals with_reducible rfl) ?_
 refine cX ?_ ?_ (by intro wz hSw; obtain ⟨q0, q1, q2, q3⟩ := c4 (B3.y hSw.1); go_simp; all_goals with_reducible rfl) ?_
 refine cC ?_ ?_ ?_ ?_ ?hc18_2 ?_
 case hc18_2 => (intro w hSw; exact wideNeg_b (-n) true hn hb w)
 refine cW ?_ ?_ ?_
 refine cS ?_ ?_
 refine cS ?_ ?_
 refine cS ?_ ?_
 refine cW ?_ ?_ ?_
 refine cC ?_ ?_ ?_ ?_ ?hc18_8 ?_
 case hc18_8 => (intro w hSw; exact wideKept_b (-n) (-n) true rfl w)
 refine cW ?_ ?_ ?_
 refine cW ?_ ?_ ?_
 refine cB ?_
 refine cW ?_ ?_ ?_
 refine calm_end ?_
 refine ⟨(by rfl), (by rfl), fun w2 hS D0 => ?_⟩
 have B0 := B0.y hS
 have B3 := B3.y hS
 have B1 : Blk w2 (w.heap.size + 1) (uL (tc (-n))) 60 := blk_whole D0 rfl
 have hz2 : w1.heap.size ≤ w2.heap.size := hS.size
 have HB := gS HB hS
 clear hS D0
 go_wp2_with fail
 obtain ⟨s0_0, s0_1, s0_2, s0_3⟩ := c4 (B1)
 refine bodyPost_ret (v := .tuple #[wI (-n), .bool true]) (by simp [results, Tryz.results104, go_sem, s0_0, s0_1, s0_2, s0_3]) rfl ⟨rfl, HB⟩
theorem wideSigned_zero (w : World) :
  Calls Tryz.prog 104 #[wI 0, .bool true] w fun e w' => e = .returned (.tuple #[wI 0, .bool true]) ∧ Below w.heap.size w w' := by
 obtain ⟨W0, hW0⟩ : ∃ W0, [.cells #[.int .u64 0, .int .u64 0, .int .u64 0, .int .u64 0] 60, .cells #[.int .u64 0, .int .u64 0, .int .u64 0, .int .u64 0] 60].foldl World.alloc w = W0 := ⟨_, rfl⟩
 have B0 : Blk W0 (w.heap.size) (uL 0) 60 := Blk.allocs _ hW0 0 rfl
 have B1 : Blk W0 (w.heap.size + 1) (uL 0) 60 := Blk.allocs _ hW0 1 rfl
 have HB := aB hW0
 have hsz : w.heap.size + 2 ≤ W0.heap.size := aZ hW0
 simp only [List.foldl_cons, List.foldl_nil] at hW0
 have hf : Fit 0 := by unfold Fit; decide
 have z0 : wI 0 = .agg #[.int .u64 0, .int .u64 0, .int .u64 0, .int .u64 0] := rfl
 rw [z0]
 go_enter Tryz.func104, Tryz.ntmps104
 go_upto_region 2 with (fail)
 clear hW0
 refine cP ?_
 refine calm_a (k := 4) (d := 6) (st := 5) (x := (.tmp 11)) (u := wI 0) (T := 60) (by kernel_rfl) (by rfl) (by rfl) info_wide rfl rfl (by first | exact wI_one _ | exact U_one _) ?_
 refine cW ?_ ?_ ?_
 refine cX ?_ ?_ (by intro wz hSw; obtain ⟨q0, q1, q2, q3⟩ := c4 (B0.y hSw.1); go_simp; all_goals with_reducible rfl) ?_
 refine cC ?_ ?_ ?_ ?_ ?hc19_2 ?_
 case hc19_2 => (intro w hSw; exact wideTurned_any 0 w)
 refine cC ?_ ?_ ?_ ?_ ?hc19_3 ?_
 case hc19_3 => (intro w hSw; exact widePlus_z 0 (-0 - 1) 0 1 (by omega) (by omega) w)
 refine cB ?_
 refine cB ?_
 refine calm_end ?_
 refine ⟨(by rfl), fun b3 w1 hb3 hS D0 => ?_⟩
 have hl3_0 : w.heap.size < b3 := lL B0.lt hb3
 have hl3_1 : w.heap.size + 1 < b3 := lL B1.lt hb3
 have hS := sO hS
 have B0 := B0.y hS
 have B1 := B1.y hS
 have B3 : Blk w1 b3 (uL (tc 0)) 60 := D0
 have hz1 : W0.heap.size ≤ w1.heap.size := hS.size
 have HB := gS HB hS
 clear hS D0
 go_upto_region 3 with (fail)
 refine cG ?_
 refine calm_k (b := w.heap.size + 1) (o := 0) (st := 11) (ado := .tmp 4) (x := (.tmp 21)) (u := wI 0) (by kernel_rfl) B1 (by rfl) size_wide (by first | exact wI_one _ | exact U_one _) (by first | exact Nat.le_refl _ | (simp; done) | decide) ?_
 refine cX ?_ ?_ (by intro wz hSw; obtain ⟨q0, q1, q2, q3⟩ := c4 (B3.y hSw.1); go_simp; all_goals with_reducible rfl) ?_
 refine cX ?_ ?_ (by intro wz hSw; obtain ⟨q0, q1, q2, q3⟩ := c4 (B3.y hSw.1); go_simp; all_goals with_reducible rfl) ?_
 refine cC ?_ ?_ ?_ ?_ ?hc20_2 ?_
 case hc20_2 => (intro w hSw; exact wideNeg_b 0 false hf rfl w)
 refine cW ?_ ?_ ?_
 refine cX ?_ ?_ (by intro wz hSw; obtain ⟨q0, q1, q2, q3⟩ := c4 (B3.y hSw.1); go_simp; all_goals with_reducible rfl) ?_
 refine cW ?_ ?_ ?_
 refine cX ?_ ?_ (by intro wz hSw; have he := eqIn_00 wz; go_simp; all_goals with_reducible rfl) ?_
 refine cW ?_ ?_ ?_
 refine cC ?_ ?_ ?_ ?_ ?hc20_8 ?_
 case hc20_8 => (intro w hSw; exact wideKept_b 0 0 true rfl w)
 refine cW ?_ ?_ ?_
 refine cW ?_ ?_ ?_
 refine cB ?_
 refine cW ?_ ?_ ?_
 refine calm_end ?_
 refine ⟨(by rfl), (by rfl), fun w2 hS D0 => ?_⟩
 have B0 := B0.y hS
 have B3 := B3.y hS
 have B1 : Blk w2 (w.heap.size + 1) (uL (tc 0)) 60 := blk_whole D0 rfl
 have hz2 : w1.heap.size ≤ w2.heap.size := hS.size
 have HB := gS HB hS
 clear hS D0
 go_wp2_with fail
 obtain ⟨s0_0, s0_1, s0_2, s0_3⟩ := c4 (B1)
 refine bodyPost_ret (v := .tuple #[wI 0, .bool true]) (by simp [results, Tryz.results104, go_sem, s0_0, s0_1, s0_2, s0_3]) rfl ⟨rfl, HB⟩
theorem wideSigned_pos (n : Int) (hn : Fit n) (h0 : 0 ≤ n) (w : World) :
  Calls Tryz.prog 104 #[wI n, .bool false] w fun e w' => e = .returned (.tuple #[wI n, .bool true]) ∧ Below w.heap.size w w' := by
 obtain ⟨W0, hW0⟩ : ∃ W0, [.cells #[u64 (lb (tc n) 0), u64 (lb (tc n) 1), u64 (lb (tc n) 2), u64 (lb (tc n) 3)] 60, .cells #[.int .u64 0, .int .u64 0, .int .u64 0, .int .u64 0] 60].foldl World.alloc w = W0 := ⟨_, rfl⟩
 have B0 : Blk W0 (w.heap.size) (uL (tc n)) 60 := Blk.allocs _ hW0 0 rfl
 have B1 : Blk W0 (w.heap.size + 1) (uL 0) 60 := Blk.allocs _ hW0 1 rfl
 have HB := aB hW0
 have hsz : w.heap.size + 2 ≤ W0.heap.size := aZ hW0
 simp only [List.foldl_cons, List.foldl_nil] at hW0
 have hb : decide (n < 0) = false := by simpa using h0
 go_enter Tryz.func104, Tryz.ntmps104
 unfold wI U
 go_upto_region 4 with (fail)
 clear hW0
 refine cG ?_
 refine calm_k (b := w.heap.size + 1) (o := 0) (st := 7) (ado := .tmp 4) (x := (.tmp 28)) (u := wI n) (by kernel_rfl) B1 (by rfl) size_wide (by first | exact wI_one _ | exact U_one _) (by first | exact Nat.le_refl _ | (simp; done) | decide) ?_
 refine cX ?_ ?_ (by intro wz hSw; obtain ⟨q0, q1, q2, q3⟩ := c4 (B0.y hSw.1); go_simp; all_goals with_reducible rfl) ?_
 refine cX ?_ ?_ (by intro wz hSw; obtain ⟨q0, q1, q2, q3⟩ := c4 (B0.y hSw.1); go_simp; all_goals with_reducible rfl) ?_
 refine cC ?_ ?_ ?_ ?_ ?hc21_2 ?_
 case hc21_2 => (intro w hSw; exact wideNeg_b n false hn hb w)
 refine cW ?_ ?_ ?_
 refine cC ?_ ?_ ?_ ?_ ?hc21_4 ?_
 case hc21_4 => (intro w hSw; exact wideKept_b n n true rfl w)
 refine cW ?_ ?_ ?_
 refine cW ?_ ?_ ?_
 refine cB ?_
 refine cW ?_ ?_ ?_
 refine calm_end ?_
 refine ⟨(by rfl), (by rfl), fun w1 hS D0 => ?_⟩
 have B0 := B0.y hS
 have B1 : Blk w1 (w.heap.size + 1) (uL (tc n)) 60 := blk_whole D0 rfl
 have hz1 : W0.heap.size ≤ w1.heap.size := hS.size
 have HB := gS HB hS
 clear hS D0
 go_wp2_with fail
 obtain ⟨s0_0, s0_1, s0_2, s0_3⟩ := c4 (B1)
 refine bodyPost_ret (v := .tuple #[wI n, .bool true]) (by simp [results, Tryz.results104, go_sem, s0_0, s0_1, s0_2, s0_3]) rfl ⟨rfl, HB⟩
end Go.Proofs.YthbplhglfjlngaaGreat
namespace Go.Wd
open Go
theorem Bpos (i : Nat) : 0 < B ^ i := Nat.pow_pos (by decide)
theorem lb_low (S c m j : Nat) (h : j < m) : lb (S + B ^ m * c) j = lb S j := by
 unfold lb
 obtain ⟨d, rfl⟩ : ∃ d, m = j + (d + 1) := ⟨m - j - 1, by omega⟩
 rw [Nat.pow_add, Nat.mul_assoc, Nat.add_mul_div_left _ _ (Bpos j), Nat.pow_succ, show B ^ d * B * c = B * (B ^ d * c) by rw [Nat.mul_comm (B ^ d) B, Nat.mul_assoc], Nat.add_mul_mod_self_left]
theorem lb_at (S c m : Nat) : lb (S + B ^ m * c) m = (S / B ^ m + c) % B := by
 unfold lb
 rw [Nat.add_mul_div_left _ _ (Bpos m)]
theorem div_next (S c m : Nat) : (S + B ^ m * c) / B ^ (m + 1) = (S / B ^ m + c) / B := by
 rw [div_succ, Nat.add_mul_div_left _ _ (Bpos m)]
theorem lb_zero {n j : Nat} (h : n < B ^ j) : lb n j = 0 := by
 unfold lb; rw [Nat.div_eq_of_lt h, Nat.zero_mod]
theorem lb_zero_le {n m j : Nat} (h : n < B ^ m) (hj : m ≤ j) : lb n j = 0 := lb_zero (Nat.lt_of_lt_of_le h (Nat.pow_le_pow_right (by decide) hj))
theorem lb_modlow (n m j : Nat) (h : j < m) : lb (n % B ^ m) j = lb n j := by
 have e := Nat.mod_add_div n (B ^ m)
 have := lb_low (n % B ^ m) (n / B ^ m) m j h
 rw [e] at this
 exact this.symm
def rowM (x y i : Nat) : Nat := x % B ^ i * y
def rowS (x y i k : Nat) : Nat := rowM x y i % B ^ (i + k) + lb x i * B ^ i * (y % B ^ k)
theorem rowM_lt (x y i : Nat) (hy : y < B ^ 4) : rowM x y i < B ^ (i + 4) := by
 unfold rowM
 rw [Nat.pow_add]
 exact Nat.mul_lt_mul'' (Nat.mod_lt _ (Bpos i)) hy
theorem rowS_zero (x y i : Nat) : rowS x y i 0 = rowM x y i % B ^ i := by unfold rowS; simp [Nat.mod_one]
theorem rowS_succ (x y i k : Nat) : rowS x y i (k + 1) = rowS x y i k + B ^ (i + k) * (lb (rowM x y i) (i + k) + lb x i * lb y k) := by
 unfold rowS
 rw [show i + (k + 1) = (i + k) + 1 from rfl, mod_succ, mod_succ, Nat.mul_add, Nat.mul_add]
 have : lb x i * B ^ i * (B ^ k * lb y k) = B ^ (i + k) * (lb x i * lb y k) := by rw [Nat.pow_add]; ac_rfl
 rw [this]; omega
theorem rowS_four (x y i : Nat) (hy : y < B ^ 4) : rowS x y i 4 = rowM x y (i + 1) := by
 unfold rowS
 rw [Nat.mod_eq_of_lt (rowM_lt x y i hy), Nat.mod_eq_of_lt hy]
 unfold rowM
 rw [mod_succ, Nat.add_mul]
 ac_rfl
def rowC (x y i k : Nat) : Nat := rowS x y i k / B ^ (i + k)
theorem rowC_zero (x y i : Nat) : rowC x y i 0 = 0 := by
 unfold rowC; rw [rowS_zero]; exact Nat.div_eq_of_lt (Nat.mod_lt _ (Bpos i))
def rowT (x y i k : Nat) : Nat := rowC x y i k + (lb (rowM x y i) (i + k) + lb x i * lb y k)
theorem rowC_succ (x y i k : Nat) : rowC x y i (k + 1) = rowT x y i k / B := by
 unfold rowC rowT; rw [rowS_succ]; exact div_next _ _ _
theorem rowT_lt (x y i k : Nat) (hc : rowC x y i k < B) : rowT x y i k < B * B := by
 unfold rowT
 have h1 := lb_lt (rowM x y i) (i + k)
 have h2 : lb x i ≤ B - 1 := by have := lb_lt x i; omega
 have h3 : lb y k ≤ B - 1 := by have := lb_lt y k; omega
 have h4 : lb x i * lb y k ≤ (B - 1) * (B - 1) := Nat.mul_le_mul h2 h3
 have h5 : (B - 1) * (B - 1) + (B - 1) + (B - 1) < B * B := by decide
 omega
theorem rowC_lt (x y i k : Nat) : rowC x y i k < B := by
 induction k with
 | zero => rw [rowC_zero]; decide
 | succ k ih =>
  rw [rowC_succ]
  exact (Nat.div_lt_iff_lt_mul (by decide)).2 (rowT_lt x y i k ih)
def rowL (x y i k : Nat) : List Value := (List.range 8).map fun j => u64 (if j < i + k then lb (rowS x y i k) j else lb (rowM x y i) j)
def prodL (p : Nat) : List Value := (List.range 8).map fun j => u64 (lb p j)
theorem rowL_zero (x y i : Nat) : rowL x y i 0 = prodL (rowM x y i) := by
 unfold rowL prodL
 apply List.map_congr_left
 intro j _
 rw [rowS_zero]
 split
 ·rw [lb_modlow _ _ _ (by omega)]
 ·rfl
theorem range8 {α : Type} (f : Nat → α) (n : Nat) (h : n < 8) (v : α) : ((List.range 8).map f).set n v = (List.range 8).map fun j => if j = n then v else f j := by
 apply List.ext_getElem?
 intro j
 rw [List.getElem?_set, List.getElem?_map, List.getElem?_map]
 by_cases hj : j < 8
 ·rw [List.getElem?_range hj]
  by_cases e : n = j
  ·subst e; simp [h]
  ·have e2 : ¬ j = n := fun h => e h.symm
   simp [e, e2]
 ·have e2 : ¬ n = j := by omega
  simp [hj, e2]
theorem rowL_at (x y i k : Nat) (hik : i + k < 8) : (rowL x y i k)[i + k]? = some (u64 (lb (rowM x y i) (i + k))) := by
 unfold rowL
 rw [List.getElem?_map, List.getElem?_range hik]
 simp
theorem rowL_step (x y i k : Nat) (hik : i + k < 8) : (rowL x y i k).set (i + k) (u64 (rowT x y i k % B)) = rowL x y i (k + 1) := by
 unfold rowL
 rw [range8 _ _ hik]
 apply List.map_congr_left
 intro j _
 by_cases e : j = i + k
 ·subst e
  rw [if_pos rfl, if_pos (by omega), rowS_succ, lb_at]
  rfl
 ·rw [if_neg e]
  by_cases hj : j < i + k
  ·rw [if_pos hj, if_pos (by omega), rowS_succ, lb_low _ _ _ _ hj]
  ·rw [if_neg hj, if_neg (by omega)]
theorem rowL_end (x y i : Nat) (hi : i < 4) (hy : y < B ^ 4) : (rowL x y i 4).set (i + 4) (u64 (rowC x y i 4)) = prodL (rowM x y (i + 1)) := by
 unfold rowL prodL
 rw [range8 _ _ (by omega)]
 apply List.map_congr_left
 intro j hj
 have hM := rowM_lt x y (i + 1) hy
 have hM0 := rowM_lt x y i hy
 by_cases e : j = i + 4
 ·subst e
  rw [if_pos rfl]
  have h4 := rowS_four x y i hy
  have hc := rowC_lt x y i 4
  unfold rowC at hc ⊢
  rw [h4] at hc ⊢
  have : lb (rowM x y (i + 1)) (i + 4) = rowM x y (i + 1) / B ^ (i + 4) := by
   unfold lb; exact Nat.mod_eq_of_lt hc
  rw [this]
 ·rw [if_neg e]
  by_cases h : j < i + 4
  ·rw [if_pos h, rowS_four x y i hy]
  ·rw [if_neg h, lb_zero_le hM0 (by omega), lb_zero_le hM (by omega)]
theorem prodL_zero : prodL 0 = [u64 0, u64 0, u64 0, u64 0, u64 0, u64 0, u64 0, u64 0] := rfl
theorem rowM_zero (x y : Nat) : rowM x y 0 = 0 := by unfold rowM; simp [Nat.mod_one]
theorem rowM_four (x y : Nat) (hx : x < B ^ 4) : rowM x y 4 = x * y := by unfold rowM; rw [Nat.mod_eq_of_lt hx]
theorem row_step (p m c : Nat) (hm : m < B) (hc : c < B) :
  ((p % B + m) % B + c) % B = (c + (m + p)) % B ∧ p / B + (p % B + m) / B + ((p % B + m) % B + c) / B = (c + (m + p)) / B := by
 simp only [B] at *
 omega
end Go.Wd
namespace Go.Wd
open Go
theorem tc_natB (n : Nat) (h : n < B4) : tc (n : Int) = n := by
 have h1 := tc_cast (n : Int)
 simp only [B4] at h1 h
 omega
theorem natAbs_lt {z : Int} (hz : Fit z) : z.natAbs < B4 := by
 unfold Fit at hz; simp only [H4, B4] at hz ⊢; omega
end Go.Wd
namespace Go.Proofs.YthbplhglfjlngaaGreat
open Go.RowKit Go.Rg Go.Wd
attribute [local go_sem] Oper.semAt_some
theorem wideSize_any (z : Int) (hz : Fit z) (w : World) :
  Calls Tryz.prog 101 #[wI z] w fun e w' => e = .returned (U z.natAbs) ∧ Below w.heap.size w w' := by
 by_cases h : z < 0
 ·have e : wI (-z) = U z.natAbs := by
   have : -z = (z.natAbs : Int) := by omega
   unfold wI; rw [this, tc_natB _ (natAbs_lt hz)]
  rw [← e]; exact wideSize_neg z hz h w
 ·have e : wI z = U z.natAbs := by
   have : z = (z.natAbs : Int) := by omega
   unfold wI; conv => lhs; rw [this]
   rw [tc_natB _ (natAbs_lt hz)]
  have := wideSize_pos z hz (by omega) w
  rw [e] at this ⊢; exact this
theorem wideSigned_any (p : Nat) (b : Bool) (z : Int) (hp : p < B4) (hz : Fit z) (h : z = if b then -(p : Int) else p) (w : World) :
  Calls Tryz.prog 104 #[U p, .bool b] w fun e w' => e = .returned (.tuple #[wI z, .bool true]) ∧ Below w.heap.size w w' := by
 have e : U p = wI (p : Int) := by unfold wI; rw [tc_natB p hp]
 rw [e]
 subst h
 cases b with
 | true =>
  by_cases h0 : p = 0
  ·subst h0; exact wideSigned_zero w
  ·exact wideSigned_neg (p : Int) hz (by omega) w
 | false => exact wideSigned_pos (p : Int) hz (by omega) w
theorem eqIn_4 (a b c d a' b' c' d' : Int) (w : World) : (Op.equalIn 10000 59 (.agg #[.int .u64 a, .int .u64 b, .int .u64 c, .int .u64 d]) (.agg #[.int .u64 a', .int .u64 b', .int .u64 c', .int .u64 d'])).run Tryz.prog w = .ok (a == a' && (b == b' && (c == c' && d == d'))) w := by
 have u3 := Tryz.underlying58
 have a3 := Tryz.isAgg58
 have z3 := Tryz.sizeOf58
 rw [show (10000 : Nat) = 9999 + 1 from rfl, Op.equalIn]
 simp only [Sem.run_bind, run_underlying Tryz.underlying59, Result.andThen_ok]
 simp only [Std.Legacy.Range.forIn_eq_forIn_range', Std.Legacy.Range.size, Nat.sub_zero, Nat.add_sub_cancel, Nat.div_one, List.range'_succ, List.range'_zero, List.forIn_cons, List.forIn_nil]
 go_simp
 by_cases h1 : a = a' <;> by_cases h2 : b = b' <;> by_cases h3 : c = c' <;> by_cases h4 : d = d' <;> simp [h1, h2, h3, h4]
theorem mul64_b (x y : Nat) (hx : x < 18446744073709551616) (hy : y < 18446744073709551616) (w : World) :
  Calls Tryz.prog 102 #[u64 x, u64 y] w fun e w' => e = .returned (.tuple #[u64 (x * y / 18446744073709551616), u64 (x * y % 18446744073709551616)]) ∧ Below w.heap.size w w' :=
 (Tryz.bits_Mul64 x y hx hy w).mono fun _ _ ⟨h1, h2⟩ => ⟨h1, by rw [h2]; exact Below.refl _ _⟩
theorem cells8 {w : World} {b p : Nat} {t : TypeId} (h : Blk w b (prodL p) t) :
  w.cell? ⟨b, 0, none⟩ = some (u64 (lb p 0)) ∧ w.cell? ⟨b, 1, none⟩ = some (u64 (lb p 1)) ∧ w.cell? ⟨b, 2, none⟩ = some (u64 (lb p 2)) ∧ w.cell? ⟨b, 3, none⟩ = some (u64 (lb p 3)) ∧
  w.cell? ⟨b, 4, none⟩ = some (u64 (lb p 4)) ∧ w.cell? ⟨b, 5, none⟩ = some (u64 (lb p 5)) ∧ w.cell? ⟨b, 6, none⟩ = some (u64 (lb p 6)) ∧ w.cell? ⟨b, 7, none⟩ = some (u64 (lb p 7)) := c8 h
set_option maxHeartbeats 2000000 in
theorem wideMul_any (x y : Int) (hx : Fit x) (hy : Fit y) (hd : Fit (x * y)) (w : World) :
  Calls Tryz.prog 84 #[wI x, wI y] w fun e w' => e = .returned (.tuple #[wI (x * y), .bool true]) ∧ Below w.heap.size w w' := by
 obtain ⟨W0, hW0⟩ : ∃ W0, [.cells #[u64 (lb (tc x) 0), u64 (lb (tc x) 1), u64 (lb (tc x) 2), u64 (lb (tc x) 3)] 60, .cells #[u64 (lb (tc y) 0), u64 (lb (tc y) 1), u64 (lb (tc y) 2), u64 (lb (tc y) 3)] 60, .cells #[.int .u64 0, .int .u64 0, .int .u64 0, .int .u64 0] 60].foldl World.alloc w = W0 := ⟨_, rfl⟩
 have B0 : Blk W0 (w.heap.size) (uL (tc x)) 60 := Blk.allocs _ hW0 0 rfl
 have B1 : Blk W0 (w.heap.size + 1) (uL (tc y)) 60 := Blk.allocs _ hW0 1 rfl
 have B2 : Blk W0 (w.heap.size + 1 + 1) (uL 0) 60 := Blk.allocs _ hW0 2 rfl
 have HB := aB hW0
 have hsz : w.heap.size + 3 ≤ W0.heap.size := aZ hW0
 simp only [List.foldl_cons, List.foldl_nil] at hW0
 obtain ⟨a, Ha⟩ : ∃ a : Nat, Hid (a = x.natAbs) := ⟨_, hH rfl⟩
 obtain ⟨b, Hb⟩ : ∃ b : Nat, Hid (b = y.natAbs) := ⟨_, hH rfl⟩
 have Hsa : Hid (∀ w, Calls Tryz.prog 101 #[wI x] w fun e w' => e = .returned (U a) ∧ Below w.heap.size w w') := hH (by rw [Ha.out]; exact wideSize_any x hx)
 have Hsb : Hid (∀ w, Calls Tryz.prog 101 #[wI y] w fun e w' => e = .returned (U b) ∧ Below w.heap.size w w') := hH (by rw [Hb.out]; exact wideSize_any y hy)
 have hA : a < B4 := by rw [Ha.out]; exact natAbs_lt hx
 have hB : b < B4 := by rw [Hb.out]; exact natAbs_lt hy
 have HA := hH hA
 have HB4 := hH hB
 obtain ⟨bx, Hbx⟩ : ∃ b, Hid (decide (x < 0) = b) := ⟨_, hH rfl⟩
 obtain ⟨cy, Hby⟩ : ∃ b, Hid (decide (y < 0) = b) := ⟨_, hH rfl⟩
 have Hx := hH hx
 have Hy := hH hy
 have HP : Hid (a * b < B4 ∧ x * y = if (bx != cy) then -((a * b : Nat) : Int) else ((a * b : Nat) : Int)) := hH (by
  have e := Int.natAbs_mul x y
  refine ⟨by rw [Ha.out, Hb.out, ← e]; exact natAbs_lt hd, ?_⟩
  rw [← Hbx.out, ← Hby.out, Ha.out, Hb.out, ← e]
  by_cases h1 : x < 0 <;> by_cases h2 : y < 0
  ·have : 0 ≤ x * y := Int.mul_nonneg_of_nonpos_of_nonpos (by omega) (by omega)
   simp [h1, h2]; omega
  ·have : x * y ≤ 0 := Int.mul_nonpos_of_nonpos_of_nonneg (by omega) (by omega)
   simp [h1, h2]; omega
  ·have : x * y ≤ 0 := Int.mul_nonpos_of_nonneg_of_nonpos (by omega) (by omega)
   simp [h1, h2]; omega
  ·have : 0 ≤ x * y := Int.mul_nonneg (by omega) (by omega)
   simp [h1, h2]; omega)
 have HD := hH hd
 clear hA hB hx hy hd
 go_enter Tryz.func84, Tryz.ntmps84
 unfold wI U
 go_upto_region 1 with (fail)
 clear hW0
 refine cG ?_
 refine calm_aa (k := 4) (d := 6) (st := 6) (x := (.tmp 16)) (u := U a) (T := 60) (k' := 5) (d' := 7) (st' := 7) (x' := (.tmp 18)) (u' := U b) (T' := 60) (by kernel_rfl) (by rfl) (by rfl) info_wide rfl rfl (by first | exact wI_one _ | exact U_one _) (by rfl) (by rfl) info_wide rfl rfl (by first | exact wI_one _ | exact U_one _) ?_
 refine cX ?_ ?_ (by intro wz hSw; obtain ⟨q0, q1, q2, q3⟩ := c4 (B0.y hSw.1); go_simp; all_goals with_reducible rfl) ?_
 refine cC ?_ ?_ ?_ ?_ ?hc1_1 ?_
 case hc1_1 => (intro w hSw; exact Hsa.out w)
 refine cX ?_ ?_ (by intro wz hSw; obtain ⟨q0, q1, q2, q3⟩ := c4 (B1.y hSw.1); go_simp; all_goals with_reducible rfl) ?_
 refine cC ?_ ?_ ?_ ?_ ?hc1_3 ?_
 case hc1_3 => (intro w hSw; exact Hsb.out w)
 refine cB ?_
 refine cB ?_
 refine cB ?_
 refine cB ?_
 refine calm_end ?_
 refine ⟨⟨(by rfl), (by rfl)⟩, fun b4 b5 w1 hb4 hb5 hbne5 hS D0 D1 => ?_⟩
 have hl4_0 : w.heap.size < b4 := lL B0.lt hb4
 have hl5_0 : w.heap.size < b5 := lL B0.lt hb5
 have hl4_1 : w.heap.size + 1 < b4 := lL B1.lt hb4
 have hl5_1 : w.heap.size + 1 < b5 := lL B1.lt hb5
 have hl4_2 : w.heap.size + 1 + 1 < b4 := lL B2.lt hb4
 have hl5_2 : w.heap.size + 1 + 1 < b5 := lL B2.lt hb5
 have hS := sO hS
 have B0 := B0.y hS
 have B1 := B1.y hS
 have B2 := B2.y hS
 have B4 : Blk w1 b4 (uL a) 60 := D0
 have B5 : Blk w1 b5 (uL b) 60 := D1
 have hz1 : W0.heap.size ≤ w1.heap.size := hS.size
 have HB := gS HB hS
 clear hS D0 D1
 have hat3 : ∀ w, (Instr.arrayAt 59 (.slice (some ⟨w1.heap.size, 4, none⟩) 4 4)).run Tryz.prog w = .ok (.pointer (some ⟨w1.heap.size, 4, none⟩)) w := fun w => run_arrayAt w _ _ 4 _ 4 4 Tryz.underlying59 (Nat.le_refl _)
 have hat4 : ∀ w, (Instr.arrayAt 60 (.slice (some ⟨w1.heap.size, 0, none⟩) 4 8)).run Tryz.prog w = .ok (.pointer (some ⟨w1.heap.size, 0, none⟩)) w := fun w => run_arrayAt w _ _ 4 _ 4 8 Tryz.underlying60 (Nat.le_refl _)
 have w1lt3 := B4.lt
 have w1lt4 := B5.lt
 obtain ⟨W1, hW1⟩ : ∃ W1, w1.alloc (.cells #[.int .u64 0, .int .u64 0, .int .u64 0, .int .u64 0, .int .u64 0, .int .u64 0, .int .u64 0, .int .u64 0] 158) = W1 := ⟨_, rfl⟩
 have B9 : Blk W1 w1.heap.size (prodL (rowM a b 0)) 158 := by rw [← hW1, rowM_zero, prodL_zero]; exact Blk.new _ _ _
 have B0 : Blk W1 _ _ _ := hW1 ▸ B0.alloc _
 have B1 : Blk W1 _ _ _ := hW1 ▸ B1.alloc _
 have B2 : Blk W1 _ _ _ := hW1 ▸ B2.alloc _
 have B4 : Blk W1 _ _ _ := hW1 ▸ B4.alloc _
 have B5 : Blk W1 _ _ _ := hW1 ▸ B5.alloc _
 have HB : Below w.heap.size w W1 := hW1 ▸ HB.alloc (by omega) _
 have hzz : w1.heap.size < W1.heap.size := by rw [← hW1]; simp
 have ne0 : w.heap.size < w1.heap.size := by omega
 have ne1 : w.heap.size + 1 < w1.heap.size := by omega
 have ne2 : w.heap.size + 1 + 1 < w1.heap.size := by omega
 have ne3 : b4 < w1.heap.size := by have := w1lt3; omega
 have ne4 : b5 < w1.heap.size := by have := w1lt4; omega
 go_wp2_with fail
 go_loopg [19] 4 (fun q s19 wx => ∃ i : Nat, i + q = 4 ∧ s19 = .int .i64 (i : Int) ∧ Hid (Blk wx w.heap.size (uL (tc x)) 60) ∧ Hid (Blk wx (w.heap.size + 1) (uL (tc y)) 60) ∧ Hid (Blk wx (w.heap.size + 1 + 1) (uL 0) 60) ∧ Hid (Blk wx b4 (uL a) 60) ∧ Hid (Blk wx b5 (uL b) 60) ∧ Hid (Blk wx w1.heap.size (prodL (rowM a b i)) 158) ∧ Hid (Below w.heap.size w wx) ∧ w1.heap.size < wx.heap.size)
 case atStart => exact ⟨0, by omega, rfl, B0, B1, B2, B4, B5, B9, HB, hzz⟩
 case round =>
  clear B0 B1 B2 B4 B5 B9 HB hzz hW1
  obtain ⟨i, hiq, rfl, H0, H1, H2, H3, H4', H9, HBh, hzz⟩ := hrel
  cases gk with
  | zero =>
   have hin : i = 4 := by omega
   subst hin
   have B0 := H0.out
   have B1 := H1.out
   have B2 := H2.out
   have B3 := H3.out
   have B4 := H4'.out
   have B9 : Blk wr w1.heap.size (prodL (a * b)) 158 := by have := H9.out; rwa [rowM_four a b HA.out] at this
   have HB := HBh.out
   obtain ⟨p0, p1, p2, p3, p4, p5, p6, p7⟩ := cells8 B9
   have hz4 : lb (a * b) 4 = 0 ∧ lb (a * b) 5 = 0 ∧ lb (a * b) 6 = 0 ∧ lb (a * b) 7 = 0 := by
    have h4 : a * b < B ^ 4 := HP.out.1
    exact ⟨lb_zero_le h4 (by omega), lb_zero_le h4 (by omega), lb_zero_le h4 (by omega), lb_zero_le h4 (by omega)⟩
   replace p4 : wr.cell? ⟨w1.heap.size, 4, none⟩ = some (.int .u64 0) := by rw [hz4.1] at p4; exact p4
   replace p5 : wr.cell? ⟨w1.heap.size, 5, none⟩ = some (.int .u64 0) := by rw [hz4.2.1] at p5; exact p5
   replace p6 : wr.cell? ⟨w1.heap.size, 6, none⟩ = some (.int .u64 0) := by rw [hz4.2.2.1] at p6; exact p6
   replace p7 : wr.cell? ⟨w1.heap.size, 7, none⟩ = some (.int .u64 0) := by rw [hz4.2.2.2] at p7; exact p7
   have he : ∀ w, (Op.equalIn 10000 59 (.agg #[.int .u64 0, .int .u64 0, .int .u64 0, .int .u64 0]) (.agg #[.int .u64 0, .int .u64 0, .int .u64 0, .int .u64 0])).run Tryz.prog w = .ok true w := fun w => eqIn_4 0 0 0 0 0 0 0 0 w
   clear H0 H1 H2 H3 H4' H9 HBh hz4
   go_upto_region 22 with (fail)
   refine cG ?_
   refine calm_k (b := w.heap.size + 1 + 1) (o := 0) (st := 11) (ado := .tmp 4) (x := (.tmp 84)) (u := wI (x * y)) (by kernel_rfl) B2 (by rfl) size_wide (by first | exact wI_one _ | exact U_one _) (by first | exact Nat.le_refl _ | (simp; done) | decide) ?_
   refine cW ?_ ?_ ?_
   refine cW ?_ ?_ ?_
   refine cX ?_ ?_ (by intro wz hSw; obtain ⟨q0, q1, q2, q3, q4, q5, q6, q7⟩ := cells8 (B9.y hSw.1); go_simp; all_goals with_reducible rfl) ?_
   refine cX ?_ ?_ (by intro wz hSw; obtain ⟨q0, q1, q2, q3⟩ := c4 (B0.y hSw.1); go_simp; all_goals with_reducible rfl) ?_
   refine cC ?_ ?_ ?_ ?_ ?hc3_4 ?_
   case hc3_4 => (intro w hSw; exact wideNeg_b x bx Hx.out Hbx.out w)
   refine cX ?_ ?_ (by intro wz hSw; obtain ⟨q0, q1, q2, q3⟩ := c4 (B1.y hSw.1); go_simp; all_goals with_reducible rfl) ?_
   refine cC ?_ ?_ ?_ ?_ ?hc3_6 ?_
   case hc3_6 => (intro w hSw; exact wideNeg_b y cy Hy.out Hby.out w)
   refine cW ?_ ?_ ?_
   refine cC ?_ ?_ ?_ ?_ ?hc3_8 ?_
   case hc3_8 => (intro w hSw; exact wideSigned_any (a * b) (bx != cy) (x * y) HP.out.1 HD.out HP.out.2 w)
   refine cW ?_ ?_ ?_
   refine cW ?_ ?_ ?_
   refine cB ?_
   refine cW ?_ ?_ ?_
   refine calm_end ?_
   refine ⟨(by rfl), (by rfl), fun w2 hS D0 => ?_⟩
   have B0 := B0.y hS
   have B1 := B1.y hS
   have B3 := B3.y hS
   have B4 := B4.y hS
   have B9 := B9.y hS
   have B2 : Blk w2 (w.heap.size + 1 + 1) (uL (tc (x * y))) 60 := blk_whole D0 rfl
   have hz2 : wr.heap.size ≤ w2.heap.size := hS.size
   have HB := gS HB hS
   clear hS D0
   go_wp2_with fail
   obtain ⟨s0_0, s0_1, s0_2, s0_3⟩ := c4 (B2)
   refine bodyPost_ret (v := .tuple #[wI (x * y), .bool true]) (by simp [results, Tryz.results84, go_sem, s0_0, s0_1, s0_2, s0_3]) rfl ⟨rfl, HB⟩
  | succ q =>
   have hi4 : i < 4 := by omega
   go_wp2_with fail
   go_loopg [10, 22] 4 (fun r s10 s22 wx => ∃ k : Nat, k + r = 4 ∧ s22 = .int .i64 (k : Int) ∧ s10 = .int .u64 ((rowC a b i k : Nat) : Int) ∧ Hid (Blk wx w.heap.size (uL (tc x)) 60) ∧ Hid (Blk wx (w.heap.size + 1) (uL (tc y)) 60) ∧ Hid (Blk wx (w.heap.size + 1 + 1) (uL 0) 60) ∧ Hid (Blk wx b4 (uL a) 60) ∧ Hid (Blk wx b5 (uL b) 60) ∧ Hid (Blk wx w1.heap.size (rowL a b i k) 158) ∧ Hid (Below w.heap.size w wx) ∧ w1.heap.size < wx.heap.size)
   case atStart => exact ⟨0, by omega, rfl, by rw [rowC_zero]; rfl, H0, H1, H2, H3, H4', by rw [rowL_zero]; exact H9, HBh, hzz⟩
   case round =>
    clear H0 H1 H2 H3 H4' H9 HBh hzz
    obtain ⟨k, hkr, rfl, rfl, H0, H1, H2, H3, H4', H9, HBh, hzz⟩ := hrel
    cases gk with
    | zero =>
     have hkn : k = 4 := by omega
     subst hkn
     have hik : (i : Int) + 4 = ((i + 4 : Nat) : Int) := by omega
     have t1 : (0 : Int) ≤ (i : Int) := by omega
     have t2 : (i : Int) < 4 := by omega
     have t3 : (0 : Int) ≤ ((i + 4 : Nat) : Int) := by omega
     have t4 : ((i + 4 : Nat) : Int) < 8 := by omega
     obtain ⟨n, hn⟩ : ∃ n, n = i + 4 := ⟨_, rfl⟩
     rw [← hn] at hik t3 t4
     obtain ⟨u, hu⟩ := List.getElem?_eq_some_iff.2 ⟨(show n < (rowL a b i 4).length by unfold rowL; simp; omega), rfl⟩ |> fun h => (⟨_, h⟩ : ∃ u, (rowL a b i 4)[n]? = some u)
     have q0 := H9.out.cell hu
     have f0 : ∀ j, wr.frozen? ⟨w1.heap.size, j, none⟩ = false := fun j => H9.out.frozen j
     have HL := hH (rowL_end a b i hi4 HB4.out)
     obtain ⟨C, hC⟩ : ∃ C, C = rowC a b i 4 := ⟨_, rfl⟩
     rw [← hC, ← hn] at HL
     rw [← hC]
     have HN := hH hn
     clear hn hC hu
     go_wp2_with fail
     have K9 := H9.out.set n (Go.Wd.u64 C)
     rw [HL.out] at K9
     have K0 := H0.out.other ⟨w1.heap.size, n, none⟩ (by show w.heap.size ≠ w1.heap.size; omega) (Go.Wd.u64 C)
     have K1 := H1.out.other ⟨w1.heap.size, n, none⟩ (by show w.heap.size + 1 ≠ w1.heap.size; omega) (Go.Wd.u64 C)
     have K2 := H2.out.other ⟨w1.heap.size, n, none⟩ (by show w.heap.size + 1 + 1 ≠ w1.heap.size; omega) (Go.Wd.u64 C)
     have K3 := H3.out.other ⟨w1.heap.size, n, none⟩ (by show b4 ≠ w1.heap.size; omega) (Go.Wd.u64 C)
     have K4 := H4'.out.other ⟨w1.heap.size, n, none⟩ (by show b5 ≠ w1.heap.size; omega) (Go.Wd.u64 C)
     have KB := HBh.out.setCell (p := ⟨w1.heap.size, n, none⟩) (by show w.heap.size ≤ w1.heap.size; omega) (Go.Wd.u64 C)
     go_roundg q
     case measure => omega
     case rel => exact ⟨i + 1, by omega, by go_num, K0, K1, K2, K3, K4, K9, KB, by simpa [World.setCell] using hzz⟩
    | succ r =>
     have hk4 : k < 4 := by omega
     obtain ⟨hi0, Hh0⟩ : ∃ n, Hid (n = lb a i * lb b k / 18446744073709551616) := ⟨_, hH rfl⟩
     obtain ⟨lo0, Hl0⟩ : ∃ n, Hid (n = lb a i * lb b k % 18446744073709551616) := ⟨_, hH rfl⟩
     obtain ⟨m, Hm⟩ : ∃ n, Hid (n = lb (rowM a b i) (i + k)) := ⟨_, hH rfl⟩
     obtain ⟨c, Hc⟩ : ∃ n, Hid (n = rowC a b i k) := ⟨_, hH rfl⟩
     have hm : m < 18446744073709551616 := by rw [Hm.out]; exact lb_lt _ _
     have hc : c < 18446744073709551616 := by rw [Hc.out]; exact rowC_lt _ _ _ _
     have hlo : lo0 < 18446744073709551616 := by rw [Hl0.out]; exact Nat.mod_lt _ (by decide)
     have hst := row_step (lb a i * lb b k) m c hm hc
     simp only [B] at hst
     rw [← Hh0.out, ← Hl0.out] at hst
     have hT : c + (m + lb a i * lb b k) = rowT a b i k := by rw [Hc.out, Hm.out]; rfl
     rw [hT] at hst
     have hTl := rowT_lt a b i k (rowC_lt a b i k)
     obtain ⟨m1, Hm1⟩ : ∃ n, Hid (n = (lo0 + m) / 18446744073709551616) := ⟨_, hH rfl⟩
     obtain ⟨s1, Hs1⟩ : ∃ n, Hid (n = (lo0 + m) % 18446744073709551616) := ⟨_, hH rfl⟩
     obtain ⟨m2, Hm2⟩ : ∃ n, Hid (n = (s1 + c) / 18446744073709551616) := ⟨_, hH rfl⟩
     obtain ⟨s2, Hs2⟩ : ∃ n, Hid (n = (s1 + c) % 18446744073709551616) := ⟨_, hH rfl⟩
     rw [← Hm1.out, ← Hs1.out, ← Hm2.out, ← Hs2.out] at hst
     have hs1 : s1 < 18446744073709551616 := by rw [Hs1.out]; exact Nat.mod_lt _ (by decide)
     have hnc : rowT a b i k / B = rowC a b i (k + 1) := (rowC_succ a b i k).symm
     have hcl := rowC_lt a b i (k + 1)
     have HC2 : Hid (hi0 + m1 + m2 = rowC a b i (k + 1)) := hH (hst.2.trans hnc)
     have hb2 : hi0 + m1 + m2 < 18446744073709551616 := by rw [HC2.out]; exact hcl
     have HS2 : Hid (s2 = rowT a b i k % B) := hH hst.1
     have Hmul : Hid (∀ w, Calls Tryz.prog 102 #[Go.Wd.u64 (lb a i), Go.Wd.u64 (lb b k)] w fun e w' => e = .returned (.tuple #[Go.Wd.u64 hi0, Go.Wd.u64 lo0]) ∧ Below w.heap.size w w') := hH (by rw [Hh0.out, Hl0.out]; exact mul64_b _ _ (lb_lt a i) (lb_lt b k))
     have hadd1 : ∀ wx : World, (callFunc 103 #[.int .u64 (lo0 : Int), .int .u64 (m : Int), .int .u64 0]).run Tryz.prog wx = .ok (.value (.tuple #[.int .u64 (s1 : Int), .int .u64 (m1 : Int)])) wx := fun wx => by
      have := add64_any lo0 m 0 (by omega) wx
      rw [Nat.add_zero, ← Hm1.out, ← Hs1.out] at this; exact this
     have hadd2 : ∀ wx : World, (callFunc 103 #[.int .u64 (s1 : Int), .int .u64 (c : Int), .int .u64 0]).run Tryz.prog wx = .ok (.value (.tuple #[.int .u64 (s2 : Int), .int .u64 (m2 : Int)])) wx := fun wx => by
      have := add64_any s1 c 0 (by omega) wx
      rw [Nat.add_zero, ← Hm2.out, ← Hs2.out] at this; exact this
     rw [← Hc.out]
     obtain ⟨n, hn⟩ : ∃ n, n = i + k := ⟨_, rfl⟩
     have hik : (i : Int) + (k : Int) = (n : Int) := by omega
     have t1 : (0 : Int) ≤ (i : Int) := by omega
     have t2 : (i : Int) < 4 := by omega
     have t5 : (0 : Int) ≤ (k : Int) := by omega
     have t6 : (k : Int) < 4 := by omega
     have t3 : (0 : Int) ≤ (n : Int) := by omega
     have t4 : (n : Int) < 8 := by omega
     have hq := rowL_at a b i k (by omega)
     rw [← Hm.out, ← hn] at hq
     have HQ := hH hq
     have HL := rowL_step a b i k (by omega)
     rw [← HS2.out, ← hn] at HL
     have HL := hH HL
     have B0 := H0.out
     have B1 := H1.out
     have B2 := H2.out
     have B3 := H3.out
     have B4 := H4'.out
     have B9 := H9.out
     have HB := HBh.out
     clear H0 H1 H2 H3 H4' H9 HBh hst hT hTl hnc hcl hn hq
     go_upto_region 10 with (fail)
     refine cG ?_
     refine cN ?_
     refine cW ?_ ?_ ?_
     refine cW ?_ ?_ ?_
     refine cX ?_ ?_ (by intro wz hSw; have q0 := (B3.y hSw.1).cell (uL_at a i hi4); go_simp; all_goals with_reducible rfl) ?_
     refine cW ?_ ?_ ?_
     refine cW ?_ ?_ ?_
     refine cX ?_ ?_ (by intro wz hSw; have q0 := (B4.y hSw.1).cell (uL_at b k hk4); go_simp; all_goals with_reducible rfl) ?_
     refine cC ?_ ?_ ?_ ?_ ?hc2_6 ?_
     case hc2_6 => (intro w hSw; exact Hmul.out w)
     refine cW ?_ ?_ ?_
     refine cW ?_ ?_ ?_
     refine cW ?_ ?_ ?_
     refine cW ?_ ?_ ?_
     refine cW ?_ ?_ ?_
     refine calm_end ?_
     intro w2 hS
     have hS := sO hS
     have B0 := B0.y hS
     have B1 := B1.y hS
     have B2 := B2.y hS
     have B3 := B3.y hS
     have B4 := B4.y hS
     have B9 := B9.y hS
     have hz2 : wr.heap.size ≤ w2.heap.size := hS.size
     have HB := gS HB hS
     clear hS
     have q0 := B9.cell HQ.out
     have f0 : ∀ j, w2.frozen? ⟨w1.heap.size, j, none⟩ = false := fun j => B9.frozen j
     go_wp2_with fail
     have K9 := B9.set n (Go.Wd.u64 s2)
     rw [HL.out] at K9
     have K0 := B0.other ⟨w1.heap.size, n, none⟩ (by show w.heap.size ≠ w1.heap.size; omega) (Go.Wd.u64 s2)
     have K1 := B1.other ⟨w1.heap.size, n, none⟩ (by show w.heap.size + 1 ≠ w1.heap.size; omega) (Go.Wd.u64 s2)
     have K2 := B2.other ⟨w1.heap.size, n, none⟩ (by show w.heap.size + 1 + 1 ≠ w1.heap.size; omega) (Go.Wd.u64 s2)
     have K3 := B3.other ⟨w1.heap.size, n, none⟩ (by show b4 ≠ w1.heap.size; omega) (Go.Wd.u64 s2)
     have K4 := B4.other ⟨w1.heap.size, n, none⟩ (by show b5 ≠ w1.heap.size; omega) (Go.Wd.u64 s2)
     have KB := HB.setCell (p := ⟨w1.heap.size, n, none⟩) (by show w.heap.size ≤ w1.heap.size; omega) (Go.Wd.u64 s2)
     have hc3 : (hi0 : Int) + (m1 : Int) + (m2 : Int) = ((rowC a b i (k + 1) : Nat) : Int) := by rw [← HC2.out]; omega
     go_roundg r
     case measure => omega
     case rel => exact ⟨k + 1, by omega, by go_num, by rw [hc3], K0, K1, K2, K3, K4, K9, KB, by simp [World.setCell]; omega⟩
end Go.Proofs.YthbplhglfjlngaaGreat
