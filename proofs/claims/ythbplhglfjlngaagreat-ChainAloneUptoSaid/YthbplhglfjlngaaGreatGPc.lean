/- '==' between numbers of 256 bits. -/
import Derived.Test.YthbplhglfjlngaaGreatGPb
import Derived.Deep.Cut
import Derived.Laws.StructEq
import Derived.Laws.Tables
import Derived.Laws.Cover2
import Derived.Deep.LoopGhost
import Derived.BigFrame
import Derived.IntWalk
set_option linter.unusedVariables false
set_option linter.unusedSimpArgs false
set_option maxRecDepth 100000
namespace Go.Proofs.YthbplhglfjlngaaGreat
open Go.RowKit Go.Rg Go.Wd
attribute [local go_sem] Oper.semAt_some
theorem info_wide : (Tryz.prog.info? 60).map (fun i => (i.zero, i.size)) = some (some (.agg #[.int .u64 0, .int .u64 0, .int .u64 0, .int .u64 0]), 4) := by kernel_rfl
theorem size_wide : (Tryz.prog.info? 60).map (·.size) = some 4 := by kernel_rfl
theorem wI_one (z : Int) : (wI z).cells.all (·.oneCell') = true := by unfold wI U u64; simp [Value.cells, Value.oneCell']
theorem U_one (z : Nat) : (U z).cells.all (·.oneCell') = true := by unfold U u64; simp [Value.cells, Value.oneCell']
theorem wideNeg_b (z : Int) (b : Bool) (hz : Fit z) (h : decide (z < 0) = b) (w : World) :
  Calls Tryz.prog 86 #[wI z] w fun e w' => e = .returned (.bool b) ∧ Below w.heap.size w w' := by rw [← h]; exact wideNeg_any z hz w
theorem widePlus_b (x y : Int) (c : Nat) (hc : c ≤ 1) (w : World) :
  Calls Tryz.prog 108 #[wI x, wI y, u64 c] w fun e w' => e = .returned (wI (x + y + c)) ∧ Below w.heap.size w w' := by rw [← tc_add]; exact widePlus_any _ _ c hc w
theorem widePlus_z (x y z : Int) (c : Nat) (hc : c ≤ 1) (h : z = x + y + c) (w : World) :
  Calls Tryz.prog 108 #[wI x, wI y, u64 c] w fun e w' => e = .returned (wI z) ∧ Below w.heap.size w w' := by subst h; exact widePlus_b x y c hc w
theorem wideKept_b (z z' : Int) (b : Bool) (h : z' = if b then z else 0) (w : World) :
  Calls Tryz.prog 110 #[wI z, .bool b] w fun e w' => e = .returned (.tuple #[wI z', .bool b]) ∧ Below w.heap.size w w' := by
 have := wideKept_any z b w
 subst h
 cases b <;> exact this
theorem wideSize_neg (z : Int) (hz : Fit z) (h : z < 0) (w : World) :
  Calls Tryz.prog 101 #[wI z] w fun e w' => e = .returned (wI (-z)) ∧ Below w.heap.size w w' := by
 obtain ⟨W0, hW0⟩ : ∃ W0, [.cells #[u64 (lb (tc z) 0), u64 (lb (tc z) 1), u64 (lb (tc z) 2), u64 (lb (tc z) 3)] 60, .cells #[.int .u64 0, .int .u64 0, .int .u64 0, .int .u64 0] 60].foldl World.alloc w = W0 := ⟨_, rfl⟩
 have B0 : Blk W0 (w.heap.size) (uL (tc z)) 60 := Blk.allocs _ hW0 0 rfl
 have B1 : Blk W0 (w.heap.size + 1) (uL 0) 60 := Blk.allocs _ hW0 1 rfl
 have HB := aB hW0
 have hsz : w.heap.size + 2 ≤ W0.heap.size := aZ hW0
 simp only [List.foldl_cons, List.foldl_nil] at hW0
 have hb : decide (z < 0) = true := by simpa using h
 go_enter Tryz.func101, Tryz.ntmps101
 unfold wI U
 go_upto_region 1 with (fail)
 clear hW0
 refine cP ?_
 refine cN ?_
 refine cX ?_ ?_ (by intro wz hSw; obtain ⟨q0, q1, q2, q3⟩ := c4 (B0.y hSw.1); go_simp; all_goals with_reducible rfl) ?_
 refine cC ?_ ?_ ?_ ?_ ?hc1_1 ?_
 case hc1_1 => (intro w hSw; exact wideNeg_b z true hz hb w)
 refine calm_end ?_
 intro w1 hS
 have hS := sO hS
 have B0 := B0.y hS
 have B1 := B1.y hS
 have hz1 : W0.heap.size ≤ w1.heap.size := hS.size
 have HB := gS HB hS
 clear hS
 go_upto_region 2 with (fail)
 refine cP ?_
 refine calm_k (b := w.heap.size + 1) (o := 0) (st := 4) (ado := .tmp 2) (x := (.tmp 8)) (u := wI (-z)) (by kernel_rfl) B1 (by rfl) size_wide (by first | exact wI_one _ | exact U_one _) (by first | exact Nat.le_refl _ | (simp; done) | decide) ?_
 refine cW ?_ ?_ ?_
 refine cX ?_ ?_ (by intro wz hSw; obtain ⟨q0, q1, q2, q3⟩ := c4 (B0.y hSw.1); go_simp; all_goals with_reducible rfl) ?_
 refine cC ?_ ?_ ?_ ?_ ?hc2_2 ?_
 case hc2_2 => (intro w hSw; exact wideTurned_any z w)
 refine cC ?_ ?_ ?_ ?_ ?hc2_3 ?_
 case hc2_3 => (intro w hSw; exact widePlus_z 0 (-z - 1) (-z) 1 (by omega) (by omega) w)
 refine cB ?_
 refine calm_end ?_
 refine ⟨(by rfl), (by rfl), fun w2 hS D0 => ?_⟩
 have B0 := B0.y hS
 have B1 : Blk w2 (w.heap.size + 1) (uL (tc (-z))) 60 := blk_whole D0 rfl
 have hz2 : w1.heap.size ≤ w2.heap.size := hS.size
 have HB := gS HB hS
 clear hS D0
 go_wp2_with fail
 obtain ⟨s0_0, s0_1, s0_2, s0_3⟩ := c4 (B1)
 refine bodyPost_ret (v := wI (-z)) (by simp [results, Tryz.results101, go_sem, s0_0, s0_1, s0_2, s0_3]) rfl ⟨rfl, HB⟩
theorem wideSize_pos (z : Int) (hz : Fit z) (h : 0 ≤ z) (w : World) :
  Calls Tryz.prog 101 #[wI z] w fun e w' => e = .returned (wI z) ∧ Below w.heap.size w w' := by
 obtain ⟨W0, hW0⟩ : ∃ W0, [.cells #[u64 (lb (tc z) 0), u64 (lb (tc z) 1), u64 (lb (tc z) 2), u64 (lb (tc z) 3)] 60, .cells #[.int .u64 0, .int .u64 0, .int .u64 0, .int .u64 0] 60].foldl World.alloc w = W0 := ⟨_, rfl⟩
 have B0 : Blk W0 (w.heap.size) (uL (tc z)) 60 := Blk.allocs _ hW0 0 rfl
 have B1 : Blk W0 (w.heap.size + 1) (uL 0) 60 := Blk.allocs _ hW0 1 rfl
 have HB := aB hW0
 have hsz : w.heap.size + 2 ≤ W0.heap.size := aZ hW0
 simp only [List.foldl_cons, List.foldl_nil] at hW0
 have hb : decide (z < 0) = false := by simpa using h
 go_enter Tryz.func101, Tryz.ntmps101
 unfold wI U
 go_upto_region 1 with (fail)
 clear hW0
 refine cP ?_
 refine cN ?_
 refine cX ?_ ?_ (by intro wz hSw; obtain ⟨q0, q1, q2, q3⟩ := c4 (B0.y hSw.1); go_simp; all_goals with_reducible rfl) ?_
 refine cC ?_ ?_ ?_ ?_ ?hc3_1 ?_
 case hc3_1 => (intro w hSw; exact wideNeg_b z false hz hb w)
 refine calm_end ?_
 intro w1 hS
 have hS := sO hS
 have B0 := B0.y hS
 have B1 := B1.y hS
 have hz1 : W0.heap.size ≤ w1.heap.size := hS.size
 have HB := gS HB hS
 clear hS
 go_upto_region 3 with (fail)
 refine cP ?_
 refine calm_k (b := w.heap.size + 1) (o := 0) (st := 1) (ado := .tmp 2) (x := (.tmp 9)) (u := wI z) (by kernel_rfl) B1 (by rfl) size_wide (by first | exact wI_one _ | exact U_one _) (by first | exact Nat.le_refl _ | (simp; done) | decide) ?_
 refine cX ?_ ?_ (by intro wz hSw; obtain ⟨q0, q1, q2, q3⟩ := c4 (B0.y hSw.1); go_simp; all_goals with_reducible rfl) ?_
 refine cB ?_
 refine calm_end ?_
 refine ⟨(by rfl), (by rfl), fun w2 hS D0 => ?_⟩
 have B0 := B0.y hS
 have B1 : Blk w2 (w.heap.size + 1) (uL (tc z)) 60 := blk_whole D0 rfl
 have hz2 : w1.heap.size ≤ w2.heap.size := hS.size
 have HB := gS HB hS
 clear hS D0
 go_wp2_with fail
 obtain ⟨s0_0, s0_1, s0_2, s0_3⟩ := c4 (B1)
 refine bodyPost_ret (v := wI z) (by simp [results, Tryz.results101, go_sem, s0_0, s0_1, s0_2, s0_3]) rfl ⟨rfl, HB⟩
end Go.Proofs.YthbplhglfjlngaaGreat
namespace Go.Wd
open Go
theorem tc_inj {x y : Int} (hx : Fit x) (hy : Fit y) (h : tc x = tc y) : x = y := by
 have h1 := tc_cast x
 have h2 := tc_cast y
 unfold Fit at hx hy
 simp only [B4, H4] at h1 h2 hx hy
 omega
theorem limbs_eq {a b : Nat} (ha : a < B4) (hb : b < B4) : ((lb a 0 : Int) == (lb b 0 : Int) && ((lb a 1 : Int) == (lb b 1 : Int) && ((lb a 2 : Int) == (lb b 2 : Int) && (lb a 3 : Int) == (lb b 3 : Int)))) = decide (a = b) := by
 rw [Bool.eq_iff_iff]
 simp only [Bool.and_eq_true, beq_iff_eq, decide_eq_true_eq, Int.natCast_inj]
 constructor
 ·rintro ⟨h0, h1, h2, h3⟩
  have := lb_ext (a := a) (b := b) (fun i hi => by
   have : i = 0 ∨ i = 1 ∨ i = 2 ∨ i = 3 := by omega
   rcases this with rfl | rfl | rfl | rfl <;> assumption)
  rwa [Nat.mod_eq_of_lt ha, Nat.mod_eq_of_lt hb] at this
 ·rintro rfl; exact ⟨rfl, rfl, rfl, rfl⟩
end Go.Wd
namespace Go.Proofs.YthbplhglfjlngaaGreat
open Go.RowKit Go.Rg Go.Wd
attribute [local go_sem] Oper.semAt_some
theorem eqIn_wide (a b c d a' b' c' d' : Int) (w : World) : (Op.equalIn 10000 60 (.agg #[.int .u64 a, .int .u64 b, .int .u64 c, .int .u64 d]) (.agg #[.int .u64 a', .int .u64 b', .int .u64 c', .int .u64 d'])).run Tryz.prog w = .ok (a == a' && (b == b' && (c == c' && d == d'))) w := by
 have u3 := Tryz.underlying58
 have a3 := Tryz.isAgg58
 have z3 := Tryz.sizeOf58
 rw [show (10000 : Nat) = 9999 + 1 from rfl, Op.equalIn]
 simp only [Sem.run_bind, run_underlying Tryz.underlying60, Result.andThen_ok]
 simp only [Std.Legacy.Range.forIn_eq_forIn_range', Std.Legacy.Range.size, Nat.sub_zero, Nat.add_sub_cancel, Nat.div_one, List.range'_succ, List.range'_zero, List.forIn_cons, List.forIn_nil]
 go_simp
 by_cases h1 : a = a' <;> by_cases h2 : b = b' <;> by_cases h3 : c = c' <;> by_cases h4 : d = d' <;> simp [h1, h2, h3, h4]
theorem eqIn_U (a b : Nat) (ha : a < B4) (hb : b < B4) (w : World) : (Op.equalIn 10000 60 (U a) (U b)).run Tryz.prog w = .ok (decide (a = b)) w := by
 unfold U u64
 rw [eqIn_wide, limbs_eq ha hb]
theorem eqIn_I (x y : Int) (hx : Fit x) (hy : Fit y) (b : Bool) (h : decide (x = y) = b) (w : World) : (Op.equalIn 10000 60 (wI x) (wI y)).run Tryz.prog w = .ok b w := by
 unfold wI
 rw [eqIn_U _ _ (tc_lt _) (tc_lt _), ← h]
 congr 1
 rw [decide_eq_decide]
 exact ⟨fun h => tc_inj hx hy h, fun h => by rw [h]⟩
theorem fit0 : Fit 0 := by unfold Fit; decide
theorem eqIn_Z (x : Int) (hx : Fit x) (b : Bool) (h : decide (x = 0) = b) (w : World) : (Op.equalIn 10000 60 (wI x) (.agg #[.int .u64 0, .int .u64 0, .int .u64 0, .int .u64 0])).run Tryz.prog w = .ok b w :=
 eqIn_I x 0 hx fit0 b h w
theorem eqIn_00 (w : World) : (Op.equalIn 10000 60 (.agg #[.int .u64 0, .int .u64 0, .int .u64 0, .int .u64 0]) (.agg #[.int .u64 0, .int .u64 0, .int .u64 0, .int .u64 0])).run Tryz.prog w = .ok true w := eqIn_Z 0 fit0 true rfl w
end Go.Proofs.YthbplhglfjlngaaGreat
namespace Go.Wd
open Go
def cmpI (x y : Int) : Int := if x < y then -1 else if x = y then 0 else 1
theorem lb_parts (n : Nat) (h : n < B4) : n = lb n 0 + 18446744073709551616 * lb n 1 + 340282366920938463463374607431768211456 * lb n 2 + 6277101735386680763835789423207666416102355444464034512896 * lb n 3 := by
 have e : n % B4 = n := Nat.mod_eq_of_lt h
 have e2 : B4 = B ^ (3 + 1) := by decide
 have key : n % B4 = lb n 0 + B * lb n 1 + B ^ 2 * lb n 2 + B ^ 3 * lb n 3 := by
  rw [e2, mod_succ, show (3 : Nat) = 2 + 1 from rfl, mod_succ, show (2 : Nat) = 1 + 1 from rfl, mod_succ, show (1 : Nat) = 0 + 1 from rfl, mod_succ]
  simp [Nat.mod_one]
 rw [e] at key
 simp only [B, Nat.reducePow] at key
 exact key
def Hi (a b q : Nat) : Prop := ∀ j, q ≤ j → j < 4 → lb a j = lb b j
theorem hi_lt {a b q : Nat} (ha : a < B4) (hb : b < B4) (hq : q < 4) (h : Hi a b (q + 1)) (hne : lb a q ≠ lb b q) : decide (a < b) = decide (lb a q < lb b q) := by
 have pa := lb_parts a ha
 have pb := lb_parts b hb
 have a0 := lb_lt a 0
 have a1 := lb_lt a 1
 have a2 := lb_lt a 2
 have a3 := lb_lt a 3
 have b0 := lb_lt b 0
 have b1 := lb_lt b 1
 have b2 := lb_lt b 2
 have b3 := lb_lt b 3
 simp only [B] at a0 a1 a2 a3 b0 b1 b2 b3
 rw [decide_eq_decide]
 have : q = 0 ∨ q = 1 ∨ q = 2 ∨ q = 3 := by omega
 rcases this with rfl | rfl | rfl | rfl
 ·have h1 := h 1 (by omega) (by omega); have h2 := h 2 (by omega) (by omega); have h3 := h 3 (by omega) (by omega); omega
 ·have h2 := h 2 (by omega) (by omega); have h3 := h 3 (by omega) (by omega); omega
 ·have h3 := h 3 (by omega) (by omega); omega
 ·omega
theorem hi_eq {a b : Nat} (ha : a < B4) (hb : b < B4) (h : Hi a b 0) : decide (a < b) = false := by
 have pa := lb_parts a ha
 have pb := lb_parts b hb
 rw [h 0 (by omega) (by omega), h 1 (by omega) (by omega), h 2 (by omega) (by omega), h 3 (by omega) (by omega)] at pa
 simp; omega
theorem hi_step {a b q : Nat} (h : Hi a b (q + 1)) (he : lb a q = lb b q) : Hi a b q := fun j h1 h2 => by
 by_cases e : j = q
 ·rw [e]; exact he
 ·exact h j (by omega) h2
theorem hi_top (a b : Nat) : Hi a b 4 := fun j h1 h2 => by omega
theorem tc_lt_iff {x y : Int} (hx : Fit x) (hy : Fit y) (h : decide (x < 0) = decide (y < 0)) : decide (tc x < tc y) = decide (x < y) := by
 have h1 := tc_cast x
 have h2 := tc_cast y
 unfold Fit at hx hy
 rw [decide_eq_decide] at h ⊢
 simp only [B4, H4] at h1 h2 hx hy
 omega
end Go.Wd
namespace Go.Proofs.YthbplhglfjlngaaGreat
open Go.RowKit Go.Rg Go.Wd
attribute [local go_sem] Oper.semAt_some
theorem wideSign_neg (x : Int) (hx : Fit x) (h : x < 0) (w : World) :
  Calls Tryz.prog 87 #[wI x] w fun e w' => e = .returned (.int .i64 (-1)) ∧ Below w.heap.size w w' := by
 obtain ⟨W0, hW0⟩ : ∃ W0, [.cells #[u64 (lb (tc x) 0), u64 (lb (tc x) 1), u64 (lb (tc x) 2), u64 (lb (tc x) 3)] 60].foldl World.alloc w = W0 := ⟨_, rfl⟩
 have B0 : Blk W0 (w.heap.size) (uL (tc x)) 60 := Blk.allocs _ hW0 0 rfl
 have HB := aB hW0
 have hsz : w.heap.size + 1 ≤ W0.heap.size := aZ hW0
 simp only [List.foldl_cons, List.foldl_nil] at hW0
 have hb : decide (x < 0) = true := by simpa using h
 go_enter Tryz.func87, Tryz.ntmps87
 unfold wI U
 go_upto_region 1 with (fail)
 clear hW0
 refine cP ?_
 refine cN ?_
 refine cX ?_ ?_ (by intro wz hSw; obtain ⟨q0, q1, q2, q3⟩ := c4 (B0.y hSw.1); go_simp; all_goals with_reducible rfl) ?_
 refine cC ?_ ?_ ?_ ?_ ?hc1_1 ?_
 case hc1_1 => (intro w hSw; exact wideNeg_b x true hx hb w)
 refine cW ?_ ?_ ?_
 refine calm_end ?_
 intro w1 hS
 have hS := sO hS
 have B0 := B0.y hS
 have hz1 : W0.heap.size ≤ w1.heap.size := hS.size
 have HB := gS HB hS
 clear hS
 go_wp2_with fail
 go_ret
 exact ⟨rfl, HB⟩
theorem wideSign_zero (x : Int) (hx : Fit x) (h : x = 0) (w : World) :
  Calls Tryz.prog 87 #[wI x] w fun e w' => e = .returned (.int .i64 0) ∧ Below w.heap.size w w' := by
 obtain ⟨W0, hW0⟩ : ∃ W0, [.cells #[u64 (lb (tc x) 0), u64 (lb (tc x) 1), u64 (lb (tc x) 2), u64 (lb (tc x) 3)] 60].foldl World.alloc w = W0 := ⟨_, rfl⟩
 have B0 : Blk W0 (w.heap.size) (uL (tc x)) 60 := Blk.allocs _ hW0 0 rfl
 have HB := aB hW0
 have hsz : w.heap.size + 1 ≤ W0.heap.size := aZ hW0
 simp only [List.foldl_cons, List.foldl_nil] at hW0
 have hb : decide (x < 0) = false := by simp; omega
 have he0 : decide (x = 0) = true := by simp; omega
 clear h
 go_enter Tryz.func87, Tryz.ntmps87
 unfold wI U
 go_upto_region 1 with (fail)
 clear hW0
 refine cP ?_
 refine cN ?_
 refine cX ?_ ?_ (by intro wz hSw; obtain ⟨q0, q1, q2, q3⟩ := c4 (B0.y hSw.1); go_simp; all_goals with_reducible rfl) ?_
 refine cC ?_ ?_ ?_ ?_ ?hc2_1 ?_
 case hc2_1 => (intro w hSw; exact wideNeg_b x false hx hb w)
 refine cW ?_ ?_ ?_
 refine calm_end ?_
 intro w1 hS
 have hS := sO hS
 have B0 := B0.y hS
 have hz1 : W0.heap.size ≤ w1.heap.size := hS.size
 have HB := gS HB hS
 clear hS
 go_upto_region 3 with (fail)
 refine cP ?_
 refine cN ?_
 refine cX ?_ ?_ (by intro wz hSw; obtain ⟨q0, q1, q2, q3⟩ := c4 (B0.y hSw.1); go_simp; all_goals with_reducible rfl) ?_
 refine cW ?_ ?_ ?_
 refine cX ?_ ?_ (by intro wz hSw; have he := eqIn_Z x hx true he0 wz; go_simp; all_goals with_reducible rfl) ?_
 refine cW ?_ ?_ ?_
 refine calm_end ?_
 intro w2 hS
 have hS := sO hS
 have B0 := B0.y hS
 have hz2 : w1.heap.size ≤ w2.heap.size := hS.size
 have HB := gS HB hS
 clear hS
 go_wp2_with fail
 go_ret
 exact ⟨rfl, HB⟩
theorem wideSign_pos (x : Int) (hx : Fit x) (h : 0 < x) (w : World) :
  Calls Tryz.prog 87 #[wI x] w fun e w' => e = .returned (.int .i64 1) ∧ Below w.heap.size w w' := by
 obtain ⟨W0, hW0⟩ : ∃ W0, [.cells #[u64 (lb (tc x) 0), u64 (lb (tc x) 1), u64 (lb (tc x) 2), u64 (lb (tc x) 3)] 60].foldl World.alloc w = W0 := ⟨_, rfl⟩
 have B0 : Blk W0 (w.heap.size) (uL (tc x)) 60 := Blk.allocs _ hW0 0 rfl
 have HB := aB hW0
 have hsz : w.heap.size + 1 ≤ W0.heap.size := aZ hW0
 simp only [List.foldl_cons, List.foldl_nil] at hW0
 have hb : decide (x < 0) = false := by simp; omega
 have he0 : decide (x = 0) = false := by simp; omega
 clear h
 go_enter Tryz.func87, Tryz.ntmps87
 unfold wI U
 go_upto_region 1 with (fail)
 clear hW0
 refine cP ?_
 refine cN ?_
 refine cX ?_ ?_ (by intro wz hSw; obtain ⟨q0, q1, q2, q3⟩ := c4 (B0.y hSw.1); go_simp; all_goals with_reducible rfl) ?_
 refine cC ?_ ?_ ?_ ?_ ?hc4_1 ?_
 case hc4_1 => (intro w hSw; exact wideNeg_b x false hx hb w)
 refine cW ?_ ?_ ?_
 refine calm_end ?_
 intro w1 hS
 have hS := sO hS
 have B0 := B0.y hS
 have hz1 : W0.heap.size ≤ w1.heap.size := hS.size
 have HB := gS HB hS
 clear hS
 go_upto_region 3 with (fail)
 refine cP ?_
 refine cN ?_
 refine cX ?_ ?_ (by intro wz hSw; obtain ⟨q0, q1, q2, q3⟩ := c4 (B0.y hSw.1); go_simp; all_goals with_reducible rfl) ?_
 refine cW ?_ ?_ ?_
 refine cX ?_ ?_ (by intro wz hSw; have he := eqIn_Z x hx false he0 wz; go_simp; all_goals with_reducible rfl) ?_
 refine cW ?_ ?_ ?_
 refine calm_end ?_
 intro w2 hS
 have hS := sO hS
 have B0 := B0.y hS
 have hz2 : w1.heap.size ≤ w2.heap.size := hS.size
 have HB := gS HB hS
 clear hS
 go_wp2_with fail
 go_ret
 exact ⟨rfl, HB⟩
theorem wideBelow_any (a b : Nat) (ha : a < B4) (hb : b < B4) (w : World) :
  Calls Tryz.prog 88 #[U a, U b] w fun e w' => e = .returned (.bool (decide (a < b))) ∧ Below w.heap.size w w' := by
 obtain ⟨W0, hW0⟩ : ∃ W0, [.cells #[u64 (lb a 0), u64 (lb a 1), u64 (lb a 2), u64 (lb a 3)] 60, .cells #[u64 (lb b 0), u64 (lb b 1), u64 (lb b 2), u64 (lb b 3)] 60].foldl World.alloc w = W0 := ⟨_, rfl⟩
 have B0 : Blk W0 (w.heap.size) (uL a) 60 := Blk.allocs _ hW0 0 rfl
 have B1 : Blk W0 (w.heap.size + 1) (uL b) 60 := Blk.allocs _ hW0 1 rfl
 have HB := aB hW0
 have hsz : w.heap.size + 2 ≤ W0.heap.size := aZ hW0
 simp only [List.foldl_cons, List.foldl_nil] at hW0
 have HA := hH ha
 have HA2 := hH hb
 clear ha hb
 unfold U
 go_enter Tryz.func88, Tryz.ntmps88
 go_wp2_with fail
 go_loopg [5] 4 (fun q s5 wx => q ≤ 4 ∧ s5 = .int .i64 ((q : Int) - 1) ∧ Hid (Hi a b q) ∧ Hid (Blk wx w.heap.size (uL a) 60) ∧ Hid (Blk wx (w.heap.size + 1) (uL b) 60) ∧ Hid (Below w.heap.size w wx) ∧ w.heap.size ≤ wx.heap.size)
 case atStart => exact ⟨by omega, rfl, hi_top a b, B0, B1, HB, HB.size⟩
 case round =>
  clear B0 B1 HB hsz hW0
  obtain ⟨hq4, rfl, Hh, H0, H1, HB, hsz⟩ := hrel
  cases gk with
  | zero =>
   have HE := hH (hi_eq HA.out HA2.out Hh.out)
   go_wp2_with fail
   go_ret
   exact ⟨by rw [HE.out]; rfl, HB.out⟩
  | succ q =>
   have hq : q < 4 := by omega
   have t1 : (0 : Int) ≤ (q : Int) := by omega
   have t2 : (q : Int) < 4 := by omega
   have e1 : ((q + 1 : Nat) : Int) - 1 = (q : Int) := by omega
   have B0 := H0.out
   have B1 := H1.out
   have HB := HB.out
   clear H0 H1
   rw [e1]
   by_cases hne : lb a q = lb b q
   ·have HS := hH (hi_step Hh.out hne)
    have s1 : ((lb a q : Int) != (lb b q : Int)) = false := by rw [hne]; simp
    have s2 : ((lb a q : Int) == (lb b q : Int)) = true := by rw [hne]; simp
    clear Hh hne
    go_upto_region 4 with (fail)
    refine cG ?_
    refine cN ?_
    refine cW ?_ ?_ ?_
    refine cW ?_ ?_ ?_
    refine cX ?_ ?_ (by intro wz hSw; have q0 := (B0.y hSw.1).cell (uL_at a q hq); go_simp; all_goals with_reducible rfl) ?_
    refine cW ?_ ?_ ?_
    refine cW ?_ ?_ ?_
    refine cX ?_ ?_ (by intro wz hSw; have q0 := (B1.y hSw.1).cell (uL_at b q hq); go_simp; all_goals with_reducible rfl) ?_
    refine cW ?_ ?_ ?_
    refine calm_end ?_
    intro w1 hS
    have hS := sO hS
    have B0 := B0.y hS
    have B1 := B1.y hS
    have hz1 : wr.heap.size ≤ w1.heap.size := hS.size
    have HB := gS HB hS
    clear hS
    go_wp2_with fail
    go_roundg q
    case measure => omega
    case rel => exact ⟨by omega, rfl, HS, B0, B1, HB, by omega⟩
   ·have HS := hH (hi_lt HA.out HA2.out hq Hh.out hne)
    have s1 : ((lb a q : Int) != (lb b q : Int)) = true := by simpa [bne_iff_ne] using fun h => hne (by omega)
    have s2 : ((lb a q : Int) == (lb b q : Int)) = false := by simpa using fun h => hne (by omega)
    clear Hh hne
    go_upto_region 4 with (fail)
    refine cG ?_
    refine cN ?_
    refine cW ?_ ?_ ?_
    refine cW ?_ ?_ ?_
    refine cX ?_ ?_ (by intro wz hSw; have q0 := (B0.y hSw.1).cell (uL_at a q hq); go_simp; all_goals with_reducible rfl) ?_
    refine cW ?_ ?_ ?_
    refine cW ?_ ?_ ?_
    refine cX ?_ ?_ (by intro wz hSw; have q0 := (B1.y hSw.1).cell (uL_at b q hq); go_simp; all_goals with_reducible rfl) ?_
    refine cW ?_ ?_ ?_
    refine calm_end ?_
    intro w1 hS
    have hS := sO hS
    have B0 := B0.y hS
    have B1 := B1.y hS
    have hz1 : wr.heap.size ≤ w1.heap.size := hS.size
    have HB := gS HB hS
    clear hS
    go_upto_region 5 with (fail)
    refine cG ?_
    refine cN ?_
    refine cW ?_ ?_ ?_
    refine cW ?_ ?_ ?_
    refine cX ?_ ?_ (by intro wz hSw; have q0 := (B0.y hSw.1).cell (uL_at a q hq); go_simp; all_goals with_reducible rfl) ?_
    refine cW ?_ ?_ ?_
    refine cW ?_ ?_ ?_
    refine cX ?_ ?_ (by intro wz hSw; have q0 := (B1.y hSw.1).cell (uL_at b q hq); go_simp; all_goals with_reducible rfl) ?_
    refine cW ?_ ?_ ?_
    refine cW ?_ ?_ ?_
    refine calm_end ?_
    intro w2 hS
    have hS := sO hS
    have B0 := B0.y hS
    have B1 := B1.y hS
    have hz2 : w1.heap.size ≤ w2.heap.size := hS.size
    have HB := gS HB hS
    clear hS
    go_wp2_with fail
    go_ret
    exact ⟨by rw [HS.out]; simp, HB⟩
theorem compare_b (x y r : Int) (h : Lib.compareInt x y = r) (w : World) : Calls Tryz.prog 47 #[.int .i64 x, .int .i64 y] w fun e w' => e = .returned (.int .i64 r) ∧ Below w.heap.size w w' :=
 (Tryz.cmp_Compare_int x y w).mono fun _ _ ⟨h1, h2⟩ => ⟨by rw [h1, h], by rw [h2]; exact Below.refl _ _⟩
theorem wideBelow_b (x y : Int) (b : Bool) (hx : Fit x) (hy : Fit y) (hs : decide (x < 0) = decide (y < 0)) (h : decide (x < y) = b) (w : World) :
  Calls Tryz.prog 88 #[wI x, wI y] w fun e w' => e = .returned (.bool b) ∧ Below w.heap.size w w' := by
 rw [← h, ← tc_lt_iff hx hy hs]; exact wideBelow_any _ _ (tc_lt x) (tc_lt y) w
theorem wideCmp_nzero (x y : Int) (hx : Fit x) (hy : Fit y) (h1 : x < 0) (h2 : ¬ y < 0) (h3 : y = 0) (w : World) :
  Calls Tryz.prog 62 #[wI x, wI y] w fun e w' => e = .returned (.int .i64 (-1)) ∧ Below w.heap.size w w' := by
 have H3 := hH h3
 clear h3
 obtain ⟨W0, hW0⟩ : ∃ W0, [.cells #[u64 (lb (tc x) 0), u64 (lb (tc x) 1), u64 (lb (tc x) 2), u64 (lb (tc x) 3)] 60, .cells #[u64 (lb (tc y) 0), u64 (lb (tc y) 1), u64 (lb (tc y) 2), u64 (lb (tc y) 3)] 60].foldl World.alloc w = W0 := ⟨_, rfl⟩
 have B0 : Blk W0 (w.heap.size) (uL (tc x)) 60 := Blk.allocs _ hW0 0 rfl
 have B1 : Blk W0 (w.heap.size + 1) (uL (tc y)) 60 := Blk.allocs _ hW0 1 rfl
 have HB := aB hW0
 have hsz : w.heap.size + 2 ≤ W0.heap.size := aZ hW0
 simp only [List.foldl_cons, List.foldl_nil] at hW0
 have hbx : decide (x < 0) = true := by simpa using h1
 have hby : decide (y < 0) = false := by simpa using h2
 go_enter Tryz.func62, Tryz.ntmps62
 unfold wI U
 go_upto_region 1 with (fail)
 clear hW0
 refine cG ?_
 refine cN ?_
 refine cX ?_ ?_ (by intro wz hSw; obtain ⟨q0, q1, q2, q3⟩ := c4 (B0.y hSw.1); go_simp; all_goals with_reducible rfl) ?_
 refine cC ?_ ?_ ?_ ?_ ?hc9_1 ?_
 case hc9_1 => (intro w hSw; exact wideNeg_b x true hx hbx w)
 refine cX ?_ ?_ (by intro wz hSw; obtain ⟨q0, q1, q2, q3⟩ := c4 (B1.y hSw.1); go_simp; all_goals with_reducible rfl) ?_
 refine cC ?_ ?_ ?_ ?_ ?hc9_3 ?_
 case hc9_3 => (intro w hSw; exact wideNeg_b y false hy hby w)
 refine cW ?_ ?_ ?_
 refine calm_end ?_
 intro w1 hS
 have hS := sO hS
 have B0 := B0.y hS
 have B1 := B1.y hS
 have hz1 : W0.heap.size ≤ w1.heap.size := hS.size
 have HB := gS HB hS
 clear hS
 go_upto_region 2 with (fail)
 refine cG ?_
 refine cN ?_
 refine cX ?_ ?_ (by intro wz hSw; obtain ⟨q0, q1, q2, q3⟩ := c4 (B0.y hSw.1); go_simp; all_goals with_reducible rfl) ?_
 refine cC ?_ ?_ ?_ ?_ ?hc10_1 ?_
 case hc10_1 => (intro w hSw; exact wideSign_neg x hx h1 w)
 refine cX ?_ ?_ (by intro wz hSw; obtain ⟨q0, q1, q2, q3⟩ := c4 (B1.y hSw.1); go_simp; all_goals with_reducible rfl) ?_
 refine cC ?_ ?_ ?_ ?_ ?hc10_3 ?_
 case hc10_3 => (intro w hSw; exact wideSign_zero y hy H3.out w)
 refine cC ?_ ?_ ?_ ?_ ?hc10_4 ?_
 case hc10_4 => (intro w hSw; exact compare_b (-1) 0 (-1) (by decide) w)
 refine cW ?_ ?_ ?_
 refine calm_end ?_
 intro w2 hS
 have hS := sO hS
 have B0 := B0.y hS
 have B1 := B1.y hS
 have hz2 : w1.heap.size ≤ w2.heap.size := hS.size
 have HB := gS HB hS
 clear hS
 go_wp2_with fail
 go_ret
 exact ⟨rfl, HB⟩
theorem wideCmp_npos (x y : Int) (hx : Fit x) (hy : Fit y) (h1 : x < 0) (h2 : ¬ y < 0) (h3 : 0 < y) (w : World) :
  Calls Tryz.prog 62 #[wI x, wI y] w fun e w' => e = .returned (.int .i64 (-1)) ∧ Below w.heap.size w w' := by
 have H3 := hH h3
 clear h3
 obtain ⟨W0, hW0⟩ : ∃ W0, [.cells #[u64 (lb (tc x) 0), u64 (lb (tc x) 1), u64 (lb (tc x) 2), u64 (lb (tc x) 3)] 60, .cells #[u64 (lb (tc y) 0), u64 (lb (tc y) 1), u64 (lb (tc y) 2), u64 (lb (tc y) 3)] 60].foldl World.alloc w = W0 := ⟨_, rfl⟩
 have B0 : Blk W0 (w.heap.size) (uL (tc x)) 60 := Blk.allocs _ hW0 0 rfl
 have B1 : Blk W0 (w.heap.size + 1) (uL (tc y)) 60 := Blk.allocs _ hW0 1 rfl
 have HB := aB hW0
 have hsz : w.heap.size + 2 ≤ W0.heap.size := aZ hW0
 simp only [List.foldl_cons, List.foldl_nil] at hW0
 have hbx : decide (x < 0) = true := by simpa using h1
 have hby : decide (y < 0) = false := by simpa using h2
 go_enter Tryz.func62, Tryz.ntmps62
 unfold wI U
 go_upto_region 1 with (fail)
 clear hW0
 refine cG ?_
 refine cN ?_
 refine cX ?_ ?_ (by intro wz hSw; obtain ⟨q0, q1, q2, q3⟩ := c4 (B0.y hSw.1); go_simp; all_goals with_reducible rfl) ?_
 refine cC ?_ ?_ ?_ ?_ ?hc9_1 ?_
 case hc9_1 => (intro w hSw; exact wideNeg_b x true hx hbx w)
 refine cX ?_ ?_ (by intro wz hSw; obtain ⟨q0, q1, q2, q3⟩ := c4 (B1.y hSw.1); go_simp; all_goals with_reducible rfl) ?_
 refine cC ?_ ?_ ?_ ?_ ?hc9_3 ?_
 case hc9_3 => (intro w hSw; exact wideNeg_b y false hy hby w)
 refine cW ?_ ?_ ?_
 refine calm_end ?_
 intro w1 hS
 have hS := sO hS
 have B0 := B0.y hS
 have B1 := B1.y hS
 have hz1 : W0.heap.size ≤ w1.heap.size := hS.size
 have HB := gS HB hS
 clear hS
 go_upto_region 2 with (fail)
 refine cG ?_
 refine cN ?_
 refine cX ?_ ?_ (by intro wz hSw; obtain ⟨q0, q1, q2, q3⟩ := c4 (B0.y hSw.1); go_simp; all_goals with_reducible rfl) ?_
 refine cC ?_ ?_ ?_ ?_ ?hc11_1 ?_
 case hc11_1 => (intro w hSw; exact wideSign_neg x hx h1 w)
 refine cX ?_ ?_ (by intro wz hSw; obtain ⟨q0, q1, q2, q3⟩ := c4 (B1.y hSw.1); go_simp; all_goals with_reducible rfl) ?_
 refine cC ?_ ?_ ?_ ?_ ?hc11_3 ?_
 case hc11_3 => (intro w hSw; exact wideSign_pos y hy H3.out w)
 refine cC ?_ ?_ ?_ ?_ ?hc11_4 ?_
 case hc11_4 => (intro w hSw; exact compare_b (-1) 1 (-1) (by decide) w)
 refine cW ?_ ?_ ?_
 refine calm_end ?_
 intro w2 hS
 have hS := sO hS
 have B0 := B0.y hS
 have B1 := B1.y hS
 have hz2 : w1.heap.size ≤ w2.heap.size := hS.size
 have HB := gS HB hS
 clear hS
 go_wp2_with fail
 go_ret
 exact ⟨rfl, HB⟩
theorem wideCmp_zeron (x y : Int) (hx : Fit x) (hy : Fit y) (h1 : ¬ x < 0) (h2 : y < 0) (h3 : x = 0) (w : World) :
  Calls Tryz.prog 62 #[wI x, wI y] w fun e w' => e = .returned (.int .i64 1) ∧ Below w.heap.size w w' := by
 have H3 := hH h3
 clear h3
 obtain ⟨W0, hW0⟩ : ∃ W0, [.cells #[u64 (lb (tc x) 0), u64 (lb (tc x) 1), u64 (lb (tc x) 2), u64 (lb (tc x) 3)] 60, .cells #[u64 (lb (tc y) 0), u64 (lb (tc y) 1), u64 (lb (tc y) 2), u64 (lb (tc y) 3)] 60].foldl World.alloc w = W0 := ⟨_, rfl⟩
 have B0 : Blk W0 (w.heap.size) (uL (tc x)) 60 := Blk.allocs _ hW0 0 rfl
 have B1 : Blk W0 (w.heap.size + 1) (uL (tc y)) 60 := Blk.allocs _ hW0 1 rfl
 have HB := aB hW0
 have hsz : w.heap.size + 2 ≤ W0.heap.size := aZ hW0
 simp only [List.foldl_cons, List.foldl_nil] at hW0
 have hbx : decide (x < 0) = false := by simpa using h1
 have hby : decide (y < 0) = true := by simpa using h2
 go_enter Tryz.func62, Tryz.ntmps62
 unfold wI U
 go_upto_region 1 with (fail)
 clear hW0
 refine cG ?_
 refine cN ?_
 refine cX ?_ ?_ (by intro wz hSw; obtain ⟨q0, q1, q2, q3⟩ := c4 (B0.y hSw.1); go_simp; all_goals with_reducible rfl) ?_
 refine cC ?_ ?_ ?_ ?_ ?hc12_1 ?_
 case hc12_1 => (intro w hSw; exact wideNeg_b x false hx hbx w)
 refine cX ?_ ?_ (by intro wz hSw; obtain ⟨q0, q1, q2, q3⟩ := c4 (B1.y hSw.1); go_simp; all_goals with_reducible rfl) ?_
 refine cC ?_ ?_ ?_ ?_ ?hc12_3 ?_
 case hc12_3 => (intro w hSw; exact wideNeg_b y true hy hby w)
 refine cW ?_ ?_ ?_
 refine calm_end ?_
 intro w1 hS
 have hS := sO hS
 have B0 := B0.y hS
 have B1 := B1.y hS
 have hz1 : W0.heap.size ≤ w1.heap.size := hS.size
 have HB := gS HB hS
 clear hS
 go_upto_region 2 with (fail)
 refine cG ?_
 refine cN ?_
 refine cX ?_ ?_ (by intro wz hSw; obtain ⟨q0, q1, q2, q3⟩ := c4 (B0.y hSw.1); go_simp; all_goals with_reducible rfl) ?_
 refine cC ?_ ?_ ?_ ?_ ?hc13_1 ?_
 case hc13_1 => (intro w hSw; exact wideSign_zero x hx H3.out w)
 refine cX ?_ ?_ (by intro wz hSw; obtain ⟨q0, q1, q2, q3⟩ := c4 (B1.y hSw.1); go_simp; all_goals with_reducible rfl) ?_
 refine cC ?_ ?_ ?_ ?_ ?hc13_3 ?_
 case hc13_3 => (intro w hSw; exact wideSign_neg y hy h2 w)
 refine cC ?_ ?_ ?_ ?_ ?hc13_4 ?_
 case hc13_4 => (intro w hSw; exact compare_b 0 (-1) 1 (by decide) w)
 refine cW ?_ ?_ ?_
 refine calm_end ?_
 intro w2 hS
 have hS := sO hS
 have B0 := B0.y hS
 have B1 := B1.y hS
 have hz2 : w1.heap.size ≤ w2.heap.size := hS.size
 have HB := gS HB hS
 clear hS
 go_wp2_with fail
 go_ret
 exact ⟨rfl, HB⟩
theorem wideCmp_posn (x y : Int) (hx : Fit x) (hy : Fit y) (h1 : ¬ x < 0) (h2 : y < 0) (h3 : 0 < x) (w : World) :
  Calls Tryz.prog 62 #[wI x, wI y] w fun e w' => e = .returned (.int .i64 1) ∧ Below w.heap.size w w' := by
 have H3 := hH h3
 clear h3
 obtain ⟨W0, hW0⟩ : ∃ W0, [.cells #[u64 (lb (tc x) 0), u64 (lb (tc x) 1), u64 (lb (tc x) 2), u64 (lb (tc x) 3)] 60, .cells #[u64 (lb (tc y) 0), u64 (lb (tc y) 1), u64 (lb (tc y) 2), u64 (lb (tc y) 3)] 60].foldl World.alloc w = W0 := ⟨_, rfl⟩
 have B0 : Blk W0 (w.heap.size) (uL (tc x)) 60 := Blk.allocs _ hW0 0 rfl
 have B1 : Blk W0 (w.heap.size + 1) (uL (tc y)) 60 := Blk.allocs _ hW0 1 rfl
 have HB := aB hW0
 have hsz : w.heap.size + 2 ≤ W0.heap.size := aZ hW0
 simp only [List.foldl_cons, List.foldl_nil] at hW0
 have hbx : decide (x < 0) = false := by simpa using h1
 have hby : decide (y < 0) = true := by simpa using h2
 go_enter Tryz.func62, Tryz.ntmps62
 unfold wI U
 go_upto_region 1 with (fail)
 clear hW0
 refine cG ?_
 refine cN ?_
 refine cX ?_ ?_ (by intro wz hSw; obtain ⟨q0, q1, q2, q3⟩ := c4 (B0.y hSw.1); go_simp; all_goals with_reducible rfl) ?_
 refine cC ?_ ?_ ?_ ?_ ?hc12_1 ?_
 case hc12_1 => (intro w hSw; exact wideNeg_b x false hx hbx w)
 refine cX ?_ ?_ (by intro wz hSw; obtain ⟨q0, q1, q2, q3⟩ := c4 (B1.y hSw.1); go_simp; all_goals with_reducible rfl) ?_
 refine cC ?_ ?_ ?_ ?_ ?hc12_3 ?_
 case hc12_3 => (intro w hSw; exact wideNeg_b y true hy hby w)
 refine cW ?_ ?_ ?_
 refine calm_end ?_
 intro w1 hS
 have hS := sO hS
 have B0 := B0.y hS
 have B1 := B1.y hS
 have hz1 : W0.heap.size ≤ w1.heap.size := hS.size
 have HB := gS HB hS
 clear hS
 go_upto_region 2 with (fail)
 refine cG ?_
 refine cN ?_
 refine cX ?_ ?_ (by intro wz hSw; obtain ⟨q0, q1, q2, q3⟩ := c4 (B0.y hSw.1); go_simp; all_goals with_reducible rfl) ?_
 refine cC ?_ ?_ ?_ ?_ ?hc14_1 ?_
 case hc14_1 => (intro w hSw; exact wideSign_pos x hx H3.out w)
 refine cX ?_ ?_ (by intro wz hSw; obtain ⟨q0, q1, q2, q3⟩ := c4 (B1.y hSw.1); go_simp; all_goals with_reducible rfl) ?_
 refine cC ?_ ?_ ?_ ?_ ?hc14_3 ?_
 case hc14_3 => (intro w hSw; exact wideSign_neg y hy h2 w)
 refine cC ?_ ?_ ?_ ?_ ?hc14_4 ?_
 case hc14_4 => (intro w hSw; exact compare_b 1 (-1) 1 (by decide) w)
 refine cW ?_ ?_ ?_
 refine calm_end ?_
 intro w2 hS
 have hS := sO hS
 have B0 := B0.y hS
 have B1 := B1.y hS
 have hz2 : w1.heap.size ≤ w2.heap.size := hS.size
 have HB := gS HB hS
 clear hS
 go_wp2_with fail
 go_ret
 exact ⟨rfl, HB⟩
theorem wideCmp_eq1 (x y : Int) (hx : Fit x) (hy : Fit y) (h1 : x < 0) (h2 : y < 0) (h3 : x = y) (w : World) :
  Calls Tryz.prog 62 #[wI x, wI y] w fun e w' => e = .returned (.int .i64 0) ∧ Below w.heap.size w w' := by
 obtain ⟨W0, hW0⟩ : ∃ W0, [.cells #[u64 (lb (tc x) 0), u64 (lb (tc x) 1), u64 (lb (tc x) 2), u64 (lb (tc x) 3)] 60, .cells #[u64 (lb (tc y) 0), u64 (lb (tc y) 1), u64 (lb (tc y) 2), u64 (lb (tc y) 3)] 60].foldl World.alloc w = W0 := ⟨_, rfl⟩
 have B0 : Blk W0 (w.heap.size) (uL (tc x)) 60 := Blk.allocs _ hW0 0 rfl
 have B1 : Blk W0 (w.heap.size + 1) (uL (tc y)) 60 := Blk.allocs _ hW0 1 rfl
 have HB := aB hW0
 have hsz : w.heap.size + 2 ≤ W0.heap.size := aZ hW0
 simp only [List.foldl_cons, List.foldl_nil] at hW0
 have hbx : decide (x < 0) = true := by simpa using h1
 have hby : decide (y < 0) = true := by simpa using h2
 have HS : decide (x < 0) = decide (y < 0) := by rw [hbx, hby]
 have he0 : decide (x = y) = true := by simp; omega
 have HS := hH HS
 clear h3
 go_enter Tryz.func62, Tryz.ntmps62
 unfold wI U
 go_upto_region 1 with (fail)
 clear hW0
 refine cG ?_
 refine cN ?_
 refine cX ?_ ?_ (by intro wz hSw; obtain ⟨q0, q1, q2, q3⟩ := c4 (B0.y hSw.1); go_simp; all_goals with_reducible rfl) ?_
 refine cC ?_ ?_ ?_ ?_ ?hc15_1 ?_
 case hc15_1 => (intro w hSw; exact wideNeg_b x true hx hbx w)
 refine cX ?_ ?_ (by intro wz hSw; obtain ⟨q0, q1, q2, q3⟩ := c4 (B1.y hSw.1); go_simp; all_goals with_reducible rfl) ?_
 refine cC ?_ ?_ ?_ ?_ ?hc15_3 ?_
 case hc15_3 => (intro w hSw; exact wideNeg_b y true hy hby w)
 refine cW ?_ ?_ ?_
 refine calm_end ?_
 intro w1 hS
 have hS := sO hS
 have B0 := B0.y hS
 have B1 := B1.y hS
 have hz1 : W0.heap.size ≤ w1.heap.size := hS.size
 have HB := gS HB hS
 clear hS
 go_upto_region 3 with (fail)
 refine cP ?_
 refine cN ?_
 refine cX ?_ ?_ (by intro wz hSw; obtain ⟨q0, q1, q2, q3⟩ := c4 (B0.y hSw.1); go_simp; all_goals with_reducible rfl) ?_
 refine cX ?_ ?_ (by intro wz hSw; obtain ⟨q0, q1, q2, q3⟩ := c4 (B1.y hSw.1); go_simp; all_goals with_reducible rfl) ?_
 refine cX ?_ ?_ (by intro wz hSw; have he := eqIn_I x y hx hy true he0 wz; go_simp; all_goals with_reducible rfl) ?_
 refine cW ?_ ?_ ?_
 refine calm_end ?_
 intro w2 hS
 have hS := sO hS
 have B0 := B0.y hS
 have B1 := B1.y hS
 have hz2 : w1.heap.size ≤ w2.heap.size := hS.size
 have HB := gS HB hS
 clear hS
 go_wp2_with fail
 go_ret
 exact ⟨rfl, HB⟩
theorem wideCmp_lt1 (x y : Int) (hx : Fit x) (hy : Fit y) (h1 : x < 0) (h2 : y < 0) (h3 : x < y) (w : World) :
  Calls Tryz.prog 62 #[wI x, wI y] w fun e w' => e = .returned (.int .i64 (-1)) ∧ Below w.heap.size w w' := by
 obtain ⟨W0, hW0⟩ : ∃ W0, [.cells #[u64 (lb (tc x) 0), u64 (lb (tc x) 1), u64 (lb (tc x) 2), u64 (lb (tc x) 3)] 60, .cells #[u64 (lb (tc y) 0), u64 (lb (tc y) 1), u64 (lb (tc y) 2), u64 (lb (tc y) 3)] 60].foldl World.alloc w = W0 := ⟨_, rfl⟩
 have B0 : Blk W0 (w.heap.size) (uL (tc x)) 60 := Blk.allocs _ hW0 0 rfl
 have B1 : Blk W0 (w.heap.size + 1) (uL (tc y)) 60 := Blk.allocs _ hW0 1 rfl
 have HB := aB hW0
 have hsz : w.heap.size + 2 ≤ W0.heap.size := aZ hW0
 simp only [List.foldl_cons, List.foldl_nil] at hW0
 have hbx : decide (x < 0) = true := by simpa using h1
 have hby : decide (y < 0) = true := by simpa using h2
 have HS : decide (x < 0) = decide (y < 0) := by rw [hbx, hby]
 have he0 : decide (x = y) = false := by simp; omega
 have hl0 : decide (x < y) = true := by simp; omega
 have HS := hH HS
 clear h3
 go_enter Tryz.func62, Tryz.ntmps62
 unfold wI U
 go_upto_region 1 with (fail)
 clear hW0
 refine cG ?_
 refine cN ?_
 refine cX ?_ ?_ (by intro wz hSw; obtain ⟨q0, q1, q2, q3⟩ := c4 (B0.y hSw.1); go_simp; all_goals with_reducible rfl) ?_
 refine cC ?_ ?_ ?_ ?_ ?hc17_1 ?_
 case hc17_1 => (intro w hSw; exact wideNeg_b x true hx hbx w)
 refine cX ?_ ?_ (by intro wz hSw; obtain ⟨q0, q1, q2, q3⟩ := c4 (B1.y hSw.1); go_simp; all_goals with_reducible rfl) ?_
 refine cC ?_ ?_ ?_ ?_ ?hc17_3 ?_
 case hc17_3 => (intro w hSw; exact wideNeg_b y true hy hby w)
 refine cW ?_ ?_ ?_
 refine calm_end ?_
 intro w1 hS
 have hS := sO hS
 have B0 := B0.y hS
 have B1 := B1.y hS
 have hz1 : W0.heap.size ≤ w1.heap.size := hS.size
 have HB := gS HB hS
 clear hS
 go_upto_region 3 with (fail)
 refine cP ?_
 refine cN ?_
 refine cX ?_ ?_ (by intro wz hSw; obtain ⟨q0, q1, q2, q3⟩ := c4 (B0.y hSw.1); go_simp; all_goals with_reducible rfl) ?_
 refine cX ?_ ?_ (by intro wz hSw; obtain ⟨q0, q1, q2, q3⟩ := c4 (B1.y hSw.1); go_simp; all_goals with_reducible rfl) ?_
 refine cX ?_ ?_ (by intro wz hSw; have he := eqIn_I x y hx hy false he0 wz; go_simp; all_goals with_reducible rfl) ?_
 refine cW ?_ ?_ ?_
 refine calm_end ?_
 intro w2 hS
 have hS := sO hS
 have B0 := B0.y hS
 have B1 := B1.y hS
 have hz2 : w1.heap.size ≤ w2.heap.size := hS.size
 have HB := gS HB hS
 clear hS
 go_upto_region 5 with (fail)
 refine cP ?_
 refine cN ?_
 refine cX ?_ ?_ (by intro wz hSw; obtain ⟨q0, q1, q2, q3⟩ := c4 (B0.y hSw.1); go_simp; all_goals with_reducible rfl) ?_
 refine cX ?_ ?_ (by intro wz hSw; obtain ⟨q0, q1, q2, q3⟩ := c4 (B1.y hSw.1); go_simp; all_goals with_reducible rfl) ?_
 refine cC ?_ ?_ ?_ ?_ ?hc19_2 ?_
 case hc19_2 => (intro w hSw; exact wideBelow_b x y true hx hy HS.out hl0 w)
 refine cW ?_ ?_ ?_
 refine calm_end ?_
 intro w3 hS
 have hS := sO hS
 have B0 := B0.y hS
 have B1 := B1.y hS
 have hz3 : w2.heap.size ≤ w3.heap.size := hS.size
 have HB := gS HB hS
 clear hS
 go_wp2_with fail
 go_ret
 exact ⟨rfl, HB⟩
theorem wideCmp_gt1 (x y : Int) (hx : Fit x) (hy : Fit y) (h1 : x < 0) (h2 : y < 0) (h3 : y < x) (w : World) :
  Calls Tryz.prog 62 #[wI x, wI y] w fun e w' => e = .returned (.int .i64 1) ∧ Below w.heap.size w w' := by
 obtain ⟨W0, hW0⟩ : ∃ W0, [.cells #[u64 (lb (tc x) 0), u64 (lb (tc x) 1), u64 (lb (tc x) 2), u64 (lb (tc x) 3)] 60, .cells #[u64 (lb (tc y) 0), u64 (lb (tc y) 1), u64 (lb (tc y) 2), u64 (lb (tc y) 3)] 60].foldl World.alloc w = W0 := ⟨_, rfl⟩
 have B0 : Blk W0 (w.heap.size) (uL (tc x)) 60 := Blk.allocs _ hW0 0 rfl
 have B1 : Blk W0 (w.heap.size + 1) (uL (tc y)) 60 := Blk.allocs _ hW0 1 rfl
 have HB := aB hW0
 have hsz : w.heap.size + 2 ≤ W0.heap.size := aZ hW0
 simp only [List.foldl_cons, List.foldl_nil] at hW0
 have hbx : decide (x < 0) = true := by simpa using h1
 have hby : decide (y < 0) = true := by simpa using h2
 have HS : decide (x < 0) = decide (y < 0) := by rw [hbx, hby]
 have he0 : decide (x = y) = false := by simp; omega
 have hl0 : decide (x < y) = false := by simp; omega
 have HS := hH HS
 clear h3
 go_enter Tryz.func62, Tryz.ntmps62
 unfold wI U
 go_upto_region 1 with (fail)
 clear hW0
 refine cG ?_
 refine cN ?_
 refine cX ?_ ?_ (by intro wz hSw; obtain ⟨q0, q1, q2, q3⟩ := c4 (B0.y hSw.1); go_simp; all_goals with_reducible rfl) ?_
 refine cC ?_ ?_ ?_ ?_ ?hc20_1 ?_
 case hc20_1 => (intro w hSw; exact wideNeg_b x true hx hbx w)
 refine cX ?_ ?_ (by intro wz hSw; obtain ⟨q0, q1, q2, q3⟩ := c4 (B1.y hSw.1); go_simp; all_goals with_reducible rfl) ?_
 refine cC ?_ ?_ ?_ ?_ ?hc20_3 ?_
 case hc20_3 => (intro w hSw; exact wideNeg_b y true hy hby w)
 refine cW ?_ ?_ ?_
 refine calm_end ?_
 intro w1 hS
 have hS := sO hS
 have B0 := B0.y hS
 have B1 := B1.y hS
 have hz1 : W0.heap.size ≤ w1.heap.size := hS.size
 have HB := gS HB hS
 clear hS
 go_upto_region 3 with (fail)
 refine cP ?_
 refine cN ?_
 refine cX ?_ ?_ (by intro wz hSw; obtain ⟨q0, q1, q2, q3⟩ := c4 (B0.y hSw.1); go_simp; all_goals with_reducible rfl) ?_
 refine cX ?_ ?_ (by intro wz hSw; obtain ⟨q0, q1, q2, q3⟩ := c4 (B1.y hSw.1); go_simp; all_goals with_reducible rfl) ?_
 refine cX ?_ ?_ (by intro wz hSw; have he := eqIn_I x y hx hy false he0 wz; go_simp; all_goals with_reducible rfl) ?_
 refine cW ?_ ?_ ?_
 refine calm_end ?_
 intro w2 hS
 have hS := sO hS
 have B0 := B0.y hS
 have B1 := B1.y hS
 have hz2 : w1.heap.size ≤ w2.heap.size := hS.size
 have HB := gS HB hS
 clear hS
 go_upto_region 5 with (fail)
 refine cP ?_
 refine cN ?_
 refine cX ?_ ?_ (by intro wz hSw; obtain ⟨q0, q1, q2, q3⟩ := c4 (B0.y hSw.1); go_simp; all_goals with_reducible rfl) ?_
 refine cX ?_ ?_ (by intro wz hSw; obtain ⟨q0, q1, q2, q3⟩ := c4 (B1.y hSw.1); go_simp; all_goals with_reducible rfl) ?_
 refine cC ?_ ?_ ?_ ?_ ?hc22_2 ?_
 case hc22_2 => (intro w hSw; exact wideBelow_b x y false hx hy HS.out hl0 w)
 refine cW ?_ ?_ ?_
 refine calm_end ?_
 intro w3 hS
 have hS := sO hS
 have B0 := B0.y hS
 have B1 := B1.y hS
 have hz3 : w2.heap.size ≤ w3.heap.size := hS.size
 have HB := gS HB hS
 clear hS
 go_wp2_with fail
 go_ret
 exact ⟨rfl, HB⟩
theorem wideCmp_eq0 (x y : Int) (hx : Fit x) (hy : Fit y) (h1 : ¬ x < 0) (h2 : ¬ y < 0) (h3 : x = y) (w : World) :
  Calls Tryz.prog 62 #[wI x, wI y] w fun e w' => e = .returned (.int .i64 0) ∧ Below w.heap.size w w' := by
 obtain ⟨W0, hW0⟩ : ∃ W0, [.cells #[u64 (lb (tc x) 0), u64 (lb (tc x) 1), u64 (lb (tc x) 2), u64 (lb (tc x) 3)] 60, .cells #[u64 (lb (tc y) 0), u64 (lb (tc y) 1), u64 (lb (tc y) 2), u64 (lb (tc y) 3)] 60].foldl World.alloc w = W0 := ⟨_, rfl⟩
 have B0 : Blk W0 (w.heap.size) (uL (tc x)) 60 := Blk.allocs _ hW0 0 rfl
 have B1 : Blk W0 (w.heap.size + 1) (uL (tc y)) 60 := Blk.allocs _ hW0 1 rfl
 have HB := aB hW0
 have hsz : w.heap.size + 2 ≤ W0.heap.size := aZ hW0
 simp only [List.foldl_cons, List.foldl_nil] at hW0
 have hbx : decide (x < 0) = false := by simpa using h1
 have hby : decide (y < 0) = false := by simpa using h2
 have HS : decide (x < 0) = decide (y < 0) := by rw [hbx, hby]
 have he0 : decide (x = y) = true := by simp; omega
 have HS := hH HS
 clear h3
 go_enter Tryz.func62, Tryz.ntmps62
 unfold wI U
 go_upto_region 1 with (fail)
 clear hW0
 refine cG ?_
 refine cN ?_
 refine cX ?_ ?_ (by intro wz hSw; obtain ⟨q0, q1, q2, q3⟩ := c4 (B0.y hSw.1); go_simp; all_goals with_reducible rfl) ?_
 refine cC ?_ ?_ ?_ ?_ ?hc23_1 ?_
 case hc23_1 => (intro w hSw; exact wideNeg_b x false hx hbx w)
 refine cX ?_ ?_ (by intro wz hSw; obtain ⟨q0, q1, q2, q3⟩ := c4 (B1.y hSw.1); go_simp; all_goals with_reducible rfl) ?_
 refine cC ?_ ?_ ?_ ?_ ?hc23_3 ?_
 case hc23_3 => (intro w hSw; exact wideNeg_b y false hy hby w)
 refine cW ?_ ?_ ?_
 refine calm_end ?_
 intro w1 hS
 have hS := sO hS
 have B0 := B0.y hS
 have B1 := B1.y hS
 have hz1 : W0.heap.size ≤ w1.heap.size := hS.size
 have HB := gS HB hS
 clear hS
 go_upto_region 3 with (fail)
 refine cP ?_
 refine cN ?_
 refine cX ?_ ?_ (by intro wz hSw; obtain ⟨q0, q1, q2, q3⟩ := c4 (B0.y hSw.1); go_simp; all_goals with_reducible rfl) ?_
 refine cX ?_ ?_ (by intro wz hSw; obtain ⟨q0, q1, q2, q3⟩ := c4 (B1.y hSw.1); go_simp; all_goals with_reducible rfl) ?_
 refine cX ?_ ?_ (by intro wz hSw; have he := eqIn_I x y hx hy true he0 wz; go_simp; all_goals with_reducible rfl) ?_
 refine cW ?_ ?_ ?_
 refine calm_end ?_
 intro w2 hS
 have hS := sO hS
 have B0 := B0.y hS
 have B1 := B1.y hS
 have hz2 : w1.heap.size ≤ w2.heap.size := hS.size
 have HB := gS HB hS
 clear hS
 go_wp2_with fail
 go_ret
 exact ⟨rfl, HB⟩
theorem wideCmp_lt0 (x y : Int) (hx : Fit x) (hy : Fit y) (h1 : ¬ x < 0) (h2 : ¬ y < 0) (h3 : x < y) (w : World) :
  Calls Tryz.prog 62 #[wI x, wI y] w fun e w' => e = .returned (.int .i64 (-1)) ∧ Below w.heap.size w w' := by
 obtain ⟨W0, hW0⟩ : ∃ W0, [.cells #[u64 (lb (tc x) 0), u64 (lb (tc x) 1), u64 (lb (tc x) 2), u64 (lb (tc x) 3)] 60, .cells #[u64 (lb (tc y) 0), u64 (lb (tc y) 1), u64 (lb (tc y) 2), u64 (lb (tc y) 3)] 60].foldl World.alloc w = W0 := ⟨_, rfl⟩
 have B0 : Blk W0 (w.heap.size) (uL (tc x)) 60 := Blk.allocs _ hW0 0 rfl
 have B1 : Blk W0 (w.heap.size + 1) (uL (tc y)) 60 := Blk.allocs _ hW0 1 rfl
 have HB := aB hW0
 have hsz : w.heap.size + 2 ≤ W0.heap.size := aZ hW0
 simp only [List.foldl_cons, List.foldl_nil] at hW0
 have hbx : decide (x < 0) = false := by simpa using h1
 have hby : decide (y < 0) = false := by simpa using h2
 have HS : decide (x < 0) = decide (y < 0) := by rw [hbx, hby]
 have he0 : decide (x = y) = false := by simp; omega
 have hl0 : decide (x < y) = true := by simp; omega
 have HS := hH HS
 clear h3
 go_enter Tryz.func62, Tryz.ntmps62
 unfold wI U
 go_upto_region 1 with (fail)
 clear hW0
 refine cG ?_
 refine cN ?_
 refine cX ?_ ?_ (by intro wz hSw; obtain ⟨q0, q1, q2, q3⟩ := c4 (B0.y hSw.1); go_simp; all_goals with_reducible rfl) ?_
 refine cC ?_ ?_ ?_ ?_ ?hc25_1 ?_
 case hc25_1 => (intro w hSw; exact wideNeg_b x false hx hbx w)
 refine cX ?_ ?_ (by intro wz hSw; obtain ⟨q0, q1, q2, q3⟩ := c4 (B1.y hSw.1); go_simp; all_goals with_reducible rfl) ?_
 refine cC ?_ ?_ ?_ ?_ ?hc25_3 ?_
 case hc25_3 => (intro w hSw; exact wideNeg_b y false hy hby w)
 refine cW ?_ ?_ ?_
 refine calm_end ?_
 intro w1 hS
 have hS := sO hS
 have B0 := B0.y hS
 have B1 := B1.y hS
 have hz1 : W0.heap.size ≤ w1.heap.size := hS.size
 have HB := gS HB hS
 clear hS
 go_upto_region 3 with (fail)
 refine cP ?_
 refine cN ?_
 refine cX ?_ ?_ (by intro wz hSw; obtain ⟨q0, q1, q2, q3⟩ := c4 (B0.y hSw.1); go_simp; all_goals with_reducible rfl) ?_
 refine cX ?_ ?_ (by intro wz hSw; obtain ⟨q0, q1, q2, q3⟩ := c4 (B1.y hSw.1); go_simp; all_goals with_reducible rfl) ?_
 refine cX ?_ ?_ (by intro wz hSw; have he := eqIn_I x y hx hy false he0 wz; go_simp; all_goals with_reducible rfl) ?_
 refine cW ?_ ?_ ?_
 refine calm_end ?_
 intro w2 hS
 have hS := sO hS
 have B0 := B0.y hS
 have B1 := B1.y hS
 have hz2 : w1.heap.size ≤ w2.heap.size := hS.size
 have HB := gS HB hS
 clear hS
 go_upto_region 5 with (fail)
 refine cP ?_
 refine cN ?_
 refine cX ?_ ?_ (by intro wz hSw; obtain ⟨q0, q1, q2, q3⟩ := c4 (B0.y hSw.1); go_simp; all_goals with_reducible rfl) ?_
 refine cX ?_ ?_ (by intro wz hSw; obtain ⟨q0, q1, q2, q3⟩ := c4 (B1.y hSw.1); go_simp; all_goals with_reducible rfl) ?_
 refine cC ?_ ?_ ?_ ?_ ?hc27_2 ?_
 case hc27_2 => (intro w hSw; exact wideBelow_b x y true hx hy HS.out hl0 w)
 refine cW ?_ ?_ ?_
 refine calm_end ?_
 intro w3 hS
 have hS := sO hS
 have B0 := B0.y hS
 have B1 := B1.y hS
 have hz3 : w2.heap.size ≤ w3.heap.size := hS.size
 have HB := gS HB hS
 clear hS
 go_wp2_with fail
 go_ret
 exact ⟨rfl, HB⟩
theorem wideCmp_gt0 (x y : Int) (hx : Fit x) (hy : Fit y) (h1 : ¬ x < 0) (h2 : ¬ y < 0) (h3 : y < x) (w : World) :
  Calls Tryz.prog 62 #[wI x, wI y] w fun e w' => e = .returned (.int .i64 1) ∧ Below w.heap.size w w' := by
 obtain ⟨W0, hW0⟩ : ∃ W0, [.cells #[u64 (lb (tc x) 0), u64 (lb (tc x) 1), u64 (lb (tc x) 2), u64 (lb (tc x) 3)] 60, .cells #[u64 (lb (tc y) 0), u64 (lb (tc y) 1), u64 (lb (tc y) 2), u64 (lb (tc y) 3)] 60].foldl World.alloc w = W0 := ⟨_, rfl⟩
 have B0 : Blk W0 (w.heap.size) (uL (tc x)) 60 := Blk.allocs _ hW0 0 rfl
 have B1 : Blk W0 (w.heap.size + 1) (uL (tc y)) 60 := Blk.allocs _ hW0 1 rfl
 have HB := aB hW0
 have hsz : w.heap.size + 2 ≤ W0.heap.size := aZ hW0
 simp only [List.foldl_cons, List.foldl_nil] at hW0
 have hbx : decide (x < 0) = false := by simpa using h1
 have hby : decide (y < 0) = false := by simpa using h2
 have HS : decide (x < 0) = decide (y < 0) := by rw [hbx, hby]
 have he0 : decide (x = y) = false := by simp; omega
 have hl0 : decide (x < y) = false := by simp; omega
 have HS := hH HS
 clear h3
 go_enter Tryz.func62, Tryz.ntmps62
 unfold wI U
 go_upto_region 1 with (fail)
 clear hW0
 refine cG ?_
 refine cN ?_
 refine cX ?_ ?_ (by intro wz hSw; obtain ⟨q0, q1, q2, q3⟩ := c4 (B0.y hSw.1); go_simp; all_goals with_reducible rfl) ?_
 refine cC ?_ ?_ ?_ ?_ ?hc28_1 ?_
 case hc28_1 => (intro w hSw; exact wideNeg_b x false hx hbx w)
 refine cX ?_ ?_ (by intro wz hSw; obtain ⟨q0, q1, q2, q3⟩ := c4 (B1.y hSw.1); go_simp; all_goals with_reducible rfl) ?_
 refine cC ?_ ?_ ?_ ?_ ?hc28_3 ?_
 case hc28_3 => (intro w hSw; exact wideNeg_b y false hy hby w)
 refine cW ?_ ?_ ?_
 refine calm_end ?_
 intro w1 hS
 have hS := sO hS
 have B0 := B0.y hS
 have B1 := B1.y hS
 have hz1 : W0.heap.size ≤ w1.heap.size := hS.size
 have HB := gS HB hS
 clear hS
 go_upto_region 3 with (fail)
 refine cP ?_
 refine cN ?_
 refine cX ?_ ?_ (by intro wz hSw; obtain ⟨q0, q1, q2, q3⟩ := c4 (B0.y hSw.1); go_simp; all_goals with_reducible rfl) ?_
 refine cX ?_ ?_ (by intro wz hSw; obtain ⟨q0, q1, q2, q3⟩ := c4 (B1.y hSw.1); go_simp; all_goals with_reducible rfl) ?_
 refine cX ?_ ?_ (by intro wz hSw; have he := eqIn_I x y hx hy false he0 wz; go_simp; all_goals with_reducible rfl) ?_
 refine cW ?_ ?_ ?_
 refine calm_end ?_
 intro w2 hS
 have hS := sO hS
 have B0 := B0.y hS
 have B1 := B1.y hS
 have hz2 : w1.heap.size ≤ w2.heap.size := hS.size
 have HB := gS HB hS
 clear hS
 go_upto_region 5 with (fail)
 refine cP ?_
 refine cN ?_
 refine cX ?_ ?_ (by intro wz hSw; obtain ⟨q0, q1, q2, q3⟩ := c4 (B0.y hSw.1); go_simp; all_goals with_reducible rfl) ?_
 refine cX ?_ ?_ (by intro wz hSw; obtain ⟨q0, q1, q2, q3⟩ := c4 (B1.y hSw.1); go_simp; all_goals with_reducible rfl) ?_
 refine cC ?_ ?_ ?_ ?_ ?hc30_2 ?_
 case hc30_2 => (intro w hSw; exact wideBelow_b x y false hx hy HS.out hl0 w)
 refine cW ?_ ?_ ?_
 refine calm_end ?_
 intro w3 hS
 have hS := sO hS
 have B0 := B0.y hS
 have B1 := B1.y hS
 have hz3 : w2.heap.size ≤ w3.heap.size := hS.size
 have HB := gS HB hS
 clear hS
 go_wp2_with fail
 go_ret
 exact ⟨rfl, HB⟩
theorem wideCmp_any (x y : Int) (hx : Fit x) (hy : Fit y) (w : World) :
  Calls Tryz.prog 62 #[wI x, wI y] w fun e w' => e = .returned (.int .i64 (cmpI x y)) ∧ Below w.heap.size w w' := by
 unfold cmpI
 by_cases h1 : x < 0
 ·by_cases h2 : y < 0
  ·by_cases h : x < y
   ·rw [if_pos h]; exact wideCmp_lt1 x y hx hy h1 h2 h w
   ·rw [if_neg h]
    by_cases he : x = y
    ·rw [if_pos he]; exact wideCmp_eq1 x y hx hy h1 h2 he w
    ·rw [if_neg he]; exact wideCmp_gt1 x y hx hy h1 h2 (by omega) w
  ·rw [if_pos (by omega)]
   by_cases h : y = 0
   ·exact wideCmp_nzero x y hx hy h1 h2 h w
   ·exact wideCmp_npos x y hx hy h1 h2 (by omega) w
 ·by_cases h2 : y < 0
  ·rw [if_neg (by omega), if_neg (by omega)]
   by_cases h : x = 0
   ·exact wideCmp_zeron x y hx hy h1 h2 h w
   ·exact wideCmp_posn x y hx hy h1 h2 (by omega) w
  ·by_cases h : x < y
   ·rw [if_pos h]; exact wideCmp_lt0 x y hx hy h1 h2 h w
   ·rw [if_neg h]
    by_cases he : x = y
    ·rw [if_pos he]; exact wideCmp_eq0 x y hx hy h1 h2 he w
    ·rw [if_neg he]; exact wideCmp_gt0 x y hx hy h1 h2 (by omega) w
theorem tc_small {n : Int} (h1 : -9223372036854775808 ≤ n) (h2 : n ≤ 9223372036854775807) : IntKind.i64.wrap ((lb (tc n) 0 : Nat) : Int) = n := by
 have h := tc_cast n
 unfold lb
 rw [IntKind.wrap_i64]
 simp only [B, B4, Nat.reducePow, Nat.div_one] at h ⊢
 omega
theorem wideSmall_any (n : Int) (h1 : -9223372036854775808 ≤ n) (h2 : n ≤ 9223372036854775807) (w : World) :
  Calls Tryz.prog 94 #[wI n] w fun e w' => e = .returned (.tuple #[.int .i64 n, .bool true]) ∧ Below w.heap.size w w' := by
 obtain ⟨W0, hW0⟩ : ∃ W0, [.cells #[u64 (lb (tc n) 0), u64 (lb (tc n) 1), u64 (lb (tc n) 2), u64 (lb (tc n) 3)] 60].foldl World.alloc w = W0 := ⟨_, rfl⟩
 have B0 : Blk W0 (w.heap.size) (uL (tc n)) 60 := Blk.allocs _ hW0 0 rfl
 have HB := aB hW0
 have hsz : w.heap.size + 1 ≤ W0.heap.size := aZ hW0
 simp only [List.foldl_cons, List.foldl_nil] at hW0
 have hw := tc_small h1 h2
 have hn : Fit n := by unfold Fit; simp only [H4]; omega
 go_enter Tryz.func94, Tryz.ntmps94
 unfold wI U
 go_upto_region 1 with (fail)
 clear hW0
 refine cP ?_
 refine cN ?_
 refine cW ?_ ?_ ?_
 refine cX ?_ ?_ (by intro wz hSw; obtain ⟨q0, q1, q2, q3⟩ := c4 (B0.y hSw.1); go_simp; all_goals with_reducible rfl) ?_
 refine cW ?_ ?_ ?_
 refine cW ?_ ?_ ?_
 refine calm_end ?_
 intro w1 hS
 have hS := sO hS
 have B0 := B0.y hS
 have hz1 : W0.heap.size ≤ w1.heap.size := hS.size
 have HB := gS HB hS
 clear hS
 go_upto_region 2 with (fail)
 refine cG ?_
 refine cN ?_
 refine cW ?_ ?_ ?_
 refine cC ?_ ?_ ?_ ?_ ?hc32_1 ?_
 case hc32_1 => (intro w hSw; exact wideOf_any n h1 h2 w)
 refine cX ?_ ?_ (by intro wz hSw; obtain ⟨q0, q1, q2, q3⟩ := c4 (B0.y hSw.1); go_simp; all_goals with_reducible rfl) ?_
 refine cX ?_ ?_ (by intro wz hSw; have he := eqIn_I n n hn hn true (by simp) wz; go_simp; all_goals with_reducible rfl) ?_
 refine calm_end ?_
 intro w2 hS
 have hS := sO hS
 have B0 := B0.y hS
 have hz2 : w1.heap.size ≤ w2.heap.size := hS.size
 have HB := gS HB hS
 clear hS
 go_wp2_with fail
 go_ret2
 exact ⟨rfl, HB⟩
end Go.Proofs.YthbplhglfjlngaaGreat
namespace Go.Wd
open Go
def lowB : List Int → Int → Nat
 | [], _ => 0
 | x :: r, k => if x < k then lowB r k + 1 else 0
def Rising (ks : List Int) : Prop := ∀ (i j : Nat) (x y : Int), i ≤ j → ks[i]? = some x → ks[j]? = some y → x ≤ y
theorem Rising.tail {x : Int} {r : List Int} (h : Rising (x :: r)) : Rising r := fun i j a b hij hi hj => h (i + 1) (j + 1) a b (by omega) (by simpa using hi) (by simpa using hj)
theorem lowB_le : ∀ (ks : List Int) (k : Int), lowB ks k ≤ ks.length
 | [], _ => Nat.le_refl _
 | x :: r, k => by
  have := lowB_le r k
  unfold lowB; split
  ·simp; omega
  ·omega
theorem lowB_lt : ∀ (ks : List Int) (k : Int), Rising ks → ∀ i x, ks[i]? = some x → (x < k ↔ i < lowB ks k)
 | [], k, _, i, x, h => by simp at h
 | y :: r, k, hr, i, x, h => by
  unfold lowB
  by_cases hy : y < k
  ·rw [if_pos hy]
   cases i with
   | zero => simp at h; subst h; simp [hy]
   | succ i =>
    have := lowB_lt r k hr.tail i x (by simpa using h)
    rw [this]; omega
  ·rw [if_neg hy]
   have := hr 0 i y x (by omega) rfl h
   constructor <;> intro h2 <;> omega
end Go.Wd
