/- The product of two numbers of four words, row by row: plain laws. No program in sight. -/
import Derived.Test.YtlkhneiccjhgdaaGreatGRa
import Derived.Test.YtlkhneiccjhgdaaGreatGRb
import Derived.Deep.Cut
import Derived.Test.YtlkhneiccjhgdaaGreatGRh
import Derived.Deep.LoopGhost
import Derived.BigFrame
import Derived.IntWalk
set_option linter.unusedVariables false
set_option linter.unusedSimpArgs false
set_option maxRecDepth 100000
namespace Go.Wd
open Go
def cmpI (x y : Int) : Int := if x < y then -1 else if x = y then 0 else 1
theorem lb_parts (n : Nat) (h : n < B4) : n = lb n 0 + 18446744073709551616 * lb n 1 + 340282366920938463463374607431768211456 * lb n 2 + 6277101735386680763835789423207666416102355444464034512896 * lb n 3 := by
 have e : n % B4 = n := Nat.mod_eq_of_lt h
 have e2 : B4 = B ^ (3 + 1) := by decide
 have key : n % B4 = lb n 0 + B * lb n 1 + B ^ 2 * lb n 2 + B ^ 3 * lb n 3 := by
  rw [e2, mod_succ, show (3 : Nat) = 2 + 1 from rfl, mod_succ, show (2 : Nat) = 1 + 1 from rfl, mod_succ, show (1 : Nat) = 0 + 1 from rfl, mod_succ]
  simp [Nat.mod_one]
 rw [e] at key
 simp only [B, Nat.reducePow] at key
 exact key
def Hi (a b q : Nat) : Prop := ∀ j, q ≤ j → j < 4 → lb a j = lb b j
theorem hi_lt {a b q : Nat} (ha : a < B4) (hb : b < B4) (hq : q < 4) (h : Hi a b (q + 1)) (hne : lb a q ≠ lb b q) : decide (a < b) = decide (lb a q < lb b q) := by
 have pa := lb_parts a ha
 have pb := lb_parts b hb
 have a0 := lb_lt a 0
 have a1 := lb_lt a 1
 have a2 := lb_lt a 2
 have a3 := lb_lt a 3
 have b0 := lb_lt b 0
 have b1 := lb_lt b 1
 have b2 := lb_lt b 2
 have b3 := lb_lt b 3
 simp only [B] at a0 a1 a2 a3 b0 b1 b2 b3
 rw [decide_eq_decide]
 have : q = 0 ∨ q = 1 ∨ q = 2 ∨ q = 3 := by omega
 rcases this with rfl | rfl | rfl | rfl
 ·have h1 := h 1 (by omega) (by omega); have h2 := h 2 (by omega) (by omega); have h3 := h 3 (by omega) (by omega); omega
 ·have h2 := h 2 (by omega) (by omega); have h3 := h 3 (by omega) (by omega); omega
 ·have h3 := h 3 (by omega) (by omega); omega
 ·omega
theorem hi_eq {a b : Nat} (ha : a < B4) (hb : b < B4) (h : Hi a b 0) : decide (a < b) = false := by
 have pa := lb_parts a ha
 have pb := lb_parts b hb
 rw [h 0 (by omega) (by omega), h 1 (by omega) (by omega), h 2 (by omega) (by omega), h 3 (by omega) (by omega)] at pa
 simp; omega
theorem hi_step {a b q : Nat} (h : Hi a b (q + 1)) (he : lb a q = lb b q) : Hi a b q := fun j h1 h2 => by
 by_cases e : j = q
 ·rw [e]; exact he
 ·exact h j (by omega) h2
theorem hi_top (a b : Nat) : Hi a b 4 := fun j h1 h2 => by omega
theorem tc_lt_iff {x y : Int} (hx : Fit x) (hy : Fit y) (h : decide (x < 0) = decide (y < 0)) : decide (tc x < tc y) = decide (x < y) := by
 have h1 := tc_cast x
 have h2 := tc_cast y
 unfold Fit at hx hy
 rw [decide_eq_decide] at h ⊢
 simp only [B4, H4] at h1 h2 hx hy
 omega
end Go.Wd
namespace Go.Proofs.YtlkhneiccjhgdaaGreat
open Go.RowKit Go.Rg Go.Wd
attribute [local go_sem] Oper.semAt_some
theorem wideSign_neg (x : Int) (hx : Fit x) (h : x < 0) (w : World) :
  Calls Tryz.prog 147 #[wI x] w fun e w' => e = .returned (.int .i64 (-1)) ∧ Below w.heap.size w w' := by
 obtain ⟨W0, hW0⟩ : ∃ W0, [.cells #[u64 (lb (tc x) 0), u64 (lb (tc x) 1), u64 (lb (tc x) 2), u64 (lb (tc x) 3)] 76].foldl World.alloc w = W0 := ⟨_, rfl⟩
 have B0 : Blk W0 (w.heap.size) (uL (tc x)) 76 := Blk.allocs _ hW0 0 rfl
 have HB := aB hW0
 have hsz : w.heap.size + 1 ≤ W0.heap.size := aZ hW0
 simp only [List.foldl_cons, List.foldl_nil] at hW0
 have hb : decide (x < 0) = true := by simpa using h
 go_enter Tryz.func147, Tryz.ntmps147
 unfold wI U
 go_upto_region 1 with (fail)
 clear hW0
 refine cP ?_
 refine cN ?_
 refine cX ?_ ?_ (by intro wz hSw; obtain ⟨q0, q1, q2, q3⟩ := c4 (B0.y hSw.1); go_simp; all_goals with_reducible rfl) ?_
 refine cC ?_ ?_ ?_ ?_ ?hc1_1 ?_
 case hc1_1 => (intro w hSw; exact wideNeg_b x true hx hb w)
 refine cW ?_ ?_ ?_
 refine calm_end ?_
 intro w1 hS
 have hS := sO hS
 have B0 := B0.y hS
 have hz1 : W0.heap.size ≤ w1.heap.size := hS.size
 have HB := gS HB hS
 clear hS
 go_wp2_with fail
 go_ret
 exact ⟨rfl, HB⟩
theorem wideSign_zero (x : Int) (hx : Fit x) (h : x = 0) (w : World) :
  Calls Tryz.prog 147 #[wI x] w fun e w' => e = .returned (.int .i64 0) ∧ Below w.heap.size w w' := by
 obtain ⟨W0, hW0⟩ : ∃ W0, [.cells #[u64 (lb (tc x) 0), u64 (lb (tc x) 1), u64 (lb (tc x) 2), u64 (lb (tc x) 3)] 76].foldl World.alloc w = W0 := ⟨_, rfl⟩
 have B0 : Blk W0 (w.heap.size) (uL (tc x)) 76 := Blk.allocs _ hW0 0 rfl
 have HB := aB hW0
 have hsz : w.heap.size + 1 ≤ W0.heap.size := aZ hW0
 simp only [List.foldl_cons, List.foldl_nil] at hW0
 have hb : decide (x < 0) = false := by simp; omega
 have he0 : decide (x = 0) = true := by simp; omega
 clear h
 go_enter Tryz.func147, Tryz.ntmps147
 unfold wI U
 go_upto_region 1 with (fail)
 clear hW0
 refine cP ?_
 refine cN ?_
 refine cX ?_ ?_ (by intro wz hSw; obtain ⟨q0, q1, q2, q3⟩ := c4 (B0.y hSw.1); go_simp; all_goals with_reducible rfl) ?_
 refine cC ?_ ?_ ?_ ?_ ?hc2_1 ?_
 case hc2_1 => (intro w hSw; exact wideNeg_b x false hx hb w)
 refine cW ?_ ?_ ?_
 refine calm_end ?_
 intro w1 hS
 have hS := sO hS
 have B0 := B0.y hS
 have hz1 : W0.heap.size ≤ w1.heap.size := hS.size
 have HB := gS HB hS
 clear hS
 go_upto_region 3 with (fail)
 refine cP ?_
 refine cN ?_
 refine cX ?_ ?_ (by intro wz hSw; obtain ⟨q0, q1, q2, q3⟩ := c4 (B0.y hSw.1); go_simp; all_goals with_reducible rfl) ?_
 refine cW ?_ ?_ ?_
 refine cX ?_ ?_ (by intro wz hSw; have he := eqIn_Z x hx true he0 wz; go_simp; all_goals with_reducible rfl) ?_
 refine cW ?_ ?_ ?_
 refine calm_end ?_
 intro w2 hS
 have hS := sO hS
 have B0 := B0.y hS
 have hz2 : w1.heap.size ≤ w2.heap.size := hS.size
 have HB := gS HB hS
 clear hS
 go_wp2_with fail
 go_ret
 exact ⟨rfl, HB⟩
theorem wideSign_pos (x : Int) (hx : Fit x) (h : 0 < x) (w : World) :
  Calls Tryz.prog 147 #[wI x] w fun e w' => e = .returned (.int .i64 1) ∧ Below w.heap.size w w' := by
 obtain ⟨W0, hW0⟩ : ∃ W0, [.cells #[u64 (lb (tc x) 0), u64 (lb (tc x) 1), u64 (lb (tc x) 2), u64 (lb (tc x) 3)] 76].foldl World.alloc w = W0 := ⟨_, rfl⟩
 have B0 : Blk W0 (w.heap.size) (uL (tc x)) 76 := Blk.allocs _ hW0 0 rfl
 have HB := aB hW0
 have hsz : w.heap.size + 1 ≤ W0.heap.size := aZ hW0
 simp only [List.foldl_cons, List.foldl_nil] at hW0
 have hb : decide (x < 0) = false := by simp; omega
 have he0 : decide (x = 0) = false := by simp; omega
 clear h
 go_enter Tryz.func147, Tryz.ntmps147
 unfold wI U
 go_upto_region 1 with (fail)
 clear hW0
 refine cP ?_
 refine cN ?_
 refine cX ?_ ?_ (by intro wz hSw; obtain ⟨q0, q1, q2, q3⟩ := c4 (B0.y hSw.1); go_simp; all_goals with_reducible rfl) ?_
 refine cC ?_ ?_ ?_ ?_ ?hc4_1 ?_
 case hc4_1 => (intro w hSw; exact wideNeg_b x false hx hb w)
 refine cW ?_ ?_ ?_
 refine calm_end ?_
 intro w1 hS
 have hS := sO hS
 have B0 := B0.y hS
 have hz1 : W0.heap.size ≤ w1.heap.size := hS.size
 have HB := gS HB hS
 clear hS
 go_upto_region 3 with (fail)
 refine cP ?_
 refine cN ?_
 refine cX ?_ ?_ (by intro wz hSw; obtain ⟨q0, q1, q2, q3⟩ := c4 (B0.y hSw.1); go_simp; all_goals with_reducible rfl) ?_
 refine cW ?_ ?_ ?_
 refine cX ?_ ?_ (by intro wz hSw; have he := eqIn_Z x hx false he0 wz; go_simp; all_goals with_reducible rfl) ?_
 refine cW ?_ ?_ ?_
 refine calm_end ?_
 intro w2 hS
 have hS := sO hS
 have B0 := B0.y hS
 have hz2 : w1.heap.size ≤ w2.heap.size := hS.size
 have HB := gS HB hS
 clear hS
 go_wp2_with fail
 go_ret
 exact ⟨rfl, HB⟩
theorem wideSign_any (x : Int) (hx : Fit x) (w : World) :
  Calls Tryz.prog 147 #[wI x] w fun e w' => e = .returned (.int .i64 (cmpI x 0)) ∧ Below w.heap.size w w' := by
 unfold cmpI
 by_cases h : x < 0
 ·rw [if_pos h]; exact wideSign_neg x hx h w
 ·rw [if_neg h]
  by_cases h0 : x = 0
  ·rw [if_pos h0]; exact wideSign_zero x hx h0 w
  ·rw [if_neg h0]; exact wideSign_pos x hx (by omega) w
theorem wideBelow_any (a b : Nat) (ha : a < B4) (hb : b < B4) (w : World) :
  Calls Tryz.prog 201 #[U a, U b] w fun e w' => e = .returned (.bool (decide (a < b))) ∧ Below w.heap.size w w' := by
 obtain ⟨W0, hW0⟩ : ∃ W0, [.cells #[u64 (lb a 0), u64 (lb a 1), u64 (lb a 2), u64 (lb a 3)] 76, .cells #[u64 (lb b 0), u64 (lb b 1), u64 (lb b 2), u64 (lb b 3)] 76].foldl World.alloc w = W0 := ⟨_, rfl⟩
 have B0 : Blk W0 (w.heap.size) (uL a) 76 := Blk.allocs _ hW0 0 rfl
 have B1 : Blk W0 (w.heap.size + 1) (uL b) 76 := Blk.allocs _ hW0 1 rfl
 have HB := aB hW0
 have hsz : w.heap.size + 2 ≤ W0.heap.size := aZ hW0
 simp only [List.foldl_cons, List.foldl_nil] at hW0
 have HA := hH ha
 have HA2 := hH hb
 clear ha hb
 unfold U
 go_enter Tryz.func201, Tryz.ntmps201
 go_wp2_with fail
 go_loopg [5] 4 (fun q s5 wx => q ≤ 4 ∧ s5 = .int .i64 ((q : Int) - 1) ∧ Hid (Hi a b q) ∧ Hid (Blk wx w.heap.size (uL a) 76) ∧ Hid (Blk wx (w.heap.size + 1) (uL b) 76) ∧ Hid (Below w.heap.size w wx) ∧ w.heap.size ≤ wx.heap.size)
 case atStart => exact ⟨by omega, rfl, hi_top a b, B0, B1, HB, HB.size⟩
 case round =>
  clear B0 B1 HB hsz hW0
  obtain ⟨hq4, rfl, Hh, H0, H1, HB, hsz⟩ := hrel
  cases gk with
  | zero =>
   have HE := hH (hi_eq HA.out HA2.out Hh.out)
   go_wp2_with fail
   go_ret
   exact ⟨by rw [HE.out]; rfl, HB.out⟩
  | succ q =>
   have hq : q < 4 := by omega
   have t1 : (0 : Int) ≤ (q : Int) := by omega
   have t2 : (q : Int) < 4 := by omega
   have e1 : ((q + 1 : Nat) : Int) - 1 = (q : Int) := by omega
   have B0 := H0.out
   have B1 := H1.out
   have HB := HB.out
   clear H0 H1
   rw [e1]
   by_cases hne : lb a q = lb b q
   ·have HS := hH (hi_step Hh.out hne)
    have s1 : ((lb a q : Int) != (lb b q : Int)) = false := by rw [hne]; simp
    have s2 : ((lb a q : Int) == (lb b q : Int)) = true := by rw [hne]; simp
    clear Hh hne
    go_upto_region 4 with (fail)
    refine cG ?_
    refine cN ?_
    refine cW ?_ ?_ ?_
    refine cW ?_ ?_ ?_
    refine cX ?_ ?_ (by intro wz hSw; have q0 := (B0.y hSw.1).cell (uL_at a q hq); go_simp; all_goals with_reducible rfl) ?_
    refine cW ?_ ?_ ?_
    refine cW ?_ ?_ ?_
    refine cX ?_ ?_ (by intro wz hSw; have q0 := (B1.y hSw.1).cell (uL_at b q hq); go_simp; all_goals with_reducible rfl) ?_
    refine cW ?_ ?_ ?_
    refine calm_end ?_
    intro w1 hS
    have hS := sO hS
    have B0 := B0.y hS
    have B1 := B1.y hS
    have hz1 : wr.heap.size ≤ w1.heap.size := hS.size
    have HB := gS HB hS
    clear hS
    go_wp2_with fail
    go_roundg q
    case measure => omega
    case rel => exact ⟨by omega, rfl, HS, B0, B1, HB, by omega⟩
   ·have HS := hH (hi_lt HA.out HA2.out hq Hh.out hne)
    have s1 : ((lb a q : Int) != (lb b q : Int)) = true := by simpa [bne_iff_ne] using fun h => hne (by omega)
    have s2 : ((lb a q : Int) == (lb b q : Int)) = false := by simpa using fun h => hne (by omega)
    clear Hh hne
    go_upto_region 4 with (fail)
    refine cG ?_
    refine cN ?_
    refine cW ?_ ?_ ?_
    refine cW ?_ ?_ ?_
    refine cX ?_ ?_ (by intro wz hSw; have q0 := (B0.y hSw.1).cell (uL_at a q hq); go_simp; all_goals with_reducible rfl) ?_
    refine cW ?_ ?_ ?_
    refine cW ?_ ?_ ?_
    refine cX ?_ ?_ (by intro wz hSw; have q0 := (B1.y hSw.1).cell (uL_at b q hq); go_simp; all_goals with_reducible rfl) ?_
    refine cW ?_ ?_ ?_
    refine calm_end ?_
    intro w1 hS
    have hS := sO hS
    have B0 := B0.y hS
    have B1 := B1.y hS
    have hz1 : wr.heap.size ≤ w1.heap.size := hS.size
    have HB := gS HB hS
    clear hS
    go_upto_region 5 with (fail)
    refine cG ?_
    refine cN ?_
    refine cW ?_ ?_ ?_
    refine cW ?_ ?_ ?_
    refine cX ?_ ?_ (by intro wz hSw; have q0 := (B0.y hSw.1).cell (uL_at a q hq); go_simp; all_goals with_reducible rfl) ?_
    refine cW ?_ ?_ ?_
    refine cW ?_ ?_ ?_
    refine cX ?_ ?_ (by intro wz hSw; have q0 := (B1.y hSw.1).cell (uL_at b q hq); go_simp; all_goals with_reducible rfl) ?_
    refine cW ?_ ?_ ?_
    refine cW ?_ ?_ ?_
    refine calm_end ?_
    intro w2 hS
    have hS := sO hS
    have B0 := B0.y hS
    have B1 := B1.y hS
    have hz2 : w1.heap.size ≤ w2.heap.size := hS.size
    have HB := gS HB hS
    clear hS
    go_wp2_with fail
    go_ret
    exact ⟨by rw [HS.out]; simp, HB⟩
theorem compare_b (x y r : Int) (h : Lib.compareInt x y = r) (w : World) : Calls Tryz.prog 141 #[.int .i64 x, .int .i64 y] w fun e w' => e = .returned (.int .i64 r) ∧ Below w.heap.size w w' :=
 (Tryz.cmp_Compare_int x y w).mono fun _ _ ⟨h1, h2⟩ => ⟨by rw [h1, h], by rw [h2]; exact Below.refl _ _⟩
theorem wideBelow_b (x y : Int) (b : Bool) (hx : Fit x) (hy : Fit y) (hs : decide (x < 0) = decide (y < 0)) (h : decide (x < y) = b) (w : World) :
  Calls Tryz.prog 201 #[wI x, wI y] w fun e w' => e = .returned (.bool b) ∧ Below w.heap.size w w' := by
 rw [← h, ← tc_lt_iff hx hy hs]; exact wideBelow_any _ _ (tc_lt x) (tc_lt y) w
theorem wideCmp_nzero (x y : Int) (hx : Fit x) (hy : Fit y) (h1 : x < 0) (h2 : ¬ y < 0) (h3 : y = 0) (w : World) :
  Calls Tryz.prog 148 #[wI x, wI y] w fun e w' => e = .returned (.int .i64 (-1)) ∧ Below w.heap.size w w' := by
 have H3 := hH h3
 clear h3
 obtain ⟨W0, hW0⟩ : ∃ W0, [.cells #[u64 (lb (tc x) 0), u64 (lb (tc x) 1), u64 (lb (tc x) 2), u64 (lb (tc x) 3)] 76, .cells #[u64 (lb (tc y) 0), u64 (lb (tc y) 1), u64 (lb (tc y) 2), u64 (lb (tc y) 3)] 76].foldl World.alloc w = W0 := ⟨_, rfl⟩
 have B0 : Blk W0 (w.heap.size) (uL (tc x)) 76 := Blk.allocs _ hW0 0 rfl
 have B1 : Blk W0 (w.heap.size + 1) (uL (tc y)) 76 := Blk.allocs _ hW0 1 rfl
 have HB := aB hW0
 have hsz : w.heap.size + 2 ≤ W0.heap.size := aZ hW0
 simp only [List.foldl_cons, List.foldl_nil] at hW0
 have hbx : decide (x < 0) = true := by simpa using h1
 have hby : decide (y < 0) = false := by simpa using h2
 go_enter Tryz.func148, Tryz.ntmps148
 unfold wI U
 go_upto_region 1 with (fail)
 clear hW0
 refine cG ?_
 refine cN ?_
 refine cX ?_ ?_ (by intro wz hSw; obtain ⟨q0, q1, q2, q3⟩ := c4 (B0.y hSw.1); go_simp; all_goals with_reducible rfl) ?_
 refine cC ?_ ?_ ?_ ?_ ?hc9_1 ?_
 case hc9_1 => (intro w hSw; exact wideNeg_b x true hx hbx w)
 refine cX ?_ ?_ (by intro wz hSw; obtain ⟨q0, q1, q2, q3⟩ := c4 (B1.y hSw.1); go_simp; all_goals with_reducible rfl) ?_
 refine cC ?_ ?_ ?_ ?_ ?hc9_3 ?_
 case hc9_3 => (intro w hSw; exact wideNeg_b y false hy hby w)
 refine cW ?_ ?_ ?_
 refine calm_end ?_
 intro w1 hS
 have hS := sO hS
 have B0 := B0.y hS
 have B1 := B1.y hS
 have hz1 : W0.heap.size ≤ w1.heap.size := hS.size
 have HB := gS HB hS
 clear hS
 go_upto_region 2 with (fail)
 refine cG ?_
 refine cN ?_
 refine cX ?_ ?_ (by intro wz hSw; obtain ⟨q0, q1, q2, q3⟩ := c4 (B0.y hSw.1); go_simp; all_goals with_reducible rfl) ?_
 refine cC ?_ ?_ ?_ ?_ ?hc10_1 ?_
 case hc10_1 => (intro w hSw; exact wideSign_neg x hx h1 w)
 refine cX ?_ ?_ (by intro wz hSw; obtain ⟨q0, q1, q2, q3⟩ := c4 (B1.y hSw.1); go_simp; all_goals with_reducible rfl) ?_
 refine cC ?_ ?_ ?_ ?_ ?hc10_3 ?_
 case hc10_3 => (intro w hSw; exact wideSign_zero y hy H3.out w)
 refine cC ?_ ?_ ?_ ?_ ?hc10_4 ?_
 case hc10_4 => (intro w hSw; exact compare_b (-1) 0 (-1) (by decide) w)
 refine cW ?_ ?_ ?_
 refine calm_end ?_
 intro w2 hS
 have hS := sO hS
 have B0 := B0.y hS
 have B1 := B1.y hS
 have hz2 : w1.heap.size ≤ w2.heap.size := hS.size
 have HB := gS HB hS
 clear hS
 go_wp2_with fail
 go_ret
 exact ⟨rfl, HB⟩
theorem wideCmp_npos (x y : Int) (hx : Fit x) (hy : Fit y) (h1 : x < 0) (h2 : ¬ y < 0) (h3 : 0 < y) (w : World) :
  Calls Tryz.prog 148 #[wI x, wI y] w fun e w' => e = .returned (.int .i64 (-1)) ∧ Below w.heap.size w w' := by
 have H3 := hH h3
 clear h3
 obtain ⟨W0, hW0⟩ : ∃ W0, [.cells #[u64 (lb (tc x) 0), u64 (lb (tc x) 1), u64 (lb (tc x) 2), u64 (lb (tc x) 3)] 76, .cells #[u64 (lb (tc y) 0), u64 (lb (tc y) 1), u64 (lb (tc y) 2), u64 (lb (tc y) 3)] 76].foldl World.alloc w = W0 := ⟨_, rfl⟩
 have B0 : Blk W0 (w.heap.size) (uL (tc x)) 76 := Blk.allocs _ hW0 0 rfl
 have B1 : Blk W0 (w.heap.size + 1) (uL (tc y)) 76 := Blk.allocs _ hW0 1 rfl
 have HB := aB hW0
 have hsz : w.heap.size + 2 ≤ W0.heap.size := aZ hW0
 simp only [List.foldl_cons, List.foldl_nil] at hW0
 have hbx : decide (x < 0) = true := by simpa using h1
 have hby : decide (y < 0) = false := by simpa using h2
 go_enter Tryz.func148, Tryz.ntmps148
 unfold wI U
 go_upto_region 1 with (fail)
 clear hW0
 refine cG ?_
 refine cN ?_
 refine cX ?_ ?_ (by intro wz hSw; obtain ⟨q0, q1, q2, q3⟩ := c4 (B0.y hSw.1); go_simp; all_goals with_reducible rfl) ?_
 refine cC ?_ ?_ ?_ ?_ ?hc9_1 ?_
 case hc9_1 => (intro w hSw; exact wideNeg_b x true hx hbx w)
 refine cX ?_ ?_ (by intro wz hSw; obtain ⟨q0, q1, q2, q3⟩ := c4 (B1.y hSw.1); go_simp; all_goals with_reducible rfl) ?_
 refine cC ?_ ?_ ?_ ?_ ?hc9_3 ?_
 case hc9_3 => (intro w hSw; exact wideNeg_b y false hy hby w)
 refine cW ?_ ?_ ?_
 refine calm_end ?_
 intro w1 hS
 have hS := sO hS
 have B0 := B0.y hS
 have B1 := B1.y hS
 have hz1 : W0.heap.size ≤ w1.heap.size := hS.size
 have HB := gS HB hS
 clear hS
 go_upto_region 2 with (fail)
 refine cG ?_
 refine cN ?_
 refine cX ?_ ?_ (by intro wz hSw; obtain ⟨q0, q1, q2, q3⟩ := c4 (B0.y hSw.1); go_simp; all_goals with_reducible rfl) ?_
 refine cC ?_ ?_ ?_ ?_ ?hc11_1 ?_
 case hc11_1 => (intro w hSw; exact wideSign_neg x hx h1 w)
 refine cX ?_ ?_ (by intro wz hSw; obtain ⟨q0, q1, q2, q3⟩ := c4 (B1.y hSw.1); go_simp; all_goals with_reducible rfl) ?_
 refine cC ?_ ?_ ?_ ?_ ?hc11_3 ?_
 case hc11_3 => (intro w hSw; exact wideSign_pos y hy H3.out w)
 refine cC ?_ ?_ ?_ ?_ ?hc11_4 ?_
 case hc11_4 => (intro w hSw; exact compare_b (-1) 1 (-1) (by decide) w)
 refine cW ?_ ?_ ?_
 refine calm_end ?_
 intro w2 hS
 have hS := sO hS
 have B0 := B0.y hS
 have B1 := B1.y hS
 have hz2 : w1.heap.size ≤ w2.heap.size := hS.size
 have HB := gS HB hS
 clear hS
 go_wp2_with fail
 go_ret
 exact ⟨rfl, HB⟩
theorem wideCmp_zeron (x y : Int) (hx : Fit x) (hy : Fit y) (h1 : ¬ x < 0) (h2 : y < 0) (h3 : x = 0) (w : World) :
  Calls Tryz.prog 148 #[wI x, wI y] w fun e w' => e = .returned (.int .i64 1) ∧ Below w.heap.size w w' := by
 have H3 := hH h3
 clear h3
 obtain ⟨W0, hW0⟩ : ∃ W0, [.cells #[u64 (lb (tc x) 0), u64 (lb (tc x) 1), u64 (lb (tc x) 2), u64 (lb (tc x) 3)] 76, .cells #[u64 (lb (tc y) 0), u64 (lb (tc y) 1), u64 (lb (tc y) 2), u64 (lb (tc y) 3)] 76].foldl World.alloc w = W0 := ⟨_, rfl⟩
 have B0 : Blk W0 (w.heap.size) (uL (tc x)) 76 := Blk.allocs _ hW0 0 rfl
 have B1 : Blk W0 (w.heap.size + 1) (uL (tc y)) 76 := Blk.allocs _ hW0 1 rfl
 have HB := aB hW0
 have hsz : w.heap.size + 2 ≤ W0.heap.size := aZ hW0
 simp only [List.foldl_cons, List.foldl_nil] at hW0
 have hbx : decide (x < 0) = false := by simpa using h1
 have hby : decide (y < 0) = true := by simpa using h2
 go_enter Tryz.func148, Tryz.ntmps148
 unfold wI U
 go_upto_region 1 with (fail)
 clear hW0
 refine cG ?_
 refine cN ?_
 refine cX ?_ ?_ (by intro wz hSw; obtain ⟨q0, q1, q2, q3⟩ := c4 (B0.y hSw.1); go_simp; all_goals with_reducible rfl) ?_
 refine cC ?_ ?_ ?_ ?_ ?hc12_1 ?_
 case hc12_1 => (intro w hSw; exact wideNeg_b x false hx hbx w)
 refine cX ?_ ?_ (by intro wz hSw; obtain ⟨q0, q1, q2, q3⟩ := c4 (B1.y hSw.1); go_simp; all_goals with_reducible rfl) ?_
 refine cC ?_ ?_ ?_ ?_ ?hc12_3 ?_
 case hc12_3 => (intro w hSw; exact wideNeg_b y true hy hby w)
 refine cW ?_ ?_ ?_
 refine calm_end ?_
 intro w1 hS
 have hS := sO hS
 have B0 := B0.y hS
 have B1 := B1.y hS
 have hz1 : W0.heap.size ≤ w1.heap.size := hS.size
 have HB := gS HB hS
 clear hS
 go_upto_region 2 with (fail)
 refine cG ?_
 refine cN ?_
 refine cX ?_ ?_ (by intro wz hSw; obtain ⟨q0, q1, q2, q3⟩ := c4 (B0.y hSw.1); go_simp; all_goals with_reducible rfl) ?_
 refine cC ?_ ?_ ?_ ?_ ?hc13_1 ?_
 case hc13_1 => (intro w hSw; exact wideSign_zero x hx H3.out w)
 refine cX ?_ ?_ (by intro wz hSw; obtain ⟨q0, q1, q2, q3⟩ := c4 (B1.y hSw.1); go_simp; all_goals with_reducible rfl) ?_
 refine cC ?_ ?_ ?_ ?_ ?hc13_3 ?_
 case hc13_3 => (intro w hSw; exact wideSign_neg y hy h2 w)
 refine cC ?_ ?_ ?_ ?_ ?hc13_4 ?_
 case hc13_4 => (intro w hSw; exact compare_b 0 (-1) 1 (by decide) w)
 refine cW ?_ ?_ ?_
 refine calm_end ?_
 intro w2 hS
 have hS := sO hS
 have B0 := B0.y hS
 have B1 := B1.y hS
 have hz2 : w1.heap.size ≤ w2.heap.size := hS.size
 have HB := gS HB hS
 clear hS
 go_wp2_with fail
 go_ret
 exact ⟨rfl, HB⟩
theorem wideCmp_posn (x y : Int) (hx : Fit x) (hy : Fit y) (h1 : ¬ x < 0) (h2 : y < 0) (h3 : 0 < x) (w : World) :
  Calls Tryz.prog 148 #[wI x, wI y] w fun e w' => e = .returned (.int .i64 1) ∧ Below w.heap.size w w' := by
 have H3 := hH h3
 clear h3
 obtain ⟨W0, hW0⟩ : ∃ W0, [.cells #[u64 (lb (tc x) 0), u64 (lb (tc x) 1), u64 (lb (tc x) 2), u64 (lb (tc x) 3)] 76, .cells #[u64 (lb (tc y) 0), u64 (lb (tc y) 1), u64 (lb (tc y) 2), u64 (lb (tc y) 3)] 76].foldl World.alloc w = W0 := ⟨_, rfl⟩
 have B0 : Blk W0 (w.heap.size) (uL (tc x)) 76 := Blk.allocs _ hW0 0 rfl
 have B1 : Blk W0 (w.heap.size + 1) (uL (tc y)) 76 := Blk.allocs _ hW0 1 rfl
 have HB := aB hW0
 have hsz : w.heap.size + 2 ≤ W0.heap.size := aZ hW0
 simp only [List.foldl_cons, List.foldl_nil] at hW0
 have hbx : decide (x < 0) = false := by simpa using h1
 have hby : decide (y < 0) = true := by simpa using h2
 go_enter Tryz.func148, Tryz.ntmps148
 unfold wI U
 go_upto_region 1 with (fail)
 clear hW0
 refine cG ?_
 refine cN ?_
 refine cX ?_ ?_ (by intro wz hSw; obtain ⟨q0, q1, q2, q3⟩ := c4 (B0.y hSw.1); go_simp; all_goals with_reducible rfl) ?_
 refine cC ?_ ?_ ?_ ?_ ?hc12_1 ?_
 case hc12_1 => (intro w hSw; exact wideNeg_b x false hx hbx w)
 refine cX ?_ ?_ (by intro wz hSw; obtain ⟨q0, q1, q2, q3⟩ := c4 (B1.y hSw.1); go_simp; all_goals with_reducible rfl) ?_
 refine cC ?_ ?_ ?_ ?_ ?hc12_3 ?_
 case hc12_3 => (intro w hSw; exact wideNeg_b y true hy hby w)
 refine cW ?_ ?_ ?_
 refine calm_end ?_
 intro w1 hS
 have hS := sO hS
 have B0 := B0.y hS
 have B1 := B1.y hS
 have hz1 : W0.heap.size ≤ w1.heap.size := hS.size
 have HB := gS HB hS
 clear hS
 go_upto_region 2 with (fail)
 refine cG ?_
 refine cN ?_
 refine cX ?_ ?_ (by intro wz hSw; obtain ⟨q0, q1, q2, q3⟩ := c4 (B0.y hSw.1); go_simp; all_goals with_reducible rfl) ?_
 refine cC ?_ ?_ ?_ ?_ ?hc14_1 ?_
 case hc14_1 => (intro w hSw; exact wideSign_pos x hx H3.out w)
 refine cX ?_ ?_ (by intro wz hSw; obtain ⟨q0, q1, q2, q3⟩ := c4 (B1.y hSw.1); go_simp; all_goals with_reducible rfl) ?_
 refine cC ?_ ?_ ?_ ?_ ?hc14_3 ?_
 case hc14_3 => (intro w hSw; exact wideSign_neg y hy h2 w)
 refine cC ?_ ?_ ?_ ?_ ?hc14_4 ?_
 case hc14_4 => (intro w hSw; exact compare_b 1 (-1) 1 (by decide) w)
 refine cW ?_ ?_ ?_
 refine calm_end ?_
 intro w2 hS
 have hS := sO hS
 have B0 := B0.y hS
 have B1 := B1.y hS
 have hz2 : w1.heap.size ≤ w2.heap.size := hS.size
 have HB := gS HB hS
 clear hS
 go_wp2_with fail
 go_ret
 exact ⟨rfl, HB⟩
theorem wideCmp_eq1 (x y : Int) (hx : Fit x) (hy : Fit y) (h1 : x < 0) (h2 : y < 0) (h3 : x = y) (w : World) :
  Calls Tryz.prog 148 #[wI x, wI y] w fun e w' => e = .returned (.int .i64 0) ∧ Below w.heap.size w w' := by
 obtain ⟨W0, hW0⟩ : ∃ W0, [.cells #[u64 (lb (tc x) 0), u64 (lb (tc x) 1), u64 (lb (tc x) 2), u64 (lb (tc x) 3)] 76, .cells #[u64 (lb (tc y) 0), u64 (lb (tc y) 1), u64 (lb (tc y) 2), u64 (lb (tc y) 3)] 76].foldl World.alloc w = W0 := ⟨_, rfl⟩
 have B0 : Blk W0 (w.heap.size) (uL (tc x)) 76 := Blk.allocs _ hW0 0 rfl
 have B1 : Blk W0 (w.heap.size + 1) (uL (tc y)) 76 := Blk.allocs _ hW0 1 rfl
 have HB := aB hW0
 have hsz : w.heap.size + 2 ≤ W0.heap.size := aZ hW0
 simp only [List.foldl_cons, List.foldl_nil] at hW0
 have hbx : decide (x < 0) = true := by simpa using h1
 have hby : decide (y < 0) = true := by simpa using h2
 have HS : decide (x < 0) = decide (y < 0) := by rw [hbx, hby]
 have he0 : decide (x = y) = true := by simp; omega
 have HS := hH HS
 clear h3
 go_enter Tryz.func148, Tryz.ntmps148
 unfold wI U
 go_upto_region 1 with (fail)
 clear hW0
 refine cG ?_
 refine cN ?_
 refine cX ?_ ?_ (by intro wz hSw; obtain ⟨q0, q1, q2, q3⟩ := c4 (B0.y hSw.1); go_simp; all_goals with_reducible rfl) ?_
 refine cC ?_ ?_ ?_ ?_ ?hc15_1 ?_
 case hc15_1 => (intro w hSw; exact wideNeg_b x true hx hbx w)
 refine cX ?_ ?_ (by intro wz hSw; obtain ⟨q0, q1, q2, q3⟩ := c4 (B1.y hSw.1); go_simp; all_goals with_reducible rfl) ?_
 refine cC ?_ ?_ ?_ ?_ ?hc15_3 ?_
 case hc15_3 => (intro w hSw; exact wideNeg_b y true hy hby w)
 refine cW ?_ ?_ ?_
 refine calm_end ?_
 intro w1 hS
 have hS := sO hS
 have B0 := B0.y hS
 have B1 := B1.y hS
 have hz1 : W0.heap.size ≤ w1.heap.size := hS.size
 have HB := gS HB hS
 clear hS
 go_upto_region 3 with (fail)
 refine cP ?_
 refine cN ?_
 refine cX ?_ ?_ (by intro wz hSw; obtain ⟨q0, q1, q2, q3⟩ := c4 (B0.y hSw.1); go_simp; all_goals with_reducible rfl) ?_
 refine cX ?_ ?_ (by intro wz hSw; obtain ⟨q0, q1, q2, q3⟩ := c4 (B1.y hSw.1); go_simp; all_goals with_reducible rfl) ?_
 refine cX ?_ ?_ (by intro wz hSw; have he := eqIn_I x y hx hy true he0 wz; go_simp; all_goals with_reducible rfl) ?_
 refine cW ?_ ?_ ?_
 refine calm_end ?_
 intro w2 hS
 have hS := sO hS
 have B0 := B0.y hS
 have B1 := B1.y hS
 have hz2 : w1.heap.size ≤ w2.heap.size := hS.size
 have HB := gS HB hS
 clear hS
 go_wp2_with fail
 go_ret
 exact ⟨rfl, HB⟩
theorem wideCmp_lt1 (x y : Int) (hx : Fit x) (hy : Fit y) (h1 : x < 0) (h2 : y < 0) (h3 : x < y) (w : World) :
  Calls Tryz.prog 148 #[wI x, wI y] w fun e w' => e = .returned (.int .i64 (-1)) ∧ Below w.heap.size w w' := by
 obtain ⟨W0, hW0⟩ : ∃ W0, [.cells #[u64 (lb (tc x) 0), u64 (lb (tc x) 1), u64 (lb (tc x) 2), u64 (lb (tc x) 3)] 76, .cells #[u64 (lb (tc y) 0), u64 (lb (tc y) 1), u64 (lb (tc y) 2), u64 (lb (tc y) 3)] 76].foldl World.alloc w = W0 := ⟨_, rfl⟩
 have B0 : Blk W0 (w.heap.size) (uL (tc x)) 76 := Blk.allocs _ hW0 0 rfl
 have B1 : Blk W0 (w.heap.size + 1) (uL (tc y)) 76 := Blk.allocs _ hW0 1 rfl
 have HB := aB hW0
 have hsz : w.heap.size + 2 ≤ W0.heap.size := aZ hW0
 simp only [List.foldl_cons, List.foldl_nil] at hW0
 have hbx : decide (x < 0) = true := by simpa using h1
 have hby : decide (y < 0) = true := by simpa using h2
 have HS : decide (x < 0) = decide (y < 0) := by rw [hbx, hby]
 have he0 : decide (x = y) = false := by simp; omega
 have hl0 : decide (x < y) = true := by simp; omega
 have HS := hH HS
 clear h3
 go_enter Tryz.func148, Tryz.ntmps148
 unfold wI U
 go_upto_region 1 with (fail)
 clear hW0
 refine cG ?_
 refine cN ?_
 refine cX ?_ ?_ (by intro wz hSw; obtain ⟨q0, q1, q2, q3⟩ := c4 (B0.y hSw.1); go_simp; all_goals with_reducible rfl) ?_
 refine cC ?_ ?_ ?_ ?_ ?hc17_1 ?_
 case hc17_1 => (intro w hSw; exact wideNeg_b x true hx hbx w)
 refine cX ?_ ?_ (by intro wz hSw; obtain ⟨q0, q1, q2, q3⟩ := c4 (B1.y hSw.1); go_simp; all_goals with_reducible rfl) ?_
 refine cC ?_ ?_ ?_ ?_ ?hc17_3 ?_
 case hc17_3 => (intro w hSw; exact wideNeg_b y true hy hby w)
 refine cW ?_ ?_ ?_
 refine calm_end ?_
 intro w1 hS
 have hS := sO hS
 have B0 := B0.y hS
 have B1 := B1.y hS
 have hz1 : W0.heap.size ≤ w1.heap.size := hS.size
 have HB := gS HB hS
 clear hS
 go_upto_region 3 with (fail)
 refine cP ?_
 refine cN ?_
 refine cX ?_ ?_ (by intro wz hSw; obtain ⟨q0, q1, q2, q3⟩ := c4 (B0.y hSw.1); go_simp; all_goals with_reducible rfl) ?_
 refine cX ?_ ?_ (by intro wz hSw; obtain ⟨q0, q1, q2, q3⟩ := c4 (B1.y hSw.1); go_simp; all_goals with_reducible rfl) ?_
 refine cX ?_ ?_ (by intro wz hSw; have he := eqIn_I x y hx hy false he0 wz; go_simp; all_goals with_reducible rfl) ?_
 refine cW ?_ ?_ ?_
 refine calm_end ?_
 intro w2 hS
 have hS := sO hS
 have B0 := B0.y hS
 have B1 := B1.y hS
 have hz2 : w1.heap.size ≤ w2.heap.size := hS.size
 have HB := gS HB hS
 clear hS
 go_upto_region 5 with (fail)
 refine cP ?_
 refine cN ?_
 refine cX ?_ ?_ (by intro wz hSw; obtain ⟨q0, q1, q2, q3⟩ := c4 (B0.y hSw.1); go_simp; all_goals with_reducible rfl) ?_
 refine cX ?_ ?_ (by intro wz hSw; obtain ⟨q0, q1, q2, q3⟩ := c4 (B1.y hSw.1); go_simp; all_goals with_reducible rfl) ?_
 refine cC ?_ ?_ ?_ ?_ ?hc19_2 ?_
 case hc19_2 => (intro w hSw; exact wideBelow_b x y true hx hy HS.out hl0 w)
 refine cW ?_ ?_ ?_
 refine calm_end ?_
 intro w3 hS
 have hS := sO hS
 have B0 := B0.y hS
 have B1 := B1.y hS
 have hz3 : w2.heap.size ≤ w3.heap.size := hS.size
 have HB := gS HB hS
 clear hS
 go_wp2_with fail
 go_ret
 exact ⟨rfl, HB⟩
theorem wideCmp_gt1 (x y : Int) (hx : Fit x) (hy : Fit y) (h1 : x < 0) (h2 : y < 0) (h3 : y < x) (w : World) :
  Calls Tryz.prog 148 #[wI x, wI y] w fun e w' => e = .returned (.int .i64 1) ∧ Below w.heap.size w w' := by
 obtain ⟨W0, hW0⟩ : ∃ W0, [.cells #[u64 (lb (tc x) 0), u64 (lb (tc x) 1), u64 (lb (tc x) 2), u64 (lb (tc x) 3)] 76, .cells #[u64 (lb (tc y) 0), u64 (lb (tc y) 1), u64 (lb (tc y) 2), u64 (lb (tc y) 3)] 76].foldl World.alloc w = W0 := ⟨_, rfl⟩
 have B0 : Blk W0 (w.heap.size) (uL (tc x)) 76 := Blk.allocs _ hW0 0 rfl
 have B1 : Blk W0 (w.heap.size + 1) (uL (tc y)) 76 := Blk.allocs _ hW0 1 rfl
 have HB := aB hW0
 have hsz : w.heap.size + 2 ≤ W0.heap.size := aZ hW0
 simp only [List.foldl_cons, List.foldl_nil] at hW0
 have hbx : decide (x < 0) = true := by simpa using h1
 have hby : decide (y < 0) = true := by simpa using h2
 have HS : decide (x < 0) = decide (y < 0) := by rw [hbx, hby]
 have he0 : decide (x = y) = false := by simp; omega
 have hl0 : decide (x < y) = false := by simp; omega
 have HS := hH HS
 clear h3
 go_enter Tryz.func148, Tryz.ntmps148
 unfold wI U
 go_upto_region 1 with (fail)
 clear hW0
 refine cG ?_
 refine cN ?_
 refine cX ?_ ?_ (by intro wz hSw; obtain ⟨q0, q1, q2, q3⟩ := c4 (B0.y hSw.1); go_simp; all_goals with_reducible rfl) ?_
 refine cC ?_ ?_ ?_ ?_ ?hc20_1 ?_
 case hc20_1 => (intro w hSw; exact wideNeg_b x true hx hbx w)
 refine cX ?_ ?_ (by intro wz hSw; obtain ⟨q0, q1, q2, q3⟩ := c4 (B1.y hSw.1); go_simp; all_goals with_reducible rfl) ?_
 refine cC ?_ ?_ ?_ ?_ ?hc20_3 ?_
 case hc20_3 => (intro w hSw; exact wideNeg_b y true hy hby w)
 refine cW ?_ ?_ ?_
 refine calm_end ?_
 intro w1 hS
 have hS := sO hS
 have B0 := B0.y hS
 have B1 := B1.y hS
 have hz1 : W0.heap.size ≤ w1.heap.size := hS.size
 have HB := gS HB hS
 clear hS
 go_upto_region 3 with (fail)
 refine cP ?_
 refine cN ?_
 refine cX ?_ ?_ (by intro wz hSw; obtain ⟨q0, q1, q2, q3⟩ := c4 (B0.y hSw.1); go_simp; all_goals with_reducible rfl) ?_
 refine cX ?_ ?_ (by intro wz hSw; obtain ⟨q0, q1, q2, q3⟩ := c4 (B1.y hSw.1); go_simp; all_goals with_reducible rfl) ?_
 refine cX ?_ ?_ (by intro wz hSw; have he := eqIn_I x y hx hy false he0 wz; go_simp; all_goals with_reducible rfl) ?_
 refine cW ?_ ?_ ?_
 refine calm_end ?_
 intro w2 hS
 have hS := sO hS
 have B0 := B0.y hS
 have B1 := B1.y hS
 have hz2 : w1.heap.size ≤ w2.heap.size := hS.size
 have HB := gS HB hS
 clear hS
 go_upto_region 5 with (fail)
 refine cP ?_
 refine cN ?_
 refine cX ?_ ?_ (by intro wz hSw; obtain ⟨q0, q1, q2, q3⟩ := c4 (B0.y hSw.1); go_simp; all_goals with_reducible rfl) ?_
 refine cX ?_ ?_ (by intro wz hSw; obtain ⟨q0, q1, q2, q3⟩ := c4 (B1.y hSw.1); go_simp; all_goals with_reducible rfl) ?_
 refine cC ?_ ?_ ?_ ?_ ?hc22_2 ?_
 case hc22_2 => (intro w hSw; exact wideBelow_b x y false hx hy HS.out hl0 w)
 refine cW ?_ ?_ ?_
 refine calm_end ?_
 intro w3 hS
 have hS := sO hS
 have B0 := B0.y hS
 have B1 := B1.y hS
 have hz3 : w2.heap.size ≤ w3.heap.size := hS.size
 have HB := gS HB hS
 clear hS
 go_wp2_with fail
 go_ret
 exact ⟨rfl, HB⟩
theorem wideCmp_eq0 (x y : Int) (hx : Fit x) (hy : Fit y) (h1 : ¬ x < 0) (h2 : ¬ y < 0) (h3 : x = y) (w : World) :
  Calls Tryz.prog 148 #[wI x, wI y] w fun e w' => e = .returned (.int .i64 0) ∧ Below w.heap.size w w' := by
 obtain ⟨W0, hW0⟩ : ∃ W0, [.cells #[u64 (lb (tc x) 0), u64 (lb (tc x) 1), u64 (lb (tc x) 2), u64 (lb (tc x) 3)] 76, .cells #[u64 (lb (tc y) 0), u64 (lb (tc y) 1), u64 (lb (tc y) 2), u64 (lb (tc y) 3)] 76].foldl World.alloc w = W0 := ⟨_, rfl⟩
 have B0 : Blk W0 (w.heap.size) (uL (tc x)) 76 := Blk.allocs _ hW0 0 rfl
 have B1 : Blk W0 (w.heap.size + 1) (uL (tc y)) 76 := Blk.allocs _ hW0 1 rfl
 have HB := aB hW0
 have hsz : w.heap.size + 2 ≤ W0.heap.size := aZ hW0
 simp only [List.foldl_cons, List.foldl_nil] at hW0
 have hbx : decide (x < 0) = false := by simpa using h1
 have hby : decide (y < 0) = false := by simpa using h2
 have HS : decide (x < 0) = decide (y < 0) := by rw [hbx, hby]
 have he0 : decide (x = y) = true := by simp; omega
 have HS := hH HS
 clear h3
 go_enter Tryz.func148, Tryz.ntmps148
 unfold wI U
 go_upto_region 1 with (fail)
 clear hW0
 refine cG ?_
 refine cN ?_
 refine cX ?_ ?_ (by intro wz hSw; obtain ⟨q0, q1, q2, q3⟩ := c4 (B0.y hSw.1); go_simp; all_goals with_reducible rfl) ?_
 refine cC ?_ ?_ ?_ ?_ ?hc23_1 ?_
 case hc23_1 => (intro w hSw; exact wideNeg_b x false hx hbx w)
 refine cX ?_ ?_ (by intro wz hSw; obtain ⟨q0, q1, q2, q3⟩ := c4 (B1.y hSw.1); go_simp; all_goals with_reducible rfl) ?_
 refine cC ?_ ?_ ?_ ?_ ?hc23_3 ?_
 case hc23_3 => (intro w hSw; exact wideNeg_b y false hy hby w)
 refine cW ?_ ?_ ?_
 refine calm_end ?_
 intro w1 hS
 have hS := sO hS
 have B0 := B0.y hS
 have B1 := B1.y hS
 have hz1 : W0.heap.size ≤ w1.heap.size := hS.size
 have HB := gS HB hS
 clear hS
 go_upto_region 3 with (fail)
 refine cP ?_
 refine cN ?_
 refine cX ?_ ?_ (by intro wz hSw; obtain ⟨q0, q1, q2, q3⟩ := c4 (B0.y hSw.1); go_simp; all_goals with_reducible rfl) ?_
 refine cX ?_ ?_ (by intro wz hSw; obtain ⟨q0, q1, q2, q3⟩ := c4 (B1.y hSw.1); go_simp; all_goals with_reducible rfl) ?_
 refine cX ?_ ?_ (by intro wz hSw; have he := eqIn_I x y hx hy true he0 wz; go_simp; all_goals with_reducible rfl) ?_
 refine cW ?_ ?_ ?_
 refine calm_end ?_
 intro w2 hS
 have hS := sO hS
 have B0 := B0.y hS
 have B1 := B1.y hS
 have hz2 : w1.heap.size ≤ w2.heap.size := hS.size
 have HB := gS HB hS
 clear hS
 go_wp2_with fail
 go_ret
 exact ⟨rfl, HB⟩
theorem wideCmp_lt0 (x y : Int) (hx : Fit x) (hy : Fit y) (h1 : ¬ x < 0) (h2 : ¬ y < 0) (h3 : x < y) (w : World) :
  Calls Tryz.prog 148 #[wI x, wI y] w fun e w' => e = .returned (.int .i64 (-1)) ∧ Below w.heap.size w w' := by
 obtain ⟨W0, hW0⟩ : ∃ W0, [.cells #[u64 (lb (tc x) 0), u64 (lb (tc x) 1), u64 (lb (tc x) 2), u64 (lb (tc x) 3)] 76, .cells #[u64 (lb (tc y) 0), u64 (lb (tc y) 1), u64 (lb (tc y) 2), u64 (lb (tc y) 3)] 76].foldl World.alloc w = W0 := ⟨_, rfl⟩
 have B0 : Blk W0 (w.heap.size) (uL (tc x)) 76 := Blk.allocs _ hW0 0 rfl
 have B1 : Blk W0 (w.heap.size + 1) (uL (tc y)) 76 := Blk.allocs _ hW0 1 rfl
 have HB := aB hW0
 have hsz : w.heap.size + 2 ≤ W0.heap.size := aZ hW0
 simp only [List.foldl_cons, List.foldl_nil] at hW0
 have hbx : decide (x < 0) = false := by simpa using h1
 have hby : decide (y < 0) = false := by simpa using h2
 have HS : decide (x < 0) = decide (y < 0) := by rw [hbx, hby]
 have he0 : decide (x = y) = false := by simp; omega
 have hl0 : decide (x < y) = true := by simp; omega
 have HS := hH HS
 clear h3
 go_enter Tryz.func148, Tryz.ntmps148
 unfold wI U
 go_upto_region 1 with (fail)
 clear hW0
 refine cG ?_
 refine cN ?_
 refine cX ?_ ?_ (by intro wz hSw; obtain ⟨q0, q1, q2, q3⟩ := c4 (B0.y hSw.1); go_simp; all_goals with_reducible rfl) ?_
 refine cC ?_ ?_ ?_ ?_ ?hc25_1 ?_
 case hc25_1 => (intro w hSw; exact wideNeg_b x false hx hbx w)
 refine cX ?_ ?_ (by intro wz hSw; obtain ⟨q0, q1, q2, q3⟩ := c4 (B1.y hSw.1); go_simp; all_goals with_reducible rfl) ?_
 refine cC ?_ ?_ ?_ ?_ ?hc25_3 ?_
 case hc25_3 => (intro w hSw; exact wideNeg_b y false hy hby w)
 refine cW ?_ ?_ ?_
 refine calm_end ?_
 intro w1 hS
 have hS := sO hS
 have B0 := B0.y hS
 have B1 := B1.y hS
 have hz1 : W0.heap.size ≤ w1.heap.size := hS.size
 have HB := gS HB hS
 clear hS
 go_upto_region 3 with (fail)
 refine cP ?_
 refine cN ?_
 refine cX ?_ ?_ (by intro wz hSw; obtain ⟨q0, q1, q2, q3⟩ := c4 (B0.y hSw.1); go_simp; all_goals with_reducible rfl) ?_
 refine cX ?_ ?_ (by intro wz hSw; obtain ⟨q0, q1, q2, q3⟩ := c4 (B1.y hSw.1); go_simp; all_goals with_reducible rfl) ?_
 refine cX ?_ ?_ (by intro wz hSw; have he := eqIn_I x y hx hy false he0 wz; go_simp; all_goals with_reducible rfl) ?_
 refine cW ?_ ?_ ?_
 refine calm_end ?_
 intro w2 hS
 have hS := sO hS
 have B0 := B0.y hS
 have B1 := B1.y hS
 have hz2 : w1.heap.size ≤ w2.heap.size := hS.size
 have HB := gS HB hS
 clear hS
 go_upto_region 5 with (fail)
 refine cP ?_
 refine cN ?_
 refine cX ?_ ?_ (by intro wz hSw; obtain ⟨q0, q1, q2, q3⟩ := c4 (B0.y hSw.1); go_simp; all_goals with_reducible rfl) ?_
 refine cX ?_ ?_ (by intro wz hSw; obtain ⟨q0, q1, q2, q3⟩ := c4 (B1.y hSw.1); go_simp; all_goals with_reducible rfl) ?_
 refine cC ?_ ?_ ?_ ?_ ?hc27_2 ?_
 case hc27_2 => (intro w hSw; exact wideBelow_b x y true hx hy HS.out hl0 w)
 refine cW ?_ ?_ ?_
 refine calm_end ?_
 intro w3 hS
 have hS := sO hS
 have B0 := B0.y hS
 have B1 := B1.y hS
 have hz3 : w2.heap.size ≤ w3.heap.size := hS.size
 have HB := gS HB hS
 clear hS
 go_wp2_with fail
 go_ret
 exact ⟨rfl, HB⟩
theorem wideCmp_gt0 (x y : Int) (hx : Fit x) (hy : Fit y) (h1 : ¬ x < 0) (h2 : ¬ y < 0) (h3 : y < x) (w : World) :
  Calls Tryz.prog 148 #[wI x, wI y] w fun e w' => e = .returned (.int .i64 1) ∧ Below w.heap.size w w' := by
 obtain ⟨W0, hW0⟩ : ∃ W0, [.cells #[u64 (lb (tc x) 0), u64 (lb (tc x) 1), u64 (lb (tc x) 2), u64 (lb (tc x) 3)] 76, .cells #[u64 (lb (tc y) 0), u64 (lb (tc y) 1), u64 (lb (tc y) 2), u64 (lb (tc y) 3)] 76].foldl World.alloc w = W0 := ⟨_, rfl⟩
 have B0 : Blk W0 (w.heap.size) (uL (tc x)) 76 := Blk.allocs _ hW0 0 rfl
 have B1 : Blk W0 (w.heap.size + 1) (uL (tc y)) 76 := Blk.allocs _ hW0 1 rfl
 have HB := aB hW0
 have hsz : w.heap.size + 2 ≤ W0.heap.size := aZ hW0
 simp only [List.foldl_cons, List.foldl_nil] at hW0
 have hbx : decide (x < 0) = false := by simpa using h1
 have hby : decide (y < 0) = false := by simpa using h2
 have HS : decide (x < 0) = decide (y < 0) := by rw [hbx, hby]
 have he0 : decide (x = y) = false := by simp; omega
 have hl0 : decide (x < y) = false := by simp; omega
 have HS := hH HS
 clear h3
 go_enter Tryz.func148, Tryz.ntmps148
 unfold wI U
 go_upto_region 1 with (fail)
 clear hW0
 refine cG ?_
 refine cN ?_
 refine cX ?_ ?_ (by intro wz hSw; obtain ⟨q0, q1, q2, q3⟩ := c4 (B0.y hSw.1); go_simp; all_goals with_reducible rfl) ?_
 refine cC ?_ ?_ ?_ ?_ ?hc28_1 ?_
 case hc28_1 => (intro w hSw; exact wideNeg_b x false hx hbx w)
 refine cX ?_ ?_ (by intro wz hSw; obtain ⟨q0, q1, q2, q3⟩ := c4 (B1.y hSw.1); go_simp; all_goals with_reducible rfl) ?_
 refine cC ?_ ?_ ?_ ?_ ?hc28_3 ?_
 case hc28_3 => (intro w hSw; exact wideNeg_b y false hy hby w)
 refine cW ?_ ?_ ?_
 refine calm_end ?_
 intro w1 hS
 have hS := sO hS
 have B0 := B0.y hS
 have B1 := B1.y hS
 have hz1 : W0.heap.size ≤ w1.heap.size := hS.size
 have HB := gS HB hS
 clear hS
 go_upto_region 3 with (fail)
 refine cP ?_
 refine cN ?_
 refine cX ?_ ?_ (by intro wz hSw; obtain ⟨q0, q1, q2, q3⟩ := c4 (B0.y hSw.1); go_simp; all_goals with_reducible rfl) ?_
 refine cX ?_ ?_ (by intro wz hSw; obtain ⟨q0, q1, q2, q3⟩ := c4 (B1.y hSw.1); go_simp; all_goals with_reducible rfl) ?_
 refine cX ?_ ?_ (by intro wz hSw; have he := eqIn_I x y hx hy false he0 wz; go_simp; all_goals with_reducible rfl) ?_
 refine cW ?_ ?_ ?_
 refine calm_end ?_
 intro w2 hS
 have hS := sO hS
 have B0 := B0.y hS
 have B1 := B1.y hS
 have hz2 : w1.heap.size ≤ w2.heap.size := hS.size
 have HB := gS HB hS
 clear hS
 go_upto_region 5 with (fail)
 refine cP ?_
 refine cN ?_
 refine cX ?_ ?_ (by intro wz hSw; obtain ⟨q0, q1, q2, q3⟩ := c4 (B0.y hSw.1); go_simp; all_goals with_reducible rfl) ?_
 refine cX ?_ ?_ (by intro wz hSw; obtain ⟨q0, q1, q2, q3⟩ := c4 (B1.y hSw.1); go_simp; all_goals with_reducible rfl) ?_
 refine cC ?_ ?_ ?_ ?_ ?hc30_2 ?_
 case hc30_2 => (intro w hSw; exact wideBelow_b x y false hx hy HS.out hl0 w)
 refine cW ?_ ?_ ?_
 refine calm_end ?_
 intro w3 hS
 have hS := sO hS
 have B0 := B0.y hS
 have B1 := B1.y hS
 have hz3 : w2.heap.size ≤ w3.heap.size := hS.size
 have HB := gS HB hS
 clear hS
 go_wp2_with fail
 go_ret
 exact ⟨rfl, HB⟩
theorem wideCmp_any (x y : Int) (hx : Fit x) (hy : Fit y) (w : World) :
  Calls Tryz.prog 148 #[wI x, wI y] w fun e w' => e = .returned (.int .i64 (cmpI x y)) ∧ Below w.heap.size w w' := by
 unfold cmpI
 by_cases h1 : x < 0
 ·by_cases h2 : y < 0
  ·by_cases h : x < y
   ·rw [if_pos h]; exact wideCmp_lt1 x y hx hy h1 h2 h w
   ·rw [if_neg h]
    by_cases he : x = y
    ·rw [if_pos he]; exact wideCmp_eq1 x y hx hy h1 h2 he w
    ·rw [if_neg he]; exact wideCmp_gt1 x y hx hy h1 h2 (by omega) w
  ·rw [if_pos (by omega)]
   by_cases h : y = 0
   ·exact wideCmp_nzero x y hx hy h1 h2 h w
   ·exact wideCmp_npos x y hx hy h1 h2 (by omega) w
 ·by_cases h2 : y < 0
  ·rw [if_neg (by omega), if_neg (by omega)]
   by_cases h : x = 0
   ·exact wideCmp_zeron x y hx hy h1 h2 h w
   ·exact wideCmp_posn x y hx hy h1 h2 (by omega) w
  ·by_cases h : x < y
   ·rw [if_pos h]; exact wideCmp_lt0 x y hx hy h1 h2 h w
   ·rw [if_neg h]
    by_cases he : x = y
    ·rw [if_pos he]; exact wideCmp_eq0 x y hx hy h1 h2 he w
    ·rw [if_neg he]; exact wideCmp_gt0 x y hx hy h1 h2 (by omega) w
theorem tc_small {n : Int} (h1 : -9223372036854775808 ≤ n) (h2 : n ≤ 9223372036854775807) : IntKind.i64.wrap ((lb (tc n) 0 : Nat) : Int) = n := by
 have h := tc_cast n
 unfold lb
 rw [IntKind.wrap_i64]
 simp only [B, B4, Nat.reducePow, Nat.div_one] at h ⊢
 omega
theorem wideSmall_any (n : Int) (h1 : -9223372036854775808 ≤ n) (h2 : n ≤ 9223372036854775807) (w : World) :
  Calls Tryz.prog 154 #[wI n] w fun e w' => e = .returned (.tuple #[.int .i64 n, .bool true]) ∧ Below w.heap.size w w' := by
 obtain ⟨W0, hW0⟩ : ∃ W0, [.cells #[u64 (lb (tc n) 0), u64 (lb (tc n) 1), u64 (lb (tc n) 2), u64 (lb (tc n) 3)] 76].foldl World.alloc w = W0 := ⟨_, rfl⟩
 have B0 : Blk W0 (w.heap.size) (uL (tc n)) 76 := Blk.allocs _ hW0 0 rfl
 have HB := aB hW0
 have hsz : w.heap.size + 1 ≤ W0.heap.size := aZ hW0
 simp only [List.foldl_cons, List.foldl_nil] at hW0
 have hw := tc_small h1 h2
 have hn : Fit n := by unfold Fit; simp only [H4]; omega
 go_enter Tryz.func154, Tryz.ntmps154
 unfold wI U
 go_upto_region 1 with (fail)
 clear hW0
 refine cP ?_
 refine cN ?_
 refine cW ?_ ?_ ?_
 refine cX ?_ ?_ (by intro wz hSw; obtain ⟨q0, q1, q2, q3⟩ := c4 (B0.y hSw.1); go_simp; all_goals with_reducible rfl) ?_
 refine cW ?_ ?_ ?_
 refine cW ?_ ?_ ?_
 refine calm_end ?_
 intro w1 hS
 have hS := sO hS
 have B0 := B0.y hS
 have hz1 : W0.heap.size ≤ w1.heap.size := hS.size
 have HB := gS HB hS
 clear hS
 go_upto_region 2 with (fail)
 refine cG ?_
 refine cN ?_
 refine cW ?_ ?_ ?_
 refine cC ?_ ?_ ?_ ?_ ?hc32_1 ?_
 case hc32_1 => (intro w hSw; exact wideOf_any n h1 h2 w)
 refine cX ?_ ?_ (by intro wz hSw; obtain ⟨q0, q1, q2, q3⟩ := c4 (B0.y hSw.1); go_simp; all_goals with_reducible rfl) ?_
 refine cX ?_ ?_ (by intro wz hSw; have he := eqIn_I n n hn hn true (by simp) wz; go_simp; all_goals with_reducible rfl) ?_
 refine calm_end ?_
 intro w2 hS
 have hS := sO hS
 have B0 := B0.y hS
 have hz2 : w1.heap.size ≤ w2.heap.size := hS.size
 have HB := gS HB hS
 clear hS
 go_wp2_with fail
 go_ret2
 exact ⟨rfl, HB⟩
end Go.Proofs.YtlkhneiccjhgdaaGreat
namespace Go.Wd
open Go
theorem Bpos (i : Nat) : 0 < B ^ i := Nat.pow_pos (by decide)
theorem lb_low (S c m j : Nat) (h : j < m) : lb (S + B ^ m * c) j = lb S j := by
 unfold lb
 obtain ⟨d, rfl⟩ : ∃ d, m = j + (d + 1) := ⟨m - j - 1, by omega⟩
 rw [Nat.pow_add, Nat.mul_assoc, Nat.add_mul_div_left _ _ (Bpos j), Nat.pow_succ, show B ^ d * B * c = B * (B ^ d * c) by rw [Nat.mul_comm (B ^ d) B, Nat.mul_assoc], Nat.add_mul_mod_self_left]
theorem lb_at (S c m : Nat) : lb (S + B ^ m * c) m = (S / B ^ m + c) % B := by
 unfold lb
 rw [Nat.add_mul_div_left _ _ (Bpos m)]
theorem div_next (S c m : Nat) : (S + B ^ m * c) / B ^ (m + 1) = (S / B ^ m + c) / B := by
 rw [div_succ, Nat.add_mul_div_left _ _ (Bpos m)]
theorem lb_zero {n j : Nat} (h : n < B ^ j) : lb n j = 0 := by
 unfold lb; rw [Nat.div_eq_of_lt h, Nat.zero_mod]
theorem lb_zero_le {n m j : Nat} (h : n < B ^ m) (hj : m ≤ j) : lb n j = 0 := lb_zero (Nat.lt_of_lt_of_le h (Nat.pow_le_pow_right (by decide) hj))
theorem lb_modlow (n m j : Nat) (h : j < m) : lb (n % B ^ m) j = lb n j := by
 have e := Nat.mod_add_div n (B ^ m)
 have := lb_low (n % B ^ m) (n / B ^ m) m j h
 rw [e] at this
 exact this.symm
def rowM (x y i : Nat) : Nat := x % B ^ i * y
def rowS (x y i k : Nat) : Nat := rowM x y i % B ^ (i + k) + lb x i * B ^ i * (y % B ^ k)
theorem rowM_lt (x y i : Nat) (hy : y < B ^ 4) : rowM x y i < B ^ (i + 4) := by
 unfold rowM
 rw [Nat.pow_add]
 exact Nat.mul_lt_mul'' (Nat.mod_lt _ (Bpos i)) hy
theorem rowS_zero (x y i : Nat) : rowS x y i 0 = rowM x y i % B ^ i := by unfold rowS; simp [Nat.mod_one]
theorem rowS_succ (x y i k : Nat) : rowS x y i (k + 1) = rowS x y i k + B ^ (i + k) * (lb (rowM x y i) (i + k) + lb x i * lb y k) := by
 unfold rowS
 rw [show i + (k + 1) = (i + k) + 1 from rfl, mod_succ, mod_succ, Nat.mul_add, Nat.mul_add]
 have : lb x i * B ^ i * (B ^ k * lb y k) = B ^ (i + k) * (lb x i * lb y k) := by rw [Nat.pow_add]; ac_rfl
 rw [this]; omega
theorem rowS_four (x y i : Nat) (hy : y < B ^ 4) : rowS x y i 4 = rowM x y (i + 1) := by
 unfold rowS
 rw [Nat.mod_eq_of_lt (rowM_lt x y i hy), Nat.mod_eq_of_lt hy]
 unfold rowM
 rw [mod_succ, Nat.add_mul]
 ac_rfl
def rowC (x y i k : Nat) : Nat := rowS x y i k / B ^ (i + k)
theorem rowC_zero (x y i : Nat) : rowC x y i 0 = 0 := by
 unfold rowC; rw [rowS_zero]; exact Nat.div_eq_of_lt (Nat.mod_lt _ (Bpos i))
def rowT (x y i k : Nat) : Nat := rowC x y i k + (lb (rowM x y i) (i + k) + lb x i * lb y k)
theorem rowC_succ (x y i k : Nat) : rowC x y i (k + 1) = rowT x y i k / B := by
 unfold rowC rowT; rw [rowS_succ]; exact div_next _ _ _
theorem rowT_lt (x y i k : Nat) (hc : rowC x y i k < B) : rowT x y i k < B * B := by
 unfold rowT
 have h1 := lb_lt (rowM x y i) (i + k)
 have h2 : lb x i ≤ B - 1 := by have := lb_lt x i; omega
 have h3 : lb y k ≤ B - 1 := by have := lb_lt y k; omega
 have h4 : lb x i * lb y k ≤ (B - 1) * (B - 1) := Nat.mul_le_mul h2 h3
 have h5 : (B - 1) * (B - 1) + (B - 1) + (B - 1) < B * B := by decide
 omega
theorem rowC_lt (x y i k : Nat) : rowC x y i k < B := by
 induction k with
 | zero => rw [rowC_zero]; decide
 | succ k ih =>
  rw [rowC_succ]
  exact (Nat.div_lt_iff_lt_mul (by decide)).2 (rowT_lt x y i k ih)
def rowL (x y i k : Nat) : List Value := (List.range 8).map fun j => u64 (if j < i + k then lb (rowS x y i k) j else lb (rowM x y i) j)
def prodL (p : Nat) : List Value := (List.range 8).map fun j => u64 (lb p j)
theorem rowL_zero (x y i : Nat) : rowL x y i 0 = prodL (rowM x y i) := by
 unfold rowL prodL
 apply List.map_congr_left
 intro j _
 rw [rowS_zero]
 split
 ·rw [lb_modlow _ _ _ (by omega)]
 ·rfl
theorem range8 {α : Type} (f : Nat → α) (n : Nat) (h : n < 8) (v : α) : ((List.range 8).map f).set n v = (List.range 8).map fun j => if j = n then v else f j := by
 apply List.ext_getElem?
 intro j
 rw [List.getElem?_set, List.getElem?_map, List.getElem?_map]
 by_cases hj : j < 8
 ·rw [List.getElem?_range hj]
  by_cases e : n = j
  ·subst e; simp [h]
  ·have e2 : ¬ j = n := fun h => e h.symm
   simp [e, e2]
 ·have e2 : ¬ n = j := by omega
  simp [hj, e2]
theorem rowL_at (x y i k : Nat) (hik : i + k < 8) : (rowL x y i k)[i + k]? = some (u64 (lb (rowM x y i) (i + k))) := by
 unfold rowL
 rw [List.getElem?_map, List.getElem?_range hik]
 simp
theorem rowL_step (x y i k : Nat) (hik : i + k < 8) : (rowL x y i k).set (i + k) (u64 (rowT x y i k % B)) = rowL x y i (k + 1) := by
 unfold rowL
 rw [range8 _ _ hik]
 apply List.map_congr_left
 intro j _
 by_cases e : j = i + k
 ·subst e
  rw [if_pos rfl, if_pos (by omega), rowS_succ, lb_at]
  rfl
 ·rw [if_neg e]
  by_cases hj : j < i + k
  ·rw [if_pos hj, if_pos (by omega), rowS_succ, lb_low _ _ _ _ hj]
  ·rw [if_neg hj, if_neg (by omega)]
theorem rowL_end (x y i : Nat) (hi : i < 4) (hy : y < B ^ 4) : (rowL x y i 4).set (i + 4) (u64 (rowC x y i 4)) = prodL (rowM x y (i + 1)) := by
 unfold rowL prodL
 rw [range8 _ _ (by omega)]
 apply List.map_congr_left
 intro j hj
 have hM := rowM_lt x y (i + 1) hy
 have hM0 := rowM_lt x y i hy
 by_cases e : j = i + 4
 ·subst e
  rw [if_pos rfl]
  have h4 := rowS_four x y i hy
  have hc := rowC_lt x y i 4
  unfold rowC at hc ⊢
  rw [h4] at hc ⊢
  have : lb (rowM x y (i + 1)) (i + 4) = rowM x y (i + 1) / B ^ (i + 4) := by
   unfold lb; exact Nat.mod_eq_of_lt hc
  rw [this]
 ·rw [if_neg e]
  by_cases h : j < i + 4
  ·rw [if_pos h, rowS_four x y i hy]
  ·rw [if_neg h, lb_zero_le hM0 (by omega), lb_zero_le hM (by omega)]
theorem prodL_zero : prodL 0 = [u64 0, u64 0, u64 0, u64 0, u64 0, u64 0, u64 0, u64 0] := rfl
theorem rowM_zero (x y : Nat) : rowM x y 0 = 0 := by unfold rowM; simp [Nat.mod_one]
theorem rowM_four (x y : Nat) (hx : x < B ^ 4) : rowM x y 4 = x * y := by unfold rowM; rw [Nat.mod_eq_of_lt hx]
theorem row_step (p m c : Nat) (hm : m < B) (hc : c < B) :
  ((p % B + m) % B + c) % B = (c + (m + p)) % B ∧ p / B + (p % B + m) / B + ((p % B + m) % B + c) / B = (c + (m + p)) / B := by
 simp only [B] at *
 omega
end Go.Wd
