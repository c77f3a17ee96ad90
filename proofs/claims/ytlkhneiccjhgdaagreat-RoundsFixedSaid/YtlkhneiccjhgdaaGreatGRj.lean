/- Division of numbers of four words, bit by bit: plain laws. No program in sight. -/
import Derived.Test.YtlkhneiccjhgdaaGreatGRa
import Derived.Test.YtlkhneiccjhgdaaGreatGRb
import Derived.Deep.Cut
import Derived.Test.YtlkhneiccjhgdaaGreatGRh
import Derived.Test.YtlkhneiccjhgdaaGreatGRi
import Derived.Laws.Cover3
import Derived.Laws.Bits64b
set_option linter.unusedVariables false
set_option linter.unusedSimpArgs false
set_option maxRecDepth 100000
namespace Go.Wd
open Go
theorem tc_natB (n : Nat) (h : n < B4) : tc (n : Int) = n := by
 have h1 := tc_cast (n : Int)
 simp only [B4] at h1 h
 omega
theorem natAbs_lt {z : Int} (hz : Fit z) : z.natAbs < B4 := by
 unfold Fit at hz; simp only [H4, B4] at hz ⊢; omega
theorem fit_of {z : Int} (h1 : -(57896044618658097711785492504343953926634992332820282019728792003956564819968 : Int) ≤ z) (h2 : z < 57896044618658097711785492504343953926634992332820282019728792003956564819968) : Fit z := ⟨h1, h2⟩
end Go.Wd
namespace Go.Proofs.YtlkhneiccjhgdaaGreat
open Go.RowKit Go.Rg Go.Wd
attribute [local go_sem] Oper.semAt_some
theorem wideSize_any (z : Int) (hz : Fit z) (w : World) :
  Calls Tryz.prog 206 #[wI z] w fun e w' => e = .returned (U z.natAbs) ∧ Below w.heap.size w w' := by
 by_cases h : z < 0
 ·have e : wI (-z) = U z.natAbs := by
   have : -z = (z.natAbs : Int) := by omega
   unfold wI; rw [this, tc_natB _ (natAbs_lt hz)]
  rw [← e]; exact wideSize_neg z hz h w
 ·have e : wI z = U z.natAbs := by
   have : z = (z.natAbs : Int) := by omega
   unfold wI; conv => lhs; rw [this]
   rw [tc_natB _ (natAbs_lt hz)]
  have := wideSize_pos z hz (by omega) w
  rw [e] at this ⊢; exact this
theorem wideSigned_any (p : Nat) (b : Bool) (z : Int) (hp : p < B4) (hz : Fit z) (h : z = if b then -(p : Int) else p) (w : World) :
  Calls Tryz.prog 209 #[U p, .bool b] w fun e w' => e = .returned (.tuple #[wI z, .bool true]) ∧ Below w.heap.size w w' := by
 have e : U p = wI (p : Int) := by unfold wI; rw [tc_natB p hp]
 rw [e]
 subst h
 cases b with
 | true =>
  by_cases h0 : p = 0
  ·subst h0; exact wideSigned_zero w
  ·exact wideSigned_neg (p : Int) hz (by omega) w
 | false => exact wideSigned_pos (p : Int) hz (by omega) w
theorem eqIn_4 (a b c d a' b' c' d' : Int) (w : World) : (Op.equalIn 10000 75 (.agg #[.int .u64 a, .int .u64 b, .int .u64 c, .int .u64 d]) (.agg #[.int .u64 a', .int .u64 b', .int .u64 c', .int .u64 d'])).run Tryz.prog w = .ok (a == a' && (b == b' && (c == c' && d == d'))) w := by
 have u3 := Tryz.underlying74
 have a3 := Tryz.isAgg74
 have z3 := Tryz.sizeOf74
 rw [show (10000 : Nat) = 9999 + 1 from rfl, Op.equalIn]
 simp only [Sem.run_bind, run_underlying Tryz.underlying75, Result.andThen_ok]
 simp only [Std.Legacy.Range.forIn_eq_forIn_range', Std.Legacy.Range.size, Nat.sub_zero, Nat.add_sub_cancel, Nat.div_one, List.range'_succ, List.range'_zero, List.forIn_cons, List.forIn_nil]
 go_simp
 by_cases h1 : a = a' <;> by_cases h2 : b = b' <;> by_cases h3 : c = c' <;> by_cases h4 : d = d' <;> simp [h1, h2, h3, h4]
theorem mul64_b (x y : Nat) (hx : x < 18446744073709551616) (hy : y < 18446744073709551616) (w : World) :
  Calls Tryz.prog 238 #[u64 x, u64 y] w fun e w' => e = .returned (.tuple #[u64 (x * y / 18446744073709551616), u64 (x * y % 18446744073709551616)]) ∧ Below w.heap.size w w' :=
 (Tryz.bits_Mul64 x y hx hy w).mono fun _ _ ⟨h1, h2⟩ => ⟨h1, by rw [h2]; exact Below.refl _ _⟩
theorem cells8 {w : World} {b p : Nat} {t : TypeId} (h : Blk w b (prodL p) t) :
  w.cell? ⟨b, 0, none⟩ = some (u64 (lb p 0)) ∧ w.cell? ⟨b, 1, none⟩ = some (u64 (lb p 1)) ∧ w.cell? ⟨b, 2, none⟩ = some (u64 (lb p 2)) ∧ w.cell? ⟨b, 3, none⟩ = some (u64 (lb p 3)) ∧
  w.cell? ⟨b, 4, none⟩ = some (u64 (lb p 4)) ∧ w.cell? ⟨b, 5, none⟩ = some (u64 (lb p 5)) ∧ w.cell? ⟨b, 6, none⟩ = some (u64 (lb p 6)) ∧ w.cell? ⟨b, 7, none⟩ = some (u64 (lb p 7)) := c8 h
set_option maxHeartbeats 2000000 in
theorem wideMul_any (x y : Int) (hx : Fit x) (hy : Fit y) (hd : Fit (x * y)) (w : World) :
  Calls Tryz.prog 202 #[wI x, wI y] w fun e w' => e = .returned (.tuple #[wI (x * y), .bool true]) ∧ Below w.heap.size w w' := by
 obtain ⟨W0, hW0⟩ : ∃ W0, [.cells #[u64 (lb (tc x) 0), u64 (lb (tc x) 1), u64 (lb (tc x) 2), u64 (lb (tc x) 3)] 76, .cells #[u64 (lb (tc y) 0), u64 (lb (tc y) 1), u64 (lb (tc y) 2), u64 (lb (tc y) 3)] 76, .cells #[.int .u64 0, .int .u64 0, .int .u64 0, .int .u64 0] 76].foldl World.alloc w = W0 := ⟨_, rfl⟩
 have B0 : Blk W0 (w.heap.size) (uL (tc x)) 76 := Blk.allocs _ hW0 0 rfl
 have B1 : Blk W0 (w.heap.size + 1) (uL (tc y)) 76 := Blk.allocs _ hW0 1 rfl
 have B2 : Blk W0 (w.heap.size + 1 + 1) (uL 0) 76 := Blk.allocs _ hW0 2 rfl
 have HB := aB hW0
 have hsz : w.heap.size + 3 ≤ W0.heap.size := aZ hW0
 simp only [List.foldl_cons, List.foldl_nil] at hW0
 obtain ⟨a, Ha⟩ : ∃ a : Nat, Hid (a = x.natAbs) := ⟨_, hH rfl⟩
 obtain ⟨b, Hb⟩ : ∃ b : Nat, Hid (b = y.natAbs) := ⟨_, hH rfl⟩
 have Hsa : Hid (∀ w, Calls Tryz.prog 206 #[wI x] w fun e w' => e = .returned (U a) ∧ Below w.heap.size w w') := hH (by rw [Ha.out]; exact wideSize_any x hx)
 have Hsb : Hid (∀ w, Calls Tryz.prog 206 #[wI y] w fun e w' => e = .returned (U b) ∧ Below w.heap.size w w') := hH (by rw [Hb.out]; exact wideSize_any y hy)
 have hA : a < B4 := by rw [Ha.out]; exact natAbs_lt hx
 have hB : b < B4 := by rw [Hb.out]; exact natAbs_lt hy
 have HA := hH hA
 have HB4 := hH hB
 obtain ⟨bx, Hbx⟩ : ∃ b, Hid (decide (x < 0) = b) := ⟨_, hH rfl⟩
 obtain ⟨cy, Hby⟩ : ∃ b, Hid (decide (y < 0) = b) := ⟨_, hH rfl⟩
 have Hx := hH hx
 have Hy := hH hy
 have HP : Hid (a * b < B4 ∧ x * y = if (bx != cy) then -((a * b : Nat) : Int) else ((a * b : Nat) : Int)) := hH (by
  have e := Int.natAbs_mul x y
  refine ⟨by rw [Ha.out, Hb.out, ← e]; exact natAbs_lt hd, ?_⟩
  rw [← Hbx.out, ← Hby.out, Ha.out, Hb.out, ← e]
  by_cases h1 : x < 0 <;> by_cases h2 : y < 0
  ·have : 0 ≤ x * y := Int.mul_nonneg_of_nonpos_of_nonpos (by omega) (by omega)
   simp [h1, h2]; omega
  ·have : x * y ≤ 0 := Int.mul_nonpos_of_nonpos_of_nonneg (by omega) (by omega)
   simp [h1, h2]; omega
  ·have : x * y ≤ 0 := Int.mul_nonpos_of_nonneg_of_nonpos (by omega) (by omega)
   simp [h1, h2]; omega
  ·have : 0 ≤ x * y := Int.mul_nonneg (by omega) (by omega)
   simp [h1, h2]; omega)
 have HD := hH hd
 clear hA hB hx hy hd
 go_enter Tryz.func202, Tryz.ntmps202
 unfold wI U
 go_upto_region 1 with (fail)
 clear hW0
 refine cG ?_
 refine calm_aa (k := 4) (d := 6) (st := 6) (x := (.tmp 16)) (u := U a) (T := 76) (k' := 5) (d' := 7) (st' := 7) (x' := (.tmp 18)) (u' := U b) (T' := 76) (by kernel_rfl) (by rfl) (by rfl) info_wide rfl rfl (by first | exact wI_one _ | exact U_one _) (by rfl) (by rfl) info_wide rfl rfl (by first | exact wI_one _ | exact U_one _) ?_
 refine cX ?_ ?_ (by intro wz hSw; obtain ⟨q0, q1, q2, q3⟩ := c4 (B0.y hSw.1); go_simp; all_goals with_reducible rfl) ?_
 refine cC ?_ ?_ ?_ ?_ ?hc1_1 ?_
 case hc1_1 => (intro w hSw; exact Hsa.out w)
 refine cX ?_ ?_ (by intro wz hSw; obtain ⟨q0, q1, q2, q3⟩ := c4 (B1.y hSw.1); go_simp; all_goals with_reducible rfl) ?_
 refine cC ?_ ?_ ?_ ?_ ?hc1_3 ?_
 case hc1_3 => (intro w hSw; exact Hsb.out w)
 refine cB ?_
 refine cB ?_
 refine cB ?_
 refine cB ?_
 refine calm_end ?_
 refine ⟨⟨(by rfl), (by rfl)⟩, fun b4 b5 w1 hb4 hb5 hbne5 hS D0 D1 => ?_⟩
 have hl4_0 : w.heap.size < b4 := lL B0.lt hb4
 have hl5_0 : w.heap.size < b5 := lL B0.lt hb5
 have hl4_1 : w.heap.size + 1 < b4 := lL B1.lt hb4
 have hl5_1 : w.heap.size + 1 < b5 := lL B1.lt hb5
 have hl4_2 : w.heap.size + 1 + 1 < b4 := lL B2.lt hb4
 have hl5_2 : w.heap.size + 1 + 1 < b5 := lL B2.lt hb5
 have hS := sO hS
 have B0 := B0.y hS
 have B1 := B1.y hS
 have B2 := B2.y hS
 have B4 : Blk w1 b4 (uL a) 76 := D0
 have B5 : Blk w1 b5 (uL b) 76 := D1
 have hz1 : W0.heap.size ≤ w1.heap.size := hS.size
 have HB := gS HB hS
 clear hS D0 D1
 have hat3 : ∀ w, (Instr.arrayAt 75 (.slice (some ⟨w1.heap.size, 4, none⟩) 4 4)).run Tryz.prog w = .ok (.pointer (some ⟨w1.heap.size, 4, none⟩)) w := fun w => run_arrayAt w _ _ 4 _ 4 4 Tryz.underlying75 (Nat.le_refl _)
 have hat4 : ∀ w, (Instr.arrayAt 76 (.slice (some ⟨w1.heap.size, 0, none⟩) 4 8)).run Tryz.prog w = .ok (.pointer (some ⟨w1.heap.size, 0, none⟩)) w := fun w => run_arrayAt w _ _ 4 _ 4 8 Tryz.underlying76 (Nat.le_refl _)
 have w1lt3 := B4.lt
 have w1lt4 := B5.lt
 obtain ⟨W1, hW1⟩ : ∃ W1, w1.alloc (.cells #[.int .u64 0, .int .u64 0, .int .u64 0, .int .u64 0, .int .u64 0, .int .u64 0, .int .u64 0, .int .u64 0] 326) = W1 := ⟨_, rfl⟩
 have B9 : Blk W1 w1.heap.size (prodL (rowM a b 0)) 326 := by rw [← hW1, rowM_zero, prodL_zero]; exact Blk.new _ _ _
 have B0 : Blk W1 _ _ _ := hW1 ▸ B0.alloc _
 have B1 : Blk W1 _ _ _ := hW1 ▸ B1.alloc _
 have B2 : Blk W1 _ _ _ := hW1 ▸ B2.alloc _
 have B4 : Blk W1 _ _ _ := hW1 ▸ B4.alloc _
 have B5 : Blk W1 _ _ _ := hW1 ▸ B5.alloc _
 have HB : Below w.heap.size w W1 := hW1 ▸ HB.alloc (by omega) _
 have hzz : w1.heap.size < W1.heap.size := by rw [← hW1]; simp
 have ne0 : w.heap.size < w1.heap.size := by omega
 have ne1 : w.heap.size + 1 < w1.heap.size := by omega
 have ne2 : w.heap.size + 1 + 1 < w1.heap.size := by omega
 have ne3 : b4 < w1.heap.size := by have := w1lt3; omega
 have ne4 : b5 < w1.heap.size := by have := w1lt4; omega
 go_wp2_with fail
 go_loopg [19] 4 (fun q s19 wx => ∃ i : Nat, i + q = 4 ∧ s19 = .int .i64 (i : Int) ∧ Hid (Blk wx w.heap.size (uL (tc x)) 76) ∧ Hid (Blk wx (w.heap.size + 1) (uL (tc y)) 76) ∧ Hid (Blk wx (w.heap.size + 1 + 1) (uL 0) 76) ∧ Hid (Blk wx b4 (uL a) 76) ∧ Hid (Blk wx b5 (uL b) 76) ∧ Hid (Blk wx w1.heap.size (prodL (rowM a b i)) 326) ∧ Hid (Below w.heap.size w wx) ∧ w1.heap.size < wx.heap.size)
 case atStart => exact ⟨0, by omega, rfl, B0, B1, B2, B4, B5, B9, HB, hzz⟩
 case round =>
  clear B0 B1 B2 B4 B5 B9 HB hzz hW1
  obtain ⟨i, hiq, rfl, H0, H1, H2, H3, H4', H9, HBh, hzz⟩ := hrel
  cases gk with
  | zero =>
   have hin : i = 4 := by omega
   subst hin
   have B0 := H0.out
   have B1 := H1.out
   have B2 := H2.out
   have B3 := H3.out
   have B4 := H4'.out
   have B9 : Blk wr w1.heap.size (prodL (a * b)) 326 := by have := H9.out; rwa [rowM_four a b HA.out] at this
   have HB := HBh.out
   obtain ⟨p0, p1, p2, p3, p4, p5, p6, p7⟩ := cells8 B9
   have hz4 : lb (a * b) 4 = 0 ∧ lb (a * b) 5 = 0 ∧ lb (a * b) 6 = 0 ∧ lb (a * b) 7 = 0 := by
    have h4 : a * b < B ^ 4 := HP.out.1
    exact ⟨lb_zero_le h4 (by omega), lb_zero_le h4 (by omega), lb_zero_le h4 (by omega), lb_zero_le h4 (by omega)⟩
   replace p4 : wr.cell? ⟨w1.heap.size, 4, none⟩ = some (.int .u64 0) := by rw [hz4.1] at p4; exact p4
   replace p5 : wr.cell? ⟨w1.heap.size, 5, none⟩ = some (.int .u64 0) := by rw [hz4.2.1] at p5; exact p5
   replace p6 : wr.cell? ⟨w1.heap.size, 6, none⟩ = some (.int .u64 0) := by rw [hz4.2.2.1] at p6; exact p6
   replace p7 : wr.cell? ⟨w1.heap.size, 7, none⟩ = some (.int .u64 0) := by rw [hz4.2.2.2] at p7; exact p7
   have he : ∀ w, (Op.equalIn 10000 75 (.agg #[.int .u64 0, .int .u64 0, .int .u64 0, .int .u64 0]) (.agg #[.int .u64 0, .int .u64 0, .int .u64 0, .int .u64 0])).run Tryz.prog w = .ok true w := fun w => eqIn_4 0 0 0 0 0 0 0 0 w
   clear H0 H1 H2 H3 H4' H9 HBh hz4
   go_upto_region 22 with (fail)
   refine cG ?_
   refine calm_k (b := w.heap.size + 1 + 1) (o := 0) (st := 11) (ado := .tmp 4) (x := (.tmp 84)) (u := wI (x * y)) (by kernel_rfl) B2 (by rfl) size_wide (by first | exact wI_one _ | exact U_one _) (by first | exact Nat.le_refl _ | (simp; done) | decide) ?_
   refine cW ?_ ?_ ?_
   refine cW ?_ ?_ ?_
   refine cX ?_ ?_ (by intro wz hSw; obtain ⟨q0, q1, q2, q3, q4, q5, q6, q7⟩ := cells8 (B9.y hSw.1); go_simp; all_goals with_reducible rfl) ?_
   refine cX ?_ ?_ (by intro wz hSw; obtain ⟨q0, q1, q2, q3⟩ := c4 (B0.y hSw.1); go_simp; all_goals with_reducible rfl) ?_
   refine cC ?_ ?_ ?_ ?_ ?hc3_4 ?_
   case hc3_4 => (intro w hSw; exact wideNeg_b x bx Hx.out Hbx.out w)
   refine cX ?_ ?_ (by intro wz hSw; obtain ⟨q0, q1, q2, q3⟩ := c4 (B1.y hSw.1); go_simp; all_goals with_reducible rfl) ?_
   refine cC ?_ ?_ ?_ ?_ ?hc3_6 ?_
   case hc3_6 => (intro w hSw; exact wideNeg_b y cy Hy.out Hby.out w)
   refine cW ?_ ?_ ?_
   refine cC ?_ ?_ ?_ ?_ ?hc3_8 ?_
   case hc3_8 => (intro w hSw; exact wideSigned_any (a * b) (bx != cy) (x * y) HP.out.1 HD.out HP.out.2 w)
   refine cW ?_ ?_ ?_
   refine cW ?_ ?_ ?_
   refine cB ?_
   refine cW ?_ ?_ ?_
   refine calm_end ?_
   refine ⟨(by rfl), (by rfl), fun w2 hS D0 => ?_⟩
   have B0 := B0.y hS
   have B1 := B1.y hS
   have B3 := B3.y hS
   have B4 := B4.y hS
   have B9 := B9.y hS
   have B2 : Blk w2 (w.heap.size + 1 + 1) (uL (tc (x * y))) 76 := blk_whole D0 rfl
   have hz2 : wr.heap.size ≤ w2.heap.size := hS.size
   have HB := gS HB hS
   clear hS D0
   go_wp2_with fail
   obtain ⟨s0_0, s0_1, s0_2, s0_3⟩ := c4 (B2)
   refine bodyPost_ret (v := .tuple #[wI (x * y), .bool true]) (by simp [results, Tryz.results202, go_sem, s0_0, s0_1, s0_2, s0_3]) rfl ⟨rfl, HB⟩
  | succ q =>
   have hi4 : i < 4 := by omega
   go_wp2_with fail
   go_loopg [10, 22] 4 (fun r s10 s22 wx => ∃ k : Nat, k + r = 4 ∧ s22 = .int .i64 (k : Int) ∧ s10 = .int .u64 ((rowC a b i k : Nat) : Int) ∧ Hid (Blk wx w.heap.size (uL (tc x)) 76) ∧ Hid (Blk wx (w.heap.size + 1) (uL (tc y)) 76) ∧ Hid (Blk wx (w.heap.size + 1 + 1) (uL 0) 76) ∧ Hid (Blk wx b4 (uL a) 76) ∧ Hid (Blk wx b5 (uL b) 76) ∧ Hid (Blk wx w1.heap.size (rowL a b i k) 326) ∧ Hid (Below w.heap.size w wx) ∧ w1.heap.size < wx.heap.size)
   case atStart => exact ⟨0, by omega, rfl, by rw [rowC_zero]; rfl, H0, H1, H2, H3, H4', by rw [rowL_zero]; exact H9, HBh, hzz⟩
   case round =>
    clear H0 H1 H2 H3 H4' H9 HBh hzz
    obtain ⟨k, hkr, rfl, rfl, H0, H1, H2, H3, H4', H9, HBh, hzz⟩ := hrel
    cases gk with
    | zero =>
     have hkn : k = 4 := by omega
     subst hkn
     have hik : (i : Int) + 4 = ((i + 4 : Nat) : Int) := by omega
     have t1 : (0 : Int) ≤ (i : Int) := by omega
     have t2 : (i : Int) < 4 := by omega
     have t3 : (0 : Int) ≤ ((i + 4 : Nat) : Int) := by omega
     have t4 : ((i + 4 : Nat) : Int) < 8 := by omega
     obtain ⟨n, hn⟩ : ∃ n, n = i + 4 := ⟨_, rfl⟩
     rw [← hn] at hik t3 t4
     obtain ⟨u, hu⟩ := List.getElem?_eq_some_iff.2 ⟨(show n < (rowL a b i 4).length by unfold rowL; simp; omega), rfl⟩ |> fun h => (⟨_, h⟩ : ∃ u, (rowL a b i 4)[n]? = some u)
     have q0 := H9.out.cell hu
     have f0 : ∀ j, wr.frozen? ⟨w1.heap.size, j, none⟩ = false := fun j => H9.out.frozen j
     have HL := hH (rowL_end a b i hi4 HB4.out)
     obtain ⟨C, hC⟩ : ∃ C, C = rowC a b i 4 := ⟨_, rfl⟩
     rw [← hC, ← hn] at HL
     rw [← hC]
     have HN := hH hn
     clear hn hC hu
     go_wp2_with fail
     have K9 := H9.out.set n (Go.Wd.u64 C)
     rw [HL.out] at K9
     have K0 := H0.out.other ⟨w1.heap.size, n, none⟩ (by show w.heap.size ≠ w1.heap.size; omega) (Go.Wd.u64 C)
     have K1 := H1.out.other ⟨w1.heap.size, n, none⟩ (by show w.heap.size + 1 ≠ w1.heap.size; omega) (Go.Wd.u64 C)
     have K2 := H2.out.other ⟨w1.heap.size, n, none⟩ (by show w.heap.size + 1 + 1 ≠ w1.heap.size; omega) (Go.Wd.u64 C)
     have K3 := H3.out.other ⟨w1.heap.size, n, none⟩ (by show b4 ≠ w1.heap.size; omega) (Go.Wd.u64 C)
     have K4 := H4'.out.other ⟨w1.heap.size, n, none⟩ (by show b5 ≠ w1.heap.size; omega) (Go.Wd.u64 C)
     have KB := HBh.out.setCell (p := ⟨w1.heap.size, n, none⟩) (by show w.heap.size ≤ w1.heap.size; omega) (Go.Wd.u64 C)
     go_roundg q
     case measure => omega
     case rel => exact ⟨i + 1, by omega, by go_num, K0, K1, K2, K3, K4, K9, KB, by simpa [World.setCell] using hzz⟩
    | succ r =>
     have hk4 : k < 4 := by omega
     obtain ⟨hi0, Hh0⟩ : ∃ n, Hid (n = lb a i * lb b k / 18446744073709551616) := ⟨_, hH rfl⟩
     obtain ⟨lo0, Hl0⟩ : ∃ n, Hid (n = lb a i * lb b k % 18446744073709551616) := ⟨_, hH rfl⟩
     obtain ⟨m, Hm⟩ : ∃ n, Hid (n = lb (rowM a b i) (i + k)) := ⟨_, hH rfl⟩
     obtain ⟨c, Hc⟩ : ∃ n, Hid (n = rowC a b i k) := ⟨_, hH rfl⟩
     have hm : m < 18446744073709551616 := by rw [Hm.out]; exact lb_lt _ _
     have hc : c < 18446744073709551616 := by rw [Hc.out]; exact rowC_lt _ _ _ _
     have hlo : lo0 < 18446744073709551616 := by rw [Hl0.out]; exact Nat.mod_lt _ (by decide)
     have hst := row_step (lb a i * lb b k) m c hm hc
     simp only [B] at hst
     rw [← Hh0.out, ← Hl0.out] at hst
     have hT : c + (m + lb a i * lb b k) = rowT a b i k := by rw [Hc.out, Hm.out]; rfl
     rw [hT] at hst
     have hTl := rowT_lt a b i k (rowC_lt a b i k)
     obtain ⟨m1, Hm1⟩ : ∃ n, Hid (n = (lo0 + m) / 18446744073709551616) := ⟨_, hH rfl⟩
     obtain ⟨s1, Hs1⟩ : ∃ n, Hid (n = (lo0 + m) % 18446744073709551616) := ⟨_, hH rfl⟩
     obtain ⟨m2, Hm2⟩ : ∃ n, Hid (n = (s1 + c) / 18446744073709551616) := ⟨_, hH rfl⟩
     obtain ⟨s2, Hs2⟩ : ∃ n, Hid (n = (s1 + c) % 18446744073709551616) := ⟨_, hH rfl⟩
     rw [← Hm1.out, ← Hs1.out, ← Hm2.out, ← Hs2.out] at hst
     have hs1 : s1 < 18446744073709551616 := by rw [Hs1.out]; exact Nat.mod_lt _ (by decide)
     have hnc : rowT a b i k / B = rowC a b i (k + 1) := (rowC_succ a b i k).symm
     have hcl := rowC_lt a b i (k + 1)
     have HC2 : Hid (hi0 + m1 + m2 = rowC a b i (k + 1)) := hH (hst.2.trans hnc)
     have hb2 : hi0 + m1 + m2 < 18446744073709551616 := by rw [HC2.out]; exact hcl
     have HS2 : Hid (s2 = rowT a b i k % B) := hH hst.1
     have Hmul : Hid (∀ w, Calls Tryz.prog 238 #[Go.Wd.u64 (lb a i), Go.Wd.u64 (lb b k)] w fun e w' => e = .returned (.tuple #[Go.Wd.u64 hi0, Go.Wd.u64 lo0]) ∧ Below w.heap.size w w') := hH (by rw [Hh0.out, Hl0.out]; exact mul64_b _ _ (lb_lt a i) (lb_lt b k))
     have hadd1 : ∀ wx : World, (callFunc 239 #[.int .u64 (lo0 : Int), .int .u64 (m : Int), .int .u64 0]).run Tryz.prog wx = .ok (.value (.tuple #[.int .u64 (s1 : Int), .int .u64 (m1 : Int)])) wx := fun wx => by
      have := add64_any lo0 m 0 (by omega) wx
      rw [Nat.add_zero, ← Hm1.out, ← Hs1.out] at this; exact this
     have hadd2 : ∀ wx : World, (callFunc 239 #[.int .u64 (s1 : Int), .int .u64 (c : Int), .int .u64 0]).run Tryz.prog wx = .ok (.value (.tuple #[.int .u64 (s2 : Int), .int .u64 (m2 : Int)])) wx := fun wx => by
      have := add64_any s1 c 0 (by omega) wx
      rw [Nat.add_zero, ← Hm2.out, ← Hs2.out] at this; exact this
     rw [← Hc.out]
     obtain ⟨n, hn⟩ : ∃ n, n = i + k := ⟨_, rfl⟩
     have hik : (i : Int) + (k : Int) = (n : Int) := by omega
     have t1 : (0 : Int) ≤ (i : Int) := by omega
     have t2 : (i : Int) < 4 := by omega
     have t5 : (0 : Int) ≤ (k : Int) := by omega
     have t6 : (k : Int) < 4 := by omega
     have t3 : (0 : Int) ≤ (n : Int) := by omega
     have t4 : (n : Int) < 8 := by omega
     have hq := rowL_at a b i k (by omega)
     rw [← Hm.out, ← hn] at hq
     have HQ := hH hq
     have HL := rowL_step a b i k (by omega)
     rw [← HS2.out, ← hn] at HL
     have HL := hH HL
     have B0 := H0.out
     have B1 := H1.out
     have B2 := H2.out
     have B3 := H3.out
     have B4 := H4'.out
     have B9 := H9.out
     have HB := HBh.out
     clear H0 H1 H2 H3 H4' H9 HBh hst hT hTl hnc hcl hn hq
     go_upto_region 10 with (fail)
     refine cG ?_
     refine cN ?_
     refine cW ?_ ?_ ?_
     refine cW ?_ ?_ ?_
     refine cX ?_ ?_ (by intro wz hSw; have q0 := (B3.y hSw.1).cell (uL_at a i hi4); go_simp; all_goals with_reducible rfl) ?_
     refine cW ?_ ?_ ?_
     refine cW ?_ ?_ ?_
     refine cX ?_ ?_ (by intro wz hSw; have q0 := (B4.y hSw.1).cell (uL_at b k hk4); go_simp; all_goals with_reducible rfl) ?_
     refine cC ?_ ?_ ?_ ?_ ?hc2_6 ?_
     case hc2_6 => (intro w hSw; exact Hmul.out w)
     refine cW ?_ ?_ ?_
     refine cW ?_ ?_ ?_
     refine cW ?_ ?_ ?_
     refine cW ?_ ?_ ?_
     refine cW ?_ ?_ ?_
     refine calm_end ?_
     intro w2 hS
     have hS := sO hS
     have B0 := B0.y hS
     have B1 := B1.y hS
     have B2 := B2.y hS
     have B3 := B3.y hS
     have B4 := B4.y hS
     have B9 := B9.y hS
     have hz2 : wr.heap.size ≤ w2.heap.size := hS.size
     have HB := gS HB hS
     clear hS
     have q0 := B9.cell HQ.out
     have f0 : ∀ j, w2.frozen? ⟨w1.heap.size, j, none⟩ = false := fun j => B9.frozen j
     go_wp2_with fail
     have K9 := B9.set n (Go.Wd.u64 s2)
     rw [HL.out] at K9
     have K0 := B0.other ⟨w1.heap.size, n, none⟩ (by show w.heap.size ≠ w1.heap.size; omega) (Go.Wd.u64 s2)
     have K1 := B1.other ⟨w1.heap.size, n, none⟩ (by show w.heap.size + 1 ≠ w1.heap.size; omega) (Go.Wd.u64 s2)
     have K2 := B2.other ⟨w1.heap.size, n, none⟩ (by show w.heap.size + 1 + 1 ≠ w1.heap.size; omega) (Go.Wd.u64 s2)
     have K3 := B3.other ⟨w1.heap.size, n, none⟩ (by show b4 ≠ w1.heap.size; omega) (Go.Wd.u64 s2)
     have K4 := B4.other ⟨w1.heap.size, n, none⟩ (by show b5 ≠ w1.heap.size; omega) (Go.Wd.u64 s2)
     have KB := HB.setCell (p := ⟨w1.heap.size, n, none⟩) (by show w.heap.size ≤ w1.heap.size; omega) (Go.Wd.u64 s2)
     have hc3 : (hi0 : Int) + (m1 : Int) + (m2 : Int) = ((rowC a b i (k + 1) : Nat) : Int) := by rw [← HC2.out]; omega
     go_roundg r
     case measure => omega
     case rel => exact ⟨k + 1, by omega, by go_num, by rw [hc3], K0, K1, K2, K3, K4, K9, KB, by simp [World.setCell]; omega⟩
end Go.Proofs.YtlkhneiccjhgdaaGreat
namespace Go.Wd
open Go
def zi (n : Nat) : Int := if n < H4 then (n : Int) else (n : Int) - B4
theorem zi_fit {n : Nat} (h : n < B4) : Fit (zi n) := by
 unfold zi Fit
 simp only [B4, H4] at h ⊢
 split <;> omega
theorem zi_tc {n : Nat} (h : n < B4) : tc (zi n) = n := by
 have h1 := tc_cast (zi n)
 unfold zi at h1 ⊢
 simp only [B4, H4] at h h1 ⊢
 split at h1 <;> split <;> omega
theorem zi_neg {n : Nat} (h : n < B4) : decide (zi n < 0) = decide (H4 ≤ n) := by
 unfold zi
 rw [decide_eq_decide]
 simp only [B4, H4] at h ⊢
 split <;> omega
theorem U_zi {n : Nat} (h : n < B4) : U n = wI (zi n) := by unfold wI; rw [zi_tc h]
def bit (a i : Nat) : Nat := a / 2 ^ i % 2
theorem bit_lb (a i : Nat) : lb a (i / 64) / 2 ^ (i % 64) % 2 = bit a i := by
 unfold lb bit
 have e1 : i = 64 * (i / 64) + i % 64 := (Nat.div_add_mod i 64).symm
 have e2 : B ^ (i / 64) = 2 ^ (64 * (i / 64)) := by rw [Nat.pow_mul]
 rw [e2]
 conv => rhs; rw [e1, Nat.pow_add, ← Nat.div_div_eq_div_mul]
 generalize a / 2 ^ (64 * (i / 64)) = x
 have hs : i % 64 < 64 := Nat.mod_lt _ (by decide)
 generalize i % 64 = s at hs
 have e3 : B = 2 ^ s * 2 ^ (64 - s) := by rw [← Nat.pow_add, show s + (64 - s) = 64 by omega]
 rw [e3, Nat.mod_mul_right_div_self]
 obtain ⟨d, hd⟩ : ∃ d, 64 - s = d + 1 := ⟨63 - s, by omega⟩
 rw [hd, Nat.pow_succ, Nat.mul_comm, Nat.mod_mul_right_mod]
def qA (a b i : Nat) : Nat := a / 2 ^ i / b
def rA (a b i : Nat) : Nat := a / 2 ^ i % b
theorem shift_succ (a i : Nat) : a / 2 ^ i = 2 * (a / 2 ^ (i + 1)) + bit a i := by
 unfold bit
 rw [Nat.pow_succ, ← Nat.div_div_eq_div_mul]
 have := Nat.div_add_mod (a / 2 ^ i) 2
 omega
theorem bit_le (a i : Nat) : bit a i ≤ 1 := by unfold bit; omega
theorem rA_lt (a b i : Nat) (h : 0 < b) : rA a b i < b := Nat.mod_lt _ h
theorem step_eq (a b i : Nat) (h : 0 < b) : 2 * rA a b (i + 1) + bit a i + b * (2 * qA a b (i + 1)) = a / 2 ^ i := by
 unfold rA qA
 have := Nat.div_add_mod (a / 2 ^ (i + 1)) b
 have h2 := shift_succ a i
 rw [h2]
 have e : b * (2 * (a / 2 ^ (i + 1) / b)) = 2 * (b * (a / 2 ^ (i + 1) / b)) := by ac_rfl
 rw [e]; omega
theorem step_more (a b i : Nat) (h : 0 < b) (hge : b ≤ 2 * rA a b (i + 1) + bit a i) : qA a b i = 2 * qA a b (i + 1) + 1 ∧ rA a b i = 2 * rA a b (i + 1) + bit a i - b := by
 have e := step_eq a b i h
 have hr := rA_lt a b (i + 1) h
 have hb := bit_le a i
 have e2 : a / 2 ^ i = (2 * rA a b (i + 1) + bit a i - b) + b * (2 * qA a b (i + 1) + 1) := by rw [Nat.mul_add, Nat.mul_one]; omega
 constructor
 ·unfold qA at e2 ⊢
  rw [e2, Nat.add_mul_div_left _ _ h, Nat.div_eq_of_lt (by omega)]; omega
 ·unfold rA at e2 hr ⊢
  rw [e2, Nat.add_mul_mod_self_left, Nat.mod_eq_of_lt (by omega)]
theorem step_less (a b i : Nat) (h : 0 < b) (hlt : 2 * rA a b (i + 1) + bit a i < b) : qA a b i = 2 * qA a b (i + 1) ∧ rA a b i = 2 * rA a b (i + 1) + bit a i := by
 have e := step_eq a b i h
 constructor
 ·unfold qA at e ⊢
  rw [← e, Nat.add_mul_div_left _ _ h, Nat.div_eq_of_lt hlt]; omega
 ·unfold rA at e hlt ⊢
  rw [← e, Nat.add_mul_mod_self_left, Nat.mod_eq_of_lt hlt]
theorem qA_two (a b i : Nat) (hb : 0 < b) : 2 * qA a b (i + 1) ≤ a := by
 have h := step_eq a b i hb
 have h2 : a / 2 ^ i ≤ a := Nat.div_le_self _ _
 have h3 : 2 * qA a b (i + 1) ≤ b * (2 * qA a b (i + 1)) := Nat.le_mul_of_pos_left _ hb
 omega
theorem qA_top (a b : Nat) (h : a < B4) : qA a b 256 = 0 ∧ rA a b 256 = 0 := by
 have e : a / 2 ^ 256 = 0 := Nat.div_eq_of_lt (by
   have : B4 = 2 ^ 256 := by decide
   omega)
 unfold qA rA
 rw [e]; simp
theorem qA_zero (a b : Nat) : qA a b 0 = a / b ∧ rA a b 0 = a % b := by unfold qA rA; simp
theorem lb_odd0 (q : Nat) : lb (2 * q + 1) 0 = lb (2 * q) 0 + 1 := by
 unfold lb; simp only [B, Nat.reducePow, Nat.div_one]; omega
theorem lb_odd (q i : Nat) (hi : 0 < i) : lb (2 * q + 1) i = lb (2 * q) i := by
 unfold lb
 obtain ⟨d, rfl⟩ : ∃ d, i = d + 1 := ⟨i - 1, by omega⟩
 have e : B ^ (d + 1) = 2 * (9223372036854775808 * B ^ d) := by
  rw [Nat.pow_succ, ← Nat.mul_assoc, Nat.mul_comm]
 have h : (2 * q + 1) / B ^ (d + 1) = 2 * q / B ^ (d + 1) := by
  have t : ∀ n, n / (2 * (9223372036854775808 * B ^ d)) = n / 2 / (9223372036854775808 * B ^ d) := fun n => (Nat.div_div_eq_div_mul n 2 _).symm
  rw [e, t, t, show (2 * q + 1) / 2 = 2 * q / 2 by omega]
 rw [h]
theorem uL_odd (q : Nat) : (uL (2 * q)).set 0 (u64 (lb (2 * q) 0 + 1)) = uL (2 * q + 1) := by
 unfold uL
 rw [lb_odd0, lb_odd q 1 (by omega), lb_odd q 2 (by omega), lb_odd q 3 (by omega)]
 rfl
end Go.Wd
namespace Go.Proofs.YtlkhneiccjhgdaaGreat
open Go.RowKit Go.Rg Go.Wd
attribute [local go_sem] Oper.semAt_some
theorem wideNeg_U (n : Nat) (b : Bool) (hn : n < B4) (h : decide (H4 ≤ n) = b) (w : World) :
  Calls Tryz.prog 200 #[U n] w fun e w' => e = .returned (.bool b) ∧ Below w.heap.size w w' := by
 rw [U_zi hn]; exact wideNeg_b _ b (zi_fit hn) (by rw [zi_neg hn]; exact h) w
theorem wideTurned_U (n : Nat) (hn : n < B4) (w : World) :
  Calls Tryz.prog 208 #[U n] w fun e w' => e = .returned (U (B4 - 1 - n)) ∧ Below w.heap.size w w' := by
 have e := tc_not (zi n)
 rw [zi_tc hn] at e
 rw [U_zi hn, e]; exact wideTurned_any _ w
theorem widePlus_U (a b c n : Nat) (hc : c ≤ 1) (h : (a + b + c) % B4 = n % B4) (w : World) :
  Calls Tryz.prog 207 #[U a, U b, u64 c] w fun e w' => e = .returned (U n) ∧ Below w.heap.size w w' := by
 rw [← U_eq h]; exact widePlus_any a b c hc w
theorem wideBelow_U (a b : Nat) (r : Bool) (ha : a < B4) (hb : b < B4) (h : decide (a < b) = r) (w : World) :
  Calls Tryz.prog 201 #[U a, U b] w fun e w' => e = .returned (.bool r) ∧ Below w.heap.size w w' := by
 rw [← h]; exact wideBelow_any a b ha hb w
theorem and_one (x s : Nat) (hx : x < 18446744073709551616) : bits .and .u64 ((x : Int) / 2 ^ s) 1 = ((x / 2 ^ s % 2 : Nat) : Int) := by
 have e : (x : Int) / 2 ^ s = ((x / 2 ^ s : Nat) : Int) := by simp
 have := bits_and_u64_nat (x / 2 ^ s) 1 (Nat.lt_of_le_of_lt (Nat.div_le_self _ _) hx) (by decide)
 rw [e, show (1 : Int) = ((1 : Nat) : Int) from rfl, this, Nat.and_one_is_mod]
theorem or_one (q : Nat) : bits .or .u64 ((lb (2 * q) 0 : Nat) : Int) 1 = ((lb (2 * q) 0 + 1 : Nat) : Int) := by
 have h := lb_lt (2 * q) 0
 have := bits_or_u64_nat (lb (2 * q) 0) 1 h (by decide)
 rw [show (1 : Int) = ((1 : Nat) : Int) from rfl, this]
 have e : lb (2 * q) 0 = 2 ^ 1 * (lb (2 * q) 0 / 2) := by unfold lb; simp only [B, Nat.reducePow, Nat.div_one]; omega
 rw [e, Nat.two_pow_add_eq_or_of_lt (by decide)]
set_option maxHeartbeats 2000000 in
theorem wideDivided_any (a b : Nat) (ha : a < B4) (hb : b < B4) (h0 : 0 < b) (w : World) :
  Calls Tryz.prog 205 #[U a, U b] w fun e w' => e = .returned (.tuple #[U (a / b), U (a % b)]) ∧ Below w.heap.size w w' := by
 obtain ⟨W0, hW0⟩ : ∃ W0, [.cells #[u64 (lb a 0), u64 (lb a 1), u64 (lb a 2), u64 (lb a 3)] 76, .cells #[u64 (lb b 0), u64 (lb b 1), u64 (lb b 2), u64 (lb b 3)] 76, .cells #[.int .u64 0, .int .u64 0, .int .u64 0, .int .u64 0] 76, .cells #[.int .u64 0, .int .u64 0, .int .u64 0, .int .u64 0] 76].foldl World.alloc w = W0 := ⟨_, rfl⟩
 have B0 : Blk W0 (w.heap.size) (uL a) 76 := Blk.allocs _ hW0 0 rfl
 have B1 : Blk W0 (w.heap.size + 1) (uL b) 76 := Blk.allocs _ hW0 1 rfl
 have B2 : Blk W0 (w.heap.size + 1 + 1) (uL 0) 76 := Blk.allocs _ hW0 2 rfl
 have B3 : Blk W0 (w.heap.size + 1 + 1 + 1) (uL 0) 76 := Blk.allocs _ hW0 3 rfl
 have HB := aB hW0
 have hsz : w.heap.size + 4 ≤ W0.heap.size := aZ hW0
 simp only [List.foldl_cons, List.foldl_nil] at hW0
 have HA := hH ha
 have HB4 := hH hb
 have H0 := hH h0
 have HT := hH (qA_top a b ha)
 clear ha hb h0
 unfold U
 go_enter Tryz.func205, Tryz.ntmps205
 go_wp2_with fail
 go_loopg [6] 256 (fun i s6 wx => i ≤ 256 ∧ s6 = .int .i64 ((i : Int) - 1) ∧ Hid (Blk wx w.heap.size (uL a) 76) ∧ Hid (Blk wx (w.heap.size + 1) (uL b) 76) ∧ Hid (Blk wx (w.heap.size + 1 + 1) (uL (qA a b i)) 76) ∧ Hid (Blk wx (w.heap.size + 1 + 1 + 1) (uL (rA a b i)) 76) ∧ Hid (Below w.heap.size w wx) ∧ w.heap.size + 4 ≤ wx.heap.size)
 case atStart => exact ⟨by omega, rfl, B0, B1, by rw [HT.out.1]; exact B2, by rw [HT.out.2]; exact B3, HB, hsz⟩
 case round =>
  clear B0 B1 B2 B3 HB hsz hW0
  obtain ⟨hi6, rfl, G0, G1, G2, G3, HB, hsz⟩ := hrel
  have B0 := G0.out
  have B1 := G1.out
  have HB := HB.out
  cases gk with
  | zero =>
   have e := qA_zero a b
   have B2 : Blk wr (w.heap.size + 1 + 1) (uL (a / b)) 76 := by have := G2.out; rwa [e.1] at this
   have B3 : Blk wr (w.heap.size + 1 + 1 + 1) (uL (a % b)) 76 := by have := G3.out; rwa [e.2] at this
   clear G0 G1 G2 G3 e
   go_upto_region 10 with (fail)
   refine cG ?_
   refine calm_kk (b := w.heap.size + 1 + 1) (o := 0) (st := 2) (ado := .tmp 4) (x := (.tmp 43)) (u := U (a / b)) (b' := w.heap.size + 1 + 1 + 1) (o' := 0) (st' := 3) (ado' := .tmp 5) (x' := (.tmp 44)) (u' := U (a % b)) (by kernel_rfl) B2 B3 (by omega) (by rfl) size_wide (by first | exact wI_one _ | exact U_one _) (by first | exact Nat.le_refl _ | (simp; done) | decide) (by rfl) size_wide (by first | exact wI_one _ | exact U_one _) (by first | exact Nat.le_refl _ | (simp; done) | decide) ?_
   refine cX ?_ ?_ (by intro wz hSw; obtain ⟨q0, q1, q2, q3⟩ := c4 (show Blk wz (w.heap.size + 1 + 1) (uL (a / b)) 76 from hSw.2 _ (List.mem_cons_self ..) rfl ⟨_, rfl, by kernel_rfl⟩); go_simp; all_goals with_reducible rfl) ?_
   refine cX ?_ ?_ (by intro wz hSw; obtain ⟨q0, q1, q2, q3⟩ := c4 (show Blk wz (w.heap.size + 1 + 1 + 1) (uL (a % b)) 76 from hSw.2 _ (List.mem_cons_of_mem _ (List.mem_singleton.2 rfl)) rfl ⟨_, rfl, by kernel_rfl⟩); go_simp; all_goals with_reducible rfl) ?_
   refine cB ?_
   refine cB ?_
   refine calm_end ?_
   refine ⟨⟨⟨(by rfl), (by rfl)⟩, ⟨(by rfl), (by rfl)⟩⟩, fun w1 hS D0 D1 => ?_⟩
   have B0 := B0.y hS
   have B1 := B1.y hS
   have B2 : Blk w1 (w.heap.size + 1 + 1) (uL (a / b)) 76 := blk_whole D0 rfl
   have B3 : Blk w1 (w.heap.size + 1 + 1 + 1) (uL (a % b)) 76 := blk_whole D1 rfl
   have hz1 : wr.heap.size ≤ w1.heap.size := hS.size
   have HB := gS HB hS
   clear hS D0 D1
   go_wp2_with fail
   obtain ⟨s0_0, s0_1, s0_2, s0_3⟩ := c4 (B2)
   obtain ⟨s1_0, s1_1, s1_2, s1_3⟩ := c4 (B3)
   refine bodyPost_ret (v := .tuple #[U (a / b), U (a % b)]) (by simp [results, Tryz.results205, go_sem, s0_0, s0_1, s0_2, s0_3, s1_0, s1_1, s1_2, s1_3]) rfl ⟨rfl, HB⟩
  | succ i =>
   have hir : i < 256 := by omega
   have e1 : ((i + 1 : Nat) : Int) - 1 = (i : Int) := by omega
   rw [e1]
   obtain ⟨q, Hq⟩ : ∃ q, Hid (q = qA a b (i + 1)) := ⟨_, hH rfl⟩
   obtain ⟨r, Hr0⟩ : ∃ r, Hid (r = rA a b (i + 1)) := ⟨_, hH rfl⟩
   obtain ⟨bt, Hb0⟩ : ∃ bt, Hid (bt = bit a i) := ⟨_, hH rfl⟩
   have B2 : Blk wr (w.heap.size + 1 + 1) (uL q) 76 := by rw [Hq.out]; exact G2.out
   have B3 : Blk wr (w.heap.size + 1 + 1 + 1) (uL r) 76 := by rw [Hr0.out]; exact G3.out
   have hrb : r < b := by rw [Hr0.out]; exact rA_lt _ _ _ H0.out
   have hb1 : bt ≤ 1 := by rw [Hb0.out]; exact bit_le _ _
   have hbB := HB4.out
   have h2q := qA_two a b i H0.out
   have haB := HA.out
   rw [← Hq.out] at h2q
   simp only [B4] at hbB haB
   have Hr : Hid (r < B4) := hH (by simp only [B4]; omega)
   have Hbt : Hid (bt ≤ 1) := hH hb1
   obtain ⟨rr, Hr1⟩ : ∃ rr, Hid (rr = (r + r + bt) % B4) := ⟨_, hH rfl⟩
   have Hrl : Hid (rr < B4) := hH (by rw [Hr1.out]; exact Nat.mod_lt _ (by decide))
   have Hrr : Hid ((r + r + bt) % B4 = rr % B4) := hH (by rw [Hr1.out, Nat.mod_mod])
   have Hqq : Hid ((q + q + 0) % B4 = (2 * q) % B4) := hH (by rw [Nat.add_zero, Nat.two_mul])
   obtain ⟨wd, Hwd⟩ : ∃ wd, Hid (wd = i / 64) := ⟨_, hH rfl⟩
   obtain ⟨sh, Hsh⟩ : ∃ sh, Hid (sh = i % 64) := ⟨_, hH rfl⟩
   have hwd : wd < 4 := by rw [Hwd.out]; omega
   have t0 : (0 : Int) ≤ (i : Int) := by omega
   have t1 : (i : Int) / 64 = (wd : Int) := by rw [Hwd.out]; omega
   have t2 : (i : Int) % 64 = (sh : Int) := by rw [Hsh.out]; omega
   have t1' : (i : Int).tdiv 64 = (wd : Int) := by rw [Hwd.out]; exact (Int.ofNat_tdiv i 64).symm
   have t2' : (i : Int).tmod 64 = (sh : Int) := by rw [Hsh.out]; exact (Int.ofNat_tmod i 64).symm
   have t3 : (0 : Int) ≤ (wd : Int) := by omega
   have t4 : (wd : Int) < 4 := by omega
   have t5 : (0 : Int) ≤ (sh : Int) := by omega
   have t6 : (sh : Int) ≤ 64 := by rw [Hsh.out]; omega
   have hbit := bit_lb a i
   rw [← Hwd.out, ← Hsh.out, ← Hb0.out] at hbit
   have t7 : bits .and .u64 ((lb a wd : Int) / 2 ^ sh) 1 = (bt : Int) := by rw [and_one _ _ (lb_lt _ _), hbit]
   have hmo : 2 * r + bt < 231584178474632390847141970017375815706539969331281128078915168015826259279872 := by omega
   have Hr1' : Hid (rr = if 2 * r + bt < 115792089237316195423570985008687907853269984665640564039457584007913129639936 then 2 * r + bt else 2 * r + bt - 115792089237316195423570985008687907853269984665640564039457584007913129639936) := hH (by
    rw [Hr1.out]; simp only [B4]; split <;> omega)
   have t8 : IntKind.i64.wrap (wd : Int) = (wd : Int) := IntWalk.i64_in _ (by omega)
   have t9 : IntKind.i64.wrap (sh : Int) = (sh : Int) := IntWalk.i64_in _ (by omega)
   clear G0 G1 G2 G3 hbit hmo
   by_cases hov : H4 ≤ r
   ·have Hov : Hid (decide (H4 ≤ r) = true) := hH (by simpa using hov)
    have hmm := step_more a b i H0.out (by rw [← Hr0.out, ← Hb0.out]; simp only [H4] at hov; omega)
    rw [← Hr0.out, ← Hb0.out, ← Hq.out] at hmm
    obtain ⟨r2, Hr20⟩ : ∃ r2, Hid (r2 = 2 * r + bt - b) := ⟨_, hH rfl⟩
    have Hr2 : Hid ((rr + (B4 - 1 - b) + 1) % B4 = r2 % B4) := hH (by
     have := Hr1'.out; simp only [H4] at hov; simp only [B4]; rw [Hr20.out]; split at this <;> omega)
    have HM := hH hmm
    clear hmm hov
    go_upto_region 4 with (fail)
    refine cP ?_
    refine cN ?_
    refine cX ?_ ?_ (by intro wz hSw; obtain ⟨q0, q1, q2, q3⟩ := c4 (B3.y hSw.1); go_simp; all_goals with_reducible rfl) ?_
    refine cC ?_ ?_ ?_ ?_ ?hc2_1 ?_
    case hc2_1 => (intro w hSw; exact wideNeg_U r true Hr.out Hov.out w)
    refine cW ?_ ?_ ?_
    refine calm_end ?_
    intro w1 hS
    have hS := sO hS
    have B0 := B0.y hS
    have B1 := B1.y hS
    have B2 := B2.y hS
    have B3 := B3.y hS
    have hz1 : wr.heap.size ≤ w1.heap.size := hS.size
    have HB := gS HB hS
    clear hS
    go_upto_region 5 with (fail)
    refine cG ?_
    refine calm_k (b := w.heap.size + 1 + 1 + 1) (o := 0) (st := 11) (ado := .tmp 5) (x := (.tmp 24)) (u := U rr) (by kernel_rfl) B3 (by rfl) size_wide (by first | exact wI_one _ | exact U_one _) (by first | exact Nat.le_refl _ | (simp; done) | decide) ?_
    refine cX ?_ ?_ (by intro wz hSw; obtain ⟨q0, q1, q2, q3⟩ := c4 (show Blk wz (w.heap.size + 1 + 1 + 1) (uL r) 76 from hSw.2 _ (List.mem_cons_self ..) rfl ⟨_, rfl, by kernel_rfl⟩); go_simp; all_goals with_reducible rfl) ?_
    refine cX ?_ ?_ (by intro wz hSw; obtain ⟨q0, q1, q2, q3⟩ := c4 (show Blk wz (w.heap.size + 1 + 1 + 1) (uL r) 76 from hSw.2 _ (List.mem_cons_self ..) rfl ⟨_, rfl, by kernel_rfl⟩); go_simp; all_goals with_reducible rfl) ?_
    refine cW ?_ ?_ ?_
    refine cW ?_ ?_ ?_
    refine cW ?_ ?_ ?_
    refine cX ?_ ?_ (by intro wz hSw; have q0 := (B0.y hSw.1).cell (uL_at a wd hwd); go_simp; all_goals with_reducible rfl) ?_
    refine cW ?_ ?_ ?_
    refine cW ?_ ?_ ?_
    refine cW ?_ ?_ ?_
    refine cW ?_ ?_ ?_
    refine cC ?_ ?_ ?_ ?_ ?hc3_10 ?_
    case hc3_10 => (intro w hSw; exact widePlus_U r r bt rr Hbt.out Hrr.out w)
    refine cB ?_
    refine calm_end ?_
    refine ⟨(by rfl), (by rfl), fun w2 hS D0 => ?_⟩
    have B0 := B0.y hS
    have B1 := B1.y hS
    have B2 := B2.y hS
    have B3 : Blk w2 (w.heap.size + 1 + 1 + 1) (uL rr) 76 := blk_whole D0 rfl
    have hz2 : w1.heap.size ≤ w2.heap.size := hS.size
    have HB := gS HB hS
    clear hS D0
    go_upto_region 6 with (fail)
    refine cP ?_
    refine calm_k (b := w.heap.size + 1 + 1) (o := 0) (st := 3) (ado := .tmp 4) (x := (.tmp 27)) (u := U (2 * q)) (by kernel_rfl) B2 (by rfl) size_wide (by first | exact wI_one _ | exact U_one _) (by first | exact Nat.le_refl _ | (simp; done) | decide) ?_
    refine cX ?_ ?_ (by intro wz hSw; obtain ⟨q0, q1, q2, q3⟩ := c4 (show Blk wz (w.heap.size + 1 + 1) (uL q) 76 from hSw.2 _ (List.mem_cons_self ..) rfl ⟨_, rfl, by kernel_rfl⟩); go_simp; all_goals with_reducible rfl) ?_
    refine cX ?_ ?_ (by intro wz hSw; obtain ⟨q0, q1, q2, q3⟩ := c4 (show Blk wz (w.heap.size + 1 + 1) (uL q) 76 from hSw.2 _ (List.mem_cons_self ..) rfl ⟨_, rfl, by kernel_rfl⟩); go_simp; all_goals with_reducible rfl) ?_
    refine cC ?_ ?_ ?_ ?_ ?hc4_2 ?_
    case hc4_2 => (intro w hSw; exact widePlus_U q q 0 (2 * q) (by omega) Hqq.out w)
    refine cB ?_
    refine calm_end ?_
    refine ⟨(by rfl), (by rfl), fun w3 hS D0 => ?_⟩
    have B0 := B0.y hS
    have B1 := B1.y hS
    have B3 := B3.y hS
    have B2 : Blk w3 (w.heap.size + 1 + 1) (uL (2 * q)) 76 := blk_whole D0 rfl
    have hz3 : w2.heap.size ≤ w3.heap.size := hS.size
    have HB := gS HB hS
    clear hS D0
    go_upto_region 7 with (fail)
    refine cP ?_
    refine cN ?_
    refine cW ?_ ?_ ?_
    refine cW ?_ ?_ ?_
    refine cS ?_ ?_
    refine cS ?_ ?_
    refine cS ?_ ?_
    refine cS ?_ ?_
    refine cW ?_ ?_ ?_
    refine calm_end ?_
    intro w4 hS
    have hS := sO hS
    have B0 := B0.y hS
    have B1 := B1.y hS
    have B2 := B2.y hS
    have B3 := B3.y hS
    have hz4 : w3.heap.size ≤ w4.heap.size := hS.size
    have HB := gS HB hS
    clear hS
    go_upto_region 8 with (fail)
    refine cG ?_
    refine calm_k (b := w.heap.size + 1 + 1 + 1) (o := 0) (st := 4) (ado := .tmp 5) (x := (.tmp 38)) (u := U r2) (by kernel_rfl) B3 (by rfl) size_wide (by first | exact wI_one _ | exact U_one _) (by first | exact Nat.le_refl _ | (simp; done) | decide) ?_
    refine cX ?_ ?_ (by intro wz hSw; obtain ⟨q0, q1, q2, q3⟩ := c4 (show Blk wz (w.heap.size + 1 + 1 + 1) (uL rr) 76 from hSw.2 _ (List.mem_cons_self ..) rfl ⟨_, rfl, by kernel_rfl⟩); go_simp; all_goals with_reducible rfl) ?_
    refine cX ?_ ?_ (by intro wz hSw; obtain ⟨q0, q1, q2, q3⟩ := c4 (B1.y hSw.1); go_simp; all_goals with_reducible rfl) ?_
    refine cC ?_ ?_ ?_ ?_ ?hc6_2 ?_
    case hc6_2 => (intro w hSw; exact wideTurned_U b HB4.out w)
    refine cC ?_ ?_ ?_ ?_ ?hc6_3 ?_
    case hc6_3 => (intro w hSw; exact widePlus_U rr (B4 - 1 - b) 1 r2 (by omega) Hr2.out w)
    refine cB ?_
    refine calm_end ?_
    refine ⟨(by rfl), (by rfl), fun w5 hS D0 => ?_⟩
    have B0 := B0.y hS
    have B1 := B1.y hS
    have B2 := B2.y hS
    have B3 : Blk w5 (w.heap.size + 1 + 1 + 1) (uL r2) 76 := blk_whole D0 rfl
    have hz5 : w4.heap.size ≤ w5.heap.size := hS.size
    have HB := gS HB hS
    clear hS D0
    obtain ⟨q0, q1, q2, q3⟩ := c4 B2
    have f0 : ∀ j, w5.frozen? ⟨w.heap.size + 1 + 1, j, none⟩ = false := fun j => B2.frozen j
    have hor := or_one q
    go_wp2_with fail
    have K2 := B2.set 0 (u64 (lb (2 * q) 0 + 1))
    rw [uL_odd] at K2
    have K0 := B0.other ⟨w.heap.size + 1 + 1, 0, none⟩ (by show w.heap.size ≠ w.heap.size + 1 + 1; omega) (u64 (lb (2 * q) 0 + 1))
    have K1 := B1.other ⟨w.heap.size + 1 + 1, 0, none⟩ (by show w.heap.size + 1 ≠ w.heap.size + 1 + 1; omega) (u64 (lb (2 * q) 0 + 1))
    have K3 := B3.other ⟨w.heap.size + 1 + 1, 0, none⟩ (by show w.heap.size + 1 + 1 + 1 ≠ w.heap.size + 1 + 1; omega) (u64 (lb (2 * q) 0 + 1))
    have KB := HB.setCell (p := ⟨w.heap.size + 1 + 1, 0, none⟩) (by show w.heap.size ≤ w.heap.size + 1 + 1; omega) (u64 (lb (2 * q) 0 + 1))
    go_roundg i
    case measure => omega
    case rel => exact ⟨by omega, rfl, K0, K1, by rw [HM.out.1]; exact K2, by rw [HM.out.2, ← Hr20.out]; exact K3, KB, by simp [World.setCell]; omega⟩
   ·have Hov : Hid (decide (H4 ≤ r) = false) := hH (by simpa using hov)
    simp only [H4] at hov
    have hrr : rr = 2 * r + bt := by have := Hr1'.out; split at this <;> omega
    by_cases hlt : rr < b
    ·have Hlt : Hid (decide (rr < b) = true) := hH (by simpa using hlt)
     have hmm := step_less a b i H0.out (by rw [← Hr0.out, ← Hb0.out]; omega)
     rw [← Hr0.out, ← Hb0.out, ← Hq.out] at hmm
     have HM := hH hmm
     have HRR := hH hrr
     clear hmm hov hlt hrr
     go_upto_region 4 with (fail)
     refine cP ?_
     refine cN ?_
     refine cX ?_ ?_ (by intro wz hSw; obtain ⟨q0, q1, q2, q3⟩ := c4 (B3.y hSw.1); go_simp; all_goals with_reducible rfl) ?_
     refine cC ?_ ?_ ?_ ?_ ?hc12_1 ?_
     case hc12_1 => (intro w hSw; exact wideNeg_U r false Hr.out Hov.out w)
     refine cW ?_ ?_ ?_
     refine calm_end ?_
     intro w1 hS
     have hS := sO hS
     have B0 := B0.y hS
     have B1 := B1.y hS
     have B2 := B2.y hS
     have B3 := B3.y hS
     have hz1 : wr.heap.size ≤ w1.heap.size := hS.size
     have HB := gS HB hS
     clear hS
     go_upto_region 5 with (fail)
     refine cG ?_
     refine calm_k (b := w.heap.size + 1 + 1 + 1) (o := 0) (st := 11) (ado := .tmp 5) (x := (.tmp 24)) (u := U rr) (by kernel_rfl) B3 (by rfl) size_wide (by first | exact wI_one _ | exact U_one _) (by first | exact Nat.le_refl _ | (simp; done) | decide) ?_
     refine cX ?_ ?_ (by intro wz hSw; obtain ⟨q0, q1, q2, q3⟩ := c4 (show Blk wz (w.heap.size + 1 + 1 + 1) (uL r) 76 from hSw.2 _ (List.mem_cons_self ..) rfl ⟨_, rfl, by kernel_rfl⟩); go_simp; all_goals with_reducible rfl) ?_
     refine cX ?_ ?_ (by intro wz hSw; obtain ⟨q0, q1, q2, q3⟩ := c4 (show Blk wz (w.heap.size + 1 + 1 + 1) (uL r) 76 from hSw.2 _ (List.mem_cons_self ..) rfl ⟨_, rfl, by kernel_rfl⟩); go_simp; all_goals with_reducible rfl) ?_
     refine cW ?_ ?_ ?_
     refine cW ?_ ?_ ?_
     refine cW ?_ ?_ ?_
     refine cX ?_ ?_ (by intro wz hSw; have q0 := (B0.y hSw.1).cell (uL_at a wd hwd); go_simp; all_goals with_reducible rfl) ?_
     refine cW ?_ ?_ ?_
     refine cW ?_ ?_ ?_
     refine cW ?_ ?_ ?_
     refine cW ?_ ?_ ?_
     refine cC ?_ ?_ ?_ ?_ ?hc13_10 ?_
     case hc13_10 => (intro w hSw; exact widePlus_U r r bt rr Hbt.out Hrr.out w)
     refine cB ?_
     refine calm_end ?_
     refine ⟨(by rfl), (by rfl), fun w2 hS D0 => ?_⟩
     have B0 := B0.y hS
     have B1 := B1.y hS
     have B2 := B2.y hS
     have B3 : Blk w2 (w.heap.size + 1 + 1 + 1) (uL rr) 76 := blk_whole D0 rfl
     have hz2 : w1.heap.size ≤ w2.heap.size := hS.size
     have HB := gS HB hS
     clear hS D0
     go_upto_region 6 with (fail)
     refine cP ?_
     refine calm_k (b := w.heap.size + 1 + 1) (o := 0) (st := 3) (ado := .tmp 4) (x := (.tmp 27)) (u := U (2 * q)) (by kernel_rfl) B2 (by rfl) size_wide (by first | exact wI_one _ | exact U_one _) (by first | exact Nat.le_refl _ | (simp; done) | decide) ?_
     refine cX ?_ ?_ (by intro wz hSw; obtain ⟨q0, q1, q2, q3⟩ := c4 (show Blk wz (w.heap.size + 1 + 1) (uL q) 76 from hSw.2 _ (List.mem_cons_self ..) rfl ⟨_, rfl, by kernel_rfl⟩); go_simp; all_goals with_reducible rfl) ?_
     refine cX ?_ ?_ (by intro wz hSw; obtain ⟨q0, q1, q2, q3⟩ := c4 (show Blk wz (w.heap.size + 1 + 1) (uL q) 76 from hSw.2 _ (List.mem_cons_self ..) rfl ⟨_, rfl, by kernel_rfl⟩); go_simp; all_goals with_reducible rfl) ?_
     refine cC ?_ ?_ ?_ ?_ ?hc14_2 ?_
     case hc14_2 => (intro w hSw; exact widePlus_U q q 0 (2 * q) (by omega) Hqq.out w)
     refine cB ?_
     refine calm_end ?_
     refine ⟨(by rfl), (by rfl), fun w3 hS D0 => ?_⟩
     have B0 := B0.y hS
     have B1 := B1.y hS
     have B3 := B3.y hS
     have B2 : Blk w3 (w.heap.size + 1 + 1) (uL (2 * q)) 76 := blk_whole D0 rfl
     have hz3 : w2.heap.size ≤ w3.heap.size := hS.size
     have HB := gS HB hS
     clear hS D0
     go_upto_region 7 with (fail)
     refine cP ?_
     refine cN ?_
     refine cW ?_ ?_ ?_
     refine cW ?_ ?_ ?_
     refine cX ?_ ?_ (by intro wz hSw; obtain ⟨q0, q1, q2, q3⟩ := c4 (B3.y hSw.1); go_simp; all_goals with_reducible rfl) ?_
     refine cX ?_ ?_ (by intro wz hSw; obtain ⟨q0, q1, q2, q3⟩ := c4 (B1.y hSw.1); go_simp; all_goals with_reducible rfl) ?_
     refine cC ?_ ?_ ?_ ?_ ?hc15_4 ?_
     case hc15_4 => (intro w hSw; exact wideBelow_U rr b true Hrl.out HB4.out Hlt.out w)
     refine cW ?_ ?_ ?_
     refine cW ?_ ?_ ?_
     refine calm_end ?_
     intro w4 hS
     have hS := sO hS
     have B0 := B0.y hS
     have B1 := B1.y hS
     have B2 := B2.y hS
     have B3 := B3.y hS
     have hz4 : w3.heap.size ≤ w4.heap.size := hS.size
     have HB := gS HB hS
     clear hS
     go_wp2_with fail
     go_roundg i
     case measure => omega
     case rel => exact ⟨by omega, rfl, B0, B1, by rw [HM.out.1]; exact B2, by rw [HM.out.2, ← HRR.out]; exact B3, HB, by omega⟩
    ·have Hlt : Hid (decide (rr < b) = false) := hH (by simpa using hlt)
     have hmm := step_more a b i H0.out (by rw [← Hr0.out, ← Hb0.out]; omega)
     rw [← Hr0.out, ← Hb0.out, ← Hq.out] at hmm
     obtain ⟨r2, Hr20⟩ : ∃ r2, Hid (r2 = 2 * r + bt - b) := ⟨_, hH rfl⟩
     have Hr2 : Hid ((rr + (B4 - 1 - b) + 1) % B4 = r2 % B4) := hH (by
      simp only [B4]; rw [Hr20.out]; omega)
     have HM := hH hmm
     clear hmm hov hlt hrr
     go_upto_region 4 with (fail)
     refine cP ?_
     refine cN ?_
     refine cX ?_ ?_ (by intro wz hSw; obtain ⟨q0, q1, q2, q3⟩ := c4 (B3.y hSw.1); go_simp; all_goals with_reducible rfl) ?_
     refine cC ?_ ?_ ?_ ?_ ?hc7_1 ?_
     case hc7_1 => (intro w hSw; exact wideNeg_U r false Hr.out Hov.out w)
     refine cW ?_ ?_ ?_
     refine calm_end ?_
     intro w1 hS
     have hS := sO hS
     have B0 := B0.y hS
     have B1 := B1.y hS
     have B2 := B2.y hS
     have B3 := B3.y hS
     have hz1 : wr.heap.size ≤ w1.heap.size := hS.size
     have HB := gS HB hS
     clear hS
     go_upto_region 5 with (fail)
     refine cG ?_
     refine calm_k (b := w.heap.size + 1 + 1 + 1) (o := 0) (st := 11) (ado := .tmp 5) (x := (.tmp 24)) (u := U rr) (by kernel_rfl) B3 (by rfl) size_wide (by first | exact wI_one _ | exact U_one _) (by first | exact Nat.le_refl _ | (simp; done) | decide) ?_
     refine cX ?_ ?_ (by intro wz hSw; obtain ⟨q0, q1, q2, q3⟩ := c4 (show Blk wz (w.heap.size + 1 + 1 + 1) (uL r) 76 from hSw.2 _ (List.mem_cons_self ..) rfl ⟨_, rfl, by kernel_rfl⟩); go_simp; all_goals with_reducible rfl) ?_
     refine cX ?_ ?_ (by intro wz hSw; obtain ⟨q0, q1, q2, q3⟩ := c4 (show Blk wz (w.heap.size + 1 + 1 + 1) (uL r) 76 from hSw.2 _ (List.mem_cons_self ..) rfl ⟨_, rfl, by kernel_rfl⟩); go_simp; all_goals with_reducible rfl) ?_
     refine cW ?_ ?_ ?_
     refine cW ?_ ?_ ?_
     refine cW ?_ ?_ ?_
     refine cX ?_ ?_ (by intro wz hSw; have q0 := (B0.y hSw.1).cell (uL_at a wd hwd); go_simp; all_goals with_reducible rfl) ?_
     refine cW ?_ ?_ ?_
     refine cW ?_ ?_ ?_
     refine cW ?_ ?_ ?_
     refine cW ?_ ?_ ?_
     refine cC ?_ ?_ ?_ ?_ ?hc8_10 ?_
     case hc8_10 => (intro w hSw; exact widePlus_U r r bt rr Hbt.out Hrr.out w)
     refine cB ?_
     refine calm_end ?_
     refine ⟨(by rfl), (by rfl), fun w2 hS D0 => ?_⟩
     have B0 := B0.y hS
     have B1 := B1.y hS
     have B2 := B2.y hS
     have B3 : Blk w2 (w.heap.size + 1 + 1 + 1) (uL rr) 76 := blk_whole D0 rfl
     have hz2 : w1.heap.size ≤ w2.heap.size := hS.size
     have HB := gS HB hS
     clear hS D0
     go_upto_region 6 with (fail)
     refine cP ?_
     refine calm_k (b := w.heap.size + 1 + 1) (o := 0) (st := 3) (ado := .tmp 4) (x := (.tmp 27)) (u := U (2 * q)) (by kernel_rfl) B2 (by rfl) size_wide (by first | exact wI_one _ | exact U_one _) (by first | exact Nat.le_refl _ | (simp; done) | decide) ?_
     refine cX ?_ ?_ (by intro wz hSw; obtain ⟨q0, q1, q2, q3⟩ := c4 (show Blk wz (w.heap.size + 1 + 1) (uL q) 76 from hSw.2 _ (List.mem_cons_self ..) rfl ⟨_, rfl, by kernel_rfl⟩); go_simp; all_goals with_reducible rfl) ?_
     refine cX ?_ ?_ (by intro wz hSw; obtain ⟨q0, q1, q2, q3⟩ := c4 (show Blk wz (w.heap.size + 1 + 1) (uL q) 76 from hSw.2 _ (List.mem_cons_self ..) rfl ⟨_, rfl, by kernel_rfl⟩); go_simp; all_goals with_reducible rfl) ?_
     refine cC ?_ ?_ ?_ ?_ ?hc9_2 ?_
     case hc9_2 => (intro w hSw; exact widePlus_U q q 0 (2 * q) (by omega) Hqq.out w)
     refine cB ?_
     refine calm_end ?_
     refine ⟨(by rfl), (by rfl), fun w3 hS D0 => ?_⟩
     have B0 := B0.y hS
     have B1 := B1.y hS
     have B3 := B3.y hS
     have B2 : Blk w3 (w.heap.size + 1 + 1) (uL (2 * q)) 76 := blk_whole D0 rfl
     have hz3 : w2.heap.size ≤ w3.heap.size := hS.size
     have HB := gS HB hS
     clear hS D0
     go_upto_region 7 with (fail)
     refine cP ?_
     refine cN ?_
     refine cW ?_ ?_ ?_
     refine cW ?_ ?_ ?_
     refine cX ?_ ?_ (by intro wz hSw; obtain ⟨q0, q1, q2, q3⟩ := c4 (B3.y hSw.1); go_simp; all_goals with_reducible rfl) ?_
     refine cX ?_ ?_ (by intro wz hSw; obtain ⟨q0, q1, q2, q3⟩ := c4 (B1.y hSw.1); go_simp; all_goals with_reducible rfl) ?_
     refine cC ?_ ?_ ?_ ?_ ?hc10_4 ?_
     case hc10_4 => (intro w hSw; exact wideBelow_U rr b false Hrl.out HB4.out Hlt.out w)
     refine cW ?_ ?_ ?_
     refine cW ?_ ?_ ?_
     refine calm_end ?_
     intro w4 hS
     have hS := sO hS
     have B0 := B0.y hS
     have B1 := B1.y hS
     have B2 := B2.y hS
     have B3 := B3.y hS
     have hz4 : w3.heap.size ≤ w4.heap.size := hS.size
     have HB := gS HB hS
     clear hS
     go_upto_region 8 with (fail)
     refine cG ?_
     refine calm_k (b := w.heap.size + 1 + 1 + 1) (o := 0) (st := 4) (ado := .tmp 5) (x := (.tmp 38)) (u := U r2) (by kernel_rfl) B3 (by rfl) size_wide (by first | exact wI_one _ | exact U_one _) (by first | exact Nat.le_refl _ | (simp; done) | decide) ?_
     refine cX ?_ ?_ (by intro wz hSw; obtain ⟨q0, q1, q2, q3⟩ := c4 (show Blk wz (w.heap.size + 1 + 1 + 1) (uL rr) 76 from hSw.2 _ (List.mem_cons_self ..) rfl ⟨_, rfl, by kernel_rfl⟩); go_simp; all_goals with_reducible rfl) ?_
     refine cX ?_ ?_ (by intro wz hSw; obtain ⟨q0, q1, q2, q3⟩ := c4 (B1.y hSw.1); go_simp; all_goals with_reducible rfl) ?_
     refine cC ?_ ?_ ?_ ?_ ?hc11_2 ?_
     case hc11_2 => (intro w hSw; exact wideTurned_U b HB4.out w)
     refine cC ?_ ?_ ?_ ?_ ?hc11_3 ?_
     case hc11_3 => (intro w hSw; exact widePlus_U rr (B4 - 1 - b) 1 r2 (by omega) Hr2.out w)
     refine cB ?_
     refine calm_end ?_
     refine ⟨(by rfl), (by rfl), fun w5 hS D0 => ?_⟩
     have B0 := B0.y hS
     have B1 := B1.y hS
     have B2 := B2.y hS
     have B3 : Blk w5 (w.heap.size + 1 + 1 + 1) (uL r2) 76 := blk_whole D0 rfl
     have hz5 : w4.heap.size ≤ w5.heap.size := hS.size
     have HB := gS HB hS
     clear hS D0
     obtain ⟨q0, q1, q2, q3⟩ := c4 B2
     have f0 : ∀ j, w5.frozen? ⟨w.heap.size + 1 + 1, j, none⟩ = false := fun j => B2.frozen j
     have hor := or_one q
     go_wp2_with fail
     have K2 := B2.set 0 (u64 (lb (2 * q) 0 + 1))
     rw [uL_odd] at K2
     have K0 := B0.other ⟨w.heap.size + 1 + 1, 0, none⟩ (by show w.heap.size ≠ w.heap.size + 1 + 1; omega) (u64 (lb (2 * q) 0 + 1))
     have K1 := B1.other ⟨w.heap.size + 1 + 1, 0, none⟩ (by show w.heap.size + 1 ≠ w.heap.size + 1 + 1; omega) (u64 (lb (2 * q) 0 + 1))
     have K3 := B3.other ⟨w.heap.size + 1 + 1, 0, none⟩ (by show w.heap.size + 1 + 1 + 1 ≠ w.heap.size + 1 + 1; omega) (u64 (lb (2 * q) 0 + 1))
     have KB := HB.setCell (p := ⟨w.heap.size + 1 + 1, 0, none⟩) (by show w.heap.size ≤ w.heap.size + 1 + 1; omega) (u64 (lb (2 * q) 0 + 1))
     go_roundg i
     case measure => omega
     case rel => exact ⟨by omega, rfl, K0, K1, by rw [HM.out.1]; exact K2, by rw [HM.out.2, ← Hr20.out]; exact K3, KB, by simp [World.setCell]; omega⟩
end Go.Proofs.YtlkhneiccjhgdaaGreat
