/- Parts of the proof. -/
import Derived.Test.YthbplhglfjlngaaGreatGPb
import Derived.Deep.Cut
import Derived.Test.YthbplhglfjlngaaGreatGPe
set_option linter.unusedVariables false
set_option linter.unusedSimpArgs false
set_option maxRecDepth 100000
namespace Go.Wd
open Go
def rL (n d : Int) : List Value := [u64 (lb (tc n) 0), u64 (lb (tc n) 1), u64 (lb (tc n) 2), u64 (lb (tc n) 3), u64 (lb (tc d) 0), u64 (lb (tc d) 1), u64 (lb (tc d) 2), u64 (lb (tc d) 3)]
abbrev rt (n d : Int) : Value := .agg #[u64 (lb (tc n) 0), u64 (lb (tc n) 1), u64 (lb (tc n) 2), u64 (lb (tc n) 3), u64 (lb (tc d) 0), u64 (lb (tc d) 1), u64 (lb (tc d) 2), u64 (lb (tc d) 3)]
theorem rt_one (n d : Int) : (rt n d).cells.all (·.oneCell') = true := by unfold rt u64; simp [Value.cells, Value.oneCell']
structure Ok (n d : Int) : Prop where
 n1 : -9223372036854775808 ≤ n
 n2 : n ≤ 9223372036854775807
 d1 : 0 < d
 d2 : d ≤ 9223372036854775807
theorem fit64 {x : Int} (h1 : -9223372036854775808 ≤ x) (h2 : x ≤ 9223372036854775807) : Fit x := by unfold Fit; simp only [H4]; omega
theorem fitMul {x y : Int} (h1 : -9223372036854775808 ≤ x) (h2 : x ≤ 9223372036854775807) (h3 : -9223372036854775808 ≤ y) (h4 : y ≤ 9223372036854775807) : Fit (x * y) := by
 have h : (x * y).natAbs ≤ 9223372036854775808 * 9223372036854775808 := by
  rw [Int.natAbs_mul]; exact Nat.mul_le_mul (by omega) (by omega)
 unfold Fit; simp only [H4]; omega
theorem Ok.fn {n d : Int} (h : Ok n d) : Fit n := fit64 h.n1 h.n2
theorem Ok.fd {n d : Int} (h : Ok n d) : Fit d := fit64 (by have := h.d1; omega) h.d2
theorem Ok.cross {n d n' d' : Int} (h : Ok n d) (h' : Ok n' d') : Fit (n * d') := fitMul h.n1 h.n2 (by have := h'.d1; omega) h'.d2
def cmpR (n d n' d' : Int) : Int := cmpI (n * d') (n' * d)
end Go.Wd
namespace Go.Proofs.YthbplhglfjlngaaGreat
open Go.RowKit Go.Rg Go.Wd
attribute [local go_sem] Oper.semAt_some
theorem size_rat : (Tryz.prog.info? 62).map (·.size) = some 8 := by kernel_rfl
theorem mul_b (x y z : Int) (hx : Fit x) (hy : Fit y) (hd : Fit z) (h : z = x * y) (w : World) :
  Calls Tryz.prog 84 #[wI x, wI y] w fun e w' => e = .returned (.tuple #[wI z, .bool true]) ∧ Below w.heap.size w w' := by subst h; exact wideMul_any x y hx hy hd w
theorem ratOf_any (n : Int) (h1 : -9223372036854775808 ≤ n) (h2 : n ≤ 9223372036854775807) (w : World) :
  Calls Tryz.prog 29 #[.int .i64 n] w fun e w' => e = .returned (rt n 1) ∧ Below w.heap.size w w' := by
 obtain ⟨W0, hW0⟩ : ∃ W0, [.cells #[.int .u64 0, .int .u64 0, .int .u64 0, .int .u64 0, .int .u64 0, .int .u64 0, .int .u64 0, .int .u64 0] 62].foldl World.alloc w = W0 := ⟨_, rfl⟩
 have B0 : Blk W0 (w.heap.size) (rL 0 0) 62 := Blk.allocs _ hW0 0 rfl
 have HB := aB hW0
 have hsz : w.heap.size + 1 ≤ W0.heap.size := aZ hW0
 simp only [List.foldl_cons, List.foldl_nil] at hW0
 go_enter Tryz.func29, Tryz.ntmps29
 go_upto_region 1 with (fail)
 clear hW0
 refine cP ?_
 refine calm_k (b := w.heap.size) (o := 0) (st := 4) (ado := .tmp 2) (x := (.tmp 6)) (u := rt n 1) (by kernel_rfl) B0 (by rfl) size_rat (rt_one _ _) (by first | exact Nat.le_refl _ | (simp; done) | decide) ?_
 refine cW ?_ ?_ ?_
 refine cC ?_ ?_ ?_ ?_ ?hc1_1 ?_
 case hc1_1 => (intro w hSw; exact wideOf_any n h1 h2 w)
 refine cC ?_ ?_ ?_ ?_ ?hc1_2 ?_
 case hc1_2 => (intro w hSw; exact wideOf_any 1 (by omega) (by omega) w)
 refine cW ?_ ?_ ?_
 refine cB ?_
 refine calm_end ?_
 refine ⟨(by rfl), (by rfl), fun w1 hS D0 => ?_⟩
 have B0 : Blk w1 (w.heap.size) (rL n 1) 62 := blk_whole D0 rfl
 have hz1 : W0.heap.size ≤ w1.heap.size := hS.size
 have HB := gS HB hS
 clear hS D0
 go_wp2_with fail
 obtain ⟨s0_0, s0_1, s0_2, s0_3, s0_4, s0_5, s0_6, s0_7⟩ := c8 (B0)
 refine bodyPost_ret (v := rt n 1) (by simp [results, Tryz.results29, go_sem, s0_0, s0_1, s0_2, s0_3, s0_4, s0_5, s0_6, s0_7]) rfl ⟨rfl, HB⟩
theorem bound_any (n d : Int) (h1 : -9223372036854775808 ≤ n) (h2 : n ≤ 9223372036854775807) (h3 : -9223372036854775808 ≤ d) (h4 : d ≤ 9223372036854775807) (w : World) :
  Calls Tryz.prog 73 #[.int .i64 n, .int .i64 d] w fun e w' => e = .returned (rt n d) ∧ Below w.heap.size w w' := by
 obtain ⟨W0, hW0⟩ : ∃ W0, [.cells #[.int .u64 0, .int .u64 0, .int .u64 0, .int .u64 0, .int .u64 0, .int .u64 0, .int .u64 0, .int .u64 0] 62].foldl World.alloc w = W0 := ⟨_, rfl⟩
 have B0 : Blk W0 (w.heap.size) (rL 0 0) 62 := Blk.allocs _ hW0 0 rfl
 have HB := aB hW0
 have hsz : w.heap.size + 1 ≤ W0.heap.size := aZ hW0
 simp only [List.foldl_cons, List.foldl_nil] at hW0
 go_enter Tryz.func73, Tryz.ntmps73
 go_upto_region 1 with (fail)
 clear hW0
 refine cP ?_
 refine calm_k (b := w.heap.size) (o := 0) (st := 5) (ado := .tmp 4) (x := (.tmp 9)) (u := rt n d) (by kernel_rfl) B0 (by rfl) size_rat (rt_one _ _) (by first | exact Nat.le_refl _ | (simp; done) | decide) ?_
 refine cW ?_ ?_ ?_
 refine cC ?_ ?_ ?_ ?_ ?hc2_1 ?_
 case hc2_1 => (intro w hSw; exact wideOf_any n h1 h2 w)
 refine cW ?_ ?_ ?_
 refine cC ?_ ?_ ?_ ?_ ?hc2_3 ?_
 case hc2_3 => (intro w hSw; exact wideOf_any d h3 h4 w)
 refine cW ?_ ?_ ?_
 refine cB ?_
 refine calm_end ?_
 refine ⟨(by rfl), (by rfl), fun w1 hS D0 => ?_⟩
 have B0 : Blk w1 (w.heap.size) (rL n d) 62 := blk_whole D0 rfl
 have hz1 : W0.heap.size ≤ w1.heap.size := hS.size
 have HB := gS HB hS
 clear hS D0
 go_wp2_with fail
 obtain ⟨s0_0, s0_1, s0_2, s0_3, s0_4, s0_5, s0_6, s0_7⟩ := c8 (B0)
 refine bodyPost_ret (v := rt n d) (by simp [results, Tryz.results73, go_sem, s0_0, s0_1, s0_2, s0_3, s0_4, s0_5, s0_6, s0_7]) rfl ⟨rfl, HB⟩
theorem ratRight_any (n d : Int) (hd : Fit d) (ho : 0 < d) (w : World) :
  Calls Tryz.prog 85 #[rt n d] w fun e w' => e = .returned (.bool true) ∧ Below w.heap.size w w' := by
 obtain ⟨W0, hW0⟩ : ∃ W0, [.cells #[u64 (lb (tc n) 0), u64 (lb (tc n) 1), u64 (lb (tc n) 2), u64 (lb (tc n) 3), u64 (lb (tc d) 0), u64 (lb (tc d) 1), u64 (lb (tc d) 2), u64 (lb (tc d) 3)] 62].foldl World.alloc w = W0 := ⟨_, rfl⟩
 have B0 : Blk W0 (w.heap.size) (rL n d) 62 := Blk.allocs _ hW0 0 rfl
 have HB := aB hW0
 have hsz : w.heap.size + 1 ≤ W0.heap.size := aZ hW0
 simp only [List.foldl_cons, List.foldl_nil] at hW0
 have Hd := hH hd
 have Ho := hH ho
 clear hd ho
 go_enter Tryz.func85, Tryz.ntmps85
 go_upto_region 1 with (fail)
 clear hW0
 refine cP ?_
 refine cN ?_
 refine cW ?_ ?_ ?_
 refine cX ?_ ?_ (by intro wz hSw; obtain ⟨q0, q1, q2, q3, q4, q5, q6, q7⟩ := c8 (B0.y hSw.1); go_simp; all_goals with_reducible rfl) ?_
 refine cC ?_ ?_ ?_ ?_ ?hc3_2 ?_
 case hc3_2 => (intro w hSw; exact wideSign_pos d Hd.out Ho.out w)
 refine cW ?_ ?_ ?_
 refine cW ?_ ?_ ?_
 refine calm_end ?_
 intro w1 hS
 have hS := sO hS
 have B0 := B0.y hS
 have hz1 : W0.heap.size ≤ w1.heap.size := hS.size
 have HB := gS HB hS
 clear hS
 go_wp2_with fail
 go_ret
 exact ⟨rfl, HB⟩
set_option maxHeartbeats 1000000 in
theorem crossed_any (n d n' d' : Int) (h : Ok n d) (h' : Ok n' d') (w : World) :
  Calls Tryz.prog 61 #[rt n d, rt n' d'] w fun e w' => e = .returned (.tuple #[wI (n * d'), wI (n' * d), .bool true]) ∧ Below w.heap.size w w' := by
 obtain ⟨W0, hW0⟩ : ∃ W0, [.cells #[u64 (lb (tc n) 0), u64 (lb (tc n) 1), u64 (lb (tc n) 2), u64 (lb (tc n) 3), u64 (lb (tc d) 0), u64 (lb (tc d) 1), u64 (lb (tc d) 2), u64 (lb (tc d) 3)] 62, .cells #[u64 (lb (tc n') 0), u64 (lb (tc n') 1), u64 (lb (tc n') 2), u64 (lb (tc n') 3), u64 (lb (tc d') 0), u64 (lb (tc d') 1), u64 (lb (tc d') 2), u64 (lb (tc d') 3)] 62, .cells #[.int .u64 0, .int .u64 0, .int .u64 0, .int .u64 0] 60, .cells #[.int .u64 0, .int .u64 0, .int .u64 0, .int .u64 0] 60].foldl World.alloc w = W0 := ⟨_, rfl⟩
 have B0 : Blk W0 (w.heap.size) (rL n d) 62 := Blk.allocs _ hW0 0 rfl
 have B1 : Blk W0 (w.heap.size + 1) (rL n' d') 62 := Blk.allocs _ hW0 1 rfl
 have B2 : Blk W0 (w.heap.size + 1 + 1) (uL 0) 60 := Blk.allocs _ hW0 2 rfl
 have B3 : Blk W0 (w.heap.size + 1 + 1 + 1) (uL 0) 60 := Blk.allocs _ hW0 3 rfl
 have HB := aB hW0
 have hsz : w.heap.size + 4 ≤ W0.heap.size := aZ hW0
 simp only [List.foldl_cons, List.foldl_nil] at hW0
 have Ha := hH h
 have Hb := hH h'
 clear h h'
 go_enter Tryz.func61, Tryz.ntmps61
 go_upto_region 1 with (fail)
 clear hW0
 refine cP ?_
 refine calm_k (b := w.heap.size + 1 + 1) (o := 0) (st := 8) (ado := .tmp 4) (x := (.tmp 14)) (u := wI (n * d')) (by kernel_rfl) B2 (by rfl) size_wide (by first | exact wI_one _ | exact U_one _) (by first | exact Nat.le_refl _ | (simp; done) | decide) ?_
 refine cW ?_ ?_ ?_
 refine cX ?_ ?_ (by intro wz hSw; obtain ⟨q0, q1, q2, q3, q4, q5, q6, q7⟩ := c8 (B0.y hSw.1); go_simp; all_goals with_reducible rfl) ?_
 refine cW ?_ ?_ ?_
 refine cX ?_ ?_ (by intro wz hSw; obtain ⟨q0, q1, q2, q3, q4, q5, q6, q7⟩ := c8 (B1.y hSw.1); go_simp; all_goals with_reducible rfl) ?_
 refine cC ?_ ?_ ?_ ?_ ?hc4_4 ?_
 case hc4_4 => (intro w hSw; exact mul_b n d' (n * d') Ha.out.fn Hb.out.fd (Ha.out.cross Hb.out) rfl w)
 refine cW ?_ ?_ ?_
 refine cW ?_ ?_ ?_
 refine cW ?_ ?_ ?_
 refine cB ?_
 refine cW ?_ ?_ ?_
 refine calm_end ?_
 refine ⟨(by rfl), (by rfl), fun w1 hS D0 => ?_⟩
 have B0 := B0.y hS
 have B1 := B1.y hS
 have B3 := B3.y hS
 have B2 : Blk w1 (w.heap.size + 1 + 1) (uL (tc (n * d'))) 60 := blk_whole D0 rfl
 have hz1 : W0.heap.size ≤ w1.heap.size := hS.size
 have HB := gS HB hS
 clear hS D0
 go_upto_region 2 with (fail)
 refine cP ?_
 refine calm_k (b := w.heap.size + 1 + 1 + 1) (o := 0) (st := 8) (ado := .tmp 5) (x := (.tmp 22)) (u := wI (n' * d)) (by kernel_rfl) B3 (by rfl) size_wide (by first | exact wI_one _ | exact U_one _) (by first | exact Nat.le_refl _ | (simp; done) | decide) ?_
 refine cW ?_ ?_ ?_
 refine cX ?_ ?_ (by intro wz hSw; obtain ⟨q0, q1, q2, q3, q4, q5, q6, q7⟩ := c8 (B1.y hSw.1); go_simp; all_goals with_reducible rfl) ?_
 refine cW ?_ ?_ ?_
 refine cX ?_ ?_ (by intro wz hSw; obtain ⟨q0, q1, q2, q3, q4, q5, q6, q7⟩ := c8 (B0.y hSw.1); go_simp; all_goals with_reducible rfl) ?_
 refine cC ?_ ?_ ?_ ?_ ?hc5_4 ?_
 case hc5_4 => (intro w hSw; exact mul_b n' d (n' * d) Hb.out.fn Ha.out.fd (Hb.out.cross Ha.out) rfl w)
 refine cW ?_ ?_ ?_
 refine cW ?_ ?_ ?_
 refine cW ?_ ?_ ?_
 refine cB ?_
 refine cW ?_ ?_ ?_
 refine calm_end ?_
 refine ⟨(by rfl), (by rfl), fun w2 hS D0 => ?_⟩
 have B0 := B0.y hS
 have B1 := B1.y hS
 have B2 := B2.y hS
 have B3 : Blk w2 (w.heap.size + 1 + 1 + 1) (uL (tc (n' * d))) 60 := blk_whole D0 rfl
 have hz2 : w1.heap.size ≤ w2.heap.size := hS.size
 have HB := gS HB hS
 clear hS D0
 go_upto_region 3 with (fail)
 refine cG ?_
 refine calm_kk (b := w.heap.size + 1 + 1) (o := 0) (st := 14) (ado := .tmp 4) (x := (.tmp 24)) (u := wI (n * d')) (b' := w.heap.size + 1 + 1 + 1) (o' := 0) (st' := 15) (ado' := .tmp 5) (x' := (.tmp 25)) (u' := wI (n' * d)) (by kernel_rfl) B2 B3 (by omega) (by rfl) size_wide (by first | exact wI_one _ | exact U_one _) (by first | exact Nat.le_refl _ | (simp; done) | decide) (by rfl) size_wide (by first | exact wI_one _ | exact U_one _) (by first | exact Nat.le_refl _ | (simp; done) | decide) ?_
 refine cX ?_ ?_ (by intro wz hSw; obtain ⟨q0, q1, q2, q3⟩ := c4 (show Blk wz (w.heap.size + 1 + 1) (uL (tc (n * d'))) 60 from hSw.2 _ (List.mem_cons_self ..) rfl ⟨_, rfl, by kernel_rfl⟩); go_simp; all_goals with_reducible rfl) ?_
 refine cX ?_ ?_ (by intro wz hSw; obtain ⟨q0, q1, q2, q3⟩ := c4 (show Blk wz (w.heap.size + 1 + 1 + 1) (uL (tc (n' * d))) 60 from hSw.2 _ (List.mem_cons_of_mem _ (List.mem_singleton.2 rfl)) rfl ⟨_, rfl, by kernel_rfl⟩); go_simp; all_goals with_reducible rfl) ?_
 refine cW ?_ ?_ ?_
 refine cW ?_ ?_ ?_
 refine cW ?_ ?_ ?_
 refine cW ?_ ?_ ?_
 refine cW ?_ ?_ ?_
 refine cX ?_ ?_ (by intro wz hSw; obtain ⟨q0, q1, q2, q3, q4, q5, q6, q7⟩ := c8 (B0.y hSw.1); go_simp; all_goals with_reducible rfl) ?_
 refine cC ?_ ?_ ?_ ?_ ?hc6_8 ?_
 case hc6_8 => (intro w hSw; exact ratRight_any n d Ha.out.fd Ha.out.d1 w)
 refine cW ?_ ?_ ?_
 refine cW ?_ ?_ ?_
 refine cX ?_ ?_ (by intro wz hSw; obtain ⟨q0, q1, q2, q3, q4, q5, q6, q7⟩ := c8 (B1.y hSw.1); go_simp; all_goals with_reducible rfl) ?_
 refine cC ?_ ?_ ?_ ?_ ?hc6_12 ?_
 case hc6_12 => (intro w hSw; exact ratRight_any n' d' Hb.out.fd Hb.out.d1 w)
 refine cW ?_ ?_ ?_
 refine cB ?_
 refine cB ?_
 refine cW ?_ ?_ ?_
 refine calm_end ?_
 refine ⟨⟨⟨(by rfl), (by rfl)⟩, ⟨(by rfl), (by rfl)⟩⟩, fun w3 hS D0 D1 => ?_⟩
 have B0 := B0.y hS
 have B1 := B1.y hS
 have B2 : Blk w3 (w.heap.size + 1 + 1) (uL (tc (n * d'))) 60 := blk_whole D0 rfl
 have B3 : Blk w3 (w.heap.size + 1 + 1 + 1) (uL (tc (n' * d))) 60 := blk_whole D1 rfl
 have hz3 : w2.heap.size ≤ w3.heap.size := hS.size
 have HB := gS HB hS
 clear hS D0 D1
 go_wp2_with fail
 obtain ⟨s0_0, s0_1, s0_2, s0_3⟩ := c4 (B2)
 obtain ⟨s1_0, s1_1, s1_2, s1_3⟩ := c4 (B3)
 refine bodyPost_ret (v := .tuple #[wI (n * d'), wI (n' * d), .bool true]) (by simp [results, Tryz.results61, go_sem, s0_0, s0_1, s0_2, s0_3, s1_0, s1_1, s1_2, s1_3]) rfl ⟨rfl, HB⟩
theorem ratCmp_any (n d n' d' : Int) (h : Ok n d) (h' : Ok n' d') (w : World) :
  Calls Tryz.prog 31 #[rt n d, rt n' d'] w fun e w' => e = .returned (.tuple #[.int .i64 (cmpR n d n' d'), .bool true]) ∧ Below w.heap.size w w' := by
 obtain ⟨W0, hW0⟩ : ∃ W0, [.cells #[u64 (lb (tc n) 0), u64 (lb (tc n) 1), u64 (lb (tc n) 2), u64 (lb (tc n) 3), u64 (lb (tc d) 0), u64 (lb (tc d) 1), u64 (lb (tc d) 2), u64 (lb (tc d) 3)] 62, .cells #[u64 (lb (tc n') 0), u64 (lb (tc n') 1), u64 (lb (tc n') 2), u64 (lb (tc n') 3), u64 (lb (tc d') 0), u64 (lb (tc d') 1), u64 (lb (tc d') 2), u64 (lb (tc d') 3)] 62].foldl World.alloc w = W0 := ⟨_, rfl⟩
 have B0 : Blk W0 (w.heap.size) (rL n d) 62 := Blk.allocs _ hW0 0 rfl
 have B1 : Blk W0 (w.heap.size + 1) (rL n' d') 62 := Blk.allocs _ hW0 1 rfl
 have HB := aB hW0
 have hsz : w.heap.size + 2 ≤ W0.heap.size := aZ hW0
 simp only [List.foldl_cons, List.foldl_nil] at hW0
 have Ha := hH h
 have Hb := hH h'
 clear h h'
 go_enter Tryz.func31, Tryz.ntmps31
 go_upto_region 1 with (fail)
 clear hW0
 refine cP ?_
 refine calm_aa (k := 7) (d := 6) (st := 9) (x := (.tmp 13)) (u := wI (n * d')) (T := 60) (k' := 8) (d' := 7) (st' := 10) (x' := (.tmp 14)) (u' := wI (n' * d)) (T' := 60) (by kernel_rfl) (by rfl) (by rfl) info_wide rfl rfl (by first | exact wI_one _ | exact U_one _) (by rfl) (by rfl) info_wide rfl rfl (by first | exact wI_one _ | exact U_one _) ?_
 refine cX ?_ ?_ (by intro wz hSw; obtain ⟨q0, q1, q2, q3, q4, q5, q6, q7⟩ := c8 (B0.y hSw.1); go_simp; all_goals with_reducible rfl) ?_
 refine cX ?_ ?_ (by intro wz hSw; obtain ⟨q0, q1, q2, q3, q4, q5, q6, q7⟩ := c8 (B1.y hSw.1); go_simp; all_goals with_reducible rfl) ?_
 refine cC ?_ ?_ ?_ ?_ ?hc7_2 ?_
 case hc7_2 => (intro w hSw; exact crossed_any n d n' d' Ha.out Hb.out w)
 refine cW ?_ ?_ ?_
 refine cW ?_ ?_ ?_
 refine cW ?_ ?_ ?_
 refine cW ?_ ?_ ?_
 refine cB ?_
 refine cB ?_
 refine cB ?_
 refine cB ?_
 refine cW ?_ ?_ ?_
 refine calm_end ?_
 refine ⟨⟨(by rfl), (by rfl)⟩, fun b3 b4 w1 hb3 hb4 hbne4 hS D0 D1 => ?_⟩
 have hl3_0 : w.heap.size < b3 := lL B0.lt hb3
 have hl4_0 : w.heap.size < b4 := lL B0.lt hb4
 have hl3_1 : w.heap.size + 1 < b3 := lL B1.lt hb3
 have hl4_1 : w.heap.size + 1 < b4 := lL B1.lt hb4
 have hS := sO hS
 have B0 := B0.y hS
 have B1 := B1.y hS
 have B3 : Blk w1 b3 (uL (tc (n * d'))) 60 := D0
 have B4 : Blk w1 b4 (uL (tc (n' * d))) 60 := D1
 have hz1 : W0.heap.size ≤ w1.heap.size := hS.size
 have HB := gS HB hS
 clear hS D0 D1
 go_upto_region 4 with (fail)
 refine cP ?_
 refine cN ?_
 refine cX ?_ ?_ (by intro wz hSw; obtain ⟨q0, q1, q2, q3⟩ := c4 (B3.y hSw.1); go_simp; all_goals with_reducible rfl) ?_
 refine cX ?_ ?_ (by intro wz hSw; obtain ⟨q0, q1, q2, q3⟩ := c4 (B4.y hSw.1); go_simp; all_goals with_reducible rfl) ?_
 refine cC ?_ ?_ ?_ ?_ ?hc8_2 ?_
 case hc8_2 => (intro w hSw; exact wideCmp_any (n * d') (n' * d) (Ha.out.cross Hb.out) (Hb.out.cross Ha.out) w)
 refine cW ?_ ?_ ?_
 refine cW ?_ ?_ ?_
 refine calm_end ?_
 intro w2 hS
 have hS := sO hS
 have B0 := B0.y hS
 have B1 := B1.y hS
 have B3 := B3.y hS
 have B4 := B4.y hS
 have hz2 : w1.heap.size ≤ w2.heap.size := hS.size
 have HB := gS HB hS
 clear hS
 go_wp2_with fail
 go_ret2
 exact ⟨rfl, HB⟩
theorem pless_any (n d n' d' : Int) (h : Ok n d) (h' : Ok n' d') (w : World) :
  Calls Tryz.prog 75 #[rt n d, rt n' d'] w fun e w' => e = .returned (.int .i64 (cmpR n d n' d')) ∧ Below w.heap.size w w' := by
 obtain ⟨W0, hW0⟩ : ∃ W0, [.cells #[u64 (lb (tc n) 0), u64 (lb (tc n) 1), u64 (lb (tc n) 2), u64 (lb (tc n) 3), u64 (lb (tc d) 0), u64 (lb (tc d) 1), u64 (lb (tc d) 2), u64 (lb (tc d) 3)] 62, .cells #[u64 (lb (tc n') 0), u64 (lb (tc n') 1), u64 (lb (tc n') 2), u64 (lb (tc n') 3), u64 (lb (tc d') 0), u64 (lb (tc d') 1), u64 (lb (tc d') 2), u64 (lb (tc d') 3)] 62].foldl World.alloc w = W0 := ⟨_, rfl⟩
 have B0 : Blk W0 (w.heap.size) (rL n d) 62 := Blk.allocs _ hW0 0 rfl
 have B1 : Blk W0 (w.heap.size + 1) (rL n' d') 62 := Blk.allocs _ hW0 1 rfl
 have HB := aB hW0
 have hsz : w.heap.size + 2 ≤ W0.heap.size := aZ hW0
 simp only [List.foldl_cons, List.foldl_nil] at hW0
 have Ha := hH h
 have Hb := hH h'
 clear h h'
 go_enter Tryz.func75, Tryz.ntmps75
 go_upto_region 1 with (fail)
 clear hW0
 refine cP ?_
 refine cN ?_
 refine cX ?_ ?_ (by intro wz hSw; obtain ⟨q0, q1, q2, q3, q4, q5, q6, q7⟩ := c8 (B0.y hSw.1); go_simp; all_goals with_reducible rfl) ?_
 refine cX ?_ ?_ (by intro wz hSw; obtain ⟨q0, q1, q2, q3, q4, q5, q6, q7⟩ := c8 (B1.y hSw.1); go_simp; all_goals with_reducible rfl) ?_
 refine cC ?_ ?_ ?_ ?_ ?hc9_2 ?_
 case hc9_2 => (intro w hSw; exact ratCmp_any n d n' d' Ha.out Hb.out w)
 refine cW ?_ ?_ ?_
 refine cW ?_ ?_ ?_
 refine cW ?_ ?_ ?_
 refine cW ?_ ?_ ?_
 refine cW ?_ ?_ ?_
 refine calm_end ?_
 intro w1 hS
 have hS := sO hS
 have B0 := B0.y hS
 have B1 := B1.y hS
 have hz1 : W0.heap.size ≤ w1.heap.size := hS.size
 have HB := gS HB hS
 clear hS
 go_wp2_with fail
 go_ret
 exact ⟨rfl, HB⟩
theorem cross_times (x y z : Int) (hx : Fit x) (hy : Fit y) (hd : Fit z) (hz : z = x * y) (w : World) :
  Calls Tryz.prog 89 #[wI x, wI y] w fun e w' => e = .returned (wI z) ∧ Below w.heap.size w w' := by
 obtain ⟨W0, hW0⟩ : ∃ W0, [.cells #[u64 (lb (tc x) 0), u64 (lb (tc x) 1), u64 (lb (tc x) 2), u64 (lb (tc x) 3)] 60, .cells #[u64 (lb (tc y) 0), u64 (lb (tc y) 1), u64 (lb (tc y) 2), u64 (lb (tc y) 3)] 60, .cells #[.int .u64 0, .int .u64 0, .int .u64 0, .int .u64 0] 60].foldl World.alloc w = W0 := ⟨_, rfl⟩
 have B0 : Blk W0 (w.heap.size) (uL (tc x)) 60 := Blk.allocs _ hW0 0 rfl
 have B1 : Blk W0 (w.heap.size + 1) (uL (tc y)) 60 := Blk.allocs _ hW0 1 rfl
 have B2 : Blk W0 (w.heap.size + 1 + 1) (uL 0) 60 := Blk.allocs _ hW0 2 rfl
 have HB := aB hW0
 have hsz : w.heap.size + 3 ≤ W0.heap.size := aZ hW0
 simp only [List.foldl_cons, List.foldl_nil] at hW0
 have Ha := hH hx
 have Hb := hH hy
 have Hd := hH hd
 have Hz : Hid (Calls Tryz.prog 84 #[wI x, wI y] w fun e w' => e = .returned (.tuple #[wI z, .bool true]) ∧ Below w.heap.size w w') ∧ Hid (∀ w, Calls Tryz.prog 84 #[wI x, wI y] w fun e w' => e = .returned (.tuple #[wI z, .bool true]) ∧ Below w.heap.size w w') := by
  subst hz; exact ⟨wideMul_any x y hx hy hd w, wideMul_any x y hx hy hd⟩
 have Hz := Hz.2
 clear hx hy hd hz
 go_enter Tryz.func89, Tryz.ntmps89
 unfold wI U
 go_upto_region 1 with (fail)
 clear hW0
 refine cP ?_
 refine calm_a (k := 6) (d := 5) (st := 7) (x := (.tmp 11)) (u := wI z) (T := 60) (by kernel_rfl) (by rfl) (by rfl) info_wide rfl rfl (by first | exact wI_one _ | exact U_one _) ?_
 refine cX ?_ ?_ (by intro wz hSw; obtain ⟨q0, q1, q2, q3⟩ := c4 (B0.y hSw.1); go_simp; all_goals with_reducible rfl) ?_
 refine cX ?_ ?_ (by intro wz hSw; obtain ⟨q0, q1, q2, q3⟩ := c4 (B1.y hSw.1); go_simp; all_goals with_reducible rfl) ?_
 refine cC ?_ ?_ ?_ ?_ ?hc10_2 ?_
 case hc10_2 => (intro w hSw; exact Hz.out w)
 refine cW ?_ ?_ ?_
 refine cW ?_ ?_ ?_
 refine cW ?_ ?_ ?_
 refine cB ?_
 refine cB ?_
 refine cW ?_ ?_ ?_
 refine calm_end ?_
 refine ⟨(by rfl), fun b4 w1 hb4 hS D0 => ?_⟩
 have hl4_0 : w.heap.size < b4 := lL B0.lt hb4
 have hl4_1 : w.heap.size + 1 < b4 := lL B1.lt hb4
 have hl4_2 : w.heap.size + 1 + 1 < b4 := lL B2.lt hb4
 have hS := sO hS
 have B0 := B0.y hS
 have B1 := B1.y hS
 have B2 := B2.y hS
 have B4 : Blk w1 b4 (uL (tc z)) 60 := D0
 have hz1 : W0.heap.size ≤ w1.heap.size := hS.size
 have HB := gS HB hS
 clear hS D0
 go_upto_region 2 with (fail)
 refine cP ?_
 refine calm_k (b := w.heap.size + 1 + 1) (o := 0) (st := 1) (ado := .tmp 4) (x := (.tmp 13)) (u := wI z) (by kernel_rfl) B2 (by rfl) size_wide (by first | exact wI_one _ | exact U_one _) (by first | exact Nat.le_refl _ | (simp; done) | decide) ?_
 refine cX ?_ ?_ (by intro wz hSw; obtain ⟨q0, q1, q2, q3⟩ := c4 (B4.y hSw.1); go_simp; all_goals with_reducible rfl) ?_
 refine cB ?_
 refine calm_end ?_
 refine ⟨(by rfl), (by rfl), fun w2 hS D0 => ?_⟩
 have B0 := B0.y hS
 have B1 := B1.y hS
 have B4 := B4.y hS
 have B2 : Blk w2 (w.heap.size + 1 + 1) (uL (tc z)) 60 := blk_whole D0 rfl
 have hz2 : w1.heap.size ≤ w2.heap.size := hS.size
 have HB := gS HB hS
 clear hS D0
 go_wp2_with fail
 obtain ⟨s0_0, s0_1, s0_2, s0_3⟩ := c4 (B2)
 refine bodyPost_ret (v := wI z) (by simp [results, Tryz.results89, go_sem, s0_0, s0_1, s0_2, s0_3]) rfl ⟨rfl, HB⟩
theorem cross_less (x y z : Int) (hx : Fit x) (hy : Fit y) (hd : Fit z) (hz : z = x - y) (w : World) :
  Calls Tryz.prog 90 #[wI x, wI y] w fun e w' => e = .returned (wI z) ∧ Below w.heap.size w w' := by
 obtain ⟨W0, hW0⟩ : ∃ W0, [.cells #[u64 (lb (tc x) 0), u64 (lb (tc x) 1), u64 (lb (tc x) 2), u64 (lb (tc x) 3)] 60, .cells #[u64 (lb (tc y) 0), u64 (lb (tc y) 1), u64 (lb (tc y) 2), u64 (lb (tc y) 3)] 60, .cells #[.int .u64 0, .int .u64 0, .int .u64 0, .int .u64 0] 60].foldl World.alloc w = W0 := ⟨_, rfl⟩
 have B0 : Blk W0 (w.heap.size) (uL (tc x)) 60 := Blk.allocs _ hW0 0 rfl
 have B1 : Blk W0 (w.heap.size + 1) (uL (tc y)) 60 := Blk.allocs _ hW0 1 rfl
 have B2 : Blk W0 (w.heap.size + 1 + 1) (uL 0) 60 := Blk.allocs _ hW0 2 rfl
 have HB := aB hW0
 have hsz : w.heap.size + 3 ≤ W0.heap.size := aZ hW0
 simp only [List.foldl_cons, List.foldl_nil] at hW0
 have Ha := hH hx
 have Hb := hH hy
 have Hd := hH hd
 have Hz : Hid (Calls Tryz.prog 105 #[wI x, wI y] w fun e w' => e = .returned (.tuple #[wI z, .bool true]) ∧ Below w.heap.size w w') ∧ Hid (∀ w, Calls Tryz.prog 105 #[wI x, wI y] w fun e w' => e = .returned (.tuple #[wI z, .bool true]) ∧ Below w.heap.size w w') := by
  subst hz; exact ⟨wideSub_any x y hx hy hd w, wideSub_any x y hx hy hd⟩
 have Hz := Hz.2
 clear hx hy hd hz
 go_enter Tryz.func90, Tryz.ntmps90
 unfold wI U
 go_upto_region 1 with (fail)
 clear hW0
 refine cP ?_
 refine calm_a (k := 6) (d := 5) (st := 7) (x := (.tmp 11)) (u := wI z) (T := 60) (by kernel_rfl) (by rfl) (by rfl) info_wide rfl rfl (by first | exact wI_one _ | exact U_one _) ?_
 refine cX ?_ ?_ (by intro wz hSw; obtain ⟨q0, q1, q2, q3⟩ := c4 (B0.y hSw.1); go_simp; all_goals with_reducible rfl) ?_
 refine cX ?_ ?_ (by intro wz hSw; obtain ⟨q0, q1, q2, q3⟩ := c4 (B1.y hSw.1); go_simp; all_goals with_reducible rfl) ?_
 refine cC ?_ ?_ ?_ ?_ ?hc12_2 ?_
 case hc12_2 => (intro w hSw; exact Hz.out w)
 refine cW ?_ ?_ ?_
 refine cW ?_ ?_ ?_
 refine cW ?_ ?_ ?_
 refine cB ?_
 refine cB ?_
 refine cW ?_ ?_ ?_
 refine calm_end ?_
 refine ⟨(by rfl), fun b4 w1 hb4 hS D0 => ?_⟩
 have hl4_0 : w.heap.size < b4 := lL B0.lt hb4
 have hl4_1 : w.heap.size + 1 < b4 := lL B1.lt hb4
 have hl4_2 : w.heap.size + 1 + 1 < b4 := lL B2.lt hb4
 have hS := sO hS
 have B0 := B0.y hS
 have B1 := B1.y hS
 have B2 := B2.y hS
 have B4 : Blk w1 b4 (uL (tc z)) 60 := D0
 have hz1 : W0.heap.size ≤ w1.heap.size := hS.size
 have HB := gS HB hS
 clear hS D0
 go_upto_region 2 with (fail)
 refine cP ?_
 refine calm_k (b := w.heap.size + 1 + 1) (o := 0) (st := 1) (ado := .tmp 4) (x := (.tmp 13)) (u := wI z) (by kernel_rfl) B2 (by rfl) size_wide (by first | exact wI_one _ | exact U_one _) (by first | exact Nat.le_refl _ | (simp; done) | decide) ?_
 refine cX ?_ ?_ (by intro wz hSw; obtain ⟨q0, q1, q2, q3⟩ := c4 (B4.y hSw.1); go_simp; all_goals with_reducible rfl) ?_
 refine cB ?_
 refine calm_end ?_
 refine ⟨(by rfl), (by rfl), fun w2 hS D0 => ?_⟩
 have B0 := B0.y hS
 have B1 := B1.y hS
 have B4 := B4.y hS
 have B2 : Blk w2 (w.heap.size + 1 + 1) (uL (tc z)) 60 := blk_whole D0 rfl
 have hz2 : w1.heap.size ≤ w2.heap.size := hS.size
 have HB := gS HB hS
 clear hS D0
 go_wp2_with fail
 obtain ⟨s0_0, s0_1, s0_2, s0_3⟩ := c4 (B2)
 refine bodyPost_ret (v := wI z) (by simp [results, Tryz.results90, go_sem, s0_0, s0_1, s0_2, s0_3]) rfl ⟨rfl, HB⟩
theorem pixel_times (x y z : Int) (hx : Fit x) (hy : Fit y) (hd : Fit z) (hz : z = x * y) (w : World) :
  Calls Tryz.prog 91 #[wI x, wI y] w fun e w' => e = .returned (wI z) ∧ Below w.heap.size w w' := by
 obtain ⟨W0, hW0⟩ : ∃ W0, [.cells #[u64 (lb (tc x) 0), u64 (lb (tc x) 1), u64 (lb (tc x) 2), u64 (lb (tc x) 3)] 60, .cells #[u64 (lb (tc y) 0), u64 (lb (tc y) 1), u64 (lb (tc y) 2), u64 (lb (tc y) 3)] 60, .cells #[.int .u64 0, .int .u64 0, .int .u64 0, .int .u64 0] 60].foldl World.alloc w = W0 := ⟨_, rfl⟩
 have B0 : Blk W0 (w.heap.size) (uL (tc x)) 60 := Blk.allocs _ hW0 0 rfl
 have B1 : Blk W0 (w.heap.size + 1) (uL (tc y)) 60 := Blk.allocs _ hW0 1 rfl
 have B2 : Blk W0 (w.heap.size + 1 + 1) (uL 0) 60 := Blk.allocs _ hW0 2 rfl
 have HB := aB hW0
 have hsz : w.heap.size + 3 ≤ W0.heap.size := aZ hW0
 simp only [List.foldl_cons, List.foldl_nil] at hW0
 have Ha := hH hx
 have Hb := hH hy
 have Hd := hH hd
 have Hz : Hid (Calls Tryz.prog 84 #[wI x, wI y] w fun e w' => e = .returned (.tuple #[wI z, .bool true]) ∧ Below w.heap.size w w') ∧ Hid (∀ w, Calls Tryz.prog 84 #[wI x, wI y] w fun e w' => e = .returned (.tuple #[wI z, .bool true]) ∧ Below w.heap.size w w') := by
  subst hz; exact ⟨wideMul_any x y hx hy hd w, wideMul_any x y hx hy hd⟩
 have Hz := Hz.2
 clear hx hy hd hz
 go_enter Tryz.func91, Tryz.ntmps91
 unfold wI U
 go_upto_region 1 with (fail)
 clear hW0
 refine cP ?_
 refine calm_a (k := 6) (d := 5) (st := 7) (x := (.tmp 11)) (u := wI z) (T := 60) (by kernel_rfl) (by rfl) (by rfl) info_wide rfl rfl (by first | exact wI_one _ | exact U_one _) ?_
 refine cX ?_ ?_ (by intro wz hSw; obtain ⟨q0, q1, q2, q3⟩ := c4 (B0.y hSw.1); go_simp; all_goals with_reducible rfl) ?_
 refine cX ?_ ?_ (by intro wz hSw; obtain ⟨q0, q1, q2, q3⟩ := c4 (B1.y hSw.1); go_simp; all_goals with_reducible rfl) ?_
 refine cC ?_ ?_ ?_ ?_ ?hc14_2 ?_
 case hc14_2 => (intro w hSw; exact Hz.out w)
 refine cW ?_ ?_ ?_
 refine cW ?_ ?_ ?_
 refine cW ?_ ?_ ?_
 refine cB ?_
 refine cB ?_
 refine cW ?_ ?_ ?_
 refine calm_end ?_
 refine ⟨(by rfl), fun b4 w1 hb4 hS D0 => ?_⟩
 have hl4_0 : w.heap.size < b4 := lL B0.lt hb4
 have hl4_1 : w.heap.size + 1 < b4 := lL B1.lt hb4
 have hl4_2 : w.heap.size + 1 + 1 < b4 := lL B2.lt hb4
 have hS := sO hS
 have B0 := B0.y hS
 have B1 := B1.y hS
 have B2 := B2.y hS
 have B4 : Blk w1 b4 (uL (tc z)) 60 := D0
 have hz1 : W0.heap.size ≤ w1.heap.size := hS.size
 have HB := gS HB hS
 clear hS D0
 go_upto_region 2 with (fail)
 refine cP ?_
 refine calm_k (b := w.heap.size + 1 + 1) (o := 0) (st := 1) (ado := .tmp 4) (x := (.tmp 13)) (u := wI z) (by kernel_rfl) B2 (by rfl) size_wide (by first | exact wI_one _ | exact U_one _) (by first | exact Nat.le_refl _ | (simp; done) | decide) ?_
 refine cX ?_ ?_ (by intro wz hSw; obtain ⟨q0, q1, q2, q3⟩ := c4 (B4.y hSw.1); go_simp; all_goals with_reducible rfl) ?_
 refine cB ?_
 refine calm_end ?_
 refine ⟨(by rfl), (by rfl), fun w2 hS D0 => ?_⟩
 have B0 := B0.y hS
 have B1 := B1.y hS
 have B4 := B4.y hS
 have B2 : Blk w2 (w.heap.size + 1 + 1) (uL (tc z)) 60 := blk_whole D0 rfl
 have hz2 : w1.heap.size ≤ w2.heap.size := hS.size
 have HB := gS HB hS
 clear hS D0
 go_wp2_with fail
 obtain ⟨s0_0, s0_1, s0_2, s0_3⟩ := c4 (B2)
 refine bodyPost_ret (v := wI z) (by simp [results, Tryz.results91, go_sem, s0_0, s0_1, s0_2, s0_3]) rfl ⟨rfl, HB⟩
theorem pixel_plus (x y z : Int) (hx : Fit x) (hy : Fit y) (hd : Fit z) (hz : z = x + y) (w : World) :
  Calls Tryz.prog 92 #[wI x, wI y] w fun e w' => e = .returned (wI z) ∧ Below w.heap.size w w' := by
 obtain ⟨W0, hW0⟩ : ∃ W0, [.cells #[u64 (lb (tc x) 0), u64 (lb (tc x) 1), u64 (lb (tc x) 2), u64 (lb (tc x) 3)] 60, .cells #[u64 (lb (tc y) 0), u64 (lb (tc y) 1), u64 (lb (tc y) 2), u64 (lb (tc y) 3)] 60, .cells #[.int .u64 0, .int .u64 0, .int .u64 0, .int .u64 0] 60].foldl World.alloc w = W0 := ⟨_, rfl⟩
 have B0 : Blk W0 (w.heap.size) (uL (tc x)) 60 := Blk.allocs _ hW0 0 rfl
 have B1 : Blk W0 (w.heap.size + 1) (uL (tc y)) 60 := Blk.allocs _ hW0 1 rfl
 have B2 : Blk W0 (w.heap.size + 1 + 1) (uL 0) 60 := Blk.allocs _ hW0 2 rfl
 have HB := aB hW0
 have hsz : w.heap.size + 3 ≤ W0.heap.size := aZ hW0
 simp only [List.foldl_cons, List.foldl_nil] at hW0
 have Ha := hH hx
 have Hb := hH hy
 have Hd := hH hd
 have Hz : Hid (Calls Tryz.prog 106 #[wI x, wI y] w fun e w' => e = .returned (.tuple #[wI z, .bool true]) ∧ Below w.heap.size w w') ∧ Hid (∀ w, Calls Tryz.prog 106 #[wI x, wI y] w fun e w' => e = .returned (.tuple #[wI z, .bool true]) ∧ Below w.heap.size w w') := by
  subst hz; exact ⟨wideAdd_any x y hx hy hd w, wideAdd_any x y hx hy hd⟩
 have Hz := Hz.2
 clear hx hy hd hz
 go_enter Tryz.func92, Tryz.ntmps92
 unfold wI U
 go_upto_region 1 with (fail)
 clear hW0
 refine cP ?_
 refine calm_a (k := 6) (d := 5) (st := 7) (x := (.tmp 11)) (u := wI z) (T := 60) (by kernel_rfl) (by rfl) (by rfl) info_wide rfl rfl (by first | exact wI_one _ | exact U_one _) ?_
 refine cX ?_ ?_ (by intro wz hSw; obtain ⟨q0, q1, q2, q3⟩ := c4 (B0.y hSw.1); go_simp; all_goals with_reducible rfl) ?_
 refine cX ?_ ?_ (by intro wz hSw; obtain ⟨q0, q1, q2, q3⟩ := c4 (B1.y hSw.1); go_simp; all_goals with_reducible rfl) ?_
 refine cC ?_ ?_ ?_ ?_ ?hc16_2 ?_
 case hc16_2 => (intro w hSw; exact Hz.out w)
 refine cW ?_ ?_ ?_
 refine cW ?_ ?_ ?_
 refine cW ?_ ?_ ?_
 refine cB ?_
 refine cB ?_
 refine cW ?_ ?_ ?_
 refine calm_end ?_
 refine ⟨(by rfl), fun b4 w1 hb4 hS D0 => ?_⟩
 have hl4_0 : w.heap.size < b4 := lL B0.lt hb4
 have hl4_1 : w.heap.size + 1 < b4 := lL B1.lt hb4
 have hl4_2 : w.heap.size + 1 + 1 < b4 := lL B2.lt hb4
 have hS := sO hS
 have B0 := B0.y hS
 have B1 := B1.y hS
 have B2 := B2.y hS
 have B4 : Blk w1 b4 (uL (tc z)) 60 := D0
 have hz1 : W0.heap.size ≤ w1.heap.size := hS.size
 have HB := gS HB hS
 clear hS D0
 go_upto_region 2 with (fail)
 refine cP ?_
 refine calm_k (b := w.heap.size + 1 + 1) (o := 0) (st := 1) (ado := .tmp 4) (x := (.tmp 13)) (u := wI z) (by kernel_rfl) B2 (by rfl) size_wide (by first | exact wI_one _ | exact U_one _) (by first | exact Nat.le_refl _ | (simp; done) | decide) ?_
 refine cX ?_ ?_ (by intro wz hSw; obtain ⟨q0, q1, q2, q3⟩ := c4 (B4.y hSw.1); go_simp; all_goals with_reducible rfl) ?_
 refine cB ?_
 refine calm_end ?_
 refine ⟨(by rfl), (by rfl), fun w2 hS D0 => ?_⟩
 have B0 := B0.y hS
 have B1 := B1.y hS
 have B4 := B4.y hS
 have B2 : Blk w2 (w.heap.size + 1 + 1) (uL (tc z)) 60 := blk_whole D0 rfl
 have hz2 : w1.heap.size ≤ w2.heap.size := hS.size
 have HB := gS HB hS
 clear hS D0
 go_wp2_with fail
 obtain ⟨s0_0, s0_1, s0_2, s0_3⟩ := c4 (B2)
 refine bodyPost_ret (v := wI z) (by simp [results, Tryz.results92, go_sem, s0_0, s0_1, s0_2, s0_3]) rfl ⟨rfl, HB⟩
end Go.Proofs.YthbplhglfjlngaaGreat
namespace Go.Wd
open Go
def sL (x y w : Int) : List Value := [u64 (lb (tc x) 0), u64 (lb (tc x) 1), u64 (lb (tc x) 2), u64 (lb (tc x) 3), u64 (lb (tc y) 0), u64 (lb (tc y) 1), u64 (lb (tc y) 2), u64 (lb (tc y) 3), u64 (lb (tc w) 0), u64 (lb (tc w) 1), u64 (lb (tc w) 2), u64 (lb (tc w) 3)]
abbrev sV (x y w : Int) : Value := .agg #[u64 (lb (tc x) 0), u64 (lb (tc x) 1), u64 (lb (tc x) 2), u64 (lb (tc x) 3), u64 (lb (tc y) 0), u64 (lb (tc y) 1), u64 (lb (tc y) 2), u64 (lb (tc y) 3), u64 (lb (tc w) 0), u64 (lb (tc w) 1), u64 (lb (tc w) 2), u64 (lb (tc w) 3)]
theorem spot_one (x y w : Int) : (sV x y w).cells.all (·.oneCell') = true := by unfold sV u64; simp [Value.cells, Value.oneCell']
abbrev pV (x y : Int) : Value := .agg #[.int .i64 x, .int .i64 y]
theorem pt_one (x y : Int) : (pV x y).cells.all (·.oneCell') = true := by unfold pV; simp [Value.cells, Value.oneCell']
abbrev gV (a b c d : Int) : Value := .agg #[.int .i64 a, .int .i64 b, .int .i64 c, .int .i64 d]
def inB (n : Int) : Bool := decide (-2199023255552 ≤ n ∧ n ≤ 2199023255552)
def ptB (x y : Int) : Bool := inB x && inB y
def sgB (a b c d : Int) : Bool := ptB a b && ptB c d
def szB (n : Int) : Bool := decide (1 ≤ n ∧ n ≤ 1048576)
theorem inB_iff {n : Int} : inB n = true ↔ -2199023255552 ≤ n ∧ n ≤ 2199023255552 := by unfold inB; simp
theorem szB_iff {n : Int} : szB n = true ↔ 1 ≤ n ∧ n ≤ 1048576 := by unfold szB; simp
theorem cmpI_nonneg {x y : Int} (h : y ≤ x) : 0 ≤ cmpI x y := by unfold cmpI; split <;> (try split) <;> omega
theorem cmpI_nonpos {x y : Int} (h : x ≤ y) : cmpI x y ≤ 0 := by unfold cmpI; split <;> (try split) <;> omega
structure SpotOk (x y w : Int) : Prop where
 w1 : 0 < w
 w2 : w ≤ 1237940039285380274899124224
 x1 : -(w * 2199023255552) ≤ x
 x2 : x ≤ w * 2199023255552
 y1 : -(w * 2199023255552) ≤ y
 y2 : y ≤ w * 2199023255552
def cellZ (n w size : Int) : Int := (n + n + w * size) / (w * size + w * size)
end Go.Wd
namespace Go.Proofs.YthbplhglfjlngaaGreat
open Go.RowKit Go.Rg Go.Wd
attribute [local go_sem] Oper.semAt_some
theorem wideCmp_b (x y r : Int) (hx : Fit x) (hy : Fit y) (h : cmpI x y = r) (w : World) :
  Calls Tryz.prog 62 #[wI x, wI y] w fun e w' => e = .returned (.int .i64 r) ∧ Below w.heap.size w w' := by subst h; exact wideCmp_any x y hx hy w
theorem size_spot : (Tryz.prog.info? 106).map (·.size) = some 12 := by kernel_rfl
theorem info_pt : (Tryz.prog.info? 23).map (fun i => (i.zero, i.size)) = some (some (.agg #[.int .i64 0, .int .i64 0]), 2) := by kernel_rfl
theorem size_pt : (Tryz.prog.info? 23).map (·.size) = some 2 := by kernel_rfl
theorem within_any (n : Int) (b : Bool) (h : inB n = b) (w : World) :
  Calls Tryz.prog 57 #[.int .i64 n] w fun e w' => e = .returned (.bool b) ∧ Below w.heap.size w w' := by
 subst h
 unfold inB
 by_cases h1 : -2199023255552 ≤ n
 ·by_cases h2 : n ≤ 2199023255552
  ·have hb : decide (-2199023255552 ≤ n ∧ n ≤ 2199023255552) = true := by simp [h1, h2]
   have Hb := hH hb
   have d1 : decide (-2199023255552 ≤ n) = true := by simpa using h1
   have d2 : decide (n ≤ 2199023255552) = true := by simpa using h2
   clear hb
   go_enter Tryz.func57, Tryz.ntmps57
   go_wp2_with fail
   all_goals (go_ret; exact ⟨by first | rfl | (rw [Hb.out]; rfl) | simp [h1, h2], Below.refl _ _⟩)
  ·have hb : decide (-2199023255552 ≤ n ∧ n ≤ 2199023255552) = false := by simp [h2]
   have Hb := hH hb
   have d1 : decide (-2199023255552 ≤ n) = true := by simpa using h1
   have d2 : decide (n ≤ 2199023255552) = false := by simpa using h2
   clear hb
   go_enter Tryz.func57, Tryz.ntmps57
   go_wp2_with fail
   all_goals (go_ret; exact ⟨by first | rfl | (rw [Hb.out]; rfl) | simp [h1, h2], Below.refl _ _⟩)
 ·have hb : decide (-2199023255552 ≤ n ∧ n ≤ 2199023255552) = false := by simp [h1]
  have Hb := hH hb
  have d1 : decide (-2199023255552 ≤ n) = false := by simpa using h1
  clear hb
  go_enter Tryz.func57, Tryz.ntmps57
  go_wp2_with fail
  all_goals (go_ret; exact ⟨by first | rfl | (rw [Hb.out]; rfl) | simp [h1], Below.refl _ _⟩)
theorem psize_any (n : Int) (b : Bool) (h : szB n = b) (w : World) :
  Calls Tryz.prog 26 #[.int .i64 n] w fun e w' => e = .returned (.bool b) ∧ Below w.heap.size w w' := by
 subst h
 unfold szB
 by_cases h1 : 1 ≤ n
 ·by_cases h2 : n ≤ 1048576
  ·have hb : decide (1 ≤ n ∧ n ≤ 1048576) = true := by simp [h1, h2]
   have Hb := hH hb
   have d1 : decide (1 ≤ n) = true := by simpa using h1
   have d2 : decide (n ≤ 1048576) = true := by simpa using h2
   clear hb
   go_enter Tryz.func26, Tryz.ntmps26
   go_wp2_with fail
   all_goals (go_ret; exact ⟨by first | rfl | (rw [Hb.out]; rfl) | simp [h1, h2], Below.refl _ _⟩)
  ·have hb : decide (1 ≤ n ∧ n ≤ 1048576) = false := by simp [h2]
   have Hb := hH hb
   have d1 : decide (1 ≤ n) = true := by simpa using h1
   have d2 : decide (n ≤ 1048576) = false := by simpa using h2
   clear hb
   go_enter Tryz.func26, Tryz.ntmps26
   go_wp2_with fail
   all_goals (go_ret; exact ⟨by first | rfl | (rw [Hb.out]; rfl) | simp [h1, h2], Below.refl _ _⟩)
 ·have hb : decide (1 ≤ n ∧ n ≤ 1048576) = false := by simp [h1]
  have Hb := hH hb
  have d1 : decide (1 ≤ n) = false := by simpa using h1
  clear hb
  go_enter Tryz.func26, Tryz.ntmps26
  go_wp2_with fail
  all_goals (go_ret; exact ⟨by first | rfl | (rw [Hb.out]; rfl) | simp [h1], Below.refl _ _⟩)
theorem ptRight_any (x y : Int) (b : Bool) (h : ptB x y = b) (w : World) :
  Calls Tryz.prog 28 #[pV x y] w fun e w' => e = .returned (.bool b) ∧ Below w.heap.size w w' := by
 subst h
 unfold ptB
 cases hx : inB x with
 | true =>
  have Hx := hH hx
  rw [Bool.true_and]
  clear hx
  obtain ⟨W0, hW0⟩ : ∃ W0, [.cells #[.int .i64 x, .int .i64 y] 23].foldl World.alloc w = W0 := ⟨_, rfl⟩
  have B0 : Blk W0 (w.heap.size) ([.int .i64 x, .int .i64 y]) 23 := Blk.allocs _ hW0 0 rfl
  have HB := aB hW0
  have hsz : w.heap.size + 1 ≤ W0.heap.size := aZ hW0
  simp only [List.foldl_cons, List.foldl_nil] at hW0
  go_enter Tryz.func28, Tryz.ntmps28
  go_upto_region 1 with (fail)
  clear hW0
  refine cP ?_
  refine cN ?_
  refine cW ?_ ?_ ?_
  refine cX ?_ ?_ (by intro wz hSw; obtain ⟨q0, q1⟩ := c2 (B0.y hSw.1); go_simp; all_goals with_reducible rfl) ?_
  refine cC ?_ ?_ ?_ ?_ ?hc1_2 ?_
  case hc1_2 => (intro w hSw; exact within_any x true Hx.out w)
  refine cW ?_ ?_ ?_
  refine cW ?_ ?_ ?_
  refine cX ?_ ?_ (by intro wz hSw; obtain ⟨q0, q1⟩ := c2 (B0.y hSw.1); go_simp; all_goals with_reducible rfl) ?_
  refine cC ?_ ?_ ?_ ?_ ?hc1_6 ?_
  case hc1_6 => (intro w hSw; exact within_any y (inB y) rfl w)
  refine cW ?_ ?_ ?_
  refine cW ?_ ?_ ?_
  refine calm_end ?_
  intro w1 hS
  have hS := sO hS
  have B0 := B0.y hS
  have hz1 : W0.heap.size ≤ w1.heap.size := hS.size
  have HB := gS HB hS
  clear hS
  go_wp2_with fail
  go_ret
  exact ⟨rfl, HB⟩
 | false =>
  have Hx := hH hx
  rw [Bool.false_and]
  clear hx
  obtain ⟨W0, hW0⟩ : ∃ W0, [.cells #[.int .i64 x, .int .i64 y] 23].foldl World.alloc w = W0 := ⟨_, rfl⟩
  have B0 : Blk W0 (w.heap.size) ([.int .i64 x, .int .i64 y]) 23 := Blk.allocs _ hW0 0 rfl
  have HB := aB hW0
  have hsz : w.heap.size + 1 ≤ W0.heap.size := aZ hW0
  simp only [List.foldl_cons, List.foldl_nil] at hW0
  go_enter Tryz.func28, Tryz.ntmps28
  go_upto_region 1 with (fail)
  clear hW0
  refine cP ?_
  refine cN ?_
  refine cW ?_ ?_ ?_
  refine cX ?_ ?_ (by intro wz hSw; obtain ⟨q0, q1⟩ := c2 (B0.y hSw.1); go_simp; all_goals with_reducible rfl) ?_
  refine cC ?_ ?_ ?_ ?_ ?hc2_2 ?_
  case hc2_2 => (intro w hSw; exact within_any x false Hx.out w)
  refine cW ?_ ?_ ?_
  refine cS ?_ ?_
  refine cS ?_ ?_
  refine cS ?_ ?_
  refine cW ?_ ?_ ?_
  refine cW ?_ ?_ ?_
  refine calm_end ?_
  intro w1 hS
  have hS := sO hS
  have B0 := B0.y hS
  have hz1 : W0.heap.size ≤ w1.heap.size := hS.size
  have HB := gS HB hS
  clear hS
  go_wp2_with fail
  go_ret
  exact ⟨rfl, HB⟩
theorem sgRight_any (a b c d : Int) (r : Bool) (h : sgB a b c d = r) (w : World) :
  Calls Tryz.prog 27 #[gV a b c d] w fun e w' => e = .returned (.bool r) ∧ Below w.heap.size w w' := by
 subst h
 unfold sgB
 cases hx : ptB a b with
 | true =>
  have Hx := hH hx
  rw [Bool.true_and]
  clear hx
  obtain ⟨W0, hW0⟩ : ∃ W0, [.cells #[.int .i64 a, .int .i64 b, .int .i64 c, .int .i64 d] 25].foldl World.alloc w = W0 := ⟨_, rfl⟩
  have B0 : Blk W0 (w.heap.size) ([.int .i64 a, .int .i64 b, .int .i64 c, .int .i64 d]) 25 := Blk.allocs _ hW0 0 rfl
  have HB := aB hW0
  have hsz : w.heap.size + 1 ≤ W0.heap.size := aZ hW0
  simp only [List.foldl_cons, List.foldl_nil] at hW0
  go_enter Tryz.func27, Tryz.ntmps27
  go_upto_region 1 with (fail)
  clear hW0
  refine cP ?_
  refine cN ?_
  refine cW ?_ ?_ ?_
  refine cX ?_ ?_ (by intro wz hSw; obtain ⟨q0, q1, q2, q3⟩ := c4 (B0.y hSw.1); go_simp; all_goals with_reducible rfl) ?_
  refine cC ?_ ?_ ?_ ?_ ?hc3_2 ?_
  case hc3_2 => (intro w hSw; exact ptRight_any a b true Hx.out w)
  refine cW ?_ ?_ ?_
  refine cW ?_ ?_ ?_
  refine cX ?_ ?_ (by intro wz hSw; obtain ⟨q0, q1, q2, q3⟩ := c4 (B0.y hSw.1); go_simp; all_goals with_reducible rfl) ?_
  refine cC ?_ ?_ ?_ ?_ ?hc3_6 ?_
  case hc3_6 => (intro w hSw; exact ptRight_any c d (ptB c d) rfl w)
  refine cW ?_ ?_ ?_
  refine cW ?_ ?_ ?_
  refine calm_end ?_
  intro w1 hS
  have hS := sO hS
  have B0 := B0.y hS
  have hz1 : W0.heap.size ≤ w1.heap.size := hS.size
  have HB := gS HB hS
  clear hS
  go_wp2_with fail
  go_ret
  exact ⟨rfl, HB⟩
 | false =>
  have Hx := hH hx
  rw [Bool.false_and]
  clear hx
  obtain ⟨W0, hW0⟩ : ∃ W0, [.cells #[.int .i64 a, .int .i64 b, .int .i64 c, .int .i64 d] 25].foldl World.alloc w = W0 := ⟨_, rfl⟩
  have B0 : Blk W0 (w.heap.size) ([.int .i64 a, .int .i64 b, .int .i64 c, .int .i64 d]) 25 := Blk.allocs _ hW0 0 rfl
  have HB := aB hW0
  have hsz : w.heap.size + 1 ≤ W0.heap.size := aZ hW0
  simp only [List.foldl_cons, List.foldl_nil] at hW0
  go_enter Tryz.func27, Tryz.ntmps27
  go_upto_region 1 with (fail)
  clear hW0
  refine cP ?_
  refine cN ?_
  refine cW ?_ ?_ ?_
  refine cX ?_ ?_ (by intro wz hSw; obtain ⟨q0, q1, q2, q3⟩ := c4 (B0.y hSw.1); go_simp; all_goals with_reducible rfl) ?_
  refine cC ?_ ?_ ?_ ?_ ?hc4_2 ?_
  case hc4_2 => (intro w hSw; exact ptRight_any a b false Hx.out w)
  refine cW ?_ ?_ ?_
  refine cS ?_ ?_
  refine cS ?_ ?_
  refine cS ?_ ?_
  refine cW ?_ ?_ ?_
  refine cW ?_ ?_ ?_
  refine calm_end ?_
  intro w1 hS
  have hS := sO hS
  have B0 := B0.y hS
  have hz1 : W0.heap.size ≤ w1.heap.size := hS.size
  have HB := gS HB hS
  clear hS
  go_wp2_with fail
  go_ret
  exact ⟨rfl, HB⟩
theorem at_any (x y : Int) (h : ptB x y = true) (w : World) :
  Calls Tryz.prog 42 #[pV x y] w fun e w' => e = .returned (sV x y 1) ∧ Below w.heap.size w w' := by
 obtain ⟨W0, hW0⟩ : ∃ W0, [.cells #[.int .i64 x, .int .i64 y] 23, .cells #[.int .u64 0, .int .u64 0, .int .u64 0, .int .u64 0, .int .u64 0, .int .u64 0, .int .u64 0, .int .u64 0, .int .u64 0, .int .u64 0, .int .u64 0, .int .u64 0] 106].foldl World.alloc w = W0 := ⟨_, rfl⟩
 have B0 : Blk W0 (w.heap.size) ([.int .i64 x, .int .i64 y]) 23 := Blk.allocs _ hW0 0 rfl
 have B1 : Blk W0 (w.heap.size + 1) (sL 0 0 0) 106 := Blk.allocs _ hW0 1 rfl
 have HB := aB hW0
 have hsz : w.heap.size + 2 ≤ W0.heap.size := aZ hW0
 simp only [List.foldl_cons, List.foldl_nil] at hW0
 have H := hH h
 have hxy := h
 unfold ptB at hxy
 rw [Bool.and_eq_true, inB_iff, inB_iff] at hxy
 have HXY := hH hxy
 clear h hxy
 go_enter Tryz.func42, Tryz.ntmps42
 go_upto_region 1 with (fail)
 clear hW0
 refine cP ?_
 refine cN ?_
 refine cX ?_ ?_ (by intro wz hSw; obtain ⟨q0, q1⟩ := c2 (B0.y hSw.1); go_simp; all_goals with_reducible rfl) ?_
 refine cC ?_ ?_ ?_ ?_ ?hc5_1 ?_
 case hc5_1 => (intro w hSw; exact ptRight_any x y true H.out w)
 refine cW ?_ ?_ ?_
 refine calm_end ?_
 intro w1 hS
 have hS := sO hS
 have B0 := B0.y hS
 have B1 := B1.y hS
 have hz1 : W0.heap.size ≤ w1.heap.size := hS.size
 have HB := gS HB hS
 clear hS
 go_upto_region 3 with (fail)
 refine cG ?_
 refine calm_k (b := w.heap.size + 1) (o := 0) (st := 8) (ado := .tmp 2) (x := (.tmp 14)) (u := sV x y 1) (by kernel_rfl) B1 (by rfl) size_spot (spot_one _ _ _) (by first | exact Nat.le_refl _ | (simp; done) | decide) ?_
 refine cW ?_ ?_ ?_
 refine cX ?_ ?_ (by intro wz hSw; obtain ⟨q0, q1⟩ := c2 (B0.y hSw.1); go_simp; all_goals with_reducible rfl) ?_
 refine cC ?_ ?_ ?_ ?_ ?hc6_2 ?_
 case hc6_2 => (intro w hSw; exact wideOf_any x (by have := HXY.out; omega) (by have := HXY.out; omega) w)
 refine cW ?_ ?_ ?_
 refine cX ?_ ?_ (by intro wz hSw; obtain ⟨q0, q1⟩ := c2 (B0.y hSw.1); go_simp; all_goals with_reducible rfl) ?_
 refine cC ?_ ?_ ?_ ?_ ?hc6_5 ?_
 case hc6_5 => (intro w hSw; exact wideOf_any y (by have := HXY.out; omega) (by have := HXY.out; omega) w)
 refine cC ?_ ?_ ?_ ?_ ?hc6_6 ?_
 case hc6_6 => (intro w hSw; exact wideOf_any 1 (by omega) (by omega) w)
 refine cW ?_ ?_ ?_
 refine cB ?_
 refine calm_end ?_
 refine ⟨(by rfl), (by rfl), fun w2 hS D0 => ?_⟩
 have B0 := B0.y hS
 have B1 : Blk w2 (w.heap.size + 1) (sL x y 1) 106 := blk_whole D0 rfl
 have hz2 : w1.heap.size ≤ w2.heap.size := hS.size
 have HB := gS HB hS
 clear hS D0
 go_wp2_with fail
 obtain ⟨s0_0, s0_1, s0_2, s0_3, s0_4, s0_5, s0_6, s0_7, s0_8, s0_9, s0_10, s0_11⟩ := c12 (B1)
 refine bodyPost_ret (v := sV x y 1) (by simp [results, Tryz.results42, go_sem, s0_0, s0_1, s0_2, s0_3, s0_4, s0_5, s0_6, s0_7, s0_8, s0_9, s0_10, s0_11]) rfl ⟨rfl, HB⟩
set_option maxHeartbeats 2000000 in
theorem spotRight_any (x y v : Int) (h : SpotOk x y v) (w : World) :
  Calls Tryz.prog 69 #[sV x y v] w fun e w' => e = .returned (.bool true) ∧ Below w.heap.size w w' := by
 obtain ⟨W0, hW0⟩ : ∃ W0, [.cells #[u64 (lb (tc x) 0), u64 (lb (tc x) 1), u64 (lb (tc x) 2), u64 (lb (tc x) 3), u64 (lb (tc y) 0), u64 (lb (tc y) 1), u64 (lb (tc y) 2), u64 (lb (tc y) 3), u64 (lb (tc v) 0), u64 (lb (tc v) 1), u64 (lb (tc v) 2), u64 (lb (tc v) 3)] 106].foldl World.alloc w = W0 := ⟨_, rfl⟩
 have B0 : Blk W0 (w.heap.size) (sL x y v) 106 := Blk.allocs _ hW0 0 rfl
 have HB := aB hW0
 have hsz : w.heap.size + 1 ≤ W0.heap.size := aZ hW0
 simp only [List.foldl_cons, List.foldl_nil] at hW0
 have hx1 := h.x1
 have hx2 := h.x2
 have hy1 := h.y1
 have hy2 := h.y2
 have hw1 := h.w1
 have hw2 := h.w2
 have hm : v * 2199023255552 ≤ 2722258935367507707706996859454145691648 := by omega
 have Fv : Hid (Fit v) := hH (by unfold Fit; simp only [H4]; omega)
 have Fx : Hid (Fit x) := hH (by unfold Fit; simp only [H4]; omega)
 have Fy : Hid (Fit y) := hH (by unfold Fit; simp only [H4]; omega)
 obtain ⟨hi, Hhi⟩ : ∃ hi, Hid (hi = v * 2199023255552) := ⟨_, hH rfl⟩
 obtain ⟨lo, Hlo⟩ : ∃ lo, Hid (lo = 0 - hi) := ⟨_, hH rfl⟩
 have Fh : Hid (Fit hi) := hH (by rw [Hhi.out]; unfold Fit; simp only [H4]; omega)
 have Fl : Hid (Fit lo) := hH (by rw [Hlo.out, Hhi.out]; unfold Fit; simp only [H4]; omega)
 have F45 : Hid (Fit 35184372088832) := hH (by unfold Fit; decide)
 have F41 : Hid (Fit 2199023255552) := hH (by unfold Fit; decide)
 have F90 : Hid (Fit 1237940039285380274899124224) := hH (by unfold Fit; decide)
 obtain ⟨cc0, Hc0⟩ : ∃ c, Hid (cmpI v 1237940039285380274899124224 = c) := ⟨_, hH rfl⟩
 obtain ⟨cc1, Hc1⟩ : ∃ c, Hid (cmpI x lo = c) := ⟨_, hH rfl⟩
 obtain ⟨cc2, Hc2⟩ : ∃ c, Hid (cmpI x hi = c) := ⟨_, hH rfl⟩
 obtain ⟨cc3, Hc3⟩ : ∃ c, Hid (cmpI y lo = c) := ⟨_, hH rfl⟩
 obtain ⟨cc4, Hc4⟩ : ∃ c, Hid (cmpI y hi = c) := ⟨_, hH rfl⟩
 have i0 : cc0 ≤ 0 := by rw [← Hc0.out]; exact cmpI_nonpos hw2
 have i1 : 0 ≤ cc1 := by rw [← Hc1.out]; exact cmpI_nonneg (by rw [Hlo.out, Hhi.out]; omega)
 have i2 : cc2 ≤ 0 := by rw [← Hc2.out]; exact cmpI_nonpos (by rw [Hhi.out]; omega)
 have i3 : 0 ≤ cc3 := by rw [← Hc3.out]; exact cmpI_nonneg (by rw [Hlo.out, Hhi.out]; omega)
 have i4 : cc4 ≤ 0 := by rw [← Hc4.out]; exact cmpI_nonpos (by rw [Hhi.out]; omega)
 have b0 : decide (0 < cc0) = false := by simp; omega
 have b1 : decide (0 ≤ cc1) = true := by simp; omega
 have b2 : decide (cc2 ≤ 0) = true := by simp; omega
 have b3 : decide (0 ≤ cc3) = true := by simp; omega
 have b4 : decide (cc4 ≤ 0) = true := by simp; omega
 have Hv := hH hw1
 clear hx1 hx2 hy1 hy2 hw1 hw2 hm h
 go_enter Tryz.func69, Tryz.ntmps69
 go_upto_region 1 with (fail)
 clear hW0
 refine cG ?_
 refine cN ?_
 refine cW ?_ ?_ ?_
 refine cX ?_ ?_ (by intro wz hSw; obtain ⟨q0, q1, q2, q3, q4, q5, q6, q7, q8, q9, q10, q11⟩ := c12 (B0.y hSw.1); go_simp; all_goals with_reducible rfl) ?_
 refine cC ?_ ?_ ?_ ?_ ?hc7_2 ?_
 case hc7_2 => (intro w hSw; exact wideSign_pos v Fv.out Hv.out w)
 refine cW ?_ ?_ ?_
 refine cW ?_ ?_ ?_
 refine cW ?_ ?_ ?_
 refine cX ?_ ?_ (by intro wz hSw; obtain ⟨q0, q1, q2, q3, q4, q5, q6, q7, q8, q9, q10, q11⟩ := c12 (B0.y hSw.1); go_simp; all_goals with_reducible rfl) ?_
 refine cC ?_ ?_ ?_ ?_ ?hc7_7 ?_
 case hc7_7 => (intro w hSw; exact wideOf_any 35184372088832 (by omega) (by omega) w)
 refine cC ?_ ?_ ?_ ?_ ?hc7_8 ?_
 case hc7_8 => (intro w hSw; exact wideOf_any 35184372088832 (by omega) (by omega) w)
 refine cC ?_ ?_ ?_ ?_ ?hc7_9 ?_
 case hc7_9 => (intro w hSw; exact cross_times 35184372088832 35184372088832 1237940039285380274899124224 F45.out F45.out F90.out (by omega) w)
 refine cC ?_ ?_ ?_ ?_ ?hc7_10 ?_
 case hc7_10 => (intro w hSw; exact wideCmp_b v 1237940039285380274899124224 cc0 Fv.out F90.out Hc0.out w)
 refine cW ?_ ?_ ?_
 refine cW ?_ ?_ ?_
 refine calm_end ?_
 intro w1 hS
 have hS := sO hS
 have B0 := B0.y hS
 have hz1 : W0.heap.size ≤ w1.heap.size := hS.size
 have HB := gS HB hS
 clear hS
 go_upto_region 3 with (fail)
 refine cG ?_
 refine calm_a (k := 4) (d := 3) (st := 5) (x := (.tmp 21)) (u := wI hi) (T := 60) (by kernel_rfl) (by rfl) (by rfl) info_wide rfl rfl (by first | exact wI_one _ | exact U_one _) ?_
 refine cW ?_ ?_ ?_
 refine cX ?_ ?_ (by intro wz hSw; obtain ⟨q0, q1, q2, q3, q4, q5, q6, q7, q8, q9, q10, q11⟩ := c12 (B0.y hSw.1); go_simp; all_goals with_reducible rfl) ?_
 refine cC ?_ ?_ ?_ ?_ ?hc8_2 ?_
 case hc8_2 => (intro w hSw; exact wideOf_any 2199023255552 (by omega) (by omega) w)
 refine cC ?_ ?_ ?_ ?_ ?hc8_3 ?_
 case hc8_3 => (intro w hSw; exact cross_times v 2199023255552 hi Fv.out F41.out Fh.out Hhi.out w)
 refine cB ?_
 refine cB ?_
 refine calm_end ?_
 refine ⟨(by rfl), fun b2 w2 hb2 hS D0 => ?_⟩
 have hl2_0 : w.heap.size < b2 := lL B0.lt hb2
 have hS := sO hS
 have B0 := B0.y hS
 have B2 : Blk w2 b2 (uL (tc hi)) 60 := D0
 have hz2 : w1.heap.size ≤ w2.heap.size := hS.size
 have HB := gS HB hS
 clear hS D0
 go_upto_region 4 with (fail)
 refine cP ?_
 refine calm_a (k := 3) (d := 4) (st := 4) (x := (.tmp 24)) (u := wI lo) (T := 60) (by kernel_rfl) (by rfl) (by rfl) info_wide rfl rfl (by first | exact wI_one _ | exact U_one _) ?_
 refine cW ?_ ?_ ?_
 refine cX ?_ ?_ (by intro wz hSw; obtain ⟨q0, q1, q2, q3⟩ := c4 (B2.y hSw.1); go_simp; all_goals with_reducible rfl) ?_
 refine cC ?_ ?_ ?_ ?_ ?hc9_2 ?_
 case hc9_2 => (intro w hSw; exact cross_less 0 hi lo fit0 Fh.out Fl.out Hlo.out w)
 refine cB ?_
 refine cB ?_
 refine calm_end ?_
 refine ⟨(by rfl), fun b3 w3 hb3 hS D0 => ?_⟩
 have hl3_0 : w.heap.size < b3 := lL B0.lt hb3
 have hl3_2 : b2 < b3 := lL B2.lt hb3
 have hS := sO hS
 have B0 := B0.y hS
 have B2 := B2.y hS
 have B3 : Blk w3 b3 (uL (tc lo)) 60 := D0
 have hz3 : w2.heap.size ≤ w3.heap.size := hS.size
 have HB := gS HB hS
 clear hS D0
 go_upto_region 5 with (fail)
 refine cP ?_
 refine cN ?_
 refine cW ?_ ?_ ?_
 refine cX ?_ ?_ (by intro wz hSw; obtain ⟨q0, q1, q2, q3, q4, q5, q6, q7, q8, q9, q10, q11⟩ := c12 (B0.y hSw.1); go_simp; all_goals with_reducible rfl) ?_
 refine cX ?_ ?_ (by intro wz hSw; obtain ⟨q0, q1, q2, q3⟩ := c4 (B3.y hSw.1); go_simp; all_goals with_reducible rfl) ?_
 refine cC ?_ ?_ ?_ ?_ ?hc10_3 ?_
 case hc10_3 => (intro w hSw; exact wideCmp_b x lo cc1 Fx.out Fl.out Hc1.out w)
 refine cW ?_ ?_ ?_
 refine cW ?_ ?_ ?_
 refine cW ?_ ?_ ?_
 refine cX ?_ ?_ (by intro wz hSw; obtain ⟨q0, q1, q2, q3, q4, q5, q6, q7, q8, q9, q10, q11⟩ := c12 (B0.y hSw.1); go_simp; all_goals with_reducible rfl) ?_
 refine cX ?_ ?_ (by intro wz hSw; obtain ⟨q0, q1, q2, q3⟩ := c4 (B2.y hSw.1); go_simp; all_goals with_reducible rfl) ?_
 refine cC ?_ ?_ ?_ ?_ ?hc10_9 ?_
 case hc10_9 => (intro w hSw; exact wideCmp_b x hi cc2 Fx.out Fh.out Hc2.out w)
 refine cW ?_ ?_ ?_
 refine cW ?_ ?_ ?_
 refine cW ?_ ?_ ?_
 refine cW ?_ ?_ ?_
 refine cX ?_ ?_ (by intro wz hSw; obtain ⟨q0, q1, q2, q3, q4, q5, q6, q7, q8, q9, q10, q11⟩ := c12 (B0.y hSw.1); go_simp; all_goals with_reducible rfl) ?_
 refine cX ?_ ?_ (by intro wz hSw; obtain ⟨q0, q1, q2, q3⟩ := c4 (B3.y hSw.1); go_simp; all_goals with_reducible rfl) ?_
 refine cC ?_ ?_ ?_ ?_ ?hc10_16 ?_
 case hc10_16 => (intro w hSw; exact wideCmp_b y lo cc3 Fy.out Fl.out Hc3.out w)
 refine cW ?_ ?_ ?_
 refine cW ?_ ?_ ?_
 refine cW ?_ ?_ ?_
 refine cW ?_ ?_ ?_
 refine cX ?_ ?_ (by intro wz hSw; obtain ⟨q0, q1, q2, q3, q4, q5, q6, q7, q8, q9, q10, q11⟩ := c12 (B0.y hSw.1); go_simp; all_goals with_reducible rfl) ?_
 refine cX ?_ ?_ (by intro wz hSw; obtain ⟨q0, q1, q2, q3⟩ := c4 (B2.y hSw.1); go_simp; all_goals with_reducible rfl) ?_
 refine cC ?_ ?_ ?_ ?_ ?hc10_23 ?_
 case hc10_23 => (intro w hSw; exact wideCmp_b y hi cc4 Fy.out Fh.out Hc4.out w)
 refine cW ?_ ?_ ?_
 refine cW ?_ ?_ ?_
 refine cW ?_ ?_ ?_
 refine calm_end ?_
 intro w4 hS
 have hS := sO hS
 have B0 := B0.y hS
 have B2 := B2.y hS
 have B3 := B3.y hS
 have hz4 : w3.heap.size ≤ w4.heap.size := hS.size
 have HB := gS HB hS
 clear hS
 go_wp2_with fail
 go_ret
 exact ⟨rfl, HB⟩
set_option maxHeartbeats 1000000 in
theorem cell_any (n v size : Int) (hw1 : 0 < v) (hw2 : v ≤ 1237940039285380274899124224) (hn1 : -(v * 2199023255552) ≤ n) (hn2 : n ≤ v * 2199023255552) (hs1 : 1 ≤ size) (hs2 : size ≤ 1048576) (w : World) :
  Calls Tryz.prog 70 #[wI n, wI v, .int .i64 size] w fun e w' => e = .returned (.int .i64 (cellZ n v size)) ∧ Below w.heap.size w w' := by
 obtain ⟨W0, hW0⟩ : ∃ W0, [.cells #[u64 (lb (tc n) 0), u64 (lb (tc n) 1), u64 (lb (tc n) 2), u64 (lb (tc n) 3)] 60, .cells #[u64 (lb (tc v) 0), u64 (lb (tc v) 1), u64 (lb (tc v) 2), u64 (lb (tc v) 3)] 60].foldl World.alloc w = W0 := ⟨_, rfl⟩
 have B0 : Blk W0 (w.heap.size) (uL (tc n)) 60 := Blk.allocs _ hW0 0 rfl
 have B1 : Blk W0 (w.heap.size + 1) (uL (tc v)) 60 := Blk.allocs _ hW0 1 rfl
 have HB := aB hW0
 have hsz : w.heap.size + 2 ≤ W0.heap.size := aZ hW0
 simp only [List.foldl_cons, List.foldl_nil] at hW0
 obtain ⟨un, Hun⟩ : ∃ u, Hid (u = v * size) := ⟨_, hH rfl⟩
 have hu0 : 0 < un := by rw [Hun.out]; exact Int.mul_pos hw1 (by omega)
 have hu1 : un ≤ 1237940039285380274899124224 * 1048576 := by rw [Hun.out]; exact Int.mul_le_mul hw2 hs2 (by omega) (by omega)
 have hvu : v * 1 ≤ un := by rw [Hun.out]; exact Int.mul_le_mul_of_nonneg_left (by omega) (by omega)
 obtain ⟨q, Hq⟩ : ∃ q, Hid (q = (n + n + un) / (un + un)) := ⟨_, hH rfl⟩
 have hq1 : q ≤ 2199023255553 := by
  rw [Hq.out]; exact Int.le_of_lt_add_one (Int.ediv_lt_of_lt_mul (by omega) (by omega))
 have hq2 : -2199023255553 ≤ q := by
  rw [Hq.out]; exact (Int.le_ediv_iff_mul_le (by omega)).2 (by omega)
 have Fv : Hid (Fit v) := hH (by unfold Fit; simp only [H4]; omega)
 have Fn : Hid (Fit n) := hH (by unfold Fit; simp only [H4]; omega)
 have Fu : Hid (Fit un) := hH (by unfold Fit; simp only [H4]; omega)
 have Fs : Hid (Fit size) := hH (by unfold Fit; simp only [H4]; omega)
 have Fnn : Hid (Fit (n + n)) := hH (by unfold Fit; simp only [H4]; omega)
 have Fnu : Hid (Fit (n + n + un)) := hH (by unfold Fit; simp only [H4]; omega)
 have Fuu : Hid (Fit (un + un)) := hH (by unfold Fit; simp only [H4]; omega)
 have Huu : Hid (0 < un + un) := hH (by omega)
 have Hz : Hid (cellZ n v size = q) := hH (by rw [Hq.out, Hun.out]; rfl)
 have Hdiv : Hid (∀ w, Calls Tryz.prog 93 #[wI (n + n + un), wI (un + un)] w fun e w' => e = .returned (.tuple #[wI q, wI ((n + n + un) % (un + un)), .bool true]) ∧ Below w.heap.size w w') := hH (by
  rw [Hq.out]; exact wideDiv_any _ _ Fnu.out Fuu.out Huu.out)
 obtain ⟨rm, Hrm⟩ : ∃ rm, Hid (rm = (n + n + un) % (un + un)) := ⟨_, hH rfl⟩
 have Hdiv2 : Hid (∀ w, Calls Tryz.prog 93 #[wI (n + n + un), wI (un + un)] w fun e w' => e = .returned (.tuple #[wI q, wI rm, .bool true]) ∧ Below w.heap.size w w') := hH (by rw [Hrm.out]; exact Hdiv.out)
 have HS := hH (And.intro hs1 hs2)
 clear hu0 hu1 hvu hw1 hw2 hn1 hn2 Hdiv hs1 hs2
 go_enter Tryz.func70, Tryz.ntmps70
 unfold wI U
 go_upto_region 1 with (fail)
 clear hW0
 refine cG ?_
 refine calm_a (k := 4) (d := 7) (st := 5) (x := (.tmp 16)) (u := wI un) (T := 60) (by kernel_rfl) (by rfl) (by rfl) info_wide rfl rfl (by first | exact wI_one _ | exact U_one _) ?_
 refine cX ?_ ?_ (by intro wz hSw; obtain ⟨q0, q1, q2, q3⟩ := c4 (B1.y hSw.1); go_simp; all_goals with_reducible rfl) ?_
 refine cW ?_ ?_ ?_
 refine cC ?_ ?_ ?_ ?_ ?hc11_2 ?_
 case hc11_2 => (intro w hSw; exact wideOf_any size (by have := HS.out; omega) (by have := HS.out; omega) w)
 refine cC ?_ ?_ ?_ ?_ ?hc11_3 ?_
 case hc11_3 => (intro w hSw; exact pixel_times v size un Fv.out Fs.out Fu.out Hun.out w)
 refine cB ?_
 refine cB ?_
 refine calm_end ?_
 refine ⟨(by rfl), fun b3 w1 hb3 hS D0 => ?_⟩
 have hl3_0 : w.heap.size < b3 := lL B0.lt hb3
 have hl3_1 : w.heap.size + 1 < b3 := lL B1.lt hb3
 have hS := sO hS
 have B0 := B0.y hS
 have B1 := B1.y hS
 have B3 : Blk w1 b3 (uL (tc un)) 60 := D0
 have hz1 : W0.heap.size ≤ w1.heap.size := hS.size
 have HB := gS HB hS
 clear hS D0
 go_upto_region 2 with (fail)
 refine cG ?_
 refine calm_aa (k := 13) (d := 8) (st := 15) (x := (.tmp 27)) (u := wI q) (T := 60) (k' := 14) (d' := 9) (st' := 16) (x' := (.tmp 28)) (u' := wI rm) (T' := 60) (by kernel_rfl) (by rfl) (by rfl) info_wide rfl rfl (by first | exact wI_one _ | exact U_one _) (by rfl) (by rfl) info_wide rfl rfl (by first | exact wI_one _ | exact U_one _) ?_
 refine cX ?_ ?_ (by intro wz hSw; obtain ⟨q0, q1, q2, q3⟩ := c4 (B0.y hSw.1); go_simp; all_goals with_reducible rfl) ?_
 refine cX ?_ ?_ (by intro wz hSw; obtain ⟨q0, q1, q2, q3⟩ := c4 (B0.y hSw.1); go_simp; all_goals with_reducible rfl) ?_
 refine cC ?_ ?_ ?_ ?_ ?hc12_2 ?_
 case hc12_2 => (intro w hSw; exact pixel_plus n n (n + n) Fn.out Fn.out Fnn.out rfl w)
 refine cX ?_ ?_ (by intro wz hSw; obtain ⟨q0, q1, q2, q3⟩ := c4 (B3.y hSw.1); go_simp; all_goals with_reducible rfl) ?_
 refine cC ?_ ?_ ?_ ?_ ?hc12_4 ?_
 case hc12_4 => (intro w hSw; exact pixel_plus (n + n) un (n + n + un) Fnn.out Fu.out Fnu.out rfl w)
 refine cX ?_ ?_ (by intro wz hSw; obtain ⟨q0, q1, q2, q3⟩ := c4 (B3.y hSw.1); go_simp; all_goals with_reducible rfl) ?_
 refine cX ?_ ?_ (by intro wz hSw; obtain ⟨q0, q1, q2, q3⟩ := c4 (B3.y hSw.1); go_simp; all_goals with_reducible rfl) ?_
 refine cC ?_ ?_ ?_ ?_ ?hc12_7 ?_
 case hc12_7 => (intro w hSw; exact pixel_plus un un (un + un) Fu.out Fu.out Fuu.out rfl w)
 refine cC ?_ ?_ ?_ ?_ ?hc12_8 ?_
 case hc12_8 => (intro w hSw; exact Hdiv2.out w)
 refine cW ?_ ?_ ?_
 refine cW ?_ ?_ ?_
 refine cW ?_ ?_ ?_
 refine cW ?_ ?_ ?_
 refine cB ?_
 refine cB ?_
 refine cB ?_
 refine cB ?_
 refine cW ?_ ?_ ?_
 refine calm_end ?_
 refine ⟨⟨(by rfl), (by rfl)⟩, fun b4 b5 w2 hb4 hb5 hbne5 hS D0 D1 => ?_⟩
 have hl4_0 : w.heap.size < b4 := lL B0.lt hb4
 have hl5_0 : w.heap.size < b5 := lL B0.lt hb5
 have hl4_1 : w.heap.size + 1 < b4 := lL B1.lt hb4
 have hl5_1 : w.heap.size + 1 < b5 := lL B1.lt hb5
 have hl4_3 : b3 < b4 := lL B3.lt hb4
 have hl5_3 : b3 < b5 := lL B3.lt hb5
 have hS := sO hS
 have B0 := B0.y hS
 have B1 := B1.y hS
 have B3 := B3.y hS
 have B4 : Blk w2 b4 (uL (tc q)) 60 := D0
 have B5 : Blk w2 b5 (uL (tc rm)) 60 := D1
 have hz2 : w1.heap.size ≤ w2.heap.size := hS.size
 have HB := gS HB hS
 clear hS D0 D1
 go_upto_region 3 with (fail)
 refine cP ?_
 refine cN ?_
 refine cX ?_ ?_ (by intro wz hSw; obtain ⟨q0, q1, q2, q3⟩ := c4 (B4.y hSw.1); go_simp; all_goals with_reducible rfl) ?_
 refine cC ?_ ?_ ?_ ?_ ?hc13_1 ?_
 case hc13_1 => (intro w hSw; exact wideSmall_any q (by omega) (by omega) w)
 refine cW ?_ ?_ ?_
 refine cW ?_ ?_ ?_
 refine cW ?_ ?_ ?_
 refine cW ?_ ?_ ?_
 refine cW ?_ ?_ ?_
 refine calm_end ?_
 intro w3 hS
 have hS := sO hS
 have B0 := B0.y hS
 have B1 := B1.y hS
 have B3 := B3.y hS
 have B4 := B4.y hS
 have B5 := B5.y hS
 have hz3 : w2.heap.size ≤ w3.heap.size := hS.size
 have HB := gS HB hS
 clear hS
 go_wp2_with fail
 go_ret
 exact ⟨by rw [Hz.out]; rfl, HB⟩
end Go.Proofs.YthbplhglfjlngaaGreat
