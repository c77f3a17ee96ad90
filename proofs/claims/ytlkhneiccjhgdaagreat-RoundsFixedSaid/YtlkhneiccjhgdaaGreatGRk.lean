/- Parts of the proof. -/
import Derived.Test.YtlkhneiccjhgdaaGreatGRa
import Derived.Test.YtlkhneiccjhgdaaGreatGRb
import Derived.Deep.Cut
import Derived.Test.YtlkhneiccjhgdaaGreatGRj
import Derived.Test.YtlkhneiccjhgdaaGreatGRh
set_option linter.unusedVariables false
set_option linter.unusedSimpArgs false
set_option maxRecDepth 100000
namespace Go.Proofs.YtlkhneiccjhgdaaGreat
open Go.RowKit Go.Rg Go.Wd
attribute [local go_sem] Oper.semAt_some
theorem eqIn_UZ (n : Nat) (hn : n < B4) (b : Bool) (h : decide (n = 0) = b) (w : World) : (Op.equalIn 10000 76 (U n) (.agg #[.int .u64 0, .int .u64 0, .int .u64 0, .int .u64 0])).run Tryz.prog w = .ok b w := by
 have := eqIn_U n 0 hn (by decide) w
 rw [h] at this; exact this
theorem divided_b (a b q r : Nat) (ha : a < B4) (hb : b < B4) (h0 : 0 < b) (hq : q = a / b) (hr : r = a % b) (w : World) :
  Calls Tryz.prog 205 #[U a, U b] w fun e w' => e = .returned (.tuple #[U q, U r]) ∧ Below w.heap.size w w' := by
 subst hq hr; exact wideDivided_any a b ha hb h0 w
theorem size_b (z : Int) (n : Nat) (hz : Fit z) (h : n = z.natAbs) (w : World) :
  Calls Tryz.prog 206 #[wI z] w fun e w' => e = .returned (U n) ∧ Below w.heap.size w w' := by
 subst h; exact wideSize_any z hz w
set_option maxHeartbeats 1000000 in
theorem wideDiv_pos (x y z r : Int) (hx : Fit x) (hy : Fit y) (h0 : 0 < y) (hx0 : 0 ≤ x) (hz : z = x / y) (hr : r = x % y) (w : World) :
  Calls Tryz.prog 153 #[wI x, wI y] w fun e w' => e = .returned (.tuple #[wI z, wI r, .bool true]) ∧ Below w.heap.size w w' := by
 obtain ⟨W0, hW0⟩ : ∃ W0, [.cells #[u64 (lb (tc x) 0), u64 (lb (tc x) 1), u64 (lb (tc x) 2), u64 (lb (tc x) 3)] 76, .cells #[u64 (lb (tc y) 0), u64 (lb (tc y) 1), u64 (lb (tc y) 2), u64 (lb (tc y) 3)] 76, .cells #[.int .u64 0, .int .u64 0, .int .u64 0, .int .u64 0] 76, .cells #[.int .u64 0, .int .u64 0, .int .u64 0, .int .u64 0] 76].foldl World.alloc w = W0 := ⟨_, rfl⟩
 have B0 : Blk W0 (w.heap.size) (uL (tc x)) 76 := Blk.allocs _ hW0 0 rfl
 have B1 : Blk W0 (w.heap.size + 1) (uL (tc y)) 76 := Blk.allocs _ hW0 1 rfl
 have B2 : Blk W0 (w.heap.size + 1 + 1) (uL 0) 76 := Blk.allocs _ hW0 2 rfl
 have B3 : Blk W0 (w.heap.size + 1 + 1 + 1) (uL 0) 76 := Blk.allocs _ hW0 3 rfl
 have HB := aB hW0
 have hsz : w.heap.size + 4 ≤ W0.heap.size := aZ hW0
 simp only [List.foldl_cons, List.foldl_nil] at hW0
 obtain ⟨a, Ha⟩ : ∃ a : Nat, Hid (a = x.natAbs) := ⟨_, hH rfl⟩
 obtain ⟨b, Hb⟩ : ∃ b : Nat, Hid (b = y.natAbs) := ⟨_, hH rfl⟩
 have HA : Hid (a < B4) := hH (by rw [Ha.out]; exact natAbs_lt hx)
 have HB4 : Hid (b < B4) := hH (by rw [Hb.out]; exact natAbs_lt hy)
 have Hb0 : Hid (0 < b) := hH (by have := Hb.out; omega)
 obtain ⟨n, Hn⟩ : ∃ n : Nat, Hid (n = a / b) := ⟨_, hH rfl⟩
 obtain ⟨m, Hm⟩ : ∃ m : Nat, Hid (m = a % b) := ⟨_, hH rfl⟩
 have hdm : b * n + m = a := by rw [Hn.out, Hm.out]; exact Nat.div_add_mod a b
 have hmb : m < b := by rw [Hm.out]; exact Nat.mod_lt _ Hb0.out
 have hna : n ≤ a := by rw [Hn.out]; exact Nat.div_le_self _ _
 have hab : (b : Int) = y := by have := Hb.out; omega
 have haa : (a : Int) = x := by have := Ha.out; omega
 have hcast : (b : Int) * (n : Int) + (m : Int) = (a : Int) := by exact_mod_cast hdm
 have haB := HA.out
 have hbB := HB4.out
 have hfx := hx
 have hfy := hy
 unfold Fit at hfx hfy
 simp only [H4, B4] at hfx hfy haB hbB
 have hnb : n + 1 ≤ a + 1 := by omega
 have Hz : Hid (z = (n : Int) ∧ r = (m : Int)) := hH (by
  have e : x = (m : Int) + y * (n : Int) := by rw [← hab, ← haa]; omega
  have hm0 : (0 : Int) ≤ (m : Int) := by omega
  have hmy : (m : Int) < y := by omega
  refine ⟨?_, ?_⟩
  ·rw [hz, e, Int.add_mul_ediv_left _ _ (by omega), Int.ediv_eq_zero_of_lt hm0 hmy]; omega
  ·rw [hr, e, Int.add_mul_emod_self_left, Int.emod_eq_of_lt hm0 hmy])
 have Hsz : Hid (Fit z) := hH (by rw [Hz.out.1]; unfold Fit; simp only [H4]; omega)
 have Hsr : Hid (Fit r) := hH (by rw [Hz.out.2]; unfold Fit; simp only [H4]; omega)
 have HnB : Hid (n < B4) := hH (by simp only [B4]; omega)
 have HmB : Hid (m < B4) := hH (by simp only [B4]; omega)
 have Hm1 : Hid (m < B4) := hH (by simp only [B4]; omega)
 have HnB1 : Hid (n < B4) := hH (by simp only [B4]; omega)
 have hbx : decide (x < 0) = false := by simp; omega
 have hby : decide (y < 0) = false := by simp; omega
 have hy0 : decide (y = 0) = false := by simp; omega
 have HX := hH hx
 have HY := hH hy
 clear hdm hmb hna hab haa hcast haB hbB hfx hfy hnb hx hy h0 hx0 hz hr
 go_enter Tryz.func153, Tryz.ntmps153
 unfold wI U
 go_upto_region 1 with (fail)
 clear hW0
 refine cP ?_
 refine cN ?_
 refine cX ?_ ?_ (by intro wz hSw; obtain ⟨q0, q1, q2, q3⟩ := c4 (B1.y hSw.1); go_simp; all_goals with_reducible rfl) ?_
 refine cW ?_ ?_ ?_
 refine cX ?_ ?_ (by intro wz hSw; have he := eqIn_Z y HY.out false hy0 wz; go_simp; all_goals with_reducible rfl) ?_
 refine calm_end ?_
 intro w1 hS
 have hS := sO hS
 have B0 := B0.y hS
 have B1 := B1.y hS
 have B2 := B2.y hS
 have B3 := B3.y hS
 have hz1 : W0.heap.size ≤ w1.heap.size := hS.size
 have HB := gS HB hS
 clear hS
 go_upto_region 3 with (fail)
 refine cG ?_
 refine calm_aa (k := 8) (d := 7) (st := 10) (x := (.tmp 21)) (u := U n) (T := 76) (k' := 9) (d' := 8) (st' := 11) (x' := (.tmp 22)) (u' := U m) (T' := 76) (by kernel_rfl) (by rfl) (by rfl) info_wide rfl rfl (by first | exact wI_one _ | exact U_one _) (by rfl) (by rfl) info_wide rfl rfl (by first | exact wI_one _ | exact U_one _) ?_
 refine cX ?_ ?_ (by intro wz hSw; obtain ⟨q0, q1, q2, q3⟩ := c4 (B0.y hSw.1); go_simp; all_goals with_reducible rfl) ?_
 refine cC ?_ ?_ ?_ ?_ ?hc2_1 ?_
 case hc2_1 => (intro w hSw; exact size_b x a HX.out Ha.out w)
 refine cX ?_ ?_ (by intro wz hSw; obtain ⟨q0, q1, q2, q3⟩ := c4 (B1.y hSw.1); go_simp; all_goals with_reducible rfl) ?_
 refine cC ?_ ?_ ?_ ?_ ?hc2_3 ?_
 case hc2_3 => (intro w hSw; exact size_b y b HY.out Hb.out w)
 refine cC ?_ ?_ ?_ ?_ ?hc2_4 ?_
 case hc2_4 => (intro w hSw; exact divided_b a b n m HA.out HB4.out Hb0.out Hn.out Hm.out w)
 refine cW ?_ ?_ ?_
 refine cW ?_ ?_ ?_
 refine cW ?_ ?_ ?_
 refine cB ?_
 refine cB ?_
 refine cB ?_
 refine cB ?_
 refine calm_end ?_
 refine ⟨⟨(by rfl), (by rfl)⟩, fun b5 b6 w2 hb5 hb6 hbne6 hS D0 D1 => ?_⟩
 have hl5_0 : w.heap.size < b5 := lL B0.lt hb5
 have hl6_0 : w.heap.size < b6 := lL B0.lt hb6
 have hl5_1 : w.heap.size + 1 < b5 := lL B1.lt hb5
 have hl6_1 : w.heap.size + 1 < b6 := lL B1.lt hb6
 have hl5_2 : w.heap.size + 1 + 1 < b5 := lL B2.lt hb5
 have hl6_2 : w.heap.size + 1 + 1 < b6 := lL B2.lt hb6
 have hl5_3 : w.heap.size + 1 + 1 + 1 < b5 := lL B3.lt hb5
 have hl6_3 : w.heap.size + 1 + 1 + 1 < b6 := lL B3.lt hb6
 have hS := sO hS
 have B0 := B0.y hS
 have B1 := B1.y hS
 have B2 := B2.y hS
 have B3 := B3.y hS
 have B5 : Blk w2 b5 (uL n) 76 := D0
 have B6 : Blk w2 b6 (uL m) 76 := D1
 have hz2 : w1.heap.size ≤ w2.heap.size := hS.size
 have HB := gS HB hS
 clear hS D0 D1
 go_upto_region 4 with (fail)
 refine cG ?_
 refine cN ?_
 refine cX ?_ ?_ (by intro wz hSw; obtain ⟨q0, q1, q2, q3⟩ := c4 (B0.y hSw.1); go_simp; all_goals with_reducible rfl) ?_
 refine cC ?_ ?_ ?_ ?_ ?hc3_1 ?_
 case hc3_1 => (intro w hSw; exact wideNeg_b x false HX.out hbx w)
 refine cX ?_ ?_ (by intro wz hSw; obtain ⟨q0, q1, q2, q3⟩ := c4 (B1.y hSw.1); go_simp; all_goals with_reducible rfl) ?_
 refine cC ?_ ?_ ?_ ?_ ?hc3_3 ?_
 case hc3_3 => (intro w hSw; exact wideNeg_b y false HY.out hby w)
 refine cW ?_ ?_ ?_
 refine cW ?_ ?_ ?_
 refine calm_end ?_
 intro w3 hS
 have hS := sO hS
 have B0 := B0.y hS
 have B1 := B1.y hS
 have B2 := B2.y hS
 have B3 := B3.y hS
 have B5 := B5.y hS
 have B6 := B6.y hS
 have hz3 : w2.heap.size ≤ w3.heap.size := hS.size
 have HB := gS HB hS
 clear hS
 go_upto_region 5 with (fail)
 refine cP ?_
 refine cN ?_
 refine cW ?_ ?_ ?_
 refine cW ?_ ?_ ?_
 refine cS ?_ ?_
 refine cS ?_ ?_
 refine cS ?_ ?_
 refine cW ?_ ?_ ?_
 refine calm_end ?_
 intro w4 hS
 have hS := sO hS
 have B0 := B0.y hS
 have B1 := B1.y hS
 have B2 := B2.y hS
 have B3 := B3.y hS
 have B5 := B5.y hS
 have B6 := B6.y hS
 have hz4 : w3.heap.size ≤ w4.heap.size := hS.size
 have HB := gS HB hS
 clear hS
 go_upto_region 8 with (fail)
 refine cP ?_
 refine calm_k (b := w.heap.size + 1 + 1) (o := 0) (st := 6) (ado := .tmp 4) (x := (.tmp 46)) (u := wI z) (by kernel_rfl) B2 (by rfl) size_wide (by first | exact wI_one _ | exact U_one _) (by first | exact Nat.le_refl _ | (simp; done) | decide) ?_
 refine cX ?_ ?_ (by intro wz hSw; obtain ⟨q0, q1, q2, q3⟩ := c4 (B5.y hSw.1); go_simp; all_goals with_reducible rfl) ?_
 refine cW ?_ ?_ ?_
 refine cC ?_ ?_ ?_ ?_ ?hc5_2 ?_
 case hc5_2 => (intro w hSw; exact wideSigned_any (n) false z HnB.out Hsz.out Hz.out.1 w)
 refine cW ?_ ?_ ?_
 refine cW ?_ ?_ ?_
 refine cW ?_ ?_ ?_
 refine cB ?_
 refine cW ?_ ?_ ?_
 refine calm_end ?_
 refine ⟨(by rfl), (by rfl), fun w5 hS D0 => ?_⟩
 have B0 := B0.y hS
 have B1 := B1.y hS
 have B3 := B3.y hS
 have B5 := B5.y hS
 have B6 := B6.y hS
 have B2 : Blk w5 (w.heap.size + 1 + 1) (uL (tc z)) 76 := blk_whole D0 rfl
 have hz5 : w4.heap.size ≤ w5.heap.size := hS.size
 have HB := gS HB hS
 clear hS D0
 go_upto_region 11 with (fail)
 refine cG ?_
 refine calm_k (b := w.heap.size + 1 + 1 + 1) (o := 0) (st := 7) (ado := .tmp 5) (x := (.tmp 57)) (u := wI r) (by kernel_rfl) B3 (by rfl) size_wide (by first | exact wI_one _ | exact U_one _) (by first | exact Nat.le_refl _ | (simp; done) | decide) ?_
 refine cX ?_ ?_ (by intro wz hSw; obtain ⟨q0, q1, q2, q3⟩ := c4 (B6.y hSw.1); go_simp; all_goals with_reducible rfl) ?_
 refine cX ?_ ?_ (by intro wz hSw; obtain ⟨q0, q1, q2, q3⟩ := c4 (B1.y hSw.1); go_simp; all_goals with_reducible rfl) ?_
 refine cC ?_ ?_ ?_ ?_ ?hc6_2 ?_
 case hc6_2 => (intro w hSw; exact wideNeg_b y false HY.out hby w)
 refine cC ?_ ?_ ?_ ?_ ?hc6_3 ?_
 case hc6_3 => (intro w hSw; exact wideSigned_any m false r HmB.out Hsr.out Hz.out.2 w)
 refine cW ?_ ?_ ?_
 refine cW ?_ ?_ ?_
 refine cW ?_ ?_ ?_
 refine cB ?_
 refine cW ?_ ?_ ?_
 refine calm_end ?_
 refine ⟨(by rfl), (by rfl), fun w6 hS D0 => ?_⟩
 have B0 := B0.y hS
 have B1 := B1.y hS
 have B2 := B2.y hS
 have B5 := B5.y hS
 have B6 := B6.y hS
 have B3 : Blk w6 (w.heap.size + 1 + 1 + 1) (uL (tc r)) 76 := blk_whole D0 rfl
 have hz6 : w5.heap.size ≤ w6.heap.size := hS.size
 have HB := gS HB hS
 clear hS D0
 go_upto_region 12 with (fail)
 refine cG ?_
 refine calm_kk (b := w.heap.size + 1 + 1) (o := 0) (st := 3) (ado := .tmp 4) (x := (.tmp 59)) (u := wI z) (b' := w.heap.size + 1 + 1 + 1) (o' := 0) (st' := 4) (ado' := .tmp 5) (x' := (.tmp 60)) (u' := wI r) (by kernel_rfl) B2 B3 (by omega) (by rfl) size_wide (by first | exact wI_one _ | exact U_one _) (by first | exact Nat.le_refl _ | (simp; done) | decide) (by rfl) size_wide (by first | exact wI_one _ | exact U_one _) (by first | exact Nat.le_refl _ | (simp; done) | decide) ?_
 refine cX ?_ ?_ (by intro wz hSw; obtain ⟨q0, q1, q2, q3⟩ := c4 (show Blk wz (w.heap.size + 1 + 1) (uL (tc z)) 76 from hSw.2 _ (List.mem_cons_self ..) rfl ⟨_, rfl, by kernel_rfl⟩); go_simp; all_goals with_reducible rfl) ?_
 refine cX ?_ ?_ (by intro wz hSw; obtain ⟨q0, q1, q2, q3⟩ := c4 (show Blk wz (w.heap.size + 1 + 1 + 1) (uL (tc r)) 76 from hSw.2 _ (List.mem_cons_of_mem _ (List.mem_singleton.2 rfl)) rfl ⟨_, rfl, by kernel_rfl⟩); go_simp; all_goals with_reducible rfl) ?_
 refine cW ?_ ?_ ?_
 refine cB ?_
 refine cB ?_
 refine cW ?_ ?_ ?_
 refine calm_end ?_
 refine ⟨⟨⟨(by rfl), (by rfl)⟩, ⟨(by rfl), (by rfl)⟩⟩, fun w7 hS D0 D1 => ?_⟩
 have B0 := B0.y hS
 have B1 := B1.y hS
 have B5 := B5.y hS
 have B6 := B6.y hS
 have B2 : Blk w7 (w.heap.size + 1 + 1) (uL (tc z)) 76 := blk_whole D0 rfl
 have B3 : Blk w7 (w.heap.size + 1 + 1 + 1) (uL (tc r)) 76 := blk_whole D1 rfl
 have hz7 : w6.heap.size ≤ w7.heap.size := hS.size
 have HB := gS HB hS
 clear hS D0 D1
 go_wp2_with fail
 obtain ⟨s0_0, s0_1, s0_2, s0_3⟩ := c4 (B2)
 obtain ⟨s1_0, s1_1, s1_2, s1_3⟩ := c4 (B3)
 refine bodyPost_ret (v := .tuple #[wI z, wI r, .bool true]) (by simp [results, Tryz.results153, go_sem, s0_0, s0_1, s0_2, s0_3, s1_0, s1_1, s1_2, s1_3]) rfl ⟨rfl, HB⟩
set_option maxHeartbeats 1000000 in
theorem wideDiv_even (x y z r : Int) (hx : Fit x) (hy : Fit y) (h0 : 0 < y) (hx0 : x < 0) (hm : x.natAbs % y.natAbs = 0) (hz : z = x / y) (hr : r = x % y) (w : World) :
  Calls Tryz.prog 153 #[wI x, wI y] w fun e w' => e = .returned (.tuple #[wI z, wI r, .bool true]) ∧ Below w.heap.size w w' := by
 obtain ⟨W0, hW0⟩ : ∃ W0, [.cells #[u64 (lb (tc x) 0), u64 (lb (tc x) 1), u64 (lb (tc x) 2), u64 (lb (tc x) 3)] 76, .cells #[u64 (lb (tc y) 0), u64 (lb (tc y) 1), u64 (lb (tc y) 2), u64 (lb (tc y) 3)] 76, .cells #[.int .u64 0, .int .u64 0, .int .u64 0, .int .u64 0] 76, .cells #[.int .u64 0, .int .u64 0, .int .u64 0, .int .u64 0] 76].foldl World.alloc w = W0 := ⟨_, rfl⟩
 have B0 : Blk W0 (w.heap.size) (uL (tc x)) 76 := Blk.allocs _ hW0 0 rfl
 have B1 : Blk W0 (w.heap.size + 1) (uL (tc y)) 76 := Blk.allocs _ hW0 1 rfl
 have B2 : Blk W0 (w.heap.size + 1 + 1) (uL 0) 76 := Blk.allocs _ hW0 2 rfl
 have B3 : Blk W0 (w.heap.size + 1 + 1 + 1) (uL 0) 76 := Blk.allocs _ hW0 3 rfl
 have HB := aB hW0
 have hsz : w.heap.size + 4 ≤ W0.heap.size := aZ hW0
 simp only [List.foldl_cons, List.foldl_nil] at hW0
 obtain ⟨a, Ha⟩ : ∃ a : Nat, Hid (a = x.natAbs) := ⟨_, hH rfl⟩
 obtain ⟨b, Hb⟩ : ∃ b : Nat, Hid (b = y.natAbs) := ⟨_, hH rfl⟩
 have HA : Hid (a < B4) := hH (by rw [Ha.out]; exact natAbs_lt hx)
 have HB4 : Hid (b < B4) := hH (by rw [Hb.out]; exact natAbs_lt hy)
 have Hb0 : Hid (0 < b) := hH (by have := Hb.out; omega)
 obtain ⟨n, Hn⟩ : ∃ n : Nat, Hid (n = a / b) := ⟨_, hH rfl⟩
 obtain ⟨m, Hm⟩ : ∃ m : Nat, Hid (m = a % b) := ⟨_, hH rfl⟩
 have hmm := hm
 rw [← Ha.out, ← Hb.out, ← Hm.out] at hmm
 have hdm : b * n + m = a := by rw [Hn.out, Hm.out]; exact Nat.div_add_mod a b
 have hmb : m < b := by rw [Hm.out]; exact Nat.mod_lt _ Hb0.out
 have hna : n ≤ a := by rw [Hn.out]; exact Nat.div_le_self _ _
 have hab : (b : Int) = y := by have := Hb.out; omega
 have haa : (a : Int) = -x := by have := Ha.out; omega
 have hcast : (b : Int) * (n : Int) + (m : Int) = (a : Int) := by exact_mod_cast hdm
 have haB := HA.out
 have hbB := HB4.out
 have hfx := hx
 have hfy := hy
 unfold Fit at hfx hfy
 simp only [H4, B4] at hfx hfy haB hbB
 have hnb : n + 1 ≤ a + 1 := by omega
 have Hz : Hid (z = -(n : Int) ∧ r = (m : Int)) := hH (by
  have e : x = 0 + y * (-(n : Int)) := by
   have h3 : m = 0 := by omega
   rw [Int.mul_neg, ← hab]; subst h3; omega
  refine ⟨?_, ?_⟩
  ·rw [hz, e, Int.add_mul_ediv_left _ _ (by omega)]; simp
  ·rw [hr, e, Int.add_mul_emod_self_left]; simp; omega)
 have Hsz : Hid (Fit z) := hH (by rw [Hz.out.1]; unfold Fit; simp only [H4]; omega)
 have Hsr : Hid (Fit r) := hH (by rw [Hz.out.2]; unfold Fit; simp only [H4]; omega)
 have HnB : Hid (n < B4) := hH (by simp only [B4]; omega)
 have HmB : Hid (m < B4) := hH (by simp only [B4]; omega)
 have Hm1 : Hid (m < B4) := hH (by simp only [B4]; omega)
 have HnB1 : Hid (n < B4) := hH (by simp only [B4]; omega)
 have hbx : decide (x < 0) = true := by simp; omega
 have hby : decide (y < 0) = false := by simp; omega
 have hy0 : decide (y = 0) = false := by simp; omega
 have HX := hH hx
 have HY := hH hy
 have hm0 : decide (m = 0) = true := by simp; omega
 clear hmm hdm hmb hna hab haa hcast haB hbB hfx hfy hnb hx hy h0 hx0 hz hr hm
 go_enter Tryz.func153, Tryz.ntmps153
 unfold wI U
 go_upto_region 1 with (fail)
 clear hW0
 refine cP ?_
 refine cN ?_
 refine cX ?_ ?_ (by intro wz hSw; obtain ⟨q0, q1, q2, q3⟩ := c4 (B1.y hSw.1); go_simp; all_goals with_reducible rfl) ?_
 refine cW ?_ ?_ ?_
 refine cX ?_ ?_ (by intro wz hSw; have he := eqIn_Z y HY.out false hy0 wz; go_simp; all_goals with_reducible rfl) ?_
 refine calm_end ?_
 intro w1 hS
 have hS := sO hS
 have B0 := B0.y hS
 have B1 := B1.y hS
 have B2 := B2.y hS
 have B3 := B3.y hS
 have hz1 : W0.heap.size ≤ w1.heap.size := hS.size
 have HB := gS HB hS
 clear hS
 go_upto_region 3 with (fail)
 refine cG ?_
 refine calm_aa (k := 8) (d := 7) (st := 10) (x := (.tmp 21)) (u := U n) (T := 76) (k' := 9) (d' := 8) (st' := 11) (x' := (.tmp 22)) (u' := U m) (T' := 76) (by kernel_rfl) (by rfl) (by rfl) info_wide rfl rfl (by first | exact wI_one _ | exact U_one _) (by rfl) (by rfl) info_wide rfl rfl (by first | exact wI_one _ | exact U_one _) ?_
 refine cX ?_ ?_ (by intro wz hSw; obtain ⟨q0, q1, q2, q3⟩ := c4 (B0.y hSw.1); go_simp; all_goals with_reducible rfl) ?_
 refine cC ?_ ?_ ?_ ?_ ?hc9_1 ?_
 case hc9_1 => (intro w hSw; exact size_b x a HX.out Ha.out w)
 refine cX ?_ ?_ (by intro wz hSw; obtain ⟨q0, q1, q2, q3⟩ := c4 (B1.y hSw.1); go_simp; all_goals with_reducible rfl) ?_
 refine cC ?_ ?_ ?_ ?_ ?hc9_3 ?_
 case hc9_3 => (intro w hSw; exact size_b y b HY.out Hb.out w)
 refine cC ?_ ?_ ?_ ?_ ?hc9_4 ?_
 case hc9_4 => (intro w hSw; exact divided_b a b n m HA.out HB4.out Hb0.out Hn.out Hm.out w)
 refine cW ?_ ?_ ?_
 refine cW ?_ ?_ ?_
 refine cW ?_ ?_ ?_
 refine cB ?_
 refine cB ?_
 refine cB ?_
 refine cB ?_
 refine calm_end ?_
 refine ⟨⟨(by rfl), (by rfl)⟩, fun b5 b6 w2 hb5 hb6 hbne6 hS D0 D1 => ?_⟩
 have hl5_0 : w.heap.size < b5 := lL B0.lt hb5
 have hl6_0 : w.heap.size < b6 := lL B0.lt hb6
 have hl5_1 : w.heap.size + 1 < b5 := lL B1.lt hb5
 have hl6_1 : w.heap.size + 1 < b6 := lL B1.lt hb6
 have hl5_2 : w.heap.size + 1 + 1 < b5 := lL B2.lt hb5
 have hl6_2 : w.heap.size + 1 + 1 < b6 := lL B2.lt hb6
 have hl5_3 : w.heap.size + 1 + 1 + 1 < b5 := lL B3.lt hb5
 have hl6_3 : w.heap.size + 1 + 1 + 1 < b6 := lL B3.lt hb6
 have hS := sO hS
 have B0 := B0.y hS
 have B1 := B1.y hS
 have B2 := B2.y hS
 have B3 := B3.y hS
 have B5 : Blk w2 b5 (uL n) 76 := D0
 have B6 : Blk w2 b6 (uL m) 76 := D1
 have hz2 : w1.heap.size ≤ w2.heap.size := hS.size
 have HB := gS HB hS
 clear hS D0 D1
 go_upto_region 4 with (fail)
 refine cG ?_
 refine cN ?_
 refine cX ?_ ?_ (by intro wz hSw; obtain ⟨q0, q1, q2, q3⟩ := c4 (B0.y hSw.1); go_simp; all_goals with_reducible rfl) ?_
 refine cC ?_ ?_ ?_ ?_ ?hc10_1 ?_
 case hc10_1 => (intro w hSw; exact wideNeg_b x true HX.out hbx w)
 refine cX ?_ ?_ (by intro wz hSw; obtain ⟨q0, q1, q2, q3⟩ := c4 (B1.y hSw.1); go_simp; all_goals with_reducible rfl) ?_
 refine cC ?_ ?_ ?_ ?_ ?hc10_3 ?_
 case hc10_3 => (intro w hSw; exact wideNeg_b y false HY.out hby w)
 refine cW ?_ ?_ ?_
 refine cW ?_ ?_ ?_
 refine calm_end ?_
 intro w3 hS
 have hS := sO hS
 have B0 := B0.y hS
 have B1 := B1.y hS
 have B2 := B2.y hS
 have B3 := B3.y hS
 have B5 := B5.y hS
 have B6 := B6.y hS
 have hz3 : w2.heap.size ≤ w3.heap.size := hS.size
 have HB := gS HB hS
 clear hS
 go_upto_region 5 with (fail)
 refine cP ?_
 refine cN ?_
 refine cW ?_ ?_ ?_
 refine cW ?_ ?_ ?_
 refine cX ?_ ?_ (by intro wz hSw; obtain ⟨q0, q1, q2, q3⟩ := c4 (B6.y hSw.1); go_simp; all_goals with_reducible rfl) ?_
 refine cW ?_ ?_ ?_
 refine cX ?_ ?_ (by intro wz hSw; have he := eqIn_UZ m Hm1.out true hm0 wz; go_simp; all_goals with_reducible rfl) ?_
 refine cW ?_ ?_ ?_
 refine calm_end ?_
 intro w4 hS
 have hS := sO hS
 have B0 := B0.y hS
 have B1 := B1.y hS
 have B2 := B2.y hS
 have B3 := B3.y hS
 have B5 := B5.y hS
 have B6 := B6.y hS
 have hz4 : w3.heap.size ≤ w4.heap.size := hS.size
 have HB := gS HB hS
 clear hS
 go_upto_region 8 with (fail)
 refine cP ?_
 refine calm_k (b := w.heap.size + 1 + 1) (o := 0) (st := 6) (ado := .tmp 4) (x := (.tmp 46)) (u := wI z) (by kernel_rfl) B2 (by rfl) size_wide (by first | exact wI_one _ | exact U_one _) (by first | exact Nat.le_refl _ | (simp; done) | decide) ?_
 refine cX ?_ ?_ (by intro wz hSw; obtain ⟨q0, q1, q2, q3⟩ := c4 (B5.y hSw.1); go_simp; all_goals with_reducible rfl) ?_
 refine cW ?_ ?_ ?_
 refine cC ?_ ?_ ?_ ?_ ?hc12_2 ?_
 case hc12_2 => (intro w hSw; exact wideSigned_any (n) true z HnB.out Hsz.out Hz.out.1 w)
 refine cW ?_ ?_ ?_
 refine cW ?_ ?_ ?_
 refine cW ?_ ?_ ?_
 refine cB ?_
 refine cW ?_ ?_ ?_
 refine calm_end ?_
 refine ⟨(by rfl), (by rfl), fun w5 hS D0 => ?_⟩
 have B0 := B0.y hS
 have B1 := B1.y hS
 have B3 := B3.y hS
 have B5 := B5.y hS
 have B6 := B6.y hS
 have B2 : Blk w5 (w.heap.size + 1 + 1) (uL (tc z)) 76 := blk_whole D0 rfl
 have hz5 : w4.heap.size ≤ w5.heap.size := hS.size
 have HB := gS HB hS
 clear hS D0
 go_upto_region 11 with (fail)
 refine cG ?_
 refine calm_k (b := w.heap.size + 1 + 1 + 1) (o := 0) (st := 7) (ado := .tmp 5) (x := (.tmp 57)) (u := wI r) (by kernel_rfl) B3 (by rfl) size_wide (by first | exact wI_one _ | exact U_one _) (by first | exact Nat.le_refl _ | (simp; done) | decide) ?_
 refine cX ?_ ?_ (by intro wz hSw; obtain ⟨q0, q1, q2, q3⟩ := c4 (B6.y hSw.1); go_simp; all_goals with_reducible rfl) ?_
 refine cX ?_ ?_ (by intro wz hSw; obtain ⟨q0, q1, q2, q3⟩ := c4 (B1.y hSw.1); go_simp; all_goals with_reducible rfl) ?_
 refine cC ?_ ?_ ?_ ?_ ?hc13_2 ?_
 case hc13_2 => (intro w hSw; exact wideNeg_b y false HY.out hby w)
 refine cC ?_ ?_ ?_ ?_ ?hc13_3 ?_
 case hc13_3 => (intro w hSw; exact wideSigned_any m false r HmB.out Hsr.out Hz.out.2 w)
 refine cW ?_ ?_ ?_
 refine cW ?_ ?_ ?_
 refine cW ?_ ?_ ?_
 refine cB ?_
 refine cW ?_ ?_ ?_
 refine calm_end ?_
 refine ⟨(by rfl), (by rfl), fun w6 hS D0 => ?_⟩
 have B0 := B0.y hS
 have B1 := B1.y hS
 have B2 := B2.y hS
 have B5 := B5.y hS
 have B6 := B6.y hS
 have B3 : Blk w6 (w.heap.size + 1 + 1 + 1) (uL (tc r)) 76 := blk_whole D0 rfl
 have hz6 : w5.heap.size ≤ w6.heap.size := hS.size
 have HB := gS HB hS
 clear hS D0
 go_upto_region 12 with (fail)
 refine cG ?_
 refine calm_kk (b := w.heap.size + 1 + 1) (o := 0) (st := 3) (ado := .tmp 4) (x := (.tmp 59)) (u := wI z) (b' := w.heap.size + 1 + 1 + 1) (o' := 0) (st' := 4) (ado' := .tmp 5) (x' := (.tmp 60)) (u' := wI r) (by kernel_rfl) B2 B3 (by omega) (by rfl) size_wide (by first | exact wI_one _ | exact U_one _) (by first | exact Nat.le_refl _ | (simp; done) | decide) (by rfl) size_wide (by first | exact wI_one _ | exact U_one _) (by first | exact Nat.le_refl _ | (simp; done) | decide) ?_
 refine cX ?_ ?_ (by intro wz hSw; obtain ⟨q0, q1, q2, q3⟩ := c4 (show Blk wz (w.heap.size + 1 + 1) (uL (tc z)) 76 from hSw.2 _ (List.mem_cons_self ..) rfl ⟨_, rfl, by kernel_rfl⟩); go_simp; all_goals with_reducible rfl) ?_
 refine cX ?_ ?_ (by intro wz hSw; obtain ⟨q0, q1, q2, q3⟩ := c4 (show Blk wz (w.heap.size + 1 + 1 + 1) (uL (tc r)) 76 from hSw.2 _ (List.mem_cons_of_mem _ (List.mem_singleton.2 rfl)) rfl ⟨_, rfl, by kernel_rfl⟩); go_simp; all_goals with_reducible rfl) ?_
 refine cW ?_ ?_ ?_
 refine cB ?_
 refine cB ?_
 refine cW ?_ ?_ ?_
 refine calm_end ?_
 refine ⟨⟨⟨(by rfl), (by rfl)⟩, ⟨(by rfl), (by rfl)⟩⟩, fun w7 hS D0 D1 => ?_⟩
 have B0 := B0.y hS
 have B1 := B1.y hS
 have B5 := B5.y hS
 have B6 := B6.y hS
 have B2 : Blk w7 (w.heap.size + 1 + 1) (uL (tc z)) 76 := blk_whole D0 rfl
 have B3 : Blk w7 (w.heap.size + 1 + 1 + 1) (uL (tc r)) 76 := blk_whole D1 rfl
 have hz7 : w6.heap.size ≤ w7.heap.size := hS.size
 have HB := gS HB hS
 clear hS D0 D1
 go_wp2_with fail
 obtain ⟨s0_0, s0_1, s0_2, s0_3⟩ := c4 (B2)
 obtain ⟨s1_0, s1_1, s1_2, s1_3⟩ := c4 (B3)
 refine bodyPost_ret (v := .tuple #[wI z, wI r, .bool true]) (by simp [results, Tryz.results153, go_sem, s0_0, s0_1, s0_2, s0_3, s1_0, s1_1, s1_2, s1_3]) rfl ⟨rfl, HB⟩
set_option maxHeartbeats 1000000 in
theorem wideDiv_odd (x y z r : Int) (hx : Fit x) (hy : Fit y) (h0 : 0 < y) (hx0 : x < 0) (hm : x.natAbs % y.natAbs ≠ 0) (hz : z = x / y) (hr : r = x % y) (w : World) :
  Calls Tryz.prog 153 #[wI x, wI y] w fun e w' => e = .returned (.tuple #[wI z, wI r, .bool true]) ∧ Below w.heap.size w w' := by
 have Hbm : Hid (∀ (b m : Nat), b < B4 → m < b → (b + (B4 - 1 - m) + 1) % B4 = (b - m) % B4) := hH (fun b m h1 h2 => by simp only [B4] at h1 ⊢; omega)
 obtain ⟨W0, hW0⟩ : ∃ W0, [.cells #[u64 (lb (tc x) 0), u64 (lb (tc x) 1), u64 (lb (tc x) 2), u64 (lb (tc x) 3)] 76, .cells #[u64 (lb (tc y) 0), u64 (lb (tc y) 1), u64 (lb (tc y) 2), u64 (lb (tc y) 3)] 76, .cells #[.int .u64 0, .int .u64 0, .int .u64 0, .int .u64 0] 76, .cells #[.int .u64 0, .int .u64 0, .int .u64 0, .int .u64 0] 76].foldl World.alloc w = W0 := ⟨_, rfl⟩
 have B0 : Blk W0 (w.heap.size) (uL (tc x)) 76 := Blk.allocs _ hW0 0 rfl
 have B1 : Blk W0 (w.heap.size + 1) (uL (tc y)) 76 := Blk.allocs _ hW0 1 rfl
 have B2 : Blk W0 (w.heap.size + 1 + 1) (uL 0) 76 := Blk.allocs _ hW0 2 rfl
 have B3 : Blk W0 (w.heap.size + 1 + 1 + 1) (uL 0) 76 := Blk.allocs _ hW0 3 rfl
 have HB := aB hW0
 have hsz : w.heap.size + 4 ≤ W0.heap.size := aZ hW0
 simp only [List.foldl_cons, List.foldl_nil] at hW0
 obtain ⟨a, Ha⟩ : ∃ a : Nat, Hid (a = x.natAbs) := ⟨_, hH rfl⟩
 obtain ⟨b, Hb⟩ : ∃ b : Nat, Hid (b = y.natAbs) := ⟨_, hH rfl⟩
 have HA : Hid (a < B4) := hH (by rw [Ha.out]; exact natAbs_lt hx)
 have HB4 : Hid (b < B4) := hH (by rw [Hb.out]; exact natAbs_lt hy)
 have Hb0 : Hid (0 < b) := hH (by have := Hb.out; omega)
 obtain ⟨n, Hn⟩ : ∃ n : Nat, Hid (n = a / b) := ⟨_, hH rfl⟩
 obtain ⟨m, Hm⟩ : ∃ m : Nat, Hid (m = a % b) := ⟨_, hH rfl⟩
 have hmm := hm
 rw [← Ha.out, ← Hb.out, ← Hm.out] at hmm
 have hdm : b * n + m = a := by rw [Hn.out, Hm.out]; exact Nat.div_add_mod a b
 have hmb : m < b := by rw [Hm.out]; exact Nat.mod_lt _ Hb0.out
 have hna : n ≤ a := by rw [Hn.out]; exact Nat.div_le_self _ _
 have hab : (b : Int) = y := by have := Hb.out; omega
 have haa : (a : Int) = -x := by have := Ha.out; omega
 have hcast : (b : Int) * (n : Int) + (m : Int) = (a : Int) := by exact_mod_cast hdm
 have haB := HA.out
 have hbB := HB4.out
 have hfx := hx
 have hfy := hy
 unfold Fit at hfx hfy
 simp only [H4, B4] at hfx hfy haB hbB
 have hnb : n + 1 ≤ a + 1 := by omega
 have Hz : Hid (z = -((n + 1 : Nat) : Int) ∧ r = ((b - m : Nat) : Int)) := hH (by
  have e : x = ((b : Int) - (m : Int)) + y * (-((n + 1 : Nat) : Int)) := by
   rw [Int.mul_neg, ← hab, Int.natCast_add, Int.mul_add]; omega
  have hm0 : (0 : Int) ≤ (b : Int) - (m : Int) := by omega
  have hmy : (b : Int) - (m : Int) < y := by omega
  refine ⟨?_, ?_⟩
  ·rw [hz, e, Int.add_mul_ediv_left _ _ (by omega), Int.ediv_eq_zero_of_lt hm0 hmy]; omega
  ·rw [hr, e, Int.add_mul_emod_self_left, Int.emod_eq_of_lt hm0 hmy]; omega)
 have hna2 : n + 1 ≤ a := by
  have : n ≤ b * n := Nat.le_mul_of_pos_left _ Hb0.out
  omega
 have Hsz : Hid (Fit z) := hH (by rw [Hz.out.1]; unfold Fit; simp only [H4]; omega)
 have Hsr : Hid (Fit r) := hH (by rw [Hz.out.2]; unfold Fit; simp only [H4]; omega)
 have HnB : Hid (n + 1 < B4) := hH (by simp only [B4]; omega)
 have HmB : Hid (b - m < B4) := hH (by simp only [B4]; omega)
 have Hm1 : Hid (m < B4) := hH (by simp only [B4]; omega)
 have HnB1 : Hid (n < B4) := hH (by simp only [B4]; omega)
 have Hmb2 : Hid (m < b) := hH hmb
 have hbx : decide (x < 0) = true := by simp; omega
 have hby : decide (y < 0) = false := by simp; omega
 have hy0 : decide (y = 0) = false := by simp; omega
 have HX := hH hx
 have HY := hH hy
 have hm0 : decide (m = 0) = false := by simp; omega
 clear hmm hdm hmb hna hab haa hcast haB hbB hfx hfy hnb hx hy h0 hx0 hz hr hm hna2
 go_enter Tryz.func153, Tryz.ntmps153
 unfold wI U
 go_upto_region 1 with (fail)
 clear hW0
 refine cP ?_
 refine cN ?_
 refine cX ?_ ?_ (by intro wz hSw; obtain ⟨q0, q1, q2, q3⟩ := c4 (B1.y hSw.1); go_simp; all_goals with_reducible rfl) ?_
 refine cW ?_ ?_ ?_
 refine cX ?_ ?_ (by intro wz hSw; have he := eqIn_Z y HY.out false hy0 wz; go_simp; all_goals with_reducible rfl) ?_
 refine calm_end ?_
 intro w1 hS
 have hS := sO hS
 have B0 := B0.y hS
 have B1 := B1.y hS
 have B2 := B2.y hS
 have B3 := B3.y hS
 have hz1 : W0.heap.size ≤ w1.heap.size := hS.size
 have HB := gS HB hS
 clear hS
 go_upto_region 3 with (fail)
 refine cG ?_
 refine calm_aa (k := 8) (d := 7) (st := 10) (x := (.tmp 21)) (u := U n) (T := 76) (k' := 9) (d' := 8) (st' := 11) (x' := (.tmp 22)) (u' := U m) (T' := 76) (by kernel_rfl) (by rfl) (by rfl) info_wide rfl rfl (by first | exact wI_one _ | exact U_one _) (by rfl) (by rfl) info_wide rfl rfl (by first | exact wI_one _ | exact U_one _) ?_
 refine cX ?_ ?_ (by intro wz hSw; obtain ⟨q0, q1, q2, q3⟩ := c4 (B0.y hSw.1); go_simp; all_goals with_reducible rfl) ?_
 refine cC ?_ ?_ ?_ ?_ ?hc16_1 ?_
 case hc16_1 => (intro w hSw; exact size_b x a HX.out Ha.out w)
 refine cX ?_ ?_ (by intro wz hSw; obtain ⟨q0, q1, q2, q3⟩ := c4 (B1.y hSw.1); go_simp; all_goals with_reducible rfl) ?_
 refine cC ?_ ?_ ?_ ?_ ?hc16_3 ?_
 case hc16_3 => (intro w hSw; exact size_b y b HY.out Hb.out w)
 refine cC ?_ ?_ ?_ ?_ ?hc16_4 ?_
 case hc16_4 => (intro w hSw; exact divided_b a b n m HA.out HB4.out Hb0.out Hn.out Hm.out w)
 refine cW ?_ ?_ ?_
 refine cW ?_ ?_ ?_
 refine cW ?_ ?_ ?_
 refine cB ?_
 refine cB ?_
 refine cB ?_
 refine cB ?_
 refine calm_end ?_
 refine ⟨⟨(by rfl), (by rfl)⟩, fun b5 b6 w2 hb5 hb6 hbne6 hS D0 D1 => ?_⟩
 have hl5_0 : w.heap.size < b5 := lL B0.lt hb5
 have hl6_0 : w.heap.size < b6 := lL B0.lt hb6
 have hl5_1 : w.heap.size + 1 < b5 := lL B1.lt hb5
 have hl6_1 : w.heap.size + 1 < b6 := lL B1.lt hb6
 have hl5_2 : w.heap.size + 1 + 1 < b5 := lL B2.lt hb5
 have hl6_2 : w.heap.size + 1 + 1 < b6 := lL B2.lt hb6
 have hl5_3 : w.heap.size + 1 + 1 + 1 < b5 := lL B3.lt hb5
 have hl6_3 : w.heap.size + 1 + 1 + 1 < b6 := lL B3.lt hb6
 have hS := sO hS
 have B0 := B0.y hS
 have B1 := B1.y hS
 have B2 := B2.y hS
 have B3 := B3.y hS
 have B5 : Blk w2 b5 (uL n) 76 := D0
 have B6 : Blk w2 b6 (uL m) 76 := D1
 have hz2 : w1.heap.size ≤ w2.heap.size := hS.size
 have HB := gS HB hS
 clear hS D0 D1
 go_upto_region 4 with (fail)
 refine cG ?_
 refine cN ?_
 refine cX ?_ ?_ (by intro wz hSw; obtain ⟨q0, q1, q2, q3⟩ := c4 (B0.y hSw.1); go_simp; all_goals with_reducible rfl) ?_
 refine cC ?_ ?_ ?_ ?_ ?hc17_1 ?_
 case hc17_1 => (intro w hSw; exact wideNeg_b x true HX.out hbx w)
 refine cX ?_ ?_ (by intro wz hSw; obtain ⟨q0, q1, q2, q3⟩ := c4 (B1.y hSw.1); go_simp; all_goals with_reducible rfl) ?_
 refine cC ?_ ?_ ?_ ?_ ?hc17_3 ?_
 case hc17_3 => (intro w hSw; exact wideNeg_b y false HY.out hby w)
 refine cW ?_ ?_ ?_
 refine cW ?_ ?_ ?_
 refine calm_end ?_
 intro w3 hS
 have hS := sO hS
 have B0 := B0.y hS
 have B1 := B1.y hS
 have B2 := B2.y hS
 have B3 := B3.y hS
 have B5 := B5.y hS
 have B6 := B6.y hS
 have hz3 : w2.heap.size ≤ w3.heap.size := hS.size
 have HB := gS HB hS
 clear hS
 go_upto_region 5 with (fail)
 refine cP ?_
 refine cN ?_
 refine cW ?_ ?_ ?_
 refine cW ?_ ?_ ?_
 refine cX ?_ ?_ (by intro wz hSw; obtain ⟨q0, q1, q2, q3⟩ := c4 (B6.y hSw.1); go_simp; all_goals with_reducible rfl) ?_
 refine cW ?_ ?_ ?_
 refine cX ?_ ?_ (by intro wz hSw; have he := eqIn_UZ m Hm1.out false hm0 wz; go_simp; all_goals with_reducible rfl) ?_
 refine cW ?_ ?_ ?_
 refine calm_end ?_
 intro w4 hS
 have hS := sO hS
 have B0 := B0.y hS
 have B1 := B1.y hS
 have B2 := B2.y hS
 have B3 := B3.y hS
 have B5 := B5.y hS
 have B6 := B6.y hS
 have hz4 : w3.heap.size ≤ w4.heap.size := hS.size
 have HB := gS HB hS
 clear hS
 go_upto_region 6 with (fail)
 refine cP ?_
 refine calm_k (b := b5) (o := 0) (st := 3) (ado := .tmp 7) (x := (.tmp 36)) (u := U (n + 1)) (by kernel_rfl) B5 (by rfl) size_wide (by first | exact wI_one _ | exact U_one _) (by first | exact Nat.le_refl _ | (simp; done) | decide) ?_
 refine cX ?_ ?_ (by intro wz hSw; obtain ⟨q0, q1, q2, q3⟩ := c4 (show Blk wz (b5) (uL n) 76 from hSw.2 _ (List.mem_cons_self ..) rfl ⟨_, rfl, by kernel_rfl⟩); go_simp; all_goals with_reducible rfl) ?_
 refine cW ?_ ?_ ?_
 refine cC ?_ ?_ ?_ ?_ ?hc19_2 ?_
 case hc19_2 => (intro w hSw; exact widePlus_U n 0 1 (n + 1) (by omega) rfl w)
 refine cB ?_
 refine calm_end ?_
 refine ⟨(by rfl), (by rfl), fun w5 hS D0 => ?_⟩
 have B0 := B0.y hS
 have B1 := B1.y hS
 have B2 := B2.y hS
 have B3 := B3.y hS
 have B6 := B6.y hS
 have B5 : Blk w5 (b5) (uL (n + 1)) 76 := blk_whole D0 rfl
 have hz5 : w4.heap.size ≤ w5.heap.size := hS.size
 have HB := gS HB hS
 clear hS D0
 go_upto_region 7 with (fail)
 refine cG ?_
 refine calm_k (b := b6) (o := 0) (st := 5) (ado := .tmp 8) (x := (.tmp 41)) (u := U (b - m)) (by kernel_rfl) B6 (by rfl) size_wide (by first | exact wI_one _ | exact U_one _) (by first | exact Nat.le_refl _ | (simp; done) | decide) ?_
 refine cX ?_ ?_ (by intro wz hSw; obtain ⟨q0, q1, q2, q3⟩ := c4 (B1.y hSw.1); go_simp; all_goals with_reducible rfl) ?_
 refine cC ?_ ?_ ?_ ?_ ?hc20_1 ?_
 case hc20_1 => (intro w hSw; exact size_b y b HY.out Hb.out w)
 refine cX ?_ ?_ (by intro wz hSw; obtain ⟨q0, q1, q2, q3⟩ := c4 (show Blk wz (b6) (uL m) 76 from hSw.2 _ (List.mem_cons_self ..) rfl ⟨_, rfl, by kernel_rfl⟩); go_simp; all_goals with_reducible rfl) ?_
 refine cC ?_ ?_ ?_ ?_ ?hc20_3 ?_
 case hc20_3 => (intro w hSw; exact wideTurned_U m Hm1.out w)
 refine cC ?_ ?_ ?_ ?_ ?hc20_4 ?_
 case hc20_4 => (intro w hSw; exact widePlus_U b (B4 - 1 - m) 1 (b - m) (by omega) (Hbm.out b m HB4.out Hmb2.out) w)
 refine cB ?_
 refine calm_end ?_
 refine ⟨(by rfl), (by rfl), fun w6 hS D0 => ?_⟩
 have B0 := B0.y hS
 have B1 := B1.y hS
 have B2 := B2.y hS
 have B3 := B3.y hS
 have B5 := B5.y hS
 have B6 : Blk w6 (b6) (uL (b - m)) 76 := blk_whole D0 rfl
 have hz6 : w5.heap.size ≤ w6.heap.size := hS.size
 have HB := gS HB hS
 clear hS D0
 go_upto_region 8 with (fail)
 refine cP ?_
 refine calm_k (b := w.heap.size + 1 + 1) (o := 0) (st := 6) (ado := .tmp 4) (x := (.tmp 46)) (u := wI z) (by kernel_rfl) B2 (by rfl) size_wide (by first | exact wI_one _ | exact U_one _) (by first | exact Nat.le_refl _ | (simp; done) | decide) ?_
 refine cX ?_ ?_ (by intro wz hSw; obtain ⟨q0, q1, q2, q3⟩ := c4 (B5.y hSw.1); go_simp; all_goals with_reducible rfl) ?_
 refine cW ?_ ?_ ?_
 refine cC ?_ ?_ ?_ ?_ ?hc21_2 ?_
 case hc21_2 => (intro w hSw; exact wideSigned_any (n + 1) true z HnB.out Hsz.out Hz.out.1 w)
 refine cW ?_ ?_ ?_
 refine cW ?_ ?_ ?_
 refine cW ?_ ?_ ?_
 refine cB ?_
 refine cW ?_ ?_ ?_
 refine calm_end ?_
 refine ⟨(by rfl), (by rfl), fun w7 hS D0 => ?_⟩
 have B0 := B0.y hS
 have B1 := B1.y hS
 have B3 := B3.y hS
 have B5 := B5.y hS
 have B6 := B6.y hS
 have B2 : Blk w7 (w.heap.size + 1 + 1) (uL (tc z)) 76 := blk_whole D0 rfl
 have hz7 : w6.heap.size ≤ w7.heap.size := hS.size
 have HB := gS HB hS
 clear hS D0
 go_upto_region 11 with (fail)
 refine cG ?_
 refine calm_k (b := w.heap.size + 1 + 1 + 1) (o := 0) (st := 7) (ado := .tmp 5) (x := (.tmp 57)) (u := wI r) (by kernel_rfl) B3 (by rfl) size_wide (by first | exact wI_one _ | exact U_one _) (by first | exact Nat.le_refl _ | (simp; done) | decide) ?_
 refine cX ?_ ?_ (by intro wz hSw; obtain ⟨q0, q1, q2, q3⟩ := c4 (B6.y hSw.1); go_simp; all_goals with_reducible rfl) ?_
 refine cX ?_ ?_ (by intro wz hSw; obtain ⟨q0, q1, q2, q3⟩ := c4 (B1.y hSw.1); go_simp; all_goals with_reducible rfl) ?_
 refine cC ?_ ?_ ?_ ?_ ?hc22_2 ?_
 case hc22_2 => (intro w hSw; exact wideNeg_b y false HY.out hby w)
 refine cC ?_ ?_ ?_ ?_ ?hc22_3 ?_
 case hc22_3 => (intro w hSw; exact wideSigned_any (b - m) false r HmB.out Hsr.out Hz.out.2 w)
 refine cW ?_ ?_ ?_
 refine cW ?_ ?_ ?_
 refine cW ?_ ?_ ?_
 refine cB ?_
 refine cW ?_ ?_ ?_
 refine calm_end ?_
 refine ⟨(by rfl), (by rfl), fun w8 hS D0 => ?_⟩
 have B0 := B0.y hS
 have B1 := B1.y hS
 have B2 := B2.y hS
 have B5 := B5.y hS
 have B6 := B6.y hS
 have B3 : Blk w8 (w.heap.size + 1 + 1 + 1) (uL (tc r)) 76 := blk_whole D0 rfl
 have hz8 : w7.heap.size ≤ w8.heap.size := hS.size
 have HB := gS HB hS
 clear hS D0
 go_upto_region 12 with (fail)
 refine cG ?_
 refine calm_kk (b := w.heap.size + 1 + 1) (o := 0) (st := 3) (ado := .tmp 4) (x := (.tmp 59)) (u := wI z) (b' := w.heap.size + 1 + 1 + 1) (o' := 0) (st' := 4) (ado' := .tmp 5) (x' := (.tmp 60)) (u' := wI r) (by kernel_rfl) B2 B3 (by omega) (by rfl) size_wide (by first | exact wI_one _ | exact U_one _) (by first | exact Nat.le_refl _ | (simp; done) | decide) (by rfl) size_wide (by first | exact wI_one _ | exact U_one _) (by first | exact Nat.le_refl _ | (simp; done) | decide) ?_
 refine cX ?_ ?_ (by intro wz hSw; obtain ⟨q0, q1, q2, q3⟩ := c4 (show Blk wz (w.heap.size + 1 + 1) (uL (tc z)) 76 from hSw.2 _ (List.mem_cons_self ..) rfl ⟨_, rfl, by kernel_rfl⟩); go_simp; all_goals with_reducible rfl) ?_
 refine cX ?_ ?_ (by intro wz hSw; obtain ⟨q0, q1, q2, q3⟩ := c4 (show Blk wz (w.heap.size + 1 + 1 + 1) (uL (tc r)) 76 from hSw.2 _ (List.mem_cons_of_mem _ (List.mem_singleton.2 rfl)) rfl ⟨_, rfl, by kernel_rfl⟩); go_simp; all_goals with_reducible rfl) ?_
 refine cW ?_ ?_ ?_
 refine cB ?_
 refine cB ?_
 refine cW ?_ ?_ ?_
 refine calm_end ?_
 refine ⟨⟨⟨(by rfl), (by rfl)⟩, ⟨(by rfl), (by rfl)⟩⟩, fun w9 hS D0 D1 => ?_⟩
 have B0 := B0.y hS
 have B1 := B1.y hS
 have B5 := B5.y hS
 have B6 := B6.y hS
 have B2 : Blk w9 (w.heap.size + 1 + 1) (uL (tc z)) 76 := blk_whole D0 rfl
 have B3 : Blk w9 (w.heap.size + 1 + 1 + 1) (uL (tc r)) 76 := blk_whole D1 rfl
 have hz9 : w8.heap.size ≤ w9.heap.size := hS.size
 have HB := gS HB hS
 clear hS D0 D1
 go_wp2_with fail
 obtain ⟨s0_0, s0_1, s0_2, s0_3⟩ := c4 (B2)
 obtain ⟨s1_0, s1_1, s1_2, s1_3⟩ := c4 (B3)
 refine bodyPost_ret (v := .tuple #[wI z, wI r, .bool true]) (by simp [results, Tryz.results153, go_sem, s0_0, s0_1, s0_2, s0_3, s1_0, s1_1, s1_2, s1_3]) rfl ⟨rfl, HB⟩
theorem wideDiv_any (x y : Int) (hx : Fit x) (hy : Fit y) (h0 : 0 < y) (w : World) :
  Calls Tryz.prog 153 #[wI x, wI y] w fun e w' => e = .returned (.tuple #[wI (x / y), wI (x % y), .bool true]) ∧ Below w.heap.size w w' := by
 by_cases h : 0 ≤ x
 ·exact wideDiv_pos x y _ _ hx hy h0 h rfl rfl w
 ·by_cases hm : x.natAbs % y.natAbs = 0
  ·exact wideDiv_even x y _ _ hx hy h0 (by omega) hm rfl rfl w
  ·exact wideDiv_odd x y _ _ hx hy h0 (by omega) hm rfl rfl w
end Go.Proofs.YtlkhneiccjhgdaaGreat
namespace Go.Wd
open Go
abbrev rt (n d : Int) : Value := .agg #[u64 (lb (tc n) 0), u64 (lb (tc n) 1), u64 (lb (tc n) 2), u64 (lb (tc n) 3), u64 (lb (tc d) 0), u64 (lb (tc d) 1), u64 (lb (tc d) 2), u64 (lb (tc d) 3)]
structure Ok (n d : Int) : Prop where
 n1 : -9223372036854775808 ≤ n
 n2 : n ≤ 9223372036854775807
 d1 : 0 < d
 d2 : d ≤ 9223372036854775807
theorem fit64 {x : Int} (h1 : -9223372036854775808 ≤ x) (h2 : x ≤ 9223372036854775807) : Fit x := by unfold Fit; simp only [H4]; omega
theorem fitMul {x y : Int} (h1 : -9223372036854775808 ≤ x) (h2 : x ≤ 9223372036854775807) (h3 : -9223372036854775808 ≤ y) (h4 : y ≤ 9223372036854775807) : Fit (x * y) := by
 have h : (x * y).natAbs ≤ 9223372036854775808 * 9223372036854775808 := by
  rw [Int.natAbs_mul]; exact Nat.mul_le_mul (by omega) (by omega)
 unfold Fit; simp only [H4]; omega
theorem Ok.fn {n d : Int} (h : Ok n d) : Fit n := fit64 h.n1 h.n2
theorem Ok.fd {n d : Int} (h : Ok n d) : Fit d := fit64 (by have := h.d1; omega) h.d2
theorem Ok.cross {n d n' d' : Int} (h : Ok n d) (h' : Ok n' d') : Fit (n * d') := fitMul h.n1 h.n2 (by have := h'.d1; omega) h'.d2
def cmpR (n d n' d' : Int) : Int := cmpI (n * d') (n' * d)
end Go.Wd
namespace Go.Proofs.YtlkhneiccjhgdaaGreat
open Go.RowKit Go.Rg Go.Wd
attribute [local go_sem] Oper.semAt_some
theorem ratOf_any (n : Int) (h1 : -9223372036854775808 ≤ n) (h2 : n ≤ 9223372036854775807) (w : World) :
  Calls Tryz.prog 90 #[.int .i64 n] w fun e w' => e = .returned (rt n 1) ∧ Below w.heap.size w w' :=
 Eo.calls_of (args := [.int .i64 n]) (fq Tryz.func90 fun C => dn (.c 4 (wideOf_any n h1 h2) <| .c 5 (wideOf_any 1 (by decide) (by decide)) .nil) []) w
theorem bound_any (n d : Int) (h1 : -9223372036854775808 ≤ n) (h2 : n ≤ 9223372036854775807) (h3 : -9223372036854775808 ≤ d) (h4 : d ≤ 9223372036854775807) (w : World) :
  Calls Tryz.prog 228 #[.int .i64 n, .int .i64 d] w fun e w' => e = .returned (rt n d) ∧ Below w.heap.size w w' :=
 Eo.calls_of (args := [.int .i64 n, .int .i64 d]) (fq Tryz.func228 fun C => dn (.c 6 (wideOf_any n h1 h2) <| .c 8 (wideOf_any d h3 h4) .nil) []) w
theorem ratRight_any (n d : Int) (hd : Fit d) (ho : 0 < d) (w : World) :
  Calls Tryz.prog 210 #[rt n d] w fun e w' => e = .returned (.bool true) ∧ Below w.heap.size w w' :=
 Eo.calls_of (args := [rt n d]) (fq Tryz.func210 fun C => dn (.c 5 (wideSign_any d hd) <| .v 6 (x := .bool (decide (cmpI d 0 > 0))) (y := .bool true) (by rw [decide_eq_true]; unfold cmpI; rw [if_neg (by omega), if_neg (by omega)]; decide) .nil) []) w
theorem crossed_any (n d n' d' : Int) (h : Ok n d) (h' : Ok n' d') (w : World) :
  Calls Tryz.prog 157 #[rt n d, rt n' d'] w fun e w' => e = .returned (.tuple #[wI (n * d'), wI (n' * d), .bool true]) ∧ Below w.heap.size w w' :=
 Eo.calls_of (args := [rt n d, rt n' d']) (fq Tryz.func157 fun C => dn (.c 13 (wideMul_any n d' h.fn h'.fd (h.cross h')) <| .c 21 (wideMul_any n' d h'.fn h.fd (h'.cross h)) <| .c 32 (ratRight_any n d h.fd h.d1) <| .c 36 (ratRight_any n' d' h'.fd h'.d1) .nil) []) w
theorem ratCmp_any (n d n' d' : Int) (h : Ok n d) (h' : Ok n' d') (w : World) :
  Calls Tryz.prog 92 #[rt n d, rt n' d'] w fun e w' => e = .returned (.tuple #[.int .i64 (cmpR n d n' d'), .bool true]) ∧ Below w.heap.size w w' :=
 Eo.calls_of (args := [rt n d, rt n' d']) (fq Tryz.func92 fun C => dn (.c 12 (crossed_any n d n' d' h h') <| .c 20 (wideCmp_any (n * d') (n' * d) (h.cross h') (h'.cross h)) .nil) []) w
theorem pless_any (n d n' d' : Int) (h : Ok n d) (h' : Ok n' d') (w : World) :
  Calls Tryz.prog 230 #[rt n d, rt n' d'] w fun e w' => e = .returned (.int .i64 (cmpR n d n' d')) ∧ Below w.heap.size w w' :=
 Eo.calls_of (args := [rt n d, rt n' d']) (fq Tryz.func230 fun C => dn (.c 10 (ratCmp_any n d n' d' h h') .nil) []) w
theorem cross_times (x y z : Int) (hx : Fit x) (hy : Fit y) (hd : Fit z) (hz : z = x * y) (w : World) :
  Calls Tryz.prog 149 #[wI x, wI y] w fun e w' => e = .returned (wI z) ∧ Below w.heap.size w w' :=
 by subst hz; exact Eo.calls_of (args := [wI x, wI y]) (fq Tryz.func149 fun C => dn (.c 10 (wideMul_any x y hx hy hd) .nil) []) w
theorem cross_less (x y z : Int) (hx : Fit x) (hy : Fit y) (hd : Fit z) (hz : z = x - y) (w : World) :
  Calls Tryz.prog 150 #[wI x, wI y] w fun e w' => e = .returned (wI z) ∧ Below w.heap.size w w' :=
 by subst hz; exact Eo.calls_of (args := [wI x, wI y]) (fq Tryz.func150 fun C => dn (.c 10 (wideSub_any x y hx hy hd) .nil) []) w
theorem pixel_times (x y z : Int) (hx : Fit x) (hy : Fit y) (hd : Fit z) (hz : z = x * y) (w : World) :
  Calls Tryz.prog 151 #[wI x, wI y] w fun e w' => e = .returned (wI z) ∧ Below w.heap.size w w' :=
 by subst hz; exact Eo.calls_of (args := [wI x, wI y]) (fq Tryz.func151 fun C => dn (.c 10 (wideMul_any x y hx hy hd) .nil) []) w
theorem pixel_plus (x y z : Int) (hx : Fit x) (hy : Fit y) (hd : Fit z) (hz : z = x + y) (w : World) :
  Calls Tryz.prog 152 #[wI x, wI y] w fun e w' => e = .returned (wI z) ∧ Below w.heap.size w w' :=
 by subst hz; exact Eo.calls_of (args := [wI x, wI y]) (fq Tryz.func152 fun C => dn (.c 10 (wideAdd_any x y hx hy hd) .nil) []) w
end Go.Proofs.YtlkhneiccjhgdaaGreat
namespace Go.Wd
open Go
abbrev sV (x y w : Int) : Value := .agg #[u64 (lb (tc x) 0), u64 (lb (tc x) 1), u64 (lb (tc x) 2), u64 (lb (tc x) 3), u64 (lb (tc y) 0), u64 (lb (tc y) 1), u64 (lb (tc y) 2), u64 (lb (tc y) 3), u64 (lb (tc w) 0), u64 (lb (tc w) 1), u64 (lb (tc w) 2), u64 (lb (tc w) 3)]
abbrev pV (x y : Int) : Value := .agg #[.int .i64 x, .int .i64 y]
abbrev gV (a b c d : Int) : Value := .agg #[.int .i64 a, .int .i64 b, .int .i64 c, .int .i64 d]
def inB (n : Int) : Bool := decide (-2199023255552 ≤ n ∧ n ≤ 2199023255552)
def ptB (x y : Int) : Bool := inB x && inB y
def sgB (a b c d : Int) : Bool := ptB a b && ptB c d
def szB (n : Int) : Bool := decide (1 ≤ n ∧ n ≤ 1048576)
theorem inB_iff {n : Int} : inB n = true ↔ -2199023255552 ≤ n ∧ n ≤ 2199023255552 := by unfold inB; simp
theorem szB_iff {n : Int} : szB n = true ↔ 1 ≤ n ∧ n ≤ 1048576 := by unfold szB; simp
theorem cmpI_nonneg {x y : Int} (h : y ≤ x) : 0 ≤ cmpI x y := by unfold cmpI; split <;> (try split) <;> omega
theorem cmpI_nonpos {x y : Int} (h : x ≤ y) : cmpI x y ≤ 0 := by unfold cmpI; split <;> (try split) <;> omega
structure SpotOk (x y w : Int) : Prop where
 w1 : 0 < w
 w2 : w ≤ 1237940039285380274899124224
 x1 : -(w * 2199023255552) ≤ x
 x2 : x ≤ w * 2199023255552
 y1 : -(w * 2199023255552) ≤ y
 y2 : y ≤ w * 2199023255552
def cellZ (n w size : Int) : Int := (n + n + w * size) / (w * size + w * size)
end Go.Wd
namespace Go.Proofs.YtlkhneiccjhgdaaGreat
open Go.RowKit Go.Rg Go.Wd
attribute [local go_sem] Oper.semAt_some
theorem within_any (n : Int) (b : Bool) (h : inB n = b) (w : World) :
  Calls Tryz.prog 138 #[.int .i64 n] w fun e w' => e = .returned (.bool b) ∧ Below w.heap.size w w' :=
 by
 subst h
 unfold inB
 by_cases h1 : n ≥ -2199023255552
 ·by_cases h2 : n ≤ 2199023255552
  ·rw [decide_eq_true ⟨h1, h2⟩]
   exact Eo.calls_of (args := [.int .i64 n]) (fq Tryz.func138 fun C => dn (.v 4 (bt h1) <| .v 7 (bt h2) .nil) []) w
  ·rw [decide_eq_false fun h => h2 h.2]
   exact Eo.calls_of (args := [.int .i64 n]) (fq Tryz.func138 fun C => dn (.v 4 (bt h1) <| .v 7 (bf h2) .nil) []) w
 ·rw [decide_eq_false fun h => h1 h.1]
  exact Eo.calls_of (args := [.int .i64 n]) (fq Tryz.func138 fun C => dn (.v 4 (bf h1) .nil) []) w
theorem psize_any (n : Int) (b : Bool) (h : szB n = b) (w : World) :
  Calls Tryz.prog 83 #[.int .i64 n] w fun e w' => e = .returned (.bool b) ∧ Below w.heap.size w w' :=
 by
 subst h
 unfold szB
 by_cases h1 : n ≥ 1
 ·by_cases h2 : n ≤ 1048576
  ·rw [decide_eq_true ⟨h1, h2⟩]
   exact Eo.calls_of (args := [.int .i64 n]) (fq Tryz.func83 fun C => dn (.v 4 (bt h1) <| .v 7 (bt h2) .nil) []) w
  ·rw [decide_eq_false fun h => h2 h.2]
   exact Eo.calls_of (args := [.int .i64 n]) (fq Tryz.func83 fun C => dn (.v 4 (bt h1) <| .v 7 (bf h2) .nil) []) w
 ·rw [decide_eq_false fun h => h1 h.1]
  exact Eo.calls_of (args := [.int .i64 n]) (fq Tryz.func83 fun C => dn (.v 4 (bf h1) .nil) []) w
theorem ptRight_any (x y : Int) (b : Bool) (h : ptB x y = b) (w : World) :
  Calls Tryz.prog 75 #[pV x y] w fun e w' => e = .returned (.bool b) ∧ Below w.heap.size w w' :=
 by
 subst h
 unfold ptB
 have u1 := within_any x _ rfl
 have u2 := within_any y _ rfl
 revert u1 u2
 cases inB x
 ·intro u1 u2
  exact Eo.calls_of (args := [pV x y]) (fq Tryz.func75 fun C => dn (.c 5 u1 .nil) []) w
 ·intro u1 u2
  exact Eo.calls_of (args := [pV x y]) (fq Tryz.func75 fun C => dn (.c 5 u1 <| .c 9 u2 .nil) []) w
theorem sgRight_any (a b c d : Int) (r : Bool) (h : sgB a b c d = r) (w : World) :
  Calls Tryz.prog 89 #[gV a b c d] w fun e w' => e = .returned (.bool r) ∧ Below w.heap.size w w' :=
 by
 subst h
 unfold sgB
 have u1 := ptRight_any a b _ rfl
 have u2 := ptRight_any c d _ rfl
 revert u1 u2
 cases ptB a b
 ·intro u1 u2
  exact Eo.calls_of (args := [gV a b c d]) (fq Tryz.func89 fun C => dn (.c 5 u1 .nil) []) w
 ·intro u1 u2
  exact Eo.calls_of (args := [gV a b c d]) (fq Tryz.func89 fun C => dn (.c 5 u1 <| .c 9 u2 .nil) []) w
theorem at_any (x y : Int) (h : ptB x y = true) (w : World) :
  Calls Tryz.prog 38 #[pV x y] w fun e w' => e = .returned (sV x y 1) ∧ Below w.heap.size w w' :=
 by
 have h' := h
 unfold ptB at h'
 rw [Bool.and_eq_true] at h'
 have h1 := inB_iff.1 h'.1
 have h2 := inB_iff.1 h'.2
 exact Eo.calls_of (args := [pV x y]) (fq Tryz.func38 fun C => dn (.c 4 (ptRight_any x y true h) <| .c 9 (wideOf_any x (by omega) (by omega)) <| .c 12 (wideOf_any y (by omega) (by omega)) <| .c 13 (wideOf_any 1 (by decide) (by decide)) .nil) []) w
theorem spotRight_any (x y v : Int) (h : SpotOk x y v) (w : World) :
  Calls Tryz.prog 86 #[sV x y v] w fun e w' => e = .returned (.bool true) ∧ Below w.heap.size w w' :=
 by
 obtain ⟨w1, w2, x1, x2, y1, y2⟩ := h
 have fit : ∀ {z : Int}, -1606938044258990275541962092341162602522202993782792835301376 ≤ z → z ≤ 1606938044258990275541962092341162602522202993782792835301376 → Fit z := fun {z} h1 h2 => by unfold Fit; simp only [H4]; omega
 have le : ∀ {p q : Int}, p ≤ q → Value.bool (decide (cmpI p q ≤ 0)) = .bool true := fun {p q} h => by rw [decide_eq_true (cmpI_nonpos h)]
 have ge : ∀ {p q : Int}, q ≤ p → Value.bool (decide (cmpI p q ≥ 0)) = .bool true := fun {p q} h => by rw [decide_eq_true (cmpI_nonneg h)]
 have c1 : Value.bool (decide (cmpI v 0 ≤ 0)) = .bool false := by rw [decide_eq_false]; unfold cmpI; rw [if_neg (by omega), if_neg (by omega)]; decide
 have c2 : Value.bool (decide (cmpI v 1237940039285380274899124224 > 0)) = .bool false := by rw [decide_eq_false]; have := cmpI_nonpos w2; omega
 have fv : Fit v := fit (by omega) (by omega)
 have fx : Fit x := fit (by omega) (by omega)
 have fy : Fit y := fit (by omega) (by omega)
 have fb : Fit (v * 2199023255552) := fit (by omega) (by omega)
 have fa : Fit (0 - v * 2199023255552) := fit (by omega) (by omega)
 exact Eo.calls_of (args := [sV x y v]) (fq Tryz.func86 fun C => dn (.c 7 (wideSign_any v fv) <| .v 8 c1 <| .c 12 (wideOf_any 35184372088832 (by decide) (by decide)) <| .c 13 (wideOf_any 35184372088832 (by decide) (by decide)) <| .c 14 (cross_times 35184372088832 35184372088832 1237940039285380274899124224 (fit (by decide) (by decide)) (fit (by decide) (by decide)) (fit (by decide) (by decide)) (by decide)) <| .c 15 (wideCmp_any v 1237940039285380274899124224 fv (fit (by decide) (by decide))) <| .v 16 c2 <|
  .c 20 (wideOf_any 2199023255552 (by decide) (by decide)) <| .c 21 (cross_times v 2199023255552 (v * 2199023255552) fv (fit (by decide) (by decide)) fb rfl) <| .c 24 (cross_less 0 (v * 2199023255552) (0 - v * 2199023255552) (fit (by decide) (by decide)) fb fa rfl) <|
  .c 28 (wideCmp_any x (0 - v * 2199023255552) fx fa) <| .v 29 (ge (p := x) (q := 0 - v * 2199023255552) (by omega)) <| .c 34 (wideCmp_any x (v * 2199023255552) fx fb) <| .v 35 (le (p := x) (q := v * 2199023255552) (by omega)) <| .c 41 (wideCmp_any y (0 - v * 2199023255552) fy fa) <| .v 42 (ge (p := y) (q := 0 - v * 2199023255552) (by omega)) <| .c 48 (wideCmp_any y (v * 2199023255552) fy fb) <| .v 49 (le (p := y) (q := v * 2199023255552) (by omega)) .nil) []) w
theorem cell_any (n v size : Int) (hw1 : 0 < v) (hw2 : v ≤ 1237940039285380274899124224) (hn1 : -(v * 2199023255552) ≤ n) (hn2 : n ≤ v * 2199023255552) (hs1 : 1 ≤ size) (hs2 : size ≤ 1048576) (w : World) :
  Calls Tryz.prog 87 #[wI n, wI v, .int .i64 size] w fun e w' => e = .returned (.int .i64 (cellZ n v size)) ∧ Below w.heap.size w w' :=
 by
 have fit : ∀ {z : Int}, -1606938044258990275541962092341162602522202993782792835301376 ≤ z → z ≤ 1606938044258990275541962092341162602522202993782792835301376 → Fit z := fun {z} h1 h2 => by unfold Fit; simp only [H4]; omega
 have k1 : v ≤ v * size := by have := Int.mul_le_mul_of_nonneg_left hs1 (Int.le_of_lt hw1); omega
 have k2 : v * size ≤ 1237940039285380274899124224 * 1048576 := Int.mul_le_mul hw2 hs2 (by omega) (by decide)
 have q1 : -2199023255552 ≤ (n + n + v * size) / (v * size + v * size) := (Int.le_ediv_iff_mul_le (by omega)).2 (by omega)
 have q2 : (n + n + v * size) / (v * size + v * size) < 2199023255552 + 1 := (Int.ediv_lt_iff_lt_mul (by omega)).2 (by omega)
 unfold cellZ
 exact Eo.calls_of (args := [wI n, wI v, .int .i64 size]) (fq Tryz.func87 fun C => dn (.c 15 (wideOf_any size (by omega) (by omega)) <| .c 16 (pixel_times v size (v * size) (fit (by omega) (by omega)) (fit (by omega) (by omega)) (fit (by omega) (by omega)) rfl) <|
  .c 20 (pixel_plus n n (n + n) (fit (by omega) (by omega)) (fit (by omega) (by omega)) (fit (by omega) (by omega)) rfl) <| .c 22 (pixel_plus (n + n) (v * size) (n + n + v * size) (fit (by omega) (by omega)) (fit (by omega) (by omega)) (fit (by omega) (by omega)) rfl) <| .c 25 (pixel_plus (v * size) (v * size) (v * size + v * size) (fit (by omega) (by omega)) (fit (by omega) (by omega)) (fit (by omega) (by omega)) rfl) <|
  .c 26 (wideDiv_any (n + n + v * size) (v * size + v * size) (fit (by omega) (by omega)) (fit (by omega) (by omega)) (by omega)) <| .c 32 (wideSmall_any ((n + n + v * size) / (v * size + v * size)) (by omega) (by omega)) .nil) []) w
end Go.Proofs.YtlkhneiccjhgdaaGreat
namespace Go.Proofs.YtlkhneiccjhgdaaGreat
open Go.RowKit Go.Rg Go.Wd
attribute [local go_sem] Oper.semAt_some
theorem pixOf_any (x y v size : Int) (h : SpotOk x y v) (hs : szB size = true) (w : World) :
  Calls Tryz.prog 37 #[sV x y v, .int .i64 size] w fun e w' => e = .returned (.tuple #[pV (cellZ x v size) (cellZ y v size), .int .i64 0]) ∧ Below w.heap.size w w' :=
 by
 have s := szB_iff.1 hs
 have c1 := cell_any x v size h.w1 h.w2 h.x1 h.x2 s.1 s.2
 have c2 := cell_any y v size h.w1 h.w2 h.y1 h.y2 s.1 s.2
 exact Eo.calls_of (args := [sV x y v, .int .i64 size]) (fq Tryz.func37 fun C => dn (.c 7 (psize_any size true hs) <| .c 11 (spotRight_any x y v h) <| .c 20 c1 <| .c 26 c2 .nil) []) w
theorem spotOk_of {x y : Int} (h : ptB x y = true) : SpotOk x y 1 := by
 unfold ptB at h
 rw [Bool.and_eq_true, inB_iff, inB_iff] at h
 exact ⟨by omega, by omega, by omega, by omega, by omega, by omega⟩
theorem box_any (a b c d size : Int) (hg : sgB a b c d = true) (hs : szB size = true) (w : World) :
  Calls Tryz.prog 121 #[gV a b c d, .int .i64 size] w fun e w' => e = .returned (.tuple #[pV (min (cellZ a 1 size) (cellZ c 1 size)) (min (cellZ b 1 size) (cellZ d 1 size)), pV (max (cellZ a 1 size) (cellZ c 1 size)) (max (cellZ b 1 size) (cellZ d 1 size)), .int .i64 0]) ∧ Below w.heap.size w w' :=
 by
 have hg' := hg
 unfold sgB at hg'
 rw [Bool.and_eq_true] at hg'
 have o1 := pixOf_any a b 1 size (spotOk_of hg'.1) hs
 have o2 := pixOf_any c d 1 size (spotOk_of hg'.2) hs
 exact Eo.calls_of (args := [gV a b c d, .int .i64 size]) (fq Tryz.func121 fun C => dn (.c 11 (sgRight_any a b c d true hg) <| .c 18 (at_any a b hg'.1) <| .c 20 o1 <| .c 31 (at_any c d hg'.2) <| .c 33 o2 <| .m 40 (fun w _ => mn (cellZ a 1 size) (cellZ c 1 size) w) <| .m 45 (fun w _ => mn (cellZ b 1 size) (cellZ d 1 size) w) <| .m 51 (fun w _ => mx (cellZ a 1 size) (cellZ c 1 size) w) <| .m 56 (fun w _ => mx (cellZ b 1 size) (cellZ d 1 size) w) .nil) []) w
end Go.Proofs.YtlkhneiccjhgdaaGreat
