/- Parts of the proof. -/
import Derived.Test.YthbplhglfjlngaaGreatGPb
import Derived.Deep.Cut
import Derived.Test.YthbplhglfjlngaaGreatGPk
import Derived.Test.YthbplhglfjlngaaGreatGPg
import Derived.Test.YthbplhglfjlngaaGreatGPh
import Derived.Test.YthbplhglfjlngaaGreatGPi
import Derived.Lib.MinMax
import Derived.Test.YthbplhglfjlngaaGreatGPj
set_option linter.unusedVariables false
set_option linter.unusedSimpArgs false
set_option maxRecDepth 100000
namespace Go.Wd
open Go
def st0L : List Value := [.int .u64 0, .int .u64 0, .int .u64 0, .int .u64 0, .int .u64 0, .int .u64 0, .int .u64 0, .int .u64 0, .int .u64 0, .int .u64 0, .int .u64 0, .int .u64 0, .int .u64 0, .int .u64 0, .int .u64 0, .int .u64 0, .bool false, .bool false]
abbrev st0V : Value := .agg #[.int .u64 0, .int .u64 0, .int .u64 0, .int .u64 0, .int .u64 0, .int .u64 0, .int .u64 0, .int .u64 0, .int .u64 0, .int .u64 0, .int .u64 0, .int .u64 0, .int .u64 0, .int .u64 0, .int .u64 0, .int .u64 0, .bool false, .bool false]
theorem st0_one : st0V.cells.all (·.oneCell') = true := by simp [Value.cells, Value.oneCell']
def whole : Stz := ⟨0, 1, 1, 1, false, false⟩
theorem whole_ok : whole.Ok := ⟨⟨by decide, by decide, by decide, by decide⟩, ⟨by decide, by decide, by decide, by decide⟩⟩
def cutZ (a b c d cx cy size : Int) : Option Stz :=
 if (bandZ whole a (c - a) (2 * cx * size - size) (2 * cx * size + size)).2 then
  if (bandZ (bandZ whole a (c - a) (2 * cx * size - size) (2 * cx * size + size)).1 b (d - b) (2 * cy * size - size) (2 * cy * size + size)).2 then
   if someZ (bandZ (bandZ whole a (c - a) (2 * cx * size - size) (2 * cx * size + size)).1 b (d - b) (2 * cy * size - size) (2 * cy * size + size)).1 then
    some (bandZ (bandZ whole a (c - a) (2 * cx * size - size) (2 * cx * size + size)).1 b (d - b) (2 * cy * size - size) (2 * cy * size + size)).1
   else none
  else none
 else none
theorem prod_bd {c size : Int} (h1 : -2199023255552 ≤ c) (h2 : c ≤ 2199023255552) (s1 : 1 ≤ size) (s2 : size ≤ 1048576) : -4611686018427387904 ≤ 2 * c * size ∧ 2 * c * size ≤ 4611686018427387904 := by
 have h : (2 * c * size).natAbs ≤ 4398046511104 * 1048576 := by
  rw [Int.natAbs_mul]; exact Nat.mul_le_mul (by omega) (by omega)
 omega
theorem bandOk_of {a c x size : Int} (h1 : inB a = true) (h2 : inB c = true) (hx : -4611686018427387904 ≤ x ∧ x ≤ 4611686018427387904) (s1 : 1 ≤ size) (s2 : size ≤ 1048576) : BandOk a (c - a) (x - size) (x + size) := by
 rw [inB_iff] at h1 h2
 exact ⟨by omega, by omega, by omega, by omega, by omega, by omega, by omega, by omega⟩
theorem cutZ_ok {a b c d cx cy size : Int} {z : Stz} (hg : sgB a b c d = true) (hc : ptB cx cy = true) (hs : szB size = true) (h : cutZ a b c d cx cy size = some z) : z.Ok := by
 unfold sgB ptB at hg
 unfold ptB at hc
 simp only [Bool.and_eq_true] at hg hc
 rw [szB_iff] at hs
 have px := prod_bd (c := cx) (inB_iff.1 hc.1).1 (inB_iff.1 hc.1).2 hs.1 hs.2
 have py := prod_bd (c := cy) (inB_iff.1 hc.2).1 (inB_iff.1 hc.2).2 hs.1 hs.2
 unfold cutZ at h
 split at h
 ·split at h
  ·split at h
   ·cases h
    exact bandZ_ok (bandZ_ok whole_ok (bandOk_of hg.1.1 hg.2.1 px hs.1 hs.2)) (bandOk_of hg.1.2 hg.2.2 py hs.1 hs.2)
   ·cases h
  ·cases h
 ·cases h
end Go.Wd
namespace Go.Rg
open Go Go.RowKit Go.Wd
end Go.Rg
namespace Go.Proofs.YthbplhglfjlngaaGreat
open Go.RowKit Go.Rg Go.Wd
attribute [local go_sem] Oper.semAt_some
theorem info_st : (Tryz.prog.info? 64).map (fun i => (i.zero, i.size)) = some (some (.agg #[.int .u64 0, .int .u64 0, .int .u64 0, .int .u64 0, .int .u64 0, .int .u64 0, .int .u64 0, .int .u64 0, .int .u64 0, .int .u64 0, .int .u64 0, .int .u64 0, .int .u64 0, .int .u64 0, .int .u64 0, .int .u64 0, .bool false, .bool false]), 18) := by kernel_rfl
theorem size_st : (Tryz.prog.info? 64).map (·.size) = some 18 := by kernel_rfl
end Go.Proofs.YthbplhglfjlngaaGreat
namespace Go.Proofs.YthbplhglfjlngaaGreat
open Go.RowKit Go.Rg Go.Wd
attribute [local go_sem] Oper.semAt_some
set_option maxHeartbeats 2000000 in
theorem cut_f (a b c d cx cy size : Int) (hg : sgB a b c d = true) (hc : ptB cx cy = true) (hs : szB size = true) (hcut : (bandZ whole a (c - a) (2 * cx * size - size) (2 * cx * size + size)).2 = false ∧ True) (w : World) :
  Calls Tryz.prog 20 #[gV a b c d, pV cx cy, .int .i64 size] w fun e w' => e = .returned (.tuple #[st0V, .bool false]) ∧ Below w.heap.size w w' := by
 obtain ⟨W0, hW0⟩ : ∃ W0, [.cells #[.int .i64 a, .int .i64 b, .int .i64 c, .int .i64 d] 25, .cells #[.int .i64 cx, .int .i64 cy] 23, .cells #[.int .u64 0, .int .u64 0, .int .u64 0, .int .u64 0, .int .u64 0, .int .u64 0, .int .u64 0, .int .u64 0, .int .u64 0, .int .u64 0, .int .u64 0, .int .u64 0, .int .u64 0, .int .u64 0, .int .u64 0, .int .u64 0, .bool false, .bool false] 64].foldl World.alloc w = W0 := ⟨_, rfl⟩
 have B0 : Blk W0 (w.heap.size) ([.int .i64 a, .int .i64 b, .int .i64 c, .int .i64 d]) 25 := Blk.allocs _ hW0 0 rfl
 have B1 : Blk W0 (w.heap.size + 1) ([.int .i64 cx, .int .i64 cy]) 23 := Blk.allocs _ hW0 1 rfl
 have B2 : Blk W0 (w.heap.size + 1 + 1) (st0L) 64 := Blk.allocs _ hW0 2 rfl
 have HB := aB hW0
 have hsz : w.heap.size + 3 ≤ W0.heap.size := aZ hW0
 simp only [List.foldl_cons, List.foldl_nil] at hW0
 have hg2 := hg
 have hc2 := hc
 have hs2 := hs
 unfold sgB ptB at hg2
 unfold ptB at hc2
 simp only [Bool.and_eq_true] at hg2 hc2
 rw [szB_iff] at hs2
 have px := prod_bd (c := cx) (inB_iff.1 hc2.1).1 (inB_iff.1 hc2.1).2 hs2.1 hs2.2
 have py := prod_bd (c := cy) (inB_iff.1 hc2.2).1 (inB_iff.1 hc2.2).2 hs2.1 hs2.2
 obtain ⟨x0, Hx0⟩ : ∃ x, Hid (x = 2 * cx * size) := ⟨_, hH rfl⟩
 obtain ⟨y0, Hy0⟩ : ∃ y, Hid (y = 2 * cy * size) := ⟨_, hH rfl⟩
 have BX := hH (bandOk_of (x := 2 * cx * size) hg2.1.1 hg2.2.1 px hs2.1 hs2.2)
 have BY := hH (bandOk_of (x := 2 * cy * size) hg2.1.2 hg2.2.2 py hs2.1 hs2.2)
 have m1 : IntKind.i64.wrap (2 * cx * size) = x0 := by rw [IntWalk.i64_in _ (by omega), Hx0.out]
 have m2 : IntKind.i64.wrap (2 * cy * size) = y0 := by rw [IntWalk.i64_in _ (by omega), Hy0.out]
 have m3 : IntKind.i64.wrap (2 * cx) = 2 * cx := IntWalk.i64_in _ (by have := (inB_iff.1 hc2.1); omega)
 have m4 : IntKind.i64.wrap (2 * cy) = 2 * cy := IntWalk.i64_in _ (by have := (inB_iff.1 hc2.2); omega)
 rw [← Hx0.out] at BX px hcut
 rw [← Hy0.out] at BY py
 try rw [← Hy0.out] at hcut
 have M := hH (And.intro m1 (And.intro m2 (And.intro m3 m4)))
 clear m1 m2 m3 m4
 have Hcut := hH hcut
 have ba := inB_iff.1 hg2.1.1
 have bb := inB_iff.1 hg2.1.2
 have bc := inB_iff.1 hg2.2.1
 have bd := inB_iff.1 hg2.2.2
 obtain ⟨ba1, ba2⟩ := ba
 obtain ⟨bb1, bb2⟩ := bb
 obtain ⟨bc1, bc2⟩ := bc
 obtain ⟨bd1, bd2⟩ := bd
 obtain ⟨px1, px2⟩ := px
 obtain ⟨py1, py2⟩ := py
 obtain ⟨sz1, sz2⟩ := hs2
 have NN : Hid (IntKind.i64.wrap (c - a) = c - a ∧ IntKind.i64.wrap (x0 - size) = x0 - size ∧ IntKind.i64.wrap (x0 + size) = x0 + size ∧ IntKind.i64.wrap (d - b) = d - b ∧ IntKind.i64.wrap (y0 - size) = y0 - size ∧ IntKind.i64.wrap (y0 + size) = y0 + size) := hH ⟨IntWalk.i64_in _ (by omega), IntWalk.i64_in _ (by omega), IntWalk.i64_in _ (by omega), IntWalk.i64_in _ (by omega), IntWalk.i64_in _ (by omega), IntWalk.i64_in _ (by omega)⟩
 have Hg := hH hg
 have Hc := hH hc
 have Hs := hH hs
 clear hg hc hs hg2 hc2 hcut
 obtain ⟨S0, HS0⟩ : ∃ S, Hid (S = whole) := ⟨_, hH rfl⟩
 obtain ⟨S1, HS1⟩ : ∃ S, Hid (S = (bandZ whole a (c - a) (x0 - size) (x0 + size)).1) := ⟨_, hH rfl⟩
 obtain ⟨S2, HS2⟩ : ∃ S, Hid (S = (bandZ S1 b (d - b) (y0 - size) (y0 + size)).1) := ⟨_, hH rfl⟩
 have OK0 : Hid (whole.Ok) := hH whole_ok
 have OK1 : Hid (S1.Ok) := hH (by rw [HS1.out]; exact bandZ_ok whole_ok BX.out)
 have OK2 : Hid (S2.Ok) := hH (by rw [HS2.out]; exact bandZ_ok OK1.out BY.out)
 have HB1 : Hid (∀ (D : Nat) (w : World), Blk w D (stL whole) 64 → Calls Tryz.prog 48 #[.pointer (some ⟨D, 0, none⟩), .int .i64 a, .int .i64 (c - a), .int .i64 (x0 - size), .int .i64 (x0 + size)] w fun e w' => e = .returned (.bool false) ∧ Blk w' D (stL S1) 64 ∧ Upd D w w') := hH (fun D w hD => by
  have := band_any D whole a (c - a) (x0 - size) (x0 + size) w hD OK0.out BX.out
  rw [Hcut.out.1, ← HS1.out] at this; exact this)
 go_enter Tryz.func20, Tryz.ntmps20
 go_upto_region 1 with (fail)
 clear hW0
 refine cP ?_
 refine cN ?_
 refine cW ?_ ?_ ?_
 refine cC ?_ ?_ ?_ ?_ ?hc1_1 ?_
 case hc1_1 => (intro w hSw; exact psize_any size true Hs.out w)
 refine cW ?_ ?_ ?_
 refine cW ?_ ?_ ?_
 refine cX ?_ ?_ (by intro wz hSw; obtain ⟨q0, q1, q2, q3⟩ := c4 (B0.y hSw.1); go_simp; all_goals with_reducible rfl) ?_
 refine cC ?_ ?_ ?_ ?_ ?hc1_5 ?_
 case hc1_5 => (intro w hSw; exact sgRight_any a b c d true Hg.out w)
 refine cW ?_ ?_ ?_
 refine cW ?_ ?_ ?_
 refine cW ?_ ?_ ?_
 refine cX ?_ ?_ (by intro wz hSw; obtain ⟨q0, q1⟩ := c2 (B1.y hSw.1); go_simp; all_goals with_reducible rfl) ?_
 refine cC ?_ ?_ ?_ ?_ ?hc1_10 ?_
 case hc1_10 => (intro w hSw; exact ptRight_any cx cy true Hc.out w)
 refine cW ?_ ?_ ?_
 refine cW ?_ ?_ ?_
 refine calm_end ?_
 intro w1 hS
 have hS := sO hS
 have B0 := B0.y hS
 have B1 := B1.y hS
 have B2 := B2.y hS
 have hz1 : W0.heap.size ≤ w1.heap.size := hS.size
 have HB := gS HB hS
 clear hS
 go_upto_region 3 with (fail)
 refine cP ?_
 refine calm_a (k := 3) (d := 8) (st := 4) (x := (.tmp 27)) (u := stV whole) (T := 64) (by kernel_rfl) (by rfl) (by rfl) info_st rfl rfl (by first | exact st_one _ | exact st0_one) ?_
 refine cC ?_ ?_ ?_ ?_ ?hc2_0 ?_
 case hc2_0 => (intro w hSw; exact ratOf_any 0 (by omega) (by omega) w)
 refine cC ?_ ?_ ?_ ?_ ?hc2_1 ?_
 case hc2_1 => (intro w hSw; exact ratOf_any 1 (by omega) (by omega) w)
 refine cW ?_ ?_ ?_
 refine cB ?_
 refine cB ?_
 refine calm_end ?_
 refine ⟨(by rfl), fun b4 w2 hb4 hS D0 => ?_⟩
 have hl4_0 : w.heap.size < b4 := lL B0.lt hb4
 have hl4_1 : w.heap.size + 1 < b4 := lL B1.lt hb4
 have hl4_2 : w.heap.size + 1 + 1 < b4 := lL B2.lt hb4
 have hS := sO hS
 have B0 := B0.y hS
 have B1 := B1.y hS
 have B2 := B2.y hS
 have B4 : Blk w2 b4 (stL whole) 64 := D0
 have hz2 : w1.heap.size ≤ w2.heap.size := hS.size
 have HB := gS HB hS
 clear hS D0
 go_upto_region 4 with (fail)
 refine cG ?_
 refine cN ?_
 refine cW ?_ ?_ ?_
 refine cX ?_ ?_ (by intro wz hSw; obtain ⟨q0, q1⟩ := c2 (B1.y hSw.1); go_simp; all_goals with_reducible rfl) ?_
 refine cX ?_ ?_ (by intro wz hSw; have m3 := M.out.2.2.1; go_simp; all_goals with_reducible rfl) ?_
 refine cW ?_ ?_ ?_
 refine cX ?_ ?_ (by intro wz hSw; have m1 := M.out.1; go_simp; all_goals with_reducible rfl) ?_
 refine cW ?_ ?_ ?_
 refine cX ?_ ?_ (by intro wz hSw; obtain ⟨q0, q1⟩ := c2 (B1.y hSw.1); go_simp; all_goals with_reducible rfl) ?_
 refine cX ?_ ?_ (by intro wz hSw; have m4 := M.out.2.2.2; go_simp; all_goals with_reducible rfl) ?_
 refine cW ?_ ?_ ?_
 refine cX ?_ ?_ (by intro wz hSw; have m2 := M.out.2.1; go_simp; all_goals with_reducible rfl) ?_
 refine cW ?_ ?_ ?_
 refine cW ?_ ?_ ?_
 refine calm_end ?_
 intro w3 hS
 have hS := sO hS
 have B0 := B0.y hS
 have B1 := B1.y hS
 have B2 := B2.y hS
 have B4 := B4.y hS
 have hz3 : w2.heap.size ≤ w3.heap.size := hS.size
 have HB := gS HB hS
 clear hS
 clear M
 go_upto_region 5 with (fail)
 refine pl_start ?_
 refine pl_val (v := ?_) (by rfl) ?hy4_0 ?_
 case hy4_0 => (go_simp; all_goals with_reducible rfl)
 (try simp only [td])
 refine pl_val (v := ?_) (by rfl) ?hy4_1 ?_
 case hy4_1 => (go_simp; all_goals with_reducible rfl)
 (try simp only [td])
 refine pl_val (v := ?_) (by rfl) ?hy4_2 ?_
 case hy4_2 => (obtain ⟨q0, q1, q2, q3⟩ := c4 (B0); go_simp; all_goals with_reducible rfl)
 (try simp only [td])
 refine pl_val (v := ?_) (by rfl) ?hy4_3 ?_
 case hy4_3 => (go_simp; all_goals with_reducible rfl)
 (try simp only [td])
 refine pl_val (v := ?_) (by rfl) ?hy4_4 ?_
 case hy4_4 => (go_simp; all_goals with_reducible rfl)
 (try simp only [td])
 refine pl_val (v := ?_) (by rfl) ?hy4_5 ?_
 case hy4_5 => (obtain ⟨q0, q1, q2, q3⟩ := c4 (B0); go_simp; all_goals with_reducible rfl)
 (try simp only [td])
 refine pl_val (v := ?_) (by rfl) ?hy4_6 ?_
 case hy4_6 => (go_simp; all_goals with_reducible rfl)
 (try simp only [td])
 refine pl_val (v := ?_) (by rfl) ?hy4_7 ?_
 case hy4_7 => (go_simp; all_goals with_reducible rfl)
 (try simp only [td])
 refine pl_val (v := ?_) (by rfl) ?hy4_8 ?_
 case hy4_8 => (obtain ⟨q0, q1, q2, q3⟩ := c4 (B0); go_simp; all_goals with_reducible rfl)
 (try simp only [td])
 refine pl_val (v := ?_) (by rfl) ?hy4_9 ?_
 case hy4_9 => (have nn := NN.out.1; go_simp; all_goals with_reducible rfl)
 (try simp only [td])
 refine pl_val (v := ?_) (by rfl) ?hy4_10 ?_
 case hy4_10 => (go_simp; all_goals with_reducible rfl)
 (try simp only [td])
 refine pl_val (v := ?_) (by rfl) ?hy4_11 ?_
 case hy4_11 => (go_simp; all_goals with_reducible rfl)
 (try simp only [td])
 refine pl_val (v := ?_) (by rfl) ?hy4_12 ?_
 case hy4_12 => (have nn := NN.out.2.1; go_simp; all_goals with_reducible rfl)
 (try simp only [td])
 refine pl_val (v := ?_) (by rfl) ?hy4_13 ?_
 case hy4_13 => (go_simp; all_goals with_reducible rfl)
 (try simp only [td])
 refine pl_val (v := ?_) (by rfl) ?hy4_14 ?_
 case hy4_14 => (go_simp; all_goals with_reducible rfl)
 (try simp only [td])
 refine pl_val (v := ?_) (by rfl) ?hy4_15 ?_
 case hy4_15 => (have nn := NN.out.2.2.1; go_simp; all_goals with_reducible rfl)
 (try simp only [td])
 refine pl_call (f := ?_) (args := ?_) (v := ?_) (R := ?_) (by rfl) ?hy4_16 ?hc4_16 ?_
 case hy4_16 => (go_simp; all_goals (first | with_reducible rfl | (constructor <;> with_reducible rfl)))
 case hc4_16 => (exact HB1.out _ _ B4)
 rintro w4 ⟨hD, hu⟩
 have B0 := B0.upd hu (by omega)
 have B1 := B1.upd hu (by omega)
 have B2 := B2.upd hu (by omega)
 have hz4 : w3.heap.size ≤ w4.heap.size := hu.size
 have B4 : Blk w4 b4 (stL S1) 64 := hD
 have HB := HB.trans (hu.below (B := w.heap.size) (by omega) HB.size)
 clear hu hD
 (try simp only [td])
 refine pl_val (v := ?_) (by rfl) ?hy4_17 ?_
 case hy4_17 => (go_simp; all_goals with_reducible rfl)
 (try simp only [td])
 refine pl_val (v := ?_) (by rfl) ?hy4_18 ?_
 case hy4_18 => (go_simp; all_goals with_reducible rfl)
 (try simp only [td])
 refine pl_skip (by rfl) ?_
 (try simp only [td])
 refine pl_skip (by rfl) ?_
 (try simp only [td])
 refine pl_skip (by rfl) ?_
 (try simp only [td])
 refine pl_skip (by rfl) ?_
 (try simp only [td])
 refine pl_skip (by rfl) ?_
 (try simp only [td])
 refine pl_skip (by rfl) ?_
 (try simp only [td])
 refine pl_skip (by rfl) ?_
 (try simp only [td])
 refine pl_skip (by rfl) ?_
 (try simp only [td])
 refine pl_skip (by rfl) ?_
 (try simp only [td])
 refine pl_skip (by rfl) ?_
 (try simp only [td])
 refine pl_skip (by rfl) ?_
 (try simp only [td])
 refine pl_skip (by rfl) ?_
 (try simp only [td])
 refine pl_skip (by rfl) ?_
 (try simp only [td])
 refine pl_skip (by rfl) ?_
 (try simp only [td])
 refine pl_skip (by rfl) ?_
 (try simp only [td])
 refine pl_skip (by rfl) ?_
 (try simp only [td])
 refine pl_skip (by rfl) ?_
 (try simp only [td])
 refine pl_skip (by rfl) ?_
 (try simp only [td])
 refine pl_val (v := ?_) (by rfl) ?hy4_37 ?_
 case hy4_37 => (go_simp; all_goals with_reducible rfl)
 (try simp only [td])
 refine pl_val (v := ?_) (by rfl) ?hy4_38 ?_
 case hy4_38 => (go_simp; all_goals with_reducible rfl)
 (try simp only [td])
 refine pl_skip (by rfl) ?_
 (try simp only [td])
 refine pl_skip (by rfl) ?_
 (try simp only [td])
 refine pl_val (v := ?_) (by rfl) ?hy4_41 ?_
 case hy4_41 => (go_simp; all_goals with_reducible rfl)
 (try simp only [td])
 refine pl_end ?_
 go_upto_region 6 with (fail)
 refine cP ?_
 refine calm_k (b := w.heap.size + 1 + 1) (o := 0) (st := 1) (ado := .tmp 6) (x := (.tmp 80)) (u := st0V) (by kernel_rfl) B2 (by rfl) size_st (by first | exact st_one _ | exact st0_one) (by first | exact Nat.le_refl _ | (simp; done) | decide) ?_
 refine cW ?_ ?_ ?_
 refine cB ?_
 refine cW ?_ ?_ ?_
 refine calm_end ?_
 refine ⟨(by rfl), (by rfl), fun w5 hS D0 => ?_⟩
 have B0 := B0.y hS
 have B1 := B1.y hS
 have B4 := B4.y hS
 have B2 : Blk w5 (w.heap.size + 1 + 1) (st0L) 64 := blk_whole D0 rfl
 have hz5 : w4.heap.size ≤ w5.heap.size := hS.size
 have HB := gS HB hS
 clear hS D0
 go_wp2_with fail
 refine bodyPost_ret (res_ct Tryz.results20 rfl (row_load B2 Tryz.underlying64 rfl size_st)) rfl ⟨rfl, HB⟩
end Go.Proofs.YthbplhglfjlngaaGreat
namespace Go.Proofs.YthbplhglfjlngaaGreat
open Go.RowKit Go.Rg Go.Wd
attribute [local go_sem] Oper.semAt_some
set_option maxHeartbeats 2000000 in
theorem cut_tf (a b c d cx cy size : Int) (hg : sgB a b c d = true) (hc : ptB cx cy = true) (hs : szB size = true) (hcut : (bandZ whole a (c - a) (2 * cx * size - size) (2 * cx * size + size)).2 = true ∧ (bandZ (bandZ whole a (c - a) (2 * cx * size - size) (2 * cx * size + size)).1 b (d - b) (2 * cy * size - size) (2 * cy * size + size)).2 = false ∧ True) (w : World) :
  Calls Tryz.prog 20 #[gV a b c d, pV cx cy, .int .i64 size] w fun e w' => e = .returned (.tuple #[st0V, .bool false]) ∧ Below w.heap.size w w' := by
 obtain ⟨W0, hW0⟩ : ∃ W0, [.cells #[.int .i64 a, .int .i64 b, .int .i64 c, .int .i64 d] 25, .cells #[.int .i64 cx, .int .i64 cy] 23, .cells #[.int .u64 0, .int .u64 0, .int .u64 0, .int .u64 0, .int .u64 0, .int .u64 0, .int .u64 0, .int .u64 0, .int .u64 0, .int .u64 0, .int .u64 0, .int .u64 0, .int .u64 0, .int .u64 0, .int .u64 0, .int .u64 0, .bool false, .bool false] 64].foldl World.alloc w = W0 := ⟨_, rfl⟩
 have B0 : Blk W0 (w.heap.size) ([.int .i64 a, .int .i64 b, .int .i64 c, .int .i64 d]) 25 := Blk.allocs _ hW0 0 rfl
 have B1 : Blk W0 (w.heap.size + 1) ([.int .i64 cx, .int .i64 cy]) 23 := Blk.allocs _ hW0 1 rfl
 have B2 : Blk W0 (w.heap.size + 1 + 1) (st0L) 64 := Blk.allocs _ hW0 2 rfl
 have HB := aB hW0
 have hsz : w.heap.size + 3 ≤ W0.heap.size := aZ hW0
 simp only [List.foldl_cons, List.foldl_nil] at hW0
 have hg2 := hg
 have hc2 := hc
 have hs2 := hs
 unfold sgB ptB at hg2
 unfold ptB at hc2
 simp only [Bool.and_eq_true] at hg2 hc2
 rw [szB_iff] at hs2
 have px := prod_bd (c := cx) (inB_iff.1 hc2.1).1 (inB_iff.1 hc2.1).2 hs2.1 hs2.2
 have py := prod_bd (c := cy) (inB_iff.1 hc2.2).1 (inB_iff.1 hc2.2).2 hs2.1 hs2.2
 obtain ⟨x0, Hx0⟩ : ∃ x, Hid (x = 2 * cx * size) := ⟨_, hH rfl⟩
 obtain ⟨y0, Hy0⟩ : ∃ y, Hid (y = 2 * cy * size) := ⟨_, hH rfl⟩
 have BX := hH (bandOk_of (x := 2 * cx * size) hg2.1.1 hg2.2.1 px hs2.1 hs2.2)
 have BY := hH (bandOk_of (x := 2 * cy * size) hg2.1.2 hg2.2.2 py hs2.1 hs2.2)
 have m1 : IntKind.i64.wrap (2 * cx * size) = x0 := by rw [IntWalk.i64_in _ (by omega), Hx0.out]
 have m2 : IntKind.i64.wrap (2 * cy * size) = y0 := by rw [IntWalk.i64_in _ (by omega), Hy0.out]
 have m3 : IntKind.i64.wrap (2 * cx) = 2 * cx := IntWalk.i64_in _ (by have := (inB_iff.1 hc2.1); omega)
 have m4 : IntKind.i64.wrap (2 * cy) = 2 * cy := IntWalk.i64_in _ (by have := (inB_iff.1 hc2.2); omega)
 rw [← Hx0.out] at BX px hcut
 rw [← Hy0.out] at BY py
 try rw [← Hy0.out] at hcut
 have M := hH (And.intro m1 (And.intro m2 (And.intro m3 m4)))
 clear m1 m2 m3 m4
 have Hcut := hH hcut
 have ba := inB_iff.1 hg2.1.1
 have bb := inB_iff.1 hg2.1.2
 have bc := inB_iff.1 hg2.2.1
 have bd := inB_iff.1 hg2.2.2
 obtain ⟨ba1, ba2⟩ := ba
 obtain ⟨bb1, bb2⟩ := bb
 obtain ⟨bc1, bc2⟩ := bc
 obtain ⟨bd1, bd2⟩ := bd
 obtain ⟨px1, px2⟩ := px
 obtain ⟨py1, py2⟩ := py
 obtain ⟨sz1, sz2⟩ := hs2
 have NN : Hid (IntKind.i64.wrap (c - a) = c - a ∧ IntKind.i64.wrap (x0 - size) = x0 - size ∧ IntKind.i64.wrap (x0 + size) = x0 + size ∧ IntKind.i64.wrap (d - b) = d - b ∧ IntKind.i64.wrap (y0 - size) = y0 - size ∧ IntKind.i64.wrap (y0 + size) = y0 + size) := hH ⟨IntWalk.i64_in _ (by omega), IntWalk.i64_in _ (by omega), IntWalk.i64_in _ (by omega), IntWalk.i64_in _ (by omega), IntWalk.i64_in _ (by omega), IntWalk.i64_in _ (by omega)⟩
 have Hg := hH hg
 have Hc := hH hc
 have Hs := hH hs
 clear hg hc hs hg2 hc2 hcut
 obtain ⟨S0, HS0⟩ : ∃ S, Hid (S = whole) := ⟨_, hH rfl⟩
 obtain ⟨S1, HS1⟩ : ∃ S, Hid (S = (bandZ whole a (c - a) (x0 - size) (x0 + size)).1) := ⟨_, hH rfl⟩
 obtain ⟨S2, HS2⟩ : ∃ S, Hid (S = (bandZ S1 b (d - b) (y0 - size) (y0 + size)).1) := ⟨_, hH rfl⟩
 have OK0 : Hid (whole.Ok) := hH whole_ok
 have OK1 : Hid (S1.Ok) := hH (by rw [HS1.out]; exact bandZ_ok whole_ok BX.out)
 have OK2 : Hid (S2.Ok) := hH (by rw [HS2.out]; exact bandZ_ok OK1.out BY.out)
 have HB1 : Hid (∀ (D : Nat) (w : World), Blk w D (stL whole) 64 → Calls Tryz.prog 48 #[.pointer (some ⟨D, 0, none⟩), .int .i64 a, .int .i64 (c - a), .int .i64 (x0 - size), .int .i64 (x0 + size)] w fun e w' => e = .returned (.bool true) ∧ Blk w' D (stL S1) 64 ∧ Upd D w w') := hH (fun D w hD => by
  have := band_any D whole a (c - a) (x0 - size) (x0 + size) w hD OK0.out BX.out
  rw [Hcut.out.1, ← HS1.out] at this; exact this)
 have HB2 : Hid (∀ (D : Nat) (w : World), Blk w D (stL S1) 64 → Calls Tryz.prog 48 #[.pointer (some ⟨D, 0, none⟩), .int .i64 b, .int .i64 (d - b), .int .i64 (y0 - size), .int .i64 (y0 + size)] w fun e w' => e = .returned (.bool false) ∧ Blk w' D (stL S2) 64 ∧ Upd D w w') := hH (fun D w hD => by
  have := band_any D S1 b (d - b) (y0 - size) (y0 + size) w hD OK1.out BY.out
  have e := Hcut.out.2.1
  rw [← HS1.out] at e
  rw [e, ← HS2.out] at this; exact this)
 go_enter Tryz.func20, Tryz.ntmps20
 go_upto_region 1 with (fail)
 clear hW0
 refine cP ?_
 refine cN ?_
 refine cW ?_ ?_ ?_
 refine cC ?_ ?_ ?_ ?_ ?hc6_1 ?_
 case hc6_1 => (intro w hSw; exact psize_any size true Hs.out w)
 refine cW ?_ ?_ ?_
 refine cW ?_ ?_ ?_
 refine cX ?_ ?_ (by intro wz hSw; obtain ⟨q0, q1, q2, q3⟩ := c4 (B0.y hSw.1); go_simp; all_goals with_reducible rfl) ?_
 refine cC ?_ ?_ ?_ ?_ ?hc6_5 ?_
 case hc6_5 => (intro w hSw; exact sgRight_any a b c d true Hg.out w)
 refine cW ?_ ?_ ?_
 refine cW ?_ ?_ ?_
 refine cW ?_ ?_ ?_
 refine cX ?_ ?_ (by intro wz hSw; obtain ⟨q0, q1⟩ := c2 (B1.y hSw.1); go_simp; all_goals with_reducible rfl) ?_
 refine cC ?_ ?_ ?_ ?_ ?hc6_10 ?_
 case hc6_10 => (intro w hSw; exact ptRight_any cx cy true Hc.out w)
 refine cW ?_ ?_ ?_
 refine cW ?_ ?_ ?_
 refine calm_end ?_
 intro w1 hS
 have hS := sO hS
 have B0 := B0.y hS
 have B1 := B1.y hS
 have B2 := B2.y hS
 have hz1 : W0.heap.size ≤ w1.heap.size := hS.size
 have HB := gS HB hS
 clear hS
 go_upto_region 3 with (fail)
 refine cP ?_
 refine calm_a (k := 3) (d := 8) (st := 4) (x := (.tmp 27)) (u := stV whole) (T := 64) (by kernel_rfl) (by rfl) (by rfl) info_st rfl rfl (by first | exact st_one _ | exact st0_one) ?_
 refine cC ?_ ?_ ?_ ?_ ?hc7_0 ?_
 case hc7_0 => (intro w hSw; exact ratOf_any 0 (by omega) (by omega) w)
 refine cC ?_ ?_ ?_ ?_ ?hc7_1 ?_
 case hc7_1 => (intro w hSw; exact ratOf_any 1 (by omega) (by omega) w)
 refine cW ?_ ?_ ?_
 refine cB ?_
 refine cB ?_
 refine calm_end ?_
 refine ⟨(by rfl), fun b4 w2 hb4 hS D0 => ?_⟩
 have hl4_0 : w.heap.size < b4 := lL B0.lt hb4
 have hl4_1 : w.heap.size + 1 < b4 := lL B1.lt hb4
 have hl4_2 : w.heap.size + 1 + 1 < b4 := lL B2.lt hb4
 have hS := sO hS
 have B0 := B0.y hS
 have B1 := B1.y hS
 have B2 := B2.y hS
 have B4 : Blk w2 b4 (stL whole) 64 := D0
 have hz2 : w1.heap.size ≤ w2.heap.size := hS.size
 have HB := gS HB hS
 clear hS D0
 go_upto_region 4 with (fail)
 refine cG ?_
 refine cN ?_
 refine cW ?_ ?_ ?_
 refine cX ?_ ?_ (by intro wz hSw; obtain ⟨q0, q1⟩ := c2 (B1.y hSw.1); go_simp; all_goals with_reducible rfl) ?_
 refine cX ?_ ?_ (by intro wz hSw; have m3 := M.out.2.2.1; go_simp; all_goals with_reducible rfl) ?_
 refine cW ?_ ?_ ?_
 refine cX ?_ ?_ (by intro wz hSw; have m1 := M.out.1; go_simp; all_goals with_reducible rfl) ?_
 refine cW ?_ ?_ ?_
 refine cX ?_ ?_ (by intro wz hSw; obtain ⟨q0, q1⟩ := c2 (B1.y hSw.1); go_simp; all_goals with_reducible rfl) ?_
 refine cX ?_ ?_ (by intro wz hSw; have m4 := M.out.2.2.2; go_simp; all_goals with_reducible rfl) ?_
 refine cW ?_ ?_ ?_
 refine cX ?_ ?_ (by intro wz hSw; have m2 := M.out.2.1; go_simp; all_goals with_reducible rfl) ?_
 refine cW ?_ ?_ ?_
 refine cW ?_ ?_ ?_
 refine calm_end ?_
 intro w3 hS
 have hS := sO hS
 have B0 := B0.y hS
 have B1 := B1.y hS
 have B2 := B2.y hS
 have B4 := B4.y hS
 have hz3 : w2.heap.size ≤ w3.heap.size := hS.size
 have HB := gS HB hS
 clear hS
 clear M
 go_upto_region 5 with (fail)
 refine pl_start ?_
 refine pl_val (v := ?_) (by rfl) ?hy9_0 ?_
 case hy9_0 => (go_simp; all_goals with_reducible rfl)
 (try simp only [td])
 refine pl_val (v := ?_) (by rfl) ?hy9_1 ?_
 case hy9_1 => (go_simp; all_goals with_reducible rfl)
 (try simp only [td])
 refine pl_val (v := ?_) (by rfl) ?hy9_2 ?_
 case hy9_2 => (obtain ⟨q0, q1, q2, q3⟩ := c4 (B0); go_simp; all_goals with_reducible rfl)
 (try simp only [td])
 refine pl_val (v := ?_) (by rfl) ?hy9_3 ?_
 case hy9_3 => (go_simp; all_goals with_reducible rfl)
 (try simp only [td])
 refine pl_val (v := ?_) (by rfl) ?hy9_4 ?_
 case hy9_4 => (go_simp; all_goals with_reducible rfl)
 (try simp only [td])
 refine pl_val (v := ?_) (by rfl) ?hy9_5 ?_
 case hy9_5 => (obtain ⟨q0, q1, q2, q3⟩ := c4 (B0); go_simp; all_goals with_reducible rfl)
 (try simp only [td])
 refine pl_val (v := ?_) (by rfl) ?hy9_6 ?_
 case hy9_6 => (go_simp; all_goals with_reducible rfl)
 (try simp only [td])
 refine pl_val (v := ?_) (by rfl) ?hy9_7 ?_
 case hy9_7 => (go_simp; all_goals with_reducible rfl)
 (try simp only [td])
 refine pl_val (v := ?_) (by rfl) ?hy9_8 ?_
 case hy9_8 => (obtain ⟨q0, q1, q2, q3⟩ := c4 (B0); go_simp; all_goals with_reducible rfl)
 (try simp only [td])
 refine pl_val (v := ?_) (by rfl) ?hy9_9 ?_
 case hy9_9 => (have nn := NN.out.1; go_simp; all_goals with_reducible rfl)
 (try simp only [td])
 refine pl_val (v := ?_) (by rfl) ?hy9_10 ?_
 case hy9_10 => (go_simp; all_goals with_reducible rfl)
 (try simp only [td])
 refine pl_val (v := ?_) (by rfl) ?hy9_11 ?_
 case hy9_11 => (go_simp; all_goals with_reducible rfl)
 (try simp only [td])
 refine pl_val (v := ?_) (by rfl) ?hy9_12 ?_
 case hy9_12 => (have nn := NN.out.2.1; go_simp; all_goals with_reducible rfl)
 (try simp only [td])
 refine pl_val (v := ?_) (by rfl) ?hy9_13 ?_
 case hy9_13 => (go_simp; all_goals with_reducible rfl)
 (try simp only [td])
 refine pl_val (v := ?_) (by rfl) ?hy9_14 ?_
 case hy9_14 => (go_simp; all_goals with_reducible rfl)
 (try simp only [td])
 refine pl_val (v := ?_) (by rfl) ?hy9_15 ?_
 case hy9_15 => (have nn := NN.out.2.2.1; go_simp; all_goals with_reducible rfl)
 (try simp only [td])
 refine pl_call (f := ?_) (args := ?_) (v := ?_) (R := ?_) (by rfl) ?hy9_16 ?hc9_16 ?_
 case hy9_16 => (go_simp; all_goals (first | with_reducible rfl | (constructor <;> with_reducible rfl)))
 case hc9_16 => (exact HB1.out _ _ B4)
 rintro w4 ⟨hD, hu⟩
 have B0 := B0.upd hu (by omega)
 have B1 := B1.upd hu (by omega)
 have B2 := B2.upd hu (by omega)
 have hz4 : w3.heap.size ≤ w4.heap.size := hu.size
 have B4 : Blk w4 b4 (stL S1) 64 := hD
 have HB := HB.trans (hu.below (B := w.heap.size) (by omega) HB.size)
 clear hu hD
 (try simp only [td])
 refine pl_val (v := ?_) (by rfl) ?hy9_17 ?_
 case hy9_17 => (go_simp; all_goals with_reducible rfl)
 (try simp only [td])
 refine pl_val (v := ?_) (by rfl) ?hy9_18 ?_
 case hy9_18 => (go_simp; all_goals with_reducible rfl)
 (try simp only [td])
 refine pl_val (v := ?_) (by rfl) ?hy9_19 ?_
 case hy9_19 => (go_simp; all_goals with_reducible rfl)
 (try simp only [td])
 refine pl_val (v := ?_) (by rfl) ?hy9_20 ?_
 case hy9_20 => (go_simp; all_goals with_reducible rfl)
 (try simp only [td])
 refine pl_val (v := ?_) (by rfl) ?hy9_21 ?_
 case hy9_21 => (obtain ⟨q0, q1, q2, q3⟩ := c4 (B0); go_simp; all_goals with_reducible rfl)
 (try simp only [td])
 refine pl_val (v := ?_) (by rfl) ?hy9_22 ?_
 case hy9_22 => (go_simp; all_goals with_reducible rfl)
 (try simp only [td])
 refine pl_val (v := ?_) (by rfl) ?hy9_23 ?_
 case hy9_23 => (go_simp; all_goals with_reducible rfl)
 (try simp only [td])
 refine pl_val (v := ?_) (by rfl) ?hy9_24 ?_
 case hy9_24 => (obtain ⟨q0, q1, q2, q3⟩ := c4 (B0); go_simp; all_goals with_reducible rfl)
 (try simp only [td])
 refine pl_val (v := ?_) (by rfl) ?hy9_25 ?_
 case hy9_25 => (go_simp; all_goals with_reducible rfl)
 (try simp only [td])
 refine pl_val (v := ?_) (by rfl) ?hy9_26 ?_
 case hy9_26 => (go_simp; all_goals with_reducible rfl)
 (try simp only [td])
 refine pl_val (v := ?_) (by rfl) ?hy9_27 ?_
 case hy9_27 => (obtain ⟨q0, q1, q2, q3⟩ := c4 (B0); go_simp; all_goals with_reducible rfl)
 (try simp only [td])
 refine pl_val (v := ?_) (by rfl) ?hy9_28 ?_
 case hy9_28 => (have nn := NN.out.2.2.2.1; go_simp; all_goals with_reducible rfl)
 (try simp only [td])
 refine pl_val (v := ?_) (by rfl) ?hy9_29 ?_
 case hy9_29 => (go_simp; all_goals with_reducible rfl)
 (try simp only [td])
 refine pl_val (v := ?_) (by rfl) ?hy9_30 ?_
 case hy9_30 => (go_simp; all_goals with_reducible rfl)
 (try simp only [td])
 refine pl_val (v := ?_) (by rfl) ?hy9_31 ?_
 case hy9_31 => (have nn := NN.out.2.2.2.2.1; go_simp; all_goals with_reducible rfl)
 (try simp only [td])
 refine pl_val (v := ?_) (by rfl) ?hy9_32 ?_
 case hy9_32 => (go_simp; all_goals with_reducible rfl)
 (try simp only [td])
 refine pl_val (v := ?_) (by rfl) ?hy9_33 ?_
 case hy9_33 => (go_simp; all_goals with_reducible rfl)
 (try simp only [td])
 refine pl_val (v := ?_) (by rfl) ?hy9_34 ?_
 case hy9_34 => (have nn := NN.out.2.2.2.2.2; go_simp; all_goals with_reducible rfl)
 (try simp only [td])
 refine pl_call (f := ?_) (args := ?_) (v := ?_) (R := ?_) (by rfl) ?hy9_35 ?hc9_35 ?_
 case hy9_35 => (go_simp; all_goals (first | with_reducible rfl | (constructor <;> with_reducible rfl)))
 case hc9_35 => (exact HB2.out _ _ B4)
 rintro w5 ⟨hD, hu⟩
 have B0 := B0.upd hu (by omega)
 have B1 := B1.upd hu (by omega)
 have B2 := B2.upd hu (by omega)
 have hz5 : w4.heap.size ≤ w5.heap.size := hu.size
 have B4 : Blk w5 b4 (stL S2) 64 := hD
 have HB := HB.trans (hu.below (B := w.heap.size) (by omega) HB.size)
 clear hu hD
 (try simp only [td])
 refine pl_val (v := ?_) (by rfl) ?hy9_36 ?_
 case hy9_36 => (go_simp; all_goals with_reducible rfl)
 (try simp only [td])
 refine pl_val (v := ?_) (by rfl) ?hy9_37 ?_
 case hy9_37 => (go_simp; all_goals with_reducible rfl)
 (try simp only [td])
 refine pl_val (v := ?_) (by rfl) ?hy9_38 ?_
 case hy9_38 => (go_simp; all_goals with_reducible rfl)
 (try simp only [td])
 refine pl_skip (by rfl) ?_
 (try simp only [td])
 refine pl_skip (by rfl) ?_
 (try simp only [td])
 refine pl_val (v := ?_) (by rfl) ?hy9_41 ?_
 case hy9_41 => (go_simp; all_goals with_reducible rfl)
 (try simp only [td])
 refine pl_end ?_
 go_upto_region 6 with (fail)
 refine cP ?_
 refine calm_k (b := w.heap.size + 1 + 1) (o := 0) (st := 1) (ado := .tmp 6) (x := (.tmp 80)) (u := st0V) (by kernel_rfl) B2 (by rfl) size_st (by first | exact st_one _ | exact st0_one) (by first | exact Nat.le_refl _ | (simp; done) | decide) ?_
 refine cW ?_ ?_ ?_
 refine cB ?_
 refine cW ?_ ?_ ?_
 refine calm_end ?_
 refine ⟨(by rfl), (by rfl), fun w6 hS D0 => ?_⟩
 have B0 := B0.y hS
 have B1 := B1.y hS
 have B4 := B4.y hS
 have B2 : Blk w6 (w.heap.size + 1 + 1) (st0L) 64 := blk_whole D0 rfl
 have hz6 : w5.heap.size ≤ w6.heap.size := hS.size
 have HB := gS HB hS
 clear hS D0
 go_wp2_with fail
 refine bodyPost_ret (res_ct Tryz.results20 rfl (row_load B2 Tryz.underlying64 rfl size_st)) rfl ⟨rfl, HB⟩
end Go.Proofs.YthbplhglfjlngaaGreat
namespace Go.Proofs.YthbplhglfjlngaaGreat
open Go.RowKit Go.Rg Go.Wd
attribute [local go_sem] Oper.semAt_some
set_option maxHeartbeats 2000000 in
theorem cut_ttf (a b c d cx cy size : Int) (hg : sgB a b c d = true) (hc : ptB cx cy = true) (hs : szB size = true) (hcut : (bandZ whole a (c - a) (2 * cx * size - size) (2 * cx * size + size)).2 = true ∧ (bandZ (bandZ whole a (c - a) (2 * cx * size - size) (2 * cx * size + size)).1 b (d - b) (2 * cy * size - size) (2 * cy * size + size)).2 = true ∧ someZ (bandZ (bandZ whole a (c - a) (2 * cx * size - size) (2 * cx * size + size)).1 b (d - b) (2 * cy * size - size) (2 * cy * size + size)).1 = false ∧ True) (w : World) :
  Calls Tryz.prog 20 #[gV a b c d, pV cx cy, .int .i64 size] w fun e w' => e = .returned (.tuple #[st0V, .bool false]) ∧ Below w.heap.size w w' := by
 obtain ⟨W0, hW0⟩ : ∃ W0, [.cells #[.int .i64 a, .int .i64 b, .int .i64 c, .int .i64 d] 25, .cells #[.int .i64 cx, .int .i64 cy] 23, .cells #[.int .u64 0, .int .u64 0, .int .u64 0, .int .u64 0, .int .u64 0, .int .u64 0, .int .u64 0, .int .u64 0, .int .u64 0, .int .u64 0, .int .u64 0, .int .u64 0, .int .u64 0, .int .u64 0, .int .u64 0, .int .u64 0, .bool false, .bool false] 64].foldl World.alloc w = W0 := ⟨_, rfl⟩
 have B0 : Blk W0 (w.heap.size) ([.int .i64 a, .int .i64 b, .int .i64 c, .int .i64 d]) 25 := Blk.allocs _ hW0 0 rfl
 have B1 : Blk W0 (w.heap.size + 1) ([.int .i64 cx, .int .i64 cy]) 23 := Blk.allocs _ hW0 1 rfl
 have B2 : Blk W0 (w.heap.size + 1 + 1) (st0L) 64 := Blk.allocs _ hW0 2 rfl
 have HB := aB hW0
 have hsz : w.heap.size + 3 ≤ W0.heap.size := aZ hW0
 simp only [List.foldl_cons, List.foldl_nil] at hW0
 have hg2 := hg
 have hc2 := hc
 have hs2 := hs
 unfold sgB ptB at hg2
 unfold ptB at hc2
 simp only [Bool.and_eq_true] at hg2 hc2
 rw [szB_iff] at hs2
 have px := prod_bd (c := cx) (inB_iff.1 hc2.1).1 (inB_iff.1 hc2.1).2 hs2.1 hs2.2
 have py := prod_bd (c := cy) (inB_iff.1 hc2.2).1 (inB_iff.1 hc2.2).2 hs2.1 hs2.2
 obtain ⟨x0, Hx0⟩ : ∃ x, Hid (x = 2 * cx * size) := ⟨_, hH rfl⟩
 obtain ⟨y0, Hy0⟩ : ∃ y, Hid (y = 2 * cy * size) := ⟨_, hH rfl⟩
 have BX := hH (bandOk_of (x := 2 * cx * size) hg2.1.1 hg2.2.1 px hs2.1 hs2.2)
 have BY := hH (bandOk_of (x := 2 * cy * size) hg2.1.2 hg2.2.2 py hs2.1 hs2.2)
 have m1 : IntKind.i64.wrap (2 * cx * size) = x0 := by rw [IntWalk.i64_in _ (by omega), Hx0.out]
 have m2 : IntKind.i64.wrap (2 * cy * size) = y0 := by rw [IntWalk.i64_in _ (by omega), Hy0.out]
 have m3 : IntKind.i64.wrap (2 * cx) = 2 * cx := IntWalk.i64_in _ (by have := (inB_iff.1 hc2.1); omega)
 have m4 : IntKind.i64.wrap (2 * cy) = 2 * cy := IntWalk.i64_in _ (by have := (inB_iff.1 hc2.2); omega)
 rw [← Hx0.out] at BX px hcut
 rw [← Hy0.out] at BY py
 try rw [← Hy0.out] at hcut
 have M := hH (And.intro m1 (And.intro m2 (And.intro m3 m4)))
 clear m1 m2 m3 m4
 have Hcut := hH hcut
 have ba := inB_iff.1 hg2.1.1
 have bb := inB_iff.1 hg2.1.2
 have bc := inB_iff.1 hg2.2.1
 have bd := inB_iff.1 hg2.2.2
 obtain ⟨ba1, ba2⟩ := ba
 obtain ⟨bb1, bb2⟩ := bb
 obtain ⟨bc1, bc2⟩ := bc
 obtain ⟨bd1, bd2⟩ := bd
 obtain ⟨px1, px2⟩ := px
 obtain ⟨py1, py2⟩ := py
 obtain ⟨sz1, sz2⟩ := hs2
 have NN : Hid (IntKind.i64.wrap (c - a) = c - a ∧ IntKind.i64.wrap (x0 - size) = x0 - size ∧ IntKind.i64.wrap (x0 + size) = x0 + size ∧ IntKind.i64.wrap (d - b) = d - b ∧ IntKind.i64.wrap (y0 - size) = y0 - size ∧ IntKind.i64.wrap (y0 + size) = y0 + size) := hH ⟨IntWalk.i64_in _ (by omega), IntWalk.i64_in _ (by omega), IntWalk.i64_in _ (by omega), IntWalk.i64_in _ (by omega), IntWalk.i64_in _ (by omega), IntWalk.i64_in _ (by omega)⟩
 have Hg := hH hg
 have Hc := hH hc
 have Hs := hH hs
 clear hg hc hs hg2 hc2 hcut
 obtain ⟨S0, HS0⟩ : ∃ S, Hid (S = whole) := ⟨_, hH rfl⟩
 obtain ⟨S1, HS1⟩ : ∃ S, Hid (S = (bandZ whole a (c - a) (x0 - size) (x0 + size)).1) := ⟨_, hH rfl⟩
 obtain ⟨S2, HS2⟩ : ∃ S, Hid (S = (bandZ S1 b (d - b) (y0 - size) (y0 + size)).1) := ⟨_, hH rfl⟩
 have OK0 : Hid (whole.Ok) := hH whole_ok
 have OK1 : Hid (S1.Ok) := hH (by rw [HS1.out]; exact bandZ_ok whole_ok BX.out)
 have OK2 : Hid (S2.Ok) := hH (by rw [HS2.out]; exact bandZ_ok OK1.out BY.out)
 have HB1 : Hid (∀ (D : Nat) (w : World), Blk w D (stL whole) 64 → Calls Tryz.prog 48 #[.pointer (some ⟨D, 0, none⟩), .int .i64 a, .int .i64 (c - a), .int .i64 (x0 - size), .int .i64 (x0 + size)] w fun e w' => e = .returned (.bool true) ∧ Blk w' D (stL S1) 64 ∧ Upd D w w') := hH (fun D w hD => by
  have := band_any D whole a (c - a) (x0 - size) (x0 + size) w hD OK0.out BX.out
  rw [Hcut.out.1, ← HS1.out] at this; exact this)
 have HB2 : Hid (∀ (D : Nat) (w : World), Blk w D (stL S1) 64 → Calls Tryz.prog 48 #[.pointer (some ⟨D, 0, none⟩), .int .i64 b, .int .i64 (d - b), .int .i64 (y0 - size), .int .i64 (y0 + size)] w fun e w' => e = .returned (.bool true) ∧ Blk w' D (stL S2) 64 ∧ Upd D w w') := hH (fun D w hD => by
  have := band_any D S1 b (d - b) (y0 - size) (y0 + size) w hD OK1.out BY.out
  have e := Hcut.out.2.1
  rw [← HS1.out] at e
  rw [e, ← HS2.out] at this; exact this)
 have HB3 : Hid (∀ (D : Nat) (w : World), Blk w D (stL S2) 64 → Calls Tryz.prog 49 #[.pointer (some ⟨D, 0, none⟩)] w fun e w' => e = .returned (.bool false) ∧ Below w.heap.size w w') := hH (fun D w hD => by
  have := some_any D S2 w hD OK2.out
  have e := Hcut.out.2.2.1
  rw [← HS1.out, ← HS2.out] at e
  rw [e] at this; exact this)
 go_enter Tryz.func20, Tryz.ntmps20
 go_upto_region 1 with (fail)
 clear hW0
 refine cP ?_
 refine cN ?_
 refine cW ?_ ?_ ?_
 refine cC ?_ ?_ ?_ ?_ ?hc11_1 ?_
 case hc11_1 => (intro w hSw; exact psize_any size true Hs.out w)
 refine cW ?_ ?_ ?_
 refine cW ?_ ?_ ?_
 refine cX ?_ ?_ (by intro wz hSw; obtain ⟨q0, q1, q2, q3⟩ := c4 (B0.y hSw.1); go_simp; all_goals with_reducible rfl) ?_
 refine cC ?_ ?_ ?_ ?_ ?hc11_5 ?_
 case hc11_5 => (intro w hSw; exact sgRight_any a b c d true Hg.out w)
 refine cW ?_ ?_ ?_
 refine cW ?_ ?_ ?_
 refine cW ?_ ?_ ?_
 refine cX ?_ ?_ (by intro wz hSw; obtain ⟨q0, q1⟩ := c2 (B1.y hSw.1); go_simp; all_goals with_reducible rfl) ?_
 refine cC ?_ ?_ ?_ ?_ ?hc11_10 ?_
 case hc11_10 => (intro w hSw; exact ptRight_any cx cy true Hc.out w)
 refine cW ?_ ?_ ?_
 refine cW ?_ ?_ ?_
 refine calm_end ?_
 intro w1 hS
 have hS := sO hS
 have B0 := B0.y hS
 have B1 := B1.y hS
 have B2 := B2.y hS
 have hz1 : W0.heap.size ≤ w1.heap.size := hS.size
 have HB := gS HB hS
 clear hS
 go_upto_region 3 with (fail)
 refine cP ?_
 refine calm_a (k := 3) (d := 8) (st := 4) (x := (.tmp 27)) (u := stV whole) (T := 64) (by kernel_rfl) (by rfl) (by rfl) info_st rfl rfl (by first | exact st_one _ | exact st0_one) ?_
 refine cC ?_ ?_ ?_ ?_ ?hc12_0 ?_
 case hc12_0 => (intro w hSw; exact ratOf_any 0 (by omega) (by omega) w)
 refine cC ?_ ?_ ?_ ?_ ?hc12_1 ?_
 case hc12_1 => (intro w hSw; exact ratOf_any 1 (by omega) (by omega) w)
 refine cW ?_ ?_ ?_
 refine cB ?_
 refine cB ?_
 refine calm_end ?_
 refine ⟨(by rfl), fun b4 w2 hb4 hS D0 => ?_⟩
 have hl4_0 : w.heap.size < b4 := lL B0.lt hb4
 have hl4_1 : w.heap.size + 1 < b4 := lL B1.lt hb4
 have hl4_2 : w.heap.size + 1 + 1 < b4 := lL B2.lt hb4
 have hS := sO hS
 have B0 := B0.y hS
 have B1 := B1.y hS
 have B2 := B2.y hS
 have B4 : Blk w2 b4 (stL whole) 64 := D0
 have hz2 : w1.heap.size ≤ w2.heap.size := hS.size
 have HB := gS HB hS
 clear hS D0
 go_upto_region 4 with (fail)
 refine cG ?_
 refine cN ?_
 refine cW ?_ ?_ ?_
 refine cX ?_ ?_ (by intro wz hSw; obtain ⟨q0, q1⟩ := c2 (B1.y hSw.1); go_simp; all_goals with_reducible rfl) ?_
 refine cX ?_ ?_ (by intro wz hSw; have m3 := M.out.2.2.1; go_simp; all_goals with_reducible rfl) ?_
 refine cW ?_ ?_ ?_
 refine cX ?_ ?_ (by intro wz hSw; have m1 := M.out.1; go_simp; all_goals with_reducible rfl) ?_
 refine cW ?_ ?_ ?_
 refine cX ?_ ?_ (by intro wz hSw; obtain ⟨q0, q1⟩ := c2 (B1.y hSw.1); go_simp; all_goals with_reducible rfl) ?_
 refine cX ?_ ?_ (by intro wz hSw; have m4 := M.out.2.2.2; go_simp; all_goals with_reducible rfl) ?_
 refine cW ?_ ?_ ?_
 refine cX ?_ ?_ (by intro wz hSw; have m2 := M.out.2.1; go_simp; all_goals with_reducible rfl) ?_
 refine cW ?_ ?_ ?_
 refine cW ?_ ?_ ?_
 refine calm_end ?_
 intro w3 hS
 have hS := sO hS
 have B0 := B0.y hS
 have B1 := B1.y hS
 have B2 := B2.y hS
 have B4 := B4.y hS
 have hz3 : w2.heap.size ≤ w3.heap.size := hS.size
 have HB := gS HB hS
 clear hS
 clear M
 go_upto_region 5 with (fail)
 refine pl_start ?_
 refine pl_val (v := ?_) (by rfl) ?hy14_0 ?_
 case hy14_0 => (go_simp; all_goals with_reducible rfl)
 (try simp only [td])
 refine pl_val (v := ?_) (by rfl) ?hy14_1 ?_
 case hy14_1 => (go_simp; all_goals with_reducible rfl)
 (try simp only [td])
 refine pl_val (v := ?_) (by rfl) ?hy14_2 ?_
 case hy14_2 => (obtain ⟨q0, q1, q2, q3⟩ := c4 (B0); go_simp; all_goals with_reducible rfl)
 (try simp only [td])
 refine pl_val (v := ?_) (by rfl) ?hy14_3 ?_
 case hy14_3 => (go_simp; all_goals with_reducible rfl)
 (try simp only [td])
 refine pl_val (v := ?_) (by rfl) ?hy14_4 ?_
 case hy14_4 => (go_simp; all_goals with_reducible rfl)
 (try simp only [td])
 refine pl_val (v := ?_) (by rfl) ?hy14_5 ?_
 case hy14_5 => (obtain ⟨q0, q1, q2, q3⟩ := c4 (B0); go_simp; all_goals with_reducible rfl)
 (try simp only [td])
 refine pl_val (v := ?_) (by rfl) ?hy14_6 ?_
 case hy14_6 => (go_simp; all_goals with_reducible rfl)
 (try simp only [td])
 refine pl_val (v := ?_) (by rfl) ?hy14_7 ?_
 case hy14_7 => (go_simp; all_goals with_reducible rfl)
 (try simp only [td])
 refine pl_val (v := ?_) (by rfl) ?hy14_8 ?_
 case hy14_8 => (obtain ⟨q0, q1, q2, q3⟩ := c4 (B0); go_simp; all_goals with_reducible rfl)
 (try simp only [td])
 refine pl_val (v := ?_) (by rfl) ?hy14_9 ?_
 case hy14_9 => (have nn := NN.out.1; go_simp; all_goals with_reducible rfl)
 (try simp only [td])
 refine pl_val (v := ?_) (by rfl) ?hy14_10 ?_
 case hy14_10 => (go_simp; all_goals with_reducible rfl)
 (try simp only [td])
 refine pl_val (v := ?_) (by rfl) ?hy14_11 ?_
 case hy14_11 => (go_simp; all_goals with_reducible rfl)
 (try simp only [td])
 refine pl_val (v := ?_) (by rfl) ?hy14_12 ?_
 case hy14_12 => (have nn := NN.out.2.1; go_simp; all_goals with_reducible rfl)
 (try simp only [td])
 refine pl_val (v := ?_) (by rfl) ?hy14_13 ?_
 case hy14_13 => (go_simp; all_goals with_reducible rfl)
 (try simp only [td])
 refine pl_val (v := ?_) (by rfl) ?hy14_14 ?_
 case hy14_14 => (go_simp; all_goals with_reducible rfl)
 (try simp only [td])
 refine pl_val (v := ?_) (by rfl) ?hy14_15 ?_
 case hy14_15 => (have nn := NN.out.2.2.1; go_simp; all_goals with_reducible rfl)
 (try simp only [td])
 refine pl_call (f := ?_) (args := ?_) (v := ?_) (R := ?_) (by rfl) ?hy14_16 ?hc14_16 ?_
 case hy14_16 => (go_simp; all_goals (first | with_reducible rfl | (constructor <;> with_reducible rfl)))
 case hc14_16 => (exact HB1.out _ _ B4)
 rintro w4 ⟨hD, hu⟩
 have B0 := B0.upd hu (by omega)
 have B1 := B1.upd hu (by omega)
 have B2 := B2.upd hu (by omega)
 have hz4 : w3.heap.size ≤ w4.heap.size := hu.size
 have B4 : Blk w4 b4 (stL S1) 64 := hD
 have HB := HB.trans (hu.below (B := w.heap.size) (by omega) HB.size)
 clear hu hD
 (try simp only [td])
 refine pl_val (v := ?_) (by rfl) ?hy14_17 ?_
 case hy14_17 => (go_simp; all_goals with_reducible rfl)
 (try simp only [td])
 refine pl_val (v := ?_) (by rfl) ?hy14_18 ?_
 case hy14_18 => (go_simp; all_goals with_reducible rfl)
 (try simp only [td])
 refine pl_val (v := ?_) (by rfl) ?hy14_19 ?_
 case hy14_19 => (go_simp; all_goals with_reducible rfl)
 (try simp only [td])
 refine pl_val (v := ?_) (by rfl) ?hy14_20 ?_
 case hy14_20 => (go_simp; all_goals with_reducible rfl)
 (try simp only [td])
 refine pl_val (v := ?_) (by rfl) ?hy14_21 ?_
 case hy14_21 => (obtain ⟨q0, q1, q2, q3⟩ := c4 (B0); go_simp; all_goals with_reducible rfl)
 (try simp only [td])
 refine pl_val (v := ?_) (by rfl) ?hy14_22 ?_
 case hy14_22 => (go_simp; all_goals with_reducible rfl)
 (try simp only [td])
 refine pl_val (v := ?_) (by rfl) ?hy14_23 ?_
 case hy14_23 => (go_simp; all_goals with_reducible rfl)
 (try simp only [td])
 refine pl_val (v := ?_) (by rfl) ?hy14_24 ?_
 case hy14_24 => (obtain ⟨q0, q1, q2, q3⟩ := c4 (B0); go_simp; all_goals with_reducible rfl)
 (try simp only [td])
 refine pl_val (v := ?_) (by rfl) ?hy14_25 ?_
 case hy14_25 => (go_simp; all_goals with_reducible rfl)
 (try simp only [td])
 refine pl_val (v := ?_) (by rfl) ?hy14_26 ?_
 case hy14_26 => (go_simp; all_goals with_reducible rfl)
 (try simp only [td])
 refine pl_val (v := ?_) (by rfl) ?hy14_27 ?_
 case hy14_27 => (obtain ⟨q0, q1, q2, q3⟩ := c4 (B0); go_simp; all_goals with_reducible rfl)
 (try simp only [td])
 refine pl_val (v := ?_) (by rfl) ?hy14_28 ?_
 case hy14_28 => (have nn := NN.out.2.2.2.1; go_simp; all_goals with_reducible rfl)
 (try simp only [td])
 refine pl_val (v := ?_) (by rfl) ?hy14_29 ?_
 case hy14_29 => (go_simp; all_goals with_reducible rfl)
 (try simp only [td])
 refine pl_val (v := ?_) (by rfl) ?hy14_30 ?_
 case hy14_30 => (go_simp; all_goals with_reducible rfl)
 (try simp only [td])
 refine pl_val (v := ?_) (by rfl) ?hy14_31 ?_
 case hy14_31 => (have nn := NN.out.2.2.2.2.1; go_simp; all_goals with_reducible rfl)
 (try simp only [td])
 refine pl_val (v := ?_) (by rfl) ?hy14_32 ?_
 case hy14_32 => (go_simp; all_goals with_reducible rfl)
 (try simp only [td])
 refine pl_val (v := ?_) (by rfl) ?hy14_33 ?_
 case hy14_33 => (go_simp; all_goals with_reducible rfl)
 (try simp only [td])
 refine pl_val (v := ?_) (by rfl) ?hy14_34 ?_
 case hy14_34 => (have nn := NN.out.2.2.2.2.2; go_simp; all_goals with_reducible rfl)
 (try simp only [td])
 refine pl_call (f := ?_) (args := ?_) (v := ?_) (R := ?_) (by rfl) ?hy14_35 ?hc14_35 ?_
 case hy14_35 => (go_simp; all_goals (first | with_reducible rfl | (constructor <;> with_reducible rfl)))
 case hc14_35 => (exact HB2.out _ _ B4)
 rintro w5 ⟨hD, hu⟩
 have B0 := B0.upd hu (by omega)
 have B1 := B1.upd hu (by omega)
 have B2 := B2.upd hu (by omega)
 have hz5 : w4.heap.size ≤ w5.heap.size := hu.size
 have B4 : Blk w5 b4 (stL S2) 64 := hD
 have HB := HB.trans (hu.below (B := w.heap.size) (by omega) HB.size)
 clear hu hD
 (try simp only [td])
 refine pl_val (v := ?_) (by rfl) ?hy14_36 ?_
 case hy14_36 => (go_simp; all_goals with_reducible rfl)
 (try simp only [td])
 refine pl_val (v := ?_) (by rfl) ?hy14_37 ?_
 case hy14_37 => (go_simp; all_goals with_reducible rfl)
 (try simp only [td])
 refine pl_val (v := ?_) (by rfl) ?hy14_38 ?_
 case hy14_38 => (go_simp; all_goals with_reducible rfl)
 (try simp only [td])
 refine pl_call (f := ?_) (args := ?_) (v := ?_) (R := ?_) (by rfl) ?hy14_39 ?hc14_39 ?_
 case hy14_39 => (go_simp; all_goals (first | with_reducible rfl | (constructor <;> with_reducible rfl)))
 case hc14_39 => (exact HB3.out _ _ B4)
 rintro w6 hb
 have B0 := B0.call hb
 have B1 := B1.call hb
 have B2 := B2.call hb
 have B4 := B4.call hb
 have hz6 : w5.heap.size ≤ w6.heap.size := hb.size
 have HB := HB.trans (hb.mono HB.size)
 clear hb
 (try simp only [td])
 refine pl_val (v := ?_) (by rfl) ?hy14_40 ?_
 case hy14_40 => (go_simp; all_goals with_reducible rfl)
 (try simp only [td])
 refine pl_val (v := ?_) (by rfl) ?hy14_41 ?_
 case hy14_41 => (go_simp; all_goals with_reducible rfl)
 (try simp only [td])
 refine pl_end ?_
 go_upto_region 6 with (fail)
 refine cP ?_
 refine calm_k (b := w.heap.size + 1 + 1) (o := 0) (st := 1) (ado := .tmp 6) (x := (.tmp 80)) (u := st0V) (by kernel_rfl) B2 (by rfl) size_st (by first | exact st_one _ | exact st0_one) (by first | exact Nat.le_refl _ | (simp; done) | decide) ?_
 refine cW ?_ ?_ ?_
 refine cB ?_
 refine cW ?_ ?_ ?_
 refine calm_end ?_
 refine ⟨(by rfl), (by rfl), fun w7 hS D0 => ?_⟩
 have B0 := B0.y hS
 have B1 := B1.y hS
 have B4 := B4.y hS
 have B2 : Blk w7 (w.heap.size + 1 + 1) (st0L) 64 := blk_whole D0 rfl
 have hz7 : w6.heap.size ≤ w7.heap.size := hS.size
 have HB := gS HB hS
 clear hS D0
 go_wp2_with fail
 refine bodyPost_ret (res_ct Tryz.results20 rfl (row_load B2 Tryz.underlying64 rfl size_st)) rfl ⟨rfl, HB⟩
end Go.Proofs.YthbplhglfjlngaaGreat
namespace Go.Proofs.YthbplhglfjlngaaGreat
open Go.RowKit Go.Rg Go.Wd
attribute [local go_sem] Oper.semAt_some
set_option maxHeartbeats 2000000 in
theorem cut_ttt (a b c d cx cy size : Int) (hg : sgB a b c d = true) (hc : ptB cx cy = true) (hs : szB size = true) (hcut : (bandZ whole a (c - a) (2 * cx * size - size) (2 * cx * size + size)).2 = true ∧ (bandZ (bandZ whole a (c - a) (2 * cx * size - size) (2 * cx * size + size)).1 b (d - b) (2 * cy * size - size) (2 * cy * size + size)).2 = true ∧ someZ (bandZ (bandZ whole a (c - a) (2 * cx * size - size) (2 * cx * size + size)).1 b (d - b) (2 * cy * size - size) (2 * cy * size + size)).1 = true ∧ True) (w : World) :
  Calls Tryz.prog 20 #[gV a b c d, pV cx cy, .int .i64 size] w fun e w' => e = .returned (.tuple #[stV (bandZ (bandZ whole a (c - a) (2 * cx * size - size) (2 * cx * size + size)).1 b (d - b) (2 * cy * size - size) (2 * cy * size + size)).1, .bool true]) ∧ Below w.heap.size w w' := by
 obtain ⟨W0, hW0⟩ : ∃ W0, [.cells #[.int .i64 a, .int .i64 b, .int .i64 c, .int .i64 d] 25, .cells #[.int .i64 cx, .int .i64 cy] 23, .cells #[.int .u64 0, .int .u64 0, .int .u64 0, .int .u64 0, .int .u64 0, .int .u64 0, .int .u64 0, .int .u64 0, .int .u64 0, .int .u64 0, .int .u64 0, .int .u64 0, .int .u64 0, .int .u64 0, .int .u64 0, .int .u64 0, .bool false, .bool false] 64].foldl World.alloc w = W0 := ⟨_, rfl⟩
 have B0 : Blk W0 (w.heap.size) ([.int .i64 a, .int .i64 b, .int .i64 c, .int .i64 d]) 25 := Blk.allocs _ hW0 0 rfl
 have B1 : Blk W0 (w.heap.size + 1) ([.int .i64 cx, .int .i64 cy]) 23 := Blk.allocs _ hW0 1 rfl
 have B2 : Blk W0 (w.heap.size + 1 + 1) (st0L) 64 := Blk.allocs _ hW0 2 rfl
 have HB := aB hW0
 have hsz : w.heap.size + 3 ≤ W0.heap.size := aZ hW0
 simp only [List.foldl_cons, List.foldl_nil] at hW0
 have hg2 := hg
 have hc2 := hc
 have hs2 := hs
 unfold sgB ptB at hg2
 unfold ptB at hc2
 simp only [Bool.and_eq_true] at hg2 hc2
 rw [szB_iff] at hs2
 have px := prod_bd (c := cx) (inB_iff.1 hc2.1).1 (inB_iff.1 hc2.1).2 hs2.1 hs2.2
 have py := prod_bd (c := cy) (inB_iff.1 hc2.2).1 (inB_iff.1 hc2.2).2 hs2.1 hs2.2
 obtain ⟨x0, Hx0⟩ : ∃ x, Hid (x = 2 * cx * size) := ⟨_, hH rfl⟩
 obtain ⟨y0, Hy0⟩ : ∃ y, Hid (y = 2 * cy * size) := ⟨_, hH rfl⟩
 have BX := hH (bandOk_of (x := 2 * cx * size) hg2.1.1 hg2.2.1 px hs2.1 hs2.2)
 have BY := hH (bandOk_of (x := 2 * cy * size) hg2.1.2 hg2.2.2 py hs2.1 hs2.2)
 have m1 : IntKind.i64.wrap (2 * cx * size) = x0 := by rw [IntWalk.i64_in _ (by omega), Hx0.out]
 have m2 : IntKind.i64.wrap (2 * cy * size) = y0 := by rw [IntWalk.i64_in _ (by omega), Hy0.out]
 have m3 : IntKind.i64.wrap (2 * cx) = 2 * cx := IntWalk.i64_in _ (by have := (inB_iff.1 hc2.1); omega)
 have m4 : IntKind.i64.wrap (2 * cy) = 2 * cy := IntWalk.i64_in _ (by have := (inB_iff.1 hc2.2); omega)
 rw [← Hx0.out] at BX px hcut
 rw [← Hy0.out] at BY py
 try rw [← Hy0.out] at hcut
 have M := hH (And.intro m1 (And.intro m2 (And.intro m3 m4)))
 clear m1 m2 m3 m4
 have Hcut := hH hcut
 have ba := inB_iff.1 hg2.1.1
 have bb := inB_iff.1 hg2.1.2
 have bc := inB_iff.1 hg2.2.1
 have bd := inB_iff.1 hg2.2.2
 obtain ⟨ba1, ba2⟩ := ba
 obtain ⟨bb1, bb2⟩ := bb
 obtain ⟨bc1, bc2⟩ := bc
 obtain ⟨bd1, bd2⟩ := bd
 obtain ⟨px1, px2⟩ := px
 obtain ⟨py1, py2⟩ := py
 obtain ⟨sz1, sz2⟩ := hs2
 have NN : Hid (IntKind.i64.wrap (c - a) = c - a ∧ IntKind.i64.wrap (x0 - size) = x0 - size ∧ IntKind.i64.wrap (x0 + size) = x0 + size ∧ IntKind.i64.wrap (d - b) = d - b ∧ IntKind.i64.wrap (y0 - size) = y0 - size ∧ IntKind.i64.wrap (y0 + size) = y0 + size) := hH ⟨IntWalk.i64_in _ (by omega), IntWalk.i64_in _ (by omega), IntWalk.i64_in _ (by omega), IntWalk.i64_in _ (by omega), IntWalk.i64_in _ (by omega), IntWalk.i64_in _ (by omega)⟩
 have Hg := hH hg
 have Hc := hH hc
 have Hs := hH hs
 clear hg hc hs hg2 hc2 hcut
 obtain ⟨S0, HS0⟩ : ∃ S, Hid (S = whole) := ⟨_, hH rfl⟩
 obtain ⟨S1, HS1⟩ : ∃ S, Hid (S = (bandZ whole a (c - a) (x0 - size) (x0 + size)).1) := ⟨_, hH rfl⟩
 obtain ⟨S2, HS2⟩ : ∃ S, Hid (S = (bandZ S1 b (d - b) (y0 - size) (y0 + size)).1) := ⟨_, hH rfl⟩
 have OK0 : Hid (whole.Ok) := hH whole_ok
 have OK1 : Hid (S1.Ok) := hH (by rw [HS1.out]; exact bandZ_ok whole_ok BX.out)
 have OK2 : Hid (S2.Ok) := hH (by rw [HS2.out]; exact bandZ_ok OK1.out BY.out)
 have HB1 : Hid (∀ (D : Nat) (w : World), Blk w D (stL whole) 64 → Calls Tryz.prog 48 #[.pointer (some ⟨D, 0, none⟩), .int .i64 a, .int .i64 (c - a), .int .i64 (x0 - size), .int .i64 (x0 + size)] w fun e w' => e = .returned (.bool true) ∧ Blk w' D (stL S1) 64 ∧ Upd D w w') := hH (fun D w hD => by
  have := band_any D whole a (c - a) (x0 - size) (x0 + size) w hD OK0.out BX.out
  rw [Hcut.out.1, ← HS1.out] at this; exact this)
 have HB2 : Hid (∀ (D : Nat) (w : World), Blk w D (stL S1) 64 → Calls Tryz.prog 48 #[.pointer (some ⟨D, 0, none⟩), .int .i64 b, .int .i64 (d - b), .int .i64 (y0 - size), .int .i64 (y0 + size)] w fun e w' => e = .returned (.bool true) ∧ Blk w' D (stL S2) 64 ∧ Upd D w w') := hH (fun D w hD => by
  have := band_any D S1 b (d - b) (y0 - size) (y0 + size) w hD OK1.out BY.out
  have e := Hcut.out.2.1
  rw [← HS1.out] at e
  rw [e, ← HS2.out] at this; exact this)
 have HB3 : Hid (∀ (D : Nat) (w : World), Blk w D (stL S2) 64 → Calls Tryz.prog 49 #[.pointer (some ⟨D, 0, none⟩)] w fun e w' => e = .returned (.bool true) ∧ Below w.heap.size w w') := hH (fun D w hD => by
  have := some_any D S2 w hD OK2.out
  have e := Hcut.out.2.2.1
  rw [← HS1.out, ← HS2.out] at e
  rw [e] at this; exact this)
 have HR : Hid (S2 = (bandZ (bandZ whole a (c - a) (2 * cx * size - size) (2 * cx * size + size)).1 b (d - b) (2 * cy * size - size) (2 * cy * size + size)).1) := hH (by rw [← Hx0.out, ← Hy0.out, ← HS1.out]; exact HS2.out)
 rw [← HR.out]
 go_enter Tryz.func20, Tryz.ntmps20
 go_upto_region 1 with (fail)
 clear hW0
 refine cP ?_
 refine cN ?_
 refine cW ?_ ?_ ?_
 refine cC ?_ ?_ ?_ ?_ ?hc16_1 ?_
 case hc16_1 => (intro w hSw; exact psize_any size true Hs.out w)
 refine cW ?_ ?_ ?_
 refine cW ?_ ?_ ?_
 refine cX ?_ ?_ (by intro wz hSw; obtain ⟨q0, q1, q2, q3⟩ := c4 (B0.y hSw.1); go_simp; all_goals with_reducible rfl) ?_
 refine cC ?_ ?_ ?_ ?_ ?hc16_5 ?_
 case hc16_5 => (intro w hSw; exact sgRight_any a b c d true Hg.out w)
 refine cW ?_ ?_ ?_
 refine cW ?_ ?_ ?_
 refine cW ?_ ?_ ?_
 refine cX ?_ ?_ (by intro wz hSw; obtain ⟨q0, q1⟩ := c2 (B1.y hSw.1); go_simp; all_goals with_reducible rfl) ?_
 refine cC ?_ ?_ ?_ ?_ ?hc16_10 ?_
 case hc16_10 => (intro w hSw; exact ptRight_any cx cy true Hc.out w)
 refine cW ?_ ?_ ?_
 refine cW ?_ ?_ ?_
 refine calm_end ?_
 intro w1 hS
 have hS := sO hS
 have B0 := B0.y hS
 have B1 := B1.y hS
 have B2 := B2.y hS
 have hz1 : W0.heap.size ≤ w1.heap.size := hS.size
 have HB := gS HB hS
 clear hS
 go_upto_region 3 with (fail)
 refine cP ?_
 refine calm_a (k := 3) (d := 8) (st := 4) (x := (.tmp 27)) (u := stV whole) (T := 64) (by kernel_rfl) (by rfl) (by rfl) info_st rfl rfl (by first | exact st_one _ | exact st0_one) ?_
 refine cC ?_ ?_ ?_ ?_ ?hc17_0 ?_
 case hc17_0 => (intro w hSw; exact ratOf_any 0 (by omega) (by omega) w)
 refine cC ?_ ?_ ?_ ?_ ?hc17_1 ?_
 case hc17_1 => (intro w hSw; exact ratOf_any 1 (by omega) (by omega) w)
 refine cW ?_ ?_ ?_
 refine cB ?_
 refine cB ?_
 refine calm_end ?_
 refine ⟨(by rfl), fun b4 w2 hb4 hS D0 => ?_⟩
 have hl4_0 : w.heap.size < b4 := lL B0.lt hb4
 have hl4_1 : w.heap.size + 1 < b4 := lL B1.lt hb4
 have hl4_2 : w.heap.size + 1 + 1 < b4 := lL B2.lt hb4
 have hS := sO hS
 have B0 := B0.y hS
 have B1 := B1.y hS
 have B2 := B2.y hS
 have B4 : Blk w2 b4 (stL whole) 64 := D0
 have hz2 : w1.heap.size ≤ w2.heap.size := hS.size
 have HB := gS HB hS
 clear hS D0
 go_upto_region 4 with (fail)
 refine cG ?_
 refine cN ?_
 refine cW ?_ ?_ ?_
 refine cX ?_ ?_ (by intro wz hSw; obtain ⟨q0, q1⟩ := c2 (B1.y hSw.1); go_simp; all_goals with_reducible rfl) ?_
 refine cX ?_ ?_ (by intro wz hSw; have m3 := M.out.2.2.1; go_simp; all_goals with_reducible rfl) ?_
 refine cW ?_ ?_ ?_
 refine cX ?_ ?_ (by intro wz hSw; have m1 := M.out.1; go_simp; all_goals with_reducible rfl) ?_
 refine cW ?_ ?_ ?_
 refine cX ?_ ?_ (by intro wz hSw; obtain ⟨q0, q1⟩ := c2 (B1.y hSw.1); go_simp; all_goals with_reducible rfl) ?_
 refine cX ?_ ?_ (by intro wz hSw; have m4 := M.out.2.2.2; go_simp; all_goals with_reducible rfl) ?_
 refine cW ?_ ?_ ?_
 refine cX ?_ ?_ (by intro wz hSw; have m2 := M.out.2.1; go_simp; all_goals with_reducible rfl) ?_
 refine cW ?_ ?_ ?_
 refine cW ?_ ?_ ?_
 refine calm_end ?_
 intro w3 hS
 have hS := sO hS
 have B0 := B0.y hS
 have B1 := B1.y hS
 have B2 := B2.y hS
 have B4 := B4.y hS
 have hz3 : w2.heap.size ≤ w3.heap.size := hS.size
 have HB := gS HB hS
 clear hS
 clear M
 go_upto_region 5 with (fail)
 refine pl_start ?_
 refine pl_val (v := ?_) (by rfl) ?hy19_0 ?_
 case hy19_0 => (go_simp; all_goals with_reducible rfl)
 (try simp only [td])
 refine pl_val (v := ?_) (by rfl) ?hy19_1 ?_
 case hy19_1 => (go_simp; all_goals with_reducible rfl)
 (try simp only [td])
 refine pl_val (v := ?_) (by rfl) ?hy19_2 ?_
 case hy19_2 => (obtain ⟨q0, q1, q2, q3⟩ := c4 (B0); go_simp; all_goals with_reducible rfl)
 (try simp only [td])
 refine pl_val (v := ?_) (by rfl) ?hy19_3 ?_
 case hy19_3 => (go_simp; all_goals with_reducible rfl)
 (try simp only [td])
 refine pl_val (v := ?_) (by rfl) ?hy19_4 ?_
 case hy19_4 => (go_simp; all_goals with_reducible rfl)
 (try simp only [td])
 refine pl_val (v := ?_) (by rfl) ?hy19_5 ?_
 case hy19_5 => (obtain ⟨q0, q1, q2, q3⟩ := c4 (B0); go_simp; all_goals with_reducible rfl)
 (try simp only [td])
 refine pl_val (v := ?_) (by rfl) ?hy19_6 ?_
 case hy19_6 => (go_simp; all_goals with_reducible rfl)
 (try simp only [td])
 refine pl_val (v := ?_) (by rfl) ?hy19_7 ?_
 case hy19_7 => (go_simp; all_goals with_reducible rfl)
 (try simp only [td])
 refine pl_val (v := ?_) (by rfl) ?hy19_8 ?_
 case hy19_8 => (obtain ⟨q0, q1, q2, q3⟩ := c4 (B0); go_simp; all_goals with_reducible rfl)
 (try simp only [td])
 refine pl_val (v := ?_) (by rfl) ?hy19_9 ?_
 case hy19_9 => (have nn := NN.out.1; go_simp; all_goals with_reducible rfl)
 (try simp only [td])
 refine pl_val (v := ?_) (by rfl) ?hy19_10 ?_
 case hy19_10 => (go_simp; all_goals with_reducible rfl)
 (try simp only [td])
 refine pl_val (v := ?_) (by rfl) ?hy19_11 ?_
 case hy19_11 => (go_simp; all_goals with_reducible rfl)
 (try simp only [td])
 refine pl_val (v := ?_) (by rfl) ?hy19_12 ?_
 case hy19_12 => (have nn := NN.out.2.1; go_simp; all_goals with_reducible rfl)
 (try simp only [td])
 refine pl_val (v := ?_) (by rfl) ?hy19_13 ?_
 case hy19_13 => (go_simp; all_goals with_reducible rfl)
 (try simp only [td])
 refine pl_val (v := ?_) (by rfl) ?hy19_14 ?_
 case hy19_14 => (go_simp; all_goals with_reducible rfl)
 (try simp only [td])
 refine pl_val (v := ?_) (by rfl) ?hy19_15 ?_
 case hy19_15 => (have nn := NN.out.2.2.1; go_simp; all_goals with_reducible rfl)
 (try simp only [td])
 refine pl_call (f := ?_) (args := ?_) (v := ?_) (R := ?_) (by rfl) ?hy19_16 ?hc19_16 ?_
 case hy19_16 => (go_simp; all_goals (first | with_reducible rfl | (constructor <;> with_reducible rfl)))
 case hc19_16 => (exact HB1.out _ _ B4)
 rintro w4 ⟨hD, hu⟩
 have B0 := B0.upd hu (by omega)
 have B1 := B1.upd hu (by omega)
 have B2 := B2.upd hu (by omega)
 have hz4 : w3.heap.size ≤ w4.heap.size := hu.size
 have B4 : Blk w4 b4 (stL S1) 64 := hD
 have HB := HB.trans (hu.below (B := w.heap.size) (by omega) HB.size)
 clear hu hD
 (try simp only [td])
 refine pl_val (v := ?_) (by rfl) ?hy19_17 ?_
 case hy19_17 => (go_simp; all_goals with_reducible rfl)
 (try simp only [td])
 refine pl_val (v := ?_) (by rfl) ?hy19_18 ?_
 case hy19_18 => (go_simp; all_goals with_reducible rfl)
 (try simp only [td])
 refine pl_val (v := ?_) (by rfl) ?hy19_19 ?_
 case hy19_19 => (go_simp; all_goals with_reducible rfl)
 (try simp only [td])
 refine pl_val (v := ?_) (by rfl) ?hy19_20 ?_
 case hy19_20 => (go_simp; all_goals with_reducible rfl)
 (try simp only [td])
 refine pl_val (v := ?_) (by rfl) ?hy19_21 ?_
 case hy19_21 => (obtain ⟨q0, q1, q2, q3⟩ := c4 (B0); go_simp; all_goals with_reducible rfl)
 (try simp only [td])
 refine pl_val (v := ?_) (by rfl) ?hy19_22 ?_
 case hy19_22 => (go_simp; all_goals with_reducible rfl)
 (try simp only [td])
 refine pl_val (v := ?_) (by rfl) ?hy19_23 ?_
 case hy19_23 => (go_simp; all_goals with_reducible rfl)
 (try simp only [td])
 refine pl_val (v := ?_) (by rfl) ?hy19_24 ?_
 case hy19_24 => (obtain ⟨q0, q1, q2, q3⟩ := c4 (B0); go_simp; all_goals with_reducible rfl)
 (try simp only [td])
 refine pl_val (v := ?_) (by rfl) ?hy19_25 ?_
 case hy19_25 => (go_simp; all_goals with_reducible rfl)
 (try simp only [td])
 refine pl_val (v := ?_) (by rfl) ?hy19_26 ?_
 case hy19_26 => (go_simp; all_goals with_reducible rfl)
 (try simp only [td])
 refine pl_val (v := ?_) (by rfl) ?hy19_27 ?_
 case hy19_27 => (obtain ⟨q0, q1, q2, q3⟩ := c4 (B0); go_simp; all_goals with_reducible rfl)
 (try simp only [td])
 refine pl_val (v := ?_) (by rfl) ?hy19_28 ?_
 case hy19_28 => (have nn := NN.out.2.2.2.1; go_simp; all_goals with_reducible rfl)
 (try simp only [td])
 refine pl_val (v := ?_) (by rfl) ?hy19_29 ?_
 case hy19_29 => (go_simp; all_goals with_reducible rfl)
 (try simp only [td])
 refine pl_val (v := ?_) (by rfl) ?hy19_30 ?_
 case hy19_30 => (go_simp; all_goals with_reducible rfl)
 (try simp only [td])
 refine pl_val (v := ?_) (by rfl) ?hy19_31 ?_
 case hy19_31 => (have nn := NN.out.2.2.2.2.1; go_simp; all_goals with_reducible rfl)
 (try simp only [td])
 refine pl_val (v := ?_) (by rfl) ?hy19_32 ?_
 case hy19_32 => (go_simp; all_goals with_reducible rfl)
 (try simp only [td])
 refine pl_val (v := ?_) (by rfl) ?hy19_33 ?_
 case hy19_33 => (go_simp; all_goals with_reducible rfl)
 (try simp only [td])
 refine pl_val (v := ?_) (by rfl) ?hy19_34 ?_
 case hy19_34 => (have nn := NN.out.2.2.2.2.2; go_simp; all_goals with_reducible rfl)
 (try simp only [td])
 refine pl_call (f := ?_) (args := ?_) (v := ?_) (R := ?_) (by rfl) ?hy19_35 ?hc19_35 ?_
 case hy19_35 => (go_simp; all_goals (first | with_reducible rfl | (constructor <;> with_reducible rfl)))
 case hc19_35 => (exact HB2.out _ _ B4)
 rintro w5 ⟨hD, hu⟩
 have B0 := B0.upd hu (by omega)
 have B1 := B1.upd hu (by omega)
 have B2 := B2.upd hu (by omega)
 have hz5 : w4.heap.size ≤ w5.heap.size := hu.size
 have B4 : Blk w5 b4 (stL S2) 64 := hD
 have HB := HB.trans (hu.below (B := w.heap.size) (by omega) HB.size)
 clear hu hD
 (try simp only [td])
 refine pl_val (v := ?_) (by rfl) ?hy19_36 ?_
 case hy19_36 => (go_simp; all_goals with_reducible rfl)
 (try simp only [td])
 refine pl_val (v := ?_) (by rfl) ?hy19_37 ?_
 case hy19_37 => (go_simp; all_goals with_reducible rfl)
 (try simp only [td])
 refine pl_val (v := ?_) (by rfl) ?hy19_38 ?_
 case hy19_38 => (go_simp; all_goals with_reducible rfl)
 (try simp only [td])
 refine pl_call (f := ?_) (args := ?_) (v := ?_) (R := ?_) (by rfl) ?hy19_39 ?hc19_39 ?_
 case hy19_39 => (go_simp; all_goals (first | with_reducible rfl | (constructor <;> with_reducible rfl)))
 case hc19_39 => (exact HB3.out _ _ B4)
 rintro w6 hb
 have B0 := B0.call hb
 have B1 := B1.call hb
 have B2 := B2.call hb
 have B4 := B4.call hb
 have hz6 : w5.heap.size ≤ w6.heap.size := hb.size
 have HB := HB.trans (hb.mono HB.size)
 clear hb
 (try simp only [td])
 refine pl_val (v := ?_) (by rfl) ?hy19_40 ?_
 case hy19_40 => (go_simp; all_goals with_reducible rfl)
 (try simp only [td])
 refine pl_val (v := ?_) (by rfl) ?hy19_41 ?_
 case hy19_41 => (go_simp; all_goals with_reducible rfl)
 (try simp only [td])
 refine pl_end ?_
 go_upto_region 7 with (fail)
 refine cP ?_
 refine calm_k (b := w.heap.size + 1 + 1) (o := 0) (st := 1) (ado := .tmp 6) (x := (.tmp 81)) (u := stV S2) (by kernel_rfl) B2 (by rfl) size_st (by first | exact st_one _ | exact st0_one) (by first | exact Nat.le_refl _ | (simp; done) | decide) ?_
 refine cX (.agg (stL S2).toArray) ?_ (by intro wz hSw; exact load_row rfl (by rfl) (B4.y hSw.1) Tryz.underlying64 rfl size_st) ?_
 refine cB ?_
 refine cW ?_ ?_ ?_
 refine calm_end ?_
 refine ⟨(by rfl), (by rfl), fun w7 hS D0 => ?_⟩
 have B0 := B0.y hS
 have B1 := B1.y hS
 have B4 := B4.y hS
 have B2 : Blk w7 (w.heap.size + 1 + 1) (stL S2) 64 := blk_whole D0 rfl
 have hz7 : w6.heap.size ≤ w7.heap.size := hS.size
 have HB := gS HB hS
 clear hS D0
 go_wp2_with fail
 refine bodyPost_ret (res_ct Tryz.results20 rfl (row_load B2 Tryz.underlying64 rfl size_st)) rfl ⟨rfl, HB⟩
end Go.Proofs.YthbplhglfjlngaaGreat
namespace Go.Proofs.YthbplhglfjlngaaGreat
open Go.RowKit Go.Rg Go.Wd
attribute [local go_sem] Oper.semAt_some
def cutV : Option Stz → Value
 | some z => .tuple #[stV z, .bool true]
 | none => .tuple #[st0V, .bool false]
theorem cut_any (a b c d cx cy size : Int) (hg : sgB a b c d = true) (hc : ptB cx cy = true) (hs : szB size = true) (w : World) :
  Calls Tryz.prog 20 #[gV a b c d, pV cx cy, .int .i64 size] w fun e w' => e = .returned (cutV (cutZ a b c d cx cy size)) ∧ Below w.heap.size w w' := by
 unfold cutZ
 split
 ·rename_i h1
  split
  ·rename_i h2
   split
   ·rename_i h3; exact cut_ttt a b c d cx cy size hg hc hs ⟨h1, h2, h3, trivial⟩ w
   ·rename_i h3; exact cut_ttf a b c d cx cy size hg hc hs ⟨h1, h2, by simpa using h3, trivial⟩ w
  ·rename_i h2; exact cut_tf a b c d cx cy size hg hc hs ⟨h1, by simpa using h2, trivial⟩ w
 ·rename_i h1; exact cut_f a b c d cx cy size hg hc hs ⟨by simpa using h1, trivial⟩ w
end Go.Proofs.YthbplhglfjlngaaGreat
namespace Go.Rg
open Go Go.RowKit
theorem range_of_blk {w : World} {b o : Nat} {l cs : List Value} {t : TypeId} (h : Blk w b l t) (hd : l.drop o = cs) : w.rangeAt b o cs := fun j v hj => by
 subst hd
 rw [List.getElem?_drop] at hj
 exact h.cell hj
end Go.Rg
namespace Go.Wd
open Go
def metL (x y : Int) (s : Stz) : List Value := .int .i64 x :: .int .i64 y :: stL s
abbrev metV (x y : Int) (s : Stz) : Value := .agg #[.int .i64 x, .int .i64 y, u64 (lb (tc s.fn) 0), u64 (lb (tc s.fn) 1), u64 (lb (tc s.fn) 2), u64 (lb (tc s.fn) 3), u64 (lb (tc s.fd) 0), u64 (lb (tc s.fd) 1), u64 (lb (tc s.fd) 2), u64 (lb (tc s.fd) 3), u64 (lb (tc s.tn) 0), u64 (lb (tc s.tn) 1), u64 (lb (tc s.tn) 2), u64 (lb (tc s.tn) 3), u64 (lb (tc s.td) 0), u64 (lb (tc s.td) 1), u64 (lb (tc s.td) 2), u64 (lb (tc s.td) 3), .bool s.op, .bool s.ot]
end Go.Wd
namespace Go.Proofs.YthbplhglfjlngaaGreat
open Go.RowKit Go.Rg Go.Wd
attribute [local go_sem] Oper.semAt_some
theorem of1_any (x y x2 y2 : Int) (s t : Stz) (hs : s.Ok) (ht : t.Ok) (w : World) :
  Calls Tryz.prog 22 #[metV x y s, metV x2 y2 t] w fun e w' => e = .returned (.int .i64 (aheadZ s t)) ∧ Below w.heap.size w w' := by
 obtain ⟨W0, hW0⟩ : ∃ W0, [.cells #[.int .i64 x, .int .i64 y, u64 (lb (tc s.fn) 0), u64 (lb (tc s.fn) 1), u64 (lb (tc s.fn) 2), u64 (lb (tc s.fn) 3), u64 (lb (tc s.fd) 0), u64 (lb (tc s.fd) 1), u64 (lb (tc s.fd) 2), u64 (lb (tc s.fd) 3), u64 (lb (tc s.tn) 0), u64 (lb (tc s.tn) 1), u64 (lb (tc s.tn) 2), u64 (lb (tc s.tn) 3), u64 (lb (tc s.td) 0), u64 (lb (tc s.td) 1), u64 (lb (tc s.td) 2), u64 (lb (tc s.td) 3), .bool s.op, .bool s.ot] 68, .cells #[.int .i64 x2, .int .i64 y2, u64 (lb (tc t.fn) 0), u64 (lb (tc t.fn) 1), u64 (lb (tc t.fn) 2), u64 (lb (tc t.fn) 3), u64 (lb (tc t.fd) 0), u64 (lb (tc t.fd) 1), u64 (lb (tc t.fd) 2), u64 (lb (tc t.fd) 3), u64 (lb (tc t.tn) 0), u64 (lb (tc t.tn) 1), u64 (lb (tc t.tn) 2), u64 (lb (tc t.tn) 3), u64 (lb (tc t.td) 0), u64 (lb (tc t.td) 1), u64 (lb (tc t.td) 2), u64 (lb (tc t.td) 3), .bool t.op, .bool t.ot] 68].foldl World.alloc w = W0 := ⟨_, rfl⟩
 have B0 : Blk W0 (w.heap.size) (metL x y s) 68 := Blk.allocs _ hW0 0 rfl
 have B1 : Blk W0 (w.heap.size + 1) (metL x2 y2 t) 68 := Blk.allocs _ hW0 1 rfl
 have HB := aB hW0
 have hsz : w.heap.size + 2 ≤ W0.heap.size := aZ hW0
 simp only [List.foldl_cons, List.foldl_nil] at hW0
 have Hs := hH hs
 have Ht := hH ht
 clear hs ht
 go_enter Tryz.func22, Tryz.ntmps22
 go_upto_region 1 with (fail)
 clear hW0
 refine cP ?_
 refine cN ?_
 refine cW ?_ ?_ ?_
 refine cX (.agg (stL s).toArray) ?_ (by intro wz hSw; exact x_row (cs := stL s) rfl (by rfl) (range_of_blk (B0.stay hSw.1 (by simp)) rfl) Tryz.underlying64 rfl size_st) ?_
 refine cW ?_ ?_ ?_
 refine cX (.agg (stL t).toArray) ?_ (by intro wz hSw; exact x_row (cs := stL t) rfl (by rfl) (range_of_blk (B1.stay hSw.1 (by simp)) rfl) Tryz.underlying64 rfl size_st) ?_
 refine cC ?_ ?_ ?_ ?_ ?hc1_4 ?_
 case hc1_4 => (intro w hSw; exact ahead_any s t Hs.out Ht.out w)
 refine cW ?_ ?_ ?_
 refine calm_end ?_
 intro w1 hS
 have hS := sO hS
 have B0 := B0.y hS
 have B1 := B1.y hS
 have hz1 : W0.heap.size ≤ w1.heap.size := hS.size
 have HB := gS HB hS
 clear hS
 go_wp2_with fail
 go_ret
 exact ⟨rfl, HB⟩
end Go.Proofs.YthbplhglfjlngaaGreat
namespace Go.Proofs.YthbplhglfjlngaaGreat
open Go.RowKit Go.Rg Go.Wd
attribute [local go_sem] Oper.semAt_some
theorem eql_cloneMt (w : World) (a : Option Addr) (l c : Nat) : (binOp .eql 54 (.slice a l c) (.slice none 0 0)).run Tryz.prog w = .ok (.bool a.isNone) w := run_eql_slice_nil _ _ _ _ _ Tryz.underlying54
theorem size_cloneMt : (Tryz.prog.info? 68).map (·.size) = some 20 := by kernel_rfl
theorem info_cloneMt : (Tryz.prog.info? 68).map (fun i => (i.zero, i.size, i.bytes)) = some (some (.agg #[.int .i64 0, .int .i64 0, .int .u64 0, .int .u64 0, .int .u64 0, .int .u64 0, .int .u64 0, .int .u64 0, .int .u64 0, .int .u64 0, .int .u64 0, .int .u64 0, .int .u64 0, .int .u64 0, .int .u64 0, .int .u64 0, .int .u64 0, .int .u64 0, .bool false, .bool false]), 20, 152) := by kernel_rfl
theorem build_cloneMt (w : World) : (Instr.buildSlice 54 0 #[]).run Tryz.prog w = .ok (.slice (some ⟨w.heap.size, 0, none⟩) 0 0) (w.alloc (.cells #[] 68)) := run_buildNone w _ _ 20 Tryz.underlying54 size_cloneMt
attribute [local go_sem] eql_cloneMt build_cloneMt
theorem cloneMt_any (v : Value) (es : List (List Value)) (w : World) (hv : SlC w v 20 es) (h1c : ∀ u ∈ es.flatten, u.oneCell' = true) (hb : es.length * 152 ≤ 140737488355328) :
  Calls Tryz.prog 50 #[v] w fun e w' => ∃ v', e = .returned v' ∧ SlC w' v' 20 es ∧ Below w.heap.size w w' := by
 obtain ⟨a, c, e, hn, hcm⟩ := hv.form
 subst e
 cases a with
 | none =>
  have hes : es = [] := by
   by_cases he : es = []
   ·exact he
   ·obtain ⟨a', c', e', _, _, _, ho⟩ := hv
    obtain ⟨g, off, e1, _⟩ := ho he
    injection e' with e2
    rw [← e2] at e1; cases e1
  subst hes
  go_enter Tryz.func50, Tryz.ntmps50
  go_wp2_with fail
  go_ret
  exact ⟨_, rfl, SlC.nil w 20, Below.refl _ _⟩
 | some ad =>
  have HR := hH (hv.readsE (fun _ _ => trivial) (by simp))
  have H3 : Hid (∀ e ∈ es, e.length = 20) := hH hv.choose_spec.choose_spec.2.2.2.1
  have hfl : es.flatten.length = es.length * 20 := flat_len es 20 H3.out
  obtain ⟨n, Hn⟩ : ∃ n, Hid (n = es.length) := ⟨_, hH rfl⟩
  rw [← Hn.out] at hn hb hfl HR ⊢
  have H1 := hH h1c
  obtain ⟨fl, Hf⟩ : ∃ n, Hid (n = es.flatten) := ⟨_, hH rfl⟩
  rw [← Hf.out] at HR hfl H1
  clear h1c hv
  go_enter Tryz.func50, Tryz.ntmps50
  have hbl := Below.alloc (Below.refl w.heap.size w) (Nat.le_refl _) (.cells #[] 68)
  go_wp2_with (at_builtin; refine wpList_append2E _ rfl _ _ 54 rfl w.heap.size 68 (.agg #[.int .i64 0, .int .i64 0, .int .u64 0, .int .u64 0, .int .u64 0, .int .u64 0, .int .u64 0, .int .u64 0, .int .u64 0, .int .u64 0, .int .u64 0, .int .u64 0, .int .u64 0, .int .u64 0, .int .u64 0, .int .u64 0, .int .u64 0, .int .u64 0, .bool false, .bool false]) 20 152 Tryz.underlying54 info_cloneMt rfl (by decide) (.slice (some ⟨w.heap.size, 0, none⟩) 0 0) 0 _ rfl (own_none w _ _ _ (Nat.le_refl _)) _ w.heap.size n fl rfl (HR.out.below hbl) hfl H1.out (by unfold maxLen at *; omega) (by omega) hbl.size ?_; intro v' w' r1 r2 r3; clear r3)
  go_ret
  refine ⟨v', rfl, SlC.of_own (base := w.heap.size) (t := 68) ?_ H3.out, hbl.grown r2 hbl.size ?_⟩
  ·rw [← Hn.out, ← Hf.out]; simpa using r1
  ·intro k hk; cases hk; exact Nat.le_refl _
end Go.Proofs.YthbplhglfjlngaaGreat
namespace Go.Proofs.YthbplhglfjlngaaGreat
open Go.RowKit Go.Rg Go.Wd Go.Mg
attribute [local go_sem] Oper.semAt_some
set_option maxHeartbeats 4000000 in
theorem mergeMt_any {α : Type} (enc : α → List Value) (he : ∀ x, (enc x).length = 20) (h1c : ∀ x, ∀ u ∈ enc x, u.oneCell' = true) (fv : FuncId) (hfn : ∀ args w, (callFunc fv args).run Tryz.prog w = .ok (.enter fv args) w) (ord : α → α → Int) (D : α → Prop)
  (hord : ∀ y x, D y → D x → ∀ w : World, Calls Tryz.prog fv #[.agg (enc y).toArray, .agg (enc x).toArray] w fun e w' => e = .returned (.int .i64 (ord y x)) ∧ Below w.heap.size w w')
  (la lb : List α) (v u : Value) (w : World) (hv : SlC w v 20 (la.map enc)) (hu : SlC w u 20 (lb.map enc)) (hDa : ∀ x ∈ la, D x) (hDb : ∀ x ∈ lb, D x) (hb : (la.length + lb.length) * 152 ≤ 140737488355328) :
  Calls Tryz.prog 51 #[v, u, .func (.func fv) #[] #[]] w fun e w' => ∃ v', e = .returned v' ∧ SlC w' v' 20 ((mgB (fun x y => !decide (ord y x < 0)) la lb).map enc) ∧ Below w.heap.size w w' := by
 obtain ⟨a, c, e, hn, hcm⟩ := hv.form
 obtain ⟨a2, c2, e2, hn2, hcm2⟩ := hu.form
 subst e e2
 rw [List.length_map] at hn hn2
 have hll : (lb.map enc).length = lb.length := List.length_map _
 have hlla : (la.map enc).length = la.length := List.length_map _
 rw [hlla] at hv ⊢
 rw [hll] at hu ⊢
 unfold maxLen at hcm hcm2
 have HT : Hid (∀ (x' : α) (y' : α) (ta tb : List α), mgB (fun x y => !decide (ord y x < 0)) (x' :: ta) (y' :: tb) = if ord y' x' < 0 then y' :: mgB (fun x y => !decide (ord y x < 0)) (x' :: ta) tb else x' :: mgB (fun x y => !decide (ord y x < 0)) ta (y' :: tb)) := hH fun x' y' ta tb => by rw [mgB_cons]; by_cases h : ord y' x' < 0 <;> simp [h]
 obtain ⟨mg, Hmg⟩ : ∃ m, Hid (m = mgB (fun x y => !decide (ord y x < 0))) := ⟨_, hH rfl⟩
 rw [← Hmg.out] at HT ⊢
 have HLen : Hid (∀ a b, (mg a b).length = a.length + b.length) := hH fun a b => by rw [Hmg.out]; exact mgB_len _ a b
 obtain ⟨n, Hn⟩ : ∃ n, Hid (n = la.length + lb.length) := ⟨_, hH rfl⟩
 have hnn : ((la.length : Int) + (lb.length : Int)) = (n : Int) := by rw [Hn.out]; omega
 have hnb : n * 152 ≤ 140737488355328 := by rw [Hn.out]; exact hb
 obtain ⟨w1, hm, ho, hg⟩ : ∃ w', (Instr.makeSlice 54 (.int .i64 0) (.int .i64 (n : Int))).run Tryz.prog w = .ok (.slice (some ⟨w.heap.size, 0, none⟩) 0 n) w' ∧
   w'.ownsRow w.heap.size 68 20 (.slice (some ⟨w.heap.size, 0, none⟩) 0 n) 0 [] ∧ w.grownBy w' none := by
  obtain ⟨i, hi, hz, hsz, hby⟩ := info_parts info_cloneMt
  exact run_make_own w w.heap.size _ _ i _ 20 Tryz.underlying54 hi hz hsz .i64 .i64 n (by rw [hby, Hn.out]; omega) (by rw [Hn.out]; unfold maxLen; omega) (Nat.le_refl _)
 go_enter Tryz.func51, Tryz.ntmps51
 go_wp2_with fail
 have hbw : Below w.heap.size w w1 := (Below.refl _ w).grown hg (Nat.le_refl _) (by simp)
 go_loopg [0, 1, 7] n (fun q s0 s1 s7 wx => ∃ (xa xb out : List α) (aa ab av : Option Addr) (na ca nb cb no capv : Nat), Hid (mg la lb = out ++ mg xa xb) ∧ no + na + nb = n ∧ Hid (no = out.length) ∧ Hid (na = xa.length) ∧ Hid (nb = xb.length) ∧ na + nb ≤ q ∧ s0 = .slice aa na ca ∧ s1 = .slice ab nb cb ∧ s7 = .slice av no capv ∧ Hid (SlC w (.slice aa na ca) 20 (xa.map enc)) ∧ Hid (SlC w (.slice ab nb cb) 20 (xb.map enc)) ∧ Hid ((∀ x ∈ xa, D x) ∧ ∀ x ∈ xb, D x) ∧ Hid (wx.ownsRow w.heap.size 68 20 (.slice av no capv) no (out.map enc).flatten) ∧ Hid (Below w.heap.size w wx))
 case atStart => exact ⟨la, lb, [], a, a2, _, _, c, _, c2, 0, n, hH rfl, by rw [Hn.out]; simp, hH rfl, hH rfl, hH rfl, by rw [Hn.out]; omega, rfl, rfl, rfl, hH hv, hH hu, hH ⟨hDa, hDb⟩, hH (by simpa using ho), hH hbw⟩
 case round =>
  clear hv hu ho hg hm hbw hDa hDb hll hlla
  obtain ⟨xa, xb, out, aa, ab, av, na, ca, nb, cb, no, capv, HM, hlen, Hno, Hna, Hnb, hq, rfl, rfl, rfl, HA, HBs, HD, HO, HB⟩ := hrel
  by_cases hgo : 0 < na ∧ 0 < nb
  ·obtain ⟨hgo1, hgo2⟩ := hgo
   cases gk with
   | zero => omega
   | succ q =>
   cases xa with
   | nil => have := Hna.out; simp at this; omega
   | cons x ta =>
   cases xb with
   | nil => have := Hnb.out; simp at this; omega
   | cons y tb =>
   rw [List.map_cons] at HA HBs
   obtain ⟨gx, ox, rfl, hlx, hrx, _⟩ := HA.out.head
   obtain ⟨gy, oy, rfl, hly, hry, _⟩ := HBs.out.head
   have HBx := HB.out
   have hszx := HBx.size
   have HB := HBx
   obtain ⟨adx, HAx⟩ : ∃ q : Option Addr, Hid (q = if ca = 1 then some ⟨gx, ox, none⟩ else (some ⟨gx, ox, none⟩ : Option Addr).map (·.add (1 * 20))) := ⟨_, hH rfl⟩
   obtain ⟨ady, HAy⟩ : ∃ q : Option Addr, Hid (q = if cb = 1 then some ⟨gy, oy, none⟩ else (some ⟨gy, oy, none⟩ : Option Addr).map (·.add (1 * 20))) := ⟨_, hH rfl⟩
   have HRx : ∀ W : World, Below w.heap.size w W → W.rangeAt gx ox (enc x) := fun W h => rangeAt_below hrx h hlx
   have HRy : ∀ W : World, Below w.heap.size w W → W.rangeAt gy oy (enc y) := fun W h => rangeAt_below hry h hly
   by_cases hc : ord y x < 0
   ·have d0 : decide (ord y x < 0) = true := by simpa using hc
    have hmm := HT.out x y ta tb
    rw [if_pos hc] at hmm
    have HM2 := hH hmm
    clear hmm hc
    go_upto_region 3 with (fail)
    refine cG ?_
    refine cN ?_
    refine cW ?_ ?_ ?_
    refine cW ?_ ?_ ?_
    refine cX (.pointer (some ⟨gy, oy, none⟩)) ?_ (by intro wz hSw; exact x_index (i := 0) (E := 68) (sz := 20) rfl (by rfl) (by rfl) (by omega) Tryz.underlying54 size_cloneMt) ?_
    refine cX (.agg (enc y).toArray) ?_ (by intro wz hSw; exact x_row rfl (by rfl) (HRy _ (grow_stay HBx hSw.1 (by simp) hszx)) Tryz.underlying68 rfl ((he y).symm ▸ size_cloneMt)) ?_
    refine cW ?_ ?_ ?_
    refine cX (.pointer (some ⟨gx, ox, none⟩)) ?_ (by intro wz hSw; exact x_index (i := 0) (E := 68) (sz := 20) rfl (by rfl) (by rfl) (by omega) Tryz.underlying54 size_cloneMt) ?_
    refine cX (.agg (enc x).toArray) ?_ (by intro wz hSw; exact x_row rfl (by rfl) (HRx _ (grow_stay HBx hSw.1 (by simp) hszx)) Tryz.underlying68 rfl ((he x).symm ▸ size_cloneMt)) ?_
    refine calm_call (f := ?_) (args := ?_) (v := ?_) (by rfl) (by rfl) ?hy2_7 ?hc2_7 ?_
    case hy2_7 => (intro wz hSw; go_simp; all_goals (first | with_reducible rfl | (constructor <;> with_reducible rfl) | exact hfn _ _))
    case hc2_7 => (intro w hSw; exact hord y x (HD.out.2 y (List.mem_cons_self ..)) (HD.out.1 x (List.mem_cons_self ..)) w)
    (try simp only [td])
    refine cW ?_ ?_ ?_
    refine calm_end ?_
    intro w1 hS
    have hS := sO hS
    have hz1 : wr.heap.size ≤ w1.heap.size := hS.size
    have HB := gS HB hS
    have HO1 := own_call HO.out hS.all
    clear hS
    go_upto_region 4 with (fail)
    refine wp_region_held_drew (S := fun w' => Below w.heap.size w w') (by kernel_rfl) HB.drew (fun hHeld => ?_)
    refine takeL 0 (v := ?_) rfl (by kernel_rfl) (by kernel_rfl) (by kernel_rfl) (fun _ _ _ h => h) (by rfl) (by assumption) ?hy0 ?_
    case hy0 => (intro w hSw; (try dsimp only at hSw); go_simp; all_goals with_reducible rfl)
    (try simp only [td])
    refine takeL 1 (v := ?_) rfl (by kernel_rfl) (by kernel_rfl) (by kernel_rfl) (fun _ _ _ h => h) (by rfl) (by assumption) ?hy1 ?_
    case hy1 => (intro w hSw; (try dsimp only at hSw); go_simp; all_goals with_reducible rfl)
    (try simp only [td])
    refine takeL 2 (v := .pointer (some ⟨gy, oy, none⟩)) rfl (by kernel_rfl) (by kernel_rfl) (by kernel_rfl) (fun _ _ _ h => h) (by rfl) (by assumption) ?hy2 ?_
    case hy2 => (intro w hSw; exact x_index (i := 0) (E := 68) (sz := 20) rfl (by rfl) (by rfl) (by omega) Tryz.underlying54 size_cloneMt)
    (try simp only [td])
    refine takeL 3 (v := .agg (enc y).toArray) rfl (by kernel_rfl) (by kernel_rfl) (by kernel_rfl) (fun _ _ _ h => h) (by rfl) (by assumption) ?hy3 ?_
    case hy3 => (intro w hSw; exact x_row rfl (by rfl) (HRy _ hSw) Tryz.underlying68 rfl ((he y).symm ▸ size_cloneMt))
    (try simp only [td])
    refine takeL 6 (v := ?_) rfl (by kernel_rfl) (by kernel_rfl) (by kernel_rfl) (fun _ _ _ h => h) (by rfl) (by assumption) ?hy6 ?_
    case hy6 => (intro w hSw; (try dsimp only at hSw); go_simp; all_goals with_reducible rfl)
    (try simp only [td])
    refine takeL 7 (v := .slice ady (nb - 1) (cb - 1)) rfl (by kernel_rfl) (by kernel_rfl) (by kernel_rfl) (fun _ _ _ h => h) (by rfl) (by assumption) ?hy7 ?_
    case hy7 => (intro w hSw; exact by rw [HAy.out]; exact x_tail (k := 1) (E := 68) (sz := 20) rfl (by rfl) (by rfl) (by omega) Tryz.underlying54 size_cloneMt)
    (try simp only [td])
    refine consL 4 (by kernel_rfl) rfl (by rfl) (fun K hK => ?_)
    --nosimp
    refine wp_buildOne _ 54 68 _ (.agg (enc y).toArray) (.agg #[.int .i64 0, .int .i64 0, .int .u64 0, .int .u64 0, .int .u64 0, .int .u64 0, .int .u64 0, .int .u64 0, .int .u64 0, .int .u64 0, .int .u64 0, .int .u64 0, .int .u64 0, .int .u64 0, .int .u64 0, .int .u64 0, .int .u64 0, .int .u64 0, .bool false, .bool false]) (enc y) rfl Tryz.underlying54 (by rw [he]; exact info_small info_cloneMt) (by rfl) rfl (by rw [he]; decide) (by rw [he]; decide) ?_
    obtain ⟨wa, hwa⟩ : ∃ wa, w1.drew.alloc (.cells (enc y).toArray 68) = wa := ⟨_, rfl⟩
    have hRN : ReadsE wa wa.heap.size (.slice (some ⟨w1.heap.size, 0, none⟩) 1 1) 1 (enc y) := hwa ▸ reads_one w1.drew 68 (enc y)
    have hal : Below w1.heap.size w1 wa := hwa ▸ ((Below.refl _ w1).drew).alloc (Nat.le_refl _) _
    rw [hwa]
    have hown := own_call HO1 hal
    have HBa := HB.trans (hal.mono HB.size)
    have hza := HBa.size
    clear hwa
    clear hHeld
    refine hK.out _ _ ?hS4 (fun hHeld => ?_)
    case hS4 => ((try dsimp only); exact HBa)
    clear hK K
    (try simp only [td])
    refine consL 5 (by kernel_rfl) rfl (by rfl) (fun K hK => ?_)
    refine wp_append2E _ _ _ 54 rfl w.heap.size 68 (.agg #[.int .i64 0, .int .i64 0, .int .u64 0, .int .u64 0, .int .u64 0, .int .u64 0, .int .u64 0, .int .u64 0, .int .u64 0, .int .u64 0, .int .u64 0, .int .u64 0, .int .u64 0, .int .u64 0, .int .u64 0, .int .u64 0, .int .u64 0, .int .u64 0, .bool false, .bool false]) 20 152 Tryz.underlying54 info_cloneMt rfl (by decide) (.slice av no capv) no _ rfl hown _ _ 1 (enc y) rfl hRN (by rw [he]) (h1c y) (by unfold maxLen; omega) (by omega) (by omega) ?_
    intro v' wb hown2 hgrow hmov
    obtain ⟨a2, cap2, rfl⟩ := own_form hown2
    have HBb := HBa.grown hgrow (by omega) (fun k e => (hown.lt k e).1)
    clear hHeld
    refine hK.out _ _ ?hS5 (fun hHeld => ?_)
    case hS5 => ((try dsimp only); exact HBb)
    clear hK K
    (try simp only [td])
    refine takeL 8 (v := ?_) rfl (by kernel_rfl) (by kernel_rfl) (by kernel_rfl) (fun _ _ _ h => h) (by rfl) (by assumption) ?hy8 ?_
    case hy8 => (intro w hSw; (try dsimp only at hSw); go_simp; all_goals with_reducible rfl)
    (try simp only [td])
    refine takeL 9 (v := ?_) rfl (by kernel_rfl) (by kernel_rfl) (by kernel_rfl) (fun _ _ _ h => h) (by rfl) (by assumption) ?hy9 ?_
    case hy9 => (intro w hSw; (try dsimp only at hSw); go_simp; all_goals with_reducible rfl)
    (try simp only [td])
    refine wpAnyH_done (by kernel_rfl) ?_ _
    go_wp2_with fail
    go_roundg q
    case measure => omega
    case rel => exact ⟨x :: ta, tb, out ++ [y], some ⟨gx, ox, none⟩, ady, a2, na, ca, (nb - 1), (cb - 1), no + 1, cap2, hH (by rw [HM.out, HM2.out]; simp), by omega, hH (by rw [Hno.out]; simp), hH (by have := Hna.out; simp at this ⊢; omega), hH (by have := Hnb.out; simp at this ⊢; omega), by omega, rfl, rfl, rfl, hH (HA.out), hH (HAy.out ▸ HBs.out.tail), hH ⟨HD.out.1, fun z hz => HD.out.2 z (List.mem_cons_of_mem _ hz)⟩, hH (by simpa using hown2), hH HBb⟩
   ·have d0 : decide (ord y x < 0) = false := by simpa using hc
    have hmm := HT.out x y ta tb
    rw [if_neg hc] at hmm
    have HM2 := hH hmm
    clear hmm hc
    go_upto_region 3 with (fail)
    refine cG ?_
    refine cN ?_
    refine cW ?_ ?_ ?_
    refine cW ?_ ?_ ?_
    refine cX (.pointer (some ⟨gy, oy, none⟩)) ?_ (by intro wz hSw; exact x_index (i := 0) (E := 68) (sz := 20) rfl (by rfl) (by rfl) (by omega) Tryz.underlying54 size_cloneMt) ?_
    refine cX (.agg (enc y).toArray) ?_ (by intro wz hSw; exact x_row rfl (by rfl) (HRy _ (grow_stay HBx hSw.1 (by simp) hszx)) Tryz.underlying68 rfl ((he y).symm ▸ size_cloneMt)) ?_
    refine cW ?_ ?_ ?_
    refine cX (.pointer (some ⟨gx, ox, none⟩)) ?_ (by intro wz hSw; exact x_index (i := 0) (E := 68) (sz := 20) rfl (by rfl) (by rfl) (by omega) Tryz.underlying54 size_cloneMt) ?_
    refine cX (.agg (enc x).toArray) ?_ (by intro wz hSw; exact x_row rfl (by rfl) (HRx _ (grow_stay HBx hSw.1 (by simp) hszx)) Tryz.underlying68 rfl ((he x).symm ▸ size_cloneMt)) ?_
    refine calm_call (f := ?_) (args := ?_) (v := ?_) (by rfl) (by rfl) ?hy2_7 ?hc2_7 ?_
    case hy2_7 => (intro wz hSw; go_simp; all_goals (first | with_reducible rfl | (constructor <;> with_reducible rfl) | exact hfn _ _))
    case hc2_7 => (intro w hSw; exact hord y x (HD.out.2 y (List.mem_cons_self ..)) (HD.out.1 x (List.mem_cons_self ..)) w)
    (try simp only [td])
    refine cW ?_ ?_ ?_
    refine calm_end ?_
    intro w1 hS
    have hS := sO hS
    have hz1 : wr.heap.size ≤ w1.heap.size := hS.size
    have HB := gS HB hS
    have HO1 := own_call HO.out hS.all
    clear hS
    go_upto_region 5 with (fail)
    refine wp_region_held_drew (S := fun w' => Below w.heap.size w w') (by kernel_rfl) HB.drew (fun hHeld => ?_)
    refine takeL 0 (v := ?_) rfl (by kernel_rfl) (by kernel_rfl) (by kernel_rfl) (fun _ _ _ h => h) (by rfl) (by assumption) ?hy0 ?_
    case hy0 => (intro w hSw; (try dsimp only at hSw); go_simp; all_goals with_reducible rfl)
    (try simp only [td])
    refine takeL 1 (v := ?_) rfl (by kernel_rfl) (by kernel_rfl) (by kernel_rfl) (fun _ _ _ h => h) (by rfl) (by assumption) ?hy1 ?_
    case hy1 => (intro w hSw; (try dsimp only at hSw); go_simp; all_goals with_reducible rfl)
    (try simp only [td])
    refine takeL 2 (v := .pointer (some ⟨gx, ox, none⟩)) rfl (by kernel_rfl) (by kernel_rfl) (by kernel_rfl) (fun _ _ _ h => h) (by rfl) (by assumption) ?hy2 ?_
    case hy2 => (intro w hSw; exact x_index (i := 0) (E := 68) (sz := 20) rfl (by rfl) (by rfl) (by omega) Tryz.underlying54 size_cloneMt)
    (try simp only [td])
    refine takeL 3 (v := .agg (enc x).toArray) rfl (by kernel_rfl) (by kernel_rfl) (by kernel_rfl) (fun _ _ _ h => h) (by rfl) (by assumption) ?hy3 ?_
    case hy3 => (intro w hSw; exact x_row rfl (by rfl) (HRx _ hSw) Tryz.underlying68 rfl ((he x).symm ▸ size_cloneMt))
    (try simp only [td])
    refine takeL 6 (v := ?_) rfl (by kernel_rfl) (by kernel_rfl) (by kernel_rfl) (fun _ _ _ h => h) (by rfl) (by assumption) ?hy6 ?_
    case hy6 => (intro w hSw; (try dsimp only at hSw); go_simp; all_goals with_reducible rfl)
    (try simp only [td])
    refine takeL 7 (v := .slice adx (na - 1) (ca - 1)) rfl (by kernel_rfl) (by kernel_rfl) (by kernel_rfl) (fun _ _ _ h => h) (by rfl) (by assumption) ?hy7 ?_
    case hy7 => (intro w hSw; exact by rw [HAx.out]; exact x_tail (k := 1) (E := 68) (sz := 20) rfl (by rfl) (by rfl) (by omega) Tryz.underlying54 size_cloneMt)
    (try simp only [td])
    refine consL 4 (by kernel_rfl) rfl (by rfl) (fun K hK => ?_)
    --nosimp
    refine wp_buildOne _ 54 68 _ (.agg (enc x).toArray) (.agg #[.int .i64 0, .int .i64 0, .int .u64 0, .int .u64 0, .int .u64 0, .int .u64 0, .int .u64 0, .int .u64 0, .int .u64 0, .int .u64 0, .int .u64 0, .int .u64 0, .int .u64 0, .int .u64 0, .int .u64 0, .int .u64 0, .int .u64 0, .int .u64 0, .bool false, .bool false]) (enc x) rfl Tryz.underlying54 (by rw [he]; exact info_small info_cloneMt) (by rfl) rfl (by rw [he]; decide) (by rw [he]; decide) ?_
    obtain ⟨wa, hwa⟩ : ∃ wa, w1.drew.alloc (.cells (enc x).toArray 68) = wa := ⟨_, rfl⟩
    have hRN : ReadsE wa wa.heap.size (.slice (some ⟨w1.heap.size, 0, none⟩) 1 1) 1 (enc x) := hwa ▸ reads_one w1.drew 68 (enc x)
    have hal : Below w1.heap.size w1 wa := hwa ▸ ((Below.refl _ w1).drew).alloc (Nat.le_refl _) _
    rw [hwa]
    have hown := own_call HO1 hal
    have HBa := HB.trans (hal.mono HB.size)
    have hza := HBa.size
    clear hwa
    clear hHeld
    refine hK.out _ _ ?hS4 (fun hHeld => ?_)
    case hS4 => ((try dsimp only); exact HBa)
    clear hK K
    (try simp only [td])
    refine consL 5 (by kernel_rfl) rfl (by rfl) (fun K hK => ?_)
    refine wp_append2E _ _ _ 54 rfl w.heap.size 68 (.agg #[.int .i64 0, .int .i64 0, .int .u64 0, .int .u64 0, .int .u64 0, .int .u64 0, .int .u64 0, .int .u64 0, .int .u64 0, .int .u64 0, .int .u64 0, .int .u64 0, .int .u64 0, .int .u64 0, .int .u64 0, .int .u64 0, .int .u64 0, .int .u64 0, .bool false, .bool false]) 20 152 Tryz.underlying54 info_cloneMt rfl (by decide) (.slice av no capv) no _ rfl hown _ _ 1 (enc x) rfl hRN (by rw [he]) (h1c x) (by unfold maxLen; omega) (by omega) (by omega) ?_
    intro v' wb hown2 hgrow hmov
    obtain ⟨a2, cap2, rfl⟩ := own_form hown2
    have HBb := HBa.grown hgrow (by omega) (fun k e => (hown.lt k e).1)
    clear hHeld
    refine hK.out _ _ ?hS5 (fun hHeld => ?_)
    case hS5 => ((try dsimp only); exact HBb)
    clear hK K
    (try simp only [td])
    refine takeL 8 (v := ?_) rfl (by kernel_rfl) (by kernel_rfl) (by kernel_rfl) (fun _ _ _ h => h) (by rfl) (by assumption) ?hy8 ?_
    case hy8 => (intro w hSw; (try dsimp only at hSw); go_simp; all_goals with_reducible rfl)
    (try simp only [td])
    refine takeL 9 (v := ?_) rfl (by kernel_rfl) (by kernel_rfl) (by kernel_rfl) (fun _ _ _ h => h) (by rfl) (by assumption) ?hy9 ?_
    case hy9 => (intro w hSw; (try dsimp only at hSw); go_simp; all_goals with_reducible rfl)
    (try simp only [td])
    refine wpAnyH_done (by kernel_rfl) ?_ _
    go_wp2_with fail
    go_roundg q
    case measure => omega
    case rel => exact ⟨ta, y :: tb, out ++ [x], adx, some ⟨gy, oy, none⟩, a2, (na - 1), (ca - 1), nb, cb, no + 1, cap2, hH (by rw [HM.out, HM2.out]; simp), by omega, hH (by rw [Hno.out]; simp), hH (by have := Hna.out; simp at this ⊢; omega), hH (by have := Hnb.out; simp at this ⊢; omega), by omega, rfl, rfl, rfl, hH (HAx.out ▸ HA.out.tail), hH (HBs.out), hH ⟨fun z hz => HD.out.1 z (List.mem_cons_of_mem _ hz), HD.out.2⟩, hH (by simpa using hown2), hH HBb⟩
  ·have HE : Hid ((out.map enc).flatten ++ ((xa.map enc).flatten ++ (xb.map enc).flatten) = ((mg la lb).map enc).flatten) := hH (by
    rw [HM.out, Hmg.out]
    rcases Nat.eq_zero_or_pos na with h | h
    ·have : xa = [] := List.eq_nil_of_length_eq_zero (by have := Hna.out; omega)
     subst this; rw [mgB_nil]; simp
    ·have : xb = [] := List.eq_nil_of_length_eq_zero (by have := Hnb.out; omega)
     subst this; rw [mgB_nil_right]; simp)
   have hfa : (xa.map enc).length = na := by rw [List.length_map, Hna.out]
   have hfb : (xb.map enc).length = nb := by rw [List.length_map, Hnb.out]
   have HC : Hid (∀ l : List α, ∀ u ∈ (l.map enc).flatten, u.oneCell' = true) := hH (fun l u hu => by
    obtain ⟨cs, h1, h2⟩ := List.mem_flatten.1 hu
    obtain ⟨x, _, rfl⟩ := List.mem_map.1 h1
    exact h1c x u h2)
   have hszx := HB.out.size
   by_cases hz : 0 < na
   ·have hz2 : ¬ 0 < nb := fun h => hgo ⟨hz, h⟩
    clear hgo
    go_upto_region 6 with (fail)
    refine pl_start ?_
    refine pl_val (v := ?_) (by rfl) ?hy1 ?_
    case hy1 => (go_simp; all_goals with_reducible rfl)
    (try simp only [td])
    refine pl_val (v := ?_) (by rfl) ?hy2 ?_
    case hy2 => (go_simp; all_goals with_reducible rfl)
    (try simp only [td])
    refine pl_appendS _ rfl _ _ 54 rfl w.heap.size 68 (.agg #[.int .i64 0, .int .i64 0, .int .u64 0, .int .u64 0, .int .u64 0, .int .u64 0, .int .u64 0, .int .u64 0, .int .u64 0, .int .u64 0, .int .u64 0, .int .u64 0, .int .u64 0, .int .u64 0, .int .u64 0, .int .u64 0, .int .u64 0, .int .u64 0, .bool false, .bool false]) 20 152 Tryz.underlying54 info_cloneMt rfl (by decide) (.slice av no capv) no _ rfl HO.out _ (xa.map enc) rfl (HA.out.call HB.out) (HC.out _) (by rw [hfa]; unfold maxLen; omega) (by rw [hfa]; omega) hszx ?_
    intro v1 y1 r1 g1
    rw [hfa] at r1
    obtain ⟨a3, cap3, rfl⟩ := own_form r1
    have HB1 := HB.out.grown g1 hszx (fun k e => (HO.out.lt k e).1)
    have hszy := HB1.size
    (try simp only [td])
    refine pl_val (v := ?_) (by rfl) ?hy4 ?_
    case hy4 => (go_simp; all_goals with_reducible rfl)
    (try simp only [td])
    refine pl_appendS _ rfl _ _ 54 rfl w.heap.size 68 (.agg #[.int .i64 0, .int .i64 0, .int .u64 0, .int .u64 0, .int .u64 0, .int .u64 0, .int .u64 0, .int .u64 0, .int .u64 0, .int .u64 0, .int .u64 0, .int .u64 0, .int .u64 0, .int .u64 0, .int .u64 0, .int .u64 0, .int .u64 0, .int .u64 0, .bool false, .bool false]) 20 152 Tryz.underlying54 info_cloneMt rfl (by decide) (.slice a3 (no + na) cap3) _ _ rfl r1 _ (xb.map enc) rfl (HBs.out.call HB1) (HC.out _) (by rw [hfb]; unfold maxLen; omega) (by rw [hfb]; omega) hszy ?_
    intro v2 y2 r2 g2
    rw [hfb] at r2
    obtain ⟨a4, cap4, rfl⟩ := own_form r2
    have HB2 := HB1.grown g2 hszy (fun k e => (r1.lt k e).1)
    (try simp only [td])
    refine pl_val (v := ?_) (by rfl) ?hy6 ?_
    case hy6 => (go_simp; all_goals with_reducible rfl)
    (try simp only [td])
    refine pl_end ?_
    go_wp2_with fail
    go_ret
    refine ⟨_, rfl, SlC.of_own (base := w.heap.size) (t := 68) ?_ (by intro e h; obtain ⟨x, _, rfl⟩ := List.mem_map.1 h; exact he x), HB2⟩
    have hl : ((mg la lb).map enc).length = n := by rw [List.length_map, HM.out, List.length_append, HLen.out]; have := Hna.out; have := Hnb.out; have := Hno.out; omega
    rw [hl, ← HE.out]
    rw [List.append_assoc, hlen] at r2
    exact r2
   ·clear hgo
    go_upto_region 6 with (fail)
    refine pl_start ?_
    refine pl_val (v := ?_) (by rfl) ?hy1 ?_
    case hy1 => (go_simp; all_goals with_reducible rfl)
    (try simp only [td])
    refine pl_val (v := ?_) (by rfl) ?hy2 ?_
    case hy2 => (go_simp; all_goals with_reducible rfl)
    (try simp only [td])
    refine pl_appendS _ rfl _ _ 54 rfl w.heap.size 68 (.agg #[.int .i64 0, .int .i64 0, .int .u64 0, .int .u64 0, .int .u64 0, .int .u64 0, .int .u64 0, .int .u64 0, .int .u64 0, .int .u64 0, .int .u64 0, .int .u64 0, .int .u64 0, .int .u64 0, .int .u64 0, .int .u64 0, .int .u64 0, .int .u64 0, .bool false, .bool false]) 20 152 Tryz.underlying54 info_cloneMt rfl (by decide) (.slice av no capv) no _ rfl HO.out _ (xa.map enc) rfl (HA.out.call HB.out) (HC.out _) (by rw [hfa]; unfold maxLen; omega) (by rw [hfa]; omega) hszx ?_
    intro v1 y1 r1 g1
    rw [hfa] at r1
    obtain ⟨a3, cap3, rfl⟩ := own_form r1
    have HB1 := HB.out.grown g1 hszx (fun k e => (HO.out.lt k e).1)
    have hszy := HB1.size
    (try simp only [td])
    refine pl_val (v := ?_) (by rfl) ?hy4 ?_
    case hy4 => (go_simp; all_goals with_reducible rfl)
    (try simp only [td])
    refine pl_appendS _ rfl _ _ 54 rfl w.heap.size 68 (.agg #[.int .i64 0, .int .i64 0, .int .u64 0, .int .u64 0, .int .u64 0, .int .u64 0, .int .u64 0, .int .u64 0, .int .u64 0, .int .u64 0, .int .u64 0, .int .u64 0, .int .u64 0, .int .u64 0, .int .u64 0, .int .u64 0, .int .u64 0, .int .u64 0, .bool false, .bool false]) 20 152 Tryz.underlying54 info_cloneMt rfl (by decide) (.slice a3 (no + na) cap3) _ _ rfl r1 _ (xb.map enc) rfl (HBs.out.call HB1) (HC.out _) (by rw [hfb]; unfold maxLen; omega) (by rw [hfb]; omega) hszy ?_
    intro v2 y2 r2 g2
    rw [hfb] at r2
    obtain ⟨a4, cap4, rfl⟩ := own_form r2
    have HB2 := HB1.grown g2 hszy (fun k e => (r1.lt k e).1)
    (try simp only [td])
    refine pl_val (v := ?_) (by rfl) ?hy6 ?_
    case hy6 => (go_simp; all_goals with_reducible rfl)
    (try simp only [td])
    refine pl_end ?_
    go_wp2_with fail
    go_ret
    refine ⟨_, rfl, SlC.of_own (base := w.heap.size) (t := 68) ?_ (by intro e h; obtain ⟨x, _, rfl⟩ := List.mem_map.1 h; exact he x), HB2⟩
    have hl : ((mg la lb).map enc).length = n := by rw [List.length_map, HM.out, List.length_append, HLen.out]; have := Hna.out; have := Hnb.out; have := Hno.out; omega
    rw [hl, ← HE.out]
    rw [List.append_assoc, hlen] at r2
    exact r2
end Go.Proofs.YthbplhglfjlngaaGreat
namespace Go.Proofs.YthbplhglfjlngaaGreat
open Go.RowKit Go.Rg Go.Wd Go.Mg
attribute [local go_sem] Oper.semAt_some
set_option maxHeartbeats 4000000 in
theorem sortMt_any {α : Type} (enc : α → List Value) (he : ∀ x, (enc x).length = 20) (h1c : ∀ x, ∀ u ∈ enc x, u.oneCell' = true) (fv : FuncId) (hfn : ∀ args w, (callFunc fv args).run Tryz.prog w = .ok (.enter fv args) w) (ord : α → α → Int) (D : α → Prop)
  (hord : ∀ y x, D y → D x → ∀ w : World, Calls Tryz.prog fv #[.agg (enc y).toArray, .agg (enc x).toArray] w fun e w' => e = .returned (.int .i64 (ord y x)) ∧ Below w.heap.size w w')
  (l : List α) (v : Value) (w : World) (hv : SlC w v 20 (l.map enc)) (hD : ∀ x ∈ l, D x) (hb : l.length * 152 ≤ 140737488355328) :
  Calls Tryz.prog 21 #[v, .func (.func fv) #[] #[]] w fun e w' => ∃ v', e = .returned v' ∧ SlC w' v' 20 ((sortB (fun x y => !decide (ord y x < 0)) l).map enc) ∧ Below w.heap.size w w' := by
 have HC : Hid (∀ l : List α, ∀ u ∈ (l.map enc).flatten, u.oneCell' = true) := hH (fun l u hu => by
  obtain ⟨cs, h1, h2⟩ := List.mem_flatten.1 hu
  obtain ⟨x, _, rfl⟩ := List.mem_map.1 h1
  exact h1c x u h2)
 obtain ⟨le, Hle⟩ : ∃ m : α → α → Bool, Hid (m = fun x y => !decide (ord y x < 0)) := ⟨_, hH rfl⟩
 rw [← Hle.out]
 obtain ⟨n, Hn⟩ : ∃ n, Hid (n = l.length) := ⟨_, hH rfl⟩
 have hnb : n * 152 ≤ 140737488355328 := by rw [Hn.out]; exact hb
 have HD0 := hH hD
 go_enter Tryz.func21, Tryz.ntmps21
 go_wp2_with fail
 refine (cloneMt_any v (l.map enc) w hv (HC.out l) (by rw [List.length_map]; exact hb)).mono ?_
 rintro e w1 ⟨v1, rfl, hs1, hb1⟩
 obtain ⟨a1, c1, rfl, hn1, hc1⟩ := hs1.form
 rw [List.length_map, ← Hn.out] at hs1 hn1 ⊢
 unfold maxLen at hc1
 go_wp2_with fail
 go_loopg [5, 6] n (fun q s5 s6 wx => ∃ (cur : List α) (ac : Option Addr) (k cc : Nat), Hid (sortB le l = sortG le q k cur) ∧ Hid (cur.length = n) ∧ 1 ≤ k ∧ k ≤ 2 * n + 1 ∧ n < k + q ∧ n ≤ cc ∧ cc ≤ 9223372036854775807 ∧ s5 = .slice ac n cc ∧ s6 = .int .i64 (k : Int) ∧ Hid (SlC wx (.slice ac n cc) 20 (cur.map enc)) ∧ Hid (∀ x ∈ cur, D x) ∧ Hid (Below w.heap.size w wx))
 case atStart => exact ⟨l, a1, 1, c1, hH (by rw [Hn.out]; rfl), hH Hn.out.symm, by omega, by omega, by omega, hn1, hc1, rfl, rfl, hH hs1, HD0, hH hb1⟩
 case round =>
  clear hv hs1 hb1 hD HD0 hb hn1 hc1
  rename World => W
  obtain ⟨cur, ac, k, cc, HS, Hcl, hk1, hk2, hq, hcc, hcm, rfl, rfl, HC1, HD, HB⟩ := hrel
  obtain ⟨k2, Hk2⟩ : ∃ m, Hid (m = 2 * k) := ⟨_, hH rfl⟩
  have hk2b : k2 ≤ 70368744177664 := by rw [Hk2.out]; omega
  have t1 : (k : Int) * 2 = (k2 : Int) := by rw [Hk2.out]; omega
  have t2 : 2 * (k : Int) = (k2 : Int) := by rw [Hk2.out]; omega
  by_cases hkn : k < n
  ·have t0 : (k : Int) < (n : Int) := by omega
   cases gk with
   | zero => omega
   | succ q =>
   have Hkn := hH hkn
   have hwr := HB.out.size
   go_wp2_with fail
   go_loopg [7, 8] n (fun q2 s7 s8 wx => ∃ (P : List α) (av : Option Addr) (at' no capv : Nat), Hid (passB le k n cur = P ++ passB le k q2 (cur.drop at')) ∧ n ≤ at' + q2 ∧ no + (n - at') = n ∧ at' ≤ 2 * n + k2 ∧ Hid (no = P.length) ∧ s7 = .slice av no capv ∧ s8 = .int .i64 (at' : Int) ∧ Hid (wx.ownsRow W.heap.size 68 20 (.slice av no capv) no (P.map enc).flatten) ∧ Hid (Below W.heap.size W wx) ∧ Hid (∀ x ∈ P, D x))
   case atStart => exact ⟨[], none, 0, 0, 0, hH (by simp), by omega, by omega, by omega, hH rfl, rfl, by first | rfl | simp, hH ⟨by simp, .inl ⟨rfl, rfl⟩⟩, hH (Below.refl _ _), hH (by simp)⟩
   case round =>
    clear hcm t1
    obtain ⟨P, av, at', no, capv, HP, hq2, hno, hat, Hno, rfl, rfl, HO, HBq, HDP⟩ := hrel
    have hwq := HBq.out.size
    by_cases han : at' < n
    ·have t3 : (at' : Int) < (n : Int) := by omega
     cases gk with
     | zero => omega
     | succ q2 =>
     obtain ⟨p1, Hp1⟩ : ∃ m, Hid (m = at' + k) := ⟨_, hH rfl⟩
     obtain ⟨p2, Hp2⟩ : ∃ m, Hid (m = at' + k2) := ⟨_, hH rfl⟩
     obtain ⟨m1, Hm1⟩ : ∃ m, Hid (m = min p1 n) := ⟨_, hH rfl⟩
     obtain ⟨m2, Hm2⟩ : ∃ m, Hid (m = min p2 n) := ⟨_, hH rfl⟩
     have t4 : (at' : Int) + (k : Int) = (p1 : Int) := by rw [Hp1.out]; omega
     have t5 : (at' : Int) + (k2 : Int) = (p2 : Int) := by rw [Hp2.out]; omega
     have t6 : min (p1 : Int) (n : Int) = (m1 : Int) := by rw [Hm1.out]; omega
     have t7 : min (p2 : Int) (n : Int) = (m2 : Int) := by rw [Hm2.out]; omega
     have b1 : p1 ≤ 140737488355328 := by rw [Hp1.out]; omega
     have b2 : p2 ≤ 140737488355328 := by rw [Hp2.out]; omega
     have b3 : at' ≤ m1 := by rw [Hm1.out, Hp1.out]; omega
     have b4 : m1 ≤ m2 := by rw [Hm1.out, Hm2.out, Hp1.out, Hp2.out, Hk2.out]; omega
     have b5 : m2 ≤ n := by rw [Hm2.out]; omega
     obtain ⟨ad1, HA1⟩ : ∃ q : Option Addr, Hid (q = if cc = at' then ac else ac.map (·.add (at' * 20))) := ⟨_, hH rfl⟩
     obtain ⟨ad2, HA2⟩ : ∃ q : Option Addr, Hid (q = if cc = m1 then ac else ac.map (·.add (m1 * 20))) := ⟨_, hH rfl⟩
     have hcl : (cur.map enc).length = n := by rw [List.length_map, Hcl.out]
     obtain ⟨L1, HL1e⟩ : ∃ l, Hid (l = (cur.drop at').take k) := ⟨_, hH rfl⟩
     obtain ⟨L2, HL2e⟩ : ∃ l, Hid (l = ((cur.drop at').drop k).take k) := ⟨_, hH rfl⟩
     obtain ⟨mm, Hmm⟩ : ∃ m, Hid (m = m2 - at') := ⟨_, hH rfl⟩
     have HS1 : Hid (SlC W (.slice ad1 (m1 - at') (cc - at')) 20 (L1.map enc)) := hH (by
      rw [HL1e.out]
      have := HC1.out.sub at' m1 b3 (by omega)
      rw [← HA1.out] at this
      rw [← take_drop_map enc cur at' k n Hcl.out (by omega), ← Hp1.out, ← Hm1.out]
      exact this)
     have HS2 : Hid (SlC W (.slice ad2 (m2 - m1) (cc - m1)) 20 (L2.map enc)) := hH (by
      rw [HL2e.out]
      have := HC1.out.sub m1 m2 b4 (by omega)
      rw [← HA2.out] at this
      rw [← take_drop_map2 enc cur at' k n Hcl.out (by omega), ← Hp1.out, ← Hk2.out, ← Hp2.out, ← Hm1.out, ← Hm2.out]
      exact this)
     have HL1 : Hid (L1.length = m1 - at') := hH (by rw [HL1e.out, List.length_take, List.length_drop, Hcl.out, Hm1.out, Hp1.out]; omega)
     have HL2 : Hid (L2.length = m2 - m1) := hH (by rw [HL2e.out, List.length_take, List.length_drop, List.length_drop, Hcl.out, Hm2.out, Hm1.out, Hp1.out, Hp2.out, Hk2.out]; omega)
     have HStep : Hid (passB le k (q2 + 1) (cur.drop at') = mgB le L1 L2 ++ passB le k q2 (cur.drop p2)) := hH (by
      rw [HL1e.out, HL2e.out]
      have e : cur.drop p2 = (cur.drop at').drop (2 * k) := by rw [List.drop_drop, Hp2.out, Hk2.out]
      rw [e, passB_step le k q2 (fun h => by have := congrArg List.length h; rw [List.length_drop, Hcl.out] at this; simp at this; omega)])
     clear hcl
     go_upto_region 10 with (fail)
     refine wp_region_held_drew (S := fun w' => Below W.heap.size W w') (by kernel_rfl) HBq.out.drew (fun hHeld => ?_)
     refine takeL 0 (v := ?_) rfl (by kernel_rfl) (by kernel_rfl) (by kernel_rfl) (fun _ _ _ h => h) (by rfl) (by assumption) ?hy0 ?_
     case hy0 => (intro w hSw; (try dsimp only at hSw); go_simp; all_goals with_reducible rfl)
     (try simp only [td])
     refine takeL 1 (v := ?_) rfl (by kernel_rfl) (by kernel_rfl) (by kernel_rfl) (fun _ _ _ h => h) (by rfl) (by assumption) ?hy1 ?_
     case hy1 => (intro w hSw; (try dsimp only at hSw); go_simp; all_goals with_reducible rfl)
     (try simp only [td])
     refine takeL 2 (v := ?_) rfl (by kernel_rfl) (by kernel_rfl) (by kernel_rfl) (fun _ _ _ h => h) (by rfl) (by assumption) ?hy2 ?_
     case hy2 => (intro w hSw; (try dsimp only at hSw); go_simp; all_goals with_reducible rfl)
     (try simp only [td])
     refine takeL 3 (v := ?_) rfl (by kernel_rfl) (by kernel_rfl) (by kernel_rfl) (fun _ _ _ h => h) (by rfl) (by assumption) ?hy3 ?_
     case hy3 => (intro w hSw; (try dsimp only at hSw); go_simp; all_goals with_reducible rfl)
     (try simp only [td])
     refine takeL 4 (v := .slice ad1 (m1 - at') (cc - at')) rfl (by kernel_rfl) (by kernel_rfl) (by kernel_rfl) (fun _ _ _ h => h) (by rfl) (by assumption) ?hy4 ?_
     case hy4 => (intro w hSw; exact by rw [HA1.out]; exact x_sub (k := at') (m := m1) (E := 68) (sz := 20) rfl (by rfl) (by rfl) (by rfl) (by omega) (by omega) Tryz.underlying54 size_cloneMt)
     (try simp only [td])
     refine takeL 5 (v := ?_) rfl (by kernel_rfl) (by kernel_rfl) (by kernel_rfl) (fun _ _ _ h => h) (by rfl) (by assumption) ?hy5 ?_
     case hy5 => (intro w hSw; (try dsimp only at hSw); go_simp; all_goals with_reducible rfl)
     (try simp only [td])
     refine takeL 6 (v := ?_) rfl (by kernel_rfl) (by kernel_rfl) (by kernel_rfl) (fun _ _ _ h => h) (by rfl) (by assumption) ?hy6 ?_
     case hy6 => (intro w hSw; (try dsimp only at hSw); go_simp; all_goals with_reducible rfl)
     (try simp only [td])
     refine takeL 7 (v := ?_) rfl (by kernel_rfl) (by kernel_rfl) (by kernel_rfl) (fun _ _ _ h => h) (by rfl) (by assumption) ?hy7 ?_
     case hy7 => (intro w hSw; (try dsimp only at hSw); go_simp; all_goals with_reducible rfl)
     (try simp only [td])
     refine takeL 8 (v := .slice ad2 (m2 - m1) (cc - m1)) rfl (by kernel_rfl) (by kernel_rfl) (by kernel_rfl) (fun _ _ _ h => h) (by rfl) (by assumption) ?hy8 ?_
     case hy8 => (intro w hSw; exact by rw [HA2.out]; exact x_sub (k := m1) (m := m2) (E := 68) (sz := 20) rfl (by rfl) (by rfl) (by rfl) (by omega) (by omega) Tryz.underlying54 size_cloneMt)
     (try simp only [td])
     refine takeL 9 (v := ?_) rfl (by kernel_rfl) (by kernel_rfl) (by kernel_rfl) (fun _ _ _ h => h) (by rfl) (by assumption) ?hy9 ?_
     case hy9 => (intro w hSw; (try dsimp only at hSw); go_simp; all_goals with_reducible rfl)
     (try simp only [td])
     refine consL 10 (by kernel_rfl) rfl (by rfl) (fun K hK => ?_)
     go_simp
     go_at_call 51
     refine (mergeMt_any enc he h1c fv hfn ord D hord L1 L2 _ _ _ (HS1.out.call HBq.out.drew) (HS2.out.call HBq.out.drew) (fun x hx => HD.out x (by rw [HL1e.out] at hx; exact List.mem_of_mem_drop (List.mem_of_mem_take hx))) (fun x hx => HD.out x (by rw [HL2e.out] at hx; exact List.mem_of_mem_drop (List.mem_of_mem_drop (List.mem_of_mem_take hx)))) (by have := HL1.out; have := HL2.out; omega)).mono ?_
     rintro e wm ⟨vm, rfl, hsm, hbm⟩
     rw [← Hle.out] at hsm
     obtain ⟨es, Hes⟩ : ∃ es, Hid (es = (mgB le L1 L2).map enc) := ⟨_, hH rfl⟩
     have hle : es.length = mm := by rw [Hes.out, List.length_map, mgB_len, HL1.out, HL2.out, Hmm.out]; omega
     rw [← Hes.out] at hsm
     obtain ⟨am, cm, e, hnm, hcm⟩ := hsm.form
     rw [hle] at e hnm
     subst e
     have HSm := hH hsm
     replace hbm : Below wr.heap.size wr wm := (Below.refl _ wr).drew.trans hbm
     have hown := own_call HO.out hbm
     have hbw : Below W.heap.size W wm := HBq.out.trans (hbm.mono HBq.out.size)
     have HBm := hH hbw
     have hmm := hbw.size
     have Hle2 := hH hle
     clear hle hnm hcm
     clear hsm hbm hbw
     clear hHeld
     refine hK.out _ _ ?hS10 (fun hHeld => ?_)
     case hS10 => ((try dsimp only); exact HBm.out)
     clear hK K
     (try simp only [td])
     refine consL 11 (by kernel_rfl) rfl (by rfl) (fun K hK => ?_)
     refine wp_appendS _ _ _ 54 rfl W.heap.size 68 (.agg #[.int .i64 0, .int .i64 0, .int .u64 0, .int .u64 0, .int .u64 0, .int .u64 0, .int .u64 0, .int .u64 0, .int .u64 0, .int .u64 0, .int .u64 0, .int .u64 0, .int .u64 0, .int .u64 0, .int .u64 0, .int .u64 0, .int .u64 0, .int .u64 0, .bool false, .bool false]) 20 152 Tryz.underlying54 info_cloneMt rfl (by decide) (.slice av no capv) no _ rfl hown _ _ rfl HSm.out (by rw [Hes.out]; exact HC.out _) (by rw [Hle2.out]; have := Hmm.out; unfold maxLen; omega) (by rw [Hle2.out]; have := Hmm.out; omega) hmm ?_
     intro v' wb hown2 hgrow
     rw [Hle2.out] at hown2
     obtain ⟨a2, cap2, rfl⟩ := own_form hown2
     have HBb := hH (HBm.out.grown hgrow hmm (fun k e => (hown.lt k e).1))
     clear hHeld
     refine hK.out _ _ ?hS11 (fun hHeld => ?_)
     case hS11 => ((try dsimp only); exact HBb.out)
     clear hK K
     (try simp only [td])
     refine takeL 12 (v := ?_) rfl (by kernel_rfl) (by kernel_rfl) (by kernel_rfl) (fun _ _ _ h => h) (by rfl) (by assumption) ?hy12 ?_
     case hy12 => (intro w hSw; (try dsimp only at hSw); go_simp; all_goals with_reducible rfl)
     (try simp only [td])
     refine wpAnyH_done (by kernel_rfl) ?_ _
     have b6 : no + mm + (n - p2) = n := by have := Hmm.out; rw [Hm2.out] at this; omega
     have HO2 := hH hown2
     clear hown hown2 hgrow hmm
     go_wp2_with fail
     go_roundg q2
     case measure => omega
     case rel => exact ⟨P ++ mgB le L1 L2, a2, p2, no + mm, cap2, hH (by rw [HP.out, HStep.out, List.append_assoc]), by rw [Hp2.out, Hk2.out]; omega, b6, by rw [Hp2.out]; omega, hH (by rw [List.length_append, mgB_len, HL1.out, HL2.out, Hno.out, Hmm.out]; omega), rfl, rfl, hH (by rw [List.map_append, List.flatten_append, ← Hes.out]; exact HO2.out), HBb, hH (fun x hx => by
      rcases List.mem_append.1 hx with h | h
      ·exact HDP.out x h
      ·rcases mgB_mem.1 h with h | h
       ·rw [HL1e.out] at h; exact HD.out x (List.mem_of_mem_drop (List.mem_of_mem_take h))
       ·rw [HL2e.out] at h; exact HD.out x (List.mem_of_mem_drop (List.mem_of_mem_drop (List.mem_of_mem_take h))))⟩
    ·have t3 : ¬ (at' : Int) < (n : Int) := by omega
     have hnn : no = n := by omega
     subst hnn
     have t1 : (k : Int) * 2 = (k2 : Int) := by rw [Hk2.out]; omega
     go_wp2_with fail
     go_roundg q
     case measure => omega
     case rel =>
      have hl : (P.map enc).length = no := by rw [List.length_map, Hno.out]
      have hpp : passB le k no cur = P := by rw [HP.out, List.drop_of_length_le (by rw [Hcl.out]; omega), passB_nil, List.append_nil]
      obtain ⟨_, _, e9, h8, h9⟩ := (SlC.of_own (es := P.map enc) (by rw [hl]; exact HO.out) (by intro e h; obtain ⟨x, _, rfl⟩ := List.mem_map.1 h; exact he x)).form
      rw [hl] at e9 h8
      injection e9 with e91 e92 e93
      refine ⟨P, av, k2, capv, hH ?_, hH Hno.out.symm, by rw [Hk2.out]; omega, by rw [Hk2.out]; omega, by rw [Hk2.out]; omega, by omega, by unfold maxLen at h9; omega, rfl, rfl, hH ?_, hH HDP.out, hH (HB.out.trans (HBq.out.mono HB.out.size))⟩
      ·rw [HS.out, sortG, if_pos (by rw [Hcl.out]; exact Hkn.out), Hcl.out, hpp, Hk2.out]
      ·have := SlC.of_own (es := P.map enc) (by rw [hl]; exact HO.out) (by intro e h; obtain ⟨x, _, rfl⟩ := List.mem_map.1 h; exact he x)
       exact this
  ·have t0 : ¬ (k : Int) < (n : Int) := by omega
   go_wp2_with fail
   go_ret
   refine ⟨_, rfl, ?_, HB.out⟩
   have : sortB le l = cur := by
    rw [HS.out]
    cases gk with
    | zero => rfl
    | succ q => rw [sortG, if_neg (by rw [Hcl.out]; exact hkn)]
   rw [this]
   exact HC1.out
end Go.Proofs.YthbplhglfjlngaaGreat
namespace Go.Proofs.YthbplhglfjlngaaGreat
open Go.RowKit Go.Rg Go.Wd Go.Mg
attribute [local go_sem] Oper.semAt_some
theorem st0_one : st0V.cells.all (·.oneCell') = true := by unfold st0V; simp [Value.cells, Value.oneCell']
theorem metV_one (x y : Int) (s : Stz) : (metV x y s).cells.all (·.oneCell') = true := by unfold metV u64; simp [Value.cells, Value.oneCell']
theorem met_one (x y : Int) (s : Stz) : ∀ u ∈ metL x y s, u.oneCell' = true := by intro u hu; unfold metL stL u64 at hu; simp at hu; rcases hu with rfl | rfl | rfl | rfl | rfl | rfl | rfl | rfl | rfl | rfl | rfl | rfl | rfl | rfl | rfl | rfl | rfl | rfl | rfl | rfl <;> rfl
theorem range_pre {w : World} {b o : Nat} {cs ds : List Value} (h : w.rangeAt b o (cs ++ ds)) : w.rangeAt b o cs := fun j v hj => h j v (by rw [List.getElem?_append_left (List.getElem?_eq_some_iff.1 hj).1]; exact hj)
theorem metL_len (x y : Int) (s : Stz) : (metL x y s).length = 20 := rfl
theorem info_met : (Tryz.prog.info? 68).map (fun i => (i.zero, i.size)) = some (some (.agg #[.int .i64 0, .int .i64 0, .int .u64 0, .int .u64 0, .int .u64 0, .int .u64 0, .int .u64 0, .int .u64 0, .int .u64 0, .int .u64 0, .int .u64 0, .int .u64 0, .int .u64 0, .int .u64 0, .int .u64 0, .int .u64 0, .int .u64 0, .int .u64 0, .bool false, .bool false]), 20) := info_small info_cloneMt
theorem enter_near (args : Array Value) (w : World) : (callFunc 43 args).run Tryz.prog w = .ok (.enter 43 args) w := enters_of Tryz.func43 (by kernel_rfl) rfl args w
theorem enter_of1 (args : Array Value) (w : World) : (callFunc 22 args).run Tryz.prog w = .ok (.enter 22 args) w := enters_of Tryz.func22 (by kernel_rfl) rfl args w
theorem nearF_any (R : Nat) (lx ly hx hy : Int) (w : World) : Calls Tryz.prog 19 #[.pointer (some ⟨R, 0, none⟩), pV lx ly, pV hx hy] w fun e w' => e = .returned (.func (.func 43) #[] #[.pointer (some ⟨w.heap.size, 0, none⟩), .pointer (some ⟨w.heap.size + 1, 0, none⟩), .pointer (some ⟨w.heap.size + 2, 0, none⟩)]) ∧ [.cells #[.pointer (some ⟨R, 0, none⟩)] 30, .cells #[.int .i64 lx, .int .i64 ly] 23, .cells #[.int .i64 hx, .int .i64 hy] 23].foldl World.alloc w = w' := by
 go_enter Tryz.func19, Tryz.ntmps19
 go_wp2_with fail
 go_ret
 first | exact ⟨rfl, rfl⟩ | (refine ⟨?_, rfl⟩; simp) | trace_state
def metOf (a b c d size : Int) (p : Int × Int) : Option ((Int × Int) × Stz) := (cutZ a b c d p.1 p.2 size).map fun s => (p, s)
def metsB (a b c d size : Int) (l : List (Int × Int)) : List ((Int × Int) × Stz) := l.filterMap (metOf a b c d size)
def mtE (m : (Int × Int) × Stz) : List Value := metL m.1.1 m.1.2 m.2
def nearS (a b c d size : Int) (rows : List (Int × List Int)) : List (Int × Int) := nearB rows (min (cellZ a 1 size) (cellZ c 1 size)) (min (cellZ b 1 size) (cellZ d 1 size)) (max (cellZ a 1 size) (cellZ c 1 size)) (max (cellZ b 1 size) (cellZ d 1 size))
def ofB (a b c d size : Int) (rows : List (Int × List Int)) : List (Int × Int) := (sortB (fun x y : (Int × Int) × Stz => !decide (aheadZ y.2 x.2 < 0)) (metsB a b c d size (nearS a b c d size rows))).map (·.1)
theorem SlC_of_ints {w : World} {v : Value} {xs : List Int} (h : RdT 3 w v xs.length (xs.map (.int .i64))) : SlC w v 1 (intE xs) := by
 rcases h with ⟨rfl, h0, h1⟩ | ⟨g, off, cap, cs, fz, rfl, hg, hn, hc, hcell⟩
 ·have : xs = [] := List.eq_nil_of_length_eq_zero h0
  subst this; exact SlC.nil w 1
 ·refine ⟨_, cap, by unfold intE; rw [List.length_map], by unfold intE; rw [List.length_map]; exact hn, hc, fun e he => by unfold intE at he; obtain ⟨x, _, rfl⟩ := List.mem_map.1 he; rfl, fun _ => ⟨g, off, rfl, (Array.getElem?_eq_some_iff.1 hg).1, fun i e hi j u hj => ?_⟩⟩
  unfold intE at hi
  rw [List.getElem?_map] at hi
  obtain ⟨x, hx, rfl⟩ := Option.map_eq_some_iff.1 hi
  have hj0 : j = 0 := by have := (List.getElem?_eq_some_iff.1 hj).1; simp at this; omega
  subst hj0
  simp only [List.getElem?_cons_zero, Option.some.injEq] at hj
  subst hj
  have := hcell i (.int .i64 x) (by rw [List.getElem?_map, hx]; rfl)
  simp [World.cell?, hg, this]
set_option maxHeartbeats 4000000 in
theorem ofC_any (a b c d size : Int) (R : Nat) (ps : List (Int × Int)) (w : World) (hg : sgB a b c d = true) (hs : szB size = true) (hset : SetW w R ps) (hry : Rising ((setR ps).map (·.1))) (hrx : ∀ r ∈ setR ps, Rising r.2)
  (hpt : ∀ p ∈ nearS a b c d size (setR ps), ptB p.1 p.2 = true) (hbd : (nearS a b c d size (setR ps)).length * 152 ≤ 140737488355328 - 152) :
  Calls Tryz.prog 8 #[gV a b c d, .pointer (some ⟨R, 0, none⟩), .int .i64 size] w fun e w' => ∃ v, e = .returned (.tuple #[v, .int .i64 0]) ∧ SlC w' v 2 (ptE (ofB a b c d size (setR ps))) ∧ Below w.heap.size w w' := by
 obtain ⟨near, Hnear⟩ : ∃ l, Hid (l = nearS a b c d size (setR ps)) := ⟨_, hH rfl⟩
 have HO : Hid (ofB a b c d size (setR ps) = (sortB (fun x y : (Int × Int) × Stz => !decide (aheadZ y.2 x.2 < 0)) (metsB a b c d size near)).map (·.1)) := hH (by rw [Hnear.out]; rfl)
 rw [HO.out]
 rw [← Hnear.out] at hpt hbd
 have HPt := hH hpt
 have HRy := hH hry
 have HRx := hH hrx
 have HSet := hH hset
 have HGs := hH hg
 have HSz := hH hs
 clear hpt hry hrx hset hg hs HO
 obtain ⟨W0, hW0⟩ : ∃ W0, [.cells #[.int .i64 a, .int .i64 b, .int .i64 c, .int .i64 d] 25, .cells #[.int .i64 size] 3].foldl World.alloc w = W0 := ⟨_, rfl⟩
 have B3 : Blk W0 w.heap.size [.int .i64 a, .int .i64 b, .int .i64 c, .int .i64 d] 25 := Blk.allocs _ hW0 0 rfl
 have B5 : Blk W0 (w.heap.size + 1) [.int .i64 size] 3 := Blk.allocs _ hW0 1 rfl
 have hb0 : Below w.heap.size w W0 := hW0 ▸ allocs_below _ w
 have hsz0 : W0.heap.size = w.heap.size + 2 := hW0 ▸ allocs_size _ w
 replace hsz0 : w.heap.size + 2 ≤ W0.heap.size := Nat.le_of_eq hsz0.symm
 simp only [List.foldl_cons, List.foldl_nil] at hW0
 refine (calls_iff (r := none) (m := 0)).1 (callsIn_of_wp_marks Tryz.func8 rfl trivial ?_ rfl)
 simp only [Tryz.ntmps8, List.size_toArray, List.length_cons, List.length_nil, Nat.reduceAdd, Nat.reduceSub, Array.replicate_succ, Array.replicate_zero, List.push_toArray, List.append_toArray, List.nil_append, List.cons_append]
 gi_upto_region 1 with (fail)
 (try rw [hW0])
 clear hW0
 have x0 := B3.cell (j := 0) rfl
 have x1 := B3.cell (j := 1) rfl
 have x2 := B3.cell (j := 2) rfl
 have x3 := B3.cell (j := 3) rfl
 have x5 := B5.cell (j := 0) rfl
 gi_wp2_with fail
 refine (calls_iff.2 (box_any a b c d size HGs.out HSz.out W0)).mono ?_
 rintro e w1 ⟨rfl, hb1⟩
 obtain ⟨lx, Hlx⟩ : ∃ z, Hid (z = min (cellZ a 1 size) (cellZ c 1 size)) := ⟨_, hH rfl⟩
 obtain ⟨ly, Hly⟩ : ∃ z, Hid (z = min (cellZ b 1 size) (cellZ d 1 size)) := ⟨_, hH rfl⟩
 obtain ⟨hx, Hhx⟩ : ∃ z, Hid (z = max (cellZ a 1 size) (cellZ c 1 size)) := ⟨_, hH rfl⟩
 obtain ⟨hy, Hhy⟩ : ∃ z, Hid (z = max (cellZ b 1 size) (cellZ d 1 size)) := ⟨_, hH rfl⟩
 have Hne : Hid (near = nearB (setR ps) lx ly hx hy) := hH (by rw [Hnear.out, Hlx.out, Hly.out, Hhx.out, Hhy.out]; rfl)
 rw [← Hlx.out, ← Hly.out, ← Hhx.out, ← Hhy.out]
 clear Hlx Hly Hhx Hhy
 have B3 := B3.call hb1
 have B5 := B5.call hb1
 have hz1 := hb1.size
 have HB1 : Hid (Below w.heap.size w w1) := hH (hb0.trans (hb1.mono hb0.size))
 clear x0 x1 x2 x3 x5 hb0 hb1
 obtain ⟨W4, hW4⟩ : ∃ W4, [.cells #[.int .i64 lx, .int .i64 ly] 23, .cells #[.int .i64 hx, .int .i64 hy] 23, .cells #[.slice none 0 0] 54].foldl World.alloc w1 = W4 := ⟨_, rfl⟩
 have B8 : Blk W4 w1.heap.size [.int .i64 lx, .int .i64 ly] 23 := Blk.allocs _ hW4 0 rfl
 have B9 : Blk W4 (w1.heap.size + 1) [.int .i64 hx, .int .i64 hy] 23 := Blk.allocs _ hW4 1 rfl
 have BL : Blk W4 (w1.heap.size + 2) [.slice none 0 0] 54 := Blk.allocs _ hW4 2 rfl
 have hb4 : Below w1.heap.size w1 W4 := hW4 ▸ allocs_below _ w1
 have hsz4 : W4.heap.size = w1.heap.size + 3 := hW4 ▸ allocs_size _ w1
 replace hsz4 : w1.heap.size + 3 ≤ W4.heap.size := Nat.le_of_eq hsz4.symm
 have B3 := B3.call hb4
 have B5 := B5.call hb4
 have HB4 : Hid (Below w.heap.size w W4) := hH (HB1.out.trans (hb4.mono HB1.out.size))
 simp only [List.foldl_cons, List.foldl_nil] at hW4
 gi_upto_region 5 with (fail)
 (try rw [hW4])
 clear hW4 hb4
 have x0 := B8.cell (j := 0) rfl
 have x1 := B8.cell (j := 1) rfl
 have x2 := B9.cell (j := 0) rfl
 have x3 := B9.cell (j := 1) rfl
 gi_wp2_with fail
 refine (calls_iff.2 (nearF_any R lx ly hx hy W4)).mono ?_
 rintro e ws ⟨rfl, hws⟩
 have C1 : Blk ws W4.heap.size [.pointer (some ⟨R, 0, none⟩)] 30 := Blk.allocs _ hws 0 rfl
 have C2 : Blk ws (W4.heap.size + 1) [.int .i64 lx, .int .i64 ly] 23 := Blk.allocs _ hws 1 rfl
 have C3 : Blk ws (W4.heap.size + 2) [.int .i64 hx, .int .i64 hy] 23 := Blk.allocs _ hws 2 rfl
 have hbs : Below W4.heap.size W4 ws := hws ▸ allocs_below _ W4
 have hszs : ws.heap.size = W4.heap.size + 3 := hws ▸ allocs_size _ W4
 replace hszs : W4.heap.size + 3 ≤ ws.heap.size := Nat.le_of_eq hszs.symm
 have B3 := B3.call hbs
 have B5 := B5.call hbs
 have BL := BL.call hbs
 have HBs : Hid (Below w.heap.size w ws) := hH (HB4.out.trans (hbs.mono HB4.out.size))
 clear hws hbs x0 x1 x2 x3 B8 B9
 obtain ⟨bL, hbL⟩ : ∃ b, b = w1.heap.size + 2 := ⟨_, rfl⟩
 obtain ⟨b3, hb3⟩ : ∃ b, b = w.heap.size := ⟨_, rfl⟩
 obtain ⟨b5, hb5⟩ : ∃ b, b = w.heap.size + 1 := ⟨_, rfl⟩
 have h35 : b3 < b5 := by omega
 have h5L : b5 < bL := by omega
 have h3w : w.heap.size ≤ b3 := by omega
 have hL4 : bL < W4.heap.size := by omega
 rw [← hbL] at BL ⊢
 rw [← hb3] at B3
 rw [← hb5] at B5
 rw [← hb5, ← hb3]
 obtain ⟨Sn, hSn⟩ : ∃ S : Nat → Prop, S = fun j => j < ws.heap.size ∧ j ≠ bL := ⟨_, rfl⟩
 have HSn : Hid (∀ j, Sn j → j < ws.heap.size) := hH (fun j hj => by rw [hSn] at hj; exact hj.1)
 have HSo : Hid (¬ Sn bL) := hH (by rw [hSn]; exact fun h => h.2 rfl)
 have HSi : Hid (∀ j, j < ws.heap.size → j ≠ bL → Sn j) := hH (fun j h1 h2 => by rw [hSn]; exact ⟨h1, h2⟩)
 clear hSn
 have HKb : Hid (∀ W, Kept Sn ws W → Below w.heap.size w W) := hH (fun W hW => HBs.out.trans (Kept.below (hW.mono (fun j hj => HSi.out j (by have := HBs.out.size; omega) (by omega)))))
 obtain ⟨vc, vr, rs, hR1, hR2, hR3, hR4⟩ := HSet.out
 have hRw : R < w.heap.size := hR1.lt
 have hSeq := near_seq W4.heap.size (W4.heap.size + 1) (W4.heap.size + 2) R lx ly hx hy vc vr rs (setR ps) Sn ws C1 (HSi.out _ (by omega) (by omega)) C2 (HSi.out _ (by omega) (by omega)) C3 (HSi.out _ (by omega) (by omega)) ((hR1.call HBs.out)) (HSi.out _ (by have := HBs.out.size; omega) (by omega)) HSn.out
  (fun W hW => hR3.call (HKb.out W hW)) hR4.1 (fun W hW i r hr => by obtain ⟨v, h1, h2⟩ := hR4.2 i r hr; exact ⟨v, h1, SlC_of_ints (h2.keep (KeepT.call (HKb.out W hW)))⟩) HRy.out HRx.out
 rw [← Hne.out] at hSeq
 have HSeq := hH hSeq
 have HS3 : Hid (Sn b3) := hH (HSi.out _ (by omega) (by omega))
 have HS5 : Hid (Sn b5) := hH (HSi.out _ (by omega) (by omega))
 have HB3s := hH B3
 have HB5s := hH B5
 have HBLs := hH BL
 clear hSeq C1 C2 C3 B3 B5 BL hR1 hR2 hR3 hR4 hRw HSet hb3 hb5 hbL
 gi_wp2_with fail
 refine wp_range (P := Tryz.prog) (gf := 43) (lb := #[.pointer (some ⟨W4.heap.size, 0, none⟩), .pointer (some ⟨W4.heap.size + 1, 0, none⟩), .pointer (some ⟨W4.heap.size + 2, 0, none⟩)]) (S := Sn) (ps := #[32]) rfl enter_near
  HSeq.out (Kept.refl _ _) HSn.out (fun x hx => by obtain ⟨p, _, rfl⟩ := List.mem_map.1 hx; rfl)
  (fun k O X => (∃ va no vc, no = (metsB a b c d size (near.take k)).length ∧ Grw X ws.heap.size bL 54 68 20 O (fun v => [v]) ((metsB a b c d size (near.take k)).map mtE) (.slice va no vc)) ∧ Below w.heap.size w X) (fun _ _ _ => False)
  (fun k O O' X Y h hx hO => ⟨by obtain ⟨va, no, vc, h0, h1⟩ := h.1; exact ⟨va, no, vc, h0, h1.ext hx hO⟩, h.2.trans (hx.below.mono (by have := HBs.out.size; omega))⟩) (fun c k X Y h hx => h)
  ⟨⟨none, 0, 0, rfl, HBLs.out, by omega, ⟨by simp [metsB], .inl ⟨rfl, by simp [metsB]⟩⟩, (by simp [metsB]), (fun g hg => by cases hg)⟩, HBs.out⟩ ?round ?done ?stop
 case round =>
  intro l k x O Wr hl1 hl2 hx hk hO hi
  rw [List.getElem?_map] at hx
  obtain ⟨p, hp, rfl⟩ := Option.map_eq_some_iff.1 hx
  obtain ⟨⟨va, no, vc, hno, hG⟩, hBr⟩ := hi
  have HO := hH hO
  have hSr : ∀ j, both Sn O j → j < Wr.heap.size := fun j hj => by
   rcases hj with h | h
   ·have := HSn.out j h; have := hk.size; omega
   ·exact (HO.out j h).2
  gi_wp2_with fail
  refine ⟨Eff.of_below ((Below.refl _ Wr).alloc (Nat.le_refl _) _) hSr, ?_⟩
  intro Wb hx2 hkb hszb hlb
  have hba : Below Wr.heap.size Wr (Wr.alloc (.cells #[.int .i64 p.1, .int .i64 p.2] 23)) := (Below.refl _ Wr).alloc (Nat.le_refl _) _
  have hszr : ws.heap.size ≤ Wr.heap.size := hk.size
  have HG := hH ((hG.call hba).ext hx2 (fun j hj => .inl hj))
  have hbB : Blk Wb Wr.heap.size [.int .i64 p.1, .int .i64 p.2] 23 := (Blk.new Wr _ _).ext hx2
  have HBw : Hid (Below w.heap.size w Wb) := hH ((hBr.trans (hba.mono hBr.size)).trans (hx2.below.mono (by have := HBs.out.size; omega)))
  have hzb : Wr.heap.size < Wb.heap.size := hbB.lt
  have HszB : Hid (ws.heap.size ≤ Wb.heap.size) := hH (by omega)
  have HSO : Hid (∀ j, both Sn O j → j < Wb.heap.size) := hH (fun j hj => by have := hSr j hj; omega)
  have HbO : Hid (¬ both Sn O bL) := hH (by
   rintro (h | h)
   ·exact HSo.out h
   ·have := (HO.out bL h).1; omega)
  have hsame : ∀ j, Sn j → Wb.heap[j]? = ws.heap[j]? := fun j hj => (hkb.same j (.inl hj)).trans ((hba.block j (hSr j (.inl hj))).trans (hk.same j hj))
  have B3 := HB3s.out.of_same (hsame b3 HS3.out)
  have B5 := HB5s.out.of_same (hsame b5 HS5.out)
  have HNo : Hid (((metsB a b c d size (near.take k)).map mtE).length = no) := hH (by rw [List.length_map, hno])
  have hkl := (List.getElem?_eq_some_iff.1 hp).1
  have Hkb2 : Hid (no * 152 ≤ 140737488355328 - 304) := hH (by
   have h1 : no ≤ k := by rw [hno]; unfold metsB; refine Nat.le_trans (List.length_filterMap_le _ _) ?_; rw [List.length_take]; omega
   omega)
  have Hpp := hH (HPt.out p (List.mem_of_getElem? hp))
  have Hp := hH hp
  have Hno := hH hno
  have hbb12 : bL < Wr.heap.size := by omega
  generalize hb12 : Wr.heap.size = b12 at *
  have B12 := hbB
  have HB := HBw.out
  clear hx hp hno hk hO hBr hG hSr hba hx2 hkb hszb hlb hbB hsame hkl hb12
  cases hz : cutZ a b c d p.1 p.2 size with
  | none =>
   have hcut : ∀ w : World, Calls Tryz.prog 20 #[gV a b c d, pV p.1 p.2, .int .i64 size] w fun e w' => e = .returned (.tuple #[st0V, .bool false]) ∧ Below w.heap.size w w' := fun w => by
    have := cut_any a b c d p.1 p.2 size HGs.out Hpp.out HSz.out w
    rw [hz] at this; exact this
   have Hst : Hid (metsB a b c d size (near.take (k + 1)) = metsB a b c d size (near.take k)) := hH (by unfold metsB; rw [List.take_add_one, Hp.out]; simp [metOf, hz])
   gi_upto_region 7 with (fail)
   refine calm_plainIn (by rintro ⟨_, _, h⟩; exact h) (by kernel_rfl) (by kernel_rfl) ?_
   refine calm_a (k := 7) (d := 13) (st := 8) (x := (.tmp 38)) (u := st0V) (T := 64) (by kernel_rfl) (by rfl) (by rfl) info_st rfl rfl (by first | exact st_one _ | exact st0_one) ?_
   refine cX ?_ ?_ (by intro wz hSw; obtain ⟨q0, q1, q2, q3⟩ := c4 (B3.y hSw.1); go_simp; all_goals with_reducible rfl) ?_
   refine cX ?_ ?_ (by intro wz hSw; obtain ⟨q0, q1⟩ := c2 (B12.y hSw.1); go_simp; all_goals with_reducible rfl) ?_
   refine cX ?_ ?_ (by intro wz hSw; have q0 := c1 (B5.y hSw.1); go_simp; all_goals with_reducible rfl) ?_
   refine cC ?_ ?_ ?_ ?_ ?hc3_3 ?_
   case hc3_3 => (intro w hSw; exact hcut w)
   refine cW ?_ ?_ ?_
   refine cW ?_ ?_ ?_
   refine cW ?_ ?_ ?_
   refine cB ?_
   refine cB ?_
   refine cW ?_ ?_ ?_
   refine calm_end ?_
   refine ⟨(by rfl), fun b21 w1 hb21 hS D0 => ?_⟩
   have hl21_3 : b3 < b21 := lL B3.lt hb21
   have hl21_5 : b5 < b21 := lL B5.lt hb21
   have hl21_12 : b12 < b21 := lL B12.lt hb21
   have hS := sO hS
   have B3 := B3.y hS
   have B5 := B5.y hS
   have B12 := B12.y hS
   have B21 : Blk w1 b21 (st0L) 64 := D0
   have hz1 : Wb.heap.size ≤ w1.heap.size := hS.size
   have HB := gS HB hS
   have HE7 := hH hS.all
   have HG7 := hH (HG.out.call HE7.out)
   have HB67 := HE7
   have HEf7 := hH (Eff.of_below (B := ws.heap.size) (S := both Sn O) HE7.out HSO.out)
   have HBw7 := hH (HBw.out.trans (HE7.out.mono HBw.out.size))
   clear hS D0
   clear B3 B5 B12 HB B21
   gi_wp2_with fail
   exact ⟨HEf7.out, ⟨va, no, vc, by rw [Hst.out, Hno.out], by rw [Hst.out]; exact HG7.out⟩, HBw7.out⟩
  | some z =>
   have hcut : ∀ w : World, Calls Tryz.prog 20 #[gV a b c d, pV p.1 p.2, .int .i64 size] w fun e w' => e = .returned (.tuple #[stV z, .bool true]) ∧ Below w.heap.size w w' := fun w => by
    have := cut_any a b c d p.1 p.2 size HGs.out Hpp.out HSz.out w
    rw [hz] at this; exact this
   have Hst : Hid (metsB a b c d size (near.take (k + 1)) = metsB a b c d size (near.take k) ++ [(p, z)]) := hH (by unfold metsB; rw [List.take_add_one, Hp.out, List.filterMap_append]; simp [metOf, hz])
   gi_upto_region 7 with (fail)
   refine calm_plainIn (by rintro ⟨_, _, h⟩; exact h) (by kernel_rfl) (by kernel_rfl) ?_
   refine calm_a (k := 7) (d := 13) (st := 8) (x := (.tmp 38)) (u := stV z) (T := 64) (by kernel_rfl) (by rfl) (by rfl) info_st rfl rfl (by first | exact st_one _ | exact st0_one) ?_
   refine cX ?_ ?_ (by intro wz hSw; obtain ⟨q0, q1, q2, q3⟩ := c4 (B3.y hSw.1); go_simp; all_goals with_reducible rfl) ?_
   refine cX ?_ ?_ (by intro wz hSw; obtain ⟨q0, q1⟩ := c2 (B12.y hSw.1); go_simp; all_goals with_reducible rfl) ?_
   refine cX ?_ ?_ (by intro wz hSw; have q0 := c1 (B5.y hSw.1); go_simp; all_goals with_reducible rfl) ?_
   refine cC ?_ ?_ ?_ ?_ ?hc1_3 ?_
   case hc1_3 => (intro w hSw; exact hcut w)
   refine cW ?_ ?_ ?_
   refine cW ?_ ?_ ?_
   refine cW ?_ ?_ ?_
   refine cB ?_
   refine cB ?_
   refine cW ?_ ?_ ?_
   refine calm_end ?_
   refine ⟨(by rfl), fun b21 w1 hb21 hS D0 => ?_⟩
   have hl21_3 : b3 < b21 := lL B3.lt hb21
   have hl21_5 : b5 < b21 := lL B5.lt hb21
   have hl21_12 : b12 < b21 := lL B12.lt hb21
   have hS := sO hS
   have B3 := B3.y hS
   have B5 := B5.y hS
   have B12 := B12.y hS
   have B21 : Blk w1 b21 (stL z) 64 := D0
   have hz1 : Wb.heap.size ≤ w1.heap.size := hS.size
   have HB := gS HB hS
   have HE7 := hH hS.all
   have HG7 := hH (HG.out.call HE7.out)
   have HB67 := HE7
   have HEf7 := hH (Eff.of_below (B := ws.heap.size) (S := both Sn O) HE7.out HSO.out)
   have HBw7 := hH (HBw.out.trans (HE7.out.mono HBw.out.size))
   clear hS D0
   gi_upto_region 9 with (fail)
   refine pl_startIn (by rintro ⟨_, _, h⟩; exact h) (by kernel_rfl) ?_
   refine pl_val (v := .slice va no vc) (by rfl) ?hm0 ?_
   case hm0 => (have z0 := HG7.out.blk.cell (j := 0) rfl; go_simp; all_goals with_reducible rfl)
   (try simp only [td])
   (try simp only [td])
   refine pl_val (v := ?_) (by rfl) ?hy2_1 ?_
   case hy2_1 => (obtain ⟨q0, q1⟩ := c2 (B12); go_simp; all_goals with_reducible rfl)
   (try simp only [td])
   refine pl_val (v := stV z) (by rfl) (load_row rfl (by rfl) B21 Tryz.underlying64 rfl size_st) ?_
   (try simp only [td])
   refine pl_val (v := metV p.1 p.2 z) (by rfl) ?hm3 ?_
   case hm3 => (go_simp; all_goals with_reducible rfl)
   (try simp only [td])
   (try simp only [td])
   refine pl_op rfl ?_
   intro K' hK'
   refine wp_buildOne _ 54 68 _ (metV p.1 p.2 z) (.agg #[.int .i64 0, .int .i64 0, .int .u64 0, .int .u64 0, .int .u64 0, .int .u64 0, .int .u64 0, .int .u64 0, .int .u64 0, .int .u64 0, .int .u64 0, .int .u64 0, .int .u64 0, .int .u64 0, .int .u64 0, .int .u64 0, .int .u64 0, .int .u64 0, .bool false, .bool false]) (metL p.1 p.2 z) rfl Tryz.underlying54 (info_small info_cloneMt) (by rfl) rfl (by rw [metL_len]; decide) (by rw [metL_len]; decide) ?_
   obtain ⟨wa, hwa⟩ : ∃ wa, w1.alloc (.cells (metL p.1 p.2 z).toArray 68) = wa := ⟨_, rfl⟩
   have hRN : ReadsE wa wa.heap.size (.slice (some ⟨w1.heap.size, 0, none⟩) 1 1) 1 (metL p.1 p.2 z) := hwa ▸ reads_one w1 68 (metL p.1 p.2 z)
   have hal : Below w1.heap.size w1 wa := hwa ▸ (Below.refl _ w1).alloc (Nat.le_refl _) _
   have HGa := HG7.out.call hal
   have HEa : Hid (Eff ws.heap.size (both Sn O) Wb wa) := hH (HEf7.out.call hal (fun j hj => by have := HSO.out j hj; have := HB67.out.size; omega))
   have HBa : Hid (Below w.heap.size w wa) := hH (HBw7.out.trans (hal.mono HBw7.out.size))
   have hsa : Wb.heap.size ≤ wa.heap.size := Nat.le_trans HB67.out.size hal.size
   refine hK' _ _ ?_
   (try rw [hwa])
   clear hwa hal hK' K'
   (try simp only [td])
   (try simp only [td])
   refine pl_op rfl ?_
   intro K' hK'
   refine wp_append2E _ _ _ 54 rfl ws.heap.size 68 (.agg #[.int .i64 0, .int .i64 0, .int .u64 0, .int .u64 0, .int .u64 0, .int .u64 0, .int .u64 0, .int .u64 0, .int .u64 0, .int .u64 0, .int .u64 0, .int .u64 0, .int .u64 0, .int .u64 0, .int .u64 0, .int .u64 0, .int .u64 0, .int .u64 0, .bool false, .bool false]) 20 152 Tryz.underlying54 info_cloneMt rfl (by decide) (.slice va no vc) no _ rfl (HNo.out ▸ HGa.own) _ _ 1 (metL p.1 p.2 z) rfl hRN rfl (met_one _ _ _) (by have := Hkb2.out; unfold maxLen; omega) (by have := Hkb2.out; omega) (by have := HszB.out; omega) ?_
   intro v' wb own' hgrow hmov
   obtain ⟨va2, vc2, rfl⟩ := own_form own'
   have HGb := hH (HGa.put 0 rfl (x := metL p.1 p.2 z) (by rw [HNo.out]; exact own') hgrow hmov rfl (fun j hj => by have := HSO.out j (.inr hj); omega))
   have HEb := hH (HGa.eff 0 HEa.out hgrow (fun j hj => by have := HSO.out j hj; omega) HbO.out (fun g hg => by
    rintro (h | h)
    ·have := HSn.out g h; have := (HGa.own.lt g hg).1; omega
    ·exact HGa.free g hg h) (.slice va2 (no + 1) vc2))
   have HBb : Hid (Below w.heap.size w (wb.setCell ⟨bL, 0, none⟩ (.slice va2 (no + 1) vc2))) := hH ((HBa.out.grown hgrow HBa.out.size (fun k e => by have := (HGa.own.lt k e).1; omega)).setCell (p := ⟨bL, 0, none⟩) (by show _ ≤ bL; omega) _)
   have z0 := (HGa.blk.appended HGa.own HGa.lt hgrow).cell (j := 0) rfl
   have zf := (HGa.blk.appended HGa.own HGa.lt hgrow).frozen 0
   refine hK' _ _ ?_
   clear own' hgrow hmov hK' K'
   (try simp only [td])
   (try simp only [td])
   refine pl_do (w' := wb.setCell ⟨bL, 0, none⟩ (.slice va2 (no + 1) vc2)) (by rfl) ?hm6 ?_
   case hm6 => (go_simp; try rfl)
   (try simp only [td])
   (try simp only [td])
   refine pl_end ?_
   clear B3 B5 B12 HB B21
   gi_wp2_with fail
   exact ⟨HEb.out, ⟨va2, no + 1, vc2, by rw [Hst.out, List.length_append, ← Hno.out]; rfl, by rw [Hst.out, List.map_append]; exact HGb.out⟩, HBb.out⟩
 case done =>
  intro O Wd hk hlt hi hD
  obtain ⟨⟨va, no, vc, hno, hG⟩, hBd⟩ := hi
  rw [List.length_map, List.take_length] at hno hG
  have d1 := hG.blk.cell (j := 0) rfl
  obtain ⟨ms, Hms⟩ : ∃ l, Hid (l = metsB a b c d size near) := ⟨_, hH rfl⟩
  have hsl := hG.slc
  rw [← Hms.out] at hno hsl
  have HNo := hH hno
  have Hsl := hH hsl
  have HD := hH hD
  have HBd := hH hBd
  have hwd := hBd.size
  have HOk : Hid (∀ m ∈ ms, m.2.Ok) := hH (fun m hm => by
   rw [Hms.out] at hm
   unfold metsB at hm
   obtain ⟨p, hp, hpm⟩ := List.mem_filterMap.1 hm
   unfold metOf at hpm
   obtain ⟨z, hz, rfl⟩ := Option.map_eq_some_iff.1 hpm
   exact cutZ_ok HGs.out (HPt.out p hp) HSz.out hz)
  have Hmsl : Hid (ms.length * 152 ≤ 140737488355328 - 152) := hH (by
   have h1 : ms.length ≤ near.length := by rw [Hms.out]; unfold metsB; exact List.length_filterMap_le _ _
   omega)
  have hdd : ws.heap.size < Wd.heap.size := hlt
  clear hk hlt hG hBd hno hD hsl
  gi_wp2_with fail
  have hsl2 : SlC Wd (.slice va no vc) 20 (ms.map mtE) := Hsl.out
  refine (calls_iff.2 (sortMt_any mtE (fun _ => rfl) (fun x => met_one _ _ _) 22 enter_of1 (fun u v => aheadZ u.2 v.2) (fun m => m.2.Ok) (fun y x hy hx w => of1_any y.1.1 y.1.2 x.1.1 x.1.2 y.2 x.2 hy hx w) ms _ Wd hsl2 HOk.out (by have := Hmsl.out; omega))).mono ?_
  rintro e We ⟨v9, rfl, hs9, hb9⟩
  obtain ⟨srt, Hsrt⟩ : ∃ l, Hid (l = sortB (fun x y : (Int × Int) × Stz => !decide (aheadZ y.2 x.2 < 0)) ms) := ⟨_, hH rfl⟩
  have hs9 : SlC We v9 20 (srt.map mtE) := Hsrt.out ▸ hs9
  obtain ⟨a9, c9, e9, hn9, hc9⟩ := hs9.form
  subst e9
  obtain ⟨n9, Hn9⟩ : ∃ n, Hid (n = (srt.map mtE).length) := ⟨_, hH rfl⟩
  rw [← Hn9.out] at hs9 hn9 ⊢
  have Hnl : Hid (n9 = srt.length) := hH (by rw [Hn9.out, List.length_map])
  have hn9b : n9 * 152 ≤ 140737488355328 - 152 := by rw [Hnl.out, Hsrt.out, sortB_len]; exact Hmsl.out
  have Hs9 := hH hs9
  have HBe : Hid (Below w.heap.size w We) := hH (HBd.out.trans (hb9.mono HBd.out.size))
  have HDe : Hid (We.heap[ws.heap.size]? = some (.deferred (some []))) := hH ((hb9.block _ hdd).trans HD.out)
  have hwe := hb9.size
  unfold maxLen at hc9
  clear hsl2 hs9 hb9 d1
  gi_wp2_with fail
  gi_loopw [15, 50] (fun s15 s50 wr => ∃ (i : Nat) (xa : Option Addr) (xc : Nat), s15 = .slice xa i xc ∧ s50 = .int .i64 (i : Int) ∧ i ≤ n9 ∧ Hid (wr.ownsRow We.heap.size 23 2 (.slice xa i xc) i (ptE ((srt.take i).map (·.1))).flatten) ∧ Hid (Below We.heap.size We wr)) (fun _ s50 _ => n9 - (intOf s50).toNat)
  case atStart => exact ⟨0, none, 0, rfl, by first | rfl | simp, Nat.zero_le _, hH ⟨by simp [ptE], .inl ⟨rfl, by simp [ptE]⟩⟩, hH (Below.refl _ _)⟩
  case round =>
   obtain ⟨i, xa, xc, rfl, rfl, hi, HO2, HBq⟩ := hrel
   by_cases hlt : i < n9
   ·have t0 : (i : Int) < (n9 : Int) := by omega
    obtain ⟨q, hq⟩ : ∃ q, srt[i]? = some q := ⟨_, List.getElem?_eq_getElem (by rw [← Hnl.out]; exact hlt)⟩
    have hqe : (srt.map mtE)[i]? = some (mtE q) := by rw [List.getElem?_map, hq]; rfl
    obtain ⟨gm, om, rfl, _⟩ := Hs9.out.elem hqe
    have HRq : Hid (∀ X, Below wr.heap.size wr X → X.rangeAt gm (om + i * 20) (metL q.1.1 q.1.2 q.2)) := hH (fun X hX => by
     obtain ⟨_, _, e, _, h1, _⟩ := (Hs9.out.call (HBq.out.trans (hX.mono HBq.out.size))).elem hqe
     cases e; exact h1)
    have Hst : Hid ((ptE ((srt.take (i + 1)).map (·.1))).flatten = (ptE ((srt.take i).map (·.1))).flatten ++ [.int .i64 q.1.1, .int .i64 q.1.2]) := hH (by
     rw [List.take_add_one, hq]; unfold ptE; simp)
    have hwz : w.heap.size ≤ wr.heap.size := Nat.le_trans HBe.out.size HBq.out.size
    have HB : Below w.heap.size w wr := HBe.out.trans (HBq.out.mono HBe.out.size)
    clear hq hqe
    gi_upto_region 13 with (fail)
    refine calm_plainIn (by rintro ⟨_, _, h⟩; obtain ⟨_, e, _⟩ := h; cases e) (by kernel_rfl) (by kernel_rfl) ?_
    refine calm_a (k := 2) (d := 17) (st := 3) (x := (.tmp 53)) (u := metV q.1.1 q.1.2 q.2) (T := 68) (by kernel_rfl) (by rfl) (by rfl) info_met rfl rfl (metV_one _ _ _) ?_
    refine cX (.pointer (some ⟨gm, om + i * 20, none⟩)) ?_ (by intro wz hSw; exact x_index (i := i) (E := 68) (sz := 20) rfl (by rfl) (by rfl) hlt Tryz.underlying54 size_cloneMt) ?_
    refine cX (metV q.1.1 q.1.2 q.2) ?_ (by intro wz hSw; exact x_row (cs := metL q.1.1 q.1.2 q.2) rfl (by rfl) (HRq.out _ (Stay.all hSw.1)) Tryz.underlying68 rfl size_cloneMt) ?_
    refine cB ?_
    refine cB ?_
    refine calm_end ?_
    refine ⟨(by rfl), fun b31 w1 hb31 hS D0 => ?_⟩
    have hS := sO hS
    have B31 : Blk w1 b31 (metL q.1.1 q.1.2 q.2) 68 := D0
    have hz1 : wr.heap.size ≤ w1.heap.size := hS.size
    have HB := gS HB hS
    have HE13 := hH hS.all
    clear hS D0
    gi_upto_region 14 with (fail)
    refine pl_startIn (by rintro ⟨_, _, h⟩; obtain ⟨_, e, _⟩ := h; cases e) (by kernel_rfl) ?_
    refine pl_val (v := ?_) (by rfl) ?hy5_0 ?_
    case hy5_0 => (go_simp; all_goals with_reducible rfl)
    (try simp only [td])
    refine pl_val (v := ?_) (by rfl) ?hy5_1 ?_
    case hy5_1 => (go_simp; all_goals with_reducible rfl)
    (try simp only [td])
    refine pl_val (v := pV q.1.1 q.1.2) (by rfl) (x_row (cs := [.int .i64 q.1.1, .int .i64 q.1.2]) rfl (by rfl) (range_pre (cs := [.int .i64 q.1.1, .int .i64 q.1.2]) (ds := stL q.2) (range_of_blk B31 rfl)) Tryz.underlying23 rfl size_clonePt) ?_
    (try simp only [td])
    refine pl_op rfl ?_
    intro K' hK'
    refine wp_buildOne _ 26 23 _ (pV q.1.1 q.1.2) (.agg #[.int .i64 0, .int .i64 0]) [.int .i64 q.1.1, .int .i64 q.1.2] rfl Tryz.underlying26 (info_small info_clonePt) (by rfl) rfl (by simp) (by simp) ?_
    obtain ⟨wa, hwa⟩ : ∃ wa, w1.alloc (.cells [.int .i64 q.1.1, .int .i64 q.1.2].toArray 23) = wa := ⟨_, rfl⟩
    have hRN : ReadsE wa wa.heap.size (.slice (some ⟨w1.heap.size, 0, none⟩) 1 1) 1 [.int .i64 q.1.1, .int .i64 q.1.2] := hwa ▸ reads_one w1 23 [.int .i64 q.1.1, .int .i64 q.1.2]
    have hal : Below w1.heap.size w1 wa := hwa ▸ (Below.refl _ w1).alloc (Nat.le_refl _) _
    have hown := own_call (own_call HO2.out HE13.out) hal
    have HBa : Hid (Below We.heap.size We wa) := hH (HBq.out.trans ((HE13.out.trans (hal.mono HE13.out.size)).mono HBq.out.size))
    have hsa := HBa.out.size
    refine hK' _ _ ?_
    (try rw [hwa])
    clear hwa hal hK' K'
    (try simp only [td])
    (try simp only [td])
    refine pl_op rfl ?_
    intro K' hK'
    refine wp_append2E _ _ _ 26 rfl We.heap.size 23 (.agg #[.int .i64 0, .int .i64 0]) 2 16 Tryz.underlying26 info_clonePt rfl (by decide) (.slice xa i xc) i _ rfl hown _ _ 1 [.int .i64 q.1.1, .int .i64 q.1.2] rfl hRN rfl (by simp [Value.oneCell']) (by unfold maxLen; omega) (by omega) hsa ?_
    intro v' wb own' hgrow hmov
    obtain ⟨xa2, xc2, rfl⟩ := own_form own'
    have HO3 := hH own'
    have HBb : Hid (Below We.heap.size We wb) := hH (HBa.out.grown hgrow hsa (fun k e => (hown.lt k e).1))
    refine hK' _ _ ?_
    clear own' hgrow hmov hK' K' hown
    (try simp only [td])
    (try simp only [td])
    refine pl_val (v := ?_) (by rfl) ?hy5_5 ?_
    case hy5_5 => (go_simp; all_goals with_reducible rfl)
    (try simp only [td])
    refine pl_end ?_
    clear HB B31
    gi_wp2_with fail
    go_roundw
    case rel => exact ⟨i + 1, xa2, xc2, rfl, by first | rfl | simp, hlt, hH (by rw [Hst.out]; exact HO3.out), HBb⟩
    case measure => simp [intOf]; omega
   ·obtain rfl : i = n9 := by omega
    have t0 : ¬ (i : Int) < (i : Int) := by omega
    have hall : (srt.take i).map (·.1) = srt.map (·.1) := by rw [Hnl.out, List.take_length]
    have HRes : Hid (SlC wr (.slice xa i xc) 2 (ptE (srt.map (·.1)))) := hH (by
     have h1 := HO2.out
     rw [hall] at h1
     have h2 : (ptE (srt.map (·.1))).length = i := by unfold ptE; rw [List.length_map, List.length_map, Hnl.out]
     exact SlC.of_own (es := ptE (srt.map (·.1))) (by rw [h2]; exact h1) (fun e he => by unfold ptE at he; obtain ⟨x, _, rfl⟩ := List.mem_map.1 he; rfl))
    have HBf : Hid (Below w.heap.size w wr) := hH (HBe.out.trans (HBq.out.mono HBe.out.size))
    have HDf : Hid (wr.heap[ws.heap.size]? = some (.deferred (some []))) := hH ((HBq.out.block _ (by omega)).trans HDe.out)
    clear hall HO2
    gi_wp2_with fail
    refine ⟨by simp, .inl ⟨_, _, rfl, run_takeDeferred HDf.out, ?_⟩⟩
    refine ⟨_, results_tmp2 rfl _ _ _, _, rfl, ?_, put_below HBf.out (by have := HBs.out.size; omega) HDf.out rfl⟩
    rw [← Hms.out, ← Hsrt.out]
    exact HRes.out.ext (Ext.putObj (Nat.le_refl _) HDf.out rfl _)
 case stop => exact fun c k W _ _ _ _ h => h.elim
end Go.Proofs.YthbplhglfjlngaaGreat
