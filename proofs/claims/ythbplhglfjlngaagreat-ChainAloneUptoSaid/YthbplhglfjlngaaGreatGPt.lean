/- Parts of the proof. -/
import Derived.Test.YthbplhglfjlngaaGreatGPs
set_option linter.unusedVariables false
set_option linter.unusedSimpArgs false
set_option maxRecDepth 100000
namespace Go.Rg
open Go Go.RowKit
section
variable {P : Program} {o : Oper} {a : Act} {w : World} {T E : TypeId}
theorem x_arr1 {x ix : Operand} {g n i : Nat} {k : IntKind} (ho : o.op = .indexAddr T x ix) (hx : a.eval x = .pointer (some ⟨g, 0, none⟩)) (hi : a.eval ix = .int k (i : Int)) (hlt : i < n) (hu : P.underlying T = some (.array n E)) (hs : (P.info? E).map (·.size) = some 1) :
  (execOp a.eval o).run P w = .ok (.value (.pointer (some ⟨g, i, none⟩))) w := by
 have := x_arr (w := w) ho hx hi hlt hu hs
 rwa [Nat.mul_one] at this
end
end Go.Rg
namespace Go.Proofs.YthbplhglfjlngaaGreat
open Go.RowKit Go.Rg Go.Wd
attribute [local go_sem] Oper.semAt_some
theorem info_arr4 : (Tryz.prog.info? 139).map (fun i => (i.zero, i.size)) = some (some (.agg #[.int .i64 0, .int .i64 0, .int .i64 0, .int .i64 0]), 4) := by kernel_rfl
theorem size_intC : (Tryz.prog.info? 3).map (·.size) = some 1 := by kernel_rfl
def fF (a b : Int) : Nat → Int | 0 => a | 1 => a | 2 => b | _ => b
def fW (a b c d : Int) : Nat → Int | 0 => c - a | 1 => c - a | 2 => d - b | _ => d - b
def fE (a b c d x y size : Int) : Nat → Int | 0 => 2 * x * size - size | 1 => 2 * x * size + size | 2 => 2 * y * size - size | _ => 2 * y * size + size
abbrev eD (a b c d x y size : Int) (i : Nat) : Fr := edgeD (fF a b i) (fW a b c d i) (fE a b c d x y size i)
def tsN (a b c d x y size : Int) : Nat → List Fr
 | 0 => [(0, 1), (1, 1)]
 | i + 1 => tsStep (tsN a b c d x y size i) (fF a b i) (fW a b c d i) (fE a b c d x y size i)
theorem tsN_four (a b c d x y size : Int) : tsN a b c d x y size 4 = tsD a b c d x y size := rfl
theorem drop_at' {α : Type} {l : List α} {i : Nat} {x : α} (h : l[i]? = some x) : l.drop i = x :: l.drop (i + 1) := by
 obtain ⟨hi, e⟩ := List.getElem?_eq_some_iff.1 h
 rw [List.drop_eq_getElem_cons hi, e]
theorem putD_len (t : Fr) : ∀ l : List Fr, (putD l t).length ≤ l.length + 1
 | [] => by simp [putD]
 | e :: r => by
  rw [putD]; split
  ·have := putD_len t r; simp; omega
  ·split <;> simp
theorem tsN_len (a b c d x y size : Int) : ∀ i, (tsN a b c d x y size i).length ≤ i + 2
 | 0 => by simp [tsN]
 | i + 1 => by
  have ih := tsN_len a b c d x y size i
  rw [tsN]; unfold tsStep; split
  ·have := putD_len (edgeD (fF a b i) (fW a b c d i) (fE a b c d x y size i)) (tsN a b c d x y size i); omega
  ·omega
theorem edge_sm {f w e : Int} (h1 : f.natAbs ≤ 2199023255552) (h2 : w.natAbs ≤ 4398046511104) (h3 : e.natAbs ≤ 4611686018428436480) : SmF 63 (edgeD f w e) := by
 unfold edgeD SmF Sm; split <;> (simp only; omega)
theorem tsN_sm (a b c d x y size : Int) (h1 : ∀ i, i < 4 → (fF a b i).natAbs ≤ 2199023255552) (h2 : ∀ i, i < 4 → (fW a b c d i).natAbs ≤ 4398046511104) (h3 : ∀ i, i < 4 → (fE a b c d x y size i).natAbs ≤ 4611686018428436480) : ∀ i, i ≤ 4 → ∀ u ∈ tsN a b c d x y size i, SmF 63 u
 | 0, _, u, hu => by
  simp only [tsN, List.mem_cons, List.not_mem_nil, or_false] at hu
  rcases hu with rfl | rfl <;> (unfold SmF Sm; decide)
 | i + 1, hi, u, hu => by
  have ih := tsN_sm a b c d x y size h1 h2 h3 i (by omega)
  rw [tsN] at hu; unfold tsStep at hu; split at hu
  ·rcases putD_mem hu with rfl | hu
   ·exact edge_sm (h1 i (by omega)) (h2 i (by omega)) (h3 i (by omega))
   ·exact ih u hu
  ·exact ih u hu
theorem below4 {i : Nat} (h : i < 4) : i = 0 ∨ i = 1 ∨ i = 2 ∨ i = 3 := by omega
set_option maxHeartbeats 4000000 in
theorem ts_any (a b c d x y size : Int) (w : World) (a1 : a.natAbs ≤ 2199023255552) (a2 : b.natAbs ≤ 2199023255552) (a3 : c.natAbs ≤ 2199023255552) (a4 : d.natAbs ≤ 2199023255552) (x1 : x.natAbs ≤ 2199023255552) (y1' : y.natAbs ≤ 2199023255552) (z1 : 1 ≤ size) (z2 : size ≤ 1048576) :
  Calls Tryz.prog 52 #[.agg #[.int .i64 a, .int .i64 b], .agg #[.int .i64 c, .int .i64 d], .agg #[.int .i64 x, .int .i64 y], .int .i64 size] w fun e w' => ∃ v, e = .returned v ∧ RtS w' v (tsD a b c d x y size) ∧ Below w.heap.size w w' := by
 obtain ⟨W0, hW0⟩ : ∃ W0, [.cells #[.int .i64 a, .int .i64 b] 37, .cells #[.int .i64 c, .int .i64 d] 37, .cells #[.int .i64 x, .int .i64 y] 37].foldl World.alloc w = W0 := ⟨_, rfl⟩
 have B0 : Blk W0 w.heap.size [.int .i64 a, .int .i64 b] 37 := Blk.allocs _ hW0 0 rfl
 have B1 : Blk W0 (w.heap.size + 1) [.int .i64 c, .int .i64 d] 37 := Blk.allocs _ hW0 1 rfl
 have B2 : Blk W0 (w.heap.size + 1 + 1) [.int .i64 x, .int .i64 y] 37 := Blk.allocs _ hW0 2 rfl
 have HB := aB hW0
 have hsz : w.heap.size + 3 ≤ W0.heap.size := aZ hW0
 simp only [List.foldl_cons, List.foldl_nil] at hW0
 have hpx := prod_bd (c := x) (size := size) (by omega) (by omega) z1 z2
 have hpy := prod_bd (c := y) (size := size) (by omega) (by omega) z1 z2
 have tw1 : IntKind.i64.wrap (c - a) = c - a := by rw [IntKind.wrap_i64]; omega
 have tw2 : IntKind.i64.wrap (d - b) = d - b := by rw [IntKind.wrap_i64]; omega
 have th1 : IntKind.i64.wrap (2 * x) = 2 * x := by rw [IntKind.wrap_i64]; omega
 have th5 : IntKind.i64.wrap (2 * y) = 2 * y := by rw [IntKind.wrap_i64]; omega
 have th2 : IntKind.i64.wrap (2 * x * size) = 2 * x * size := by rw [IntKind.wrap_i64]; omega
 have th6 : IntKind.i64.wrap (2 * y * size) = 2 * y * size := by rw [IntKind.wrap_i64]; omega
 have th3 : IntKind.i64.wrap (2 * x * size - size) = 2 * x * size - size := by rw [IntKind.wrap_i64]; omega
 have th4 : IntKind.i64.wrap (2 * x * size + size) = 2 * x * size + size := by rw [IntKind.wrap_i64]; omega
 have th7 : IntKind.i64.wrap (2 * y * size - size) = 2 * y * size - size := by rw [IntKind.wrap_i64]; omega
 have th8 : IntKind.i64.wrap (2 * y * size + size) = 2 * y * size + size := by rw [IntKind.wrap_i64]; omega
 have HbF : Hid (∀ i, i < 4 → (fF a b i).natAbs ≤ 2199023255552) := hH (fun i h => by rcases below4 h with rfl | rfl | rfl | rfl <;> (simp only [fF]; omega))
 have HbW : Hid (∀ i, i < 4 → (fW a b c d i).natAbs ≤ 4398046511104) := hH (fun i h => by rcases below4 h with rfl | rfl | rfl | rfl <;> (simp only [fW]; omega))
 have HbE : Hid (∀ i, i < 4 → (fE a b c d x y size i).natAbs ≤ 4611686018428436480) := hH (fun i h => by rcases below4 h with rfl | rfl | rfl | rfl <;> (simp only [fE]; omega))
 go_enter Tryz.func52, Tryz.ntmps52
 go_wp2_with fail
 (try rw [hW0])
 clear hW0
 refine (of_any 0 W0 (by decide) (by decide)).mono ?_
 rintro e w1 ⟨v1, rfl, h1, hb1⟩
 obtain ⟨n1, s1, k1, i1, rfl⟩ := h1.form
 have B0 := B0.call hb1
 have B1 := B1.call hb1
 have B2 := B2.call hb1
 have HB := HB.trans (hb1.mono HB.size)
 have H1 := hH h1
 clear h1 hb1
 go_wp2_with fail
 refine (of_any 1 w1 (by decide) (by decide)).mono ?_
 rintro e w2 ⟨v2, rfl, h2, hb2⟩
 obtain ⟨n2, s2, k2, i2, rfl⟩ := h2.form
 have B0 := B0.call hb2
 have B1 := B1.call hb2
 have B2 := B2.call hb2
 have HB := HB.trans (hb2.mono HB.size)
 have H1 := hH (H1.out.call hb2)
 have H2 := hH h2
 clear h2 hb2
 go_wp2_with fail
 refine (of_any 1 w2 (by decide) (by decide)).mono ?_
 rintro e w3 ⟨v3, rfl, h3, hb3⟩
 obtain ⟨n3, s3, k3, i3, rfl⟩ := h3.form
 have B0 := B0.call hb3
 have B1 := B1.call hb3
 have B2 := B2.call hb3
 have HB := HB.trans (hb3.mono HB.size)
 have H1 := hH (H1.out.call hb3)
 have H2 := hH (H2.out.call hb3)
 have H3 := hH h3
 clear h3 hb3
 go_wp2_with fail
 refine (of_any 1 w3 (by decide) (by decide)).mono ?_
 rintro e w4 ⟨v4, rfl, h4, hb4⟩
 obtain ⟨n4, s4, k4, i4, rfl⟩ := h4.form
 have B0 := B0.call hb4
 have B1 := B1.call hb4
 have B2 := B2.call hb4
 have HB := HB.trans (hb4.mono HB.size)
 have H1 := hH (H1.out.call hb4)
 have H2 := hH (H2.out.call hb4)
 have H3 := hH (H3.out.call hb4)
 have H4 := hH h4
 clear h4 hb4
 go_upto_region 2 with (fail)
 obtain ⟨Wa, hWa⟩ : ∃ Wa, w4.alloc (.cells #[.bool n1, .slice s1 k1 i1, .bool n2, .slice s2 k2 i2, .bool n3, .slice s3 k3 i3, .bool n4, .slice s4 k4 i4] 77) = Wa := ⟨_, rfl⟩
 have hba : Below w4.heap.size w4 Wa := hWa ▸ (Below.refl _ w4).alloc (Nat.le_refl _) _
 have hBa : Blk Wa w4.heap.size [.bool n1, .slice s1 k1 i1, .bool n2, .slice s2 k2 i2, .bool n3, .slice s3 k3 i3, .bool n4, .slice s4 k4 i4] 77 := hWa ▸ Blk.new _ _ _
 (try rw [hWa])
 clear hWa
 have B0 := B0.call hba
 have B1 := B1.call hba
 have B2 := B2.call hba
 have HB := HB.trans (hba.mono HB.size)
 have HL : RtS Wa (.slice (some ⟨w4.heap.size, 0, none⟩) 2 2) [(0, 1), (1, 1)] := by
  refine ⟨[[.bool n1, .slice s1 k1 i1, .bool n2, .slice s2 k2 i2], [.bool n3, .slice s3 k3 i3, .bool n4, .slice s4 k4 i4]], ?_, ?_⟩
  ·exact SlC.of_own (base := w4.heap.size) (t := 77) (es := [[.bool n1, .slice s1 k1 i1, .bool n2, .slice s2 k2 i2], [.bool n3, .slice s3 k3 i3, .bool n4, .slice s4 k4 i4]]) ⟨rfl, .inr ⟨w4.heap.size, 2, _, rfl, Nat.le_refl _, hBa, Nat.le_refl _, by unfold maxLen; omega, rfl, rfl⟩⟩ (fun e he => by simp only [List.mem_cons, List.not_mem_nil, or_false] at he; rcases he with rfl | rfl <;> rfl)
  ·exact (EsW.one (RatV.mk (H1.out.call hba) (H2.out.call hba))).append (EsW.one (RatV.mk (H3.out.call hba) (H4.out.call hba)))
 have hza : w.heap.size + 3 ≤ Wa.heap.size := by have := B2.lt; omega
 clear H1 H2 H3 H4 hba hBa
 generalize w4.heap.size = bl at *
 go_upto_region 2 with (fail)
 refine cP ?_
 refine calm_a (k := 9) (d := 10) (st := 10) (x := (.tmp 31)) (u := .agg #[.int .i64 a, .int .i64 a, .int .i64 b, .int .i64 b]) (T := 139) (by kernel_rfl) (by rfl) (by rfl) info_arr4 rfl rfl (by simp [Value.cells, Value.oneCell']) ?_
 refine cW ?_ ?_ ?_
 refine cX ?_ ?_ (by intro wz hSw; obtain ⟨q0, q1⟩ := c2 (B0.y hSw.1); go_simp; all_goals with_reducible rfl) ?_
 refine cW ?_ ?_ ?_
 refine cX ?_ ?_ (by intro wz hSw; obtain ⟨q0, q1⟩ := c2 (B0.y hSw.1); go_simp; all_goals with_reducible rfl) ?_
 refine cW ?_ ?_ ?_
 refine cX ?_ ?_ (by intro wz hSw; obtain ⟨q0, q1⟩ := c2 (B0.y hSw.1); go_simp; all_goals with_reducible rfl) ?_
 refine cW ?_ ?_ ?_
 refine cX ?_ ?_ (by intro wz hSw; obtain ⟨q0, q1⟩ := c2 (B0.y hSw.1); go_simp; all_goals with_reducible rfl) ?_
 refine cW ?_ ?_ ?_
 refine cB ?_
 refine cB ?_
 refine calm_end ?_
 refine ⟨(by rfl), fun b3 w1 hb3 hS D0 => ?_⟩
 have hl3_0 : w.heap.size < b3 := lL B0.lt hb3
 have hl3_1 : w.heap.size + 1 < b3 := lL B1.lt hb3
 have hl3_2 : w.heap.size + 1 + 1 < b3 := lL B2.lt hb3
 have hS := sO hS
 have B0 := B0.y hS
 have B1 := B1.y hS
 have B2 := B2.y hS
 have B3 : Blk w1 b3 ([.int .i64 a, .int .i64 a, .int .i64 b, .int .i64 b]) 139 := D0
 have hz1 : Wa.heap.size ≤ w1.heap.size := hS.size
 have HB := gS HB hS
 have HL := HL.call hS.all
 clear hS D0
 go_upto_region 3 with (fail)
 refine cP ?_
 refine calm_a (k := 21) (d := 11) (st := 22) (x := (.tmp 52)) (u := .agg #[.int .i64 (c - a), .int .i64 (c - a), .int .i64 (d - b), .int .i64 (d - b)]) (T := 139) (by kernel_rfl) (by rfl) (by rfl) info_arr4 rfl rfl (by simp [Value.cells, Value.oneCell']) ?_
 refine cW ?_ ?_ ?_
 refine cX ?_ ?_ (by intro wz hSw; obtain ⟨q0, q1⟩ := c2 (B1.y hSw.1); go_simp; all_goals with_reducible rfl) ?_
 refine cW ?_ ?_ ?_
 refine cX ?_ ?_ (by intro wz hSw; obtain ⟨q0, q1⟩ := c2 (B0.y hSw.1); go_simp; all_goals with_reducible rfl) ?_
 refine cX ?_ ?_ (by intro wz hSw; have nn := tw1; go_simp; all_goals with_reducible rfl) ?_
 refine cW ?_ ?_ ?_
 refine cX ?_ ?_ (by intro wz hSw; obtain ⟨q0, q1⟩ := c2 (B1.y hSw.1); go_simp; all_goals with_reducible rfl) ?_
 refine cW ?_ ?_ ?_
 refine cX ?_ ?_ (by intro wz hSw; obtain ⟨q0, q1⟩ := c2 (B0.y hSw.1); go_simp; all_goals with_reducible rfl) ?_
 refine cX ?_ ?_ (by intro wz hSw; have nn := tw1; go_simp; all_goals with_reducible rfl) ?_
 refine cW ?_ ?_ ?_
 refine cX ?_ ?_ (by intro wz hSw; obtain ⟨q0, q1⟩ := c2 (B1.y hSw.1); go_simp; all_goals with_reducible rfl) ?_
 refine cW ?_ ?_ ?_
 refine cX ?_ ?_ (by intro wz hSw; obtain ⟨q0, q1⟩ := c2 (B0.y hSw.1); go_simp; all_goals with_reducible rfl) ?_
 refine cX ?_ ?_ (by intro wz hSw; have nn := tw2; go_simp; all_goals with_reducible rfl) ?_
 refine cW ?_ ?_ ?_
 refine cX ?_ ?_ (by intro wz hSw; obtain ⟨q0, q1⟩ := c2 (B1.y hSw.1); go_simp; all_goals with_reducible rfl) ?_
 refine cW ?_ ?_ ?_
 refine cX ?_ ?_ (by intro wz hSw; obtain ⟨q0, q1⟩ := c2 (B0.y hSw.1); go_simp; all_goals with_reducible rfl) ?_
 refine cX ?_ ?_ (by intro wz hSw; have nn := tw2; go_simp; all_goals with_reducible rfl) ?_
 refine cW ?_ ?_ ?_
 refine cB ?_
 refine cB ?_
 refine calm_end ?_
 refine ⟨(by rfl), fun b4 w2 hb4 hS D0 => ?_⟩
 have hl4_0 : w.heap.size < b4 := lL B0.lt hb4
 have hl4_1 : w.heap.size + 1 < b4 := lL B1.lt hb4
 have hl4_2 : w.heap.size + 1 + 1 < b4 := lL B2.lt hb4
 have hl4_3 : b3 < b4 := lL B3.lt hb4
 have hS := sO hS
 have B0 := B0.y hS
 have B1 := B1.y hS
 have B2 := B2.y hS
 have B3 := B3.y hS
 have B4 : Blk w2 b4 ([.int .i64 (c - a), .int .i64 (c - a), .int .i64 (d - b), .int .i64 (d - b)]) 139 := D0
 have hz2 : w1.heap.size ≤ w2.heap.size := hS.size
 have HB := gS HB hS
 have HL := HL.call hS.all
 clear hS D0
 go_upto_region 4 with (fail)
 refine cP ?_
 refine calm_a (k := 29) (d := 12) (st := 30) (x := (.tmp 81)) (u := .agg #[.int .i64 (2 * x * size - size), .int .i64 (2 * x * size + size), .int .i64 (2 * y * size - size), .int .i64 (2 * y * size + size)]) (T := 139) (by kernel_rfl) (by rfl) (by rfl) info_arr4 rfl rfl (by simp [Value.cells, Value.oneCell']) ?_
 refine cW ?_ ?_ ?_
 refine cX ?_ ?_ (by intro wz hSw; obtain ⟨q0, q1⟩ := c2 (B2.y hSw.1); go_simp; all_goals with_reducible rfl) ?_
 refine cX ?_ ?_ (by intro wz hSw; have nn := th1; go_simp; all_goals with_reducible rfl) ?_
 refine cW ?_ ?_ ?_
 refine cX ?_ ?_ (by intro wz hSw; have nn := th2; go_simp; all_goals with_reducible rfl) ?_
 refine cW ?_ ?_ ?_
 refine cX ?_ ?_ (by intro wz hSw; have nn := th3; go_simp; all_goals with_reducible rfl) ?_
 refine cW ?_ ?_ ?_
 refine cX ?_ ?_ (by intro wz hSw; obtain ⟨q0, q1⟩ := c2 (B2.y hSw.1); go_simp; all_goals with_reducible rfl) ?_
 refine cX ?_ ?_ (by intro wz hSw; have nn := th1; go_simp; all_goals with_reducible rfl) ?_
 refine cW ?_ ?_ ?_
 refine cX ?_ ?_ (by intro wz hSw; have nn := th2; go_simp; all_goals with_reducible rfl) ?_
 refine cW ?_ ?_ ?_
 refine cX ?_ ?_ (by intro wz hSw; have nn := th4; go_simp; all_goals with_reducible rfl) ?_
 refine cW ?_ ?_ ?_
 refine cX ?_ ?_ (by intro wz hSw; obtain ⟨q0, q1⟩ := c2 (B2.y hSw.1); go_simp; all_goals with_reducible rfl) ?_
 refine cX ?_ ?_ (by intro wz hSw; have nn := th5; go_simp; all_goals with_reducible rfl) ?_
 refine cW ?_ ?_ ?_
 refine cX ?_ ?_ (by intro wz hSw; have nn := th6; go_simp; all_goals with_reducible rfl) ?_
 refine cW ?_ ?_ ?_
 refine cX ?_ ?_ (by intro wz hSw; have nn := th7; go_simp; all_goals with_reducible rfl) ?_
 refine cW ?_ ?_ ?_
 refine cX ?_ ?_ (by intro wz hSw; obtain ⟨q0, q1⟩ := c2 (B2.y hSw.1); go_simp; all_goals with_reducible rfl) ?_
 refine cX ?_ ?_ (by intro wz hSw; have nn := th5; go_simp; all_goals with_reducible rfl) ?_
 refine cW ?_ ?_ ?_
 refine cX ?_ ?_ (by intro wz hSw; have nn := th6; go_simp; all_goals with_reducible rfl) ?_
 refine cW ?_ ?_ ?_
 refine cX ?_ ?_ (by intro wz hSw; have nn := th8; go_simp; all_goals with_reducible rfl) ?_
 refine cW ?_ ?_ ?_
 refine cB ?_
 refine cB ?_
 refine calm_end ?_
 refine ⟨(by rfl), fun b5 w3 hb5 hS D0 => ?_⟩
 have hl5_0 : w.heap.size < b5 := lL B0.lt hb5
 have hl5_1 : w.heap.size + 1 < b5 := lL B1.lt hb5
 have hl5_2 : w.heap.size + 1 + 1 < b5 := lL B2.lt hb5
 have hl5_3 : b3 < b5 := lL B3.lt hb5
 have hl5_4 : b4 < b5 := lL B4.lt hb5
 have hS := sO hS
 have B0 := B0.y hS
 have B1 := B1.y hS
 have B2 := B2.y hS
 have B3 := B3.y hS
 have B4 := B4.y hS
 have B5 : Blk w3 b5 ([.int .i64 (2 * x * size - size), .int .i64 (2 * x * size + size), .int .i64 (2 * y * size - size), .int .i64 (2 * y * size + size)]) 139 := D0
 have hz3 : w2.heap.size ≤ w3.heap.size := hS.size
 have HB := gS HB hS
 have HL := HL.call hS.all
 clear hS D0
 have HaF : Hid (∀ X, Below w3.heap.size w3 X → ∀ i, i < 4 → X.cell? ⟨b3, i, none⟩ = some (.int .i64 (fF a b i))) := hH (fun X hX i hi => by
  obtain ⟨q0, q1, q2, q3⟩ := c4 (B3.call hX)
  rcases below4 hi with rfl | rfl | rfl | rfl <;> assumption)
 have HaW : Hid (∀ X, Below w3.heap.size w3 X → ∀ i, i < 4 → X.cell? ⟨b4, i, none⟩ = some (.int .i64 (fW a b c d i))) := hH (fun X hX i hi => by
  obtain ⟨q0, q1, q2, q3⟩ := c4 (B4.call hX)
  rcases below4 hi with rfl | rfl | rfl | rfl <;> assumption)
 have HaE : Hid (∀ X, Below w3.heap.size w3 X → ∀ i, i < 4 → X.cell? ⟨b5, i, none⟩ = some (.int .i64 (fE a b c d x y size i))) := hH (fun X hX i hi => by
  obtain ⟨q0, q1, q2, q3⟩ := c4 (B5.call hX)
  rcases below4 hi with rfl | rfl | rfl | rfl <;> assumption)
 have HL := hH HL
 have HBw := hH HB
 clear B0 B1 B2 B3 B4 B5 HB tw1 tw2 th1 th2 th3 th4 th5 th6 th7 th8 hb3 hb4 hb5
 have HSm := hH (tsN_sm a b c d x y size HbF.out HbW.out HbE.out)
 go_wp2_with fail
 go_loopg [9, 13] 4 (fun q s9 s13 wx => ∃ i : Nat, i + q = 4 ∧ s13 = .int .i64 (i : Int) ∧ Hid (RtS wx s9 (tsN a b c d x y size i)) ∧ Hid (Below w3.heap.size w3 wx))
 case atStart => exact ⟨0, by omega, by first | rfl | simp, HL, hH (Below.refl _ _)⟩
 case round =>
  obtain ⟨i, hq, rfl, HR, HBr⟩ := hrel
  cases gk with
  | zero =>
   obtain rfl : i = 4 := by omega
   rw [tsN_four] at HR
   go_wp2_with fail
   go_ret
   exact ⟨_, rfl, HR.out, HBw.out.trans (HBr.out.mono HBw.out.size)⟩
  | succ q =>
   have hi4 : i < 4 := by omega
   have t0 : (i : Int) < 4 := by omega
   have q1 := HbF.out i hi4
   have q2 := HbW.out i hi4
   have q3 := HbE.out i hi4
   have HcF : Hid (∀ X, Below wr.heap.size wr X → X.cell? ⟨b3, i, none⟩ = some (.int .i64 (fF a b i))) := hH (fun X hX => HaF.out X (HBr.out.trans (hX.mono HBr.out.size)) i hi4)
   have HcE : Hid (∀ X, Below wr.heap.size wr X → X.cell? ⟨b5, i, none⟩ = some (.int .i64 (fE a b c d x y size i))) := hH (fun X hX => HaE.out X (HBr.out.trans (hX.mono HBr.out.size)) i hi4)
   have tr1 : IntKind.i64.wrap (2 * fF a b i) = 2 * fF a b i := by rw [IntKind.wrap_i64]; omega
   have tr2 : IntKind.i64.wrap (fE a b c d x y size i - 2 * fF a b i) = fE a b c d x y size i - 2 * fF a b i := by rw [IntKind.wrap_i64]; omega
   have tr3 : IntKind.i64.wrap (2 * fW a b c d i) = 2 * fW a b c d i := by rw [IntKind.wrap_i64]; omega
   obtain ⟨bw, Hbw⟩ : ∃ bw : Bool, Hid (decide (fW a b c d i < 0) = bw) := ⟨_, hH rfl⟩
   have HB : Below wr.heap.size wr wr := Below.refl _ _
   have hwr := HBr.out.size
   go_upto_region 8 with (fail)
   refine cG ?_
   refine every_last 10 rfl rfl (by kernel_rfl) (by kernel_rfl) ?_
   simp only [List.take_succ_cons, List.take_zero]
   refine dB [(fun v _ => v = .int .i64 (i : Int)), (fun v _ => v = .pointer (some ⟨b5, i, none⟩)), (fun v _ => v = .int .i64 (fE a b c d x y size i)), (fun v _ => v = .int .i64 (i : Int)), (fun v _ => v = .pointer (some ⟨b3, i, none⟩)), (fun v _ => v = .int .i64 (fF a b i)), (fun v _ => v = .int .i64 (2 * (fF a b i))), (fun v _ => v = .int .i64 ((fE a b c d x y size i) - (2 * (fF a b i)))), (fun v w' => Big w' v ((fE a b c d x y size i) - (2 * (fF a b i)))), (fun v w' => ∃ q, v = .pointer (some ⟨q, 0, none⟩) ∧ wr.heap.size ≤ q ∧ Blk w' q [.bool false, .slice none 0 0] 75)] ⟨sE, sE, sE, sE, sE, sE, sE, sE, (fun v w w' h hr => h.call hr), (fun v w w' ⟨q, e, h0, h⟩ hr => ⟨q, e, h0, h.call hr⟩), trivial⟩ ⟨?st0, ?st1, ?st2, ?st3, ?st4, ?st5, ?st6, ?st7, ?st8, ?st9, trivial⟩ ?_
   case st0 => (intro fa wz hp; have e13 := hp.o 13 (.int .i64 (i : Int)); exact dX rfl)
   case st1 => (intro fa wz hp; have e12 := hp.o 12 (.pointer (some ⟨b5, 0, none⟩)); have e86 := hp.q 0 86; exact dW (x_arr1 (i := i) (n := 4) (E := 3) rfl (evt e12) (evt e86) (by omega) Tryz.underlying139 size_intC) rfl)
   case st2 => (intro fa wz hp; have e87 := hp.q 1 87; have hb := hp.base; have hq := HcE.out wz hb; exact dX rfl)
   case st3 => (intro fa wz hp; have e13 := hp.o 13 (.int .i64 (i : Int)); exact dX rfl)
   case st4 => (intro fa wz hp; have e10 := hp.o 10 (.pointer (some ⟨b3, 0, none⟩)); have e89 := hp.q 3 89; exact dW (x_arr1 (i := i) (n := 4) (E := 3) rfl (evt e10) (evt e89) (by omega) Tryz.underlying139 size_intC) rfl)
   case st5 => (intro fa wz hp; have e90 := hp.q 4 90; have hb := hp.base; have hq := HcF.out wz hb; exact dX rfl)
   case st6 => (intro fa wz hp; have e91 := hp.q 5 91; have nn := tr1; exact dX rfl)
   case st7 => (intro fa wz hp; have e88 := hp.q 2 88; have e92 := hp.q 6 92; have nn := tr2; exact dX rfl)
   case st8 => (intro fa wz hp; have e93 := hp.q 7 93; have hb := hp.base; exact dC2 (by go_simp) (of_any _ wz (by omega) (by omega)))
   case st9 => (intro fa wz hp; have hb := hp.base; refine .inl ⟨by rfl, ?_⟩; exact dagUpon_new (w' := wz.alloc (.cells #[.bool false, .slice none 0 0] 75)) (u := .pointer (some ⟨wz.heap.size, 0, none⟩)) (by go_simp) ((Below.refl _ wz).alloc (Nat.le_refl _) _) ⟨_, rfl, hb.size, Blk.new _ _ _⟩)
   intro g w1 hb hg
   simp only [putAll, td]
   have hx1 := hg 8 _ _ rfl rfl
   replace hx1 := show (fun v w' => Big w' v ((fE a b c d x y size i) - (2 * (fF a b i)))) (g 8) w1 from hx1
   obtain ⟨m1, t1', j1, i1, hf1⟩ := hx1.form
   rw [hf1] at hx1 ⊢
   clear hf1
   obtain ⟨b1, hq1, hle1, hB1⟩ := hg 9 _ _ rfl rfl
   rw [show g 9 = _ from hq1]
   clear hq1
   clear hg
   refine lastQ_store (b := b1) (off := 0) (u := .agg #[.bool m1, .slice t1' j1 i1]) (by rfl) (by rfl) (by rfl) (by rfl) hB1 (by rw [size_bigS]; rfl) (by simp [Value.cells, Value.oneCell']) (by simp [Value.cells]) ?_
   intro y1 hu1 hc1
   have hx1 := Big.upd hx1 hB1 hu1
   have hz1 : wr.heap.size ≤ y1.heap.size := Nat.le_trans hb.size hu1.size
   have HB := Upd.low (HB.trans (hb.mono HB.size)) (by omega) (Nat.le_refl _) hu1
   have B101 : Blk y1 (b1) [.bool m1, .slice t1' j1 i1] 75 := hc1
   clear hb hu1 hc1 hB1
   have HcW1 : Hid (∀ X, Below y1.heap.size y1 X → X.cell? ⟨b4, i, none⟩ = some (.int .i64 (fW a b c d i))) := hH (fun X hX => HaW.out X (HBr.out.trans ((HB.trans (hX.mono HB.size)).mono HBr.out.size)) i hi4)
   go_upto_region 9 with (fail)
   refine cP ?_
   refine every_last 6 rfl rfl (by kernel_rfl) (by kernel_rfl) ?_
   simp only [List.take_succ_cons, List.take_zero]
   refine dB [(fun v _ => v = .int .i64 (i : Int)), (fun v _ => v = .pointer (some ⟨b4, i, none⟩)), (fun v _ => v = .int .i64 (fW a b c d i)), (fun v _ => v = .int .i64 (2 * (fW a b c d i))), (fun v w' => Big w' v (2 * (fW a b c d i))), (fun v w' => ∃ q, v = .pointer (some ⟨q, 0, none⟩) ∧ y1.heap.size ≤ q ∧ Blk w' q [.bool false, .slice none 0 0] 75)] ⟨sE, sE, sE, sE, (fun v w w' h hr => h.call hr), (fun v w w' ⟨q, e, h0, h⟩ hr => ⟨q, e, h0, h.call hr⟩), trivial⟩ ⟨?st0, ?st1, ?st2, ?st3, ?st4, ?st5, trivial⟩ ?_
   case st0 => (intro fa wz hp; have e13 := hp.o 13 (.int .i64 (i : Int)); exact dX rfl)
   case st1 => (intro fa wz hp; have e11 := hp.o 11 (.pointer (some ⟨b4, 0, none⟩)); have e95 := hp.q 0 95; exact dW (x_arr1 (i := i) (n := 4) (E := 3) rfl (evt e11) (evt e95) (by omega) Tryz.underlying139 size_intC) rfl)
   case st2 => (intro fa wz hp; have e96 := hp.q 1 96; have hb := hp.base; have hq := HcW1.out wz hb; exact dX rfl)
   case st3 => (intro fa wz hp; have e97 := hp.q 2 97; have nn := tr3; exact dX rfl)
   case st4 => (intro fa wz hp; have e98 := hp.q 3 98; have hb := hp.base; exact dC2 (by go_simp) (of_any _ wz (by omega) (by omega)))
   case st5 => (intro fa wz hp; have hb := hp.base; refine .inl ⟨by rfl, ?_⟩; exact dagUpon_new (w' := wz.alloc (.cells #[.bool false, .slice none 0 0] 75)) (u := .pointer (some ⟨wz.heap.size, 0, none⟩)) (by go_simp) ((Below.refl _ wz).alloc (Nat.le_refl _) _) ⟨_, rfl, hb.size, Blk.new _ _ _⟩)
   intro g w2 hb hg
   simp only [putAll, td]
   have hx2 := hg 4 _ _ rfl rfl
   replace hx2 := show (fun v w' => Big w' v (2 * (fW a b c d i))) (g 4) w2 from hx2
   obtain ⟨m2, t2', j2, i2, hf2⟩ := hx2.form
   rw [hf2] at hx2 ⊢
   clear hf2
   obtain ⟨b2, hq2, hle2, hB2⟩ := hg 5 _ _ rfl rfl
   rw [show g 5 = _ from hq2]
   clear hq2
   have hlt2_b1 : b1 < b2 := lL B101.lt hle2
   clear hg
   refine lastQ_store (b := b2) (off := 0) (u := .agg #[.bool m2, .slice t2' j2 i2]) (by rfl) (by rfl) (by rfl) (by rfl) hB2 (by rw [size_bigS]; rfl) (by simp [Value.cells, Value.oneCell']) (by simp [Value.cells]) ?_
   intro y2 hu2 hc2
   have B101 := (B101.below hb B101.lt).upd hu2 (by have := B101.lt; omega)
   have hx1 := Big.upd (hx1.call hb) hB2 hu2
   have hx2 := Big.upd hx2 hB2 hu2
   have hz2 : y1.heap.size ≤ y2.heap.size := Nat.le_trans hb.size hu2.size
   have HB := Upd.low (HB.trans (hb.mono HB.size)) (by omega) (Nat.le_refl _) hu2
   have B102 : Blk y2 (b2) [.bool m2, .slice t2' j2 i2] 75 := hc2
   clear hb hu2 hc2 hB2
   have HcW2 : Hid (∀ X, Below y2.heap.size y2 X → X.cell? ⟨b4, i, none⟩ = some (.int .i64 (fW a b c d i))) := hH (fun X hX => HaW.out X (HBr.out.trans ((HB.trans (hX.mono HB.size)).mono HBr.out.size)) i hi4)
   go_upto_region 10 with (fail)
   refine cP ?_
   refine cN ?_
   refine cW ?_ ?_ ?_
   refine cX (.pointer (some ⟨b4, i, none⟩)) ?_ (by intro wz hSw; exact x_arr1 (i := i) (n := 4) (E := 3) rfl (by rfl) (by rfl) (by omega) Tryz.underlying139 size_intC) ?_
   refine cX (.int .i64 (fW a b c d i)) ?_ (by intro wz hSw; exact (by have hq := HcW2.out _ (Stay.all hSw.1); go_simp)) ?_
   refine cX (.bool bw) ?_ (by intro wz hSw; exact (by have nn := Hbw.out; go_simp)) ?_
   refine calm_end ?_
   intro w31 hS
   have hS := sO hS
   have hz31 : y2.heap.size ≤ w31.heap.size := hS.size
   have HB := gS HB hS
   have HE9 := hS.all
   clear hS
   have B101 := B101.call HE9
   have B102 := B102.call HE9
   have hx1 := hx1.call HE9
   have hx2 := hx2.call HE9
   go_upto_if 103 with (fail)
   go_cut [] (fun wx => ∃ (m1 : Bool) (t1 : Option Addr) (j1 i1 : Nat) (m2 : Bool) (t2 : Option Addr) (j2 i2 : Nat), Hid (Blk wx b1 [.bool m1, .slice t1 j1 i1] 75) ∧ Hid (Blk wx b2 [.bool m2, .slice t2 j2 i2] 75) ∧ Hid (Big wx (.agg #[.bool m1, .slice t1 j1 i1]) (eD a b c d x y size i).1) ∧ Hid (Big wx (.agg #[.bool m2, .slice t2 j2 i2]) (eD a b c d x y size i).2) ∧ Hid (Below wr.heap.size wr wx))
   case first =>
    cases bw with
    | true =>
     have hng : fW a b c d i < 0 := of_decide_eq_true Hbw.out
     go_upto_region 11 with (fail)
     refine cP ?_
     refine every_last 2 rfl rfl (by kernel_rfl) (by kernel_rfl) ?_
     simp only [List.take_succ_cons, List.take_zero]
     refine dB [(fun v _ => v = .agg #[.bool m1, .slice t1' j1 i1]), (fun v w' => Big w' v (-((fE a b c d x y size i) - (2 * (fF a b i)))))] ⟨sE, (fun v w w' h hr => h.call hr), trivial⟩ ⟨?st0, ?st1, trivial⟩ ?_
     case st0 => (intro fa wz hp; have e14 := hp.o 14 (.pointer (some ⟨b1, 0, none⟩)); have q0 := B101.d hp 0; have q1 := B101.d hp 1; exact dX rfl)
     case st1 => (intro fa wz hp; have e104 := hp.q 0 104; have hb := hp.base; exact dC2 (by go_simp) (minus_any _ _ wz (hx1.call hb)))
     intro g w4 hb hg
     simp only [putAll, td]
     have hx4 := hg 1 _ _ rfl rfl
     replace hx4 := show (fun v w' => Big w' v (-((fE a b c d x y size i) - (2 * (fF a b i))))) (g 1) w4 from hx4
     obtain ⟨m4, t4', j4, i4, hf4⟩ := hx4.form
     rw [hf4] at hx4 ⊢
     clear hf4
     clear hg
     refine lastQ_store (b := b1) (off := 0) (u := .agg #[.bool m4, .slice t4' j4 i4]) (by rfl) (by rfl) (by rfl) (by rfl) (B101.below hb B101.lt) (by rw [size_bigS]; rfl) (by simp [Value.cells, Value.oneCell']) (by simp [Value.cells]) ?_
     intro y4 hu4 hc4
     have B102 := (B102.below hb B102.lt).upd hu4 (by have := B102.lt; omega)
     have hx1 := Big.upd (hx1.call hb) (B101.below hb B101.lt) hu4
     have hx2 := Big.upd (hx2.call hb) (B101.below hb B101.lt) hu4
     have hx4 := Big.upd hx4 (B101.below hb B101.lt) hu4
     have hz4 : w31.heap.size ≤ y4.heap.size := Nat.le_trans hb.size hu4.size
     have HB := Upd.low (HB.trans (hb.mono HB.size)) (by omega) (Nat.le_refl _) hu4
     have B101 : Blk y4 (b1) [.bool m4, .slice t4' j4 i4] 75 := hc4
     clear hb hu4 hc4
     go_upto_region 12 with (fail)
     refine cP ?_
     refine every_last 2 rfl rfl (by kernel_rfl) (by kernel_rfl) ?_
     simp only [List.take_succ_cons, List.take_zero]
     refine dB [(fun v _ => v = .agg #[.bool m2, .slice t2' j2 i2]), (fun v w' => Big w' v (-(2 * (fW a b c d i))))] ⟨sE, (fun v w w' h hr => h.call hr), trivial⟩ ⟨?st0, ?st1, trivial⟩ ?_
     case st0 => (intro fa wz hp; have e15 := hp.o 15 (.pointer (some ⟨b2, 0, none⟩)); have q0 := B102.d hp 0; have q1 := B102.d hp 1; exact dX rfl)
     case st1 => (intro fa wz hp; have e106 := hp.q 0 106; have hb := hp.base; exact dC2 (by go_simp) (minus_any _ _ wz (hx2.call hb)))
     intro g w5 hb hg
     simp only [putAll, td]
     have hx5 := hg 1 _ _ rfl rfl
     replace hx5 := show (fun v w' => Big w' v (-(2 * (fW a b c d i)))) (g 1) w5 from hx5
     obtain ⟨m5, t5', j5, i5, hf5⟩ := hx5.form
     rw [hf5] at hx5 ⊢
     clear hf5
     clear hg
     refine lastQ_store (b := b2) (off := 0) (u := .agg #[.bool m5, .slice t5' j5 i5]) (by rfl) (by rfl) (by rfl) (by rfl) (B102.below hb B102.lt) (by rw [size_bigS]; rfl) (by simp [Value.cells, Value.oneCell']) (by simp [Value.cells]) ?_
     intro y5 hu5 hc5
     have B101 := (B101.below hb B101.lt).upd hu5 (by have := B101.lt; omega)
     have hx1 := Big.upd (hx1.call hb) (B102.below hb B102.lt) hu5
     have hx2 := Big.upd (hx2.call hb) (B102.below hb B102.lt) hu5
     have hx4 := Big.upd (hx4.call hb) (B102.below hb B102.lt) hu5
     have hx5 := Big.upd hx5 (B102.below hb B102.lt) hu5
     have hz5 : y4.heap.size ≤ y5.heap.size := Nat.le_trans hb.size hu5.size
     have HB := Upd.low (HB.trans (hb.mono HB.size)) (by omega) (Nat.le_refl _) hu5
     have B102 : Blk y5 (b2) [.bool m5, .slice t5' j5 i5] 75 := hc5
     clear hb hu5 hc5
     have E1 : Hid (Big y5 (.agg #[.bool m4, .slice t4' j4 i4]) (eD a b c d x y size i).1) := hH (by unfold eD edgeD; rw [if_pos hng]; exact hx4)
     have E2 : Hid (Big y5 (.agg #[.bool m5, .slice t5' j5 i5]) (eD a b c d x y size i).2) := hH (by unfold eD edgeD; rw [if_pos hng]; exact hx5)
     have F1 := hH B101
     have F2 := hH B102
     have F3 := hH HB
     clear hx4 hx5 B101 B102 HB hx1 hx2
     go_wp2_with fail
     go_meet
     case rel => exact ⟨_, _, _, _, _, _, _, _, F1, F2, E1, E2, F3⟩
    | false =>
     have hng : ¬ fW a b c d i < 0 := of_decide_eq_false Hbw.out
     have E1 : Hid (Big w31 (.agg #[.bool m1, .slice t1' j1 i1]) (eD a b c d x y size i).1) := hH (by unfold eD edgeD; rw [if_neg hng]; exact hx1)
     have E2 : Hid (Big w31 (.agg #[.bool m2, .slice t2' j2 i2]) (eD a b c d x y size i).2) := hH (by unfold eD edgeD; rw [if_neg hng]; exact hx2)
     have F1 := hH B101
     have F2 := hH B102
     have F3 := hH HB
     clear hx1 hx2 B101 B102 HB
     go_wp2_with fail
     go_meet
     case rel => exact ⟨_, _, _, _, _, _, _, _, F1, F2, E1, E2, F3⟩
   case rest =>
    obtain ⟨m1, t1, j1, i1, m2, t2, j2, i2, F1, F2, E1, E2, F3⟩ := hcut
    rename World => wq
    have HcWq : Hid (∀ X, Below wq.heap.size wq X → X.cell? ⟨b4, i, none⟩ = some (.int .i64 (fW a b c d i))) := hH (fun X hX => HaW.out X (HBr.out.trans ((F3.out.trans (hX.mono F3.out.size)).mono HBr.out.size)) i hi4)
    have sEx : SmF 100 (eD a b c d x y size i) := by
     have h := edge_sm q1 q2 q3
     exact ⟨h.1.mono (by decide), h.2.mono (by decide)⟩
    have HSE := hH sEx
    go_upto_region 13 with (fail)
    go_cut [122] (fun s122 wx => ∃ bq : Bool, s122 = .bool bq ∧ Hid (bq = true ↔ (fW a b c d i ≠ 0 ∧ 0 ≤ (eD a b c d x y size i).1 ∧ (eD a b c d x y size i).1 ≤ (eD a b c d x y size i).2)) ∧ Hid (Below wq.heap.size wq wx))
    case first =>
     have B101 := F1.out
     have B102 := F2.out
     have hx1 := E1.out
     have hx2 := E2.out
     have HB : Below wq.heap.size wq wq := Below.refl _ _
     by_cases hw : fW a b c d i = 0
     ·have hw0 : ¬ fW a b c d i ≠ 0 := fun h => h hw
      have hw1 : (fW a b c d i != 0) = false := by simp [hw]
      skip
      refine cP ?_
      refine dB [(fun v _ => v = .int .i64 (i : Int)), (fun v _ => v = .pointer (some ⟨b4, i, none⟩)), (fun v _ => v = .int .i64 (fW a b c d i)), (fun v _ => v = .bool false), (fun v _ => v = .bool false), (fun v _ => v = undef), (fun v _ => v = undef), (fun v _ => v = undef), (fun v _ => v = .bool false), (fun v _ => v = .bool false), (fun v _ => v = undef), (fun v _ => v = undef), (fun v _ => v = undef), (fun v _ => v = undef), (fun v _ => v = .bool false)] ⟨sE, sE, sE, sE, sE, sE, sE, sE, sE, sE, sE, sE, sE, sE, sE, trivial⟩ ⟨?st0, ?st1, ?st2, ?st3, ?st4, ?st5, ?st6, ?st7, ?st8, ?st9, ?st10, ?st11, ?st12, ?st13, ?st14, trivial⟩ ?_
      case st0 => (intro fa wz hp; have e13 := hp.o 13 (.int .i64 (i : Int)); exact dX rfl)
      case st1 => (intro fa wz hp; have e11 := hp.o 11 (.pointer (some ⟨b4, 0, none⟩)); have e108 := hp.q 0 108; exact dW (x_arr1 (i := i) (n := 4) (E := 3) rfl (evt e11) (evt e108) (by omega) Tryz.underlying139 size_intC) rfl)
      case st2 => (intro fa wz hp; have e109 := hp.q 1 109; have hb := hp.base; have hq := HcWq.out wz hb; exact dX rfl)
      case st3 => (intro fa wz hp; have e110 := hp.q 2 110; have nn := hw0; have nn2 := hw1; exact dX rfl)
      case st4 => (intro fa wz hp; have e111 := hp.q 3 111; exact dX rfl)
      case st5 => (intro fa wz hp; exact dU rfl rfl rfl (hp.q 4 112))
      case st6 => (intro fa wz hp; exact dU rfl rfl rfl (hp.q 4 112))
      case st7 => (intro fa wz hp; exact dU rfl rfl rfl (hp.q 4 112))
      case st8 => (intro fa wz hp; have e112 := hp.q 4 112; have e115 := hp.q 7 115; exact dX rfl)
      case st9 => (intro fa wz hp; have e116 := hp.q 8 116; exact dX rfl)
      case st10 => (intro fa wz hp; exact dU rfl rfl rfl (hp.q 9 117))
      case st11 => (intro fa wz hp; exact dU rfl rfl rfl (hp.q 9 117))
      case st12 => (intro fa wz hp; exact dU rfl rfl rfl (hp.q 9 117))
      case st13 => (intro fa wz hp; exact dU rfl rfl rfl (hp.q 9 117))
      case st14 => (intro fa wz hp; have e117 := hp.q 9 117; have e121 := hp.q 13 121; exact dX rfl)
      intro g w10 hb hg
      simp only [putAll, td]
      rw [show g 14 = .bool false from hg 14 _ _ rfl rfl]
      clear hg
      have B101 := B101.below hb B101.lt
      have B102 := B102.below hb B102.lt
      have hx1 := hx1.call hb
      have hx2 := hx2.call hb
      have hz10 : wq.heap.size ≤ w10.heap.size := hb.size
      have HB := HB.trans (hb.mono HB.size)
      clear hb
      have F4 := hH HB
      have F5 : Hid (false = true ↔ (fW a b c d i ≠ 0 ∧ 0 ≤ (eD a b c d x y size i).1 ∧ (eD a b c d x y size i).1 ≤ (eD a b c d x y size i).2)) := hH ⟨fun h => (by cases h), fun h => absurd hw h.1⟩
      clear HB B101 B102 hx1 hx2
      go_wp2_with fail
      go_meet
      case rel => exact ⟨false, rfl, F5, F4⟩
     ·have hw0 : fW a b c d i ≠ 0 := hw
      have hw1 : (fW a b c d i != 0) = true := by simp [hw]
      by_cases hn : 0 ≤ (eD a b c d x y size i).1
      ·have hn0 : 0 ≤ Bg.cmpI (eD a b c d x y size i).1 0 := cI_ge.2 hn
       obtain ⟨B2, HB2⟩ : ∃ bq : Bool, Hid (decide (Bg.cmpI (eD a b c d x y size i).1 (eD a b c d x y size i).2 ≤ 0) = bq) := ⟨_, hH rfl⟩
       skip
       refine cP ?_
       refine dB [(fun v _ => v = .int .i64 (i : Int)), (fun v _ => v = .pointer (some ⟨b4, i, none⟩)), (fun v _ => v = .int .i64 (fW a b c d i)), (fun v _ => v = .bool true), (fun v _ => v = .bool true), (fun v _ => v = .agg #[.bool m1, .slice t1 j1 i1]), (fun v _ => v = .int .i64 (Bg.cmpI ((eD a b c d x y size i).1) 0)), (fun v _ => v = .bool true), (fun v _ => v = .bool true), (fun v _ => v = .bool true), (fun v _ => v = .agg #[.bool m1, .slice t1 j1 i1]), (fun v _ => v = .agg #[.bool m2, .slice t2 j2 i2]), (fun v _ => v = .int .i64 (Bg.cmpI ((eD a b c d x y size i).1) ((eD a b c d x y size i).2))), (fun v _ => v = .bool B2), (fun v _ => v = .bool B2)] ⟨sE, sE, sE, sE, sE, sE, sE, sE, sE, sE, sE, sE, sE, sE, sE, trivial⟩ ⟨?st0, ?st1, ?st2, ?st3, ?st4, ?st5, ?st6, ?st7, ?st8, ?st9, ?st10, ?st11, ?st12, ?st13, ?st14, trivial⟩ ?_
       case st0 => (intro fa wz hp; have e13 := hp.o 13 (.int .i64 (i : Int)); exact dX rfl)
       case st1 => (intro fa wz hp; have e11 := hp.o 11 (.pointer (some ⟨b4, 0, none⟩)); have e108 := hp.q 0 108; exact dW (x_arr1 (i := i) (n := 4) (E := 3) rfl (evt e11) (evt e108) (by omega) Tryz.underlying139 size_intC) rfl)
       case st2 => (intro fa wz hp; have e109 := hp.q 1 109; have hb := hp.base; have hq := HcWq.out wz hb; exact dX rfl)
       case st3 => (intro fa wz hp; have e110 := hp.q 2 110; have nn := hw0; have nn2 := hw1; exact dX rfl)
       case st4 => (intro fa wz hp; have e111 := hp.q 3 111; exact dX rfl)
       case st5 => (intro fa wz hp; have e14 := hp.o 14 (.pointer (some ⟨b1, 0, none⟩)); have q0 := B101.d hp 0; have q1 := B101.d hp 1; exact dX rfl (wanted_of rfl rfl rfl (hp.q 4 112)))
       case st6 => (intro fa wz hp; have e113 := hp.q 5 113; have hb := hp.base; exact dC1 (by go_simp) (sign_any _ _ wz (hx1.call hb) (Sm.lim (k := 100) (sEx.1) (by decide))) (wanted_of rfl rfl rfl (hp.q 4 112)))
       case st7 => (intro fa wz hp; have e114 := hp.q 6 114; have nn := hn0; exact dX rfl (wanted_of rfl rfl rfl (hp.q 4 112)))
       case st8 => (intro fa wz hp; have e112 := hp.q 4 112; have e115 := hp.q 7 115; exact dX rfl)
       case st9 => (intro fa wz hp; have e116 := hp.q 8 116; exact dX rfl)
       case st10 => (intro fa wz hp; have e14 := hp.o 14 (.pointer (some ⟨b1, 0, none⟩)); have q0 := B101.d hp 0; have q1 := B101.d hp 1; exact dX rfl (wanted_of rfl rfl rfl (hp.q 9 117)))
       case st11 => (intro fa wz hp; have e15 := hp.o 15 (.pointer (some ⟨b2, 0, none⟩)); have q0 := B102.d hp 0; have q1 := B102.d hp 1; exact dX rfl (wanted_of rfl rfl rfl (hp.q 9 117)))
       case st12 => (intro fa wz hp; have e118 := hp.q 10 118; have e119 := hp.q 11 119; have hb := hp.base; exact dC1 (by go_simp) (cmp_any _ _ _ _ wz (hx1.call hb) (hx2.call hb) (Sm.lim (k := 100) (sEx.1) (by decide)) (Sm.lim (k := 100) (sEx.2) (by decide))) (wanted_of rfl rfl rfl (hp.q 9 117)))
       case st13 => (intro fa wz hp; have e120 := hp.q 12 120; have nn := HB2.out; exact dX rfl (wanted_of rfl rfl rfl (hp.q 9 117)))
       case st14 => (intro fa wz hp; have e117 := hp.q 9 117; have e121 := hp.q 13 121; exact dX rfl)
       intro g w10 hb hg
       simp only [putAll, td]
       rw [show g 14 = .bool B2 from hg 14 _ _ rfl rfl]
       clear hg
       have B101 := B101.below hb B101.lt
       have B102 := B102.below hb B102.lt
       have hx1 := hx1.call hb
       have hx2 := hx2.call hb
       have hz10 : wq.heap.size ≤ w10.heap.size := hb.size
       have HB := HB.trans (hb.mono HB.size)
       clear hb
       have F4 := hH HB
       have F5 : Hid (B2 = true ↔ (fW a b c d i ≠ 0 ∧ 0 ≤ (eD a b c d x y size i).1 ∧ (eD a b c d x y size i).1 ≤ (eD a b c d x y size i).2)) := hH (by rw [← HB2.out, decide_eq_true_eq, cI_le]; exact ⟨fun h => ⟨hw, hn, h⟩, fun h => h.2.2⟩)
       clear HB B101 B102 hx1 hx2
       go_wp2_with fail
       go_meet
       case rel => exact ⟨B2, rfl, F5, F4⟩
      ·have hn0 : ¬ 0 ≤ Bg.cmpI (eD a b c d x y size i).1 0 := fun h => hn (cI_ge.1 h)
       skip
       refine cP ?_
       refine dB [(fun v _ => v = .int .i64 (i : Int)), (fun v _ => v = .pointer (some ⟨b4, i, none⟩)), (fun v _ => v = .int .i64 (fW a b c d i)), (fun v _ => v = .bool true), (fun v _ => v = .bool true), (fun v _ => v = .agg #[.bool m1, .slice t1 j1 i1]), (fun v _ => v = .int .i64 (Bg.cmpI ((eD a b c d x y size i).1) 0)), (fun v _ => v = .bool false), (fun v _ => v = .bool false), (fun v _ => v = .bool false), (fun v _ => v = undef), (fun v _ => v = undef), (fun v _ => v = undef), (fun v _ => v = undef), (fun v _ => v = .bool false)] ⟨sE, sE, sE, sE, sE, sE, sE, sE, sE, sE, sE, sE, sE, sE, sE, trivial⟩ ⟨?st0, ?st1, ?st2, ?st3, ?st4, ?st5, ?st6, ?st7, ?st8, ?st9, ?st10, ?st11, ?st12, ?st13, ?st14, trivial⟩ ?_
       case st0 => (intro fa wz hp; have e13 := hp.o 13 (.int .i64 (i : Int)); exact dX rfl)
       case st1 => (intro fa wz hp; have e11 := hp.o 11 (.pointer (some ⟨b4, 0, none⟩)); have e108 := hp.q 0 108; exact dW (x_arr1 (i := i) (n := 4) (E := 3) rfl (evt e11) (evt e108) (by omega) Tryz.underlying139 size_intC) rfl)
       case st2 => (intro fa wz hp; have e109 := hp.q 1 109; have hb := hp.base; have hq := HcWq.out wz hb; exact dX rfl)
       case st3 => (intro fa wz hp; have e110 := hp.q 2 110; have nn := hw0; have nn2 := hw1; exact dX rfl)
       case st4 => (intro fa wz hp; have e111 := hp.q 3 111; exact dX rfl)
       case st5 => (intro fa wz hp; have e14 := hp.o 14 (.pointer (some ⟨b1, 0, none⟩)); have q0 := B101.d hp 0; have q1 := B101.d hp 1; exact dX rfl (wanted_of rfl rfl rfl (hp.q 4 112)))
       case st6 => (intro fa wz hp; have e113 := hp.q 5 113; have hb := hp.base; exact dC1 (by go_simp) (sign_any _ _ wz (hx1.call hb) (Sm.lim (k := 100) (sEx.1) (by decide))) (wanted_of rfl rfl rfl (hp.q 4 112)))
       case st7 => (intro fa wz hp; have e114 := hp.q 6 114; have nn := hn0; exact dX rfl (wanted_of rfl rfl rfl (hp.q 4 112)))
       case st8 => (intro fa wz hp; have e112 := hp.q 4 112; have e115 := hp.q 7 115; exact dX rfl)
       case st9 => (intro fa wz hp; have e116 := hp.q 8 116; exact dX rfl)
       case st10 => (intro fa wz hp; exact dU rfl rfl rfl (hp.q 9 117))
       case st11 => (intro fa wz hp; exact dU rfl rfl rfl (hp.q 9 117))
       case st12 => (intro fa wz hp; exact dU rfl rfl rfl (hp.q 9 117))
       case st13 => (intro fa wz hp; exact dU rfl rfl rfl (hp.q 9 117))
       case st14 => (intro fa wz hp; have e117 := hp.q 9 117; have e121 := hp.q 13 121; exact dX rfl)
       intro g w10 hb hg
       simp only [putAll, td]
       rw [show g 14 = .bool false from hg 14 _ _ rfl rfl]
       clear hg
       have B101 := B101.below hb B101.lt
       have B102 := B102.below hb B102.lt
       have hx1 := hx1.call hb
       have hx2 := hx2.call hb
       have hz10 : wq.heap.size ≤ w10.heap.size := hb.size
       have HB := HB.trans (hb.mono HB.size)
       clear hb
       have F4 := hH HB
       have F5 : Hid (false = true ↔ (fW a b c d i ≠ 0 ∧ 0 ≤ (eD a b c d x y size i).1 ∧ (eD a b c d x y size i).1 ≤ (eD a b c d x y size i).2)) := hH ⟨fun h => (by cases h), fun h => absurd h.2.1 hn⟩
       clear HB B101 B102 hx1 hx2
       go_wp2_with fail
       go_meet
       case rel => exact ⟨false, rfl, F5, F4⟩
    case rest =>
     obtain ⟨bq, rfl, F5, F6⟩ := hcut
     rename World => wt
     have HBt : Hid (Below wr.heap.size wr wt) := hH (F3.out.trans (F6.out.mono F3.out.size))
     have HBn : Hid (Below w3.heap.size w3 wt) := hH (HBr.out.trans (HBt.out.mono HBr.out.size))
     cases bq with
     | false =>
      have HRn : Hid (RtS wt u9 (tsN a b c d x y size (i + 1))) := hH (by
       rw [tsN]; unfold tsStep
       rw [if_neg (fun h => by have := F5.out.2 h; cases this)]
       exact HR.out.call HBt.out)
      clear F5
      go_wp2_with fail
      go_roundg q
      case measure => omega
      case rel => exact ⟨i + 1, by omega, by go_num, HRn, HBn⟩
     | true =>
      have HTs : Hid (tsN a b c d x y size (i + 1) = putD (tsN a b c d x y size i) (eD a b c d x y size i)) := hH (by
       rw [tsN]; unfold tsStep
       rw [if_pos (F5.out.1 rfl)])
      obtain ⟨qa0, qa1⟩ := Rg.c2 (F1.out.call F6.out)
      obtain ⟨qb0, qb1⟩ := Rg.c2 (F2.out.call F6.out)
      have HPut := hH (put_any u9 _ (tsN a b c d x y size i) _ wt (HR.out.call HBt.out) (RatV.mk (E1.out.call F6.out) (E2.out.call F6.out)) (fun u hu => by
       have h := HSm.out i (by omega) u hu
       exact ⟨h.1.mono (by decide), h.2.mono (by decide)⟩) HSE.out (by have := tsN_len a b c d x y size i; omega))
      clear F5
      go_wp2_with fail
      refine HPut.out.mono ?_
      rintro e wu ⟨vu, rfl, hru, hbu⟩
      have HRn : Hid (RtS wu vu (tsN a b c d x y size (i + 1))) := hH (by rw [HTs.out]; exact hru)
      have HBu : Hid (Below w3.heap.size w3 wu) := hH (HBn.out.trans (hbu.mono HBn.out.size))
      clear hru hbu
      go_wp2_with fail
      go_roundg q
      case measure => omega
      case rel => exact ⟨i + 1, by omega, by go_num, HRn, HBu⟩
end Go.Proofs.YthbplhglfjlngaaGreat
namespace Go.Rg
open Go Go.RowKit
theorem c11 {w : World} {b : Nat} {a0 a1 a2 a3 a4 a5 a6 a7 a8 a9 a10 : Value} {t : TypeId} (h : Blk w b [a0, a1, a2, a3, a4, a5, a6, a7, a8, a9, a10] t) : w.cell? ⟨b, 8, none⟩ = some a8 ∧ w.cell? ⟨b, 10, none⟩ = some a10 := ⟨h.cell rfl, h.cell rfl⟩
end Go.Rg
namespace Go.Proofs.YthbplhglfjlngaaGreat
open Go.RowKit Go.Rg Go.Wd
attribute [local go_sem] Oper.semAt_some
theorem size_strS : (Tryz.prog.info? 79).map (·.size) = some 11 := by kernel_rfl
theorem size_boolC : (Tryz.prog.info? 4).map (·.size) = some 1 := by kernel_rfl
theorem tsN_d (a b c d x y size : Int) (h2 : ∀ i, i < 4 → (fW a b c d i).natAbs ≤ 4398046511104) : ∀ i, i ≤ 4 → ∀ u ∈ tsN a b c d x y size i, u.2.natAbs ≤ 8796093022208
 | 0, _, u, hu => by
  simp only [tsN, List.mem_cons, List.not_mem_nil, or_false] at hu
  rcases hu with rfl | rfl <;> decide
 | i + 1, hi, u, hu => by
  have ih := tsN_d a b c d x y size h2 i (by omega)
  rw [tsN] at hu; unfold tsStep at hu; split at hu
  ·rcases putD_mem hu with rfl | hu
   ·have := h2 i (by omega)
    unfold edgeD; split <;> (simp only; omega)
   ·exact ih u hu
  ·exact ih u hu
theorem tsD_sm {a b c d x y size : Int} (a1 : a.natAbs ≤ 2199023255552) (a2 : b.natAbs ≤ 2199023255552) (a3 : c.natAbs ≤ 2199023255552) (a4 : d.natAbs ≤ 2199023255552) : ∀ u ∈ tsD a b c d x y size, SmF 44 u := fun u hu => by
 have h1 := (tsD_ok a b c d x y size).u u hu
 have h2 := tsN_d a b c d x y size (fun i h => by rcases below4 h with rfl | rfl | rfl | rfl <;> (simp only [fW]; omega)) 4 (Nat.le_refl _) u (by rw [tsN_four]; exact hu)
 have h3 := h1.l
 have h4 := h1.h
 unfold SmF Sm; constructor <;> omega
theorem mid_sm {t u : Fr} (ht : SmF 44 t) (hu : SmF 44 u) : SmF 92 (midD t u) :=
 ⟨((ht.1.mul hu.2).add (hu.1.mul ht.2)).mono (by decide), by
  have h := (ht.2.mul hu.2).add (ht.2.mul hu.2)
  have e : (midD t u).2 = t.2 * u.2 + t.2 * u.2 := by unfold midD; simp only; omega
  rw [e]; exact h.mono (by decide)⟩
theorem spot_sm {a b c d : Int} {t : Fr} (a1 : a.natAbs ≤ 2199023255552) (a2 : b.natAbs ≤ 2199023255552) (a3 : c.natAbs ≤ 2199023255552) (a4 : d.natAbs ≤ 2199023255552) (h : SmF 92 t) : Sm 200 (a * t.2 + (c - a) * t.1) ∧ Sm 200 (b * t.2 + (d - b) * t.1) ∧ Sm 120 t.2 := by
 have q1 : Sm 43 a := by unfold Sm; omega
 have q2 : Sm 43 b := by unfold Sm; omega
 have q3 : Sm 43 (c - a) := by unfold Sm; omega
 have q4 : Sm 43 (d - b) := by unfold Sm; omega
 exact ⟨((q1.mul h.2).add (q3.mul h.1)).mono (by decide), ((q2.mul h.2).add (q4.mul h.1)).mono (by decide), h.2.mono (by decide)⟩
def StX (w : World) (b : Nat) (f : Fr) (op so : Bool) : Prop := ∃ f1 f2 f3 f4 p1 p2 p3 p4 ot g, Blk w b [f1, f2, f3, f4, p1, p2, p3, p4, .bool op, .bool ot, .bool so] 79 ∧ RatV w (.agg #[f1, f2, f3, f4]) f ∧ RatV w (.agg #[p1, p2, p3, p4]) g
def CutV (w : World) (v : Value) (o : Option DStr) : Prop := ∃ f1 f2 f3 f4 p1 p2 p3 p4 op ot so f g, v = .agg #[f1, f2, f3, f4, p1, p2, p3, p4, .bool op, .bool ot, .bool so] ∧ RatV w (.agg #[f1, f2, f3, f4]) f ∧ RatV w (.agg #[p1, p2, p3, p4]) g ∧ (match o with | none => so = false | some s => so = true ∧ f = (s.n, s.d) ∧ op = s.o)
theorem rat_zero (w : World) : RatV w (.agg #[.bool false, .slice none 0 0, .bool false, .slice none 0 0]) (0, 0) := ⟨_, _, rfl, big_zero w, big_zero w⟩
section
variable {I : Fr → Bool}
theorem scan_hit {l : List Fr} {i : Nat} {t : Fr} (h : l[i]? = some t) (hI : I t = true) : scanD I (l.drop i) = some ⟨t.1, t.2, false⟩ := by
 rw [Go.Proofs.YthbplhglfjlngaaGreat.drop_at' h]
 cases l.drop (i + 1) with
 | nil => rw [scanD, if_pos hI]
 | cons u r => rw [scanD, if_pos hI]
theorem scan_mid {l : List Fr} {i : Nat} {t u : Fr} (h : l[i]? = some t) (hu : l[i + 1]? = some u) (hI : I t = false) (hm : I (midD t u) = true) : scanD I (l.drop i) = some ⟨t.1, t.2, true⟩ := by
 rw [Go.Proofs.YthbplhglfjlngaaGreat.drop_at' h, Go.Proofs.YthbplhglfjlngaaGreat.drop_at' hu, scanD, if_neg (by rw [hI]; decide), if_pos hm]
theorem scan_on {l : List Fr} {i : Nat} {t : Fr} (h : l[i]? = some t) (hI : I t = false) (hm : ∀ u, l[i + 1]? = some u → I (midD t u) = false) : scanD I (l.drop i) = scanD I (l.drop (i + 1)) := by
 rw [Go.Proofs.YthbplhglfjlngaaGreat.drop_at' h]
 cases hu : l[i + 1]? with
 | none =>
  have : l.drop (i + 1) = [] := List.drop_of_length_le (List.getElem?_eq_none_iff.1 hu)
  rw [this]; simp [scanD, hI]
 | some u => rw [Go.Proofs.YthbplhglfjlngaaGreat.drop_at' hu, scanD, if_neg (by rw [hI]; decide), if_neg (by rw [hm u hu]; decide)]
end
def CutI (I : Fr → Bool) (l : List Fr) (i : Nat) (f : Fr) (op so : Bool) : Prop := (so = false → op = false ∧ scanD I l = scanD I (l.drop i)) ∧ (so = true → scanD I l = some ⟨f.1, f.2, op⟩)
def CutJ (I : Fr → Bool) (l : List Fr) (i : Nat) (t f : Fr) (op so : Bool) : Prop := (so = false → op = false ∧ I t = false ∧ scanD I l = scanD I (l.drop i)) ∧ (so = true → scanD I l = some ⟨f.1, f.2, op⟩)
set_option maxHeartbeats 4000000 in
theorem cut15_any (a b c d x y size : Int) (w : World) (a1 : a.natAbs ≤ 2199023255552) (a2 : b.natAbs ≤ 2199023255552) (a3 : c.natAbs ≤ 2199023255552) (a4 : d.natAbs ≤ 2199023255552) (x1 : x.natAbs ≤ 2199023255552) (x2 : y.natAbs ≤ 2199023255552) (z1 : 1 ≤ size) (z2 : size ≤ 1048576) :
  Calls Tryz.prog 24 #[.agg #[.int .i64 a, .int .i64 b], .agg #[.int .i64 c, .int .i64 d], .agg #[.int .i64 x, .int .i64 y], .int .i64 size] w fun e w' => ∃ v, e = .returned v ∧ CutV w' v (cutD a b c d size (x, y)) ∧ Below w.heap.size w w' := by
 have z0 : 0 ≤ size := by omega
 obtain ⟨W0, hW0⟩ : ∃ W0, [.cells #[.int .i64 a, .int .i64 b] 37, .cells #[.int .i64 c, .int .i64 d] 37, .cells #[.int .i64 x, .int .i64 y] 37, .cells #[.bool false, .slice none 0 0, .bool false, .slice none 0 0, .bool false, .slice none 0 0, .bool false, .slice none 0 0, .bool false, .bool false, .bool false] 79].foldl World.alloc w = W0 := ⟨_, rfl⟩
 have B0 : Blk W0 (w.heap.size) [.int .i64 a, .int .i64 b] 37 := Blk.allocs _ hW0 0 rfl
 have B1 : Blk W0 (w.heap.size + 1) [.int .i64 c, .int .i64 d] 37 := Blk.allocs _ hW0 1 rfl
 have B2 : Blk W0 (w.heap.size + 1 + 1) [.int .i64 x, .int .i64 y] 37 := Blk.allocs _ hW0 2 rfl
 have B3 : Blk W0 (w.heap.size + 1 + 1 + 1) [.bool false, .slice none 0 0, .bool false, .slice none 0 0, .bool false, .slice none 0 0, .bool false, .slice none 0 0, .bool false, .bool false, .bool false] 79 := Blk.allocs _ hW0 3 rfl
 have HB := aB hW0
 have hsz : w.heap.size + 4 ≤ W0.heap.size := aZ hW0
 simp only [List.foldl_cons, List.foldl_nil] at hW0
 go_enter Tryz.func24, Tryz.ntmps24
 go_upto_region 1 with (fail)
 clear hW0
 refine cP ?_
 refine dB [(fun v _ => v = .agg #[.int .i64 a, .int .i64 b]), (fun v _ => v = .agg #[.int .i64 c, .int .i64 d]), (fun v _ => v = .agg #[.int .i64 x, .int .i64 y]), (fun v _ => v = .int .i64 size), (fun v w' => RtS w' v (tsD a b c d x y size)), (fun v w' => RtS w' v (tsD a b c d x y size))] ⟨sE, sE, sE, sE, (fun v w w' h hr => h.call hr), (fun v w w' h hr => h.call hr), trivial⟩ ⟨?st0, ?st1, ?st2, ?st3, ?st4, ?st5, trivial⟩ ?_
 case st0 => (intro fa wz hp; have e4 := hp.o 4 (.pointer (some ⟨w.heap.size, 0, none⟩)); have q0 := B0.d hp 0; have q1 := B0.d hp 1; exact dX rfl)
 case st1 => (intro fa wz hp; have e5 := hp.o 5 (.pointer (some ⟨w.heap.size + 1, 0, none⟩)); have q0 := B1.d hp 0; have q1 := B1.d hp 1; exact dX rfl)
 case st2 => (intro fa wz hp; have e6 := hp.o 6 (.pointer (some ⟨w.heap.size + 1 + 1, 0, none⟩)); have q0 := B2.d hp 0; have q1 := B2.d hp 1; exact dX rfl)
 case st3 => (intro fa wz hp; have e3 := hp.o 3 (.int .i64 size); exact dX rfl)
 case st4 => (intro fa wz hp; have e12 := hp.q 0 12; have e13 := hp.q 1 13; have e14 := hp.q 2 14; have e15 := hp.q 3 15; have hb := hp.base; exact dC2 (by go_simp) (ts_any a b c d x y size wz a1 a2 a3 a4 x1 x2 z1 z2))
 case st5 => (intro fa wz hp; obtain ⟨v16, e16, hv16⟩ := hp.p 4 16; exact dW (by go_simp) hv16)
 intro g w1 hb hg
 simp only [putAll, td]
 have hr1 := show (fun v w' => RtS w' v (tsD a b c d x y size)) (g 5) w1 from hg 5 _ _ rfl rfl
 clear hg
 have B0 := B0.below hb B0.lt
 have B1 := B1.below hb B1.lt
 have B2 := B2.below hb B2.lt
 have B3 := B3.below hb B3.lt
 have hz1 : W0.heap.size ≤ w1.heap.size := hb.size
 have HB := HB.trans (hb.mono HB.size)
 clear hb
 have HL := hH hr1
 clear hr1
 generalize g 5 = vl at *
 obtain ⟨es, hvl, hel⟩ := HL.out
 obtain ⟨al, cl, e, hn, hcm⟩ := hvl.form
 subst e
 obtain ⟨n, Hn⟩ : ∃ n, Hid (n = es.length) := ⟨_, hH rfl⟩
 have Hnl : Hid (n = (tsD a b c d x y size).length) := hH (Hn.out.trans hel.len)
 rw [← Hn.out] at hvl hn ⊢
 unfold maxLen at hcm
 have HV := hH hvl
 have HE := hH hel
 obtain ⟨l, Hl⟩ : ∃ l, Hid (l = tsD a b c d x y size) := ⟨_, hH rfl⟩
 rw [← Hl.out] at HE Hnl
 obtain ⟨I, HI⟩ : ∃ I, Hid (I = inD a b c d x y size) := ⟨_, hH rfl⟩
 have HS : Hid (∀ u ∈ l, SmF 44 u) := hH (by rw [Hl.out]; exact tsD_sm a1 a2 a3 a4)
 have HR : Hid (cutD a b c d size (x, y) = scanD I l) := hH (by rw [HI.out, Hl.out]; rfl)
 have HBw := hH HB
 have HB0 := hH B0
 have HB1 := hH B1
 have HB2 := hH B2
 have HB3 := hH B3
 clear HL hvl hel B0 B1 B2 B3 HB
 go_upto_block 0 with (fail)
 obtain ⟨Wb, hWb⟩ : ∃ Wb, w1.alloc (.cells #[.bool false, .slice none 0 0, .bool false, .slice none 0 0, .bool false, .slice none 0 0, .bool false, .slice none 0 0, .bool false, .bool false, .bool false] 79) = Wb := ⟨_, rfl⟩
 have hbb : Below w1.heap.size w1 Wb := hWb ▸ (Below.refl _ w1).alloc (Nat.le_refl _) _
 have hBb : Blk Wb w1.heap.size [.bool false, .slice none 0 0, .bool false, .slice none 0 0, .bool false, .slice none 0 0, .bool false, .slice none 0 0, .bool false, .bool false, .bool false] 79 := hWb ▸ Blk.new _ _ _
 (try rw [hWb])
 clear hWb
 have HX : Hid (StX Wb w1.heap.size (0, 0) false false) := hH ⟨_, _, _, _, _, _, _, _, _, (0, 0), hBb, rat_zero Wb, rat_zero Wb⟩
 have HBb := hH hbb
 obtain ⟨b10, h10⟩ : ∃ b, b = w1.heap.size := ⟨_, rfl⟩
 rw [← h10] at HX
 have h10a : w1.heap.size ≤ b10 := Nat.le_of_eq h10.symm
 (try rw [← h10])
 clear hbb hBb h10
 go_wp2_with fail
 go_loopg [11] n (fun q s11 wx => ∃ (i : Nat) (f : Fr) (op so : Bool), i + q = n ∧ s11 = .int .i64 (i : Int) ∧ Hid (StX wx b10 f op so) ∧ Hid (CutI I l i f op so) ∧ Hid (Below w1.heap.size w1 wx))
 case atStart => exact ⟨0, (0, 0), false, false, by omega, by first | rfl | simp, HX, hH ⟨fun _ => ⟨rfl, rfl⟩, fun h => by cases h⟩, HBb⟩
 case round =>
  clear HX HBb
  obtain ⟨i, f, op, so, hq, rfl, HX, HI0, HBr⟩ := hrel
  cases gk with
  | zero =>
   have hin : i = n := by omega
   have t0 : ¬ (i : Int) < (n : Int) := by omega
   have HF : Hid ((so = false → op = false ∧ scanD I l = none) ∧ (so = true → scanD I l = some ⟨f.1, f.2, op⟩)) := hH ⟨fun h => ⟨(HI0.out.1 h).1, by rw [(HI0.out.1 h).2, List.drop_of_length_le (by rw [← Hnl.out]; omega)]; rfl⟩, HI0.out.2⟩
   clear HI0 hin
   obtain ⟨f1, f2, f3, f4, p1, p2, p3, p4, ot, gq, B4, hf, hp⟩ := HX.out
   obtain ⟨n1, s1, k1, i1, n2, s2, k2, i2, e, hf1, hf2⟩ := hf.form
   simp only [Value.agg.injEq, Array.mk.injEq, List.cons.injEq, and_true] at e
   obtain ⟨rfl, rfl, rfl, rfl⟩ := e
   obtain ⟨n3, s3, k3, i3, n4, s4, k4, i4, e, hp1, hp2⟩ := hp.form
   simp only [Value.agg.injEq, Array.mk.injEq, List.cons.injEq, and_true] at e
   obtain ⟨rfl, rfl, rfl, rfl⟩ := e
   have B3 := HB3.out.below HBr.out HB3.out.lt
   have HB := HBw.out.trans (HBr.out.mono HBw.out.size)
   have hlt3 := HB3.out.lt
   clear HX hf1 hf2 hp1 hp2
   go_upto_region 19 with (fail)
   skip
   refine pl_start ?_
   refine pl_val (v := .agg #[.bool n1, .slice s1 k1 i1, .bool n2, .slice s2 k2 i2, .bool n3, .slice s3 k3 i3, .bool n4, .slice s4 k4 i4, .bool op, .bool ot, .bool so]) (by rfl) (load_row rfl (by rfl) B4 Tryz.underlying79 rfl size_strS) ?_
   (try simp only [td])
   refine pl_store (b := w.heap.size + 1 + 1 + 1) (off := 0) (u := .agg #[.bool n1, .slice s1 k1 i1, .bool n2, .slice s2 k2 i2, .bool n3, .slice s3 k3 i3, .bool n4, .slice s4 k4 i4, .bool op, .bool ot, .bool so]) (by rfl) (by rfl) (by rfl) (by rfl) (by rfl) B3 (by first | rfl | (rw [size_strS]; rfl)) (by simp [Value.cells, Value.oneCell']) (by simp [Value.cells]) ?_
   intro y51 hu51 hc51
   have B4 := B4.upd hu51 (by have := B4.lt; omega)
   have hf := hf.keep (KeepT.upd B3 (by decide) hu51)
   have hp := hp.keep (KeepT.upd B3 (by decide) hu51)
   have hz51 : wr.heap.size ≤ y51.heap.size := hu51.size
   have HB := Upd.low HB (by omega) (Nat.le_refl _) hu51
   have B3 : Blk y51 (w.heap.size + 1 + 1 + 1) [.bool n1, .slice s1 k1 i1, .bool n2, .slice s2 k2 i2, .bool n3, .slice s3 k3 i3, .bool n4, .slice s4 k4 i4, .bool op, .bool ot, .bool so] 79 := hc51
   clear hu51 hc51
   (try simp only [td])
   refine pl_end ?_
   have HC : Hid (CutV y51 (.agg #[.bool n1, .slice s1 k1 i1, .bool n2, .slice s2 k2 i2, .bool n3, .slice s3 k3 i3, .bool n4, .slice s4 k4 i4, .bool op, .bool ot, .bool so]) (scanD I l)) := hH ⟨_, _, _, _, _, _, _, _, op, ot, so, f, gq, rfl, hf, hp, by
    cases so with
    | false => rw [(HF.out.1 rfl).2]
    | true => rw [HF.out.2 rfl]; exact ⟨rfl, rfl, rfl⟩⟩
   clear HF
   go_wp2_with fail
   refine bodyPost_ret (res_c Tryz.results24 rfl (row_load B3 Tryz.underlying79 rfl size_strS)) rfl ⟨_, rfl, by rw [HR.out]; exact HC.out, HB⟩
  | succ q =>
   have t0 : (i : Int) < (n : Int) := by omega
   obtain ⟨et, Het0⟩ : ∃ et, l[i]? = some et := ⟨_, List.getElem?_eq_getElem (by rw [← Hnl.out]; omega)⟩
   obtain ⟨ee, hee, hre⟩ := HE.out.get Het0
   obtain ⟨g1, g2, g3, g4, g5, g6, g7, g8, rfl⟩ := hre.form
   obtain ⟨gl, ol, rfl, hgl, hrl, _⟩ := HV.out.elem hee
   have HRl : Hid (∀ X, Below w1.heap.size w1 X → X.rangeAt gl (ol + i * 4) [.bool g1, .slice g2 g3 g4, .bool g5, .slice g6 g7 g8]) := hH (fun X hX => rangeAt_below hrl hX hgl)
   have HRe : Hid (∀ X, Below w1.heap.size w1 X → RatV X (.agg #[.bool g1, .slice g2 g3 g4, .bool g5, .slice g6 g7 g8]) et) := hH (fun X hX => RatV.call hre hX)
   have HSt := hH (HS.out et (List.mem_of_getElem? Het0))
   have HSt92 : Hid (SmF 92 et) := hH ⟨HSt.out.1.mono (by decide), HSt.out.2.mono (by decide)⟩
   have HSp := hH (spot_sm a1 a2 a3 a4 HSt92.out)
   have Het := hH Het0
   clear hee hre hgl hrl Het0
   obtain ⟨bq, Hbq⟩ : ∃ bq : Bool, Hid ((insideD (a * et.2 + (c - a) * et.1) et.2 x size && insideD (b * et.2 + (d - b) * et.1) et.2 y size) = bq) := ⟨_, hH rfl⟩
   have HIq : Hid (I et = bq) := hH (by rw [HI.out]; exact Hbq.out)
   have B0 := HB0.out.below HBr.out HB0.out.lt
   have B1 := HB1.out.below HBr.out HB1.out.lt
   have B2 := HB2.out.below HBr.out HB2.out.lt
   obtain ⟨f1, f2, f3, f4, p1, p2, p3, p4, ot, gq, B4, hf, hp⟩ := HX.out
   have HB := HBr.out
   have hz0 := HB.size
   clear HX
   go_upto_region 6 with (fail)
   refine cG ?_
   refine dB [(fun v _ => v = .agg #[.int .i64 a, .int .i64 b]), (fun v _ => v = .agg #[.int .i64 c, .int .i64 d]), (fun v _ => v = .slice (some ⟨gl, ol, none⟩) n cl), (fun v _ => v = .int .i64 (i : Int)), (fun v _ => v = .pointer (some ⟨gl, ol + i * 4, none⟩)), (fun v _ => v = .agg #[.bool g1, .slice g2 g3 g4, .bool g5, .slice g6 g7 g8]), (fun v w' => SpotV w' v (a * (et).2 + (c - a) * (et).1) (b * (et).2 + (d - b) * (et).1) (et).2), (fun v _ => v = .agg #[.int .i64 x, .int .i64 y]), (fun v _ => v = .int .i64 size), (fun v _ => v = .bool bq)] ⟨sE, sE, sE, sE, sE, sE, (fun v w w' h hr => h.call hr), sE, sE, sE, trivial⟩ ⟨?st0, ?st1, ?st2, ?st3, ?st4, ?st5, ?st6, ?st7, ?st8, ?st9, trivial⟩ ?_
   case st0 => (intro fa wz hp; have e4 := hp.o 4 (.pointer (some ⟨w.heap.size, 0, none⟩)); have q0 := B0.d hp 0; have q1 := B0.d hp 1; exact dX rfl)
   case st1 => (intro fa wz hp; have e5 := hp.o 5 (.pointer (some ⟨w.heap.size + 1, 0, none⟩)); have q0 := B1.d hp 0; have q1 := B1.d hp 1; exact dX rfl)
   case st2 => (intro fa wz hp; have e9 := hp.o 9 (.slice (some ⟨gl, ol, none⟩) n cl); exact dX rfl)
   case st3 => (intro fa wz hp; have e11 := hp.o 11 (.int .i64 (i : Int)); exact dX rfl)
   case st4 => (intro fa wz hp; have e25 := hp.q 2 25; have e26 := hp.q 3 26; exact dW (x_index (i := i) (E := 77) (sz := 4) rfl (evt e25) (evt e26) (by omega) Tryz.underlying114 size_ratS) rfl)
   case st5 => (intro fa wz hp; have e27 := hp.q 4 27; have hb := hp.base; exact dW (x_row (cs := [.bool g1, .slice g2 g3 g4, .bool g5, .slice g6 g7 g8]) rfl (evt e27) (HRl.out wz (HB.trans (hb.mono HB.size))) Tryz.underlying77 rfl size_ratS) rfl)
   case st6 => (intro fa wz hp; have e23 := hp.q 0 23; have e24 := hp.q 1 24; have e28 := hp.q 5 28; have hb := hp.base; exact dC2 (by go_simp) (at15_any a b c d et _ wz (HRe.out wz (HB.trans (hb.mono HB.size))) HSt92.out a1 a2 a3 a4))
   case st7 => (intro fa wz hp; have e6 := hp.o 6 (.pointer (some ⟨w.heap.size + 1 + 1, 0, none⟩)); have q0 := B2.d hp 0; have q1 := B2.d hp 1; exact dX rfl)
   case st8 => (intro fa wz hp; have e3 := hp.o 3 (.int .i64 size); exact dX rfl)
   case st9 => (intro fa wz hp; obtain ⟨v29, e29, hv29⟩ := hp.p 6 29; have e30 := hp.q 7 30; have e31 := hp.q 8 31; have hb := hp.base; exact dC1 (by go_simp) (in_any _ _ _ x y size _ wz hv29 HSp.out.1 HSp.out.2.1 HSp.out.2.2 x1 x2 z0 z2) rfl (fun _ => congrArg Value.bool Hbq.out))
   intro g w11 hb hg
   simp only [putAll, td]
   rw [show g 9 = .bool bq from hg 9 _ _ rfl rfl]
   clear hg
   have B0 := B0.below hb B0.lt
   have B1 := B1.below hb B1.lt
   have B2 := B2.below hb B2.lt
   have B4 := B4.below hb B4.lt
   have hf := hf.call hb
   have hp := hp.call hb
   have hz11 : wr.heap.size ≤ w11.heap.size := hb.size
   have HB := HB.trans (hb.mono HB.size)
   clear hb
   go_upto_if 32 with (fail)
   go_cut [] (fun wx => ∃ (f : Fr) (op so : Bool), Hid (StX wx b10 f op so) ∧ Hid (CutJ I l i et f op so) ∧ Hid (Below w1.heap.size w1 wx))
   case first =>
    cases bq with
    | false =>
     have F1 : Hid (StX w11 b10 f op so) := hH ⟨_, _, _, _, _, _, _, _, _, _, B4, hf, hp⟩
     have F2 : Hid (CutJ I l i et f op so) := hH ⟨fun h => ⟨(HI0.out.1 h).1, HIq.out, (HI0.out.1 h).2⟩, HI0.out.2⟩
     have F3 := hH HB
     clear B0 B1 B2 B4 hf hp HB HIq
     go_wp2_with fail
     go_meet
     case rel => exact ⟨f, op, so, F1, F2, F3⟩
    | true =>
     cases so with
     | true =>
      go_upto_region 7 with (fail)
      refine pl_start ?_
      refine pl_val (v := .pointer (some ⟨b10, 10, none⟩)) (by rfl) (by go_simp) ?_
      (try simp only [td])
      refine pl_val (v := .bool true) (by rfl) (by have q0 := B4.cell (j := 10) rfl; go_simp) ?_
      (try simp only [td])
      refine pl_val (v := .bool false) (by rfl) (by go_simp) ?_
      (try simp only [td])
      refine pl_end ?_
      go_upto_region 9 with (fail)
      refine pl_start ?_
      refine pl_val (v := .pointer (some ⟨b10, 10, none⟩)) (by rfl) (by go_simp) ?_
      (try simp only [td])
      refine pl_store (b := b10) (off := 10) (u := .bool true) (by rfl) (by rfl) (by rfl) (by rfl) (by rfl) B4 (by first | rfl | (rw [size_boolC]; rfl)) (by simp [Value.cells, Value.oneCell']) (by simp [Value.cells]) ?_
      intro y21 hu21 hc21
      have B0 := B0.upd hu21 (by have := B0.lt; omega)
      have B1 := B1.upd hu21 (by have := B1.lt; omega)
      have B2 := B2.upd hu21 (by have := B2.lt; omega)
      have hf := hf.keep (KeepT.upd B4 (by decide) hu21)
      have hp := hp.keep (KeepT.upd B4 (by decide) hu21)
      have hz21 : w11.heap.size ≤ y21.heap.size := hu21.size
      have HB := Upd.low HB (by omega) (Nat.le_refl _) hu21
      have B4 : Blk y21 (b10) [f1, f2, f3, f4, p1, p2, p3, p4, .bool op, .bool ot, .bool true] 79 := hc21
      clear hu21 hc21
      (try simp only [td])
      refine pl_end ?_
      go_upto_region 10 with (fail)
      refine pl_start ?_
      refine pM (.slice (some ⟨gl, ol, none⟩) n cl) ?_
      (try simp only [td])
      refine pM (.int .i64 (i : Int)) ?_
      (try simp only [td])
      refine pl_val (v := .pointer (some ⟨gl, ol + i * 4, none⟩)) (by rfl) (x_index (i := i) (E := 77) (sz := 4) rfl (by rfl) (by rfl) (by omega) Tryz.underlying114 size_ratS) ?_
      (try simp only [td])
      refine pl_val (v := .agg #[.bool g1, .slice g2 g3 g4, .bool g5, .slice g6 g7 g8]) (by rfl) (x_row (cs := [.bool g1, .slice g2 g3 g4, .bool g5, .slice g6 g7 g8]) rfl (by rfl) (HRl.out _ HB) Tryz.underlying77 rfl size_ratS) ?_
      (try simp only [td])
      refine pl_val (v := .pointer (some ⟨b10, 4, none⟩)) (by rfl) (by go_simp) ?_
      (try simp only [td])
      refine pl_store (b := b10) (off := 4) (u := .agg #[.bool g1, .slice g2 g3 g4, .bool g5, .slice g6 g7 g8]) (by rfl) (by rfl) (by rfl) (by rfl) (by rfl) B4 (by first | rfl | (rw [size_ratS]; rfl)) (by simp [Value.cells, Value.oneCell']) (by simp [Value.cells]) ?_
      intro y22 hu22 hc22
      have B0 := B0.upd hu22 (by have := B0.lt; omega)
      have B1 := B1.upd hu22 (by have := B1.lt; omega)
      have B2 := B2.upd hu22 (by have := B2.lt; omega)
      have hf := hf.keep (KeepT.upd B4 (by decide) hu22)
      have hp := hp.keep (KeepT.upd B4 (by decide) hu22)
      have hz22 : y21.heap.size ≤ y22.heap.size := hu22.size
      have HB := Upd.low HB (by omega) (Nat.le_refl _) hu22
      have B4 : Blk y22 (b10) [f1, f2, f3, f4, .bool g1, .slice g2 g3 g4, .bool g5, .slice g6 g7 g8, .bool op, .bool ot, .bool true] 79 := hc22
      clear hu22 hc22
      (try simp only [td])
      refine pl_end ?_
      go_upto_region 11 with (fail)
      refine pl_start ?_
      refine pl_val (v := .pointer (some ⟨b10, 9, none⟩)) (by rfl) (by go_simp) ?_
      (try simp only [td])
      refine pl_store (b := b10) (off := 9) (u := .bool false) (by rfl) (by rfl) (by rfl) (by rfl) (by rfl) B4 (by first | rfl | (rw [size_boolC]; rfl)) (by simp [Value.cells, Value.oneCell']) (by simp [Value.cells]) ?_
      intro y23 hu23 hc23
      have B0 := B0.upd hu23 (by have := B0.lt; omega)
      have B1 := B1.upd hu23 (by have := B1.lt; omega)
      have B2 := B2.upd hu23 (by have := B2.lt; omega)
      have hf := hf.keep (KeepT.upd B4 (by decide) hu23)
      have hp := hp.keep (KeepT.upd B4 (by decide) hu23)
      have hz23 : y22.heap.size ≤ y23.heap.size := hu23.size
      have HB := Upd.low HB (by omega) (Nat.le_refl _) hu23
      have B4 : Blk y23 (b10) [f1, f2, f3, f4, .bool g1, .slice g2 g3 g4, .bool g5, .slice g6 g7 g8, .bool op, .bool false, .bool true] 79 := hc23
      clear hu23 hc23
      (try simp only [td])
      refine pl_end ?_
      have F1 : Hid (StX y23 b10 f op true) := hH ⟨_, _, _, _, _, _, _, _, _, _, B4, hf, HRe.out _ HB⟩
      have F2 : Hid (CutJ I l i et f op true) := hH ⟨fun h => (by cases h), HI0.out.2⟩
      have F3 := hH HB
      clear B0 B1 B2 B4 hf hp HB HIq
      go_wp2_with fail
      go_meet
      case rel => exact ⟨f, op, true, F1, F2, F3⟩
     | false =>
      go_upto_region 7 with (fail)
      refine pl_start ?_
      refine pl_val (v := .pointer (some ⟨b10, 10, none⟩)) (by rfl) (by go_simp) ?_
      (try simp only [td])
      refine pl_val (v := .bool false) (by rfl) (by have q0 := B4.cell (j := 10) rfl; go_simp) ?_
      (try simp only [td])
      refine pl_val (v := .bool true) (by rfl) (by go_simp) ?_
      (try simp only [td])
      refine pl_end ?_
      go_upto_region 8 with (fail)
      refine pl_start ?_
      refine pM (.slice (some ⟨gl, ol, none⟩) n cl) ?_
      (try simp only [td])
      refine pM (.int .i64 (i : Int)) ?_
      (try simp only [td])
      refine pl_val (v := .pointer (some ⟨gl, ol + i * 4, none⟩)) (by rfl) (x_index (i := i) (E := 77) (sz := 4) rfl (by rfl) (by rfl) (by omega) Tryz.underlying114 size_ratS) ?_
      (try simp only [td])
      refine pl_val (v := .agg #[.bool g1, .slice g2 g3 g4, .bool g5, .slice g6 g7 g8]) (by rfl) (x_row (cs := [.bool g1, .slice g2 g3 g4, .bool g5, .slice g6 g7 g8]) rfl (by rfl) (HRl.out _ HB) Tryz.underlying77 rfl size_ratS) ?_
      (try simp only [td])
      refine pl_val (v := .pointer (some ⟨b10, 0, none⟩)) (by rfl) (by go_simp) ?_
      (try simp only [td])
      refine pl_store (b := b10) (off := 0) (u := .agg #[.bool g1, .slice g2 g3 g4, .bool g5, .slice g6 g7 g8]) (by rfl) (by rfl) (by rfl) (by rfl) (by rfl) B4 (by first | rfl | (rw [size_ratS]; rfl)) (by simp [Value.cells, Value.oneCell']) (by simp [Value.cells]) ?_
      intro y21 hu21 hc21
      have B0 := B0.upd hu21 (by have := B0.lt; omega)
      have B1 := B1.upd hu21 (by have := B1.lt; omega)
      have B2 := B2.upd hu21 (by have := B2.lt; omega)
      have hf := hf.keep (KeepT.upd B4 (by decide) hu21)
      have hp := hp.keep (KeepT.upd B4 (by decide) hu21)
      have hz21 : w11.heap.size ≤ y21.heap.size := hu21.size
      have HB := Upd.low HB (by omega) (Nat.le_refl _) hu21
      have B4 : Blk y21 (b10) [.bool g1, .slice g2 g3 g4, .bool g5, .slice g6 g7 g8, p1, p2, p3, p4, .bool op, .bool ot, .bool false] 79 := hc21
      clear hu21 hc21
      (try simp only [td])
      refine pl_end ?_
      go_upto_region 9 with (fail)
      refine pl_start ?_
      refine pl_val (v := .pointer (some ⟨b10, 10, none⟩)) (by rfl) (by go_simp) ?_
      (try simp only [td])
      refine pl_store (b := b10) (off := 10) (u := .bool true) (by rfl) (by rfl) (by rfl) (by rfl) (by rfl) B4 (by first | rfl | (rw [size_boolC]; rfl)) (by simp [Value.cells, Value.oneCell']) (by simp [Value.cells]) ?_
      intro y22 hu22 hc22
      have B0 := B0.upd hu22 (by have := B0.lt; omega)
      have B1 := B1.upd hu22 (by have := B1.lt; omega)
      have B2 := B2.upd hu22 (by have := B2.lt; omega)
      have hf := hf.keep (KeepT.upd B4 (by decide) hu22)
      have hp := hp.keep (KeepT.upd B4 (by decide) hu22)
      have hz22 : y21.heap.size ≤ y22.heap.size := hu22.size
      have HB := Upd.low HB (by omega) (Nat.le_refl _) hu22
      have B4 : Blk y22 (b10) [.bool g1, .slice g2 g3 g4, .bool g5, .slice g6 g7 g8, p1, p2, p3, p4, .bool op, .bool ot, .bool true] 79 := hc22
      clear hu22 hc22
      (try simp only [td])
      refine pl_end ?_
      go_upto_region 10 with (fail)
      refine pl_start ?_
      refine pM (.slice (some ⟨gl, ol, none⟩) n cl) ?_
      (try simp only [td])
      refine pM (.int .i64 (i : Int)) ?_
      (try simp only [td])
      refine pl_val (v := .pointer (some ⟨gl, ol + i * 4, none⟩)) (by rfl) (x_index (i := i) (E := 77) (sz := 4) rfl (by rfl) (by rfl) (by omega) Tryz.underlying114 size_ratS) ?_
      (try simp only [td])
      refine pl_val (v := .agg #[.bool g1, .slice g2 g3 g4, .bool g5, .slice g6 g7 g8]) (by rfl) (x_row (cs := [.bool g1, .slice g2 g3 g4, .bool g5, .slice g6 g7 g8]) rfl (by rfl) (HRl.out _ HB) Tryz.underlying77 rfl size_ratS) ?_
      (try simp only [td])
      refine pl_val (v := .pointer (some ⟨b10, 4, none⟩)) (by rfl) (by go_simp) ?_
      (try simp only [td])
      refine pl_store (b := b10) (off := 4) (u := .agg #[.bool g1, .slice g2 g3 g4, .bool g5, .slice g6 g7 g8]) (by rfl) (by rfl) (by rfl) (by rfl) (by rfl) B4 (by first | rfl | (rw [size_ratS]; rfl)) (by simp [Value.cells, Value.oneCell']) (by simp [Value.cells]) ?_
      intro y23 hu23 hc23
      have B0 := B0.upd hu23 (by have := B0.lt; omega)
      have B1 := B1.upd hu23 (by have := B1.lt; omega)
      have B2 := B2.upd hu23 (by have := B2.lt; omega)
      have hf := hf.keep (KeepT.upd B4 (by decide) hu23)
      have hp := hp.keep (KeepT.upd B4 (by decide) hu23)
      have hz23 : y22.heap.size ≤ y23.heap.size := hu23.size
      have HB := Upd.low HB (by omega) (Nat.le_refl _) hu23
      have B4 : Blk y23 (b10) [.bool g1, .slice g2 g3 g4, .bool g5, .slice g6 g7 g8, .bool g1, .slice g2 g3 g4, .bool g5, .slice g6 g7 g8, .bool op, .bool ot, .bool true] 79 := hc23
      clear hu23 hc23
      (try simp only [td])
      refine pl_end ?_
      go_upto_region 11 with (fail)
      refine pl_start ?_
      refine pl_val (v := .pointer (some ⟨b10, 9, none⟩)) (by rfl) (by go_simp) ?_
      (try simp only [td])
      refine pl_store (b := b10) (off := 9) (u := .bool false) (by rfl) (by rfl) (by rfl) (by rfl) (by rfl) B4 (by first | rfl | (rw [size_boolC]; rfl)) (by simp [Value.cells, Value.oneCell']) (by simp [Value.cells]) ?_
      intro y24 hu24 hc24
      have B0 := B0.upd hu24 (by have := B0.lt; omega)
      have B1 := B1.upd hu24 (by have := B1.lt; omega)
      have B2 := B2.upd hu24 (by have := B2.lt; omega)
      have hf := hf.keep (KeepT.upd B4 (by decide) hu24)
      have hp := hp.keep (KeepT.upd B4 (by decide) hu24)
      have hz24 : y23.heap.size ≤ y24.heap.size := hu24.size
      have HB := Upd.low HB (by omega) (Nat.le_refl _) hu24
      have B4 : Blk y24 (b10) [.bool g1, .slice g2 g3 g4, .bool g5, .slice g6 g7 g8, .bool g1, .slice g2 g3 g4, .bool g5, .slice g6 g7 g8, .bool op, .bool false, .bool true] 79 := hc24
      clear hu24 hc24
      (try simp only [td])
      refine pl_end ?_
      have F1 : Hid (StX y24 b10 et op true) := hH ⟨_, _, _, _, _, _, _, _, _, _, B4, HRe.out _ HB, HRe.out _ HB⟩
      have F2 : Hid (CutJ I l i et et op true) := hH ⟨fun h => (by cases h), fun _ => by
       obtain ⟨h1, h2⟩ := HI0.out.1 rfl
       rw [h1, h2]; exact scan_hit Het.out HIq.out⟩
      have F3 := hH HB
      clear B0 B1 B2 B4 hf hp HB HIq
      go_wp2_with fail
      go_meet
      case rel => exact ⟨et, op, true, F1, F2, F3⟩
   case rest =>
    clear HI0 HIq Hbq
    obtain ⟨f, op, so, HX, HJ, HBq⟩ := hcut
    rename World => wq
    have tn1 : IntKind.i64.wrap ((i : Int) + 1) = (i : Int) + 1 := by rw [IntKind.wrap_i64]; omega
    have B0 := HB0.out.below HBq.out HB0.out.lt
    have B1 := HB1.out.below HBq.out HB1.out.lt
    have B2 := HB2.out.below HBq.out HB2.out.lt
    go_upto_region 12 with (fail)
    go_cut [70] (fun s70 wx => ∃ bm : Bool, s70 = .bool bm ∧ Hid (bm = true → ∃ u, l[i + 1]? = some u ∧ I (midD et u) = true) ∧ Hid (bm = false → ∀ u, l[i + 1]? = some u → I (midD et u) = false) ∧ Hid (StX wx b10 f op so) ∧ Hid (Below w1.heap.size w1 wx))
    case first =>
     obtain ⟨f1, f2, f3, f4, p1, p2, p3, p4, ot, gq, B4, hf, hp⟩ := HX.out
     have HB := HBq.out
     have hz0 := HB.size
     clear HX
     by_cases hl2 : i + 1 < n
     ·have tl1 : (i : Int) + 1 < (n : Int) := by omega
      obtain ⟨un, Hun⟩ : ∃ un, Hid (l[i + 1]? = some un) := ⟨_, hH (List.getElem?_eq_getElem (by rw [← Hnl.out]; omega))⟩
      obtain ⟨eu, heu, hru⟩ := HE.out.get Hun.out
      obtain ⟨h1, h2, h3, h4, h5, h6, h7, h8, rfl⟩ := hru.form
      obtain ⟨gl', ol', egl, hgl, hrl, _⟩ := HV.out.elem heu
      cases egl
      have HRm : Hid (∀ X, Below w1.heap.size w1 X → X.rangeAt gl (ol + (i + 1) * 4) [.bool h1, .slice h2 h3 h4, .bool h5, .slice h6 h7 h8]) := hH (fun X hX => rangeAt_below hrl hX hgl)
      have HRn : Hid (∀ X, Below w1.heap.size w1 X → RatV X (.agg #[.bool h1, .slice h2 h3 h4, .bool h5, .slice h6 h7 h8]) un) := hH (fun X hX => RatV.call hru hX)
      have HSn := hH (HS.out un (List.mem_of_getElem? Hun.out))
      clear heu hru hgl hrl
      have HSm := hH (mid_sm HSt.out HSn.out)
      have HSq := hH (spot_sm a1 a2 a3 a4 HSm.out)
      obtain ⟨bm, Hbm⟩ : ∃ bm : Bool, Hid ((insideD (a * (midD et un).2 + (c - a) * (midD et un).1) (midD et un).2 x size && insideD (b * (midD et un).2 + (d - b) * (midD et un).1) (midD et un).2 y size) = bm) := ⟨_, hH rfl⟩
      have HIm : Hid (I (midD et un) = bm) := hH (by rw [HI.out]; exact Hbm.out)
      skip
      refine cG ?_
      refine dB [(fun v _ => v = .int .i64 (i : Int)), (fun v _ => v = .int .i64 ((i : Int) + 1)), (fun v _ => v = .slice (some ⟨gl, ol, none⟩) n cl), (fun v _ => v = .int .i64 (n : Int)), (fun v _ => v = .bool true), (fun v _ => v = .bool true), (fun v _ => v = .agg #[.int .i64 a, .int .i64 b]), (fun v _ => v = .agg #[.int .i64 c, .int .i64 d]), (fun v _ => v = .slice (some ⟨gl, ol, none⟩) n cl), (fun v _ => v = .int .i64 (i : Int)), (fun v _ => v = .pointer (some ⟨gl, ol + i * 4, none⟩)), (fun v _ => v = .agg #[.bool g1, .slice g2 g3 g4, .bool g5, .slice g6 g7 g8]), (fun v _ => v = .slice (some ⟨gl, ol, none⟩) n cl), (fun v _ => v = .int .i64 (i : Int)), (fun v _ => v = .int .i64 ((i : Int) + 1)), (fun v _ => v = .pointer (some ⟨gl, ol + (i + 1) * 4, none⟩)), (fun v _ => v = .agg #[.bool h1, .slice h2 h3 h4, .bool h5, .slice h6 h7 h8]), (fun v w' => RatV w' v (midD et un)), (fun v w' => SpotV w' v (a * ((midD et un)).2 + (c - a) * ((midD et un)).1) (b * ((midD et un)).2 + (d - b) * ((midD et un)).1) ((midD et un)).2), (fun v _ => v = .agg #[.int .i64 x, .int .i64 y]), (fun v _ => v = .int .i64 size), (fun v _ => v = .bool bm), (fun v _ => v = .bool bm)] ⟨sE, sE, sE, sE, sE, sE, sE, sE, sE, sE, sE, sE, sE, sE, sE, sE, sE, (fun v w w' h hr => h.call hr), (fun v w w' h hr => h.call hr), sE, sE, sE, sE, trivial⟩ ⟨?st0, ?st1, ?st2, ?st3, ?st4, ?st5, ?st6, ?st7, ?st8, ?st9, ?st10, ?st11, ?st12, ?st13, ?st14, ?st15, ?st16, ?st17, ?st18, ?st19, ?st20, ?st21, ?st22, trivial⟩ ?_
      case st0 => (intro fa wz hp; have e11 := hp.o 11 (.int .i64 (i : Int)); exact dX rfl)
      case st1 => (intro fa wz hp; have e48 := hp.q 0 48; have nn := tn1; exact dX rfl)
      case st2 => (intro fa wz hp; have e9 := hp.o 9 (.slice (some ⟨gl, ol, none⟩) n cl); exact dX rfl)
      case st3 => (intro fa wz hp; have e50 := hp.q 2 50; exact dX rfl)
      case st4 => (intro fa wz hp; have e49 := hp.q 1 49; have e51 := hp.q 3 51; have nn := tl1; exact dX rfl)
      case st5 => (intro fa wz hp; have e52 := hp.q 4 52; exact dX rfl)
      case st6 => (intro fa wz hp; have e4 := hp.o 4 (.pointer (some ⟨w.heap.size, 0, none⟩)); have q0 := B0.d hp 0; have q1 := B0.d hp 1; exact dX rfl (wanted_of rfl rfl rfl (hp.q 5 53)))
      case st7 => (intro fa wz hp; have e5 := hp.o 5 (.pointer (some ⟨w.heap.size + 1, 0, none⟩)); have q0 := B1.d hp 0; have q1 := B1.d hp 1; exact dX rfl (wanted_of rfl rfl rfl (hp.q 5 53)))
      case st8 => (intro fa wz hp; have e9 := hp.o 9 (.slice (some ⟨gl, ol, none⟩) n cl); exact dX rfl (wanted_of rfl rfl rfl (hp.q 5 53)))
      case st9 => (intro fa wz hp; have e11 := hp.o 11 (.int .i64 (i : Int)); exact dX rfl (wanted_of rfl rfl rfl (hp.q 5 53)))
      case st10 => (intro fa wz hp; have e56 := hp.q 8 56; have e57 := hp.q 9 57; exact dW (x_index (i := i) (E := 77) (sz := 4) rfl (evt e56) (evt e57) (by omega) Tryz.underlying114 size_ratS) rfl (wanted_of rfl rfl rfl (hp.q 5 53)))
      case st11 => (intro fa wz hp; have e58 := hp.q 10 58; have hb := hp.base; exact dW (x_row (cs := [.bool g1, .slice g2 g3 g4, .bool g5, .slice g6 g7 g8]) rfl (evt e58) (HRl.out wz (HB.trans (hb.mono HB.size))) Tryz.underlying77 rfl size_ratS) rfl (wanted_of rfl rfl rfl (hp.q 5 53)))
      case st12 => (intro fa wz hp; have e9 := hp.o 9 (.slice (some ⟨gl, ol, none⟩) n cl); exact dX rfl (wanted_of rfl rfl rfl (hp.q 5 53)))
      case st13 => (intro fa wz hp; have e11 := hp.o 11 (.int .i64 (i : Int)); exact dX rfl (wanted_of rfl rfl rfl (hp.q 5 53)))
      case st14 => (intro fa wz hp; have e61 := hp.q 13 61; have nn := tn1; exact dX rfl (wanted_of rfl rfl rfl (hp.q 5 53)))
      case st15 => (intro fa wz hp; have e60 := hp.q 12 60; have e62 := hp.q 14 62; exact dW (x_index (i := (i + 1)) (E := 77) (sz := 4) rfl (evt e60) (evt e62) (by omega) Tryz.underlying114 size_ratS) rfl (wanted_of rfl rfl rfl (hp.q 5 53)))
      case st16 => (intro fa wz hp; have e63 := hp.q 15 63; have hb := hp.base; exact dW (x_row (cs := [.bool h1, .slice h2 h3 h4, .bool h5, .slice h6 h7 h8]) rfl (evt e63) (HRm.out wz (HB.trans (hb.mono HB.size))) Tryz.underlying77 rfl size_ratS) rfl (wanted_of rfl rfl rfl (hp.q 5 53)))
      case st17 => (intro fa wz hp; have e59 := hp.q 11 59; have e64 := hp.q 16 64; have hb := hp.base; exact dC2 (by go_simp) (middle_any et un _ _ wz (HRe.out wz (HB.trans (hb.mono HB.size))) (HRn.out wz (HB.trans (hb.mono HB.size))) HSt.out HSn.out) (wanted_of rfl rfl rfl (hp.q 5 53)))
      case st18 => (intro fa wz hp; have e54 := hp.q 6 54; have e55 := hp.q 7 55; obtain ⟨v65, e65, hv65⟩ := hp.p 17 65; have hb := hp.base; exact dC2 (by go_simp) (at15_any a b c d (midD et un) _ wz hv65 HSm.out a1 a2 a3 a4) (wanted_of rfl rfl rfl (hp.q 5 53)))
      case st19 => (intro fa wz hp; have e6 := hp.o 6 (.pointer (some ⟨w.heap.size + 1 + 1, 0, none⟩)); have q0 := B2.d hp 0; have q1 := B2.d hp 1; exact dX rfl (wanted_of rfl rfl rfl (hp.q 5 53)))
      case st20 => (intro fa wz hp; have e3 := hp.o 3 (.int .i64 size); exact dX rfl (wanted_of rfl rfl rfl (hp.q 5 53)))
      case st21 => (intro fa wz hp; obtain ⟨v66, e66, hv66⟩ := hp.p 18 66; have e67 := hp.q 19 67; have e68 := hp.q 20 68; have hb := hp.base; exact dC1 (by go_simp) (in_any _ _ _ x y size _ wz hv66 HSq.out.1 HSq.out.2.1 HSq.out.2.2 x1 x2 z0 z2) (wanted_of rfl rfl rfl (hp.q 5 53)) (fun _ => congrArg Value.bool Hbm.out))
      case st22 => (intro fa wz hp; have e53 := hp.q 5 53; have e69 := hp.q 21 69; exact dX rfl)
      intro g w31 hb hg
      simp only [putAll, td]
      rw [show g 22 = .bool bm from hg 22 _ _ rfl rfl]
      clear hg
      have B0 := B0.below hb B0.lt
      have B1 := B1.below hb B1.lt
      have B2 := B2.below hb B2.lt
      have B4 := B4.below hb B4.lt
      have hf := hf.call hb
      have hp := hp.call hb
      have hz31 : wq.heap.size ≤ w31.heap.size := hb.size
      have HB := HB.trans (hb.mono HB.size)
      clear hb
      have F1 : Hid (StX w31 b10 f op so) := hH ⟨_, _, _, _, _, _, _, _, _, _, B4, hf, hp⟩
      have F2 : Hid (bm = true → ∃ u, l[i + 1]? = some u ∧ I (midD et u) = true) := hH (fun h => ⟨un, Hun.out, by rw [HIm.out, h]⟩)
      have F4 : Hid (bm = false → ∀ u, l[i + 1]? = some u → I (midD et u) = false) := hH (fun h u hu => by rw [Hun.out] at hu; cases hu; rw [HIm.out, h])
      have F3 := hH HB
      clear B0 B1 B2 B4 hf hp HB HIm Hun
      go_wp2_with fail
      go_meet
      case rel => exact ⟨bm, rfl, F2, F4, F1, F3⟩
     ·have tl1 : ¬ (i : Int) + 1 < (n : Int) := by omega
      skip
      refine cG ?_
      refine dB [(fun v _ => v = .int .i64 (i : Int)), (fun v _ => v = .int .i64 ((i : Int) + 1)), (fun v _ => v = .slice (some ⟨gl, ol, none⟩) n cl), (fun v _ => v = .int .i64 (n : Int)), (fun v _ => v = .bool false), (fun v _ => v = .bool false), (fun v _ => v = undef), (fun v _ => v = undef), (fun v _ => v = undef), (fun v _ => v = undef), (fun v _ => v = undef), (fun v _ => v = undef), (fun v _ => v = undef), (fun v _ => v = undef), (fun v _ => v = undef), (fun v _ => v = undef), (fun v _ => v = undef), (fun v _ => v = undef), (fun v _ => v = undef), (fun v _ => v = undef), (fun v _ => v = undef), (fun v _ => v = undef), (fun v _ => v = .bool false)] ⟨sE, sE, sE, sE, sE, sE, sE, sE, sE, sE, sE, sE, sE, sE, sE, sE, sE, sE, sE, sE, sE, sE, sE, trivial⟩ ⟨?st0, ?st1, ?st2, ?st3, ?st4, ?st5, ?st6, ?st7, ?st8, ?st9, ?st10, ?st11, ?st12, ?st13, ?st14, ?st15, ?st16, ?st17, ?st18, ?st19, ?st20, ?st21, ?st22, trivial⟩ ?_
      case st0 => (intro fa wz hp; have e11 := hp.o 11 (.int .i64 (i : Int)); exact dX rfl)
      case st1 => (intro fa wz hp; have e48 := hp.q 0 48; have nn := tn1; exact dX rfl)
      case st2 => (intro fa wz hp; have e9 := hp.o 9 (.slice (some ⟨gl, ol, none⟩) n cl); exact dX rfl)
      case st3 => (intro fa wz hp; have e50 := hp.q 2 50; exact dX rfl)
      case st4 => (intro fa wz hp; have e49 := hp.q 1 49; have e51 := hp.q 3 51; have nn := tl1; exact dX rfl)
      case st5 => (intro fa wz hp; have e52 := hp.q 4 52; exact dX rfl)
      case st6 => (intro fa wz hp; exact dU rfl rfl rfl (hp.q 5 53))
      case st7 => (intro fa wz hp; exact dU rfl rfl rfl (hp.q 5 53))
      case st8 => (intro fa wz hp; exact dU rfl rfl rfl (hp.q 5 53))
      case st9 => (intro fa wz hp; exact dU rfl rfl rfl (hp.q 5 53))
      case st10 => (intro fa wz hp; exact dU rfl rfl rfl (hp.q 5 53))
      case st11 => (intro fa wz hp; exact dU rfl rfl rfl (hp.q 5 53))
      case st12 => (intro fa wz hp; exact dU rfl rfl rfl (hp.q 5 53))
      case st13 => (intro fa wz hp; exact dU rfl rfl rfl (hp.q 5 53))
      case st14 => (intro fa wz hp; exact dU rfl rfl rfl (hp.q 5 53))
      case st15 => (intro fa wz hp; exact dU rfl rfl rfl (hp.q 5 53))
      case st16 => (intro fa wz hp; exact dU rfl rfl rfl (hp.q 5 53))
      case st17 => (intro fa wz hp; exact dU rfl rfl rfl (hp.q 5 53))
      case st18 => (intro fa wz hp; exact dU rfl rfl rfl (hp.q 5 53))
      case st19 => (intro fa wz hp; exact dU rfl rfl rfl (hp.q 5 53))
      case st20 => (intro fa wz hp; exact dU rfl rfl rfl (hp.q 5 53))
      case st21 => (intro fa wz hp; exact dU rfl rfl rfl (hp.q 5 53))
      case st22 => (intro fa wz hp; have e53 := hp.q 5 53; have e69 := hp.q 21 69; exact dX rfl)
      intro g w31 hb hg
      simp only [putAll, td]
      rw [show g 22 = .bool false from hg 22 _ _ rfl rfl]
      clear hg
      have B0 := B0.below hb B0.lt
      have B1 := B1.below hb B1.lt
      have B2 := B2.below hb B2.lt
      have B4 := B4.below hb B4.lt
      have hf := hf.call hb
      have hp := hp.call hb
      have hz31 : wq.heap.size ≤ w31.heap.size := hb.size
      have HB := HB.trans (hb.mono HB.size)
      clear hb
      have F1 : Hid (StX w31 b10 f op so) := hH ⟨_, _, _, _, _, _, _, _, _, _, B4, hf, hp⟩
      have F4 : Hid (∀ u, l[i + 1]? = some u → I (midD et u) = false) := hH (fun u hu => by have := (List.getElem?_eq_some_iff.1 hu).1; have := Hnl.out; omega)
      have F3 := hH HB
      clear B0 B1 B2 B4 hf hp HB
      go_wp2_with fail
      go_meet
      case rel => exact ⟨false, rfl, hH (fun h => by cases h), hH (fun _ => F4.out), F1, F3⟩
    case rest =>
     clear HX HBq B0 B1 B2
     obtain ⟨bm, rfl, HM1, HM2, HX, HBq⟩ := hcut
     rename World => wt
     cases bm with
     | false =>
      have F2 : Hid (CutI I l (i + 1) f op so) := hH ⟨fun h => ⟨(HJ.out.1 h).1, by rw [(HJ.out.1 h).2.2]; exact scan_on Het.out (HJ.out.1 h).2.1 (HM2.out rfl)⟩, HJ.out.2⟩
      clear HM1 HM2 HJ
      go_wp2_with fail
      go_roundg q
      case measure => omega
      case rel => exact ⟨i + 1, f, op, so, by omega, by go_num, HX, F2, HBq⟩
     | true =>
      obtain ⟨un, hun, hmu⟩ := HM1.out rfl
      have Hun := hH hun
      have HMu := hH hmu
      clear HM1 HM2 hun hmu
      have hl2 : i + 1 < n := by rw [Hnl.out]; exact (List.getElem?_eq_some_iff.1 Hun.out).1
      obtain ⟨eu, heu, hru⟩ := HE.out.get Hun.out
      obtain ⟨h1, h2, h3, h4, h5, h6, h7, h8, rfl⟩ := hru.form
      obtain ⟨gl', ol', egl, hgl, hrl, _⟩ := HV.out.elem heu
      cases egl
      have HRm : Hid (∀ X, Below w1.heap.size w1 X → X.rangeAt gl (ol + (i + 1) * 4) [.bool h1, .slice h2 h3 h4, .bool h5, .slice h6 h7 h8]) := hH (fun X hX => rangeAt_below hrl hX hgl)
      have HRn : Hid (∀ X, Below w1.heap.size w1 X → RatV X (.agg #[.bool h1, .slice h2 h3 h4, .bool h5, .slice h6 h7 h8]) un) := hH (fun X hX => RatV.call hru hX)
      have HSn := hH (HS.out un (List.mem_of_getElem? Hun.out))
      clear heu hru hgl hrl
      have B0 := HB0.out.below HBq.out HB0.out.lt
      have B1 := HB1.out.below HBq.out HB1.out.lt
      have B2 := HB2.out.below HBq.out HB2.out.lt
      obtain ⟨f1, f2, f3, f4, p1, p2, p3, p4, ot, gq, B4, hf, hp⟩ := HX.out
      have HB := HBq.out
      have hz0 := HB.size
      clear HX
      cases so with
      | true =>
       go_upto_region 13 with (fail)
       refine pl_start ?_
       refine pl_val (v := .pointer (some ⟨b10, 10, none⟩)) (by rfl) (by go_simp) ?_
       (try simp only [td])
       refine pl_val (v := .bool true) (by rfl) (by have q0 := B4.cell (j := 10) rfl; go_simp) ?_
       (try simp only [td])
       refine pl_val (v := .bool false) (by rfl) (by go_simp) ?_
       (try simp only [td])
       refine pl_end ?_
       go_upto_region 16 with (fail)
       refine pl_start ?_
       refine pl_val (v := .pointer (some ⟨b10, 10, none⟩)) (by rfl) (by go_simp) ?_
       (try simp only [td])
       refine pl_store (b := b10) (off := 10) (u := .bool true) (by rfl) (by rfl) (by rfl) (by rfl) (by rfl) B4 (by first | rfl | (rw [size_boolC]; rfl)) (by simp [Value.cells, Value.oneCell']) (by simp [Value.cells]) ?_
       intro y41 hu41 hc41
       have B0 := B0.upd hu41 (by have := B0.lt; omega)
       have B1 := B1.upd hu41 (by have := B1.lt; omega)
       have B2 := B2.upd hu41 (by have := B2.lt; omega)
       have hf := hf.keep (KeepT.upd B4 (by decide) hu41)
       have hp := hp.keep (KeepT.upd B4 (by decide) hu41)
       have hz41 : wt.heap.size ≤ y41.heap.size := hu41.size
       have HB := Upd.low HB (by omega) (Nat.le_refl _) hu41
       have B4 : Blk y41 (b10) [f1, f2, f3, f4, p1, p2, p3, p4, .bool op, .bool ot, .bool true] 79 := hc41
       clear hu41 hc41
       (try simp only [td])
       refine pl_end ?_
       go_upto_region 17 with (fail)
       refine pl_start ?_
       refine pM (.slice (some ⟨gl, ol, none⟩) n cl) ?_
       (try simp only [td])
       refine pM (.int .i64 (i : Int)) ?_
       (try simp only [td])
       refine pl_val (v := .int .i64 ((i : Int) + 1)) (by rfl) ((by have nn := tn1; go_simp)) ?_
       (try simp only [td])
       refine pl_val (v := .pointer (some ⟨gl, ol + (i + 1) * 4, none⟩)) (by rfl) (x_index (i := (i + 1)) (E := 77) (sz := 4) rfl (by rfl) (by rfl) (by omega) Tryz.underlying114 size_ratS) ?_
       (try simp only [td])
       refine pl_val (v := .agg #[.bool h1, .slice h2 h3 h4, .bool h5, .slice h6 h7 h8]) (by rfl) (x_row (cs := [.bool h1, .slice h2 h3 h4, .bool h5, .slice h6 h7 h8]) rfl (by rfl) (HRm.out _ HB) Tryz.underlying77 rfl size_ratS) ?_
       (try simp only [td])
       refine pl_val (v := .pointer (some ⟨b10, 4, none⟩)) (by rfl) (by go_simp) ?_
       (try simp only [td])
       refine pl_store (b := b10) (off := 4) (u := .agg #[.bool h1, .slice h2 h3 h4, .bool h5, .slice h6 h7 h8]) (by rfl) (by rfl) (by rfl) (by rfl) (by rfl) B4 (by first | rfl | (rw [size_ratS]; rfl)) (by simp [Value.cells, Value.oneCell']) (by simp [Value.cells]) ?_
       intro y42 hu42 hc42
       have B0 := B0.upd hu42 (by have := B0.lt; omega)
       have B1 := B1.upd hu42 (by have := B1.lt; omega)
       have B2 := B2.upd hu42 (by have := B2.lt; omega)
       have hf := hf.keep (KeepT.upd B4 (by decide) hu42)
       have hp := hp.keep (KeepT.upd B4 (by decide) hu42)
       have hz42 : y41.heap.size ≤ y42.heap.size := hu42.size
       have HB := Upd.low HB (by omega) (Nat.le_refl _) hu42
       have B4 : Blk y42 (b10) [f1, f2, f3, f4, .bool h1, .slice h2 h3 h4, .bool h5, .slice h6 h7 h8, .bool op, .bool ot, .bool true] 79 := hc42
       clear hu42 hc42
       (try simp only [td])
       refine pl_end ?_
       go_upto_region 18 with (fail)
       refine pl_start ?_
       refine pl_val (v := .pointer (some ⟨b10, 9, none⟩)) (by rfl) (by go_simp) ?_
       (try simp only [td])
       refine pl_store (b := b10) (off := 9) (u := .bool true) (by rfl) (by rfl) (by rfl) (by rfl) (by rfl) B4 (by first | rfl | (rw [size_boolC]; rfl)) (by simp [Value.cells, Value.oneCell']) (by simp [Value.cells]) ?_
       intro y43 hu43 hc43
       have B0 := B0.upd hu43 (by have := B0.lt; omega)
       have B1 := B1.upd hu43 (by have := B1.lt; omega)
       have B2 := B2.upd hu43 (by have := B2.lt; omega)
       have hf := hf.keep (KeepT.upd B4 (by decide) hu43)
       have hp := hp.keep (KeepT.upd B4 (by decide) hu43)
       have hz43 : y42.heap.size ≤ y43.heap.size := hu43.size
       have HB := Upd.low HB (by omega) (Nat.le_refl _) hu43
       have B4 : Blk y43 (b10) [f1, f2, f3, f4, .bool h1, .slice h2 h3 h4, .bool h5, .slice h6 h7 h8, .bool op, .bool true, .bool true] 79 := hc43
       clear hu43 hc43
       (try simp only [td])
       refine pl_end ?_
       have F1 : Hid (StX y43 b10 f op true) := hH ⟨_, _, _, _, _, _, _, _, _, _, B4, hf, HRn.out _ HB⟩
       have F2 : Hid (CutI I l (i + 1) f op true) := hH ⟨fun h => (by cases h), HJ.out.2⟩
       have F3 := hH HB
       clear B0 B1 B2 B4 hf hp HB HJ HMu
       go_wp2_with fail
       go_roundg q
       case measure => omega
       case rel => exact ⟨i + 1, f, op, true, by omega, by go_num, F1, F2, F3⟩
      | false =>
       go_upto_region 13 with (fail)
       refine pl_start ?_
       refine pl_val (v := .pointer (some ⟨b10, 10, none⟩)) (by rfl) (by go_simp) ?_
       (try simp only [td])
       refine pl_val (v := .bool false) (by rfl) (by have q0 := B4.cell (j := 10) rfl; go_simp) ?_
       (try simp only [td])
       refine pl_val (v := .bool true) (by rfl) (by go_simp) ?_
       (try simp only [td])
       refine pl_end ?_
       go_upto_region 14 with (fail)
       refine pl_start ?_
       refine pM (.slice (some ⟨gl, ol, none⟩) n cl) ?_
       (try simp only [td])
       refine pM (.int .i64 (i : Int)) ?_
       (try simp only [td])
       refine pl_val (v := .pointer (some ⟨gl, ol + i * 4, none⟩)) (by rfl) (x_index (i := i) (E := 77) (sz := 4) rfl (by rfl) (by rfl) (by omega) Tryz.underlying114 size_ratS) ?_
       (try simp only [td])
       refine pl_val (v := .agg #[.bool g1, .slice g2 g3 g4, .bool g5, .slice g6 g7 g8]) (by rfl) (x_row (cs := [.bool g1, .slice g2 g3 g4, .bool g5, .slice g6 g7 g8]) rfl (by rfl) (HRl.out _ HB) Tryz.underlying77 rfl size_ratS) ?_
       (try simp only [td])
       refine pl_val (v := .pointer (some ⟨b10, 0, none⟩)) (by rfl) (by go_simp) ?_
       (try simp only [td])
       refine pl_store (b := b10) (off := 0) (u := .agg #[.bool g1, .slice g2 g3 g4, .bool g5, .slice g6 g7 g8]) (by rfl) (by rfl) (by rfl) (by rfl) (by rfl) B4 (by first | rfl | (rw [size_ratS]; rfl)) (by simp [Value.cells, Value.oneCell']) (by simp [Value.cells]) ?_
       intro y41 hu41 hc41
       have B0 := B0.upd hu41 (by have := B0.lt; omega)
       have B1 := B1.upd hu41 (by have := B1.lt; omega)
       have B2 := B2.upd hu41 (by have := B2.lt; omega)
       have hf := hf.keep (KeepT.upd B4 (by decide) hu41)
       have hp := hp.keep (KeepT.upd B4 (by decide) hu41)
       have hz41 : wt.heap.size ≤ y41.heap.size := hu41.size
       have HB := Upd.low HB (by omega) (Nat.le_refl _) hu41
       have B4 : Blk y41 (b10) [.bool g1, .slice g2 g3 g4, .bool g5, .slice g6 g7 g8, p1, p2, p3, p4, .bool op, .bool ot, .bool false] 79 := hc41
       clear hu41 hc41
       (try simp only [td])
       refine pl_end ?_
       go_upto_region 15 with (fail)
       refine pl_start ?_
       refine pl_val (v := .pointer (some ⟨b10, 8, none⟩)) (by rfl) (by go_simp) ?_
       (try simp only [td])
       refine pl_store (b := b10) (off := 8) (u := .bool true) (by rfl) (by rfl) (by rfl) (by rfl) (by rfl) B4 (by first | rfl | (rw [size_boolC]; rfl)) (by simp [Value.cells, Value.oneCell']) (by simp [Value.cells]) ?_
       intro y42 hu42 hc42
       have B0 := B0.upd hu42 (by have := B0.lt; omega)
       have B1 := B1.upd hu42 (by have := B1.lt; omega)
       have B2 := B2.upd hu42 (by have := B2.lt; omega)
       have hf := hf.keep (KeepT.upd B4 (by decide) hu42)
       have hp := hp.keep (KeepT.upd B4 (by decide) hu42)
       have hz42 : y41.heap.size ≤ y42.heap.size := hu42.size
       have HB := Upd.low HB (by omega) (Nat.le_refl _) hu42
       have B4 : Blk y42 (b10) [.bool g1, .slice g2 g3 g4, .bool g5, .slice g6 g7 g8, p1, p2, p3, p4, .bool true, .bool ot, .bool false] 79 := hc42
       clear hu42 hc42
       (try simp only [td])
       refine pl_end ?_
       go_upto_region 16 with (fail)
       refine pl_start ?_
       refine pl_val (v := .pointer (some ⟨b10, 10, none⟩)) (by rfl) (by go_simp) ?_
       (try simp only [td])
       refine pl_store (b := b10) (off := 10) (u := .bool true) (by rfl) (by rfl) (by rfl) (by rfl) (by rfl) B4 (by first | rfl | (rw [size_boolC]; rfl)) (by simp [Value.cells, Value.oneCell']) (by simp [Value.cells]) ?_
       intro y43 hu43 hc43
       have B0 := B0.upd hu43 (by have := B0.lt; omega)
       have B1 := B1.upd hu43 (by have := B1.lt; omega)
       have B2 := B2.upd hu43 (by have := B2.lt; omega)
       have hf := hf.keep (KeepT.upd B4 (by decide) hu43)
       have hp := hp.keep (KeepT.upd B4 (by decide) hu43)
       have hz43 : y42.heap.size ≤ y43.heap.size := hu43.size
       have HB := Upd.low HB (by omega) (Nat.le_refl _) hu43
       have B4 : Blk y43 (b10) [.bool g1, .slice g2 g3 g4, .bool g5, .slice g6 g7 g8, p1, p2, p3, p4, .bool true, .bool ot, .bool true] 79 := hc43
       clear hu43 hc43
       (try simp only [td])
       refine pl_end ?_
       go_upto_region 17 with (fail)
       refine pl_start ?_
       refine pM (.slice (some ⟨gl, ol, none⟩) n cl) ?_
       (try simp only [td])
       refine pM (.int .i64 (i : Int)) ?_
       (try simp only [td])
       refine pl_val (v := .int .i64 ((i : Int) + 1)) (by rfl) ((by have nn := tn1; go_simp)) ?_
       (try simp only [td])
       refine pl_val (v := .pointer (some ⟨gl, ol + (i + 1) * 4, none⟩)) (by rfl) (x_index (i := (i + 1)) (E := 77) (sz := 4) rfl (by rfl) (by rfl) (by omega) Tryz.underlying114 size_ratS) ?_
       (try simp only [td])
       refine pl_val (v := .agg #[.bool h1, .slice h2 h3 h4, .bool h5, .slice h6 h7 h8]) (by rfl) (x_row (cs := [.bool h1, .slice h2 h3 h4, .bool h5, .slice h6 h7 h8]) rfl (by rfl) (HRm.out _ HB) Tryz.underlying77 rfl size_ratS) ?_
       (try simp only [td])
       refine pl_val (v := .pointer (some ⟨b10, 4, none⟩)) (by rfl) (by go_simp) ?_
       (try simp only [td])
       refine pl_store (b := b10) (off := 4) (u := .agg #[.bool h1, .slice h2 h3 h4, .bool h5, .slice h6 h7 h8]) (by rfl) (by rfl) (by rfl) (by rfl) (by rfl) B4 (by first | rfl | (rw [size_ratS]; rfl)) (by simp [Value.cells, Value.oneCell']) (by simp [Value.cells]) ?_
       intro y44 hu44 hc44
       have B0 := B0.upd hu44 (by have := B0.lt; omega)
       have B1 := B1.upd hu44 (by have := B1.lt; omega)
       have B2 := B2.upd hu44 (by have := B2.lt; omega)
       have hf := hf.keep (KeepT.upd B4 (by decide) hu44)
       have hp := hp.keep (KeepT.upd B4 (by decide) hu44)
       have hz44 : y43.heap.size ≤ y44.heap.size := hu44.size
       have HB := Upd.low HB (by omega) (Nat.le_refl _) hu44
       have B4 : Blk y44 (b10) [.bool g1, .slice g2 g3 g4, .bool g5, .slice g6 g7 g8, .bool h1, .slice h2 h3 h4, .bool h5, .slice h6 h7 h8, .bool true, .bool ot, .bool true] 79 := hc44
       clear hu44 hc44
       (try simp only [td])
       refine pl_end ?_
       go_upto_region 18 with (fail)
       refine pl_start ?_
       refine pl_val (v := .pointer (some ⟨b10, 9, none⟩)) (by rfl) (by go_simp) ?_
       (try simp only [td])
       refine pl_store (b := b10) (off := 9) (u := .bool true) (by rfl) (by rfl) (by rfl) (by rfl) (by rfl) B4 (by first | rfl | (rw [size_boolC]; rfl)) (by simp [Value.cells, Value.oneCell']) (by simp [Value.cells]) ?_
       intro y45 hu45 hc45
       have B0 := B0.upd hu45 (by have := B0.lt; omega)
       have B1 := B1.upd hu45 (by have := B1.lt; omega)
       have B2 := B2.upd hu45 (by have := B2.lt; omega)
       have hf := hf.keep (KeepT.upd B4 (by decide) hu45)
       have hp := hp.keep (KeepT.upd B4 (by decide) hu45)
       have hz45 : y44.heap.size ≤ y45.heap.size := hu45.size
       have HB := Upd.low HB (by omega) (Nat.le_refl _) hu45
       have B4 : Blk y45 (b10) [.bool g1, .slice g2 g3 g4, .bool g5, .slice g6 g7 g8, .bool h1, .slice h2 h3 h4, .bool h5, .slice h6 h7 h8, .bool true, .bool true, .bool true] 79 := hc45
       clear hu45 hc45
       (try simp only [td])
       refine pl_end ?_
       have F1 : Hid (StX y45 b10 et true true) := hH ⟨_, _, _, _, _, _, _, _, _, _, B4, HRe.out _ HB, HRn.out _ HB⟩
       have F2 : Hid (CutI I l (i + 1) et true true) := hH ⟨fun h => (by cases h), fun _ => by
        obtain ⟨h1, h2, h3⟩ := HJ.out.1 rfl
        rw [h3]; exact scan_mid Het.out Hun.out h2 HMu.out⟩
       have F3 := hH HB
       clear B0 B1 B2 B4 hf hp HB HJ HMu
       go_wp2_with fail
       go_roundg q
       case measure => omega
       case rel => exact ⟨i + 1, et, true, true, by omega, by go_num, F1, F2, F3⟩
end Go.Proofs.YthbplhglfjlngaaGreat
