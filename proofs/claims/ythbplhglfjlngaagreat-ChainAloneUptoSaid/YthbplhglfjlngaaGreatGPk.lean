/- Parts of the proof. -/
import Derived.Test.YthbplhglfjlngaaGreatGPb
import Derived.Deep.Cut
import Derived.Test.YthbplhglfjlngaaGreatGPf
set_option linter.unusedVariables false
set_option linter.unusedSimpArgs false
set_option maxRecDepth 100000
namespace Go.Proofs.YthbplhglfjlngaaGreat
open Go.RowKit Go.Rg Go.Wd
attribute [local go_sem] Oper.semAt_some
theorem pixOf_any (x y v size : Int) (h : SpotOk x y v) (hs : szB size = true) (w : World) :
  Calls Tryz.prog 41 #[sV x y v, .int .i64 size] w fun e w' => e = .returned (.tuple #[pV (cellZ x v size) (cellZ y v size), .int .i64 0]) ∧ Below w.heap.size w w' := by
 obtain ⟨W0, hW0⟩ : ∃ W0, [.cells #[u64 (lb (tc x) 0), u64 (lb (tc x) 1), u64 (lb (tc x) 2), u64 (lb (tc x) 3), u64 (lb (tc y) 0), u64 (lb (tc y) 1), u64 (lb (tc y) 2), u64 (lb (tc y) 3), u64 (lb (tc v) 0), u64 (lb (tc v) 1), u64 (lb (tc v) 2), u64 (lb (tc v) 3)] 106, .cells #[.int .i64 0, .int .i64 0] 23].foldl World.alloc w = W0 := ⟨_, rfl⟩
 have B0 : Blk W0 (w.heap.size) (sL x y v) 106 := Blk.allocs _ hW0 0 rfl
 have B1 : Blk W0 (w.heap.size + 1) ([.int .i64 0, .int .i64 0]) 23 := Blk.allocs _ hW0 1 rfl
 have HB := aB hW0
 have hsz : w.heap.size + 2 ≤ W0.heap.size := aZ hW0
 simp only [List.foldl_cons, List.foldl_nil] at hW0
 obtain ⟨cx, Hcx⟩ : ∃ c, Hid (cellZ x v size = c) := ⟨_, hH rfl⟩
 obtain ⟨cy, Hcy⟩ : ∃ c, Hid (cellZ y v size = c) := ⟨_, hH rfl⟩
 have hs2 := szB_iff.1 hs
 have Hx : Hid (∀ w, Calls Tryz.prog 70 #[wI x, wI v, .int .i64 size] w fun e w' => e = .returned (.int .i64 cx) ∧ Below w.heap.size w w') := hH (by rw [← Hcx.out]; exact cell_any x v size h.w1 h.w2 h.x1 h.x2 hs2.1 hs2.2)
 have Hy : Hid (∀ w, Calls Tryz.prog 70 #[wI y, wI v, .int .i64 size] w fun e w' => e = .returned (.int .i64 cy) ∧ Below w.heap.size w w') := hH (by rw [← Hcy.out]; exact cell_any y v size h.w1 h.w2 h.y1 h.y2 hs2.1 hs2.2)
 have H := hH h
 have Hs := hH hs
 rw [Hcx.out, Hcy.out]
 clear h hs hs2
 go_enter Tryz.func41, Tryz.ntmps41
 go_upto_region 1 with (fail)
 clear hW0
 refine cP ?_
 refine cN ?_
 refine cW ?_ ?_ ?_
 refine cC ?_ ?_ ?_ ?_ ?hc3_1 ?_
 case hc3_1 => (intro w hSw; exact psize_any size true Hs.out w)
 refine cW ?_ ?_ ?_
 refine cW ?_ ?_ ?_
 refine cX (.agg (sL x y v).toArray) ?_ (by intro wz hSw; exact load_row rfl (by rfl) (B0.y hSw.1) Tryz.underlying106 rfl size_spot) ?_
 refine cC ?_ ?_ ?_ ?_ ?hc3_5 ?_
 case hc3_5 => (intro w hSw; exact spotRight_any x y v H.out w)
 refine cW ?_ ?_ ?_
 refine cW ?_ ?_ ?_
 refine calm_end ?_
 intro w1 hS
 have hS := sO hS
 have B0 := B0.y hS
 have B1 := B1.y hS
 have hz1 : W0.heap.size ≤ w1.heap.size := hS.size
 have HB := gS HB hS
 clear hS
 go_upto_region 3 with (fail)
 refine cG ?_
 refine calm_k (b := w.heap.size + 1) (o := 0) (st := 13) (ado := .tmp 4) (x := (.tmp 27)) (u := pV cx cy) (by kernel_rfl) B1 (by rfl) size_pt (pt_one _ _) (by first | exact Nat.le_refl _ | (simp; done) | decide) ?_
 refine cW ?_ ?_ ?_
 refine cX ?_ ?_ (by intro wz hSw; obtain ⟨q0, q1, q2, q3, q4, q5, q6, q7, q8, q9, q10, q11⟩ := c12 (B0.y hSw.1); go_simp; all_goals with_reducible rfl) ?_
 refine cW ?_ ?_ ?_
 refine cX ?_ ?_ (by intro wz hSw; obtain ⟨q0, q1, q2, q3, q4, q5, q6, q7, q8, q9, q10, q11⟩ := c12 (B0.y hSw.1); go_simp; all_goals with_reducible rfl) ?_
 refine cW ?_ ?_ ?_
 refine cC ?_ ?_ ?_ ?_ ?hc4_5 ?_
 case hc4_5 => (intro w hSw; exact Hx.out w)
 refine cW ?_ ?_ ?_
 refine cX ?_ ?_ (by intro wz hSw; obtain ⟨q0, q1, q2, q3, q4, q5, q6, q7, q8, q9, q10, q11⟩ := c12 (B0.y hSw.1); go_simp; all_goals with_reducible rfl) ?_
 refine cW ?_ ?_ ?_
 refine cX ?_ ?_ (by intro wz hSw; obtain ⟨q0, q1, q2, q3, q4, q5, q6, q7, q8, q9, q10, q11⟩ := c12 (B0.y hSw.1); go_simp; all_goals with_reducible rfl) ?_
 refine cW ?_ ?_ ?_
 refine cC ?_ ?_ ?_ ?_ ?hc4_11 ?_
 case hc4_11 => (intro w hSw; exact Hy.out w)
 refine cW ?_ ?_ ?_
 refine cB ?_
 refine cW ?_ ?_ ?_
 refine calm_end ?_
 refine ⟨(by rfl), (by rfl), fun w2 hS D0 => ?_⟩
 have B0 := B0.y hS
 have B1 : Blk w2 (w.heap.size + 1) ([.int .i64 cx, .int .i64 cy]) 23 := D0
 have hz2 : w1.heap.size ≤ w2.heap.size := hS.size
 have HB := gS HB hS
 clear hS D0
 go_wp2_with fail
 obtain ⟨s0_0, s0_1⟩ := c2 (B1)
 refine bodyPost_ret (v := .tuple #[pV cx cy, .int .i64 0]) (by simp [results, Tryz.results41, go_sem, s0_0, s0_1]) rfl ⟨rfl, HB⟩
theorem spotOk_of {x y : Int} (h : ptB x y = true) : SpotOk x y 1 := by
 unfold ptB at h
 rw [Bool.and_eq_true, inB_iff, inB_iff] at h
 exact ⟨by omega, by omega, by omega, by omega, by omega, by omega⟩
set_option maxHeartbeats 1000000 in
theorem box_any (a b c d size : Int) (hg : sgB a b c d = true) (hs : szB size = true) (w : World) :
  Calls Tryz.prog 18 #[gV a b c d, .int .i64 size] w fun e w' => e = .returned (.tuple #[pV (min (cellZ a 1 size) (cellZ c 1 size)) (min (cellZ b 1 size) (cellZ d 1 size)), pV (max (cellZ a 1 size) (cellZ c 1 size)) (max (cellZ b 1 size) (cellZ d 1 size)), .int .i64 0]) ∧ Below w.heap.size w w' := by
 obtain ⟨W0, hW0⟩ : ∃ W0, [.cells #[.int .i64 a, .int .i64 b, .int .i64 c, .int .i64 d] 25, .cells #[.int .i64 0, .int .i64 0] 23, .cells #[.int .i64 0, .int .i64 0] 23].foldl World.alloc w = W0 := ⟨_, rfl⟩
 have B0 : Blk W0 (w.heap.size) ([.int .i64 a, .int .i64 b, .int .i64 c, .int .i64 d]) 25 := Blk.allocs _ hW0 0 rfl
 have B1 : Blk W0 (w.heap.size + 1) ([.int .i64 0, .int .i64 0]) 23 := Blk.allocs _ hW0 1 rfl
 have B2 : Blk W0 (w.heap.size + 1 + 1) ([.int .i64 0, .int .i64 0]) 23 := Blk.allocs _ hW0 2 rfl
 have HB := aB hW0
 have hsz : w.heap.size + 3 ≤ W0.heap.size := aZ hW0
 simp only [List.foldl_cons, List.foldl_nil] at hW0
 have hpp := hg
 unfold sgB at hpp
 rw [Bool.and_eq_true] at hpp
 have HP := hH hpp
 have Hg := hH hg
 have Hs := hH hs
 clear hg hs hpp
 obtain ⟨ca, Ha⟩ : ∃ c, Hid (cellZ a 1 size = c) := ⟨_, hH rfl⟩
 obtain ⟨cb, Hb⟩ : ∃ c, Hid (cellZ b 1 size = c) := ⟨_, hH rfl⟩
 obtain ⟨cc, Hc⟩ : ∃ q, Hid (cellZ c 1 size = q) := ⟨_, hH rfl⟩
 obtain ⟨cd, Hd⟩ : ∃ c, Hid (cellZ d 1 size = c) := ⟨_, hH rfl⟩
 have H1 : Hid (∀ w, Calls Tryz.prog 41 #[sV a b 1, .int .i64 size] w fun e w' => e = .returned (.tuple #[pV ca cb, .int .i64 0]) ∧ Below w.heap.size w w') := hH (by rw [← Ha.out, ← Hb.out]; exact pixOf_any a b 1 size (spotOk_of HP.out.1) Hs.out)
 have H2 : Hid (∀ w, Calls Tryz.prog 41 #[sV c d 1, .int .i64 size] w fun e w' => e = .returned (.tuple #[pV cc cd, .int .i64 0]) ∧ Below w.heap.size w w') := hH (by rw [← Hc.out, ← Hd.out]; exact pixOf_any c d 1 size (spotOk_of HP.out.2) Hs.out)
 rw [Ha.out, Hb.out, Hc.out, Hd.out]
 go_enter Tryz.func18, Tryz.ntmps18
 go_upto_region 1 with (fail)
 clear hW0
 refine cP ?_
 refine cN ?_
 refine cX ?_ ?_ (by intro wz hSw; obtain ⟨q0, q1, q2, q3⟩ := c4 (B0.y hSw.1); go_simp; all_goals with_reducible rfl) ?_
 refine cC ?_ ?_ ?_ ?_ ?hc10_1 ?_
 case hc10_1 => (intro w hSw; exact sgRight_any a b c d true Hg.out w)
 refine cW ?_ ?_ ?_
 refine calm_end ?_
 intro w1 hS
 have hS := sO hS
 have B0 := B0.y hS
 have B1 := B1.y hS
 have B2 := B2.y hS
 have hz1 : W0.heap.size ≤ w1.heap.size := hS.size
 have HB := gS HB hS
 clear hS
 go_upto_region 3 with (fail)
 refine cP ?_
 refine calm_a (k := 8) (d := 7) (st := 9) (x := (.tmp 21)) (u := pV ca cb) (T := 23) (by kernel_rfl) (by rfl) (by rfl) info_pt rfl rfl (pt_one _ _) ?_
 refine cW ?_ ?_ ?_
 refine cX ?_ ?_ (by intro wz hSw; obtain ⟨q0, q1, q2, q3⟩ := c4 (B0.y hSw.1); go_simp; all_goals with_reducible rfl) ?_
 refine cC ?_ ?_ ?_ ?_ ?hc11_2 ?_
 case hc11_2 => (intro w hSw; exact at_any a b HP.out.1 w)
 refine cW ?_ ?_ ?_
 refine cC ?_ ?_ ?_ ?_ ?hc11_4 ?_
 case hc11_4 => (intro w hSw; exact H1.out w)
 refine cW ?_ ?_ ?_
 refine cW ?_ ?_ ?_
 refine cW ?_ ?_ ?_
 refine cB ?_
 refine cB ?_
 refine cW ?_ ?_ ?_
 refine calm_end ?_
 refine ⟨(by rfl), fun b4 w2 hb4 hS D0 => ?_⟩
 have hl4_0 : w.heap.size < b4 := lL B0.lt hb4
 have hl4_1 : w.heap.size + 1 < b4 := lL B1.lt hb4
 have hl4_2 : w.heap.size + 1 + 1 < b4 := lL B2.lt hb4
 have hS := sO hS
 have B0 := B0.y hS
 have B1 := B1.y hS
 have B2 := B2.y hS
 have B4 : Blk w2 b4 ([.int .i64 ca, .int .i64 cb]) 23 := D0
 have hz2 : w1.heap.size ≤ w2.heap.size := hS.size
 have HB := gS HB hS
 clear hS D0
 go_upto_region 6 with (fail)
 refine cP ?_
 refine calm_a (k := 8) (d := 8) (st := 9) (x := (.tmp 34)) (u := pV cc cd) (T := 23) (by kernel_rfl) (by rfl) (by rfl) info_pt rfl rfl (pt_one _ _) ?_
 refine cW ?_ ?_ ?_
 refine cX ?_ ?_ (by intro wz hSw; obtain ⟨q0, q1, q2, q3⟩ := c4 (B0.y hSw.1); go_simp; all_goals with_reducible rfl) ?_
 refine cC ?_ ?_ ?_ ?_ ?hc12_2 ?_
 case hc12_2 => (intro w hSw; exact at_any c d HP.out.2 w)
 refine cW ?_ ?_ ?_
 refine cC ?_ ?_ ?_ ?_ ?hc12_4 ?_
 case hc12_4 => (intro w hSw; exact H2.out w)
 refine cW ?_ ?_ ?_
 refine cW ?_ ?_ ?_
 refine cW ?_ ?_ ?_
 refine cB ?_
 refine cB ?_
 refine cW ?_ ?_ ?_
 refine calm_end ?_
 refine ⟨(by rfl), fun b5 w3 hb5 hS D0 => ?_⟩
 have hl5_0 : w.heap.size < b5 := lL B0.lt hb5
 have hl5_1 : w.heap.size + 1 < b5 := lL B1.lt hb5
 have hl5_2 : w.heap.size + 1 + 1 < b5 := lL B2.lt hb5
 have hl5_4 : b4 < b5 := lL B4.lt hb5
 have hS := sO hS
 have B0 := B0.y hS
 have B1 := B1.y hS
 have B2 := B2.y hS
 have B4 := B4.y hS
 have B5 : Blk w3 b5 ([.int .i64 cc, .int .i64 cd]) 23 := D0
 have hz3 : w2.heap.size ≤ w3.heap.size := hS.size
 have HB := gS HB hS
 clear hS D0
 go_upto_region 7 with (fail)
 refine cG ?_
 refine calm_kk (b := w.heap.size + 1) (o := 0) (st := 22) (ado := .tmp 4) (x := (.tmp 46)) (u := pV (min ca cc) (min cb cd)) (b' := w.heap.size + 1 + 1) (o' := 0) (st' := 23) (ado' := .tmp 5) (x' := (.tmp 57)) (u' := pV (max ca cc) (max cb cd)) (by kernel_rfl) B1 B2 (by omega) (by rfl) size_pt (pt_one _ _) (by first | exact Nat.le_refl _ | (simp; done) | decide) (by rfl) size_pt (pt_one _ _) (by first | exact Nat.le_refl _ | (simp; done) | decide) ?_
 refine cW ?_ ?_ ?_
 refine cX ?_ ?_ (by intro wz hSw; obtain ⟨q0, q1⟩ := c2 (B4.y hSw.1); go_simp; all_goals with_reducible rfl) ?_
 refine cW ?_ ?_ ?_
 refine cX ?_ ?_ (by intro wz hSw; obtain ⟨q0, q1⟩ := c2 (B5.y hSw.1); go_simp; all_goals with_reducible rfl) ?_
 refine cW ?_ ?_ ?_
 refine cW ?_ ?_ ?_
 refine cX ?_ ?_ (by intro wz hSw; obtain ⟨q0, q1⟩ := c2 (B4.y hSw.1); go_simp; all_goals with_reducible rfl) ?_
 refine cW ?_ ?_ ?_
 refine cX ?_ ?_ (by intro wz hSw; obtain ⟨q0, q1⟩ := c2 (B5.y hSw.1); go_simp; all_goals with_reducible rfl) ?_
 refine cW ?_ ?_ ?_
 refine cW ?_ ?_ ?_
 refine cW ?_ ?_ ?_
 refine cX ?_ ?_ (by intro wz hSw; obtain ⟨q0, q1⟩ := c2 (B4.y hSw.1); go_simp; all_goals with_reducible rfl) ?_
 refine cW ?_ ?_ ?_
 refine cX ?_ ?_ (by intro wz hSw; obtain ⟨q0, q1⟩ := c2 (B5.y hSw.1); go_simp; all_goals with_reducible rfl) ?_
 refine cW ?_ ?_ ?_
 refine cW ?_ ?_ ?_
 refine cX ?_ ?_ (by intro wz hSw; obtain ⟨q0, q1⟩ := c2 (B4.y hSw.1); go_simp; all_goals with_reducible rfl) ?_
 refine cW ?_ ?_ ?_
 refine cX ?_ ?_ (by intro wz hSw; obtain ⟨q0, q1⟩ := c2 (B5.y hSw.1); go_simp; all_goals with_reducible rfl) ?_
 refine cW ?_ ?_ ?_
 refine cW ?_ ?_ ?_
 refine cB ?_
 refine cB ?_
 refine cW ?_ ?_ ?_
 refine calm_end ?_
 refine ⟨⟨⟨(by rfl), (by rfl)⟩, ⟨(by rfl), (by rfl)⟩⟩, fun w4 hS D0 D1 => ?_⟩
 have B0 := B0.y hS
 have B4 := B4.y hS
 have B5 := B5.y hS
 have B1 : Blk w4 (w.heap.size + 1) ([.int .i64 (min ca cc), .int .i64 (min cb cd)]) 23 := D0
 have B2 : Blk w4 (w.heap.size + 1 + 1) ([.int .i64 (max ca cc), .int .i64 (max cb cd)]) 23 := D1
 have hz4 : w3.heap.size ≤ w4.heap.size := hS.size
 have HB := gS HB hS
 clear hS D0 D1
 go_wp2_with fail
 obtain ⟨s0_0, s0_1⟩ := c2 (B1)
 obtain ⟨s1_0, s1_1⟩ := c2 (B2)
 refine bodyPost_ret (v := .tuple #[pV (min ca cc) (min cb cd), pV (max ca cc) (max cb cd), .int .i64 0]) (by simp [results, Tryz.results18, go_sem, s0_0, s0_1, s1_0, s1_1]) rfl ⟨rfl, HB⟩
end Go.Proofs.YthbplhglfjlngaaGreat
namespace Go.Wd
open Go
structure Stz where
 fn : Int
 fd : Int
 tn : Int
 td : Int
 op : Bool
 ot : Bool
def stL (s : Stz) : List Value := [u64 (lb (tc s.fn) 0), u64 (lb (tc s.fn) 1), u64 (lb (tc s.fn) 2), u64 (lb (tc s.fn) 3), u64 (lb (tc s.fd) 0), u64 (lb (tc s.fd) 1), u64 (lb (tc s.fd) 2), u64 (lb (tc s.fd) 3), u64 (lb (tc s.tn) 0), u64 (lb (tc s.tn) 1), u64 (lb (tc s.tn) 2), u64 (lb (tc s.tn) 3), u64 (lb (tc s.td) 0), u64 (lb (tc s.td) 1), u64 (lb (tc s.td) 2), u64 (lb (tc s.td) 3), .bool s.op, .bool s.ot]
abbrev stV (s : Stz) : Value := .agg #[u64 (lb (tc s.fn) 0), u64 (lb (tc s.fn) 1), u64 (lb (tc s.fn) 2), u64 (lb (tc s.fn) 3), u64 (lb (tc s.fd) 0), u64 (lb (tc s.fd) 1), u64 (lb (tc s.fd) 2), u64 (lb (tc s.fd) 3), u64 (lb (tc s.tn) 0), u64 (lb (tc s.tn) 1), u64 (lb (tc s.tn) 2), u64 (lb (tc s.tn) 3), u64 (lb (tc s.td) 0), u64 (lb (tc s.td) 1), u64 (lb (tc s.td) 2), u64 (lb (tc s.td) 3), .bool s.op, .bool s.ot]
theorem st_one (s : Stz) : (stV s).cells.all (·.oneCell') = true := by unfold stV u64; simp [Value.cells, Value.oneCell']
structure Stz.Ok (s : Stz) : Prop where
 f : Wd.Ok s.fn s.fd
 t : Wd.Ok s.tn s.td
def fromZ (s : Stz) (n d : Int) (o : Bool) : Stz := if 0 < cmpR n d s.fn s.fd then { s with fn := n, fd := d, op := o } else if cmpR n d s.fn s.fd = 0 then { s with op := s.op || o } else s
def toZ (s : Stz) (n d : Int) (o : Bool) : Stz := if cmpR n d s.tn s.td < 0 then { s with tn := n, td := d, ot := o } else if cmpR n d s.tn s.td = 0 then { s with ot := s.ot || o } else s
theorem fromZ_ok {s : Stz} {n d : Int} {o : Bool} (h : s.Ok) (hr : Wd.Ok n d) : (fromZ s n d o).Ok := by
 unfold fromZ; split
 ·exact ⟨hr, h.t⟩
 ·split
  ·exact ⟨h.f, h.t⟩
  ·exact h
theorem toZ_ok {s : Stz} {n d : Int} {o : Bool} (h : s.Ok) (hr : Wd.Ok n d) : (toZ s n d o).Ok := by
 unfold toZ; split
 ·exact ⟨h.f, hr⟩
 ·split
  ·exact ⟨h.f, h.t⟩
  ·exact h
end Go.Wd
namespace Go.Rg
open Go Go.RowKit Go.Wd
theorem c18 {w : World} {b : Nat} {s : Stz} {t : TypeId} (h : Blk w b (stL s) t) :
  w.cell? ⟨b, 0, none⟩ = some (u64 (lb (tc s.fn) 0)) ∧ w.cell? ⟨b, 1, none⟩ = some (u64 (lb (tc s.fn) 1)) ∧ w.cell? ⟨b, 2, none⟩ = some (u64 (lb (tc s.fn) 2)) ∧ w.cell? ⟨b, 3, none⟩ = some (u64 (lb (tc s.fn) 3)) ∧ w.cell? ⟨b, 4, none⟩ = some (u64 (lb (tc s.fd) 0)) ∧ w.cell? ⟨b, 5, none⟩ = some (u64 (lb (tc s.fd) 1)) ∧ w.cell? ⟨b, 6, none⟩ = some (u64 (lb (tc s.fd) 2)) ∧ w.cell? ⟨b, 7, none⟩ = some (u64 (lb (tc s.fd) 3)) ∧ w.cell? ⟨b, 8, none⟩ = some (u64 (lb (tc s.tn) 0)) ∧ w.cell? ⟨b, 9, none⟩ = some (u64 (lb (tc s.tn) 1)) ∧ w.cell? ⟨b, 10, none⟩ = some (u64 (lb (tc s.tn) 2)) ∧ w.cell? ⟨b, 11, none⟩ = some (u64 (lb (tc s.tn) 3)) ∧ w.cell? ⟨b, 12, none⟩ = some (u64 (lb (tc s.td) 0)) ∧ w.cell? ⟨b, 13, none⟩ = some (u64 (lb (tc s.td) 1)) ∧ w.cell? ⟨b, 14, none⟩ = some (u64 (lb (tc s.td) 2)) ∧ w.cell? ⟨b, 15, none⟩ = some (u64 (lb (tc s.td) 3)) ∧ w.cell? ⟨b, 16, none⟩ = some (.bool s.op) ∧ w.cell? ⟨b, 17, none⟩ = some (.bool s.ot) :=
 ⟨h.cell rfl, h.cell rfl, h.cell rfl, h.cell rfl, h.cell rfl, h.cell rfl, h.cell rfl, h.cell rfl, h.cell rfl, h.cell rfl, h.cell rfl, h.cell rfl, h.cell rfl, h.cell rfl, h.cell rfl, h.cell rfl, h.cell rfl, h.cell rfl⟩
end Go.Rg
namespace Go.Proofs.YthbplhglfjlngaaGreat
open Go.RowKit Go.Rg Go.Wd
attribute [local go_sem] Oper.semAt_some
theorem pless_b (n d n' d' r : Int) (h : Ok n d) (h' : Ok n' d') (hr : cmpR n d n' d' = r) (w : World) :
  Calls Tryz.prog 75 #[rt n d, rt n' d'] w fun e w' => e = .returned (.int .i64 r) ∧ Below w.heap.size w w' := by subst hr; exact pless_any n d n' d' h h' w
set_option maxHeartbeats 1000000 in
theorem from_more (D : Nat) (s : Stz) (n d : Int) (o : Bool) (w : World) (hD : Blk w D (stL s) 64) (hr : Ok n d) (ho : s.Ok) (hc : 0 < cmpR n d s.fn s.fd) :
  Calls Tryz.prog 72 #[.pointer (some ⟨D, 0, none⟩), rt n d, .bool o] w fun e w' => e = .returned (.tuple #[]) ∧ Blk w' D (stL { s with fn := n, fd := d, op := o }) 64 ∧ Upd D w w' := by
 obtain ⟨W0, hW0⟩ : ∃ W0, [.cells #[u64 (lb (tc n) 0), u64 (lb (tc n) 1), u64 (lb (tc n) 2), u64 (lb (tc n) 3), u64 (lb (tc d) 0), u64 (lb (tc d) 1), u64 (lb (tc d) 2), u64 (lb (tc d) 3)] 62].foldl World.alloc w = W0 := ⟨_, rfl⟩
 have B0 : Blk W0 (w.heap.size) (rL n d) 62 := Blk.allocs _ hW0 0 rfl
 have HB := aB hW0
 have hsz : w.heap.size + 1 ≤ W0.heap.size := aZ hW0
 simp only [List.foldl_cons, List.foldl_nil] at hW0
 have hDl := hD.lt
 have BD : Blk W0 D (stL s) 64 := hD.below HB hDl
 have Hr := hH hr
 have Ho := hH ho
 obtain ⟨c, Hc⟩ : ∃ c, Hid (cmpR n d s.fn s.fd = c) := ⟨_, hH rfl⟩
 have i0 : 0 < c := by rw [← Hc.out]; exact hc
 have d0 : decide (0 < c) = true := by simp; omega
 clear hc hr ho hD
 go_enter Tryz.func72, Tryz.ntmps72
 go_upto_region 1 with (fail)
 clear hW0
 refine cG ?_
 refine cN ?_
 refine cX ?_ ?_ (by intro wz hSw; obtain ⟨q0, q1, q2, q3, q4, q5, q6, q7⟩ := c8 (B0.y hSw.1); go_simp; all_goals with_reducible rfl) ?_
 refine cW ?_ ?_ ?_
 refine cW ?_ ?_ ?_
 refine cW ?_ ?_ ?_
 refine cX ?_ ?_ (by intro wz hSw; obtain ⟨q0, q1, q2, q3, q4, q5, q6, q7, q8, q9, q10, q11, q12, q13, q14, q15, q16, q17⟩ := c18 (BD.y hSw.1); go_simp; all_goals with_reducible rfl) ?_
 refine cC ?_ ?_ ?_ ?_ ?hc1_5 ?_
 case hc1_5 => (intro w hSw; exact pless_b n d s.fn s.fd c Hr.out Ho.out.f Hc.out w)
 refine cW ?_ ?_ ?_
 refine calm_end ?_
 intro w1 hS
 have hS := sO hS
 have B0 := B0.y hS
 have BD := BD.y hS
 have hz1 : W0.heap.size ≤ w1.heap.size := hS.size
 have HB := gS HB hS
 clear hS
 obtain ⟨r0, r1, r2, r3, r4, r5, r6, r7⟩ := c8 (B0)
 obtain ⟨p0, p1, p2, p3, p4, p5, p6, p7, p8, p9, p10, p11, p12, p13, p14, p15, p16, p17⟩ := c18 (BD)
 have f0 : ∀ j, w1.frozen? ⟨D, j, none⟩ = false := fun j => BD.frozen j
 go_wp2_with fail
 exact bodyPost_end (results_none rfl _ _ _) rfl ⟨rfl, (((((((((BD).set 0 (u64 (lb (tc n) 0))).set 1 (u64 (lb (tc n) 1))).set 2 (u64 (lb (tc n) 2))).set 3 (u64 (lb (tc n) 3))).set 4 (u64 (lb (tc d) 0))).set 5 (u64 (lb (tc d) 1))).set 6 (u64 (lb (tc d) 2))).set 7 (u64 (lb (tc d) 3))).set 16 (.bool o), ((((((((((Upd.of_below HB)).set 0 (u64 (lb (tc n) 0))).set 1 (u64 (lb (tc n) 1))).set 2 (u64 (lb (tc n) 2))).set 3 (u64 (lb (tc n) 3))).set 4 (u64 (lb (tc d) 0))).set 5 (u64 (lb (tc d) 1))).set 6 (u64 (lb (tc d) 2))).set 7 (u64 (lb (tc d) 3))).set 16 (.bool o)⟩
set_option maxHeartbeats 1000000 in
theorem from_same1 (D : Nat) (s : Stz) (n d : Int) (o : Bool) (w : World) (hD : Blk w D (stL s) 64) (hr : Ok n d) (ho : s.Ok) (hc : cmpR n d s.fn s.fd = 0) (hop : s.op = true) :
  Calls Tryz.prog 72 #[.pointer (some ⟨D, 0, none⟩), rt n d, .bool o] w fun e w' => e = .returned (.tuple #[]) ∧ Blk w' D (stL { s with op := true }) 64 ∧ Upd D w w' := by
 obtain ⟨W0, hW0⟩ : ∃ W0, [.cells #[u64 (lb (tc n) 0), u64 (lb (tc n) 1), u64 (lb (tc n) 2), u64 (lb (tc n) 3), u64 (lb (tc d) 0), u64 (lb (tc d) 1), u64 (lb (tc d) 2), u64 (lb (tc d) 3)] 62].foldl World.alloc w = W0 := ⟨_, rfl⟩
 have B0 : Blk W0 (w.heap.size) (rL n d) 62 := Blk.allocs _ hW0 0 rfl
 have HB := aB hW0
 have hsz : w.heap.size + 1 ≤ W0.heap.size := aZ hW0
 simp only [List.foldl_cons, List.foldl_nil] at hW0
 have hDl := hD.lt
 have BD : Blk W0 D (stL s) 64 := hD.below HB hDl
 have Hr := hH hr
 have Ho := hH ho
 have Hc := hH hc
 clear hc hr ho hD
 go_enter Tryz.func72, Tryz.ntmps72
 go_upto_region 1 with (fail)
 clear hW0
 refine cG ?_
 refine cN ?_
 refine cX ?_ ?_ (by intro wz hSw; obtain ⟨q0, q1, q2, q3, q4, q5, q6, q7⟩ := c8 (B0.y hSw.1); go_simp; all_goals with_reducible rfl) ?_
 refine cW ?_ ?_ ?_
 refine cW ?_ ?_ ?_
 refine cW ?_ ?_ ?_
 refine cX ?_ ?_ (by intro wz hSw; obtain ⟨q0, q1, q2, q3, q4, q5, q6, q7, q8, q9, q10, q11, q12, q13, q14, q15, q16, q17⟩ := c18 (BD.y hSw.1); go_simp; all_goals with_reducible rfl) ?_
 refine cC ?_ ?_ ?_ ?_ ?hc2_5 ?_
 case hc2_5 => (intro w hSw; exact pless_b n d s.fn s.fd 0 Hr.out Ho.out.f Hc.out w)
 refine cW ?_ ?_ ?_
 refine calm_end ?_
 intro w1 hS
 have hS := sO hS
 have B0 := B0.y hS
 have BD := BD.y hS
 have hz1 : W0.heap.size ≤ w1.heap.size := hS.size
 have HB := gS HB hS
 clear hS
 obtain ⟨p0, p1, p2, p3, p4, p5, p6, p7, p8, p9, p10, p11, p12, p13, p14, p15, p16, p17⟩ := c18 (BD)
 have f0 : ∀ j, w1.frozen? ⟨D, j, none⟩ = false := fun j => BD.frozen j
 rw [hop] at p16
 go_wp2_with fail
 exact bodyPost_end (results_none rfl _ _ _) rfl ⟨rfl, (BD).set 16 (.bool true), (Upd.of_below HB).set 16 (.bool true)⟩
set_option maxHeartbeats 1000000 in
theorem from_same0 (D : Nat) (s : Stz) (n d : Int) (o : Bool) (w : World) (hD : Blk w D (stL s) 64) (hr : Ok n d) (ho : s.Ok) (hc : cmpR n d s.fn s.fd = 0) (hop : s.op = false) :
  Calls Tryz.prog 72 #[.pointer (some ⟨D, 0, none⟩), rt n d, .bool o] w fun e w' => e = .returned (.tuple #[]) ∧ Blk w' D (stL { s with op := o }) 64 ∧ Upd D w w' := by
 obtain ⟨W0, hW0⟩ : ∃ W0, [.cells #[u64 (lb (tc n) 0), u64 (lb (tc n) 1), u64 (lb (tc n) 2), u64 (lb (tc n) 3), u64 (lb (tc d) 0), u64 (lb (tc d) 1), u64 (lb (tc d) 2), u64 (lb (tc d) 3)] 62].foldl World.alloc w = W0 := ⟨_, rfl⟩
 have B0 : Blk W0 (w.heap.size) (rL n d) 62 := Blk.allocs _ hW0 0 rfl
 have HB := aB hW0
 have hsz : w.heap.size + 1 ≤ W0.heap.size := aZ hW0
 simp only [List.foldl_cons, List.foldl_nil] at hW0
 have hDl := hD.lt
 have BD : Blk W0 D (stL s) 64 := hD.below HB hDl
 have Hr := hH hr
 have Ho := hH ho
 have Hc := hH hc
 clear hc hr ho hD
 go_enter Tryz.func72, Tryz.ntmps72
 go_upto_region 1 with (fail)
 clear hW0
 refine cG ?_
 refine cN ?_
 refine cX ?_ ?_ (by intro wz hSw; obtain ⟨q0, q1, q2, q3, q4, q5, q6, q7⟩ := c8 (B0.y hSw.1); go_simp; all_goals with_reducible rfl) ?_
 refine cW ?_ ?_ ?_
 refine cW ?_ ?_ ?_
 refine cW ?_ ?_ ?_
 refine cX ?_ ?_ (by intro wz hSw; obtain ⟨q0, q1, q2, q3, q4, q5, q6, q7, q8, q9, q10, q11, q12, q13, q14, q15, q16, q17⟩ := c18 (BD.y hSw.1); go_simp; all_goals with_reducible rfl) ?_
 refine cC ?_ ?_ ?_ ?_ ?hc3_5 ?_
 case hc3_5 => (intro w hSw; exact pless_b n d s.fn s.fd 0 Hr.out Ho.out.f Hc.out w)
 refine cW ?_ ?_ ?_
 refine calm_end ?_
 intro w1 hS
 have hS := sO hS
 have B0 := B0.y hS
 have BD := BD.y hS
 have hz1 : W0.heap.size ≤ w1.heap.size := hS.size
 have HB := gS HB hS
 clear hS
 obtain ⟨p0, p1, p2, p3, p4, p5, p6, p7, p8, p9, p10, p11, p12, p13, p14, p15, p16, p17⟩ := c18 (BD)
 have f0 : ∀ j, w1.frozen? ⟨D, j, none⟩ = false := fun j => BD.frozen j
 rw [hop] at p16
 go_wp2_with fail
 exact bodyPost_end (results_none rfl _ _ _) rfl ⟨rfl, (BD).set 16 (.bool o), (Upd.of_below HB).set 16 (.bool o)⟩
set_option maxHeartbeats 1000000 in
theorem from_less (D : Nat) (s : Stz) (n d : Int) (o : Bool) (w : World) (hD : Blk w D (stL s) 64) (hr : Ok n d) (ho : s.Ok) (hc : cmpR n d s.fn s.fd < 0) :
  Calls Tryz.prog 72 #[.pointer (some ⟨D, 0, none⟩), rt n d, .bool o] w fun e w' => e = .returned (.tuple #[]) ∧ Blk w' D (stL s) 64 ∧ Upd D w w' := by
 obtain ⟨W0, hW0⟩ : ∃ W0, [.cells #[u64 (lb (tc n) 0), u64 (lb (tc n) 1), u64 (lb (tc n) 2), u64 (lb (tc n) 3), u64 (lb (tc d) 0), u64 (lb (tc d) 1), u64 (lb (tc d) 2), u64 (lb (tc d) 3)] 62].foldl World.alloc w = W0 := ⟨_, rfl⟩
 have B0 : Blk W0 (w.heap.size) (rL n d) 62 := Blk.allocs _ hW0 0 rfl
 have HB := aB hW0
 have hsz : w.heap.size + 1 ≤ W0.heap.size := aZ hW0
 simp only [List.foldl_cons, List.foldl_nil] at hW0
 have hDl := hD.lt
 have BD : Blk W0 D (stL s) 64 := hD.below HB hDl
 have Hr := hH hr
 have Ho := hH ho
 obtain ⟨c, Hc⟩ : ∃ c, Hid (cmpR n d s.fn s.fd = c) := ⟨_, hH rfl⟩
 have i0 : c < 0 := by rw [← Hc.out]; exact hc
 have d0 : decide (0 < c) = false := by simp; omega
 have d1 : (c == 0) = false := by simp; omega
 clear hc hr ho hD
 go_enter Tryz.func72, Tryz.ntmps72
 go_upto_region 1 with (fail)
 clear hW0
 refine cG ?_
 refine cN ?_
 refine cX ?_ ?_ (by intro wz hSw; obtain ⟨q0, q1, q2, q3, q4, q5, q6, q7⟩ := c8 (B0.y hSw.1); go_simp; all_goals with_reducible rfl) ?_
 refine cW ?_ ?_ ?_
 refine cW ?_ ?_ ?_
 refine cW ?_ ?_ ?_
 refine cX ?_ ?_ (by intro wz hSw; obtain ⟨q0, q1, q2, q3, q4, q5, q6, q7, q8, q9, q10, q11, q12, q13, q14, q15, q16, q17⟩ := c18 (BD.y hSw.1); go_simp; all_goals with_reducible rfl) ?_
 refine cC ?_ ?_ ?_ ?_ ?hc4_5 ?_
 case hc4_5 => (intro w hSw; exact pless_b n d s.fn s.fd c Hr.out Ho.out.f Hc.out w)
 refine cW ?_ ?_ ?_
 refine calm_end ?_
 intro w1 hS
 have hS := sO hS
 have B0 := B0.y hS
 have BD := BD.y hS
 have hz1 : W0.heap.size ≤ w1.heap.size := hS.size
 have HB := gS HB hS
 clear hS
 go_wp2_with fail
 exact bodyPost_end (results_none rfl _ _ _) rfl ⟨rfl, BD, Upd.of_below HB⟩
theorem from_any (D : Nat) (s : Stz) (n d : Int) (o : Bool) (w : World) (hD : Blk w D (stL s) 64) (hr : Ok n d) (ho : s.Ok) :
  Calls Tryz.prog 72 #[.pointer (some ⟨D, 0, none⟩), rt n d, .bool o] w fun e w' => e = .returned (.tuple #[]) ∧ Blk w' D (stL (fromZ s n d o)) 64 ∧ Upd D w w' := by
 unfold fromZ
 by_cases h : 0 < cmpR n d s.fn s.fd
 ·rw [if_pos h]; exact from_more D s n d o w hD hr ho h
 ·rw [if_neg h]
  by_cases h0 : cmpR n d s.fn s.fd = 0
  ·rw [if_pos h0]
   cases hop : s.op with
   | true => exact from_same1 D s n d o w hD hr ho h0 hop
   | false => exact from_same0 D s n d o w hD hr ho h0 hop
  ·rw [if_neg h0]; exact from_less D s n d o w hD hr ho (by omega)
set_option maxHeartbeats 1000000 in
theorem to_more (D : Nat) (s : Stz) (n d : Int) (o : Bool) (w : World) (hD : Blk w D (stL s) 64) (hr : Ok n d) (ho : s.Ok) (hc : cmpR n d s.tn s.td < 0) :
  Calls Tryz.prog 74 #[.pointer (some ⟨D, 0, none⟩), rt n d, .bool o] w fun e w' => e = .returned (.tuple #[]) ∧ Blk w' D (stL { s with tn := n, td := d, ot := o }) 64 ∧ Upd D w w' := by
 obtain ⟨W0, hW0⟩ : ∃ W0, [.cells #[u64 (lb (tc n) 0), u64 (lb (tc n) 1), u64 (lb (tc n) 2), u64 (lb (tc n) 3), u64 (lb (tc d) 0), u64 (lb (tc d) 1), u64 (lb (tc d) 2), u64 (lb (tc d) 3)] 62].foldl World.alloc w = W0 := ⟨_, rfl⟩
 have B0 : Blk W0 (w.heap.size) (rL n d) 62 := Blk.allocs _ hW0 0 rfl
 have HB := aB hW0
 have hsz : w.heap.size + 1 ≤ W0.heap.size := aZ hW0
 simp only [List.foldl_cons, List.foldl_nil] at hW0
 have hDl := hD.lt
 have BD : Blk W0 D (stL s) 64 := hD.below HB hDl
 have Hr := hH hr
 have Ho := hH ho
 obtain ⟨c, Hc⟩ : ∃ c, Hid (cmpR n d s.tn s.td = c) := ⟨_, hH rfl⟩
 have i0 : c < 0 := by rw [← Hc.out]; exact hc
 have d0 : decide (c < 0) = true := by simp; omega
 clear hc hr ho hD
 go_enter Tryz.func74, Tryz.ntmps74
 go_upto_region 1 with (fail)
 clear hW0
 refine cG ?_
 refine cN ?_
 refine cX ?_ ?_ (by intro wz hSw; obtain ⟨q0, q1, q2, q3, q4, q5, q6, q7⟩ := c8 (B0.y hSw.1); go_simp; all_goals with_reducible rfl) ?_
 refine cW ?_ ?_ ?_
 refine cW ?_ ?_ ?_
 refine cW ?_ ?_ ?_
 refine cX ?_ ?_ (by intro wz hSw; obtain ⟨q0, q1, q2, q3, q4, q5, q6, q7, q8, q9, q10, q11, q12, q13, q14, q15, q16, q17⟩ := c18 (BD.y hSw.1); go_simp; all_goals with_reducible rfl) ?_
 refine cC ?_ ?_ ?_ ?_ ?hc5_5 ?_
 case hc5_5 => (intro w hSw; exact pless_b n d s.tn s.td c Hr.out Ho.out.t Hc.out w)
 refine cW ?_ ?_ ?_
 refine calm_end ?_
 intro w1 hS
 have hS := sO hS
 have B0 := B0.y hS
 have BD := BD.y hS
 have hz1 : W0.heap.size ≤ w1.heap.size := hS.size
 have HB := gS HB hS
 clear hS
 obtain ⟨r0, r1, r2, r3, r4, r5, r6, r7⟩ := c8 (B0)
 obtain ⟨p0, p1, p2, p3, p4, p5, p6, p7, p8, p9, p10, p11, p12, p13, p14, p15, p16, p17⟩ := c18 (BD)
 have f0 : ∀ j, w1.frozen? ⟨D, j, none⟩ = false := fun j => BD.frozen j
 go_wp2_with fail
 exact bodyPost_end (results_none rfl _ _ _) rfl ⟨rfl, (((((((((BD).set 8 (u64 (lb (tc n) 0))).set 9 (u64 (lb (tc n) 1))).set 10 (u64 (lb (tc n) 2))).set 11 (u64 (lb (tc n) 3))).set 12 (u64 (lb (tc d) 0))).set 13 (u64 (lb (tc d) 1))).set 14 (u64 (lb (tc d) 2))).set 15 (u64 (lb (tc d) 3))).set 17 (.bool o), ((((((((((Upd.of_below HB)).set 8 (u64 (lb (tc n) 0))).set 9 (u64 (lb (tc n) 1))).set 10 (u64 (lb (tc n) 2))).set 11 (u64 (lb (tc n) 3))).set 12 (u64 (lb (tc d) 0))).set 13 (u64 (lb (tc d) 1))).set 14 (u64 (lb (tc d) 2))).set 15 (u64 (lb (tc d) 3))).set 17 (.bool o)⟩
set_option maxHeartbeats 1000000 in
theorem to_same1 (D : Nat) (s : Stz) (n d : Int) (o : Bool) (w : World) (hD : Blk w D (stL s) 64) (hr : Ok n d) (ho : s.Ok) (hc : cmpR n d s.tn s.td = 0) (hop : s.ot = true) :
  Calls Tryz.prog 74 #[.pointer (some ⟨D, 0, none⟩), rt n d, .bool o] w fun e w' => e = .returned (.tuple #[]) ∧ Blk w' D (stL { s with ot := true }) 64 ∧ Upd D w w' := by
 obtain ⟨W0, hW0⟩ : ∃ W0, [.cells #[u64 (lb (tc n) 0), u64 (lb (tc n) 1), u64 (lb (tc n) 2), u64 (lb (tc n) 3), u64 (lb (tc d) 0), u64 (lb (tc d) 1), u64 (lb (tc d) 2), u64 (lb (tc d) 3)] 62].foldl World.alloc w = W0 := ⟨_, rfl⟩
 have B0 : Blk W0 (w.heap.size) (rL n d) 62 := Blk.allocs _ hW0 0 rfl
 have HB := aB hW0
 have hsz : w.heap.size + 1 ≤ W0.heap.size := aZ hW0
 simp only [List.foldl_cons, List.foldl_nil] at hW0
 have hDl := hD.lt
 have BD : Blk W0 D (stL s) 64 := hD.below HB hDl
 have Hr := hH hr
 have Ho := hH ho
 have Hc := hH hc
 clear hc hr ho hD
 go_enter Tryz.func74, Tryz.ntmps74
 go_upto_region 1 with (fail)
 clear hW0
 refine cG ?_
 refine cN ?_
 refine cX ?_ ?_ (by intro wz hSw; obtain ⟨q0, q1, q2, q3, q4, q5, q6, q7⟩ := c8 (B0.y hSw.1); go_simp; all_goals with_reducible rfl) ?_
 refine cW ?_ ?_ ?_
 refine cW ?_ ?_ ?_
 refine cW ?_ ?_ ?_
 refine cX ?_ ?_ (by intro wz hSw; obtain ⟨q0, q1, q2, q3, q4, q5, q6, q7, q8, q9, q10, q11, q12, q13, q14, q15, q16, q17⟩ := c18 (BD.y hSw.1); go_simp; all_goals with_reducible rfl) ?_
 refine cC ?_ ?_ ?_ ?_ ?hc6_5 ?_
 case hc6_5 => (intro w hSw; exact pless_b n d s.tn s.td 0 Hr.out Ho.out.t Hc.out w)
 refine cW ?_ ?_ ?_
 refine calm_end ?_
 intro w1 hS
 have hS := sO hS
 have B0 := B0.y hS
 have BD := BD.y hS
 have hz1 : W0.heap.size ≤ w1.heap.size := hS.size
 have HB := gS HB hS
 clear hS
 obtain ⟨p0, p1, p2, p3, p4, p5, p6, p7, p8, p9, p10, p11, p12, p13, p14, p15, p16, p17⟩ := c18 (BD)
 have f0 : ∀ j, w1.frozen? ⟨D, j, none⟩ = false := fun j => BD.frozen j
 rw [hop] at p17
 go_wp2_with fail
 exact bodyPost_end (results_none rfl _ _ _) rfl ⟨rfl, (BD).set 17 (.bool true), (Upd.of_below HB).set 17 (.bool true)⟩
set_option maxHeartbeats 1000000 in
theorem to_same0 (D : Nat) (s : Stz) (n d : Int) (o : Bool) (w : World) (hD : Blk w D (stL s) 64) (hr : Ok n d) (ho : s.Ok) (hc : cmpR n d s.tn s.td = 0) (hop : s.ot = false) :
  Calls Tryz.prog 74 #[.pointer (some ⟨D, 0, none⟩), rt n d, .bool o] w fun e w' => e = .returned (.tuple #[]) ∧ Blk w' D (stL { s with ot := o }) 64 ∧ Upd D w w' := by
 obtain ⟨W0, hW0⟩ : ∃ W0, [.cells #[u64 (lb (tc n) 0), u64 (lb (tc n) 1), u64 (lb (tc n) 2), u64 (lb (tc n) 3), u64 (lb (tc d) 0), u64 (lb (tc d) 1), u64 (lb (tc d) 2), u64 (lb (tc d) 3)] 62].foldl World.alloc w = W0 := ⟨_, rfl⟩
 have B0 : Blk W0 (w.heap.size) (rL n d) 62 := Blk.allocs _ hW0 0 rfl
 have HB := aB hW0
 have hsz : w.heap.size + 1 ≤ W0.heap.size := aZ hW0
 simp only [List.foldl_cons, List.foldl_nil] at hW0
 have hDl := hD.lt
 have BD : Blk W0 D (stL s) 64 := hD.below HB hDl
 have Hr := hH hr
 have Ho := hH ho
 have Hc := hH hc
 clear hc hr ho hD
 go_enter Tryz.func74, Tryz.ntmps74
 go_upto_region 1 with (fail)
 clear hW0
 refine cG ?_
 refine cN ?_
 refine cX ?_ ?_ (by intro wz hSw; obtain ⟨q0, q1, q2, q3, q4, q5, q6, q7⟩ := c8 (B0.y hSw.1); go_simp; all_goals with_reducible rfl) ?_
 refine cW ?_ ?_ ?_
 refine cW ?_ ?_ ?_
 refine cW ?_ ?_ ?_
 refine cX ?_ ?_ (by intro wz hSw; obtain ⟨q0, q1, q2, q3, q4, q5, q6, q7, q8, q9, q10, q11, q12, q13, q14, q15, q16, q17⟩ := c18 (BD.y hSw.1); go_simp; all_goals with_reducible rfl) ?_
 refine cC ?_ ?_ ?_ ?_ ?hc7_5 ?_
 case hc7_5 => (intro w hSw; exact pless_b n d s.tn s.td 0 Hr.out Ho.out.t Hc.out w)
 refine cW ?_ ?_ ?_
 refine calm_end ?_
 intro w1 hS
 have hS := sO hS
 have B0 := B0.y hS
 have BD := BD.y hS
 have hz1 : W0.heap.size ≤ w1.heap.size := hS.size
 have HB := gS HB hS
 clear hS
 obtain ⟨p0, p1, p2, p3, p4, p5, p6, p7, p8, p9, p10, p11, p12, p13, p14, p15, p16, p17⟩ := c18 (BD)
 have f0 : ∀ j, w1.frozen? ⟨D, j, none⟩ = false := fun j => BD.frozen j
 rw [hop] at p17
 go_wp2_with fail
 exact bodyPost_end (results_none rfl _ _ _) rfl ⟨rfl, (BD).set 17 (.bool o), (Upd.of_below HB).set 17 (.bool o)⟩
set_option maxHeartbeats 1000000 in
theorem to_less (D : Nat) (s : Stz) (n d : Int) (o : Bool) (w : World) (hD : Blk w D (stL s) 64) (hr : Ok n d) (ho : s.Ok) (hc : 0 < cmpR n d s.tn s.td) :
  Calls Tryz.prog 74 #[.pointer (some ⟨D, 0, none⟩), rt n d, .bool o] w fun e w' => e = .returned (.tuple #[]) ∧ Blk w' D (stL s) 64 ∧ Upd D w w' := by
 obtain ⟨W0, hW0⟩ : ∃ W0, [.cells #[u64 (lb (tc n) 0), u64 (lb (tc n) 1), u64 (lb (tc n) 2), u64 (lb (tc n) 3), u64 (lb (tc d) 0), u64 (lb (tc d) 1), u64 (lb (tc d) 2), u64 (lb (tc d) 3)] 62].foldl World.alloc w = W0 := ⟨_, rfl⟩
 have B0 : Blk W0 (w.heap.size) (rL n d) 62 := Blk.allocs _ hW0 0 rfl
 have HB := aB hW0
 have hsz : w.heap.size + 1 ≤ W0.heap.size := aZ hW0
 simp only [List.foldl_cons, List.foldl_nil] at hW0
 have hDl := hD.lt
 have BD : Blk W0 D (stL s) 64 := hD.below HB hDl
 have Hr := hH hr
 have Ho := hH ho
 obtain ⟨c, Hc⟩ : ∃ c, Hid (cmpR n d s.tn s.td = c) := ⟨_, hH rfl⟩
 have i0 : 0 < c := by rw [← Hc.out]; exact hc
 have d0 : decide (c < 0) = false := by simp; omega
 have d1 : (c == 0) = false := by simp; omega
 clear hc hr ho hD
 go_enter Tryz.func74, Tryz.ntmps74
 go_upto_region 1 with (fail)
 clear hW0
 refine cG ?_
 refine cN ?_
 refine cX ?_ ?_ (by intro wz hSw; obtain ⟨q0, q1, q2, q3, q4, q5, q6, q7⟩ := c8 (B0.y hSw.1); go_simp; all_goals with_reducible rfl) ?_
 refine cW ?_ ?_ ?_
 refine cW ?_ ?_ ?_
 refine cW ?_ ?_ ?_
 refine cX ?_ ?_ (by intro wz hSw; obtain ⟨q0, q1, q2, q3, q4, q5, q6, q7, q8, q9, q10, q11, q12, q13, q14, q15, q16, q17⟩ := c18 (BD.y hSw.1); go_simp; all_goals with_reducible rfl) ?_
 refine cC ?_ ?_ ?_ ?_ ?hc8_5 ?_
 case hc8_5 => (intro w hSw; exact pless_b n d s.tn s.td c Hr.out Ho.out.t Hc.out w)
 refine cW ?_ ?_ ?_
 refine calm_end ?_
 intro w1 hS
 have hS := sO hS
 have B0 := B0.y hS
 have BD := BD.y hS
 have hz1 : W0.heap.size ≤ w1.heap.size := hS.size
 have HB := gS HB hS
 clear hS
 go_wp2_with fail
 exact bodyPost_end (results_none rfl _ _ _) rfl ⟨rfl, BD, Upd.of_below HB⟩
theorem to_any (D : Nat) (s : Stz) (n d : Int) (o : Bool) (w : World) (hD : Blk w D (stL s) 64) (hr : Ok n d) (ho : s.Ok) :
  Calls Tryz.prog 74 #[.pointer (some ⟨D, 0, none⟩), rt n d, .bool o] w fun e w' => e = .returned (.tuple #[]) ∧ Blk w' D (stL (toZ s n d o)) 64 ∧ Upd D w w' := by
 unfold toZ
 by_cases h : cmpR n d s.tn s.td < 0
 ·rw [if_pos h]; exact to_more D s n d o w hD hr ho h
 ·rw [if_neg h]
  by_cases h0 : cmpR n d s.tn s.td = 0
  ·rw [if_pos h0]
   cases hop : s.ot with
   | true => exact to_same1 D s n d o w hD hr ho h0 hop
   | false => exact to_same0 D s n d o w hD hr ho h0 hop
  ·rw [if_neg h0]; exact to_less D s n d o w hD hr ho (by omega)
end Go.Proofs.YthbplhglfjlngaaGreat
namespace Go.Wd
open Go
def bandZ (s : Stz) (a way low high : Int) : Stz × Bool :=
 if 0 < way then (toZ (fromZ s (low - 2 * a) (2 * way) false) (high - 2 * a) (2 * way) true, true)
 else if way < 0 then (toZ (fromZ s (2 * a - high) (-(2 * way)) true) (2 * a - low) (-(2 * way)) false, true)
 else (s, decide (low ≤ 2 * a) && decide (2 * a < high))
structure BandOk (a way low high : Int) : Prop where
 a1 : -2199023255552 ≤ a
 a2 : a ≤ 2199023255552
 w1 : -4398046511104 ≤ way
 w2 : way ≤ 4398046511104
 l1 : -4611686018429485056 ≤ low
 l2 : low ≤ 4611686018429485056
 h1 : -4611686018429485056 ≤ high
 h2 : high ≤ 4611686018429485056
theorem bandZ_ok {s : Stz} {a way low high : Int} (h : s.Ok) (b : BandOk a way low high) : (bandZ s a way low high).1.Ok := by
 have := b.a1; have := b.a2; have := b.w1; have := b.w2; have := b.l1; have := b.l2; have := b.h1; have := b.h2
 unfold bandZ
 split
 ·exact toZ_ok (fromZ_ok h ⟨by omega, by omega, by omega, by omega⟩) ⟨by omega, by omega, by omega, by omega⟩
 ·split
  ·exact toZ_ok (fromZ_ok h ⟨by omega, by omega, by omega, by omega⟩) ⟨by omega, by omega, by omega, by omega⟩
  ·exact h
def someZ (s : Stz) : Bool := decide (cmpR s.fn s.fd s.tn s.td < 0) || (decide (cmpR s.fn s.fd s.tn s.td = 0) && (!s.op && !s.ot))
def aheadZ (s t : Stz) : Int := if cmpR s.fn s.fd t.fn t.fd ≠ 0 then cmpR s.fn s.fd t.fn t.fd else if s.op = t.op then 0 else if t.op then -1 else 1
end Go.Wd
namespace Go.Proofs.YthbplhglfjlngaaGreat
open Go.RowKit Go.Rg Go.Wd
attribute [local go_sem] Oper.semAt_some
set_option maxHeartbeats 1000000 in
theorem band_pos (D : Nat) (s : Stz) (a way low high : Int) (w : World) (hD : Blk w D (stL s) 64) (hs : s.Ok) (hb : BandOk a way low high) (hw : 0 < way) :
  Calls Tryz.prog 48 #[.pointer (some ⟨D, 0, none⟩), .int .i64 a, .int .i64 way, .int .i64 low, .int .i64 high] w fun e w' => e = .returned (.bool true) ∧ Blk w' D (stL (toZ (fromZ s (low - 2 * a) (2 * way) false) (high - 2 * a) (2 * way) true)) 64 ∧ Upd D w w' := by
 have ha1 := hb.a1; have ha2 := hb.a2; have hw1 := hb.w1; have hw2 := hb.w2; have hl1 := hb.l1; have hl2 := hb.l2; have hh1 := hb.h1; have hh2 := hb.h2
 have HS := hH hs
 have HD := hH hD
 have dd : decide (0 < 2 * way) = true := by simp; omega
 have O1 : Hid (Ok (low - 2 * a) (2 * way)) := hH ⟨by omega, by omega, by omega, by omega⟩
 have O2 : Hid (Ok (high - 2 * a) (2 * way)) := hH ⟨by omega, by omega, by omega, by omega⟩
 clear hD hs hb
 go_enter Tryz.func48, Tryz.ntmps48
 go_wp2_with fail
 go_at_call 73
 refine (bound_any (low - 2 * a) (2 * way) O1.out.n1 O1.out.n2 (by omega) O1.out.d2 _).mono ?_
 rintro e w1 ⟨rfl, hb1⟩
 go_wp2_with fail
 go_at_call 72
 refine (from_any D s (low - 2 * a) (2 * way) false _ (HD.out.call hb1) O1.out HS.out).mono ?_
 rintro e w2 ⟨rfl, hD2, hu2⟩
 have HD2 := hH hD2
 have HU2 := hH ((Upd.of_below hb1).trans hu2)
 clear hD2 hu2 hb1
 go_wp2_with fail
 go_at_call 73
 refine (bound_any (high - 2 * a) (2 * way) O2.out.n1 O2.out.n2 (by omega) O2.out.d2 _).mono ?_
 rintro e w3 ⟨rfl, hb3⟩
 go_wp2_with fail
 go_at_call 74
 refine (to_any D _ (high - 2 * a) (2 * way) true _ (HD2.out.call hb3) O2.out (fromZ_ok HS.out O1.out)).mono ?_
 rintro e w4 ⟨rfl, hD4, hu4⟩
 have HU4 := hH ((HU2.out.call hb3).trans hu4)
 have HD4 := hH hD4
 clear hD4 hu4 hb3
 go_wp2_with fail
 go_ret
 exact ⟨rfl, HD4.out, HU4.out⟩
set_option maxHeartbeats 1000000 in
theorem band_neg (D : Nat) (s : Stz) (a way low high : Int) (w : World) (hD : Blk w D (stL s) 64) (hs : s.Ok) (hb : BandOk a way low high) (hw : way < 0) :
  Calls Tryz.prog 48 #[.pointer (some ⟨D, 0, none⟩), .int .i64 a, .int .i64 way, .int .i64 low, .int .i64 high] w fun e w' => e = .returned (.bool true) ∧ Blk w' D (stL (toZ (fromZ s (2 * a - high) (-(2 * way)) true) (2 * a - low) (-(2 * way)) false)) 64 ∧ Upd D w w' := by
 have ha1 := hb.a1; have ha2 := hb.a2; have hw1 := hb.w1; have hw2 := hb.w2; have hl1 := hb.l1; have hl2 := hb.l2; have hh1 := hb.h1; have hh2 := hb.h2
 have HS := hH hs
 have HD := hH hD
 have dd : decide (0 < 2 * way) = false := by simp; omega
 have dd2 : decide (2 * way < 0) = true := by simp; omega
 have O1 : Hid (Ok (2 * a - high) (-(2 * way))) := hH ⟨by omega, by omega, by omega, by omega⟩
 have O2 : Hid (Ok (2 * a - low) (-(2 * way))) := hH ⟨by omega, by omega, by omega, by omega⟩
 clear hD hs hb
 go_enter Tryz.func48, Tryz.ntmps48
 go_wp2_with fail
 go_at_call 73
 refine (bound_any (2 * a - high) (-(2 * way)) O1.out.n1 O1.out.n2 (by omega) O1.out.d2 _).mono ?_
 rintro e w1 ⟨rfl, hb1⟩
 go_wp2_with fail
 go_at_call 72
 refine (from_any D s (2 * a - high) (-(2 * way)) true _ (HD.out.call hb1) O1.out HS.out).mono ?_
 rintro e w2 ⟨rfl, hD2, hu2⟩
 have HD2 := hH hD2
 have HU2 := hH ((Upd.of_below hb1).trans hu2)
 clear hD2 hu2 hb1
 go_wp2_with fail
 go_at_call 73
 refine (bound_any (2 * a - low) (-(2 * way)) O2.out.n1 O2.out.n2 (by omega) O2.out.d2 _).mono ?_
 rintro e w3 ⟨rfl, hb3⟩
 go_wp2_with fail
 go_at_call 74
 refine (to_any D _ (2 * a - low) (-(2 * way)) false _ (HD2.out.call hb3) O2.out (fromZ_ok HS.out O1.out)).mono ?_
 rintro e w4 ⟨rfl, hD4, hu4⟩
 have HU4 := hH ((HU2.out.call hb3).trans hu4)
 have HD4 := hH hD4
 clear hD4 hu4 hb3
 go_wp2_with fail
 go_ret
 exact ⟨rfl, HD4.out, HU4.out⟩
set_option maxHeartbeats 1000000 in
theorem band_ztt (D : Nat) (s : Stz) (a way low high : Int) (w : World) (hD : Blk w D (stL s) 64) (hs : s.Ok) (hb : BandOk a way low high) (hw : way = 0) (g1 : low ≤ 2 * a) (g2 : 2 * a < high) :
  Calls Tryz.prog 48 #[.pointer (some ⟨D, 0, none⟩), .int .i64 a, .int .i64 way, .int .i64 low, .int .i64 high] w fun e w' => e = .returned (.bool true) ∧ Blk w' D (stL s) 64 ∧ Upd D w w' := by
 subst hw
 have ha1 := hb.a1; have ha2 := hb.a2; have hw1 := hb.w1; have hw2 := hb.w2; have hl1 := hb.l1; have hl2 := hb.l2; have hh1 := hb.h1; have hh2 := hb.h2
 have HD := hH hD
 have e1 : decide (low ≤ 2 * a) = true := by simpa using g1
 have e2 : decide (2 * a < high) = true := by simpa using g2
 clear hD hs hb
 go_enter Tryz.func48, Tryz.ntmps48
 go_wp2_with fail
 go_ret
 exact ⟨rfl, HD.out, Upd.refl _ _⟩
set_option maxHeartbeats 1000000 in
theorem band_ztf (D : Nat) (s : Stz) (a way low high : Int) (w : World) (hD : Blk w D (stL s) 64) (hs : s.Ok) (hb : BandOk a way low high) (hw : way = 0) (g1 : low ≤ 2 * a) (g2 : ¬ 2 * a < high) :
  Calls Tryz.prog 48 #[.pointer (some ⟨D, 0, none⟩), .int .i64 a, .int .i64 way, .int .i64 low, .int .i64 high] w fun e w' => e = .returned (.bool false) ∧ Blk w' D (stL s) 64 ∧ Upd D w w' := by
 subst hw
 have ha1 := hb.a1; have ha2 := hb.a2; have hw1 := hb.w1; have hw2 := hb.w2; have hl1 := hb.l1; have hl2 := hb.l2; have hh1 := hb.h1; have hh2 := hb.h2
 have HD := hH hD
 have e1 : decide (low ≤ 2 * a) = true := by simpa using g1
 have e2 : decide (2 * a < high) = false := by simpa using g2
 clear hD hs hb
 go_enter Tryz.func48, Tryz.ntmps48
 go_wp2_with fail
 go_ret
 exact ⟨rfl, HD.out, Upd.refl _ _⟩
set_option maxHeartbeats 1000000 in
theorem band_zf (D : Nat) (s : Stz) (a way low high : Int) (w : World) (hD : Blk w D (stL s) 64) (hs : s.Ok) (hb : BandOk a way low high) (hw : way = 0) (g1 : ¬ low ≤ 2 * a) :
  Calls Tryz.prog 48 #[.pointer (some ⟨D, 0, none⟩), .int .i64 a, .int .i64 way, .int .i64 low, .int .i64 high] w fun e w' => e = .returned (.bool false) ∧ Blk w' D (stL s) 64 ∧ Upd D w w' := by
 subst hw
 have ha1 := hb.a1; have ha2 := hb.a2; have hw1 := hb.w1; have hw2 := hb.w2; have hl1 := hb.l1; have hl2 := hb.l2; have hh1 := hb.h1; have hh2 := hb.h2
 have HD := hH hD
 have e1 : decide (low ≤ 2 * a) = false := by simpa using g1
 clear hD hs hb
 go_enter Tryz.func48, Tryz.ntmps48
 go_wp2_with fail
 go_ret
 exact ⟨rfl, HD.out, Upd.refl _ _⟩
theorem band_any (D : Nat) (s : Stz) (a way low high : Int) (w : World) (hD : Blk w D (stL s) 64) (hs : s.Ok) (hb : BandOk a way low high) :
  Calls Tryz.prog 48 #[.pointer (some ⟨D, 0, none⟩), .int .i64 a, .int .i64 way, .int .i64 low, .int .i64 high] w fun e w' => e = .returned (.bool (bandZ s a way low high).2) ∧ Blk w' D (stL (bandZ s a way low high).1) 64 ∧ Upd D w w' := by
 unfold bandZ
 by_cases h : 0 < way
 ·rw [if_pos h]; exact band_pos D s a way low high w hD hs hb h
 ·rw [if_neg h]
  by_cases h2 : way < 0
  ·rw [if_pos h2]; exact band_neg D s a way low high w hD hs hb h2
  ·rw [if_neg h2]
   have h0 : way = 0 := by omega
   by_cases g1 : low ≤ 2 * a
   ·by_cases g2 : 2 * a < high
    ·rw [show (decide (low ≤ 2 * a) && decide (2 * a < high)) = true by simp [g1, g2]]; exact band_ztt D s a way low high w hD hs hb h0 g1 g2
    ·rw [show (decide (low ≤ 2 * a) && decide (2 * a < high)) = false by simp [g2]]; exact band_ztf D s a way low high w hD hs hb h0 g1 g2
   ·rw [show (decide (low ≤ 2 * a) && decide (2 * a < high)) = false by simp [g1]]; exact band_zf D s a way low high w hD hs hb h0 g1
theorem some_lt (D : Nat) (s : Stz) (w : World) (hD : Blk w D (stL s) 64) (hs : s.Ok) (hc : cmpR s.fn s.fd s.tn s.td < 0) :
  Calls Tryz.prog 49 #[.pointer (some ⟨D, 0, none⟩)] w fun e w' => e = .returned (.bool true) ∧ Below w.heap.size w w' := by
 have BD := hD
 have HB : Below w.heap.size w w := Below.refl _ _
 have HS := hH hs
 obtain ⟨c, Hc⟩ : ∃ c, Hid (cmpR s.fn s.fd s.tn s.td = c) := ⟨_, hH rfl⟩
 have i0 : c < 0 := by rw [← Hc.out]; exact hc
 have d0 : decide (c < 0) = true := by simpa using i0
 clear hc
 clear hD hs
 go_enter Tryz.func49, Tryz.ntmps49
 go_upto_region 1 with (fail)
 refine cG ?_
 refine cN ?_
 refine cW ?_ ?_ ?_
 refine cW ?_ ?_ ?_
 refine cW ?_ ?_ ?_
 refine cX ?_ ?_ (by intro wz hSw; obtain ⟨q0, q1, q2, q3, q4, q5, q6, q7, q8, q9, q10, q11, q12, q13, q14, q15, q16, q17⟩ := c18 (BD.y hSw.1); go_simp; all_goals with_reducible rfl) ?_
 refine cW ?_ ?_ ?_
 refine cW ?_ ?_ ?_
 refine cW ?_ ?_ ?_
 refine cX ?_ ?_ (by intro wz hSw; obtain ⟨q0, q1, q2, q3, q4, q5, q6, q7, q8, q9, q10, q11, q12, q13, q14, q15, q16, q17⟩ := c18 (BD.y hSw.1); go_simp; all_goals with_reducible rfl) ?_
 refine cC ?_ ?_ ?_ ?_ ?hc1_8 ?_
 case hc1_8 => (intro w hSw; exact pless_b s.fn s.fd s.tn s.td c HS.out.f HS.out.t Hc.out w)
 refine cW ?_ ?_ ?_
 refine calm_end ?_
 intro w1 hS
 have hS := sO hS
 have BD := BD.y hS
 have hz1 : w.heap.size ≤ w1.heap.size := hS.size
 have HB := gS HB hS
 clear hS
 obtain ⟨p0, p1, p2, p3, p4, p5, p6, p7, p8, p9, p10, p11, p12, p13, p14, p15, p16, p17⟩ := c18 (BD)
 go_wp2_with fail
 go_ret
 exact ⟨rfl, HB⟩
theorem some_gt (D : Nat) (s : Stz) (w : World) (hD : Blk w D (stL s) 64) (hs : s.Ok) (hc : 0 < cmpR s.fn s.fd s.tn s.td) :
  Calls Tryz.prog 49 #[.pointer (some ⟨D, 0, none⟩)] w fun e w' => e = .returned (.bool false) ∧ Below w.heap.size w w' := by
 have BD := hD
 have HB : Below w.heap.size w w := Below.refl _ _
 have HS := hH hs
 obtain ⟨c, Hc⟩ : ∃ c, Hid (cmpR s.fn s.fd s.tn s.td = c) := ⟨_, hH rfl⟩
 have i0 : 0 < c := by rw [← Hc.out]; exact hc
 have d0 : decide (c < 0) = false := by simp; omega
 have d1 : (c == 0) = false := by simp; omega
 clear hc
 clear hD hs
 go_enter Tryz.func49, Tryz.ntmps49
 go_upto_region 1 with (fail)
 refine cG ?_
 refine cN ?_
 refine cW ?_ ?_ ?_
 refine cW ?_ ?_ ?_
 refine cW ?_ ?_ ?_
 refine cX ?_ ?_ (by intro wz hSw; obtain ⟨q0, q1, q2, q3, q4, q5, q6, q7, q8, q9, q10, q11, q12, q13, q14, q15, q16, q17⟩ := c18 (BD.y hSw.1); go_simp; all_goals with_reducible rfl) ?_
 refine cW ?_ ?_ ?_
 refine cW ?_ ?_ ?_
 refine cW ?_ ?_ ?_
 refine cX ?_ ?_ (by intro wz hSw; obtain ⟨q0, q1, q2, q3, q4, q5, q6, q7, q8, q9, q10, q11, q12, q13, q14, q15, q16, q17⟩ := c18 (BD.y hSw.1); go_simp; all_goals with_reducible rfl) ?_
 refine cC ?_ ?_ ?_ ?_ ?hc2_8 ?_
 case hc2_8 => (intro w hSw; exact pless_b s.fn s.fd s.tn s.td c HS.out.f HS.out.t Hc.out w)
 refine cW ?_ ?_ ?_
 refine calm_end ?_
 intro w1 hS
 have hS := sO hS
 have BD := BD.y hS
 have hz1 : w.heap.size ≤ w1.heap.size := hS.size
 have HB := gS HB hS
 clear hS
 obtain ⟨p0, p1, p2, p3, p4, p5, p6, p7, p8, p9, p10, p11, p12, p13, p14, p15, p16, p17⟩ := c18 (BD)
 go_wp2_with fail
 go_ret
 exact ⟨rfl, HB⟩
theorem some_eq1 (D : Nat) (s : Stz) (w : World) (hD : Blk w D (stL s) 64) (hs : s.Ok) (hc : cmpR s.fn s.fd s.tn s.td = 0) (hop : s.op = true) :
  Calls Tryz.prog 49 #[.pointer (some ⟨D, 0, none⟩)] w fun e w' => e = .returned (.bool false) ∧ Below w.heap.size w w' := by
 have BD := hD
 have HB : Below w.heap.size w w := Below.refl _ _
 have HS := hH hs
 have Hc := hH hc
 clear hc
 clear hD hs
 go_enter Tryz.func49, Tryz.ntmps49
 go_upto_region 1 with (fail)
 refine cG ?_
 refine cN ?_
 refine cW ?_ ?_ ?_
 refine cW ?_ ?_ ?_
 refine cW ?_ ?_ ?_
 refine cX ?_ ?_ (by intro wz hSw; obtain ⟨q0, q1, q2, q3, q4, q5, q6, q7, q8, q9, q10, q11, q12, q13, q14, q15, q16, q17⟩ := c18 (BD.y hSw.1); go_simp; all_goals with_reducible rfl) ?_
 refine cW ?_ ?_ ?_
 refine cW ?_ ?_ ?_
 refine cW ?_ ?_ ?_
 refine cX ?_ ?_ (by intro wz hSw; obtain ⟨q0, q1, q2, q3, q4, q5, q6, q7, q8, q9, q10, q11, q12, q13, q14, q15, q16, q17⟩ := c18 (BD.y hSw.1); go_simp; all_goals with_reducible rfl) ?_
 refine cC ?_ ?_ ?_ ?_ ?hc3_8 ?_
 case hc3_8 => (intro w hSw; exact pless_b s.fn s.fd s.tn s.td 0 HS.out.f HS.out.t Hc.out w)
 refine cW ?_ ?_ ?_
 refine calm_end ?_
 intro w1 hS
 have hS := sO hS
 have BD := BD.y hS
 have hz1 : w.heap.size ≤ w1.heap.size := hS.size
 have HB := gS HB hS
 clear hS
 obtain ⟨p0, p1, p2, p3, p4, p5, p6, p7, p8, p9, p10, p11, p12, p13, p14, p15, p16, p17⟩ := c18 (BD)
 rw [hop] at p16
 go_wp2_with fail
 go_ret
 exact ⟨rfl, HB⟩
theorem some_eq01 (D : Nat) (s : Stz) (w : World) (hD : Blk w D (stL s) 64) (hs : s.Ok) (hc : cmpR s.fn s.fd s.tn s.td = 0) (hop : s.op = false) (hot : s.ot = true) :
  Calls Tryz.prog 49 #[.pointer (some ⟨D, 0, none⟩)] w fun e w' => e = .returned (.bool false) ∧ Below w.heap.size w w' := by
 have BD := hD
 have HB : Below w.heap.size w w := Below.refl _ _
 have HS := hH hs
 have Hc := hH hc
 clear hc
 clear hD hs
 go_enter Tryz.func49, Tryz.ntmps49
 go_upto_region 1 with (fail)
 refine cG ?_
 refine cN ?_
 refine cW ?_ ?_ ?_
 refine cW ?_ ?_ ?_
 refine cW ?_ ?_ ?_
 refine cX ?_ ?_ (by intro wz hSw; obtain ⟨q0, q1, q2, q3, q4, q5, q6, q7, q8, q9, q10, q11, q12, q13, q14, q15, q16, q17⟩ := c18 (BD.y hSw.1); go_simp; all_goals with_reducible rfl) ?_
 refine cW ?_ ?_ ?_
 refine cW ?_ ?_ ?_
 refine cW ?_ ?_ ?_
 refine cX ?_ ?_ (by intro wz hSw; obtain ⟨q0, q1, q2, q3, q4, q5, q6, q7, q8, q9, q10, q11, q12, q13, q14, q15, q16, q17⟩ := c18 (BD.y hSw.1); go_simp; all_goals with_reducible rfl) ?_
 refine cC ?_ ?_ ?_ ?_ ?hc4_8 ?_
 case hc4_8 => (intro w hSw; exact pless_b s.fn s.fd s.tn s.td 0 HS.out.f HS.out.t Hc.out w)
 refine cW ?_ ?_ ?_
 refine calm_end ?_
 intro w1 hS
 have hS := sO hS
 have BD := BD.y hS
 have hz1 : w.heap.size ≤ w1.heap.size := hS.size
 have HB := gS HB hS
 clear hS
 obtain ⟨p0, p1, p2, p3, p4, p5, p6, p7, p8, p9, p10, p11, p12, p13, p14, p15, p16, p17⟩ := c18 (BD)
 rw [hop] at p16
 rw [hot] at p17
 go_wp2_with fail
 go_ret
 exact ⟨rfl, HB⟩
theorem some_eq00 (D : Nat) (s : Stz) (w : World) (hD : Blk w D (stL s) 64) (hs : s.Ok) (hc : cmpR s.fn s.fd s.tn s.td = 0) (hop : s.op = false) (hot : s.ot = false) :
  Calls Tryz.prog 49 #[.pointer (some ⟨D, 0, none⟩)] w fun e w' => e = .returned (.bool true) ∧ Below w.heap.size w w' := by
 have BD := hD
 have HB : Below w.heap.size w w := Below.refl _ _
 have HS := hH hs
 have Hc := hH hc
 clear hc
 clear hD hs
 go_enter Tryz.func49, Tryz.ntmps49
 go_upto_region 1 with (fail)
 refine cG ?_
 refine cN ?_
 refine cW ?_ ?_ ?_
 refine cW ?_ ?_ ?_
 refine cW ?_ ?_ ?_
 refine cX ?_ ?_ (by intro wz hSw; obtain ⟨q0, q1, q2, q3, q4, q5, q6, q7, q8, q9, q10, q11, q12, q13, q14, q15, q16, q17⟩ := c18 (BD.y hSw.1); go_simp; all_goals with_reducible rfl) ?_
 refine cW ?_ ?_ ?_
 refine cW ?_ ?_ ?_
 refine cW ?_ ?_ ?_
 refine cX ?_ ?_ (by intro wz hSw; obtain ⟨q0, q1, q2, q3, q4, q5, q6, q7, q8, q9, q10, q11, q12, q13, q14, q15, q16, q17⟩ := c18 (BD.y hSw.1); go_simp; all_goals with_reducible rfl) ?_
 refine cC ?_ ?_ ?_ ?_ ?hc5_8 ?_
 case hc5_8 => (intro w hSw; exact pless_b s.fn s.fd s.tn s.td 0 HS.out.f HS.out.t Hc.out w)
 refine cW ?_ ?_ ?_
 refine calm_end ?_
 intro w1 hS
 have hS := sO hS
 have BD := BD.y hS
 have hz1 : w.heap.size ≤ w1.heap.size := hS.size
 have HB := gS HB hS
 clear hS
 obtain ⟨p0, p1, p2, p3, p4, p5, p6, p7, p8, p9, p10, p11, p12, p13, p14, p15, p16, p17⟩ := c18 (BD)
 rw [hop] at p16
 rw [hot] at p17
 go_wp2_with fail
 go_ret
 exact ⟨rfl, HB⟩
theorem some_any (D : Nat) (s : Stz) (w : World) (hD : Blk w D (stL s) 64) (hs : s.Ok) :
  Calls Tryz.prog 49 #[.pointer (some ⟨D, 0, none⟩)] w fun e w' => e = .returned (.bool (someZ s)) ∧ Below w.heap.size w w' := by
 by_cases h : cmpR s.fn s.fd s.tn s.td < 0
 ·rw [show someZ s = true by unfold someZ; simp [h]]; exact some_lt D s w hD hs h
 ·by_cases h0 : cmpR s.fn s.fd s.tn s.td = 0
  ·cases hop : s.op with
   | true => rw [show someZ s = false by unfold someZ; simp [h0, hop]]; exact some_eq1 D s w hD hs h0 hop
   | false =>
    cases hot : s.ot with
    | true => rw [show someZ s = false by unfold someZ; simp [h0, hop, hot]]; exact some_eq01 D s w hD hs h0 hop hot
    | false => rw [show someZ s = true by unfold someZ; simp [h0, hop, hot]]; exact some_eq00 D s w hD hs h0 hop hot
  ·rw [show someZ s = false by unfold someZ; simp [h, h0]]; exact some_gt D s w hD hs (by omega)
theorem ratCmp_b (n d n' d' r : Int) (h : Ok n d) (h' : Ok n' d') (hr : cmpR n d n' d' = r) (w : World) :
  Calls Tryz.prog 31 #[rt n d, rt n' d'] w fun e w' => e = .returned (.tuple #[.int .i64 r, .bool true]) ∧ Below w.heap.size w w' := by subst hr; exact ratCmp_any n d n' d' h h' w
theorem ahead_ne (s t : Stz) (w : World) (hs : s.Ok) (ht : t.Ok) (c : Int) (hc : cmpR s.fn s.fd t.fn t.fd = c) (h0 : c ≠ 0) :
  Calls Tryz.prog 23 #[stV s, stV t] w fun e w' => e = .returned (.int .i64 c) ∧ Below w.heap.size w w' := by
 obtain ⟨W0, hW0⟩ : ∃ W0, [.cells #[u64 (lb (tc s.fn) 0), u64 (lb (tc s.fn) 1), u64 (lb (tc s.fn) 2), u64 (lb (tc s.fn) 3), u64 (lb (tc s.fd) 0), u64 (lb (tc s.fd) 1), u64 (lb (tc s.fd) 2), u64 (lb (tc s.fd) 3), u64 (lb (tc s.tn) 0), u64 (lb (tc s.tn) 1), u64 (lb (tc s.tn) 2), u64 (lb (tc s.tn) 3), u64 (lb (tc s.td) 0), u64 (lb (tc s.td) 1), u64 (lb (tc s.td) 2), u64 (lb (tc s.td) 3), .bool s.op, .bool s.ot] 64, .cells #[u64 (lb (tc t.fn) 0), u64 (lb (tc t.fn) 1), u64 (lb (tc t.fn) 2), u64 (lb (tc t.fn) 3), u64 (lb (tc t.fd) 0), u64 (lb (tc t.fd) 1), u64 (lb (tc t.fd) 2), u64 (lb (tc t.fd) 3), u64 (lb (tc t.tn) 0), u64 (lb (tc t.tn) 1), u64 (lb (tc t.tn) 2), u64 (lb (tc t.tn) 3), u64 (lb (tc t.td) 0), u64 (lb (tc t.td) 1), u64 (lb (tc t.td) 2), u64 (lb (tc t.td) 3), .bool t.op, .bool t.ot] 64].foldl World.alloc w = W0 := ⟨_, rfl⟩
 have B0 : Blk W0 (w.heap.size) (stL s) 64 := Blk.allocs _ hW0 0 rfl
 have B1 : Blk W0 (w.heap.size + 1) (stL t) 64 := Blk.allocs _ hW0 1 rfl
 have HB := aB hW0
 have hsz : w.heap.size + 2 ≤ W0.heap.size := aZ hW0
 simp only [List.foldl_cons, List.foldl_nil] at hW0
 have HS := hH hs
 have HT := hH ht
 have Hc := hH hc
 have d1 : (c != 0) = true := by simpa using h0
 have d2 : (c == 0) = false := by simpa using h0
 clear hc h0
 clear hs ht
 go_enter Tryz.func23, Tryz.ntmps23
 go_upto_region 1 with (fail)
 clear hW0
 refine cP ?_
 refine cN ?_
 refine cW ?_ ?_ ?_
 refine cX ?_ ?_ (by intro wz hSw; obtain ⟨q0, q1, q2, q3, q4, q5, q6, q7, q8, q9, q10, q11, q12, q13, q14, q15, q16, q17⟩ := c18 (B0.y hSw.1); go_simp; all_goals with_reducible rfl) ?_
 refine cW ?_ ?_ ?_
 refine cX ?_ ?_ (by intro wz hSw; obtain ⟨q0, q1, q2, q3, q4, q5, q6, q7, q8, q9, q10, q11, q12, q13, q14, q15, q16, q17⟩ := c18 (B1.y hSw.1); go_simp; all_goals with_reducible rfl) ?_
 refine cC ?_ ?_ ?_ ?_ ?hc6_4 ?_
 case hc6_4 => (intro w hSw; exact ratCmp_b s.fn s.fd t.fn t.fd c HS.out.f HT.out.f Hc.out w)
 refine cW ?_ ?_ ?_
 refine cW ?_ ?_ ?_
 refine cW ?_ ?_ ?_
 refine cW ?_ ?_ ?_
 refine cW ?_ ?_ ?_
 refine calm_end ?_
 intro w1 hS
 have hS := sO hS
 have B0 := B0.y hS
 have B1 := B1.y hS
 have hz1 : W0.heap.size ≤ w1.heap.size := hS.size
 have HB := gS HB hS
 clear hS
 obtain ⟨p0, p1, p2, p3, p4, p5, p6, p7, p8, p9, p10, p11, p12, p13, p14, p15, p16, p17⟩ := c18 (B0)
 obtain ⟨q0, q1, q2, q3, q4, q5, q6, q7, q8, q9, q10, q11, q12, q13, q14, q15, q16, q17⟩ := c18 (B1)
 go_wp2_with fail
 go_ret
 exact ⟨rfl, HB⟩
theorem ahead_tt (s t : Stz) (w : World) (hs : s.Ok) (ht : t.Ok) (hc : cmpR s.fn s.fd t.fn t.fd = 0) (hop : s.op = true) (hoq : t.op = true) :
  Calls Tryz.prog 23 #[stV s, stV t] w fun e w' => e = .returned (.int .i64 0) ∧ Below w.heap.size w w' := by
 obtain ⟨W0, hW0⟩ : ∃ W0, [.cells #[u64 (lb (tc s.fn) 0), u64 (lb (tc s.fn) 1), u64 (lb (tc s.fn) 2), u64 (lb (tc s.fn) 3), u64 (lb (tc s.fd) 0), u64 (lb (tc s.fd) 1), u64 (lb (tc s.fd) 2), u64 (lb (tc s.fd) 3), u64 (lb (tc s.tn) 0), u64 (lb (tc s.tn) 1), u64 (lb (tc s.tn) 2), u64 (lb (tc s.tn) 3), u64 (lb (tc s.td) 0), u64 (lb (tc s.td) 1), u64 (lb (tc s.td) 2), u64 (lb (tc s.td) 3), .bool s.op, .bool s.ot] 64, .cells #[u64 (lb (tc t.fn) 0), u64 (lb (tc t.fn) 1), u64 (lb (tc t.fn) 2), u64 (lb (tc t.fn) 3), u64 (lb (tc t.fd) 0), u64 (lb (tc t.fd) 1), u64 (lb (tc t.fd) 2), u64 (lb (tc t.fd) 3), u64 (lb (tc t.tn) 0), u64 (lb (tc t.tn) 1), u64 (lb (tc t.tn) 2), u64 (lb (tc t.tn) 3), u64 (lb (tc t.td) 0), u64 (lb (tc t.td) 1), u64 (lb (tc t.td) 2), u64 (lb (tc t.td) 3), .bool t.op, .bool t.ot] 64].foldl World.alloc w = W0 := ⟨_, rfl⟩
 have B0 : Blk W0 (w.heap.size) (stL s) 64 := Blk.allocs _ hW0 0 rfl
 have B1 : Blk W0 (w.heap.size + 1) (stL t) 64 := Blk.allocs _ hW0 1 rfl
 have HB := aB hW0
 have hsz : w.heap.size + 2 ≤ W0.heap.size := aZ hW0
 simp only [List.foldl_cons, List.foldl_nil] at hW0
 have HS := hH hs
 have HT := hH ht
 have Hc := hH hc
 have Hop := hH hop
 have Hoq := hH hoq
 clear hc hop hoq
 clear hs ht
 go_enter Tryz.func23, Tryz.ntmps23
 go_upto_region 1 with (fail)
 clear hW0
 refine cP ?_
 refine cN ?_
 refine cW ?_ ?_ ?_
 refine cX ?_ ?_ (by intro wz hSw; obtain ⟨q0, q1, q2, q3, q4, q5, q6, q7, q8, q9, q10, q11, q12, q13, q14, q15, q16, q17⟩ := c18 (B0.y hSw.1); go_simp; all_goals with_reducible rfl) ?_
 refine cW ?_ ?_ ?_
 refine cX ?_ ?_ (by intro wz hSw; obtain ⟨q0, q1, q2, q3, q4, q5, q6, q7, q8, q9, q10, q11, q12, q13, q14, q15, q16, q17⟩ := c18 (B1.y hSw.1); go_simp; all_goals with_reducible rfl) ?_
 refine cC ?_ ?_ ?_ ?_ ?hc7_4 ?_
 case hc7_4 => (intro w hSw; exact ratCmp_b s.fn s.fd t.fn t.fd 0 HS.out.f HT.out.f Hc.out w)
 refine cW ?_ ?_ ?_
 refine cW ?_ ?_ ?_
 refine cW ?_ ?_ ?_
 refine cW ?_ ?_ ?_
 refine cW ?_ ?_ ?_
 refine calm_end ?_
 intro w1 hS
 have hS := sO hS
 have B0 := B0.y hS
 have B1 := B1.y hS
 have hz1 : W0.heap.size ≤ w1.heap.size := hS.size
 have HB := gS HB hS
 clear hS
 obtain ⟨p0, p1, p2, p3, p4, p5, p6, p7, p8, p9, p10, p11, p12, p13, p14, p15, p16, p17⟩ := c18 (B0)
 obtain ⟨q0, q1, q2, q3, q4, q5, q6, q7, q8, q9, q10, q11, q12, q13, q14, q15, q16, q17⟩ := c18 (B1)
 rw [Hop.out] at p16
 rw [Hoq.out] at q16
 go_wp2_with fail
 go_ret
 exact ⟨rfl, HB⟩
theorem ahead_tf (s t : Stz) (w : World) (hs : s.Ok) (ht : t.Ok) (hc : cmpR s.fn s.fd t.fn t.fd = 0) (hop : s.op = true) (hoq : t.op = false) :
  Calls Tryz.prog 23 #[stV s, stV t] w fun e w' => e = .returned (.int .i64 1) ∧ Below w.heap.size w w' := by
 obtain ⟨W0, hW0⟩ : ∃ W0, [.cells #[u64 (lb (tc s.fn) 0), u64 (lb (tc s.fn) 1), u64 (lb (tc s.fn) 2), u64 (lb (tc s.fn) 3), u64 (lb (tc s.fd) 0), u64 (lb (tc s.fd) 1), u64 (lb (tc s.fd) 2), u64 (lb (tc s.fd) 3), u64 (lb (tc s.tn) 0), u64 (lb (tc s.tn) 1), u64 (lb (tc s.tn) 2), u64 (lb (tc s.tn) 3), u64 (lb (tc s.td) 0), u64 (lb (tc s.td) 1), u64 (lb (tc s.td) 2), u64 (lb (tc s.td) 3), .bool s.op, .bool s.ot] 64, .cells #[u64 (lb (tc t.fn) 0), u64 (lb (tc t.fn) 1), u64 (lb (tc t.fn) 2), u64 (lb (tc t.fn) 3), u64 (lb (tc t.fd) 0), u64 (lb (tc t.fd) 1), u64 (lb (tc t.fd) 2), u64 (lb (tc t.fd) 3), u64 (lb (tc t.tn) 0), u64 (lb (tc t.tn) 1), u64 (lb (tc t.tn) 2), u64 (lb (tc t.tn) 3), u64 (lb (tc t.td) 0), u64 (lb (tc t.td) 1), u64 (lb (tc t.td) 2), u64 (lb (tc t.td) 3), .bool t.op, .bool t.ot] 64].foldl World.alloc w = W0 := ⟨_, rfl⟩
 have B0 : Blk W0 (w.heap.size) (stL s) 64 := Blk.allocs _ hW0 0 rfl
 have B1 : Blk W0 (w.heap.size + 1) (stL t) 64 := Blk.allocs _ hW0 1 rfl
 have HB := aB hW0
 have hsz : w.heap.size + 2 ≤ W0.heap.size := aZ hW0
 simp only [List.foldl_cons, List.foldl_nil] at hW0
 have HS := hH hs
 have HT := hH ht
 have Hc := hH hc
 have Hop := hH hop
 have Hoq := hH hoq
 clear hc hop hoq
 clear hs ht
 go_enter Tryz.func23, Tryz.ntmps23
 go_upto_region 1 with (fail)
 clear hW0
 refine cP ?_
 refine cN ?_
 refine cW ?_ ?_ ?_
 refine cX ?_ ?_ (by intro wz hSw; obtain ⟨q0, q1, q2, q3, q4, q5, q6, q7, q8, q9, q10, q11, q12, q13, q14, q15, q16, q17⟩ := c18 (B0.y hSw.1); go_simp; all_goals with_reducible rfl) ?_
 refine cW ?_ ?_ ?_
 refine cX ?_ ?_ (by intro wz hSw; obtain ⟨q0, q1, q2, q3, q4, q5, q6, q7, q8, q9, q10, q11, q12, q13, q14, q15, q16, q17⟩ := c18 (B1.y hSw.1); go_simp; all_goals with_reducible rfl) ?_
 refine cC ?_ ?_ ?_ ?_ ?hc8_4 ?_
 case hc8_4 => (intro w hSw; exact ratCmp_b s.fn s.fd t.fn t.fd 0 HS.out.f HT.out.f Hc.out w)
 refine cW ?_ ?_ ?_
 refine cW ?_ ?_ ?_
 refine cW ?_ ?_ ?_
 refine cW ?_ ?_ ?_
 refine cW ?_ ?_ ?_
 refine calm_end ?_
 intro w1 hS
 have hS := sO hS
 have B0 := B0.y hS
 have B1 := B1.y hS
 have hz1 : W0.heap.size ≤ w1.heap.size := hS.size
 have HB := gS HB hS
 clear hS
 obtain ⟨p0, p1, p2, p3, p4, p5, p6, p7, p8, p9, p10, p11, p12, p13, p14, p15, p16, p17⟩ := c18 (B0)
 obtain ⟨q0, q1, q2, q3, q4, q5, q6, q7, q8, q9, q10, q11, q12, q13, q14, q15, q16, q17⟩ := c18 (B1)
 rw [Hop.out] at p16
 rw [Hoq.out] at q16
 go_wp2_with fail
 go_ret
 exact ⟨rfl, HB⟩
theorem ahead_ft (s t : Stz) (w : World) (hs : s.Ok) (ht : t.Ok) (hc : cmpR s.fn s.fd t.fn t.fd = 0) (hop : s.op = false) (hoq : t.op = true) :
  Calls Tryz.prog 23 #[stV s, stV t] w fun e w' => e = .returned (.int .i64 (-1)) ∧ Below w.heap.size w w' := by
 obtain ⟨W0, hW0⟩ : ∃ W0, [.cells #[u64 (lb (tc s.fn) 0), u64 (lb (tc s.fn) 1), u64 (lb (tc s.fn) 2), u64 (lb (tc s.fn) 3), u64 (lb (tc s.fd) 0), u64 (lb (tc s.fd) 1), u64 (lb (tc s.fd) 2), u64 (lb (tc s.fd) 3), u64 (lb (tc s.tn) 0), u64 (lb (tc s.tn) 1), u64 (lb (tc s.tn) 2), u64 (lb (tc s.tn) 3), u64 (lb (tc s.td) 0), u64 (lb (tc s.td) 1), u64 (lb (tc s.td) 2), u64 (lb (tc s.td) 3), .bool s.op, .bool s.ot] 64, .cells #[u64 (lb (tc t.fn) 0), u64 (lb (tc t.fn) 1), u64 (lb (tc t.fn) 2), u64 (lb (tc t.fn) 3), u64 (lb (tc t.fd) 0), u64 (lb (tc t.fd) 1), u64 (lb (tc t.fd) 2), u64 (lb (tc t.fd) 3), u64 (lb (tc t.tn) 0), u64 (lb (tc t.tn) 1), u64 (lb (tc t.tn) 2), u64 (lb (tc t.tn) 3), u64 (lb (tc t.td) 0), u64 (lb (tc t.td) 1), u64 (lb (tc t.td) 2), u64 (lb (tc t.td) 3), .bool t.op, .bool t.ot] 64].foldl World.alloc w = W0 := ⟨_, rfl⟩
 have B0 : Blk W0 (w.heap.size) (stL s) 64 := Blk.allocs _ hW0 0 rfl
 have B1 : Blk W0 (w.heap.size + 1) (stL t) 64 := Blk.allocs _ hW0 1 rfl
 have HB := aB hW0
 have hsz : w.heap.size + 2 ≤ W0.heap.size := aZ hW0
 simp only [List.foldl_cons, List.foldl_nil] at hW0
 have HS := hH hs
 have HT := hH ht
 have Hc := hH hc
 have Hop := hH hop
 have Hoq := hH hoq
 clear hc hop hoq
 clear hs ht
 go_enter Tryz.func23, Tryz.ntmps23
 go_upto_region 1 with (fail)
 clear hW0
 refine cP ?_
 refine cN ?_
 refine cW ?_ ?_ ?_
 refine cX ?_ ?_ (by intro wz hSw; obtain ⟨q0, q1, q2, q3, q4, q5, q6, q7, q8, q9, q10, q11, q12, q13, q14, q15, q16, q17⟩ := c18 (B0.y hSw.1); go_simp; all_goals with_reducible rfl) ?_
 refine cW ?_ ?_ ?_
 refine cX ?_ ?_ (by intro wz hSw; obtain ⟨q0, q1, q2, q3, q4, q5, q6, q7, q8, q9, q10, q11, q12, q13, q14, q15, q16, q17⟩ := c18 (B1.y hSw.1); go_simp; all_goals with_reducible rfl) ?_
 refine cC ?_ ?_ ?_ ?_ ?hc9_4 ?_
 case hc9_4 => (intro w hSw; exact ratCmp_b s.fn s.fd t.fn t.fd 0 HS.out.f HT.out.f Hc.out w)
 refine cW ?_ ?_ ?_
 refine cW ?_ ?_ ?_
 refine cW ?_ ?_ ?_
 refine cW ?_ ?_ ?_
 refine cW ?_ ?_ ?_
 refine calm_end ?_
 intro w1 hS
 have hS := sO hS
 have B0 := B0.y hS
 have B1 := B1.y hS
 have hz1 : W0.heap.size ≤ w1.heap.size := hS.size
 have HB := gS HB hS
 clear hS
 obtain ⟨p0, p1, p2, p3, p4, p5, p6, p7, p8, p9, p10, p11, p12, p13, p14, p15, p16, p17⟩ := c18 (B0)
 obtain ⟨q0, q1, q2, q3, q4, q5, q6, q7, q8, q9, q10, q11, q12, q13, q14, q15, q16, q17⟩ := c18 (B1)
 rw [Hop.out] at p16
 rw [Hoq.out] at q16
 go_wp2_with fail
 go_ret
 exact ⟨rfl, HB⟩
theorem ahead_ff (s t : Stz) (w : World) (hs : s.Ok) (ht : t.Ok) (hc : cmpR s.fn s.fd t.fn t.fd = 0) (hop : s.op = false) (hoq : t.op = false) :
  Calls Tryz.prog 23 #[stV s, stV t] w fun e w' => e = .returned (.int .i64 0) ∧ Below w.heap.size w w' := by
 obtain ⟨W0, hW0⟩ : ∃ W0, [.cells #[u64 (lb (tc s.fn) 0), u64 (lb (tc s.fn) 1), u64 (lb (tc s.fn) 2), u64 (lb (tc s.fn) 3), u64 (lb (tc s.fd) 0), u64 (lb (tc s.fd) 1), u64 (lb (tc s.fd) 2), u64 (lb (tc s.fd) 3), u64 (lb (tc s.tn) 0), u64 (lb (tc s.tn) 1), u64 (lb (tc s.tn) 2), u64 (lb (tc s.tn) 3), u64 (lb (tc s.td) 0), u64 (lb (tc s.td) 1), u64 (lb (tc s.td) 2), u64 (lb (tc s.td) 3), .bool s.op, .bool s.ot] 64, .cells #[u64 (lb (tc t.fn) 0), u64 (lb (tc t.fn) 1), u64 (lb (tc t.fn) 2), u64 (lb (tc t.fn) 3), u64 (lb (tc t.fd) 0), u64 (lb (tc t.fd) 1), u64 (lb (tc t.fd) 2), u64 (lb (tc t.fd) 3), u64 (lb (tc t.tn) 0), u64 (lb (tc t.tn) 1), u64 (lb (tc t.tn) 2), u64 (lb (tc t.tn) 3), u64 (lb (tc t.td) 0), u64 (lb (tc t.td) 1), u64 (lb (tc t.td) 2), u64 (lb (tc t.td) 3), .bool t.op, .bool t.ot] 64].foldl World.alloc w = W0 := ⟨_, rfl⟩
 have B0 : Blk W0 (w.heap.size) (stL s) 64 := Blk.allocs _ hW0 0 rfl
 have B1 : Blk W0 (w.heap.size + 1) (stL t) 64 := Blk.allocs _ hW0 1 rfl
 have HB := aB hW0
 have hsz : w.heap.size + 2 ≤ W0.heap.size := aZ hW0
 simp only [List.foldl_cons, List.foldl_nil] at hW0
 have HS := hH hs
 have HT := hH ht
 have Hc := hH hc
 have Hop := hH hop
 have Hoq := hH hoq
 clear hc hop hoq
 clear hs ht
 go_enter Tryz.func23, Tryz.ntmps23
 go_upto_region 1 with (fail)
 clear hW0
 refine cP ?_
 refine cN ?_
 refine cW ?_ ?_ ?_
 refine cX ?_ ?_ (by intro wz hSw; obtain ⟨q0, q1, q2, q3, q4, q5, q6, q7, q8, q9, q10, q11, q12, q13, q14, q15, q16, q17⟩ := c18 (B0.y hSw.1); go_simp; all_goals with_reducible rfl) ?_
 refine cW ?_ ?_ ?_
 refine cX ?_ ?_ (by intro wz hSw; obtain ⟨q0, q1, q2, q3, q4, q5, q6, q7, q8, q9, q10, q11, q12, q13, q14, q15, q16, q17⟩ := c18 (B1.y hSw.1); go_simp; all_goals with_reducible rfl) ?_
 refine cC ?_ ?_ ?_ ?_ ?hc10_4 ?_
 case hc10_4 => (intro w hSw; exact ratCmp_b s.fn s.fd t.fn t.fd 0 HS.out.f HT.out.f Hc.out w)
 refine cW ?_ ?_ ?_
 refine cW ?_ ?_ ?_
 refine cW ?_ ?_ ?_
 refine cW ?_ ?_ ?_
 refine cW ?_ ?_ ?_
 refine calm_end ?_
 intro w1 hS
 have hS := sO hS
 have B0 := B0.y hS
 have B1 := B1.y hS
 have hz1 : W0.heap.size ≤ w1.heap.size := hS.size
 have HB := gS HB hS
 clear hS
 obtain ⟨p0, p1, p2, p3, p4, p5, p6, p7, p8, p9, p10, p11, p12, p13, p14, p15, p16, p17⟩ := c18 (B0)
 obtain ⟨q0, q1, q2, q3, q4, q5, q6, q7, q8, q9, q10, q11, q12, q13, q14, q15, q16, q17⟩ := c18 (B1)
 rw [Hop.out] at p16
 rw [Hoq.out] at q16
 go_wp2_with fail
 go_ret
 exact ⟨rfl, HB⟩
theorem ahead_any (s t : Stz) (hs : s.Ok) (ht : t.Ok) (w : World) :
  Calls Tryz.prog 23 #[stV s, stV t] w fun e w' => e = .returned (.int .i64 (aheadZ s t)) ∧ Below w.heap.size w w' := by
 unfold aheadZ
 by_cases h0 : cmpR s.fn s.fd t.fn t.fd = 0
 ·rw [if_neg (by simpa using h0)]
  cases hop : s.op with
  | true =>
   cases hoq : t.op with
   | true => simpa using ahead_tt s t w hs ht h0 hop hoq
   | false => simpa using ahead_tf s t w hs ht h0 hop hoq
  | false =>
   cases hoq : t.op with
   | true => simpa using ahead_ft s t w hs ht h0 hop hoq
   | false => simpa using ahead_ff s t w hs ht h0 hop hoq
 ·rw [if_pos h0]; exact ahead_ne s t w hs ht _ rfl h0
end Go.Proofs.YthbplhglfjlngaaGreat
