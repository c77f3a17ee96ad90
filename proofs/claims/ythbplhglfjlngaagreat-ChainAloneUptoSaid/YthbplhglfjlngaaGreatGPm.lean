/- Parts of the proof. -/
import Derived.Test.YthbplhglfjlngaaGreatGPb
import Derived.Deep.Cut
import Derived.Test.YthbplhglfjlngaaGreatGPk
import Derived.Test.YthbplhglfjlngaaGreatGPl
set_option linter.unusedVariables false
set_option linter.unusedSimpArgs false
set_option maxRecDepth 100000
namespace Go.Wd
open Go
structure Ptz where
 fn : Int
 fd : Int
 tn : Int
 td : Int
def ptzL (p : Ptz) : List Value := rL p.fn p.fd ++ rL p.tn p.td
abbrev ptzV (p : Ptz) : Value := .agg #[u64 (lb (tc p.fn) 0), u64 (lb (tc p.fn) 1), u64 (lb (tc p.fn) 2), u64 (lb (tc p.fn) 3), u64 (lb (tc p.fd) 0), u64 (lb (tc p.fd) 1), u64 (lb (tc p.fd) 2), u64 (lb (tc p.fd) 3), u64 (lb (tc p.tn) 0), u64 (lb (tc p.tn) 1), u64 (lb (tc p.tn) 2), u64 (lb (tc p.tn) 3), u64 (lb (tc p.td) 0), u64 (lb (tc p.td) 1), u64 (lb (tc p.td) 2), u64 (lb (tc p.td) 3)]
structure Ptz.Ok (p : Ptz) : Prop where
 f : Wd.Ok p.fn p.fd
 t : Wd.Ok p.tn p.td
def laterZ (p : Ptz) (n d : Int) : Ptz := if cmpR p.fn p.fd n d < 0 then { p with fn := n, fd := d } else p
def earlierZ (p : Ptz) (n d : Int) : Ptz := if 0 < cmpR p.tn p.td n d then { p with tn := n, td := d } else p
theorem laterZ_ok {p : Ptz} {n d : Int} (h : p.Ok) (hr : Wd.Ok n d) : (laterZ p n d).Ok := by
 unfold laterZ; split
 ·exact ⟨hr, h.t⟩
 ·exact h
theorem earlierZ_ok {p : Ptz} {n d : Int} (h : p.Ok) (hr : Wd.Ok n d) : (earlierZ p n d).Ok := by
 unfold earlierZ; split
 ·exact ⟨h.f, hr⟩
 ·exact h
def pbandZ (p : Ptz) (a way low high : Int) : Ptz × Bool :=
 if way = 0 then (p, decide (low ≤ 2 * a) && decide (2 * a ≤ high))
 else if way < 0 then (earlierZ (laterZ p (-(high - 2 * a)) (2 * (-way))) (-(low - 2 * a)) (2 * (-way)), true)
 else (earlierZ (laterZ p (low - 2 * a) (2 * way)) (high - 2 * a) (2 * way), true)
structure PbOk (a way low high : Int) : Prop where
 a1 : -2199023255552 ≤ a
 a2 : a ≤ 2199023255552
 w1 : -4398046511104 ≤ way
 w2 : way ≤ 4398046511104
 l1 : -4611686018600000000 ≤ low
 l2 : low ≤ 4611686018600000000
 h1 : -4611686018600000000 ≤ high
 h2 : high ≤ 4611686018600000000
theorem pbandZ_ok {p : Ptz} {a way low high : Int} (h : p.Ok) (b : PbOk a way low high) : (pbandZ p a way low high).1.Ok := by
 have := b.a1; have := b.a2; have := b.w1; have := b.w2; have := b.l1; have := b.l2; have := b.h1; have := b.h2
 unfold pbandZ
 split
 ·exact h
 ·split
  ·exact earlierZ_ok (laterZ_ok h ⟨by omega, by omega, by omega, by omega⟩) ⟨by omega, by omega, by omega, by omega⟩
  ·exact earlierZ_ok (laterZ_ok h ⟨by omega, by omega, by omega, by omega⟩) ⟨by omega, by omega, by omega, by omega⟩
end Go.Wd
namespace Go.Rg
open Go Go.RowKit Go.Wd
theorem putL_mid : ∀ (vs pre cs post : List Value), cs.length = vs.length → putL (pre ++ (cs ++ post)) pre.length vs = pre ++ (vs ++ post)
 | [], pre, cs, post, h => by
  have : cs = [] := List.eq_nil_of_length_eq_zero h
  subst this; rfl
 | v :: r, pre, cs, post, h => by
  cases cs with
  | nil => simp at h
  | cons c cs =>
   have e : (pre ++ (c :: cs ++ post)).set pre.length v = (pre ++ [v]) ++ (cs ++ post) := by
    rw [List.set_append_right _ _ (Nat.le_refl _)]; simp
   rw [putL, e]
   have := putL_mid r (pre ++ [v]) cs post (by simpa using h)
   rw [List.length_append] at this
   simpa using this
theorem blk_fst {w : World} {b : Nat} {x y vs : List Value} {t : TypeId} (h : Blk w b (putL (x ++ y) 0 vs) t) (hl : x.length = vs.length) : Blk w b (vs ++ y) t := by
 have := putL_mid vs [] x y hl
 simp only [List.nil_append, List.length_nil] at this
 rwa [this] at h
theorem blk_snd {w : World} {b o : Nat} {x y vs : List Value} {t : TypeId} (h : Blk w b (putL (x ++ y) o vs) t) (ho : o = x.length) (hl : y.length = vs.length) : Blk w b (x ++ vs) t := by
 have := putL_mid vs x y [] hl
 simp only [List.append_nil] at this
 rw [ho, this] at h; exact h
theorem c16 {w : World} {b : Nat} {p : Ptz} {t : TypeId} (h : Blk w b (ptzL p) t) :
  w.cell? ⟨b, 0, none⟩ = some (u64 (lb (tc p.fn) 0)) ∧ w.cell? ⟨b, 1, none⟩ = some (u64 (lb (tc p.fn) 1)) ∧ w.cell? ⟨b, 2, none⟩ = some (u64 (lb (tc p.fn) 2)) ∧ w.cell? ⟨b, 3, none⟩ = some (u64 (lb (tc p.fn) 3)) ∧ w.cell? ⟨b, 4, none⟩ = some (u64 (lb (tc p.fd) 0)) ∧ w.cell? ⟨b, 5, none⟩ = some (u64 (lb (tc p.fd) 1)) ∧ w.cell? ⟨b, 6, none⟩ = some (u64 (lb (tc p.fd) 2)) ∧ w.cell? ⟨b, 7, none⟩ = some (u64 (lb (tc p.fd) 3)) ∧ w.cell? ⟨b, 8, none⟩ = some (u64 (lb (tc p.tn) 0)) ∧ w.cell? ⟨b, 9, none⟩ = some (u64 (lb (tc p.tn) 1)) ∧ w.cell? ⟨b, 10, none⟩ = some (u64 (lb (tc p.tn) 2)) ∧ w.cell? ⟨b, 11, none⟩ = some (u64 (lb (tc p.tn) 3)) ∧ w.cell? ⟨b, 12, none⟩ = some (u64 (lb (tc p.td) 0)) ∧ w.cell? ⟨b, 13, none⟩ = some (u64 (lb (tc p.td) 1)) ∧ w.cell? ⟨b, 14, none⟩ = some (u64 (lb (tc p.td) 2)) ∧ w.cell? ⟨b, 15, none⟩ = some (u64 (lb (tc p.td) 3)) :=
 ⟨h.cell rfl, h.cell rfl, h.cell rfl, h.cell rfl, h.cell rfl, h.cell rfl, h.cell rfl, h.cell rfl, h.cell rfl, h.cell rfl, h.cell rfl, h.cell rfl, h.cell rfl, h.cell rfl, h.cell rfl, h.cell rfl⟩
theorem upd_stay {R : Nat} {D : List Nat} {A B C : World} (h : Upd R A B) (k : Stay D B C) (hD : ∀ d ∈ D, d = R) : Upd R A C :=
 h.trans ⟨k.os, k.tape, k.output, k.size, fun i hi hl => k.same i (fun hd => hi (hD i hd)) hl⟩
end Go.Rg
namespace Go.Proofs.YthbplhglfjlngaaGreat
open Go.RowKit Go.Rg Go.Wd
attribute [local go_sem] Oper.semAt_some
theorem rcmp_b (n d n' d' r : Int) (h : Ok n d) (h' : Ok n' d') (hr : cmpR n d n' d' = r) (w : World) :
  Calls Tryz.prog 31 #[rt n d, rt n' d'] w fun e w' => e = .returned (.tuple #[.int .i64 r, .bool true]) ∧ Below w.heap.size w w' := by subst hr; exact ratCmp_any n d n' d' h h' w
theorem later_t (n d n' d' c : Int) (h : Ok n d) (h' : Ok n' d') (hc : cmpR n d n' d' = c) (h0 : c < 0) (w : World) :
  Calls Tryz.prog 59 #[rt n d, rt n' d'] w fun e w' => e = .returned (rt n' d') ∧ Below w.heap.size w w' := by
 obtain ⟨W0, hW0⟩ : ∃ W0, [.cells #[u64 (lb (tc n) 0), u64 (lb (tc n) 1), u64 (lb (tc n) 2), u64 (lb (tc n) 3), u64 (lb (tc d) 0), u64 (lb (tc d) 1), u64 (lb (tc d) 2), u64 (lb (tc d) 3)] 62, .cells #[u64 (lb (tc n') 0), u64 (lb (tc n') 1), u64 (lb (tc n') 2), u64 (lb (tc n') 3), u64 (lb (tc d') 0), u64 (lb (tc d') 1), u64 (lb (tc d') 2), u64 (lb (tc d') 3)] 62, .cells #[.int .u64 0, .int .u64 0, .int .u64 0, .int .u64 0, .int .u64 0, .int .u64 0, .int .u64 0, .int .u64 0] 62].foldl World.alloc w = W0 := ⟨_, rfl⟩
 have B0 : Blk W0 (w.heap.size) (rL n d) 62 := Blk.allocs _ hW0 0 rfl
 have B1 : Blk W0 (w.heap.size + 1) (rL n' d') 62 := Blk.allocs _ hW0 1 rfl
 have B2 : Blk W0 (w.heap.size + 1 + 1) (rL 0 0) 62 := Blk.allocs _ hW0 2 rfl
 have HB := aB hW0
 have hsz : w.heap.size + 3 ≤ W0.heap.size := aZ hW0
 simp only [List.foldl_cons, List.foldl_nil] at hW0
 have Ha := hH h
 have Hb := hH h'
 have Hc := hH hc
 have d0 : decide (c < 0) = true := by simp; omega
 clear h h' hc
 go_enter Tryz.func59, Tryz.ntmps59
 go_upto_region 1 with (fail)
 clear hW0
 refine cP ?_
 refine cN ?_
 refine cX ?_ ?_ (by intro wz hSw; obtain ⟨q0, q1, q2, q3, q4, q5, q6, q7⟩ := c8 (B0.y hSw.1); go_simp; all_goals with_reducible rfl) ?_
 refine cX ?_ ?_ (by intro wz hSw; obtain ⟨q0, q1, q2, q3, q4, q5, q6, q7⟩ := c8 (B1.y hSw.1); go_simp; all_goals with_reducible rfl) ?_
 refine cC ?_ ?_ ?_ ?_ ?hc1_2 ?_
 case hc1_2 => (intro w hSw; exact rcmp_b n d n' d' c Ha.out Hb.out Hc.out w)
 refine cW ?_ ?_ ?_
 refine cW ?_ ?_ ?_
 refine cW ?_ ?_ ?_
 refine cW ?_ ?_ ?_
 refine cW ?_ ?_ ?_
 refine calm_end ?_
 intro w1 hS
 have hS := sO hS
 have B0 := B0.y hS
 have B1 := B1.y hS
 have B2 := B2.y hS
 have hz1 : W0.heap.size ≤ w1.heap.size := hS.size
 have HB := gS HB hS
 clear hS
 go_upto_region 3 with (fail)
 refine cP ?_
 refine calm_k (b := w.heap.size + 1 + 1) (o := 0) (st := 1) (ado := .tmp 4) (x := (.tmp 15)) (u := rt n' d') (by kernel_rfl) B2 (by rfl) size_rat (rt_one _ _) (by first | exact Nat.le_refl _ | (simp; done) | decide | (show 0 + 8 ≤ 8; decide)) ?_
 refine cX ?_ ?_ (by intro wz hSw; obtain ⟨q0, q1, q2, q3, q4, q5, q6, q7⟩ := c8 (B1.y hSw.1); go_simp; all_goals with_reducible rfl) ?_
 refine cB ?_
 refine calm_end ?_
 refine ⟨(by rfl), (by rfl), fun w2 hS D0 => ?_⟩
 have B0 := B0.y hS
 have B1 := B1.y hS
 have B2 : Blk w2 (w.heap.size + 1 + 1) (rL n' d') 62 := blk_whole D0 rfl
 have hz2 : w1.heap.size ≤ w2.heap.size := hS.size
 have HB := gS HB hS
 clear hS D0
 go_wp2_with fail
 obtain ⟨s0_0, s0_1, s0_2, s0_3, s0_4, s0_5, s0_6, s0_7⟩ := c8 (B2)
 refine bodyPost_ret (v := rt n' d') (by simp [results, Tryz.results59, go_sem, s0_0, s0_1, s0_2, s0_3, s0_4, s0_5, s0_6, s0_7]) rfl ⟨rfl, HB⟩
theorem later_f (n d n' d' c : Int) (h : Ok n d) (h' : Ok n' d') (hc : cmpR n d n' d' = c) (h0 : ¬ c < 0) (w : World) :
  Calls Tryz.prog 59 #[rt n d, rt n' d'] w fun e w' => e = .returned (rt n d) ∧ Below w.heap.size w w' := by
 obtain ⟨W0, hW0⟩ : ∃ W0, [.cells #[u64 (lb (tc n) 0), u64 (lb (tc n) 1), u64 (lb (tc n) 2), u64 (lb (tc n) 3), u64 (lb (tc d) 0), u64 (lb (tc d) 1), u64 (lb (tc d) 2), u64 (lb (tc d) 3)] 62, .cells #[u64 (lb (tc n') 0), u64 (lb (tc n') 1), u64 (lb (tc n') 2), u64 (lb (tc n') 3), u64 (lb (tc d') 0), u64 (lb (tc d') 1), u64 (lb (tc d') 2), u64 (lb (tc d') 3)] 62, .cells #[.int .u64 0, .int .u64 0, .int .u64 0, .int .u64 0, .int .u64 0, .int .u64 0, .int .u64 0, .int .u64 0] 62].foldl World.alloc w = W0 := ⟨_, rfl⟩
 have B0 : Blk W0 (w.heap.size) (rL n d) 62 := Blk.allocs _ hW0 0 rfl
 have B1 : Blk W0 (w.heap.size + 1) (rL n' d') 62 := Blk.allocs _ hW0 1 rfl
 have B2 : Blk W0 (w.heap.size + 1 + 1) (rL 0 0) 62 := Blk.allocs _ hW0 2 rfl
 have HB := aB hW0
 have hsz : w.heap.size + 3 ≤ W0.heap.size := aZ hW0
 simp only [List.foldl_cons, List.foldl_nil] at hW0
 have Ha := hH h
 have Hb := hH h'
 have Hc := hH hc
 have d0 : decide (c < 0) = false := by simp; omega
 clear h h' hc
 go_enter Tryz.func59, Tryz.ntmps59
 go_upto_region 1 with (fail)
 clear hW0
 refine cP ?_
 refine cN ?_
 refine cX ?_ ?_ (by intro wz hSw; obtain ⟨q0, q1, q2, q3, q4, q5, q6, q7⟩ := c8 (B0.y hSw.1); go_simp; all_goals with_reducible rfl) ?_
 refine cX ?_ ?_ (by intro wz hSw; obtain ⟨q0, q1, q2, q3, q4, q5, q6, q7⟩ := c8 (B1.y hSw.1); go_simp; all_goals with_reducible rfl) ?_
 refine cC ?_ ?_ ?_ ?_ ?hc3_2 ?_
 case hc3_2 => (intro w hSw; exact rcmp_b n d n' d' c Ha.out Hb.out Hc.out w)
 refine cW ?_ ?_ ?_
 refine cW ?_ ?_ ?_
 refine cW ?_ ?_ ?_
 refine cW ?_ ?_ ?_
 refine cW ?_ ?_ ?_
 refine calm_end ?_
 intro w1 hS
 have hS := sO hS
 have B0 := B0.y hS
 have B1 := B1.y hS
 have B2 := B2.y hS
 have hz1 : W0.heap.size ≤ w1.heap.size := hS.size
 have HB := gS HB hS
 clear hS
 go_upto_region 4 with (fail)
 refine cP ?_
 refine calm_k (b := w.heap.size + 1 + 1) (o := 0) (st := 1) (ado := .tmp 4) (x := (.tmp 16)) (u := rt n d) (by kernel_rfl) B2 (by rfl) size_rat (rt_one _ _) (by first | exact Nat.le_refl _ | (simp; done) | decide | (show 0 + 8 ≤ 8; decide)) ?_
 refine cX ?_ ?_ (by intro wz hSw; obtain ⟨q0, q1, q2, q3, q4, q5, q6, q7⟩ := c8 (B0.y hSw.1); go_simp; all_goals with_reducible rfl) ?_
 refine cB ?_
 refine calm_end ?_
 refine ⟨(by rfl), (by rfl), fun w2 hS D0 => ?_⟩
 have B0 := B0.y hS
 have B1 := B1.y hS
 have B2 : Blk w2 (w.heap.size + 1 + 1) (rL n d) 62 := blk_whole D0 rfl
 have hz2 : w1.heap.size ≤ w2.heap.size := hS.size
 have HB := gS HB hS
 clear hS D0
 go_wp2_with fail
 obtain ⟨s0_0, s0_1, s0_2, s0_3, s0_4, s0_5, s0_6, s0_7⟩ := c8 (B2)
 refine bodyPost_ret (v := rt n d) (by simp [results, Tryz.results59, go_sem, s0_0, s0_1, s0_2, s0_3, s0_4, s0_5, s0_6, s0_7]) rfl ⟨rfl, HB⟩
theorem earlier_t (n d n' d' c : Int) (h : Ok n d) (h' : Ok n' d') (hc : cmpR n d n' d' = c) (h0 : 0 < c) (w : World) :
  Calls Tryz.prog 60 #[rt n d, rt n' d'] w fun e w' => e = .returned (rt n' d') ∧ Below w.heap.size w w' := by
 obtain ⟨W0, hW0⟩ : ∃ W0, [.cells #[u64 (lb (tc n) 0), u64 (lb (tc n) 1), u64 (lb (tc n) 2), u64 (lb (tc n) 3), u64 (lb (tc d) 0), u64 (lb (tc d) 1), u64 (lb (tc d) 2), u64 (lb (tc d) 3)] 62, .cells #[u64 (lb (tc n') 0), u64 (lb (tc n') 1), u64 (lb (tc n') 2), u64 (lb (tc n') 3), u64 (lb (tc d') 0), u64 (lb (tc d') 1), u64 (lb (tc d') 2), u64 (lb (tc d') 3)] 62, .cells #[.int .u64 0, .int .u64 0, .int .u64 0, .int .u64 0, .int .u64 0, .int .u64 0, .int .u64 0, .int .u64 0] 62].foldl World.alloc w = W0 := ⟨_, rfl⟩
 have B0 : Blk W0 (w.heap.size) (rL n d) 62 := Blk.allocs _ hW0 0 rfl
 have B1 : Blk W0 (w.heap.size + 1) (rL n' d') 62 := Blk.allocs _ hW0 1 rfl
 have B2 : Blk W0 (w.heap.size + 1 + 1) (rL 0 0) 62 := Blk.allocs _ hW0 2 rfl
 have HB := aB hW0
 have hsz : w.heap.size + 3 ≤ W0.heap.size := aZ hW0
 simp only [List.foldl_cons, List.foldl_nil] at hW0
 have Ha := hH h
 have Hb := hH h'
 have Hc := hH hc
 have d0 : decide (0 < c) = true := by simp; omega
 clear h h' hc
 go_enter Tryz.func60, Tryz.ntmps60
 go_upto_region 1 with (fail)
 clear hW0
 refine cP ?_
 refine cN ?_
 refine cX ?_ ?_ (by intro wz hSw; obtain ⟨q0, q1, q2, q3, q4, q5, q6, q7⟩ := c8 (B0.y hSw.1); go_simp; all_goals with_reducible rfl) ?_
 refine cX ?_ ?_ (by intro wz hSw; obtain ⟨q0, q1, q2, q3, q4, q5, q6, q7⟩ := c8 (B1.y hSw.1); go_simp; all_goals with_reducible rfl) ?_
 refine cC ?_ ?_ ?_ ?_ ?hc5_2 ?_
 case hc5_2 => (intro w hSw; exact rcmp_b n d n' d' c Ha.out Hb.out Hc.out w)
 refine cW ?_ ?_ ?_
 refine cW ?_ ?_ ?_
 refine cW ?_ ?_ ?_
 refine cW ?_ ?_ ?_
 refine cW ?_ ?_ ?_
 refine calm_end ?_
 intro w1 hS
 have hS := sO hS
 have B0 := B0.y hS
 have B1 := B1.y hS
 have B2 := B2.y hS
 have hz1 : W0.heap.size ≤ w1.heap.size := hS.size
 have HB := gS HB hS
 clear hS
 go_upto_region 3 with (fail)
 refine cP ?_
 refine calm_k (b := w.heap.size + 1 + 1) (o := 0) (st := 1) (ado := .tmp 4) (x := (.tmp 15)) (u := rt n' d') (by kernel_rfl) B2 (by rfl) size_rat (rt_one _ _) (by first | exact Nat.le_refl _ | (simp; done) | decide | (show 0 + 8 ≤ 8; decide)) ?_
 refine cX ?_ ?_ (by intro wz hSw; obtain ⟨q0, q1, q2, q3, q4, q5, q6, q7⟩ := c8 (B1.y hSw.1); go_simp; all_goals with_reducible rfl) ?_
 refine cB ?_
 refine calm_end ?_
 refine ⟨(by rfl), (by rfl), fun w2 hS D0 => ?_⟩
 have B0 := B0.y hS
 have B1 := B1.y hS
 have B2 : Blk w2 (w.heap.size + 1 + 1) (rL n' d') 62 := blk_whole D0 rfl
 have hz2 : w1.heap.size ≤ w2.heap.size := hS.size
 have HB := gS HB hS
 clear hS D0
 go_wp2_with fail
 obtain ⟨s0_0, s0_1, s0_2, s0_3, s0_4, s0_5, s0_6, s0_7⟩ := c8 (B2)
 refine bodyPost_ret (v := rt n' d') (by simp [results, Tryz.results60, go_sem, s0_0, s0_1, s0_2, s0_3, s0_4, s0_5, s0_6, s0_7]) rfl ⟨rfl, HB⟩
theorem earlier_f (n d n' d' c : Int) (h : Ok n d) (h' : Ok n' d') (hc : cmpR n d n' d' = c) (h0 : ¬ 0 < c) (w : World) :
  Calls Tryz.prog 60 #[rt n d, rt n' d'] w fun e w' => e = .returned (rt n d) ∧ Below w.heap.size w w' := by
 obtain ⟨W0, hW0⟩ : ∃ W0, [.cells #[u64 (lb (tc n) 0), u64 (lb (tc n) 1), u64 (lb (tc n) 2), u64 (lb (tc n) 3), u64 (lb (tc d) 0), u64 (lb (tc d) 1), u64 (lb (tc d) 2), u64 (lb (tc d) 3)] 62, .cells #[u64 (lb (tc n') 0), u64 (lb (tc n') 1), u64 (lb (tc n') 2), u64 (lb (tc n') 3), u64 (lb (tc d') 0), u64 (lb (tc d') 1), u64 (lb (tc d') 2), u64 (lb (tc d') 3)] 62, .cells #[.int .u64 0, .int .u64 0, .int .u64 0, .int .u64 0, .int .u64 0, .int .u64 0, .int .u64 0, .int .u64 0] 62].foldl World.alloc w = W0 := ⟨_, rfl⟩
 have B0 : Blk W0 (w.heap.size) (rL n d) 62 := Blk.allocs _ hW0 0 rfl
 have B1 : Blk W0 (w.heap.size + 1) (rL n' d') 62 := Blk.allocs _ hW0 1 rfl
 have B2 : Blk W0 (w.heap.size + 1 + 1) (rL 0 0) 62 := Blk.allocs _ hW0 2 rfl
 have HB := aB hW0
 have hsz : w.heap.size + 3 ≤ W0.heap.size := aZ hW0
 simp only [List.foldl_cons, List.foldl_nil] at hW0
 have Ha := hH h
 have Hb := hH h'
 have Hc := hH hc
 have d0 : decide (0 < c) = false := by simp; omega
 clear h h' hc
 go_enter Tryz.func60, Tryz.ntmps60
 go_upto_region 1 with (fail)
 clear hW0
 refine cP ?_
 refine cN ?_
 refine cX ?_ ?_ (by intro wz hSw; obtain ⟨q0, q1, q2, q3, q4, q5, q6, q7⟩ := c8 (B0.y hSw.1); go_simp; all_goals with_reducible rfl) ?_
 refine cX ?_ ?_ (by intro wz hSw; obtain ⟨q0, q1, q2, q3, q4, q5, q6, q7⟩ := c8 (B1.y hSw.1); go_simp; all_goals with_reducible rfl) ?_
 refine cC ?_ ?_ ?_ ?_ ?hc7_2 ?_
 case hc7_2 => (intro w hSw; exact rcmp_b n d n' d' c Ha.out Hb.out Hc.out w)
 refine cW ?_ ?_ ?_
 refine cW ?_ ?_ ?_
 refine cW ?_ ?_ ?_
 refine cW ?_ ?_ ?_
 refine cW ?_ ?_ ?_
 refine calm_end ?_
 intro w1 hS
 have hS := sO hS
 have B0 := B0.y hS
 have B1 := B1.y hS
 have B2 := B2.y hS
 have hz1 : W0.heap.size ≤ w1.heap.size := hS.size
 have HB := gS HB hS
 clear hS
 go_upto_region 4 with (fail)
 refine cP ?_
 refine calm_k (b := w.heap.size + 1 + 1) (o := 0) (st := 1) (ado := .tmp 4) (x := (.tmp 16)) (u := rt n d) (by kernel_rfl) B2 (by rfl) size_rat (rt_one _ _) (by first | exact Nat.le_refl _ | (simp; done) | decide | (show 0 + 8 ≤ 8; decide)) ?_
 refine cX ?_ ?_ (by intro wz hSw; obtain ⟨q0, q1, q2, q3, q4, q5, q6, q7⟩ := c8 (B0.y hSw.1); go_simp; all_goals with_reducible rfl) ?_
 refine cB ?_
 refine calm_end ?_
 refine ⟨(by rfl), (by rfl), fun w2 hS D0 => ?_⟩
 have B0 := B0.y hS
 have B1 := B1.y hS
 have B2 : Blk w2 (w.heap.size + 1 + 1) (rL n d) 62 := blk_whole D0 rfl
 have hz2 : w1.heap.size ≤ w2.heap.size := hS.size
 have HB := gS HB hS
 clear hS D0
 go_wp2_with fail
 obtain ⟨s0_0, s0_1, s0_2, s0_3, s0_4, s0_5, s0_6, s0_7⟩ := c8 (B2)
 refine bodyPost_ret (v := rt n d) (by simp [results, Tryz.results60, go_sem, s0_0, s0_1, s0_2, s0_3, s0_4, s0_5, s0_6, s0_7]) rfl ⟨rfl, HB⟩
theorem later_z (p : Ptz) (n d : Int) (h : p.Ok) (h' : Ok n d) (w : World) :
  Calls Tryz.prog 59 #[rt p.fn p.fd, rt n d] w fun e w' => e = .returned (rt (laterZ p n d).fn (laterZ p n d).fd) ∧ Below w.heap.size w w' := by
 unfold laterZ
 split
 ·rename_i hc; exact later_t _ _ _ _ _ h.f h' rfl hc w
 ·rename_i hc; exact later_f _ _ _ _ _ h.f h' rfl hc w
theorem earlier_z (p : Ptz) (n d : Int) (h : p.Ok) (h' : Ok n d) (w : World) :
  Calls Tryz.prog 60 #[rt p.tn p.td, rt n d] w fun e w' => e = .returned (rt (earlierZ p n d).tn (earlierZ p n d).td) ∧ Below w.heap.size w w' := by
 unfold earlierZ
 split
 ·rename_i hc; exact earlier_t _ _ _ _ _ h.t h' rfl hc w
 ·rename_i hc; exact earlier_f _ _ _ _ _ h.t h' rfl hc w
theorem laterZ_t (p : Ptz) (n d : Int) : (laterZ p n d).tn = p.tn ∧ (laterZ p n d).td = p.td := by unfold laterZ; split <;> exact ⟨rfl, rfl⟩
theorem earlierZ_f (p : Ptz) (n d : Int) : (earlierZ p n d).fn = p.fn ∧ (earlierZ p n d).fd = p.fd := by unfold earlierZ; split <;> exact ⟨rfl, rfl⟩
set_option maxHeartbeats 1000000 in
theorem pband_ztt (D : Nat) (p : Ptz) (a way low high : Int) (w : World) (hD : Blk w D (ptzL p) 85) (hs : p.Ok) (hb : PbOk a way low high) (hw : way = 0) (g1 : low ≤ 2 * a) (g2 : 2 * a ≤ high) :
  Calls Tryz.prog 30 #[.pointer (some ⟨D, 0, none⟩), .int .i64 a, .int .i64 way, .int .i64 low, .int .i64 high] w fun e w' => e = .returned (.bool true) ∧ Blk w' D (ptzL p) 85 ∧ Upd D w w' := by
 subst hw
 have ha1 := hb.a1; have ha2 := hb.a2; have hw1 := hb.w1; have hw2 := hb.w2; have hl1 := hb.l1; have hl2 := hb.l2; have hh1 := hb.h1; have hh2 := hb.h2
 have HD := hH hD
 have e1 : decide (low ≤ 2 * a) = true := by simpa using g1
 have e2 : decide (2 * a ≤ high) = true := by simpa using g2
 clear hD hs hb
 go_enter Tryz.func30, Tryz.ntmps30
 go_wp2_with fail
 go_ret
 exact ⟨rfl, HD.out, Upd.refl _ _⟩
set_option maxHeartbeats 1000000 in
theorem pband_ztf (D : Nat) (p : Ptz) (a way low high : Int) (w : World) (hD : Blk w D (ptzL p) 85) (hs : p.Ok) (hb : PbOk a way low high) (hw : way = 0) (g1 : low ≤ 2 * a) (g2 : ¬ 2 * a ≤ high) :
  Calls Tryz.prog 30 #[.pointer (some ⟨D, 0, none⟩), .int .i64 a, .int .i64 way, .int .i64 low, .int .i64 high] w fun e w' => e = .returned (.bool false) ∧ Blk w' D (ptzL p) 85 ∧ Upd D w w' := by
 subst hw
 have ha1 := hb.a1; have ha2 := hb.a2; have hw1 := hb.w1; have hw2 := hb.w2; have hl1 := hb.l1; have hl2 := hb.l2; have hh1 := hb.h1; have hh2 := hb.h2
 have HD := hH hD
 have e1 : decide (low ≤ 2 * a) = true := by simpa using g1
 have e2 : decide (2 * a ≤ high) = false := by simpa using g2
 clear hD hs hb
 go_enter Tryz.func30, Tryz.ntmps30
 go_wp2_with fail
 go_ret
 exact ⟨rfl, HD.out, Upd.refl _ _⟩
set_option maxHeartbeats 1000000 in
theorem pband_zf (D : Nat) (p : Ptz) (a way low high : Int) (w : World) (hD : Blk w D (ptzL p) 85) (hs : p.Ok) (hb : PbOk a way low high) (hw : way = 0) (g1 : ¬ low ≤ 2 * a) :
  Calls Tryz.prog 30 #[.pointer (some ⟨D, 0, none⟩), .int .i64 a, .int .i64 way, .int .i64 low, .int .i64 high] w fun e w' => e = .returned (.bool false) ∧ Blk w' D (ptzL p) 85 ∧ Upd D w w' := by
 subst hw
 have ha1 := hb.a1; have ha2 := hb.a2; have hw1 := hb.w1; have hw2 := hb.w2; have hl1 := hb.l1; have hl2 := hb.l2; have hh1 := hb.h1; have hh2 := hb.h2
 have HD := hH hD
 have e1 : decide (low ≤ 2 * a) = false := by simpa using g1
 clear hD hs hb
 go_enter Tryz.func30, Tryz.ntmps30
 go_wp2_with fail
 go_ret
 exact ⟨rfl, HD.out, Upd.refl _ _⟩
set_option maxHeartbeats 1000000 in
theorem pband_pos (D : Nat) (p : Ptz) (a way low high : Int) (w : World) (hD : Blk w D (ptzL p) 85) (hs : p.Ok) (hb : PbOk a way low high) (hw : 0 < way) :
  Calls Tryz.prog 30 #[.pointer (some ⟨D, 0, none⟩), .int .i64 a, .int .i64 way, .int .i64 low, .int .i64 high] w fun e w' => e = .returned (.bool true) ∧ Blk w' D (ptzL (earlierZ (laterZ p (low - 2 * a) (2 * way)) (high - 2 * a) (2 * way))) 85 ∧ Upd D w w' := by
 have BD := hD
 have HU : Upd D w w := Upd.refl _ _
 have ha1 := hb.a1; have ha2 := hb.a2; have hw1 := hb.w1; have hw2 := hb.w2; have hl1 := hb.l1; have hl2 := hb.l2; have hh1 := hb.h1; have hh2 := hb.h2
 have e0 : decide (way < 0) = false := by simp; omega
 have e1 : (way == 0) = false := by simp; omega
 obtain ⟨n1, Hn1⟩ : ∃ n, Hid (n = low - 2 * a) := ⟨_, hH rfl⟩
 obtain ⟨n2, Hn2⟩ : ∃ n, Hid (n = high - 2 * a) := ⟨_, hH rfl⟩
 obtain ⟨dd, Hdd⟩ : ∃ d, Hid (d = 2 * way) := ⟨_, hH rfl⟩
 have O1 : Hid (Ok n1 dd) := hH (by rw [Hn1.out, Hdd.out]; exact ⟨by omega, by omega, by omega, by omega⟩)
 have O2 : Hid (Ok n2 dd) := hH (by rw [Hn2.out, Hdd.out]; exact ⟨by omega, by omega, by omega, by omega⟩)
 have N1 : Hid (low - 2 * a = n1) := hH Hn1.out.symm
 have N2 : Hid (high - 2 * a = n2) := hH Hn2.out.symm
 have N3 : Hid (IntKind.i64.wrap (2 * way) = dd) := hH (by rw [IntWalk.i64_in _ (by omega), Hdd.out])
 have HS := hH hs
 have OL := hH (laterZ_ok hs O1.out)
 have HLT := hH (laterZ_t p n1 dd)
 have HEF := hH (earlierZ_f (laterZ p n1 dd) n2 dd)
 rw [← Hn1.out, ← Hn2.out, ← Hdd.out]
 clear hD hs hb
 go_enter Tryz.func30, Tryz.ntmps30
 go_upto_region 6 with (fail)
 refine cG ?_
 refine calm_k (b := D) (o := 0) (st := 14) (ado := .tmp 54) (x := (.tmp 52)) (u := rt (laterZ p n1 dd).fn (laterZ p n1 dd).fd) (by kernel_rfl) BD (by rfl) size_rat (rt_one _ _) (by first | exact Nat.le_refl _ | (simp; done) | decide | (show 0 + 8 ≤ 16; decide)) ?_
 refine cW ?_ ?_ ?_
 refine cW ?_ ?_ ?_
 refine cW ?_ ?_ ?_
 refine cW ?_ ?_ ?_
 refine cX ?_ ?_ (by intro wz hSw; obtain ⟨q0, q1, q2, q3, q4, q5, q6, q7, q8, q9, q10, q11, q12, q13, q14, q15⟩ := c16 (show Blk wz (D) (ptzL p) 85 from hSw.2 _ (List.mem_cons_self ..) rfl ⟨_, rfl, by kernel_rfl⟩); go_simp; all_goals with_reducible rfl) ?_
 refine cX ?_ ?_ (by intro wz hSw; have nn := N1.out; go_simp; all_goals with_reducible rfl) ?_
 refine cC ?_ ?_ ?_ ?_ ?hc9_6 ?_
 case hc9_6 => (intro w hSw; exact wideOf_any n1 (by have := O1.out.n1; omega) (by have := O1.out.n2; omega) w)
 refine cW ?_ ?_ ?_
 refine cX ?_ ?_ (by intro wz hSw; have nn := N3.out; go_simp; all_goals with_reducible rfl) ?_
 refine cC ?_ ?_ ?_ ?_ ?hc9_9 ?_
 case hc9_9 => (intro w hSw; exact wideOf_any dd (by have := O1.out.d1; omega) (by have := O1.out.d2; omega) w)
 refine cW ?_ ?_ ?_
 refine cC ?_ ?_ ?_ ?_ ?hc9_11 ?_
 case hc9_11 => (intro w hSw; exact later_z p n1 dd HS.out O1.out w)
 refine cW ?_ ?_ ?_
 refine cW ?_ ?_ ?_
 refine cB ?_
 refine calm_end ?_
 refine ⟨(by rfl), (by rfl), fun w1 hS D0 => ?_⟩
 have BD : Blk w1 (D) (ptzL (laterZ p n1 dd)) 85 := (by unfold ptzL; rw [HLT.out.1, HLT.out.2]; exact blk_fst D0 rfl)
 have hz1 : w.heap.size ≤ w1.heap.size := hS.size
 have HU := upd_stay HU hS (by simp)
 clear hS D0
 go_upto_region 7 with (fail)
 refine cG ?_
 refine calm_k (b := D) (o := 8) (st := 14) (ado := .tmp 68) (x := (.tmp 66)) (u := rt (earlierZ (laterZ p n1 dd) n2 dd).tn (earlierZ (laterZ p n1 dd) n2 dd).td) (by kernel_rfl) BD (by rfl) size_rat (rt_one _ _) (by first | exact Nat.le_refl _ | (simp; done) | decide | (show 8 + 8 ≤ 16; decide)) ?_
 refine cW ?_ ?_ ?_
 refine cW ?_ ?_ ?_
 refine cW ?_ ?_ ?_
 refine cW ?_ ?_ ?_
 refine cX ?_ ?_ (by intro wz hSw; obtain ⟨q0, q1, q2, q3, q4, q5, q6, q7, q8, q9, q10, q11, q12, q13, q14, q15⟩ := c16 (show Blk wz (D) (ptzL (laterZ p n1 dd)) 85 from hSw.2 _ (List.mem_cons_self ..) rfl ⟨_, rfl, by kernel_rfl⟩); go_simp; all_goals with_reducible rfl) ?_
 refine cX ?_ ?_ (by intro wz hSw; have nn := N2.out; go_simp; all_goals with_reducible rfl) ?_
 refine cC ?_ ?_ ?_ ?_ ?hc10_6 ?_
 case hc10_6 => (intro w hSw; exact wideOf_any n2 (by have := O2.out.n1; omega) (by have := O2.out.n2; omega) w)
 refine cW ?_ ?_ ?_
 refine cX ?_ ?_ (by intro wz hSw; have nn := N3.out; go_simp; all_goals with_reducible rfl) ?_
 refine cC ?_ ?_ ?_ ?_ ?hc10_9 ?_
 case hc10_9 => (intro w hSw; exact wideOf_any dd (by have := O1.out.d1; omega) (by have := O1.out.d2; omega) w)
 refine cW ?_ ?_ ?_
 refine cC ?_ ?_ ?_ ?_ ?hc10_11 ?_
 case hc10_11 => (intro w hSw; exact earlier_z (laterZ p n1 dd) n2 dd OL.out O2.out w)
 refine cW ?_ ?_ ?_
 refine cW ?_ ?_ ?_
 refine cB ?_
 refine calm_end ?_
 refine ⟨(by rfl), (by rfl), fun w2 hS D0 => ?_⟩
 have BD : Blk w2 (D) (ptzL (earlierZ (laterZ p n1 dd) n2 dd)) 85 := (by unfold ptzL; rw [HEF.out.1, HEF.out.2]; exact blk_snd D0 rfl rfl)
 have hz2 : w1.heap.size ≤ w2.heap.size := hS.size
 have HU := upd_stay HU hS (by simp)
 clear hS D0
 go_wp2_with fail
 go_ret
 exact ⟨rfl, BD, HU⟩
set_option maxHeartbeats 1000000 in
theorem pband_neg (D : Nat) (p : Ptz) (a way low high : Int) (w : World) (hD : Blk w D (ptzL p) 85) (hs : p.Ok) (hb : PbOk a way low high) (hw : way < 0) :
  Calls Tryz.prog 30 #[.pointer (some ⟨D, 0, none⟩), .int .i64 a, .int .i64 way, .int .i64 low, .int .i64 high] w fun e w' => e = .returned (.bool true) ∧ Blk w' D (ptzL (earlierZ (laterZ p (-(high - 2 * a)) (2 * (-way))) (-(low - 2 * a)) (2 * (-way)))) 85 ∧ Upd D w w' := by
 have BD := hD
 have HU : Upd D w w := Upd.refl _ _
 have ha1 := hb.a1; have ha2 := hb.a2; have hw1 := hb.w1; have hw2 := hb.w2; have hl1 := hb.l1; have hl2 := hb.l2; have hh1 := hb.h1; have hh2 := hb.h2
 have e0 : decide (way < 0) = true := by simp; omega
 have e1 : (way == 0) = false := by simp; omega
 obtain ⟨n1, Hn1⟩ : ∃ n, Hid (n = -(high - 2 * a)) := ⟨_, hH rfl⟩
 obtain ⟨n2, Hn2⟩ : ∃ n, Hid (n = -(low - 2 * a)) := ⟨_, hH rfl⟩
 obtain ⟨dd, Hdd⟩ : ∃ d, Hid (d = 2 * (-way)) := ⟨_, hH rfl⟩
 have O1 : Hid (Ok n1 dd) := hH (by rw [Hn1.out, Hdd.out]; exact ⟨by omega, by omega, by omega, by omega⟩)
 have O2 : Hid (Ok n2 dd) := hH (by rw [Hn2.out, Hdd.out]; exact ⟨by omega, by omega, by omega, by omega⟩)
 have N1 : Hid (-(high - 2 * a) = n1) := hH Hn1.out.symm
 have N2 : Hid (-(low - 2 * a) = n2) := hH Hn2.out.symm
 have N3 : Hid (IntKind.i64.wrap (2 * (-way)) = dd) := hH (by rw [IntWalk.i64_in _ (by omega), Hdd.out])
 have HS := hH hs
 have OL := hH (laterZ_ok hs O1.out)
 have HLT := hH (laterZ_t p n1 dd)
 have HEF := hH (earlierZ_f (laterZ p n1 dd) n2 dd)
 rw [← Hn1.out, ← Hn2.out, ← Hdd.out]
 clear hD hs hb
 go_enter Tryz.func30, Tryz.ntmps30
 go_upto_region 6 with (fail)
 refine cG ?_
 refine calm_k (b := D) (o := 0) (st := 14) (ado := .tmp 54) (x := (.tmp 52)) (u := rt (laterZ p n1 dd).fn (laterZ p n1 dd).fd) (by kernel_rfl) BD (by rfl) size_rat (rt_one _ _) (by first | exact Nat.le_refl _ | (simp; done) | decide | (show 0 + 8 ≤ 16; decide)) ?_
 refine cW ?_ ?_ ?_
 refine cW ?_ ?_ ?_
 refine cW ?_ ?_ ?_
 refine cW ?_ ?_ ?_
 refine cX ?_ ?_ (by intro wz hSw; obtain ⟨q0, q1, q2, q3, q4, q5, q6, q7, q8, q9, q10, q11, q12, q13, q14, q15⟩ := c16 (show Blk wz (D) (ptzL p) 85 from hSw.2 _ (List.mem_cons_self ..) rfl ⟨_, rfl, by kernel_rfl⟩); go_simp; all_goals with_reducible rfl) ?_
 refine cX ?_ ?_ (by intro wz hSw; have nn := N1.out; go_simp; all_goals with_reducible rfl) ?_
 refine cC ?_ ?_ ?_ ?_ ?hc11_6 ?_
 case hc11_6 => (intro w hSw; exact wideOf_any n1 (by have := O1.out.n1; omega) (by have := O1.out.n2; omega) w)
 refine cW ?_ ?_ ?_
 refine cX ?_ ?_ (by intro wz hSw; have nn := N3.out; go_simp; all_goals with_reducible rfl) ?_
 refine cC ?_ ?_ ?_ ?_ ?hc11_9 ?_
 case hc11_9 => (intro w hSw; exact wideOf_any dd (by have := O1.out.d1; omega) (by have := O1.out.d2; omega) w)
 refine cW ?_ ?_ ?_
 refine cC ?_ ?_ ?_ ?_ ?hc11_11 ?_
 case hc11_11 => (intro w hSw; exact later_z p n1 dd HS.out O1.out w)
 refine cW ?_ ?_ ?_
 refine cW ?_ ?_ ?_
 refine cB ?_
 refine calm_end ?_
 refine ⟨(by rfl), (by rfl), fun w1 hS D0 => ?_⟩
 have BD : Blk w1 (D) (ptzL (laterZ p n1 dd)) 85 := (by unfold ptzL; rw [HLT.out.1, HLT.out.2]; exact blk_fst D0 rfl)
 have hz1 : w.heap.size ≤ w1.heap.size := hS.size
 have HU := upd_stay HU hS (by simp)
 clear hS D0
 go_upto_region 7 with (fail)
 refine cG ?_
 refine calm_k (b := D) (o := 8) (st := 14) (ado := .tmp 68) (x := (.tmp 66)) (u := rt (earlierZ (laterZ p n1 dd) n2 dd).tn (earlierZ (laterZ p n1 dd) n2 dd).td) (by kernel_rfl) BD (by rfl) size_rat (rt_one _ _) (by first | exact Nat.le_refl _ | (simp; done) | decide | (show 8 + 8 ≤ 16; decide)) ?_
 refine cW ?_ ?_ ?_
 refine cW ?_ ?_ ?_
 refine cW ?_ ?_ ?_
 refine cW ?_ ?_ ?_
 refine cX ?_ ?_ (by intro wz hSw; obtain ⟨q0, q1, q2, q3, q4, q5, q6, q7, q8, q9, q10, q11, q12, q13, q14, q15⟩ := c16 (show Blk wz (D) (ptzL (laterZ p n1 dd)) 85 from hSw.2 _ (List.mem_cons_self ..) rfl ⟨_, rfl, by kernel_rfl⟩); go_simp; all_goals with_reducible rfl) ?_
 refine cX ?_ ?_ (by intro wz hSw; have nn := N2.out; go_simp; all_goals with_reducible rfl) ?_
 refine cC ?_ ?_ ?_ ?_ ?hc12_6 ?_
 case hc12_6 => (intro w hSw; exact wideOf_any n2 (by have := O2.out.n1; omega) (by have := O2.out.n2; omega) w)
 refine cW ?_ ?_ ?_
 refine cX ?_ ?_ (by intro wz hSw; have nn := N3.out; go_simp; all_goals with_reducible rfl) ?_
 refine cC ?_ ?_ ?_ ?_ ?hc12_9 ?_
 case hc12_9 => (intro w hSw; exact wideOf_any dd (by have := O1.out.d1; omega) (by have := O1.out.d2; omega) w)
 refine cW ?_ ?_ ?_
 refine cC ?_ ?_ ?_ ?_ ?hc12_11 ?_
 case hc12_11 => (intro w hSw; exact earlier_z (laterZ p n1 dd) n2 dd OL.out O2.out w)
 refine cW ?_ ?_ ?_
 refine cW ?_ ?_ ?_
 refine cB ?_
 refine calm_end ?_
 refine ⟨(by rfl), (by rfl), fun w2 hS D0 => ?_⟩
 have BD : Blk w2 (D) (ptzL (earlierZ (laterZ p n1 dd) n2 dd)) 85 := (by unfold ptzL; rw [HEF.out.1, HEF.out.2]; exact blk_snd D0 rfl rfl)
 have hz2 : w1.heap.size ≤ w2.heap.size := hS.size
 have HU := upd_stay HU hS (by simp)
 clear hS D0
 go_wp2_with fail
 go_ret
 exact ⟨rfl, BD, HU⟩
theorem pband_any (D : Nat) (p : Ptz) (a way low high : Int) (w : World) (hD : Blk w D (ptzL p) 85) (hs : p.Ok) (hb : PbOk a way low high) :
  Calls Tryz.prog 30 #[.pointer (some ⟨D, 0, none⟩), .int .i64 a, .int .i64 way, .int .i64 low, .int .i64 high] w fun e w' => e = .returned (.bool (pbandZ p a way low high).2) ∧ Blk w' D (ptzL (pbandZ p a way low high).1) 85 ∧ Upd D w w' := by
 unfold pbandZ
 by_cases h0 : way = 0
 ·rw [if_pos h0]
  by_cases g1 : low ≤ 2 * a
  ·by_cases g2 : 2 * a ≤ high
   ·rw [show (decide (low ≤ 2 * a) && decide (2 * a ≤ high)) = true by simp [g1, g2]]; exact pband_ztt D p a way low high w hD hs hb h0 g1 g2
   ·rw [show (decide (low ≤ 2 * a) && decide (2 * a ≤ high)) = false by simp [g2]]; exact pband_ztf D p a way low high w hD hs hb h0 g1 g2
  ·rw [show (decide (low ≤ 2 * a) && decide (2 * a ≤ high)) = false by simp [g1]]; exact pband_zf D p a way low high w hD hs hb h0 g1
 ·rw [if_neg h0]
  by_cases h2 : way < 0
  ·rw [if_pos h2]; exact pband_neg D p a way low high w hD hs hb h2
  ·rw [if_neg h2]; exact pband_pos D p a way low high w hD hs hb (by omega)
end Go.Proofs.YthbplhglfjlngaaGreat
namespace Go.Wd
open Go
theorem ptz_one (p : Ptz) : (ptzV p).cells.all (·.oneCell') = true := by unfold ptzV u64; simp [Value.cells, Value.oneCell']
def wholeP : Ptz := ⟨0, 1, 1, 1⟩
theorem wholeP_ok : wholeP.Ok := ⟨⟨by decide, by decide, by decide, by decide⟩, ⟨by decide, by decide, by decide, by decide⟩⟩
def nearX (a c cx size rounds : Int) : Ptz × Bool := pbandZ wholeP a (c - a) (2 * cx * size - rounds * size) (2 * cx * size + rounds * size)
def nearY (a b c d cx cy size rounds : Int) : Ptz × Bool := pbandZ (nearX a c cx size rounds).1 b (d - b) (2 * cy * size - rounds * size) (2 * cy * size + rounds * size)
def nearZ (a b c d cx cy size rounds : Int) : Bool :=
 (nearX a c cx size rounds).2 && ((nearY a b c d cx cy size rounds).2 && decide (cmpR (nearY a b c d cx cy size rounds).1.fn (nearY a b c d cx cy size rounds).1.fd (nearY a b c d cx cy size rounds).1.tn (nearY a b c d cx cy size rounds).1.td ≤ 0))
theorem far_bd {rounds size : Int} (h1 : 0 ≤ rounds) (h2 : rounds ≤ 64) (s1 : 1 ≤ size) (s2 : size ≤ 1048576) : 0 ≤ rounds * size ∧ rounds * size ≤ 67108864 := by
 have h : (rounds * size).natAbs ≤ 64 * 1048576 := by
  rw [Int.natAbs_mul]; exact Nat.mul_le_mul (by omega) (by omega)
 have := Int.mul_nonneg h1 (show (0 : Int) ≤ size by omega)
 omega
theorem pbOk_of {a c x far : Int} (h1 : inB a = true) (h2 : inB c = true) (hx : -4611686018427387904 ≤ x ∧ x ≤ 4611686018427387904) (s1 : 0 ≤ far) (s2 : far ≤ 67108864) : PbOk a (c - a) (x - far) (x + far) := by
 rw [inB_iff] at h1 h2
 exact ⟨by omega, by omega, by omega, by omega, by omega, by omega, by omega, by omega⟩
end Go.Wd
namespace Go.Proofs.YthbplhglfjlngaaGreat
open Go.RowKit Go.Rg Go.Wd
attribute [local go_sem] Oper.semAt_some
theorem info_part : (Tryz.prog.info? 85).map (fun i => (i.zero, i.size)) = some (some (.agg #[.int .u64 0, .int .u64 0, .int .u64 0, .int .u64 0, .int .u64 0, .int .u64 0, .int .u64 0, .int .u64 0, .int .u64 0, .int .u64 0, .int .u64 0, .int .u64 0, .int .u64 0, .int .u64 0, .int .u64 0, .int .u64 0]), 16) := by kernel_rfl
set_option maxHeartbeats 1000000 in
theorem near_tt (a b c d cx cy size rounds : Int) (T : Ptz) (hs : szB size = true) (hg : sgB a b c d = true) (hc : ptB cx cy = true) (h1 : 0 ≤ rounds) (h2 : rounds ≤ 64) (hcut : (nearX a c cx size rounds).2 = true ∧ (nearY a b c d cx cy size rounds).2 = true ∧ (nearY a b c d cx cy size rounds).1 = T ∧ True) (w : World) :
  Calls Tryz.prog 12 #[gV a b c d, pV cx cy, .int .i64 size, .int .i64 rounds] w fun e w' => e = .returned (.bool (decide (cmpR T.fn T.fd T.tn T.td ≤ 0))) ∧ Below w.heap.size w w' := by
 obtain ⟨W0, hW0⟩ : ∃ W0, [.cells #[.int .i64 a, .int .i64 b, .int .i64 c, .int .i64 d] 25, .cells #[.int .i64 cx, .int .i64 cy] 23].foldl World.alloc w = W0 := ⟨_, rfl⟩
 have B0 : Blk W0 (w.heap.size) ([.int .i64 a, .int .i64 b, .int .i64 c, .int .i64 d]) 25 := Blk.allocs _ hW0 0 rfl
 have B1 : Blk W0 (w.heap.size + 1) ([.int .i64 cx, .int .i64 cy]) 23 := Blk.allocs _ hW0 1 rfl
 have HB := aB hW0
 have hsz : w.heap.size + 2 ≤ W0.heap.size := aZ hW0
 simp only [List.foldl_cons, List.foldl_nil] at hW0
 have hg2 := hg
 have hc2 := hc
 have hs2 := hs
 unfold sgB ptB at hg2
 unfold ptB at hc2
 simp only [Bool.and_eq_true] at hg2 hc2
 rw [szB_iff] at hs2
 have px := prod_bd (c := cx) (inB_iff.1 hc2.1).1 (inB_iff.1 hc2.1).2 hs2.1 hs2.2
 have py := prod_bd (c := cy) (inB_iff.1 hc2.2).1 (inB_iff.1 hc2.2).2 hs2.1 hs2.2
 have pf := far_bd h1 h2 hs2.1 hs2.2
 have BX := hH (pbOk_of (x := 2 * cx * size) hg2.1.1 hg2.2.1 px pf.1 pf.2)
 have BY := hH (pbOk_of (x := 2 * cy * size) hg2.1.2 hg2.2.2 py pf.1 pf.2)
 simp only [nearX, nearY] at hcut
 obtain ⟨x0, Hx0⟩ : ∃ x, Hid (x = 2 * cx * size) := ⟨_, hH rfl⟩
 obtain ⟨y0, Hy0⟩ : ∃ y, Hid (y = 2 * cy * size) := ⟨_, hH rfl⟩
 obtain ⟨fr, Hfr⟩ : ∃ f, Hid (f = rounds * size) := ⟨_, hH rfl⟩
 have m1 : IntKind.i64.wrap (2 * cx * size) = x0 := by rw [IntWalk.i64_in _ (by omega), Hx0.out]
 have m2 : IntKind.i64.wrap (2 * cy * size) = y0 := by rw [IntWalk.i64_in _ (by omega), Hy0.out]
 have m3 : IntKind.i64.wrap (2 * cx) = 2 * cx := IntWalk.i64_in _ (by have := (inB_iff.1 hc2.1); omega)
 have m4 : IntKind.i64.wrap (2 * cy) = 2 * cy := IntWalk.i64_in _ (by have := (inB_iff.1 hc2.2); omega)
 have m5 : IntKind.i64.wrap (rounds * size) = fr := by rw [IntWalk.i64_in _ (by omega), Hfr.out]
 rw [← Hx0.out, ← Hfr.out] at BX
 rw [← Hy0.out, ← Hfr.out] at BY
 simp only [← Hx0.out, ← Hfr.out, ← Hy0.out] at hcut
 rw [← Hx0.out] at px
 rw [← Hy0.out] at py
 rw [← Hfr.out] at pf
 have M := hH (And.intro m1 (And.intro m2 (And.intro m3 (And.intro m4 m5))))
 clear m1 m2 m3 m4 m5
 have Hcut := hH hcut
 obtain ⟨ba1, ba2⟩ := inB_iff.1 hg2.1.1
 obtain ⟨bb1, bb2⟩ := inB_iff.1 hg2.1.2
 obtain ⟨bc1, bc2⟩ := inB_iff.1 hg2.2.1
 obtain ⟨bd1, bd2⟩ := inB_iff.1 hg2.2.2
 obtain ⟨px1, px2⟩ := px
 obtain ⟨py1, py2⟩ := py
 obtain ⟨pf1, pf2⟩ := pf
 obtain ⟨sz1, sz2⟩ := hs2
 have NN : Hid (IntKind.i64.wrap (c - a) = c - a ∧ IntKind.i64.wrap (x0 - fr) = x0 - fr ∧ IntKind.i64.wrap (x0 + fr) = x0 + fr ∧ IntKind.i64.wrap (d - b) = d - b ∧ IntKind.i64.wrap (y0 - fr) = y0 - fr ∧ IntKind.i64.wrap (y0 + fr) = y0 + fr) := hH ⟨IntWalk.i64_in _ (by omega), IntWalk.i64_in _ (by omega), IntWalk.i64_in _ (by omega), IntWalk.i64_in _ (by omega), IntWalk.i64_in _ (by omega), IntWalk.i64_in _ (by omega)⟩
 have d1 : decide (rounds < 0) = false := by simp; omega
 have d2 : decide (64 < rounds) = false := by simp; omega
 have Hg := hH hg
 have Hc := hH hc
 have Hs := hH hs
 clear hg hc hs hg2 hc2 hcut
 obtain ⟨S1, HS1⟩ : ∃ S, Hid (S = (pbandZ wholeP a (c - a) (x0 - fr) (x0 + fr)).1) := ⟨_, hH rfl⟩
 obtain ⟨S2, HS2⟩ : ∃ S, Hid (S = (pbandZ S1 b (d - b) (y0 - fr) (y0 + fr)).1) := ⟨_, hH rfl⟩
 have OK0 : Hid (wholeP.Ok) := hH wholeP_ok
 have OK1 : Hid (S1.Ok) := hH (by rw [HS1.out]; exact pbandZ_ok wholeP_ok BX.out)
 have OK2 : Hid (S2.Ok) := hH (by rw [HS2.out]; exact pbandZ_ok OK1.out BY.out)
 have HB1 : Hid (∀ (D : Nat) (w : World), Blk w D (ptzL wholeP) 85 → Calls Tryz.prog 30 #[.pointer (some ⟨D, 0, none⟩), .int .i64 a, .int .i64 (c - a), .int .i64 (x0 - fr), .int .i64 (x0 + fr)] w fun e w' => e = .returned (.bool true) ∧ Blk w' D (ptzL S1) 85 ∧ Upd D w w') := hH (fun D w hD => by
  have := pband_any D wholeP a (c - a) (x0 - fr) (x0 + fr) w hD OK0.out BX.out
  rw [Hcut.out.1, ← HS1.out] at this; exact this)
 have HB2 : Hid (∀ (D : Nat) (w : World), Blk w D (ptzL S1) 85 → Calls Tryz.prog 30 #[.pointer (some ⟨D, 0, none⟩), .int .i64 b, .int .i64 (d - b), .int .i64 (y0 - fr), .int .i64 (y0 + fr)] w fun e w' => e = .returned (.bool true) ∧ Blk w' D (ptzL S2) 85 ∧ Upd D w w') := hH (fun D w hD => by
  have := pband_any D S1 b (d - b) (y0 - fr) (y0 + fr) w hD OK1.out BY.out
  have e := Hcut.out.2.1
  rw [← HS1.out] at e
  rw [e, ← HS2.out] at this; exact this)
 have HT : Hid (T = S2) := hH (by have e := Hcut.out.2.2.1; rw [← HS1.out, ← HS2.out] at e; exact e.symm)
 obtain ⟨cc, Hcc⟩ : ∃ r, Hid (cmpR S2.fn S2.fd S2.tn S2.td = r) := ⟨_, hH rfl⟩
 rw [HT.out, Hcc.out]
 go_enter Tryz.func12, Tryz.ntmps12
 go_upto_region 1 with (fail)
 clear hW0
 refine cP ?_
 refine cN ?_
 refine cW ?_ ?_ ?_
 refine cC ?_ ?_ ?_ ?_ ?hc14_1 ?_
 case hc14_1 => (intro w hSw; exact psize_any size true Hs.out w)
 refine cW ?_ ?_ ?_
 refine cW ?_ ?_ ?_
 refine cX ?_ ?_ (by intro wz hSw; obtain ⟨q0, q1, q2, q3⟩ := c4 (B0.y hSw.1); go_simp; all_goals with_reducible rfl) ?_
 refine cC ?_ ?_ ?_ ?_ ?hc14_5 ?_
 case hc14_5 => (intro w hSw; exact sgRight_any a b c d true Hg.out w)
 refine cW ?_ ?_ ?_
 refine cW ?_ ?_ ?_
 refine cW ?_ ?_ ?_
 refine cX ?_ ?_ (by intro wz hSw; obtain ⟨q0, q1⟩ := c2 (B1.y hSw.1); go_simp; all_goals with_reducible rfl) ?_
 refine cC ?_ ?_ ?_ ?_ ?hc14_10 ?_
 case hc14_10 => (intro w hSw; exact ptRight_any cx cy true Hc.out w)
 refine cW ?_ ?_ ?_
 refine cW ?_ ?_ ?_
 refine cW ?_ ?_ ?_
 refine cW ?_ ?_ ?_
 refine cW ?_ ?_ ?_
 refine cW ?_ ?_ ?_
 refine cW ?_ ?_ ?_
 refine cW ?_ ?_ ?_
 refine cW ?_ ?_ ?_
 refine cW ?_ ?_ ?_
 refine calm_end ?_
 intro w1 hS
 have hS := sO hS
 have B0 := B0.y hS
 have B1 := B1.y hS
 have hz1 : W0.heap.size ≤ w1.heap.size := hS.size
 have HB := gS HB hS
 clear hS
 go_upto_region 3 with (fail)
 refine cG ?_
 refine cN ?_
 refine cW ?_ ?_ ?_
 refine cX ?_ ?_ (by intro wz hSw; obtain ⟨q0, q1⟩ := c2 (B1.y hSw.1); go_simp; all_goals with_reducible rfl) ?_
 refine cX ?_ ?_ (by intro wz hSw; have m3 := M.out.2.2.1; go_simp; all_goals with_reducible rfl) ?_
 refine cW ?_ ?_ ?_
 refine cX ?_ ?_ (by intro wz hSw; have m1 := M.out.1; go_simp; all_goals with_reducible rfl) ?_
 refine cW ?_ ?_ ?_
 refine cX ?_ ?_ (by intro wz hSw; obtain ⟨q0, q1⟩ := c2 (B1.y hSw.1); go_simp; all_goals with_reducible rfl) ?_
 refine cX ?_ ?_ (by intro wz hSw; have m4 := M.out.2.2.2.1; go_simp; all_goals with_reducible rfl) ?_
 refine cW ?_ ?_ ?_
 refine cX ?_ ?_ (by intro wz hSw; have m2 := M.out.2.1; go_simp; all_goals with_reducible rfl) ?_
 refine cW ?_ ?_ ?_
 refine cW ?_ ?_ ?_
 refine cX ?_ ?_ (by intro wz hSw; have m5 := M.out.2.2.2.2; go_simp; all_goals with_reducible rfl) ?_
 refine cW ?_ ?_ ?_
 refine cW ?_ ?_ ?_
 refine cW ?_ ?_ ?_
 refine calm_end ?_
 intro w2 hS
 have hS := sO hS
 have B0 := B0.y hS
 have B1 := B1.y hS
 have hz2 : w1.heap.size ≤ w2.heap.size := hS.size
 have HB := gS HB hS
 clear hS
 clear M
 go_upto_region 4 with (fail)
 refine cP ?_
 refine calm_a (k := 3) (d := 12) (st := 4) (x := (.tmp 51)) (u := ptzV wholeP) (T := 85) (by kernel_rfl) (by rfl) (by rfl) info_part rfl rfl (ptz_one _) ?_
 refine cC ?_ ?_ ?_ ?_ ?hc16_0 ?_
 case hc16_0 => (intro w hSw; exact ratOf_any 0 (by omega) (by omega) w)
 refine cC ?_ ?_ ?_ ?_ ?hc16_1 ?_
 case hc16_1 => (intro w hSw; exact ratOf_any 1 (by omega) (by omega) w)
 refine cW ?_ ?_ ?_
 refine cB ?_
 refine cB ?_
 refine calm_end ?_
 refine ⟨(by rfl), fun b3 w3 hb3 hS D0 => ?_⟩
 have hl3_0 : w.heap.size < b3 := lL B0.lt hb3
 have hl3_1 : w.heap.size + 1 < b3 := lL B1.lt hb3
 have hS := sO hS
 have B0 := B0.y hS
 have B1 := B1.y hS
 have B3 : Blk w3 b3 (ptzL wholeP) 85 := D0
 have hz3 : w2.heap.size ≤ w3.heap.size := hS.size
 have HB := gS HB hS
 clear hS D0
 go_upto_region 5 with (fail)
 refine pl_start ?_
 refine pl_val (v := ?_) (by rfl) ?hy17_0 ?_
 case hy17_0 => (go_simp; all_goals with_reducible rfl)
 (try simp only [td])
 refine pl_val (v := ?_) (by rfl) ?hy17_1 ?_
 case hy17_1 => (go_simp; all_goals with_reducible rfl)
 (try simp only [td])
 refine pl_val (v := ?_) (by rfl) ?hy17_2 ?_
 case hy17_2 => (obtain ⟨q0, q1, q2, q3⟩ := c4 (B0); go_simp; all_goals with_reducible rfl)
 (try simp only [td])
 refine pl_val (v := ?_) (by rfl) ?hy17_3 ?_
 case hy17_3 => (go_simp; all_goals with_reducible rfl)
 (try simp only [td])
 refine pl_val (v := ?_) (by rfl) ?hy17_4 ?_
 case hy17_4 => (go_simp; all_goals with_reducible rfl)
 (try simp only [td])
 refine pl_val (v := ?_) (by rfl) ?hy17_5 ?_
 case hy17_5 => (obtain ⟨q0, q1, q2, q3⟩ := c4 (B0); go_simp; all_goals with_reducible rfl)
 (try simp only [td])
 refine pl_val (v := ?_) (by rfl) ?hy17_6 ?_
 case hy17_6 => (go_simp; all_goals with_reducible rfl)
 (try simp only [td])
 refine pl_val (v := ?_) (by rfl) ?hy17_7 ?_
 case hy17_7 => (go_simp; all_goals with_reducible rfl)
 (try simp only [td])
 refine pl_val (v := ?_) (by rfl) ?hy17_8 ?_
 case hy17_8 => (obtain ⟨q0, q1, q2, q3⟩ := c4 (B0); go_simp; all_goals with_reducible rfl)
 (try simp only [td])
 refine pl_val (v := ?_) (by rfl) ?hy17_9 ?_
 case hy17_9 => (have nn := NN.out.1; go_simp; all_goals with_reducible rfl)
 (try simp only [td])
 refine pl_val (v := ?_) (by rfl) ?hy17_10 ?_
 case hy17_10 => (go_simp; all_goals with_reducible rfl)
 (try simp only [td])
 refine pl_val (v := ?_) (by rfl) ?hy17_11 ?_
 case hy17_11 => (go_simp; all_goals with_reducible rfl)
 (try simp only [td])
 refine pl_val (v := ?_) (by rfl) ?hy17_12 ?_
 case hy17_12 => (have nn := NN.out.2.1; go_simp; all_goals with_reducible rfl)
 (try simp only [td])
 refine pl_val (v := ?_) (by rfl) ?hy17_13 ?_
 case hy17_13 => (go_simp; all_goals with_reducible rfl)
 (try simp only [td])
 refine pl_val (v := ?_) (by rfl) ?hy17_14 ?_
 case hy17_14 => (go_simp; all_goals with_reducible rfl)
 (try simp only [td])
 refine pl_val (v := ?_) (by rfl) ?hy17_15 ?_
 case hy17_15 => (have nn := NN.out.2.2.1; go_simp; all_goals with_reducible rfl)
 (try simp only [td])
 refine pl_call (f := ?_) (args := ?_) (v := ?_) (R := ?_) (by rfl) ?hy17_16 ?hc17_16 ?_
 case hy17_16 => (go_simp; all_goals (first | with_reducible rfl | (constructor <;> with_reducible rfl)))
 case hc17_16 => (exact HB1.out _ _ B3)
 rintro w4 ⟨hD, hu⟩
 have B0 := B0.upd hu (by omega)
 have B1 := B1.upd hu (by omega)
 have hz4 : w3.heap.size ≤ w4.heap.size := hu.size
 have B3 : Blk w4 b3 (ptzL S1) 85 := hD
 have HB := HB.trans (hu.below (B := w.heap.size) (by omega) HB.size)
 clear hu hD
 (try simp only [td])
 refine pl_val (v := ?_) (by rfl) ?hy17_17 ?_
 case hy17_17 => (go_simp; all_goals with_reducible rfl)
 (try simp only [td])
 refine pl_val (v := ?_) (by rfl) ?hy17_18 ?_
 case hy17_18 => (go_simp; all_goals with_reducible rfl)
 (try simp only [td])
 refine pl_val (v := ?_) (by rfl) ?hy17_19 ?_
 case hy17_19 => (go_simp; all_goals with_reducible rfl)
 (try simp only [td])
 refine pl_val (v := ?_) (by rfl) ?hy17_20 ?_
 case hy17_20 => (go_simp; all_goals with_reducible rfl)
 (try simp only [td])
 refine pl_val (v := ?_) (by rfl) ?hy17_21 ?_
 case hy17_21 => (obtain ⟨q0, q1, q2, q3⟩ := c4 (B0); go_simp; all_goals with_reducible rfl)
 (try simp only [td])
 refine pl_val (v := ?_) (by rfl) ?hy17_22 ?_
 case hy17_22 => (go_simp; all_goals with_reducible rfl)
 (try simp only [td])
 refine pl_val (v := ?_) (by rfl) ?hy17_23 ?_
 case hy17_23 => (go_simp; all_goals with_reducible rfl)
 (try simp only [td])
 refine pl_val (v := ?_) (by rfl) ?hy17_24 ?_
 case hy17_24 => (obtain ⟨q0, q1, q2, q3⟩ := c4 (B0); go_simp; all_goals with_reducible rfl)
 (try simp only [td])
 refine pl_val (v := ?_) (by rfl) ?hy17_25 ?_
 case hy17_25 => (go_simp; all_goals with_reducible rfl)
 (try simp only [td])
 refine pl_val (v := ?_) (by rfl) ?hy17_26 ?_
 case hy17_26 => (go_simp; all_goals with_reducible rfl)
 (try simp only [td])
 refine pl_val (v := ?_) (by rfl) ?hy17_27 ?_
 case hy17_27 => (obtain ⟨q0, q1, q2, q3⟩ := c4 (B0); go_simp; all_goals with_reducible rfl)
 (try simp only [td])
 refine pl_val (v := ?_) (by rfl) ?hy17_28 ?_
 case hy17_28 => (have nn := NN.out.2.2.2.1; go_simp; all_goals with_reducible rfl)
 (try simp only [td])
 refine pl_val (v := ?_) (by rfl) ?hy17_29 ?_
 case hy17_29 => (go_simp; all_goals with_reducible rfl)
 (try simp only [td])
 refine pl_val (v := ?_) (by rfl) ?hy17_30 ?_
 case hy17_30 => (go_simp; all_goals with_reducible rfl)
 (try simp only [td])
 refine pl_val (v := ?_) (by rfl) ?hy17_31 ?_
 case hy17_31 => (have nn := NN.out.2.2.2.2.1; go_simp; all_goals with_reducible rfl)
 (try simp only [td])
 refine pl_val (v := ?_) (by rfl) ?hy17_32 ?_
 case hy17_32 => (go_simp; all_goals with_reducible rfl)
 (try simp only [td])
 refine pl_val (v := ?_) (by rfl) ?hy17_33 ?_
 case hy17_33 => (go_simp; all_goals with_reducible rfl)
 (try simp only [td])
 refine pl_val (v := ?_) (by rfl) ?hy17_34 ?_
 case hy17_34 => (have nn := NN.out.2.2.2.2.2; go_simp; all_goals with_reducible rfl)
 (try simp only [td])
 refine pl_call (f := ?_) (args := ?_) (v := ?_) (R := ?_) (by rfl) ?hy17_35 ?hc17_35 ?_
 case hy17_35 => (go_simp; all_goals (first | with_reducible rfl | (constructor <;> with_reducible rfl)))
 case hc17_35 => (exact HB2.out _ _ B3)
 rintro w5 ⟨hD, hu⟩
 have B0 := B0.upd hu (by omega)
 have B1 := B1.upd hu (by omega)
 have hz5 : w4.heap.size ≤ w5.heap.size := hu.size
 have B3 : Blk w5 b3 (ptzL S2) 85 := hD
 have HB := HB.trans (hu.below (B := w.heap.size) (by omega) HB.size)
 clear hu hD
 (try simp only [td])
 refine pl_val (v := ?_) (by rfl) ?hy17_36 ?_
 case hy17_36 => (go_simp; all_goals with_reducible rfl)
 (try simp only [td])
 refine pl_val (v := ?_) (by rfl) ?hy17_37 ?_
 case hy17_37 => (go_simp; all_goals with_reducible rfl)
 (try simp only [td])
 refine pl_end ?_
 go_upto_region 7 with (fail)
 refine cP ?_
 refine cN ?_
 refine cW ?_ ?_ ?_
 refine cX ?_ ?_ (by intro wz hSw; obtain ⟨q0, q1, q2, q3, q4, q5, q6, q7, q8, q9, q10, q11, q12, q13, q14, q15⟩ := c16 (B3.y hSw.1); go_simp; all_goals with_reducible rfl) ?_
 refine cW ?_ ?_ ?_
 refine cX ?_ ?_ (by intro wz hSw; obtain ⟨q0, q1, q2, q3, q4, q5, q6, q7, q8, q9, q10, q11, q12, q13, q14, q15⟩ := c16 (B3.y hSw.1); go_simp; all_goals with_reducible rfl) ?_
 refine cC ?_ ?_ ?_ ?_ ?hc18_4 ?_
 case hc18_4 => (intro w hSw; exact rcmp_b S2.fn S2.fd S2.tn S2.td cc OK2.out.f OK2.out.t Hcc.out w)
 refine cW ?_ ?_ ?_
 refine cW ?_ ?_ ?_
 refine cW ?_ ?_ ?_
 refine cW ?_ ?_ ?_
 refine cW ?_ ?_ ?_
 refine calm_end ?_
 intro w6 hS
 have hS := sO hS
 have B0 := B0.y hS
 have B1 := B1.y hS
 have B3 := B3.y hS
 have hz6 : w5.heap.size ≤ w6.heap.size := hS.size
 have HB := gS HB hS
 clear hS
 go_wp2_with fail
 go_ret
 exact ⟨rfl, HB⟩
theorem near_yes (a b c d cx cy size rounds : Int) (hs : szB size = true) (hg : sgB a b c d = true) (hc : ptB cx cy = true) (h1 : 0 ≤ rounds) (h2 : rounds ≤ 64) (h : nearZ a b c d cx cy size rounds = true) (w : World) :
  Calls Tryz.prog 12 #[gV a b c d, pV cx cy, .int .i64 size, .int .i64 rounds] w fun e w' => e = .returned (.bool true) ∧ Below w.heap.size w w' := by
 unfold nearZ at h
 rw [Bool.and_eq_true, Bool.and_eq_true] at h
 have k := near_tt a b c d cx cy size rounds _ hs hg hc h1 h2 ⟨h.1, h.2.1, rfl, trivial⟩ w
 rw [h.2.2] at k
 exact k
end Go.Proofs.YthbplhglfjlngaaGreat
