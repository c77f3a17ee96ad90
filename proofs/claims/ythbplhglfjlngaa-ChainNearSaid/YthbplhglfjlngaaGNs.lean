/- A segment comes near a square's centre: by the part of the way that lies in both bands, or by no line between them: the same. No program in sight. -/
import Derived.Test.YthbplhglfjlngaaGNr
import Derived.Test.YthbplhglfjlngaaGNh
import Derived.Test.YthbplhglfjlngaaGNm

set_option linter.unusedVariables false
set_option linter.unusedSimpArgs false
namespace Go.Proofs.Ythbplhglfjlngaa
open Go.RowKit Go.Rg Go.Wd
attribute [local go_sem] Oper.semAt_some gv_t gv_f
theorem cmpI_ge0 (z : Int) : 0 ≤ Bg.cmpI z 0 ↔ 0 ≤ z := by unfold Bg.cmpI; split <;> (try split) <;> omega
theorem cmpI_le0 (z : Int) : Bg.cmpI z 0 ≤ 0 ↔ z ≤ 0 := by unfold Bg.cmpI; split <;> (try split) <;> omega
/-- the turn that a corner makes -/
def cornS (a b c d x y far : Int) (i : Nat) : Int := sideZ a b c d (x + (if i % 2 = 1 then -far else far)) (y + (if i / 2 = 1 then -far else far)) 2
def cntL (a b c d x y far : Int) : Nat → Nat
  | 0 => 0
  | i + 1 => if 0 ≤ cornS a b c d x y far i then cntL a b c d x y far i + 1 else cntL a b c d x y far i
def cntR (a b c d x y far : Int) : Nat → Nat
  | 0 => 0
  | i + 1 => if cornS a b c d x y far i ≤ 0 then cntR a b c d x y far i + 1 else cntR a b c d x y far i
theorem cntL_succ (a b c d x y far : Int) (i : Nat) : cntL a b c d x y far (i + 1) = if 0 ≤ cornS a b c d x y far i then cntL a b c d x y far i + 1 else cntL a b c d x y far i := rfl
theorem cntR_succ (a b c d x y far : Int) (i : Nat) : cntR a b c d x y far (i + 1) = if cornS a b c d x y far i ≤ 0 then cntR a b c d x y far i + 1 else cntR a b c d x y far i := rfl
theorem cntL_le (a b c d x y far : Int) : ∀ i, cntL a b c d x y far i ≤ i
  | 0 => Nat.le_refl _
  | i + 1 => by have := cntL_le a b c d x y far i; rw [cntL_succ]; split <;> omega
theorem cntR_le (a b c d x y far : Int) : ∀ i, cntR a b c d x y far i ≤ i
  | 0 => Nat.le_refl _
  | i + 1 => by have := cntR_le a b c d x y far i; rw [cntR_succ]; split <;> omega
def preB (a b c d x y far : Int) : Bool := (decide (2 * a < x - far) && decide (2 * c < x - far)) || (decide (x + far < 2 * a) && decide (x + far < 2 * c)) || (decide (2 * b < y - far) && decide (2 * d < y - far)) || (decide (y + far < 2 * b) && decide (y + far < 2 * d))
def cntB (l r : Nat) : Bool := (decide (l < 4) && decide (r < 4)) || (decide (l = 4) && decide (0 < r)) || (decide (r = 4) && decide (0 < l))
/-- the document's answer -/
def docN (a b c d x y far : Int) : Bool := !preB a b c d x y far && cntB (cntL a b c d x y far 4) (cntR a b c d x y far 4)

set_option maxRecDepth 100000 in
set_option maxHeartbeats 16000000 in
theorem near17_any (a b c d x y far : Int) (w : World) (ha : a.natAbs ≤ 2199023255552) (hb' : b.natAbs ≤ 2199023255552) (hc : c.natAbs ≤ 2199023255552) (hd : d.natAbs ≤ 2199023255552) (hx : x.natAbs ≤ 4611686018427387904) (hy : y.natAbs ≤ 4611686018427387904) (hf1 : 0 ≤ far) (hf2 : far ≤ 67108864) :
    Calls Try.prog 9 #[.agg #[.int .i64 a, .int .i64 b], .agg #[.int .i64 c, .int .i64 d], .int .i64 x, .int .i64 y, .int .i64 far] w fun e w' => e = .returned (.bool (docN a b c d x y far)) ∧ Below w.heap.size w w' := by
  obtain ⟨W0, hW0⟩ : ∃ W0, [.cells #[.int .i64 a, .int .i64 b] 30, .cells #[.int .i64 c, .int .i64 d] 30].foldl World.alloc w = W0 := ⟨_, rfl⟩
  have B5 : Blk W0 w.heap.size [.int .i64 a, .int .i64 b] 30 := Blk.allocs _ hW0 0 rfl
  have B6 : Blk W0 (w.heap.size + 1) [.int .i64 c, .int .i64 d] 30 := Blk.allocs _ hW0 1 rfl
  have HB0 : Below w.heap.size w W0 := hW0 ▸ allocs_below _ w
  simp only [List.foldl_cons, List.foldl_nil] at hW0
  have H5 := Lib.hid B5
  have H6 := Lib.hid B6
  have HB := Lib.hid HB0
  obtain ⟨x0, x1⟩ := c2 B5
  obtain ⟨x2, x3⟩ := c2 B6
  obtain ⟨res, Hres⟩ : ∃ p, Hid (p = docN a b c d x y far) := ⟨_, Lib.hid rfl⟩
  rw [← Hres.out]
  clear B5 B6 HB0
  go_enter Try.func9, Try.ntmps9
  go_upto_region 1 with (fail)
  (try rw [hW0])
  clear hW0
  have tma : IntKind.i64.wrap (2 * a) = 2 * a := by rw [IntKind.wrap_i64]; omega
  have tmb : IntKind.i64.wrap (2 * b) = 2 * b := by rw [IntKind.wrap_i64]; omega
  have tmc : IntKind.i64.wrap (2 * c) = 2 * c := by rw [IntKind.wrap_i64]; omega
  have tmd : IntKind.i64.wrap (2 * d) = 2 * d := by rw [IntKind.wrap_i64]; omega
  have tsx : IntKind.i64.wrap (x - far) = x - far := by rw [IntKind.wrap_i64]; omega
  have tsy : IntKind.i64.wrap (y - far) = y - far := by rw [IntKind.wrap_i64]; omega
  have tax : IntKind.i64.wrap (x + far) = x + far := by rw [IntKind.wrap_i64]; omega
  have tay : IntKind.i64.wrap (y + far) = y + far := by rw [IntKind.wrap_i64]; omega
  obtain ⟨A7, HA7⟩ : ∃ bq : Bool, Hid (decide (y + far < 2 * d) = bq) := ⟨_, Lib.hid rfl⟩
  obtain ⟨A6, HA6⟩ : ∃ bq : Bool, Hid (decide (y + far < 2 * b) = bq) := ⟨_, Lib.hid rfl⟩
  obtain ⟨A5, HA5⟩ : ∃ bq : Bool, Hid (decide (2 * d < y - far) = bq) := ⟨_, Lib.hid rfl⟩
  obtain ⟨A4, HA4⟩ : ∃ bq : Bool, Hid (decide (2 * b < y - far) = bq) := ⟨_, Lib.hid rfl⟩
  obtain ⟨A3, HA3⟩ : ∃ bq : Bool, Hid (decide (x + far < 2 * c) = bq) := ⟨_, Lib.hid rfl⟩
  obtain ⟨A2, HA2⟩ : ∃ bq : Bool, Hid (decide (x + far < 2 * a) = bq) := ⟨_, Lib.hid rfl⟩
  obtain ⟨A1, HA1⟩ : ∃ bq : Bool, Hid (decide (2 * c < x - far) = bq) := ⟨_, Lib.hid rfl⟩
  obtain ⟨A0, HA0⟩ : ∃ bq : Bool, Hid (decide (2 * a < x - far) = bq) := ⟨_, Lib.hid rfl⟩
  obtain ⟨Q0, HQ0⟩ : ∃ bq : Bool, Hid ((A0 && A1) = bq) := ⟨_, Lib.hid rfl⟩
  obtain ⟨Q1, HQ1⟩ : ∃ bq : Bool, Hid ((A2 && A3) = bq) := ⟨_, Lib.hid rfl⟩
  obtain ⟨Q2, HQ2⟩ : ∃ bq : Bool, Hid ((A4 && A5) = bq) := ⟨_, Lib.hid rfl⟩
  obtain ⟨Q3, HQ3⟩ : ∃ bq : Bool, Hid ((A6 && A7) = bq) := ⟨_, Lib.hid rfl⟩
  obtain ⟨K1, HK1⟩ : ∃ bq : Bool, Hid ((Q0 || Q1) = bq) := ⟨_, Lib.hid rfl⟩
  obtain ⟨K2, HK2⟩ : ∃ bq : Bool, Hid ((K1 || Q2) = bq) := ⟨_, Lib.hid rfl⟩
  obtain ⟨K3, HK3⟩ : ∃ bq : Bool, Hid ((K2 || Q3) = bq) := ⟨_, Lib.hid rfl⟩
  refine pl_start ?_
  simp only [List.append_eq, List.cons_append, List.nil_append]
  refine pl_val (v := .pointer (some ⟨w.heap.size, 0, none⟩)) (by rfl) ?hy0 ?_
  case hy0 => ((go_simp))
  (try simp only [Act.put, tdA, tdB, tdC])
  refine pl_val (v := .int .i64 a) (by rfl) ?hy1 ?_
  case hy1 => ((go_simp))
  (try simp only [Act.put, tdA, tdB, tdC])
  refine pl_val (v := .int .i64 (2 * a)) (by rfl) ?hy2 ?_
  case hy2 => ((have nn := tma; go_simp))
  (try simp only [Act.put, tdA, tdB, tdC])
  refine pl_val (v := .int .i64 x) (by rfl) ?hy3 ?_
  case hy3 => ((go_simp))
  (try simp only [Act.put, tdA, tdB, tdC])
  refine pl_val (v := .int .i64 far) (by rfl) ?hy4 ?_
  case hy4 => ((go_simp))
  (try simp only [Act.put, tdA, tdB, tdC])
  refine pl_val (v := .int .i64 (x - far)) (by rfl) ?hy5 ?_
  case hy5 => ((have nn := tsx; go_simp))
  (try simp only [Act.put, tdA, tdB, tdC])
  refine pl_val (v := .bool A0) (by rfl) ?hy6 ?_
  case hy6 => ((have nn := HA0.out; go_simp))
  (try simp only [Act.put, tdA, tdB, tdC])
  refine pl_val (v := .bool A0) (by rfl) ?hy7 ?_
  case hy7 => ((go_simp))
  (try simp only [Act.put, tdA, tdB, tdC])
  refine pl_grd (A0) (.pointer (some ⟨w.heap.size + 1, 0, none⟩)) ?hw8 ?hy8 ?_
  case hw8 => (cases A0 <;> rfl)
  case hy8 => (intro hbb; cases A0 <;> first | (exact absurd hbb (by decide)) | (go_simp))
  (try simp only [Act.put, tdA, tdB, tdC])
  refine pl_grd (A0) (.int .i64 c) ?hw9 ?hy9 ?_
  case hw9 => (cases A0 <;> rfl)
  case hy9 => (intro hbb; cases A0 <;> first | (exact absurd hbb (by decide)) | (go_simp))
  (try simp only [Act.put, tdA, tdB, tdC])
  refine pl_grd (A0) (.int .i64 (2 * c)) ?hw10 ?hy10 ?_
  case hw10 => (cases A0 <;> rfl)
  case hy10 => (intro hbb; cases A0 <;> first | (exact absurd hbb (by decide)) | (have nn := tmc; go_simp))
  (try simp only [Act.put, tdA, tdB, tdC])
  refine pl_grd (A0) (.int .i64 x) ?hw11 ?hy11 ?_
  case hw11 => (cases A0 <;> rfl)
  case hy11 => (intro hbb; cases A0 <;> first | (exact absurd hbb (by decide)) | (go_simp))
  (try simp only [Act.put, tdA, tdB, tdC])
  refine pl_grd (A0) (.int .i64 far) ?hw12 ?hy12 ?_
  case hw12 => (cases A0 <;> rfl)
  case hy12 => (intro hbb; cases A0 <;> first | (exact absurd hbb (by decide)) | (go_simp))
  (try simp only [Act.put, tdA, tdB, tdC])
  refine pl_grd (A0) (.int .i64 (x - far)) ?hw13 ?hy13 ?_
  case hw13 => (cases A0 <;> rfl)
  case hy13 => (intro hbb; cases A0 <;> first | (exact absurd hbb (by decide)) | (have nn := tsx; go_simp))
  (try simp only [Act.put, tdA, tdB, tdC])
  refine pl_grd (A0) (.bool A1) ?hw14 ?hy14 ?_
  case hw14 => (cases A0 <;> rfl)
  case hy14 => (intro hbb; cases A0 <;> first | (exact absurd hbb (by decide)) | (have nn := HA1.out; go_simp))
  (try simp only [Act.put, tdA, tdB, tdC])
  refine pl_val (v := .bool Q0) (by rfl) ?hy15 ?_
  case hy15 => (rw [← HQ0.out]; cases A0 <;> cases A1 <;> (go_simp))
  (try simp only [Act.put, tdA, tdB, tdC])
  refine pl_val (v := .bool Q0) (by rfl) ?hy16 ?_
  case hy16 => ((go_simp))
  (try simp only [Act.put, tdA, tdB, tdC])
  refine pl_grd (!Q0) (.pointer (some ⟨w.heap.size, 0, none⟩)) ?hw17 ?hy17 ?_
  case hw17 => (cases Q0 <;> rfl)
  case hy17 => (intro hbb; cases Q0 <;> first | (exact absurd hbb (by decide)) | (go_simp))
  (try simp only [Act.put, tdA, tdB, tdC])
  refine pl_grd (!Q0) (.int .i64 a) ?hw18 ?hy18 ?_
  case hw18 => (cases Q0 <;> rfl)
  case hy18 => (intro hbb; cases Q0 <;> first | (exact absurd hbb (by decide)) | (go_simp))
  (try simp only [Act.put, tdA, tdB, tdC])
  refine pl_grd (!Q0) (.int .i64 (2 * a)) ?hw19 ?hy19 ?_
  case hw19 => (cases Q0 <;> rfl)
  case hy19 => (intro hbb; cases Q0 <;> first | (exact absurd hbb (by decide)) | (have nn := tma; go_simp))
  (try simp only [Act.put, tdA, tdB, tdC])
  refine pl_grd (!Q0) (.int .i64 x) ?hw20 ?hy20 ?_
  case hw20 => (cases Q0 <;> rfl)
  case hy20 => (intro hbb; cases Q0 <;> first | (exact absurd hbb (by decide)) | (go_simp))
  (try simp only [Act.put, tdA, tdB, tdC])
  refine pl_grd (!Q0) (.int .i64 far) ?hw21 ?hy21 ?_
  case hw21 => (cases Q0 <;> rfl)
  case hy21 => (intro hbb; cases Q0 <;> first | (exact absurd hbb (by decide)) | (go_simp))
  (try simp only [Act.put, tdA, tdB, tdC])
  refine pl_grd (!Q0) (.int .i64 (x + far)) ?hw22 ?hy22 ?_
  case hw22 => (cases Q0 <;> rfl)
  case hy22 => (intro hbb; cases Q0 <;> first | (exact absurd hbb (by decide)) | (have nn := tax; go_simp))
  (try simp only [Act.put, tdA, tdB, tdC])
  refine pl_grd (!Q0) (.bool A2) ?hw23 ?hy23 ?_
  case hw23 => (cases Q0 <;> rfl)
  case hy23 => (intro hbb; cases Q0 <;> first | (exact absurd hbb (by decide)) | (have nn := HA2.out; go_simp))
  (try simp only [Act.put, tdA, tdB, tdC])
  refine pl_grd (!Q0) (.bool A2) ?hw24 ?hy24 ?_
  case hw24 => (cases Q0 <;> rfl)
  case hy24 => (intro hbb; cases Q0 <;> first | (exact absurd hbb (by decide)) | (go_simp))
  (try simp only [Act.put, tdA, tdB, tdC])
  refine pl_grd (!Q0 && A2) (.pointer (some ⟨w.heap.size + 1, 0, none⟩)) ?hw25 ?hy25 ?_
  case hw25 => (cases A2 <;> cases Q0 <;> rfl)
  case hy25 => (intro hbb; cases A2 <;> cases Q0 <;> first | (exact absurd hbb (by decide)) | (go_simp))
  (try simp only [Act.put, tdA, tdB, tdC])
  refine pl_grd (!Q0 && A2) (.int .i64 c) ?hw26 ?hy26 ?_
  case hw26 => (cases A2 <;> cases Q0 <;> rfl)
  case hy26 => (intro hbb; cases A2 <;> cases Q0 <;> first | (exact absurd hbb (by decide)) | (go_simp))
  (try simp only [Act.put, tdA, tdB, tdC])
  refine pl_grd (!Q0 && A2) (.int .i64 (2 * c)) ?hw27 ?hy27 ?_
  case hw27 => (cases A2 <;> cases Q0 <;> rfl)
  case hy27 => (intro hbb; cases A2 <;> cases Q0 <;> first | (exact absurd hbb (by decide)) | (have nn := tmc; go_simp))
  (try simp only [Act.put, tdA, tdB, tdC])
  refine pl_grd (!Q0 && A2) (.int .i64 x) ?hw28 ?hy28 ?_
  case hw28 => (cases A2 <;> cases Q0 <;> rfl)
  case hy28 => (intro hbb; cases A2 <;> cases Q0 <;> first | (exact absurd hbb (by decide)) | (go_simp))
  (try simp only [Act.put, tdA, tdB, tdC])
  refine pl_grd (!Q0 && A2) (.int .i64 far) ?hw29 ?hy29 ?_
  case hw29 => (cases A2 <;> cases Q0 <;> rfl)
  case hy29 => (intro hbb; cases A2 <;> cases Q0 <;> first | (exact absurd hbb (by decide)) | (go_simp))
  (try simp only [Act.put, tdA, tdB, tdC])
  refine pl_grd (!Q0 && A2) (.int .i64 (x + far)) ?hw30 ?hy30 ?_
  case hw30 => (cases A2 <;> cases Q0 <;> rfl)
  case hy30 => (intro hbb; cases A2 <;> cases Q0 <;> first | (exact absurd hbb (by decide)) | (have nn := tax; go_simp))
  (try simp only [Act.put, tdA, tdB, tdC])
  refine pl_grd (!Q0 && A2) (.bool A3) ?hw31 ?hy31 ?_
  case hw31 => (cases A2 <;> cases Q0 <;> rfl)
  case hy31 => (intro hbb; cases A2 <;> cases Q0 <;> first | (exact absurd hbb (by decide)) | (have nn := HA3.out; go_simp))
  (try simp only [Act.put, tdA, tdB, tdC])
  refine pl_grd (!Q0) (.bool Q1) ?hw32 ?hy32 ?_
  case hw32 => (cases A2 <;> cases A3 <;> cases Q0 <;> rfl)
  case hy32 => (intro hbb; rw [← HQ1.out]; cases A2 <;> cases A3 <;> cases Q0 <;> first | (exact absurd hbb (by decide)) | (go_simp))
  (try simp only [Act.put, tdA, tdB, tdC])
  refine pl_val (v := .bool K1) (by rfl) ?hy33 ?_
  case hy33 => (rw [← HK1.out]; cases Q0 <;> cases Q1 <;> (go_simp))
  (try simp only [Act.put, tdA, tdB, tdC])
  refine pl_val (v := .bool K1) (by rfl) ?hy34 ?_
  case hy34 => ((go_simp))
  (try simp only [Act.put, tdA, tdB, tdC])
  refine pl_grd (!K1) (.pointer (some ⟨w.heap.size, 1, none⟩)) ?hw35 ?hy35 ?_
  case hw35 => (cases K1 <;> rfl)
  case hy35 => (intro hbb; cases K1 <;> first | (exact absurd hbb (by decide)) | (go_simp))
  (try simp only [Act.put, tdA, tdB, tdC])
  refine pl_grd (!K1) (.int .i64 b) ?hw36 ?hy36 ?_
  case hw36 => (cases K1 <;> rfl)
  case hy36 => (intro hbb; cases K1 <;> first | (exact absurd hbb (by decide)) | (go_simp))
  (try simp only [Act.put, tdA, tdB, tdC])
  refine pl_grd (!K1) (.int .i64 (2 * b)) ?hw37 ?hy37 ?_
  case hw37 => (cases K1 <;> rfl)
  case hy37 => (intro hbb; cases K1 <;> first | (exact absurd hbb (by decide)) | (have nn := tmb; go_simp))
  (try simp only [Act.put, tdA, tdB, tdC])
  refine pl_grd (!K1) (.int .i64 y) ?hw38 ?hy38 ?_
  case hw38 => (cases K1 <;> rfl)
  case hy38 => (intro hbb; cases K1 <;> first | (exact absurd hbb (by decide)) | (go_simp))
  (try simp only [Act.put, tdA, tdB, tdC])
  refine pl_grd (!K1) (.int .i64 far) ?hw39 ?hy39 ?_
  case hw39 => (cases K1 <;> rfl)
  case hy39 => (intro hbb; cases K1 <;> first | (exact absurd hbb (by decide)) | (go_simp))
  (try simp only [Act.put, tdA, tdB, tdC])
  refine pl_grd (!K1) (.int .i64 (y - far)) ?hw40 ?hy40 ?_
  case hw40 => (cases K1 <;> rfl)
  case hy40 => (intro hbb; cases K1 <;> first | (exact absurd hbb (by decide)) | (have nn := tsy; go_simp))
  (try simp only [Act.put, tdA, tdB, tdC])
  refine pl_grd (!K1) (.bool A4) ?hw41 ?hy41 ?_
  case hw41 => (cases K1 <;> rfl)
  case hy41 => (intro hbb; cases K1 <;> first | (exact absurd hbb (by decide)) | (have nn := HA4.out; go_simp))
  (try simp only [Act.put, tdA, tdB, tdC])
  refine pl_grd (!K1) (.bool A4) ?hw42 ?hy42 ?_
  case hw42 => (cases K1 <;> rfl)
  case hy42 => (intro hbb; cases K1 <;> first | (exact absurd hbb (by decide)) | (go_simp))
  (try simp only [Act.put, tdA, tdB, tdC])
  refine pl_grd (!K1 && A4) (.pointer (some ⟨w.heap.size + 1, 1, none⟩)) ?hw43 ?hy43 ?_
  case hw43 => (cases A4 <;> cases K1 <;> rfl)
  case hy43 => (intro hbb; cases A4 <;> cases K1 <;> first | (exact absurd hbb (by decide)) | (go_simp))
  (try simp only [Act.put, tdA, tdB, tdC])
  refine pl_grd (!K1 && A4) (.int .i64 d) ?hw44 ?hy44 ?_
  case hw44 => (cases A4 <;> cases K1 <;> rfl)
  case hy44 => (intro hbb; cases A4 <;> cases K1 <;> first | (exact absurd hbb (by decide)) | (go_simp))
  (try simp only [Act.put, tdA, tdB, tdC])
  refine pl_grd (!K1 && A4) (.int .i64 (2 * d)) ?hw45 ?hy45 ?_
  case hw45 => (cases A4 <;> cases K1 <;> rfl)
  case hy45 => (intro hbb; cases A4 <;> cases K1 <;> first | (exact absurd hbb (by decide)) | (have nn := tmd; go_simp))
  (try simp only [Act.put, tdA, tdB, tdC])
  refine pl_grd (!K1 && A4) (.int .i64 y) ?hw46 ?hy46 ?_
  case hw46 => (cases A4 <;> cases K1 <;> rfl)
  case hy46 => (intro hbb; cases A4 <;> cases K1 <;> first | (exact absurd hbb (by decide)) | (go_simp))
  (try simp only [Act.put, tdA, tdB, tdC])
  refine pl_grd (!K1 && A4) (.int .i64 far) ?hw47 ?hy47 ?_
  case hw47 => (cases A4 <;> cases K1 <;> rfl)
  case hy47 => (intro hbb; cases A4 <;> cases K1 <;> first | (exact absurd hbb (by decide)) | (go_simp))
  (try simp only [Act.put, tdA, tdB, tdC])
  refine pl_grd (!K1 && A4) (.int .i64 (y - far)) ?hw48 ?hy48 ?_
  case hw48 => (cases A4 <;> cases K1 <;> rfl)
  case hy48 => (intro hbb; cases A4 <;> cases K1 <;> first | (exact absurd hbb (by decide)) | (have nn := tsy; go_simp))
  (try simp only [Act.put, tdA, tdB, tdC])
  refine pl_grd (!K1 && A4) (.bool A5) ?hw49 ?hy49 ?_
  case hw49 => (cases A4 <;> cases K1 <;> rfl)
  case hy49 => (intro hbb; cases A4 <;> cases K1 <;> first | (exact absurd hbb (by decide)) | (have nn := HA5.out; go_simp))
  (try simp only [Act.put, tdA, tdB, tdC])
  refine pl_grd (!K1) (.bool Q2) ?hw50 ?hy50 ?_
  case hw50 => (cases A4 <;> cases A5 <;> cases K1 <;> rfl)
  case hy50 => (intro hbb; rw [← HQ2.out]; cases A4 <;> cases A5 <;> cases K1 <;> first | (exact absurd hbb (by decide)) | (go_simp))
  (try simp only [Act.put, tdA, tdB, tdC])
  refine pl_val (v := .bool K2) (by rfl) ?hy51 ?_
  case hy51 => (rw [← HK2.out]; cases K1 <;> cases Q2 <;> (go_simp))
  (try simp only [Act.put, tdA, tdB, tdC])
  refine pl_val (v := .bool K2) (by rfl) ?hy52 ?_
  case hy52 => ((go_simp))
  (try simp only [Act.put, tdA, tdB, tdC])
  refine pl_grd (!K2) (.pointer (some ⟨w.heap.size, 1, none⟩)) ?hw53 ?hy53 ?_
  case hw53 => (cases K2 <;> rfl)
  case hy53 => (intro hbb; cases K2 <;> first | (exact absurd hbb (by decide)) | (go_simp))
  (try simp only [Act.put, tdA, tdB, tdC])
  refine pl_grd (!K2) (.int .i64 b) ?hw54 ?hy54 ?_
  case hw54 => (cases K2 <;> rfl)
  case hy54 => (intro hbb; cases K2 <;> first | (exact absurd hbb (by decide)) | (go_simp))
  (try simp only [Act.put, tdA, tdB, tdC])
  refine pl_grd (!K2) (.int .i64 (2 * b)) ?hw55 ?hy55 ?_
  case hw55 => (cases K2 <;> rfl)
  case hy55 => (intro hbb; cases K2 <;> first | (exact absurd hbb (by decide)) | (have nn := tmb; go_simp))
  (try simp only [Act.put, tdA, tdB, tdC])
  refine pl_grd (!K2) (.int .i64 y) ?hw56 ?hy56 ?_
  case hw56 => (cases K2 <;> rfl)
  case hy56 => (intro hbb; cases K2 <;> first | (exact absurd hbb (by decide)) | (go_simp))
  (try simp only [Act.put, tdA, tdB, tdC])
  refine pl_grd (!K2) (.int .i64 far) ?hw57 ?hy57 ?_
  case hw57 => (cases K2 <;> rfl)
  case hy57 => (intro hbb; cases K2 <;> first | (exact absurd hbb (by decide)) | (go_simp))
  (try simp only [Act.put, tdA, tdB, tdC])
  refine pl_grd (!K2) (.int .i64 (y + far)) ?hw58 ?hy58 ?_
  case hw58 => (cases K2 <;> rfl)
  case hy58 => (intro hbb; cases K2 <;> first | (exact absurd hbb (by decide)) | (have nn := tay; go_simp))
  (try simp only [Act.put, tdA, tdB, tdC])
  refine pl_grd (!K2) (.bool A6) ?hw59 ?hy59 ?_
  case hw59 => (cases K2 <;> rfl)
  case hy59 => (intro hbb; cases K2 <;> first | (exact absurd hbb (by decide)) | (have nn := HA6.out; go_simp))
  (try simp only [Act.put, tdA, tdB, tdC])
  refine pl_grd (!K2) (.bool A6) ?hw60 ?hy60 ?_
  case hw60 => (cases K2 <;> rfl)
  case hy60 => (intro hbb; cases K2 <;> first | (exact absurd hbb (by decide)) | (go_simp))
  (try simp only [Act.put, tdA, tdB, tdC])
  refine pl_grd (!K2 && A6) (.pointer (some ⟨w.heap.size + 1, 1, none⟩)) ?hw61 ?hy61 ?_
  case hw61 => (cases A6 <;> cases K2 <;> rfl)
  case hy61 => (intro hbb; cases A6 <;> cases K2 <;> first | (exact absurd hbb (by decide)) | (go_simp))
  (try simp only [Act.put, tdA, tdB, tdC])
  refine pl_grd (!K2 && A6) (.int .i64 d) ?hw62 ?hy62 ?_
  case hw62 => (cases A6 <;> cases K2 <;> rfl)
  case hy62 => (intro hbb; cases A6 <;> cases K2 <;> first | (exact absurd hbb (by decide)) | (go_simp))
  (try simp only [Act.put, tdA, tdB, tdC])
  refine pl_grd (!K2 && A6) (.int .i64 (2 * d)) ?hw63 ?hy63 ?_
  case hw63 => (cases A6 <;> cases K2 <;> rfl)
  case hy63 => (intro hbb; cases A6 <;> cases K2 <;> first | (exact absurd hbb (by decide)) | (have nn := tmd; go_simp))
  (try simp only [Act.put, tdA, tdB, tdC])
  refine pl_grd (!K2 && A6) (.int .i64 y) ?hw64 ?hy64 ?_
  case hw64 => (cases A6 <;> cases K2 <;> rfl)
  case hy64 => (intro hbb; cases A6 <;> cases K2 <;> first | (exact absurd hbb (by decide)) | (go_simp))
  (try simp only [Act.put, tdA, tdB, tdC])
  refine pl_grd (!K2 && A6) (.int .i64 far) ?hw65 ?hy65 ?_
  case hw65 => (cases A6 <;> cases K2 <;> rfl)
  case hy65 => (intro hbb; cases A6 <;> cases K2 <;> first | (exact absurd hbb (by decide)) | (go_simp))
  (try simp only [Act.put, tdA, tdB, tdC])
  refine pl_grd (!K2 && A6) (.int .i64 (y + far)) ?hw66 ?hy66 ?_
  case hw66 => (cases A6 <;> cases K2 <;> rfl)
  case hy66 => (intro hbb; cases A6 <;> cases K2 <;> first | (exact absurd hbb (by decide)) | (have nn := tay; go_simp))
  (try simp only [Act.put, tdA, tdB, tdC])
  refine pl_grd (!K2 && A6) (.bool A7) ?hw67 ?hy67 ?_
  case hw67 => (cases A6 <;> cases K2 <;> rfl)
  case hy67 => (intro hbb; cases A6 <;> cases K2 <;> first | (exact absurd hbb (by decide)) | (have nn := HA7.out; go_simp))
  (try simp only [Act.put, tdA, tdB, tdC])
  refine pl_grd (!K2) (.bool Q3) ?hw68 ?hy68 ?_
  case hw68 => (cases A6 <;> cases A7 <;> cases K2 <;> rfl)
  case hy68 => (intro hbb; rw [← HQ3.out]; cases A6 <;> cases A7 <;> cases K2 <;> first | (exact absurd hbb (by decide)) | (go_simp))
  (try simp only [Act.put, tdA, tdB, tdC])
  refine pl_val (v := .bool K3) (by rfl) ?hy69 ?_
  case hy69 => (rw [← HK3.out]; cases K2 <;> cases Q3 <;> (go_simp))
  (try simp only [Act.put, tdA, tdB, tdC])
  refine pl_end ?_
  have Hpre : Hid (K3 = preB a b c d x y far) := Lib.hid (by rw [← HK3.out, ← HK2.out, ← HK1.out, ← HQ0.out, ← HQ1.out, ← HQ2.out, ← HQ3.out, ← HA0.out, ← HA1.out, ← HA2.out, ← HA3.out, ← HA4.out, ← HA5.out, ← HA6.out, ← HA7.out]; rfl)
  clear x0 x1 x2 x3
  cases K3 with
  | true =>
    have hr : res = false := by rw [Hres.out]; unfold docN; rw [← Hpre.out]; rfl
    subst hr
    clear Hres
    go_wp2_with fail
    go_ret
    exact ⟨rfl, HB.out⟩
  | false =>
    have Hr : Hid (res = cntB (cntL a b c d x y far 4) (cntR a b c d x y far 4)) := Lib.hid (by rw [Hres.out]; unfold docN; rw [← Hpre.out]; rfl)
    clear Hres Hpre
    go_wp2_with fail
    go_loopg [11, 12, 13] 4 (fun q s11 s12 s13 wx => ∃ (i l r : Nat), i + q = 4 ∧ (cntL a b c d x y far i : Int) = (l : Int) ∧ (cntR a b c d x y far i : Int) = (r : Int) ∧ s11 = .int .i64 (l : Int) ∧ s12 = .int .i64 (r : Int) ∧ s13 = .int .i64 (i : Int) ∧ l ≤ 4 ∧ r ≤ 4 ∧ Hid (Below w.heap.size w wx) ∧ Hid (Blk wx w.heap.size [.int .i64 a, .int .i64 b] 30) ∧ Hid (Blk wx (w.heap.size + 1) [.int .i64 c, .int .i64 d] 30))
    case atStart => exact ⟨0, 0, 0, by omega, rfl, rfl, by first | rfl | simp, by first | rfl | simp, by first | rfl | simp, by omega, by omega, HB, H5, H6⟩
    case round =>
      clear HB H5 H6
      obtain ⟨i, l, r, hq, hl, hr, rfl, rfl, rfl, hl4, hr4, HB, H5, H6⟩ := hrel
      cases gk with
      | zero =>
        obtain rfl : i = 4 := by omega
        have hcl : cntL a b c d x y far 4 = l := by omega
        have hcr : cntR a b c d x y far 4 = r := by omega
        rw [hcl, hcr] at Hr
        clear hl hr hcl hcr hq
        by_cases h1 : l < 4
        · by_cases h2 : r < 4
          · have hres : res = true := by rw [Hr.out]; unfold cntB; simp [h1, h2]
            subst hres
            clear Hr
            go_wp2_with fail
            go_ret
            exact ⟨rfl, HB.out⟩
          · obtain rfl : r = 4 := by omega
            by_cases h3 : 0 < l
            · have hres : res = true := by rw [Hr.out]; unfold cntB; simp [h3]
              subst hres
              clear Hr
              go_wp2_with fail
              go_ret
              exact ⟨rfl, HB.out⟩
            · obtain rfl : l = 0 := by omega
              have hres : res = false := by rw [Hr.out]; rfl
              subst hres
              clear Hr
              go_wp2_with fail
              go_ret
              exact ⟨rfl, HB.out⟩
        · obtain rfl : l = 4 := by omega
          by_cases h2 : 0 < r
          · have hres : res = true := by rw [Hr.out]; unfold cntB; simp [h2]
            subst hres
            by_cases h4 : r < 4
            · skip
              clear Hr
              go_wp2_with fail
              go_ret
              exact ⟨rfl, HB.out⟩
            · obtain rfl : r = 4 := by omega
              clear Hr
              go_wp2_with fail
              go_ret
              exact ⟨rfl, HB.out⟩
          · obtain rfl : r = 0 := by omega
            have hres : res = false := by rw [Hr.out]; rfl
            subst hres
            clear Hr
            go_wp2_with fail
            go_ret
            exact ⟨rfl, HB.out⟩
      | succ q =>
        have hi : i = 0 ∨ i = 1 ∨ i = 2 ∨ i = 3 := by omega
        rcases hi with rfl | rfl | rfl | rfl
        · obtain ⟨sg, Hsg⟩ : ∃ z, Hid (Bg.cmpI (sideZ a b c d (x + far) (y + far) 2) 0 = z) := ⟨_, Lib.hid rfl⟩
          have hs1 : (0 ≤ sg) ↔ 0 ≤ cornS a b c d x y far 0 := by rw [← Hsg.out]; exact cmpI_ge0 _
          have hs2 : (sg ≤ 0) ↔ cornS a b c d x y far 0 ≤ 0 := by rw [← Hsg.out]; exact cmpI_le0 _
          have tw1 : IntKind.i64.wrap (x + far) = x + far := by rw [IntKind.wrap_i64]; omega
          have tw2 : IntKind.i64.wrap (y + far) = y + far := by rw [IntKind.wrap_i64]; omega
          have B5 := H5.out
          have B6 := H6.out
          clear H5 H6
          go_upto_region 14 with (fail)
          refine calm_go (by kernel_rfl) ?_
          refine dag_every (S := nthS [(fun v _ => v = .agg #[.int .i64 a, .int .i64 b]), (fun v _ => v = .agg #[.int .i64 c, .int .i64 d]), (fun v _ => v = .int .i64 x), (fun v _ => v = .int .i64 far), (fun v _ => v = .int .i64 (x + far)), (fun v _ => v = .int .i64 y), (fun v _ => v = .int .i64 far), (fun v _ => v = .int .i64 (y + far)), (fun v w' => ∃ v1 v2 v3, v = .agg (v1.cells ++ v2.cells ++ v3.cells) ∧ Big w' v1 (x + far) ∧ Big w' v2 (y + far) ∧ Big w' v3 2), (fun v _ => v = .int .i64 sg), (fun v _ => v = .int .i64 sg)]) (R := (fun u v => Below u.heap.size u v)) (C := (fun w' => Below wr.heap.size wr w')) (by kernel_rfl) (stableL _ ⟨stable_eq, stable_eq, stable_eq, stable_eq, stable_eq, stable_eq, stable_eq, stable_eq, (fun v w w' ⟨v1, v2, v3, e, h1, h2, h3⟩ hr => ⟨v1, v2, v3, e, h1.call hr, h2.call hr, h3.call hr⟩), stable_eq, stable_eq, trivial⟩) ?hC ?hR ?hC0 ?hC1 ⟨?st0, ?st1, ?st2, ?st3, ?st4, ?st5, ?st6, ?st7, ?st8, ?st9, ?st10, trivial⟩ ?_
          case st0 =>
            intro fa wz hp
            refine .inl ⟨by rfl, ?_⟩
            have e5 : fa.tmps[5]?.getD undef = .pointer (some ⟨w.heap.size, 0, none⟩) := hp.old 5 (by kernel_rfl)
            have hb := hp.base
            obtain ⟨q0, q1⟩ := c2 (B5.below hb B5.lt)
            exact dagUpon_val (by go_simp) (Below.refl _ _) rfl
          case st1 =>
            intro fa wz hp
            refine .inl ⟨by rfl, ?_⟩
            have e6 : fa.tmps[6]?.getD undef = .pointer (some ⟨w.heap.size + 1, 0, none⟩) := hp.old 6 (by kernel_rfl)
            have hb := hp.base
            obtain ⟨q0, q1⟩ := c2 (B6.below hb B6.lt)
            exact dagUpon_val (by go_simp) (Below.refl _ _) rfl
          case st2 =>
            intro fa wz hp
            refine .inl ⟨by rfl, ?_⟩
            have e2 : fa.tmps[2]?.getD undef = .int .i64 x := hp.old 2 (by kernel_rfl)
            have hb := hp.base
            exact dagUpon_val (by go_simp) (Below.refl _ _) rfl
          case st3 =>
            intro fa wz hp
            refine .inl ⟨by rfl, ?_⟩
            have e14 : fa.tmps[14]?.getD undef = .int .i64 far := hp.old 14 (by kernel_rfl)
            have hb := hp.base
            exact dagUpon_val (by go_simp) (Below.refl _ _) rfl
          case st4 =>
            intro fa wz hp
            refine .inl ⟨by rfl, ?_⟩
            obtain ⟨v105, e105, hv105⟩ := hp.ev 2 _ 105 rfl rfl (by kernel_rfl)
            replace e105 : fa.tmps[105]?.getD undef = .int .i64 x := e105.trans hv105
            clear hv105
            obtain ⟨v106, e106, hv106⟩ := hp.ev 3 _ 106 rfl rfl (by kernel_rfl)
            replace e106 : fa.tmps[106]?.getD undef = .int .i64 far := e106.trans hv106
            clear hv106
            have hb := hp.base
            have nn := tw1; exact dagUpon_val (by go_simp) (Below.refl _ _) rfl
          case st5 =>
            intro fa wz hp
            refine .inl ⟨by rfl, ?_⟩
            have e3 : fa.tmps[3]?.getD undef = .int .i64 y := hp.old 3 (by kernel_rfl)
            have hb := hp.base
            exact dagUpon_val (by go_simp) (Below.refl _ _) rfl
          case st6 =>
            intro fa wz hp
            refine .inl ⟨by rfl, ?_⟩
            have e15 : fa.tmps[15]?.getD undef = .int .i64 far := hp.old 15 (by kernel_rfl)
            have hb := hp.base
            exact dagUpon_val (by go_simp) (Below.refl _ _) rfl
          case st7 =>
            intro fa wz hp
            refine .inl ⟨by rfl, ?_⟩
            obtain ⟨v108, e108, hv108⟩ := hp.ev 5 _ 108 rfl rfl (by kernel_rfl)
            replace e108 : fa.tmps[108]?.getD undef = .int .i64 y := e108.trans hv108
            clear hv108
            obtain ⟨v109, e109, hv109⟩ := hp.ev 6 _ 109 rfl rfl (by kernel_rfl)
            replace e109 : fa.tmps[109]?.getD undef = .int .i64 far := e109.trans hv109
            clear hv109
            have hb := hp.base
            have nn := tw2; exact dagUpon_val (by go_simp) (Below.refl _ _) rfl
          case st8 =>
            intro fa wz hp
            refine .inl ⟨by rfl, ?_⟩
            obtain ⟨v107, e107, hv107⟩ := hp.ev 4 _ 107 rfl rfl (by kernel_rfl)
            replace e107 : fa.tmps[107]?.getD undef = .int .i64 (x + far) := e107.trans hv107
            clear hv107
            obtain ⟨v110, e110, hv110⟩ := hp.ev 7 _ 110 rfl rfl (by kernel_rfl)
            replace e110 : fa.tmps[110]?.getD undef = .int .i64 (y + far) := e110.trans hv110
            clear hv110
            have hb := hp.base
            exact dagUpon_call (by go_simp) ((corner_any _ _ wz (by omega) (by omega) (by omega) (by omega)).mono fun e w'' ⟨v1, v2, v3, he, h1, h2, h3, hbb⟩ => ⟨_, he, hbb, v1, v2, v3, rfl, h1, h2, h3⟩)
          case st9 =>
            intro fa wz hp
            refine .inl ⟨by rfl, ?_⟩
            obtain ⟨v103, e103, hv103⟩ := hp.ev 0 _ 103 rfl rfl (by kernel_rfl)
            replace e103 : fa.tmps[103]?.getD undef = .agg #[.int .i64 a, .int .i64 b] := e103.trans hv103
            clear hv103
            obtain ⟨v104, e104, hv104⟩ := hp.ev 1 _ 104 rfl rfl (by kernel_rfl)
            replace e104 : fa.tmps[104]?.getD undef = .agg #[.int .i64 c, .int .i64 d] := e104.trans hv104
            clear hv104
            obtain ⟨v111, e111, hv111⟩ := hp.ev 8 _ 111 rfl rfl (by kernel_rfl)
            have hv111 := show (fun v w' => ∃ v1 v2 v3, v = .agg (v1.cells ++ v2.cells ++ v3.cells) ∧ Big w' v1 (x + far) ∧ Big w' v2 (y + far) ∧ Big w' v3 2) v111 wz from hv111
            replace e111 : fa.tmps[111]?.getD undef = v111 := e111
            have hb := hp.base
            obtain ⟨v1, v2, v3, e0, h1, h2, h3⟩ := hv111
            rw [e0] at e111
            exact dagUpon_call (by go_simp) ((side_any a b c d _ _ _ v1 v2 v3 wz h1 h2 h3 (by unfold Mid; omega) (by unfold Mid; omega) (by unfold Mid; decide) (by omega) (by omega) (by omega) (by omega)).mono fun e w'' ⟨he, hbb⟩ => ⟨_, he, hbb, congrArg (Value.int .i64) Hsg.out⟩)
          case st10 =>
            intro fa wz hp
            refine .inl ⟨by rfl, ?_⟩
            obtain ⟨v112, e112, hv112⟩ := hp.ev 9 _ 112 rfl rfl (by kernel_rfl)
            replace e112 : fa.tmps[112]?.getD undef = .int .i64 sg := e112.trans hv112
            clear hv112
            have hb := hp.base
            exact dagUpon_val (by go_simp) (Below.refl _ _) rfl
          case hC => exact fun w1 w2 h1 h2 => h1.trans (h2.mono h1.size)
          case hR => exact fun w => Below.refl _ _
          case hC0 => exact Below.refl _ _
          case hC1 => exact (Below.refl _ _).drew
          intro g w1 hb hg
          have h10 : g 10 = .int .i64 sg := hg 10 _ _ rfl rfl
          simp only [putAll, Act.put, List.setIfInBounds_toArray, List.set_cons_zero, List.set_cons_succ]
          rw [h10]
          have HB1 := Lib.hid (HB.out.trans (hb.mono HB.out.size))
          have B5 := B5.below hb B5.lt
          have B6 := B6.below hb B6.lt
          have H5 := Lib.hid B5
          have H6 := Lib.hid B6
          clear hg h10 hb B5 B6
          have HL := cntL_succ a b c d x y far 0
          have HR := cntR_succ a b c d x y far 0
          by_cases hA : 0 ≤ sg
          · rw [if_pos (hs1.1 hA)] at HL
            by_cases hB : sg ≤ 0
            · rw [if_pos (hs2.1 hB)] at HR
              have HL := Lib.hid HL
              have HR := Lib.hid HR
              clear hs1 hs2
              go_wp2_with fail
              go_roundg q
              case measure => omega
              case rel => exact ⟨1, cntL a b c d x y far 1, cntR a b c d x y far 1, by omega, rfl, rfl, by rw [HL.out]; go_num, by rw [HR.out]; go_num, by first | rfl | simp, by have := cntL_le a b c d x y far 1; omega, by have := cntR_le a b c d x y far 1; omega, HB1, H5, H6⟩
            · rw [if_neg (fun h => hB (hs2.2 h))] at HR
              have HL := Lib.hid HL
              have HR := Lib.hid HR
              clear hs1 hs2
              go_wp2_with fail
              go_roundg q
              case measure => omega
              case rel => exact ⟨1, cntL a b c d x y far 1, cntR a b c d x y far 1, by omega, rfl, rfl, by rw [HL.out]; go_num, by rw [HR.out]; go_num, by first | rfl | simp, by have := cntL_le a b c d x y far 1; omega, by have := cntR_le a b c d x y far 1; omega, HB1, H5, H6⟩
          · rw [if_neg (fun h => hA (hs1.2 h))] at HL
            have hB : sg ≤ 0 := by omega
            rw [if_pos (hs2.1 hB)] at HR
            have HL := Lib.hid HL
            have HR := Lib.hid HR
            clear hs1 hs2
            go_wp2_with fail
            go_roundg q
            case measure => omega
            case rel => exact ⟨1, cntL a b c d x y far 1, cntR a b c d x y far 1, by omega, rfl, rfl, by rw [HL.out]; go_num, by rw [HR.out]; go_num, by first | rfl | simp, by have := cntL_le a b c d x y far 1; omega, by have := cntR_le a b c d x y far 1; omega, HB1, H5, H6⟩
        · obtain ⟨sg, Hsg⟩ : ∃ z, Hid (Bg.cmpI (sideZ a b c d (x + (-far)) (y + far) 2) 0 = z) := ⟨_, Lib.hid rfl⟩
          have hs1 : (0 ≤ sg) ↔ 0 ≤ cornS a b c d x y far 1 := by rw [← Hsg.out]; exact cmpI_ge0 _
          have hs2 : (sg ≤ 0) ↔ cornS a b c d x y far 1 ≤ 0 := by rw [← Hsg.out]; exact cmpI_le0 _
          have tw1 : IntKind.i64.wrap (x + (-far)) = x + (-far) := by rw [IntKind.wrap_i64]; omega
          have tw2 : IntKind.i64.wrap (y + far) = y + far := by rw [IntKind.wrap_i64]; omega
          have B5 := H5.out
          have B6 := H6.out
          clear H5 H6
          go_upto_region 14 with (fail)
          refine calm_go (by kernel_rfl) ?_
          refine dag_every (S := nthS [(fun v _ => v = .agg #[.int .i64 a, .int .i64 b]), (fun v _ => v = .agg #[.int .i64 c, .int .i64 d]), (fun v _ => v = .int .i64 x), (fun v _ => v = .int .i64 (-far)), (fun v _ => v = .int .i64 (x + (-far))), (fun v _ => v = .int .i64 y), (fun v _ => v = .int .i64 far), (fun v _ => v = .int .i64 (y + far)), (fun v w' => ∃ v1 v2 v3, v = .agg (v1.cells ++ v2.cells ++ v3.cells) ∧ Big w' v1 (x + (-far)) ∧ Big w' v2 (y + far) ∧ Big w' v3 2), (fun v _ => v = .int .i64 sg), (fun v _ => v = .int .i64 sg)]) (R := (fun u v => Below u.heap.size u v)) (C := (fun w' => Below wr.heap.size wr w')) (by kernel_rfl) (stableL _ ⟨stable_eq, stable_eq, stable_eq, stable_eq, stable_eq, stable_eq, stable_eq, stable_eq, (fun v w w' ⟨v1, v2, v3, e, h1, h2, h3⟩ hr => ⟨v1, v2, v3, e, h1.call hr, h2.call hr, h3.call hr⟩), stable_eq, stable_eq, trivial⟩) ?hC ?hR ?hC0 ?hC1 ⟨?st0, ?st1, ?st2, ?st3, ?st4, ?st5, ?st6, ?st7, ?st8, ?st9, ?st10, trivial⟩ ?_
          case st0 =>
            intro fa wz hp
            refine .inl ⟨by rfl, ?_⟩
            have e5 : fa.tmps[5]?.getD undef = .pointer (some ⟨w.heap.size, 0, none⟩) := hp.old 5 (by kernel_rfl)
            have hb := hp.base
            obtain ⟨q0, q1⟩ := c2 (B5.below hb B5.lt)
            exact dagUpon_val (by go_simp) (Below.refl _ _) rfl
          case st1 =>
            intro fa wz hp
            refine .inl ⟨by rfl, ?_⟩
            have e6 : fa.tmps[6]?.getD undef = .pointer (some ⟨w.heap.size + 1, 0, none⟩) := hp.old 6 (by kernel_rfl)
            have hb := hp.base
            obtain ⟨q0, q1⟩ := c2 (B6.below hb B6.lt)
            exact dagUpon_val (by go_simp) (Below.refl _ _) rfl
          case st2 =>
            intro fa wz hp
            refine .inl ⟨by rfl, ?_⟩
            have e2 : fa.tmps[2]?.getD undef = .int .i64 x := hp.old 2 (by kernel_rfl)
            have hb := hp.base
            exact dagUpon_val (by go_simp) (Below.refl _ _) rfl
          case st3 =>
            intro fa wz hp
            refine .inl ⟨by rfl, ?_⟩
            have e14 : fa.tmps[14]?.getD undef = .int .i64 (-far) := hp.old 14 (by kernel_rfl)
            have hb := hp.base
            exact dagUpon_val (by go_simp) (Below.refl _ _) rfl
          case st4 =>
            intro fa wz hp
            refine .inl ⟨by rfl, ?_⟩
            obtain ⟨v105, e105, hv105⟩ := hp.ev 2 _ 105 rfl rfl (by kernel_rfl)
            replace e105 : fa.tmps[105]?.getD undef = .int .i64 x := e105.trans hv105
            clear hv105
            obtain ⟨v106, e106, hv106⟩ := hp.ev 3 _ 106 rfl rfl (by kernel_rfl)
            replace e106 : fa.tmps[106]?.getD undef = .int .i64 (-far) := e106.trans hv106
            clear hv106
            have hb := hp.base
            have nn := tw1; exact dagUpon_val (by go_simp) (Below.refl _ _) rfl
          case st5 =>
            intro fa wz hp
            refine .inl ⟨by rfl, ?_⟩
            have e3 : fa.tmps[3]?.getD undef = .int .i64 y := hp.old 3 (by kernel_rfl)
            have hb := hp.base
            exact dagUpon_val (by go_simp) (Below.refl _ _) rfl
          case st6 =>
            intro fa wz hp
            refine .inl ⟨by rfl, ?_⟩
            have e15 : fa.tmps[15]?.getD undef = .int .i64 far := hp.old 15 (by kernel_rfl)
            have hb := hp.base
            exact dagUpon_val (by go_simp) (Below.refl _ _) rfl
          case st7 =>
            intro fa wz hp
            refine .inl ⟨by rfl, ?_⟩
            obtain ⟨v108, e108, hv108⟩ := hp.ev 5 _ 108 rfl rfl (by kernel_rfl)
            replace e108 : fa.tmps[108]?.getD undef = .int .i64 y := e108.trans hv108
            clear hv108
            obtain ⟨v109, e109, hv109⟩ := hp.ev 6 _ 109 rfl rfl (by kernel_rfl)
            replace e109 : fa.tmps[109]?.getD undef = .int .i64 far := e109.trans hv109
            clear hv109
            have hb := hp.base
            have nn := tw2; exact dagUpon_val (by go_simp) (Below.refl _ _) rfl
          case st8 =>
            intro fa wz hp
            refine .inl ⟨by rfl, ?_⟩
            obtain ⟨v107, e107, hv107⟩ := hp.ev 4 _ 107 rfl rfl (by kernel_rfl)
            replace e107 : fa.tmps[107]?.getD undef = .int .i64 (x + (-far)) := e107.trans hv107
            clear hv107
            obtain ⟨v110, e110, hv110⟩ := hp.ev 7 _ 110 rfl rfl (by kernel_rfl)
            replace e110 : fa.tmps[110]?.getD undef = .int .i64 (y + far) := e110.trans hv110
            clear hv110
            have hb := hp.base
            exact dagUpon_call (by go_simp) ((corner_any _ _ wz (by omega) (by omega) (by omega) (by omega)).mono fun e w'' ⟨v1, v2, v3, he, h1, h2, h3, hbb⟩ => ⟨_, he, hbb, v1, v2, v3, rfl, h1, h2, h3⟩)
          case st9 =>
            intro fa wz hp
            refine .inl ⟨by rfl, ?_⟩
            obtain ⟨v103, e103, hv103⟩ := hp.ev 0 _ 103 rfl rfl (by kernel_rfl)
            replace e103 : fa.tmps[103]?.getD undef = .agg #[.int .i64 a, .int .i64 b] := e103.trans hv103
            clear hv103
            obtain ⟨v104, e104, hv104⟩ := hp.ev 1 _ 104 rfl rfl (by kernel_rfl)
            replace e104 : fa.tmps[104]?.getD undef = .agg #[.int .i64 c, .int .i64 d] := e104.trans hv104
            clear hv104
            obtain ⟨v111, e111, hv111⟩ := hp.ev 8 _ 111 rfl rfl (by kernel_rfl)
            have hv111 := show (fun v w' => ∃ v1 v2 v3, v = .agg (v1.cells ++ v2.cells ++ v3.cells) ∧ Big w' v1 (x + (-far)) ∧ Big w' v2 (y + far) ∧ Big w' v3 2) v111 wz from hv111
            replace e111 : fa.tmps[111]?.getD undef = v111 := e111
            have hb := hp.base
            obtain ⟨v1, v2, v3, e0, h1, h2, h3⟩ := hv111
            rw [e0] at e111
            exact dagUpon_call (by go_simp) ((side_any a b c d _ _ _ v1 v2 v3 wz h1 h2 h3 (by unfold Mid; omega) (by unfold Mid; omega) (by unfold Mid; decide) (by omega) (by omega) (by omega) (by omega)).mono fun e w'' ⟨he, hbb⟩ => ⟨_, he, hbb, congrArg (Value.int .i64) Hsg.out⟩)
          case st10 =>
            intro fa wz hp
            refine .inl ⟨by rfl, ?_⟩
            obtain ⟨v112, e112, hv112⟩ := hp.ev 9 _ 112 rfl rfl (by kernel_rfl)
            replace e112 : fa.tmps[112]?.getD undef = .int .i64 sg := e112.trans hv112
            clear hv112
            have hb := hp.base
            exact dagUpon_val (by go_simp) (Below.refl _ _) rfl
          case hC => exact fun w1 w2 h1 h2 => h1.trans (h2.mono h1.size)
          case hR => exact fun w => Below.refl _ _
          case hC0 => exact Below.refl _ _
          case hC1 => exact (Below.refl _ _).drew
          intro g w1 hb hg
          have h10 : g 10 = .int .i64 sg := hg 10 _ _ rfl rfl
          simp only [putAll, Act.put, List.setIfInBounds_toArray, List.set_cons_zero, List.set_cons_succ]
          rw [h10]
          have HB1 := Lib.hid (HB.out.trans (hb.mono HB.out.size))
          have B5 := B5.below hb B5.lt
          have B6 := B6.below hb B6.lt
          have H5 := Lib.hid B5
          have H6 := Lib.hid B6
          clear hg h10 hb B5 B6
          have HL := cntL_succ a b c d x y far 1
          have HR := cntR_succ a b c d x y far 1
          by_cases hA : 0 ≤ sg
          · rw [if_pos (hs1.1 hA)] at HL
            by_cases hB : sg ≤ 0
            · rw [if_pos (hs2.1 hB)] at HR
              have HL := Lib.hid HL
              have HR := Lib.hid HR
              clear hs1 hs2
              go_wp2_with fail
              go_roundg q
              case measure => omega
              case rel => exact ⟨2, cntL a b c d x y far 2, cntR a b c d x y far 2, by omega, rfl, rfl, by rw [HL.out]; go_num, by rw [HR.out]; go_num, by first | rfl | simp, by have := cntL_le a b c d x y far 2; omega, by have := cntR_le a b c d x y far 2; omega, HB1, H5, H6⟩
            · rw [if_neg (fun h => hB (hs2.2 h))] at HR
              have HL := Lib.hid HL
              have HR := Lib.hid HR
              clear hs1 hs2
              go_wp2_with fail
              go_roundg q
              case measure => omega
              case rel => exact ⟨2, cntL a b c d x y far 2, cntR a b c d x y far 2, by omega, rfl, rfl, by rw [HL.out]; go_num, by rw [HR.out]; go_num, by first | rfl | simp, by have := cntL_le a b c d x y far 2; omega, by have := cntR_le a b c d x y far 2; omega, HB1, H5, H6⟩
          · rw [if_neg (fun h => hA (hs1.2 h))] at HL
            have hB : sg ≤ 0 := by omega
            rw [if_pos (hs2.1 hB)] at HR
            have HL := Lib.hid HL
            have HR := Lib.hid HR
            clear hs1 hs2
            go_wp2_with fail
            go_roundg q
            case measure => omega
            case rel => exact ⟨2, cntL a b c d x y far 2, cntR a b c d x y far 2, by omega, rfl, rfl, by rw [HL.out]; go_num, by rw [HR.out]; go_num, by first | rfl | simp, by have := cntL_le a b c d x y far 2; omega, by have := cntR_le a b c d x y far 2; omega, HB1, H5, H6⟩
        · obtain ⟨sg, Hsg⟩ : ∃ z, Hid (Bg.cmpI (sideZ a b c d (x + far) (y + (-far)) 2) 0 = z) := ⟨_, Lib.hid rfl⟩
          have hs1 : (0 ≤ sg) ↔ 0 ≤ cornS a b c d x y far 2 := by rw [← Hsg.out]; exact cmpI_ge0 _
          have hs2 : (sg ≤ 0) ↔ cornS a b c d x y far 2 ≤ 0 := by rw [← Hsg.out]; exact cmpI_le0 _
          have tw1 : IntKind.i64.wrap (x + far) = x + far := by rw [IntKind.wrap_i64]; omega
          have tw2 : IntKind.i64.wrap (y + (-far)) = y + (-far) := by rw [IntKind.wrap_i64]; omega
          have B5 := H5.out
          have B6 := H6.out
          clear H5 H6
          go_upto_region 14 with (fail)
          refine calm_go (by kernel_rfl) ?_
          refine dag_every (S := nthS [(fun v _ => v = .agg #[.int .i64 a, .int .i64 b]), (fun v _ => v = .agg #[.int .i64 c, .int .i64 d]), (fun v _ => v = .int .i64 x), (fun v _ => v = .int .i64 far), (fun v _ => v = .int .i64 (x + far)), (fun v _ => v = .int .i64 y), (fun v _ => v = .int .i64 (-far)), (fun v _ => v = .int .i64 (y + (-far))), (fun v w' => ∃ v1 v2 v3, v = .agg (v1.cells ++ v2.cells ++ v3.cells) ∧ Big w' v1 (x + far) ∧ Big w' v2 (y + (-far)) ∧ Big w' v3 2), (fun v _ => v = .int .i64 sg), (fun v _ => v = .int .i64 sg)]) (R := (fun u v => Below u.heap.size u v)) (C := (fun w' => Below wr.heap.size wr w')) (by kernel_rfl) (stableL _ ⟨stable_eq, stable_eq, stable_eq, stable_eq, stable_eq, stable_eq, stable_eq, stable_eq, (fun v w w' ⟨v1, v2, v3, e, h1, h2, h3⟩ hr => ⟨v1, v2, v3, e, h1.call hr, h2.call hr, h3.call hr⟩), stable_eq, stable_eq, trivial⟩) ?hC ?hR ?hC0 ?hC1 ⟨?st0, ?st1, ?st2, ?st3, ?st4, ?st5, ?st6, ?st7, ?st8, ?st9, ?st10, trivial⟩ ?_
          case st0 =>
            intro fa wz hp
            refine .inl ⟨by rfl, ?_⟩
            have e5 : fa.tmps[5]?.getD undef = .pointer (some ⟨w.heap.size, 0, none⟩) := hp.old 5 (by kernel_rfl)
            have hb := hp.base
            obtain ⟨q0, q1⟩ := c2 (B5.below hb B5.lt)
            exact dagUpon_val (by go_simp) (Below.refl _ _) rfl
          case st1 =>
            intro fa wz hp
            refine .inl ⟨by rfl, ?_⟩
            have e6 : fa.tmps[6]?.getD undef = .pointer (some ⟨w.heap.size + 1, 0, none⟩) := hp.old 6 (by kernel_rfl)
            have hb := hp.base
            obtain ⟨q0, q1⟩ := c2 (B6.below hb B6.lt)
            exact dagUpon_val (by go_simp) (Below.refl _ _) rfl
          case st2 =>
            intro fa wz hp
            refine .inl ⟨by rfl, ?_⟩
            have e2 : fa.tmps[2]?.getD undef = .int .i64 x := hp.old 2 (by kernel_rfl)
            have hb := hp.base
            exact dagUpon_val (by go_simp) (Below.refl _ _) rfl
          case st3 =>
            intro fa wz hp
            refine .inl ⟨by rfl, ?_⟩
            have e14 : fa.tmps[14]?.getD undef = .int .i64 far := hp.old 14 (by kernel_rfl)
            have hb := hp.base
            exact dagUpon_val (by go_simp) (Below.refl _ _) rfl
          case st4 =>
            intro fa wz hp
            refine .inl ⟨by rfl, ?_⟩
            obtain ⟨v105, e105, hv105⟩ := hp.ev 2 _ 105 rfl rfl (by kernel_rfl)
            replace e105 : fa.tmps[105]?.getD undef = .int .i64 x := e105.trans hv105
            clear hv105
            obtain ⟨v106, e106, hv106⟩ := hp.ev 3 _ 106 rfl rfl (by kernel_rfl)
            replace e106 : fa.tmps[106]?.getD undef = .int .i64 far := e106.trans hv106
            clear hv106
            have hb := hp.base
            have nn := tw1; exact dagUpon_val (by go_simp) (Below.refl _ _) rfl
          case st5 =>
            intro fa wz hp
            refine .inl ⟨by rfl, ?_⟩
            have e3 : fa.tmps[3]?.getD undef = .int .i64 y := hp.old 3 (by kernel_rfl)
            have hb := hp.base
            exact dagUpon_val (by go_simp) (Below.refl _ _) rfl
          case st6 =>
            intro fa wz hp
            refine .inl ⟨by rfl, ?_⟩
            have e15 : fa.tmps[15]?.getD undef = .int .i64 (-far) := hp.old 15 (by kernel_rfl)
            have hb := hp.base
            exact dagUpon_val (by go_simp) (Below.refl _ _) rfl
          case st7 =>
            intro fa wz hp
            refine .inl ⟨by rfl, ?_⟩
            obtain ⟨v108, e108, hv108⟩ := hp.ev 5 _ 108 rfl rfl (by kernel_rfl)
            replace e108 : fa.tmps[108]?.getD undef = .int .i64 y := e108.trans hv108
            clear hv108
            obtain ⟨v109, e109, hv109⟩ := hp.ev 6 _ 109 rfl rfl (by kernel_rfl)
            replace e109 : fa.tmps[109]?.getD undef = .int .i64 (-far) := e109.trans hv109
            clear hv109
            have hb := hp.base
            have nn := tw2; exact dagUpon_val (by go_simp) (Below.refl _ _) rfl
          case st8 =>
            intro fa wz hp
            refine .inl ⟨by rfl, ?_⟩
            obtain ⟨v107, e107, hv107⟩ := hp.ev 4 _ 107 rfl rfl (by kernel_rfl)
            replace e107 : fa.tmps[107]?.getD undef = .int .i64 (x + far) := e107.trans hv107
            clear hv107
            obtain ⟨v110, e110, hv110⟩ := hp.ev 7 _ 110 rfl rfl (by kernel_rfl)
            replace e110 : fa.tmps[110]?.getD undef = .int .i64 (y + (-far)) := e110.trans hv110
            clear hv110
            have hb := hp.base
            exact dagUpon_call (by go_simp) ((corner_any _ _ wz (by omega) (by omega) (by omega) (by omega)).mono fun e w'' ⟨v1, v2, v3, he, h1, h2, h3, hbb⟩ => ⟨_, he, hbb, v1, v2, v3, rfl, h1, h2, h3⟩)
          case st9 =>
            intro fa wz hp
            refine .inl ⟨by rfl, ?_⟩
            obtain ⟨v103, e103, hv103⟩ := hp.ev 0 _ 103 rfl rfl (by kernel_rfl)
            replace e103 : fa.tmps[103]?.getD undef = .agg #[.int .i64 a, .int .i64 b] := e103.trans hv103
            clear hv103
            obtain ⟨v104, e104, hv104⟩ := hp.ev 1 _ 104 rfl rfl (by kernel_rfl)
            replace e104 : fa.tmps[104]?.getD undef = .agg #[.int .i64 c, .int .i64 d] := e104.trans hv104
            clear hv104
            obtain ⟨v111, e111, hv111⟩ := hp.ev 8 _ 111 rfl rfl (by kernel_rfl)
            have hv111 := show (fun v w' => ∃ v1 v2 v3, v = .agg (v1.cells ++ v2.cells ++ v3.cells) ∧ Big w' v1 (x + far) ∧ Big w' v2 (y + (-far)) ∧ Big w' v3 2) v111 wz from hv111
            replace e111 : fa.tmps[111]?.getD undef = v111 := e111
            have hb := hp.base
            obtain ⟨v1, v2, v3, e0, h1, h2, h3⟩ := hv111
            rw [e0] at e111
            exact dagUpon_call (by go_simp) ((side_any a b c d _ _ _ v1 v2 v3 wz h1 h2 h3 (by unfold Mid; omega) (by unfold Mid; omega) (by unfold Mid; decide) (by omega) (by omega) (by omega) (by omega)).mono fun e w'' ⟨he, hbb⟩ => ⟨_, he, hbb, congrArg (Value.int .i64) Hsg.out⟩)
          case st10 =>
            intro fa wz hp
            refine .inl ⟨by rfl, ?_⟩
            obtain ⟨v112, e112, hv112⟩ := hp.ev 9 _ 112 rfl rfl (by kernel_rfl)
            replace e112 : fa.tmps[112]?.getD undef = .int .i64 sg := e112.trans hv112
            clear hv112
            have hb := hp.base
            exact dagUpon_val (by go_simp) (Below.refl _ _) rfl
          case hC => exact fun w1 w2 h1 h2 => h1.trans (h2.mono h1.size)
          case hR => exact fun w => Below.refl _ _
          case hC0 => exact Below.refl _ _
          case hC1 => exact (Below.refl _ _).drew
          intro g w1 hb hg
          have h10 : g 10 = .int .i64 sg := hg 10 _ _ rfl rfl
          simp only [putAll, Act.put, List.setIfInBounds_toArray, List.set_cons_zero, List.set_cons_succ]
          rw [h10]
          have HB1 := Lib.hid (HB.out.trans (hb.mono HB.out.size))
          have B5 := B5.below hb B5.lt
          have B6 := B6.below hb B6.lt
          have H5 := Lib.hid B5
          have H6 := Lib.hid B6
          clear hg h10 hb B5 B6
          have HL := cntL_succ a b c d x y far 2
          have HR := cntR_succ a b c d x y far 2
          by_cases hA : 0 ≤ sg
          · rw [if_pos (hs1.1 hA)] at HL
            by_cases hB : sg ≤ 0
            · rw [if_pos (hs2.1 hB)] at HR
              have HL := Lib.hid HL
              have HR := Lib.hid HR
              clear hs1 hs2
              go_wp2_with fail
              go_roundg q
              case measure => omega
              case rel => exact ⟨3, cntL a b c d x y far 3, cntR a b c d x y far 3, by omega, rfl, rfl, by rw [HL.out]; go_num, by rw [HR.out]; go_num, by first | rfl | simp, by have := cntL_le a b c d x y far 3; omega, by have := cntR_le a b c d x y far 3; omega, HB1, H5, H6⟩
            · rw [if_neg (fun h => hB (hs2.2 h))] at HR
              have HL := Lib.hid HL
              have HR := Lib.hid HR
              clear hs1 hs2
              go_wp2_with fail
              go_roundg q
              case measure => omega
              case rel => exact ⟨3, cntL a b c d x y far 3, cntR a b c d x y far 3, by omega, rfl, rfl, by rw [HL.out]; go_num, by rw [HR.out]; go_num, by first | rfl | simp, by have := cntL_le a b c d x y far 3; omega, by have := cntR_le a b c d x y far 3; omega, HB1, H5, H6⟩
          · rw [if_neg (fun h => hA (hs1.2 h))] at HL
            have hB : sg ≤ 0 := by omega
            rw [if_pos (hs2.1 hB)] at HR
            have HL := Lib.hid HL
            have HR := Lib.hid HR
            clear hs1 hs2
            go_wp2_with fail
            go_roundg q
            case measure => omega
            case rel => exact ⟨3, cntL a b c d x y far 3, cntR a b c d x y far 3, by omega, rfl, rfl, by rw [HL.out]; go_num, by rw [HR.out]; go_num, by first | rfl | simp, by have := cntL_le a b c d x y far 3; omega, by have := cntR_le a b c d x y far 3; omega, HB1, H5, H6⟩
        · obtain ⟨sg, Hsg⟩ : ∃ z, Hid (Bg.cmpI (sideZ a b c d (x + (-far)) (y + (-far)) 2) 0 = z) := ⟨_, Lib.hid rfl⟩
          have hs1 : (0 ≤ sg) ↔ 0 ≤ cornS a b c d x y far 3 := by rw [← Hsg.out]; exact cmpI_ge0 _
          have hs2 : (sg ≤ 0) ↔ cornS a b c d x y far 3 ≤ 0 := by rw [← Hsg.out]; exact cmpI_le0 _
          have tw1 : IntKind.i64.wrap (x + (-far)) = x + (-far) := by rw [IntKind.wrap_i64]; omega
          have tw2 : IntKind.i64.wrap (y + (-far)) = y + (-far) := by rw [IntKind.wrap_i64]; omega
          have B5 := H5.out
          have B6 := H6.out
          clear H5 H6
          go_upto_region 14 with (fail)
          refine calm_go (by kernel_rfl) ?_
          refine dag_every (S := nthS [(fun v _ => v = .agg #[.int .i64 a, .int .i64 b]), (fun v _ => v = .agg #[.int .i64 c, .int .i64 d]), (fun v _ => v = .int .i64 x), (fun v _ => v = .int .i64 (-far)), (fun v _ => v = .int .i64 (x + (-far))), (fun v _ => v = .int .i64 y), (fun v _ => v = .int .i64 (-far)), (fun v _ => v = .int .i64 (y + (-far))), (fun v w' => ∃ v1 v2 v3, v = .agg (v1.cells ++ v2.cells ++ v3.cells) ∧ Big w' v1 (x + (-far)) ∧ Big w' v2 (y + (-far)) ∧ Big w' v3 2), (fun v _ => v = .int .i64 sg), (fun v _ => v = .int .i64 sg)]) (R := (fun u v => Below u.heap.size u v)) (C := (fun w' => Below wr.heap.size wr w')) (by kernel_rfl) (stableL _ ⟨stable_eq, stable_eq, stable_eq, stable_eq, stable_eq, stable_eq, stable_eq, stable_eq, (fun v w w' ⟨v1, v2, v3, e, h1, h2, h3⟩ hr => ⟨v1, v2, v3, e, h1.call hr, h2.call hr, h3.call hr⟩), stable_eq, stable_eq, trivial⟩) ?hC ?hR ?hC0 ?hC1 ⟨?st0, ?st1, ?st2, ?st3, ?st4, ?st5, ?st6, ?st7, ?st8, ?st9, ?st10, trivial⟩ ?_
          case st0 =>
            intro fa wz hp
            refine .inl ⟨by rfl, ?_⟩
            have e5 : fa.tmps[5]?.getD undef = .pointer (some ⟨w.heap.size, 0, none⟩) := hp.old 5 (by kernel_rfl)
            have hb := hp.base
            obtain ⟨q0, q1⟩ := c2 (B5.below hb B5.lt)
            exact dagUpon_val (by go_simp) (Below.refl _ _) rfl
          case st1 =>
            intro fa wz hp
            refine .inl ⟨by rfl, ?_⟩
            have e6 : fa.tmps[6]?.getD undef = .pointer (some ⟨w.heap.size + 1, 0, none⟩) := hp.old 6 (by kernel_rfl)
            have hb := hp.base
            obtain ⟨q0, q1⟩ := c2 (B6.below hb B6.lt)
            exact dagUpon_val (by go_simp) (Below.refl _ _) rfl
          case st2 =>
            intro fa wz hp
            refine .inl ⟨by rfl, ?_⟩
            have e2 : fa.tmps[2]?.getD undef = .int .i64 x := hp.old 2 (by kernel_rfl)
            have hb := hp.base
            exact dagUpon_val (by go_simp) (Below.refl _ _) rfl
          case st3 =>
            intro fa wz hp
            refine .inl ⟨by rfl, ?_⟩
            have e14 : fa.tmps[14]?.getD undef = .int .i64 (-far) := hp.old 14 (by kernel_rfl)
            have hb := hp.base
            exact dagUpon_val (by go_simp) (Below.refl _ _) rfl
          case st4 =>
            intro fa wz hp
            refine .inl ⟨by rfl, ?_⟩
            obtain ⟨v105, e105, hv105⟩ := hp.ev 2 _ 105 rfl rfl (by kernel_rfl)
            replace e105 : fa.tmps[105]?.getD undef = .int .i64 x := e105.trans hv105
            clear hv105
            obtain ⟨v106, e106, hv106⟩ := hp.ev 3 _ 106 rfl rfl (by kernel_rfl)
            replace e106 : fa.tmps[106]?.getD undef = .int .i64 (-far) := e106.trans hv106
            clear hv106
            have hb := hp.base
            have nn := tw1; exact dagUpon_val (by go_simp) (Below.refl _ _) rfl
          case st5 =>
            intro fa wz hp
            refine .inl ⟨by rfl, ?_⟩
            have e3 : fa.tmps[3]?.getD undef = .int .i64 y := hp.old 3 (by kernel_rfl)
            have hb := hp.base
            exact dagUpon_val (by go_simp) (Below.refl _ _) rfl
          case st6 =>
            intro fa wz hp
            refine .inl ⟨by rfl, ?_⟩
            have e15 : fa.tmps[15]?.getD undef = .int .i64 (-far) := hp.old 15 (by kernel_rfl)
            have hb := hp.base
            exact dagUpon_val (by go_simp) (Below.refl _ _) rfl
          case st7 =>
            intro fa wz hp
            refine .inl ⟨by rfl, ?_⟩
            obtain ⟨v108, e108, hv108⟩ := hp.ev 5 _ 108 rfl rfl (by kernel_rfl)
            replace e108 : fa.tmps[108]?.getD undef = .int .i64 y := e108.trans hv108
            clear hv108
            obtain ⟨v109, e109, hv109⟩ := hp.ev 6 _ 109 rfl rfl (by kernel_rfl)
            replace e109 : fa.tmps[109]?.getD undef = .int .i64 (-far) := e109.trans hv109
            clear hv109
            have hb := hp.base
            have nn := tw2; exact dagUpon_val (by go_simp) (Below.refl _ _) rfl
          case st8 =>
            intro fa wz hp
            refine .inl ⟨by rfl, ?_⟩
            obtain ⟨v107, e107, hv107⟩ := hp.ev 4 _ 107 rfl rfl (by kernel_rfl)
            replace e107 : fa.tmps[107]?.getD undef = .int .i64 (x + (-far)) := e107.trans hv107
            clear hv107
            obtain ⟨v110, e110, hv110⟩ := hp.ev 7 _ 110 rfl rfl (by kernel_rfl)
            replace e110 : fa.tmps[110]?.getD undef = .int .i64 (y + (-far)) := e110.trans hv110
            clear hv110
            have hb := hp.base
            exact dagUpon_call (by go_simp) ((corner_any _ _ wz (by omega) (by omega) (by omega) (by omega)).mono fun e w'' ⟨v1, v2, v3, he, h1, h2, h3, hbb⟩ => ⟨_, he, hbb, v1, v2, v3, rfl, h1, h2, h3⟩)
          case st9 =>
            intro fa wz hp
            refine .inl ⟨by rfl, ?_⟩
            obtain ⟨v103, e103, hv103⟩ := hp.ev 0 _ 103 rfl rfl (by kernel_rfl)
            replace e103 : fa.tmps[103]?.getD undef = .agg #[.int .i64 a, .int .i64 b] := e103.trans hv103
            clear hv103
            obtain ⟨v104, e104, hv104⟩ := hp.ev 1 _ 104 rfl rfl (by kernel_rfl)
            replace e104 : fa.tmps[104]?.getD undef = .agg #[.int .i64 c, .int .i64 d] := e104.trans hv104
            clear hv104
            obtain ⟨v111, e111, hv111⟩ := hp.ev 8 _ 111 rfl rfl (by kernel_rfl)
            have hv111 := show (fun v w' => ∃ v1 v2 v3, v = .agg (v1.cells ++ v2.cells ++ v3.cells) ∧ Big w' v1 (x + (-far)) ∧ Big w' v2 (y + (-far)) ∧ Big w' v3 2) v111 wz from hv111
            replace e111 : fa.tmps[111]?.getD undef = v111 := e111
            have hb := hp.base
            obtain ⟨v1, v2, v3, e0, h1, h2, h3⟩ := hv111
            rw [e0] at e111
            exact dagUpon_call (by go_simp) ((side_any a b c d _ _ _ v1 v2 v3 wz h1 h2 h3 (by unfold Mid; omega) (by unfold Mid; omega) (by unfold Mid; decide) (by omega) (by omega) (by omega) (by omega)).mono fun e w'' ⟨he, hbb⟩ => ⟨_, he, hbb, congrArg (Value.int .i64) Hsg.out⟩)
          case st10 =>
            intro fa wz hp
            refine .inl ⟨by rfl, ?_⟩
            obtain ⟨v112, e112, hv112⟩ := hp.ev 9 _ 112 rfl rfl (by kernel_rfl)
            replace e112 : fa.tmps[112]?.getD undef = .int .i64 sg := e112.trans hv112
            clear hv112
            have hb := hp.base
            exact dagUpon_val (by go_simp) (Below.refl _ _) rfl
          case hC => exact fun w1 w2 h1 h2 => h1.trans (h2.mono h1.size)
          case hR => exact fun w => Below.refl _ _
          case hC0 => exact Below.refl _ _
          case hC1 => exact (Below.refl _ _).drew
          intro g w1 hb hg
          have h10 : g 10 = .int .i64 sg := hg 10 _ _ rfl rfl
          simp only [putAll, Act.put, List.setIfInBounds_toArray, List.set_cons_zero, List.set_cons_succ]
          rw [h10]
          have HB1 := Lib.hid (HB.out.trans (hb.mono HB.out.size))
          have B5 := B5.below hb B5.lt
          have B6 := B6.below hb B6.lt
          have H5 := Lib.hid B5
          have H6 := Lib.hid B6
          clear hg h10 hb B5 B6
          have HL := cntL_succ a b c d x y far 3
          have HR := cntR_succ a b c d x y far 3
          by_cases hA : 0 ≤ sg
          · rw [if_pos (hs1.1 hA)] at HL
            by_cases hB : sg ≤ 0
            · rw [if_pos (hs2.1 hB)] at HR
              have HL := Lib.hid HL
              have HR := Lib.hid HR
              clear hs1 hs2
              go_wp2_with fail
              go_roundg q
              case measure => omega
              case rel => exact ⟨4, cntL a b c d x y far 4, cntR a b c d x y far 4, by omega, rfl, rfl, by rw [HL.out]; go_num, by rw [HR.out]; go_num, by first | rfl | simp, by have := cntL_le a b c d x y far 4; omega, by have := cntR_le a b c d x y far 4; omega, HB1, H5, H6⟩
            · rw [if_neg (fun h => hB (hs2.2 h))] at HR
              have HL := Lib.hid HL
              have HR := Lib.hid HR
              clear hs1 hs2
              go_wp2_with fail
              go_roundg q
              case measure => omega
              case rel => exact ⟨4, cntL a b c d x y far 4, cntR a b c d x y far 4, by omega, rfl, rfl, by rw [HL.out]; go_num, by rw [HR.out]; go_num, by first | rfl | simp, by have := cntL_le a b c d x y far 4; omega, by have := cntR_le a b c d x y far 4; omega, HB1, H5, H6⟩
          · rw [if_neg (fun h => hA (hs1.2 h))] at HL
            have hB : sg ≤ 0 := by omega
            rw [if_pos (hs2.1 hB)] at HR
            have HL := Lib.hid HL
            have HR := Lib.hid HR
            clear hs1 hs2
            go_wp2_with fail
            go_roundg q
            case measure => omega
            case rel => exact ⟨4, cntL a b c d x y far 4, cntR a b c d x y far 4, by omega, rfl, rfl, by rw [HL.out]; go_num, by rw [HR.out]; go_num, by first | rfl | simp, by have := cntL_le a b c d x y far 4; omega, by have := cntR_le a b c d x y far 4; omega, HB1, H5, H6⟩
end Go.Proofs.Ythbplhglfjlngaa

set_option linter.unusedVariables false
set_option linter.unusedSimpArgs false
namespace Go.Wd
open Go

def leF (n d n' d' : Int) : Prop := n * d' ≤ n' * d
theorem cmpI_le {x y : Int} : cmpI x y ≤ 0 ↔ x ≤ y := by unfold cmpI; split <;> (try split) <;> omega
theorem cmpI_lt {x y : Int} : cmpI x y < 0 ↔ x < y := by unfold cmpI; split <;> (try split) <;> omega
theorem cmpI_gt {x y : Int} : 0 < cmpI x y ↔ y < x := by unfold cmpI; split <;> (try split) <;> omega
theorem leF_trans {n1 d1 n2 d2 n3 d3 : Int} (h1 : 0 < d1) (h2 : 0 < d2) (h3 : 0 < d3) (a : leF n1 d1 n2 d2) (b : leF n2 d2 n3 d3) : leF n1 d1 n3 d3 := by
  unfold leF at *
  have e1 : n1 * d2 * d3 ≤ n2 * d1 * d3 := Int.mul_le_mul_of_nonneg_right a (by omega)
  have e2 : n2 * d3 * d1 ≤ n3 * d2 * d1 := Int.mul_le_mul_of_nonneg_right b (by omega)
  have e3 : n1 * d3 * d2 ≤ n3 * d1 * d2 := by
    have t1 : n1 * d3 * d2 = n1 * d2 * d3 := by ac_rfl
    have t2 : n2 * d1 * d3 = n2 * d3 * d1 := by ac_rfl
    have t3 : n3 * d2 * d1 = n3 * d1 * d2 := by ac_rfl
    omega
  exact Int.le_of_mul_le_mul_right e3 h2
theorem leF_total {n1 d1 n2 d2 : Int} (h : ¬ leF n1 d1 n2 d2) : leF n2 d2 n1 d1 := by unfold leF at *; omega

/-- denominators are above 0 -/
structure Pos (p : Ptz) : Prop where
  f : 0 < p.fd
  t : 0 < p.td
def Good (p : Ptz) : Prop := leF p.fn p.fd p.tn p.td
theorem later_pos {p : Ptz} {n d : Int} (h : Pos p) (hd : 0 < d) : Pos (laterZ p n d) := by
  unfold laterZ; split
  · exact ⟨hd, h.t⟩
  · exact h
theorem earlier_pos {p : Ptz} {n d : Int} (h : Pos p) (hd : 0 < d) : Pos (earlierZ p n d) := by
  unfold earlierZ; split
  · exact ⟨h.f, hd⟩
  · exact h
theorem later_le {p : Ptz} {n d : Int} (h : Pos p) (hd : 0 < d) {N D : Int} (hD : 0 < D) : leF (laterZ p n d).fn (laterZ p n d).fd N D ↔ leF p.fn p.fd N D ∧ leF n d N D := by
  unfold laterZ
  split
  · rename_i hc
    have hc' : leF p.fn p.fd n d := by unfold leF; unfold cmpR at hc; have := cmpI_lt.1 hc; omega
    exact ⟨fun k => ⟨leF_trans h.f hd hD hc' k, k⟩, fun k => k.2⟩
  · rename_i hc
    have hc' : leF n d p.fn p.fd := by
      unfold leF; unfold cmpR at hc
      have : ¬ (p.fn * d < n * p.fd) := fun k => hc (cmpI_lt.2 k)
      omega
    exact ⟨fun k => ⟨k, leF_trans hd h.f hD hc' k⟩, fun k => k.1⟩
theorem le_earlier {p : Ptz} {n d : Int} (h : Pos p) (hd : 0 < d) {N D : Int} (hD : 0 < D) : leF N D (earlierZ p n d).tn (earlierZ p n d).td ↔ leF N D p.tn p.td ∧ leF N D n d := by
  unfold earlierZ
  split
  · rename_i hc
    have hc' : leF n d p.tn p.td := by unfold leF; unfold cmpR at hc; have := cmpI_gt.1 hc; omega
    exact ⟨fun k => ⟨leF_trans hD hd h.t k hc', k⟩, fun k => k.2⟩
  · rename_i hc
    have hc' : leF p.tn p.td n d := by
      unfold leF; unfold cmpR at hc
      have : ¬ (n * p.td < p.tn * d) := fun k => hc (cmpI_gt.2 k)
      omega
    exact ⟨fun k => ⟨k, leF_trans hD h.t hd k hc'⟩, fun k => k.1⟩
/-- the part, cut once more -/
def cutP (p : Ptz) (n1 n2 d : Int) : Ptz := earlierZ (laterZ p n1 d) n2 d
theorem cutP_pos {p : Ptz} {n1 n2 d : Int} (h : Pos p) (hd : 0 < d) : Pos (cutP p n1 n2 d) := earlier_pos (later_pos h hd) hd
theorem cutP_f (p : Ptz) (n1 n2 d : Int) : (cutP p n1 n2 d).fn = (laterZ p n1 d).fn ∧ (cutP p n1 n2 d).fd = (laterZ p n1 d).fd := by unfold cutP earlierZ; split <;> exact ⟨rfl, rfl⟩
theorem later_t' (p : Ptz) (n d : Int) : (laterZ p n d).tn = p.tn ∧ (laterZ p n d).td = p.td := by unfold laterZ; split <;> exact ⟨rfl, rfl⟩
theorem cutP_from {p : Ptz} {n1 n2 d : Int} (h : Pos p) (hd : 0 < d) {N D : Int} (hD : 0 < D) : leF (cutP p n1 n2 d).fn (cutP p n1 n2 d).fd N D ↔ leF p.fn p.fd N D ∧ leF n1 d N D := by
  rw [(cutP_f p n1 n2 d).1, (cutP_f p n1 n2 d).2]; exact later_le h hd hD
theorem cutP_to {p : Ptz} {n1 n2 d : Int} (h : Pos p) (hd : 0 < d) {N D : Int} (hD : 0 < D) : leF N D (cutP p n1 n2 d).tn (cutP p n1 n2 d).td ↔ leF N D p.tn p.td ∧ leF N D n2 d := by
  unfold cutP
  rw [le_earlier (later_pos h hd) hd hD, (later_t' p n1 d).1, (later_t' p n1 d).2]
theorem good_cut {p : Ptz} {n1 n2 d : Int} (h : Pos p) (hd : 0 < d) : Good (cutP p n1 n2 d) ↔ (leF p.fn p.fd p.tn p.td ∧ leF p.fn p.fd n2 d) ∧ (leF n1 d p.tn p.td ∧ leF n1 d n2 d) := by
  unfold Good
  have hp := cutP_pos (n1 := n1) (n2 := n2) h hd
  rw [cutP_to h hd hp.f, cutP_from h hd h.t, cutP_from h hd hd]
  constructor
  · rintro ⟨⟨a, b⟩, c, e⟩; exact ⟨⟨a, c⟩, b, e⟩
  · rintro ⟨⟨a, c⟩, b, e⟩; exact ⟨⟨a, b⟩, c, e⟩
theorem whole_pos : Pos wholeP := ⟨by decide, by decide⟩
theorem pband_pos (p : Ptz) (a way low high : Int) (h : 0 < way) : pbandZ p a way low high = (cutP p (low - 2 * a) (high - 2 * a) (2 * way), true) := by
  unfold pbandZ; rw [if_neg (by omega), if_neg (by omega)]; rfl
theorem pband_neg (p : Ptz) (a way low high : Int) (h : way < 0) : pbandZ p a way low high = (cutP p (-(high - 2 * a)) (-(low - 2 * a)) (2 * (-way)), true) := by
  unfold pbandZ; rw [if_neg (by omega), if_pos h]; rfl
theorem pband_zero (p : Ptz) (a low high : Int) : pbandZ p a 0 low high = (p, decide (low ≤ 2 * a) && decide (2 * a ≤ high)) := by
  unfold pbandZ; rw [if_pos rfl]

/-- the document's answer, in numbers: no edge beyond which both ends lie, and not all corners to one side -/
def DocC (u v l1 h1 l2 h2 : Int) : Prop :=
  (¬ (0 < l1 ∧ 2 * u < l1) ∧ ¬ (h1 < 0 ∧ h1 < 2 * u) ∧ ¬ (0 < l2 ∧ 2 * v < l2) ∧ ¬ (h2 < 0 ∧ h2 < 2 * v)) ∧
  (v * h1 ≤ u * h2 ∨ v * l1 ≤ u * h2 ∨ v * h1 ≤ u * l2 ∨ v * l1 ≤ u * l2) ∧
  (u * h2 ≤ v * h1 ∨ u * h2 ≤ v * l1 ∨ u * l2 ≤ v * h1 ∨ u * l2 ≤ v * l1)
theorem leF_x {n u m v : Int} : leF n (2 * u) m (2 * v) ↔ v * n ≤ u * m := by
  unfold leF
  have e1 : n * (2 * v) = 2 * (v * n) := by ac_rfl
  have e2 : m * (2 * u) = 2 * (u * m) := by ac_rfl
  omega
theorem leF_1 {n u : Int} : leF n (2 * u) 1 1 ↔ n ≤ 2 * u := by unfold leF; omega
theorem leF_0 {n u : Int} : leF 0 1 n (2 * u) ↔ 0 ≤ n := by unfold leF; omega
theorem leF_s {n m u : Int} (hu : 0 < u) : leF n (2 * u) m (2 * u) ↔ n ≤ m := by
  unfold leF
  constructor
  · intro h; exact Int.le_of_mul_le_mul_right h (by omega)
  · intro h; exact Int.mul_le_mul_of_nonneg_right h (by omega)
theorem good_whole : Good wholeP := by unfold Good leF; decide
/-- one cut of the whole -/
theorem good1 {n1 n2 u : Int} (hu : 0 < u) (h : n1 ≤ n2) : Good (cutP wholeP n1 n2 (2 * u)) ↔ 0 ≤ n2 ∧ n1 ≤ 2 * u := by
  rw [good_cut whole_pos (by omega)]
  show (leF 0 1 1 1 ∧ leF 0 1 n2 (2 * u)) ∧ (leF n1 (2 * u) 1 1 ∧ leF n1 (2 * u) n2 (2 * u)) ↔ _
  rw [leF_0, leF_1, leF_s hu]
  have : leF 0 1 1 1 := by unfold leF; decide
  constructor
  · rintro ⟨⟨_, a⟩, b, _⟩; exact ⟨a, b⟩
  · rintro ⟨a, b⟩; exact ⟨⟨this, a⟩, b, h⟩
/-- two cuts of the whole -/
theorem good2 {n1 n2 u m1 m2 v : Int} (hu : 0 < u) (hv : 0 < v) (h : n1 ≤ n2) (h' : m1 ≤ m2) : Good (cutP (cutP wholeP n1 n2 (2 * u)) m1 m2 (2 * v)) ↔
    (0 ≤ n2 ∧ n1 ≤ 2 * u) ∧ (0 ≤ m2 ∧ m1 ≤ 2 * v) ∧ v * n1 ≤ u * m2 ∧ u * m1 ≤ v * n2 := by
  have hp := cutP_pos (n1 := n1) (n2 := n2) whole_pos (show 0 < 2 * u by omega)
  rw [good_cut hp (by omega)]
  have g := good1 hu h
  unfold Good at g
  rw [g, cutP_from whole_pos (by omega) (by omega), cutP_to whole_pos (by omega) (by omega)]
  show ((_ ∧ leF 0 1 m2 (2 * v) ∧ leF n1 (2 * u) m2 (2 * v)) ∧ ((leF m1 (2 * v) 1 1 ∧ leF m1 (2 * v) n2 (2 * u)) ∧ leF m1 (2 * v) m2 (2 * v))) ↔ _
  rw [leF_0, leF_1, leF_s hv, leF_x, leF_x]
  constructor
  · rintro ⟨⟨a, b, c⟩, ⟨d, e⟩, _⟩; exact ⟨a, ⟨b, d⟩, c, e⟩
  · rintro ⟨a, ⟨b, d⟩, c, e⟩; exact ⟨⟨a, b, c⟩, ⟨d, e⟩, h'⟩
/-- the program's answer, in numbers -/
def NearC (u v l1 h1 l2 h2 : Int) : Prop :=
  let X : Ptz × Bool := if u = 0 then (wholeP, decide (l1 ≤ 0) && decide (0 ≤ h1)) else if u < 0 then (cutP wholeP (-h1) (-l1) (2 * (-u)), true) else (cutP wholeP l1 h1 (2 * u), true)
  let Y : Ptz × Bool := if v = 0 then (X.1, decide (l2 ≤ 0) && decide (0 ≤ h2)) else if v < 0 then (cutP X.1 (-h2) (-l2) (2 * (-v)), true) else (cutP X.1 l2 h2 (2 * v), true)
  X.2 = true ∧ Y.2 = true ∧ Good Y.1
theorem mono {k x y : Int} (hk : 0 ≤ k) (h : x ≤ y) : k * x ≤ k * y := Int.mul_le_mul_of_nonneg_left h hk
theorem anti {k x y : Int} (hk : k ≤ 0) (h : x ≤ y) : k * y ≤ k * x := Int.mul_le_mul_of_nonpos_left hk h
theorem near_core (u v l1 h1 l2 h2 : Int) (h : l1 ≤ h1) (h' : l2 ≤ h2) : NearC u v l1 h1 l2 h2 ↔ DocC u v l1 h1 l2 h2 := by
  unfold NearC DocC
  have gw := good_whole
  by_cases u0 : u = 0
  · subst u0
    by_cases v0 : v = 0
    · subst v0; simp [gw]; omega
    · by_cases vn : v < 0
      · have g := good1 (n1 := -h2) (n2 := -l2) (u := -v) (by omega) (by omega)
        have a1 := anti (k := v) (by omega) h
        simp only [v0, vn, if_true, if_false, g]
        by_cases c1 : l1 ≤ 0
        · by_cases c2 : 0 ≤ h1
          · have a2 := anti (k := v) (by omega) c1
            have a3 := anti (k := v) (by omega) c2
            simp [c1, c2]; simp at a2 a3; omega
          · simp [c1, c2] <;> omega
        · simp [c1] <;> omega
      · have g := good1 (n1 := l2) (n2 := h2) (u := v) (by omega) h'
        have a1 := mono (k := v) (by omega) h
        simp only [v0, vn, if_true, if_false, g]
        by_cases c1 : l1 ≤ 0
        · by_cases c2 : 0 ≤ h1
          · have a2 := mono (k := v) (by omega) c1
            have a3 := mono (k := v) (by omega) c2
            simp [c1, c2]; simp at a2 a3; omega
          · simp [c1, c2] <;> omega
        · simp [c1] <;> omega
  · by_cases v0 : v = 0
    · subst v0
      by_cases un : u < 0
      · have g := good1 (n1 := -h1) (n2 := -l1) (u := -u) (by omega) (by omega)
        have a1 := anti (k := u) (by omega) h'
        simp only [u0, un, if_true, if_false, g]
        by_cases c1 : l2 ≤ 0
        · by_cases c2 : 0 ≤ h2
          · have a2 := anti (k := u) (by omega) c1
            have a3 := anti (k := u) (by omega) c2
            simp [c1, c2]; simp at a2 a3; omega
          · simp [c1, c2] <;> omega
        · simp [c1] <;> omega
      · have g := good1 (n1 := l1) (n2 := h1) (u := u) (by omega) h
        have a1 := mono (k := u) (by omega) h'
        simp only [u0, un, if_true, if_false, g]
        by_cases c1 : l2 ≤ 0
        · by_cases c2 : 0 ≤ h2
          · have a2 := mono (k := u) (by omega) c1
            have a3 := mono (k := u) (by omega) c2
            simp [c1, c2]; simp at a2 a3; omega
          · simp [c1, c2] <;> omega
        · simp [c1] <;> omega
    · by_cases un : u < 0
      · have b1 := anti (k := u) (by omega) h'
        by_cases vn : v < 0
        · have a1 := anti (k := v) (by omega) h
          have g := good2 (n1 := -h1) (n2 := -l1) (u := -u) (m1 := -h2) (m2 := -l2) (v := -v) (by omega) (by omega) (by omega) (by omega)
          simp only [u0, un, v0, vn, if_true, if_false, g, Int.neg_mul_neg]; simp; omega
        · have a1 := mono (k := v) (by omega) h
          have g := good2 (n1 := -h1) (n2 := -l1) (u := -u) (m1 := l2) (m2 := h2) (v := v) (by omega) (by omega) (by omega) h'
          simp only [u0, un, v0, vn, if_true, if_false, g]; simp only [Int.neg_mul, Int.mul_neg]; simp; omega
      · have b1 := mono (k := u) (by omega) h'
        by_cases vn : v < 0
        · have a1 := anti (k := v) (by omega) h
          have g := good2 (n1 := l1) (n2 := h1) (u := u) (m1 := -h2) (m2 := -l2) (v := -v) (by omega) (by omega) h (by omega)
          simp only [u0, un, v0, vn, if_true, if_false, g]; simp only [Int.neg_mul, Int.mul_neg]; simp; omega
        · have a1 := mono (k := v) (by omega) h
          have g := good2 (n1 := l1) (n2 := h1) (u := u) (m1 := l2) (m2 := h2) (v := v) (by omega) (by omega) h h'
          simp only [u0, un, v0, vn, if_true, if_false, g]; simp; omega
/-- chain.Near, and the document's answer -/
theorem near_law (a b c d cx cy size rounds : Int) (hf : 0 ≤ rounds * size) :
    nearZ a b c d cx cy size rounds = true ↔ DocC (c - a) (d - b) (2 * cx * size - rounds * size - 2 * a) (2 * cx * size + rounds * size - 2 * a) (2 * cy * size - rounds * size - 2 * b) (2 * cy * size + rounds * size - 2 * b) := by
  rw [← near_core _ _ _ _ _ _ (by omega) (by omega)]
  unfold nearZ nearY nearX NearC
  rw [Bool.and_eq_true, Bool.and_eq_true, decide_eq_true_eq]
  generalize 2 * cx * size = x
  generalize 2 * cy * size = y
  generalize rounds * size = f
  have key : ∀ (p : Ptz) (a way x : Int), pbandZ p a way (x - f) (x + f) = (if way = 0 then (p, decide (x - f - 2 * a ≤ 0) && decide (0 ≤ x + f - 2 * a)) else if way < 0 then (cutP p (-(x + f - 2 * a)) (-(x - f - 2 * a)) (2 * (-way)), true) else (cutP p (x - f - 2 * a) (x + f - 2 * a) (2 * way), true)) := by
    intro p a way x
    by_cases h0 : way = 0
    · subst h0
      rw [pband_zero, if_pos rfl]
      congr 2
      · rw [decide_eq_decide]; omega
      · rw [decide_eq_decide]; omega
    · by_cases hn : way < 0
      · rw [pband_neg _ _ _ _ _ hn, if_neg h0, if_pos hn]
      · rw [pband_pos _ _ _ _ _ (by omega), if_neg h0, if_neg hn]
  rw [key wholeP a (c - a) x, key _ b (d - b) y]
  have fin : ∀ p : Ptz, cmpR p.fn p.fd p.tn p.td ≤ 0 ↔ Good p := fun p => by unfold cmpR Good leF; rw [cmpI_le]
  rw [fin]
end Go.Wd

set_option linter.unusedVariables false
set_option linter.unusedSimpArgs false
namespace Go.Proofs.Ythbplhglfjlngaa
open Go.RowKit Go.Rg Go.Wd
theorem cntB_iff {l r : Nat} (hl : l ≤ 4) (hr : r ≤ 4) (h : 4 ≤ l + r) : cntB l r = true ↔ 0 < l ∧ 0 < r := by
  unfold cntB
  simp only [Bool.or_eq_true, Bool.and_eq_true, decide_eq_true_eq]
  omega
theorem docN_near (a b c d cx cy size rounds : Int) (hf : 0 ≤ rounds * size) : docN a b c d (2 * cx * size) (2 * cy * size) (rounds * size) = nearZ a b c d cx cy size rounds := by
  rw [Bool.eq_iff_iff, near_law a b c d cx cy size rounds hf]
  generalize 2 * cx * size = x
  generalize 2 * cy * size = y
  generalize rounds * size = f
  unfold docN
  rw [Bool.and_eq_true, Bool.not_eq_true']
  have c0 : cornS a b c d x y f 0 = (c - a) * (y + f - 2 * b) - (d - b) * (x + f - 2 * a) := by
    show (c - a) * (y + f - b * 2) - (d - b) * (x + f - a * 2) = _
    rw [Int.mul_comm b 2, Int.mul_comm a 2]
  have c1 : cornS a b c d x y f 1 = (c - a) * (y + f - 2 * b) - (d - b) * (x - f - 2 * a) := by
    show (c - a) * (y + f - b * 2) - (d - b) * (x + -f - a * 2) = _
    rw [Int.mul_comm b 2, Int.mul_comm a 2, ← Int.sub_eq_add_neg]
  have c2' : cornS a b c d x y f 2 = (c - a) * (y - f - 2 * b) - (d - b) * (x + f - 2 * a) := by
    show (c - a) * (y + -f - b * 2) - (d - b) * (x + f - a * 2) = _
    rw [Int.mul_comm b 2, Int.mul_comm a 2, ← Int.sub_eq_add_neg]
  have c3 : cornS a b c d x y f 3 = (c - a) * (y - f - 2 * b) - (d - b) * (x - f - 2 * a) := by
    show (c - a) * (y + -f - b * 2) - (d - b) * (x + -f - a * 2) = _
    rw [Int.mul_comm b 2, Int.mul_comm a 2, ← Int.sub_eq_add_neg, ← Int.sub_eq_add_neg]
  have hL : cntL a b c d x y f 4 = (if 0 ≤ cornS a b c d x y f 0 then 1 else 0) + (if 0 ≤ cornS a b c d x y f 1 then 1 else 0) + (if 0 ≤ cornS a b c d x y f 2 then 1 else 0) + (if 0 ≤ cornS a b c d x y f 3 then 1 else 0) := by
    simp only [cntL_succ, cntL]
    split <;> split <;> split <;> split <;> rfl
  have hR : cntR a b c d x y f 4 = (if cornS a b c d x y f 0 ≤ 0 then 1 else 0) + (if cornS a b c d x y f 1 ≤ 0 then 1 else 0) + (if cornS a b c d x y f 2 ≤ 0 then 1 else 0) + (if cornS a b c d x y f 3 ≤ 0 then 1 else 0) := by
    simp only [cntR_succ, cntR]
    split <;> split <;> split <;> split <;> rfl
  rw [c0, c1, c2', c3] at hL hR
  have hl4 := cntL_le a b c d x y f 4
  have hr4 := cntR_le a b c d x y f 4
  generalize cntL a b c d x y f 4 = l at *
  generalize cntR a b c d x y f 4 = r at *
  unfold DocC preB
  have e1 : x - f - 2 * a = x - f - 2 * a := rfl
  generalize hA : (c - a) * (y + f - 2 * b) = A at *
  generalize hB : (c - a) * (y - f - 2 * b) = B at *
  generalize hC : (d - b) * (x + f - 2 * a) = C at *
  generalize hD : (d - b) * (x - f - 2 * a) = D at *
  clear c0 c1 c2' c3 hA hB hC hD e1
  have hsum : 4 ≤ l + r := by rw [hL, hR]; split <;> split <;> split <;> split <;> split <;> split <;> split <;> split <;> omega
  rw [cntB_iff hl4 hr4 hsum]
  have hlp : 0 < l ↔ (C ≤ A ∨ D ≤ A ∨ C ≤ B ∨ D ≤ B) := by rw [hL]; split <;> split <;> split <;> split <;> omega
  have hrp : 0 < r ↔ (A ≤ C ∨ A ≤ D ∨ B ≤ C ∨ B ≤ D) := by rw [hR]; split <;> split <;> split <;> split <;> omega
  rw [hlp, hrp]
  simp only [Bool.or_eq_false_iff, Bool.and_eq_false_iff, decide_eq_false_iff_not]
  clear hL hR hlp hrp hsum hl4 hr4
  constructor
  · rintro ⟨h1, h2, h3⟩
    exact ⟨by omega, h2, h3⟩
  · rintro ⟨h1, h2, h3⟩
    exact ⟨by omega, h2, h3⟩
end Go.Proofs.Ythbplhglfjlngaa
