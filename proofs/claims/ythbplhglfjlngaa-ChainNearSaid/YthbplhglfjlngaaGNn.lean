/- Parts of the proof. -/
import Derived.Test.YthbplhglfjlngaaGNl
import Derived.Test.YthbplhglfjlngaaGNm

set_option linter.unusedVariables false
set_option linter.unusedSimpArgs false
namespace Go.Proofs.Ythbplhglfjlngaa
open Go.RowKit Go.Rg Go.Wd Go.Mg
attribute [local go_sem] Oper.semAt_some

set_option maxRecDepth 100000 in
theorem set_ok (v : Value) (ps : List (Int × Int)) (w : World) (hv : SlC w v 2 (ptE ps)) (hok : ∀ p ∈ ps, ptB p.1 p.2 = true) (hb : ps.length * 32 ≤ 140737488355328 - 32) :
    Calls Try.prog 18 #[v] w fun e w' => ∃ R, e = .returned (.pointer (some ⟨R, 0, none⟩)) ∧ SetW w' R ps ∧ w.heap.size ≤ R ∧ Below w.heap.size w w' := by
  obtain ⟨a, c, e, hn, hcm⟩ := hv.form
  subst e
  have HN := Lib.hid (new_any _ ps w hv hok hb)
  clear hv hok
  go_enter Try.func18, Try.ntmps18
  go_wp2_with fail
  refine HN.out.mono ?_
  rintro e w1 ⟨R, rfl, h1, h2, h3⟩
  have H1 := Lib.hid h1
  have H3 := Lib.hid h3
  clear h1 h3
  go_wp2_with fail
  go_ret
  exact ⟨R, rfl, H1.out, h2, H3.out⟩
set_option maxRecDepth 100000 in
theorem set_bad (v : Value) (ps : List (Int × Int)) (w : World) (hv : SlC w v 2 (ptE ps)) (hbad : ∃ p ∈ ps, ptB p.1 p.2 = false) :
    Calls Try.prog 18 #[v] w fun e w' => e = .returned (.pointer none) ∧ Below w.heap.size w w' := by
  obtain ⟨a, c, e, hn, hcm⟩ := hv.form
  subst e
  have HN := Lib.hid (new_bad _ ps w hv hbad)
  clear hv hbad
  go_enter Try.func18, Try.ntmps18
  go_wp2_with fail
  refine HN.out.mono ?_
  rintro e w1 ⟨rfl, h3⟩
  have H3 := Lib.hid h3
  clear h3
  go_wp2_with fail
  go_ret
  exact ⟨rfl, H3.out⟩
def awPs : List (Int × Int) := [(0, 0), (1, 0), (2, 1)]
theorem awR : setR awPs = [(0, [0, 1]), (1, [2])] := by kernel_rfl
theorem awA : ofB 0 0 20 6 10 (setR awPs) = [(0, 0), (1, 0), (2, 1)] := by kernel_rfl
theorem awB : ofB 20 0 0 0 10 (setR awPs) = [(1, 0), (0, 0)] := by kernel_rfl
theorem awC : nearS 0 0 20 6 10 (setR awPs) = [(0, 0), (1, 0), (2, 1)] := by kernel_rfl
theorem awD : nearS 20 0 0 0 10 (setR awPs) = [(0, 0), (1, 0)] := by kernel_rfl
theorem awY : Rising ((setR awPs).map (·.1)) := by
  rw [awR]; intro i j x y hij hi hj
  match i, j with
  | 0, 0 => simp at hi hj; omega
  | 0, 1 => simp at hi hj; omega
  | 1, 1 => simp at hi hj; omega
  | 1, 0 => omega
  | _, j + 2 => simp at hj
  | i + 2, _ => simp at hi
theorem awX : ∀ r ∈ setR awPs, Rising r.2 := by
  rw [awR]
  intro r hr
  simp at hr
  rcases hr with rfl | rfl
  · intro i j x y hij hi hj
    match i, j with
    | 0, 0 => simp at hi hj; omega
    | 0, 1 => simp at hi hj; omega
    | 1, 1 => simp at hi hj; omega
    | 1, 0 => omega
    | _, j + 2 => simp at hj
    | i + 2, _ => simp at hi
  · intro i j x y hij hi hj
    match i, j with
    | 0, 0 => simp at hi hj; omega
    | _, j + 1 => simp at hj
    | i + 1, 0 => omega
theorem awN : nearZ 0 0 0 0 0 0 1 0 = true := by kernel_rfl

set_option maxRecDepth 100000 in
set_option maxHeartbeats 2000000 in
theorem awake17_any (w : World) : Calls Try.prog 8 #[] w fun e w' => e = .returned (.bool true) ∧ Below w.heap.size w w' := by
  go_enter Try.func8, Try.ntmps8
  go_wp2_with fail
  obtain ⟨W0, hW0⟩ : ∃ W0, w.alloc (.cells #[.int .i64 0, .int .i64 0, .int .i64 1, .int .i64 0, .int .i64 2, .int .i64 1] 23) = W0 := ⟨_, rfl⟩
  have hb0 : Below w.heap.size w W0 := hW0 ▸ (Below.refl _ w).alloc (Nat.le_refl _) _
  have hB0 : Blk W0 w.heap.size [.int .i64 0, .int .i64 0, .int .i64 1, .int .i64 0, .int .i64 2, .int .i64 1] 23 := hW0 ▸ Blk.new _ _ _
  have hv : SlC W0 (.slice (some ⟨w.heap.size, 0, none⟩) 3 3) 2 (ptE awPs) := SlC.of_own (base := w.heap.size) (t := 23) (es := ptE awPs) ⟨rfl, .inr ⟨w.heap.size, 3, _, rfl, Nat.le_refl _, hB0, Nat.le_refl _, by unfold maxLen; omega, rfl, rfl⟩⟩ (fun e he => by unfold ptE at he; obtain ⟨x, _, rfl⟩ := List.mem_map.1 he; rfl)
  rw [hW0]
  refine (set_ok _ awPs W0 hv (by decide) (by decide)).mono ?_
  rintro e w1 ⟨R, rfl, hs1, _, hb1⟩
  have HS1 := Lib.hid hs1
  have HB1 : Hid (Below w.heap.size w w1) := Lib.hid (hb0.trans (hb1.mono hb0.size))
  clear hW0 hb0 hB0 hv hs1 hb1
  go_wp2_with fail
  refine (ofC_any 0 0 20 6 10 R awPs w1 (by decide) (by decide) HS1.out awY awX (by rw [awC]; decide) (by rw [awC]; decide)).mono ?_
  rintro e w2 ⟨v2, rfl, hv2, hb2⟩
  rw [awA] at hv2
  have HS2 := Lib.hid (HS1.out.call hb2)
  have HB2 : Hid (Below w.heap.size w w2) := Lib.hid (HB1.out.trans (hb2.mono HB1.out.size))
  obtain ⟨a2, c2, e, hn2, hc2⟩ := hv2.form
  subst e
  obtain ⟨g2, o2, e, hg2, hr2, _⟩ := hv2.elem (i := 2) (e := [.int .i64 2, .int .i64 1]) rfl
  subst e
  have HR2 : Hid (w2.rangeAt g2 (o2 + 4) [.int .i64 2, .int .i64 1]) := Lib.hid hr2
  have hl2 : (ptE [((0 : Int), (0 : Int)), (1, 0), (2, 1)]).length = 3 := rfl
  rw [hl2] at hn2 ⊢
  clear hb2 hv2 hr2 hl2 HS1
  go_wp2_with fail
  refine (ofC_any 20 0 0 0 10 R awPs w2 (by decide) (by decide) HS2.out awY awX (by rw [awD]; decide) (by rw [awD]; decide)).mono ?_
  rintro e w3 ⟨v3, rfl, hv3, hb3⟩
  rw [awB] at hv3
  have HB3 : Hid (Below w.heap.size w w3) := Lib.hid (HB2.out.trans (hb3.mono HB2.out.size))
  obtain ⟨a3, c3, e, hn3, hc3⟩ := hv3.form
  subst e
  obtain ⟨g3, o3, e, hg3, hr3, _⟩ := hv3.elem (i := 0) (e := [.int .i64 1, .int .i64 0]) rfl
  subst e
  have hl3 : (ptE [((1 : Int), (0 : Int)), (0, 0)]).length = 2 := rfl
  rw [hl3] at hn3 ⊢
  have h2 := rangeAt_below HR2.out hb3 hg2
  have y0 : w3.cell? ⟨g2, o2 + 4, none⟩ = some (.int .i64 2) := h2 0 _ rfl
  have y1 : w3.cell? ⟨g2, o2 + 5, none⟩ = some (.int .i64 1) := h2 1 _ rfl
  have y2 : w3.cell? ⟨g3, o3, none⟩ = some (.int .i64 1) := hr3 0 _ rfl
  have y3 : w3.cell? ⟨g3, o3 + 1, none⟩ = some (.int .i64 0) := hr3 1 _ rfl
  clear hb3 hv3 hr3 h2 hl3
  go_wp2_with fail
  refine (near_any 0 0 0 0 0 0 1 0 (by decide) (by decide) (by decide) (by decide) (by decide) w3).mono ?_
  rintro e w4 ⟨rfl, hb4⟩
  rw [awN]
  have HB4 : Hid (Below w.heap.size w w4) := Lib.hid (HB3.out.trans (hb4.mono HB3.out.size))
  clear hb4 y0 y1 y2 y3
  go_wp2_with fail
  go_ret
  exact ⟨rfl, HB4.out⟩
end Go.Proofs.Ythbplhglfjlngaa
