import Derived.Test.YtegkdkilbnighaaRfF
set_option linter.unusedVariables false
set_option linter.unusedSimpArgs false
namespace Go.Proofs.Ytegkdkilbnighaa
open Go.RowKit Go.Rg
attribute [local go_sem] Oper.semAt_some

theorem step_of {w w' : World} {r : Option Wk.MS} {ba bl : Int} {bo : Option Addr} {bn bc : Nat} {ok : Bool} (h : match r with | some z => ok = true ∧ RdS w (.agg #[.int .i64 ba, .int .i64 bl, .slice bo bn bc]) z | none => ok = false)
    (h0 : KeepT 78 w w') (h1 : KeepT 9 w w') (h2 : KeepT 3 w w') : StepR w' (.returned (.tuple #[.agg #[.int .i64 ba, .int .i64 bl, .slice bo bn bc], .bool ok])) r := by
  refine ⟨_, _, _, _, _, _, rfl, ?_⟩
  cases r with
  | none => exact h
  | some z => exact ⟨h.1, h.2.keep h0 h1 h2⟩

set_option maxRecDepth 100000 in
set_option maxHeartbeats 8000000 in
theorem step2_any (lev kd : Nat) (t : ByteArray) (hlev : lev ≤ 1000000) (ht : t.size ≤ 100000) (ov : Value) (o : List Wk.RGeo) (g : Wk.RGeo) (pv cv sv : Value) (w : World) (h : RdZ w ov o g pv cv sv) (ho : o.length ≤ 1000000) (hk : g.kind ≤ 7) (hk1 : 1 ≤ g.kind) (hcn : g.counts.length ≤ 1000000) :
    Calls Try.prog 24 #[.agg #[.int .i64 2, .int .i64 (lev : Int), ov], .int .i64 (kd : Int), .string t] w fun e w' => StepR w' e (Wk.step ⟨2, lev, o ++ [g]⟩ kd t.data.toList) ∧ Below w.heap.size w w' := by
  have hS : ∀ (b l : Nat) w', Below w.heap.size w w' → RdS w' (.agg #[.int .i64 (b : Int), .int .i64 (l : Int), ov]) ⟨b, l, o ++ [g]⟩ := fun b l w' hb => .of (h.call hb)
  have HS := Lib.hid hS
  have Hh := Lib.hid h
  obtain ⟨ova, ovn, ovc, rfl⟩ := h.form
  clear h hS
  have hr0 : Wk.step ⟨2, lev, o ++ [g]⟩ kd t.data.toList = Wk.mbody ⟨2, lev, o ++ [g]⟩ kd t.data.toList := rfl
  rw [hr0]
  clear hr0
  go_enter Try.func24, Try.ntmps24
  go_wp2_with fail
  obtain ⟨W0, hW0, B0, B1, hBel, hz0⟩ := st_blk w (.int .i64 2) (.int .i64 (lev : Int)) (.slice ova ovn ovc)
  rw [hW0]
  refine (mbody_any lev kd t hlev ht (.slice ova ovn ovc) o g _ _ _ W0 (Hh.out.call hBel) ho hk hk1 hcn).mono ?_
  rintro e w1 ⟨⟨ba, bl, bo, bn, bc, bok, rfl, hbr⟩, hb1⟩
  have j1 := B1.call hb1
  have hbw1 := hBel.trans (hb1.mono hBel.size)
  obtain ⟨y0, y1, y2⟩ := cells3 j1
  obtain ⟨f0, f1, f2, _, _⟩ := frozen5 j1
  have J1 := Lib.hid j1
  have Hb := Lib.hid hbw1
  have Hbr := Lib.hid hbr
  clear hb1 hBel hW0 B0 B1 hbw1 j1 hbr
  go_wp2_with fail
  obtain ⟨kp, _, _⟩ := three J1.out (.int .i64 ba) (.int .i64 bl) (.slice bo bn bc)
  have hbf := below3 (b := w.heap.size + 1) Hb.out (Nat.le_succ _) (.int .i64 ba) (.int .i64 bl) (.slice bo bn bc)
  exact bodyPost_ret (v := .tuple #[.agg #[.int .i64 ba, .int .i64 bl, .slice bo bn bc], .bool bok]) (by simp [results, Try.results24, go_sem, *]) rfl ⟨step_of Hbr.out (kp _ (by decide)) (kp _ (by decide)) (kp _ (by decide)), hbf⟩

set_option maxRecDepth 100000 in
set_option maxHeartbeats 8000000 in
theorem step7_any (lev kd : Nat) (t : ByteArray) (hlev : lev ≤ 1000000) (ht : t.size ≤ 100000) (ov : Value) (o : List Wk.RGeo) (g : Wk.RGeo) (pv cv sv : Value) (w : World) (h : RdZ w ov o g pv cv sv) (ho : o.length ≤ 1000000) (hk : g.kind ≤ 6) (hd : Wk.deeper g.kind = 3 ∨ Wk.deeper g.kind = 4 ∨ Wk.deeper g.kind = 5) :
    Calls Try.prog 24 #[.agg #[.int .i64 7, .int .i64 (lev : Int), ov], .int .i64 (kd : Int), .string t] w fun e w' => StepR w' e (Wk.step ⟨7, lev, o ++ [g]⟩ kd t.data.toList) ∧ Below w.heap.size w w' := by
  have hS : ∀ (b l : Nat) w', Below w.heap.size w w' → RdS w' (.agg #[.int .i64 (b : Int), .int .i64 (l : Int), ov]) ⟨b, l, o ++ [g]⟩ := fun b l w' hb => .of (h.call hb)
  have HS := Lib.hid hS
  have Hh := Lib.hid h
  obtain ⟨ova, ovn, ovc, rfl⟩ := h.form
  clear h hS
  have hr0 : Wk.step ⟨7, lev, o ++ [g]⟩ kd t.data.toList = Wk.behind ⟨7, lev, o ++ [g]⟩ kd := rfl
  rw [hr0]
  clear hr0
  go_enter Try.func24, Try.ntmps24
  go_wp2_with fail
  obtain ⟨W0, hW0, B0, B1, hBel, hz0⟩ := st_blk w (.int .i64 7) (.int .i64 (lev : Int)) (.slice ova ovn ovc)
  rw [hW0]
  refine (behind79_any 7 lev kd (by omega) (.slice ova ovn ovc) o g _ _ _ W0 (Hh.out.call hBel) ho hk hd).mono ?_
  rintro e w1 ⟨⟨ba, bl, bo, bn, bc, bok, rfl, hbr⟩, hb1⟩
  have j1 := B1.call hb1
  have hbw1 := hBel.trans (hb1.mono hBel.size)
  obtain ⟨y0, y1, y2⟩ := cells3 j1
  obtain ⟨f0, f1, f2, _, _⟩ := frozen5 j1
  have J1 := Lib.hid j1
  have Hb := Lib.hid hbw1
  have Hbr := Lib.hid hbr
  clear hb1 hBel hW0 B0 B1 hbw1 j1 hbr
  go_wp2_with fail
  obtain ⟨kp, _, _⟩ := three J1.out (.int .i64 ba) (.int .i64 bl) (.slice bo bn bc)
  have hbf := below3 (b := w.heap.size + 1) Hb.out (Nat.le_succ _) (.int .i64 ba) (.int .i64 bl) (.slice bo bn bc)
  exact bodyPost_ret (v := .tuple #[.agg #[.int .i64 ba, .int .i64 bl, .slice bo bn bc], .bool bok]) (by simp [results, Try.results24, go_sem, *]) rfl ⟨step_of Hbr.out (kp _ (by decide)) (kp _ (by decide)) (kp _ (by decide)), hbf⟩

set_option maxRecDepth 100000 in
set_option maxHeartbeats 8000000 in
theorem step9_any (lev kd : Nat) (t : ByteArray) (hlev : lev ≤ 1000000) (ht : t.size ≤ 100000) (ov : Value) (o : List Wk.RGeo) (g : Wk.RGeo) (pv cv sv : Value) (w : World) (h : RdZ w ov o g pv cv sv) (ho : o.length ≤ 1000000) (hk : g.kind ≤ 6) (hd : Wk.deeper g.kind = 3 ∨ Wk.deeper g.kind = 4 ∨ Wk.deeper g.kind = 5) :
    Calls Try.prog 24 #[.agg #[.int .i64 9, .int .i64 (lev : Int), ov], .int .i64 (kd : Int), .string t] w fun e w' => StepR w' e (Wk.step ⟨9, lev, o ++ [g]⟩ kd t.data.toList) ∧ Below w.heap.size w w' := by
  have hS : ∀ (b l : Nat) w', Below w.heap.size w w' → RdS w' (.agg #[.int .i64 (b : Int), .int .i64 (l : Int), ov]) ⟨b, l, o ++ [g]⟩ := fun b l w' hb => .of (h.call hb)
  have HS := Lib.hid hS
  have Hh := Lib.hid h
  obtain ⟨ova, ovn, ovc, rfl⟩ := h.form
  clear h hS
  have hr0 : Wk.step ⟨9, lev, o ++ [g]⟩ kd t.data.toList = Wk.behind ⟨9, lev, o ++ [g]⟩ kd := rfl
  rw [hr0]
  clear hr0
  go_enter Try.func24, Try.ntmps24
  go_wp2_with fail
  obtain ⟨W0, hW0, B0, B1, hBel, hz0⟩ := st_blk w (.int .i64 9) (.int .i64 (lev : Int)) (.slice ova ovn ovc)
  rw [hW0]
  refine (behind79_any 9 lev kd (by omega) (.slice ova ovn ovc) o g _ _ _ W0 (Hh.out.call hBel) ho hk hd).mono ?_
  rintro e w1 ⟨⟨ba, bl, bo, bn, bc, bok, rfl, hbr⟩, hb1⟩
  have j1 := B1.call hb1
  have hbw1 := hBel.trans (hb1.mono hBel.size)
  obtain ⟨y0, y1, y2⟩ := cells3 j1
  obtain ⟨f0, f1, f2, _, _⟩ := frozen5 j1
  have J1 := Lib.hid j1
  have Hb := Lib.hid hbw1
  have Hbr := Lib.hid hbr
  clear hb1 hBel hW0 B0 B1 hbw1 j1 hbr
  go_wp2_with fail
  obtain ⟨kp, _, _⟩ := three J1.out (.int .i64 ba) (.int .i64 bl) (.slice bo bn bc)
  have hbf := below3 (b := w.heap.size + 1) Hb.out (Nat.le_succ _) (.int .i64 ba) (.int .i64 bl) (.slice bo bn bc)
  exact bodyPost_ret (v := .tuple #[.agg #[.int .i64 ba, .int .i64 bl, .slice bo bn bc], .bool bok]) (by simp [results, Try.results24, go_sem, *]) rfl ⟨step_of Hbr.out (kp _ (by decide)) (kp _ (by decide)) (kp _ (by decide)), hbf⟩

set_option maxRecDepth 100000 in
set_option maxHeartbeats 8000000 in
theorem step10_any (lev kd : Nat) (t : ByteArray) (hlev : lev ≤ 1000000) (ov : Value) (cs : List Value) (out : List Wk.RGeo) (w : World) (h : RdT 78 w ov out.length cs) (h2 : rdsR w cs out) :
    Calls Try.prog 24 #[.agg #[.int .i64 10, .int .i64 (lev : Int), ov], .int .i64 (kd : Int), .string t] w fun e w' => StepR w' e (Wk.step ⟨10, lev, out⟩ kd t.data.toList) ∧ Below w.heap.size w w' := by
  obtain ⟨ova, ovc, rfl⟩ := pair_form (R := 0) h
  have Hh := Lib.hid h
  have H2 := Lib.hid h2
  have hr0 : Wk.step ⟨10, lev, out⟩ kd t.data.toList = Wk.behind ⟨10, lev, out⟩ kd := rfl
  rw [hr0]
  clear hr0 h h2
  go_enter Try.func24, Try.ntmps24
  go_wp2_with fail
  obtain ⟨W0, hW0, B0, B1, hBel, hz0⟩ := st_blk w (.int .i64 10) (.int .i64 (lev : Int)) (.slice ova out.length ovc)
  rw [hW0]
  refine (behind10_any lev kd hlev (.slice ova out.length ovc) cs out W0 (Hh.out.keep (.call hBel)) (H2.out.keep (.call hBel) (.call hBel))).mono ?_
  rintro e w1 ⟨⟨ba, bl, bo, bn, bc, bok, rfl, hbr⟩, hb1⟩
  have j1 := B1.call hb1
  have hbw1 := hBel.trans (hb1.mono hBel.size)
  obtain ⟨y0, y1, y2⟩ := cells3 j1
  obtain ⟨f0, f1, f2, _, _⟩ := frozen5 j1
  have J1 := Lib.hid j1
  have Hb := Lib.hid hbw1
  have Hbr := Lib.hid hbr
  clear hb1 hBel hW0 B0 B1 hbw1 j1 hbr
  go_wp2_with fail
  obtain ⟨kp, _, _⟩ := three J1.out (.int .i64 ba) (.int .i64 bl) (.slice bo bn bc)
  have hbf := below3 (b := w.heap.size + 1) Hb.out (Nat.le_succ _) (.int .i64 ba) (.int .i64 bl) (.slice bo bn bc)
  exact bodyPost_ret (v := .tuple #[.agg #[.int .i64 ba, .int .i64 bl, .slice bo bn bc], .bool bok]) (by simp [results, Try.results24, go_sem, *]) rfl ⟨step_of Hbr.out (kp _ (by decide)) (kp _ (by decide)) (kp _ (by decide)), hbf⟩

set_option maxRecDepth 100000 in
set_option maxHeartbeats 8000000 in
theorem step5_any (lev kd : Nat) (t : ByteArray) (hlev : lev ≤ 1000000) (ht : t.size ≤ 100000) (ov : Value) (o : List Wk.RGeo) (g : Wk.RGeo) (pv cv sv : Value) (w : World) (h : RdZ w ov o g pv cv sv) (ho : o.length ≤ 1000000) (hk : g.kind ≤ 6) :
    Calls Try.prog 24 #[.agg #[.int .i64 5, .int .i64 (lev : Int), ov], .int .i64 (kd : Int), .string t] w fun e w' => StepR w' e (Wk.step ⟨5, lev, o ++ [g]⟩ kd t.data.toList) ∧ Below w.heap.size w w' := by
  have hS : ∀ (b l : Nat) w', Below w.heap.size w w' → RdS w' (.agg #[.int .i64 (b : Int), .int .i64 (l : Int), ov]) ⟨b, l, o ++ [g]⟩ := fun b l w' hb => .of (h.call hb)
  have HS := Lib.hid hS
  have Hh := Lib.hid h
  obtain ⟨ova, ovn, ovc, rfl⟩ := h.form
  clear h hS
  have hl : Wk.last ⟨5, lev, o ++ [g]⟩ = g := by unfold Wk.last; simp
  have hr0 : Wk.step ⟨5, lev, o ++ [g]⟩ kd t.data.toList = if kd = 5 then some ⟨3, lev, o ++ [g]⟩ else if kd = 4 then some ⟨Wk.closedAt g, lev, o ++ [g]⟩ else none := by unfold Wk.step; rw [hl]; rfl
  obtain ⟨r, hr⟩ : ∃ r, r = Wk.step ⟨5, lev, o ++ [g]⟩ kd t.data.toList := ⟨_, rfl⟩
  rw [hr0] at hr
  rw [hr0, ← hr]
  clear hr0 hl
  by_cases h5 : kd = 5
  · rw [if_pos h5] at hr
    have Hr := Lib.hid hr
    subst h5
    clear hr
    go_enter Try.func24, Try.ntmps24
    go_wp2_with fail
    refine bodyPost_ret (v := .tuple #[.agg #[.int .i64 3, .int .i64 (lev : Int), .slice ova ovn ovc], .bool true]) (by simp [results, Try.results24, go_sem, *]) rfl ⟨⟨_, _, _, _, _, _, rfl, ?_⟩, below2 _ _ _⟩
    rw [Hr.out]
    exact ⟨rfl, HS.out 3 lev _ (below2 _ _ _)⟩
  rw [if_neg h5] at hr
  have e5 : ((kd : Int) == 5) = false := by simp; omega
  have Hr := Lib.hid hr
  clear hr
  go_enter Try.func24, Try.ntmps24
  go_wp2_with fail
  obtain ⟨W0, hW0, B0, B1, hBel, hz0⟩ := st_blk w (.int .i64 5) (.int .i64 (lev : Int)) (.slice ova ovn ovc)
  rw [hW0]
  refine (last_any 5 lev (.slice ova ovn ovc) o g _ _ _ W0 (Hh.out.call hBel) ho).mono ?_
  rintro e w1 ⟨rfl, hb1⟩
  have j0 := B0.call hb1
  have j1 := B1.call hb1
  have hbw1 := hBel.trans (hb1.mono hBel.size)
  clear hb1 hBel hW0 B0 B1
  go_wp2_with fail
  refine (closed_any g hk _ _ _ w1 (Hh.out.choose_spec.2.2.call hbw1)).mono ?_
  rintro e w2 ⟨rfl, hb2⟩
  have l0 := j0.call hb2
  have l1 := j1.call hb2
  have hbw2 := hbw1.trans (hb2.mono hbw1.size)
  obtain ⟨ca, hca⟩ : ∃ ca, ca = Wk.closedAt g := ⟨_, rfl⟩
  rw [← hca]
  rw [← hca] at Hr
  obtain ⟨x0, x1, x2⟩ := cells3 l0
  obtain ⟨y0, y1, y2⟩ := cells3 l1
  obtain ⟨f0, f1, f2, _, _⟩ := frozen5 l1
  obtain ⟨g0, g1, g2, _, _⟩ := frozen5 l0
  have Hb2 := Lib.hid hbw2
  clear hb2 j0 j1 l0 l1 hbw1 hbw2 hca
  go_wp2_with fail
  have hbf := below3 (b := w.heap.size + 1) (Hb2.out.setCell (p := ⟨w.heap.size, 0, none⟩) (Nat.le_refl _) (.int .i64 (ca : Int))) (Nat.le_succ _) (.int .i64 (ca : Int)) (.int .i64 (lev : Int)) (.slice ova ovn ovc)
  refine bodyPost_ret (v := .tuple #[.agg #[.int .i64 (ca : Int), .int .i64 (lev : Int), .slice ova ovn ovc], .bool ((kd : Int) == 4)]) (by simp [results, Try.results24, go_sem, *]) rfl ⟨⟨_, _, _, _, _, _, rfl, ?_⟩, hbf⟩
  rw [Hr.out]
  by_cases h4 : kd = 4
  · rw [if_pos h4]; exact ⟨by subst h4; rfl, HS.out ca lev _ hbf⟩
  · rw [if_neg h4]; simp; omega

set_option maxRecDepth 100000 in
set_option maxHeartbeats 8000000 in
theorem step12_any (lev kd : Nat) (t : ByteArray) (hlev : lev ≤ 1000000) (ht : t.size ≤ 100000) (ov : Value) (o : List Wk.RGeo) (g : Wk.RGeo) (pv cv sv : Value) (w : World) (h : RdZ w ov o g pv cv sv) (ho : o.length ≤ 1000000) (hk : g.kind ≤ 6) :
    Calls Try.prog 24 #[.agg #[.int .i64 12, .int .i64 (lev : Int), ov], .int .i64 (kd : Int), .string t] w fun e w' => StepR w' e (Wk.step ⟨12, lev, o ++ [g]⟩ kd t.data.toList) ∧ Below w.heap.size w w' := by
  have hS : ∀ (b l : Nat) w', Below w.heap.size w w' → RdS w' (.agg #[.int .i64 (b : Int), .int .i64 (l : Int), ov]) ⟨b, l, o ++ [g]⟩ := fun b l w' hb => .of (h.call hb)
  have HS := Lib.hid hS
  have Hh := Lib.hid h
  obtain ⟨ova, ovn, ovc, rfl⟩ := h.form
  clear h hS
  have hl : Wk.last ⟨12, lev, o ++ [g]⟩ = g := by unfold Wk.last; simp
  have hr0 : Wk.step ⟨12, lev, o ++ [g]⟩ kd t.data.toList = if kd = 4 then some ⟨Wk.closedAt g, lev, o ++ [g]⟩ else none := by unfold Wk.step; rw [hl]; rfl
  obtain ⟨r, hr⟩ : ∃ r, r = Wk.step ⟨12, lev, o ++ [g]⟩ kd t.data.toList := ⟨_, rfl⟩
  rw [hr0] at hr
  rw [hr0, ← hr]
  clear hr0 hl
  have Hr := Lib.hid hr
  clear hr
  go_enter Try.func24, Try.ntmps24
  go_wp2_with fail
  obtain ⟨W0, hW0, B0, B1, hBel, hz0⟩ := st_blk w (.int .i64 12) (.int .i64 (lev : Int)) (.slice ova ovn ovc)
  rw [hW0]
  refine (last_any 12 lev (.slice ova ovn ovc) o g _ _ _ W0 (Hh.out.call hBel) ho).mono ?_
  rintro e w1 ⟨rfl, hb1⟩
  have j0 := B0.call hb1
  have j1 := B1.call hb1
  have hbw1 := hBel.trans (hb1.mono hBel.size)
  clear hb1 hBel hW0 B0 B1
  go_wp2_with fail
  refine (closed_any g hk _ _ _ w1 (Hh.out.choose_spec.2.2.call hbw1)).mono ?_
  rintro e w2 ⟨rfl, hb2⟩
  have l0 := j0.call hb2
  have l1 := j1.call hb2
  have hbw2 := hbw1.trans (hb2.mono hbw1.size)
  obtain ⟨ca, hca⟩ : ∃ ca, ca = Wk.closedAt g := ⟨_, rfl⟩
  rw [← hca]
  rw [← hca] at Hr
  obtain ⟨x0, x1, x2⟩ := cells3 l0
  obtain ⟨y0, y1, y2⟩ := cells3 l1
  obtain ⟨f0, f1, f2, _, _⟩ := frozen5 l1
  obtain ⟨g0, g1, g2, _, _⟩ := frozen5 l0
  have Hb2 := Lib.hid hbw2
  clear hb2 j0 j1 l0 l1 hbw1 hbw2 hca
  go_wp2_with fail
  have hbf := below3 (b := w.heap.size + 1) (Hb2.out.setCell (p := ⟨w.heap.size, 0, none⟩) (Nat.le_refl _) (.int .i64 (ca : Int))) (Nat.le_succ _) (.int .i64 (ca : Int)) (.int .i64 (lev : Int)) (.slice ova ovn ovc)
  refine bodyPost_ret (v := .tuple #[.agg #[.int .i64 (ca : Int), .int .i64 (lev : Int), .slice ova ovn ovc], .bool ((kd : Int) == 4)]) (by simp [results, Try.results24, go_sem, *]) rfl ⟨⟨_, _, _, _, _, _, rfl, ?_⟩, hbf⟩
  rw [Hr.out]
  by_cases h4 : kd = 4
  · rw [if_pos h4]; exact ⟨by subst h4; rfl, HS.out ca lev _ hbf⟩
  · rw [if_neg h4]; simp; omega
end Go.Proofs.Ytegkdkilbnighaa

namespace Go.Proofs.Ytegkdkilbnighaa
open Go.RowKit Go.Rg
attribute [local go_sem] Oper.semAt_some

set_option maxRecDepth 100000 in
set_option maxHeartbeats 8000000 in
theorem step3_any (lev kd : Nat) (t : ByteArray) (hlev : lev ≤ 1000000) (ht : t.size ≤ 100000) (ov : Value) (o : List Wk.RGeo) (g : Wk.RGeo) (pv cv sv : Value) (w : World) (h : RdZ w ov o g pv cv sv) (ho : o.length ≤ 1000000) (hpn : g.pairs.length ≤ 1000000) :
    Calls Try.prog 24 #[.agg #[.int .i64 3, .int .i64 (lev : Int), ov], .int .i64 (kd : Int), .string t] w fun e w' => StepR w' e (Wk.step ⟨3, lev, o ++ [g]⟩ kd t.data.toList) ∧ Below w.heap.size w w' := by
  have hS : ∀ (b l : Nat) w', Below w.heap.size w w' → RdS w' (.agg #[.int .i64 (b : Int), .int .i64 (l : Int), ov]) ⟨b, l, o ++ [g]⟩ := fun b l w' hb => .of (h.call hb)
  have HS := Lib.hid hS
  have Hh := Lib.hid h
  obtain ⟨ova, ovn, ovc, rfl⟩ := h.form
  have hg' := h.choose_spec.2.2
  obtain ⟨pa, pc, rfl⟩ := pair_form (R := 0) hg'.1
  obtain ⟨ca, cc, rfl⟩ := pair_form (R := 0) hg'.2.1
  obtain ⟨sa, sc, rfl⟩ := pair_form (R := 0) hg'.2.2
  have Hg : Hid (RdR w (.slice pa g.pairs.length pc) (.slice ca g.counts.length cc) (.slice sa g.size.length sc) g) := hg'
  clear h hS hg'
  have hl : Wk.last ⟨3, lev, o ++ [g]⟩ = g := by unfold Wk.last; simp
  have hr0 : Wk.step ⟨3, lev, o ++ [g]⟩ kd t.data.toList = if kd ≠ 2 then none else some ⟨4, lev, o ++ [(⟨g.kind, g.level, g.pairs ++ [t.data.toList], g.counts, g.size⟩ : Wk.RGeo)]⟩ := by
    unfold Wk.step; rw [hl]; simp [Wk.setLast]
  obtain ⟨r, hr⟩ : ∃ r, r = Wk.step ⟨3, lev, o ++ [g]⟩ kd t.data.toList := ⟨_, rfl⟩
  rw [hr0] at hr
  rw [hr0, ← hr]
  clear hr0 hl
  by_cases h2 : kd ≠ 2
  · rw [if_pos h2] at hr
    have Hr := Lib.hid hr
    have e2 : ((kd : Int) != 2) = true := by simp; omega
    clear hr h2
    go_enter Try.func24, Try.ntmps24
    go_wp2_with fail
    refine bodyPost_ret (v := .tuple #[.agg #[.int .i64 3, .int .i64 (lev : Int), .slice ova ovn ovc], .bool false]) (by simp [results, Try.results24, go_sem, *]) rfl ⟨⟨_, _, _, _, _, _, rfl, ?_⟩, below2 _ _ _⟩
    rw [Hr.out]
  obtain rfl : kd = 2 := by omega
  rw [if_neg h2] at hr
  have Hr := Lib.hid hr
  clear hr h2
  go_enter Try.func24, Try.ntmps24
  go_wp2_with fail
  obtain ⟨W0, hW0, B0, B1, hBel, hz0⟩ := st_blk w (.int .i64 3) (.int .i64 (lev : Int)) (.slice ova ovn ovc)
  rw [hW0]
  refine (last_any 3 lev (.slice ova ovn ovc) o g _ _ _ W0 (Hh.out.call hBel) ho).mono ?_
  rintro e w1 ⟨rfl, hb1⟩
  have j0 := B0.call hb1
  have j1 := B1.call hb1
  have hbw1 := hBel.trans (hb1.mono hBel.size)
  have hz1 : w.heap.size + 2 ≤ w1.heap.size := Nat.le_trans hz0 hb1.size
  unfold rgV
  clear hb1 hBel hW0 B0 B1
  have hb2 : Below w.heap.size w (w1.alloc (.cells #[.int .i64 (g.kind : Int), .int .i64 (g.level : Int), .slice pa g.pairs.length pc, .slice ca g.counts.length cc, .slice sa g.size.length sc] 78)) := hbw1.alloc hbw1.size _
  have B2 := Blk.new w1 [.int .i64 (g.kind : Int), .int .i64 (g.level : Int), .slice pa g.pairs.length pc, .slice ca g.counts.length cc, .slice sa g.size.length sc] 78
  have k0 := j0.alloc (.cells #[.int .i64 (g.kind : Int), .int .i64 (g.level : Int), .slice pa g.pairs.length pc, .slice ca g.counts.length cc, .slice sa g.size.length sc] 78)
  have k1 := j1.alloc (.cells #[.int .i64 (g.kind : Int), .int .i64 (g.level : Int), .slice pa g.pairs.length pc, .slice ca g.counts.length cc, .slice sa g.size.length sc] 78)
  obtain ⟨W2, hW2⟩ : ∃ W2, w1.alloc (.cells #[.int .i64 (g.kind : Int), .int .i64 (g.level : Int), .slice pa g.pairs.length pc, .slice ca g.counts.length cc, .slice sa g.size.length sc] 78) = W2 := ⟨_, rfl⟩
  have hz2 : W2.heap.size = w1.heap.size + 1 := by rw [← hW2]; simp
  rw [hW2] at hb2 B2 k0 k1
  have hz2' : w1.heap.size + 1 ≤ W2.heap.size := by omega
  clear j0 j1 hbw1 hz2
  have O1 := Lib.hid (own_empty (W := W2) 9 1 W2.heap.size (Nat.le_refl _))
  have q0 := k0.alloc (.cells #[] 9)
  have q1 := k1.alloc (.cells #[] 9)
  have q2 := B2.alloc (.cells #[] 9)
  have hz3 : W2.heap.size ≤ (W2.alloc (.cells #[] 9)).heap.size := by simp
  have hb3 : Below w.heap.size w (W2.alloc (.cells #[] 9)) := hb2.alloc (by omega) _
  have HRp := Lib.hid ((Hg.out.call hb3).1.reads)
  have c2 := q2.cell (j := 2) rfl
  clear k0 k1 B2 hb2
  go_wp2_with (at_builtin; refine wpList_append2 _ rfl _ _ 76 rfl W2.heap.size 9 (.string ⟨#[]⟩) 1 16 Try.underlying76 info_str rfl (by decide) (.slice (some ⟨W2.heap.size, 0, none⟩) 0 0) 0 _ rfl O1.out _ _ g.pairs.length (strs g.pairs) rfl HRp.out (by simp [strs]) (strs_one _) (by unfold maxLen; omega) (by omega) hz3 ?_)
  intro v1 w3 own1 grow1 mov1
  have r0 := q0.appended O1.out (by omega) grow1
  have r1 := q1.appended O1.out (by omega) grow1
  have r2 := q2.appended O1.out (by omega) grow1
  have hb4 : Below w.heap.size w w3 := hb3.grown grow1 hb3.size (fun k e => by have e' : some W2.heap.size = some k := e; injection e' with e''; omega)
  have hz4 : W2.heap.size ≤ w3.heap.size := Nat.le_trans hz3 grow1.size
  have own2 := Lib.hid (own_call own1 ((Below.refl _ w3).alloc (Nat.le_refl _) (.cells #[.string t] 9)))
  have s0 := r0.alloc (.cells #[.string t] 9)
  have s1 := r1.alloc (.cells #[.string t] 9)
  have s2 := r2.alloc (.cells #[.string t] 9)
  have hb5 : Below w.heap.size w (w3.alloc (.cells #[.string t] 9)) := hb4.alloc hb4.size _
  have hz5 : W2.heap.size ≤ (w3.alloc (.cells #[.string t] 9)).heap.size := by simp; omega
  clear own1 grow1 mov1 r0 r1 r2 hb4 O1 q0 q1 q2 c2 hb3 HRp
  go_wp2_with (at_builtin; refine wpList_append2 _ rfl _ _ 76 rfl W2.heap.size 9 (.string ⟨#[]⟩) 1 16 Try.underlying76 info_str rfl (by decide) v1 g.pairs.length _ rfl own2.out _ _ 1 [.string t] rfl (reads_new _ _ _ 1 1 (by decide) (by decide)) rfl (by simp [Value.oneCell']) (by unfold maxLen; omega) (by omega) hz5 ?_)
  intro v2 w4 own3 grow2 mov2
  obtain ⟨a2, c2, rfl⟩ := own_form own3
  have l0 := s0.appended own2.out (by omega) grow2
  have l1 := s1.appended own2.out (by omega) grow2
  have l2 := s2.appended own2.out (by omega) grow2
  have hb6 : Below w.heap.size w w4 := hb5.grown grow2 hb5.size (fun k e => by have := (own2.out.lt k e).1; omega)
  have hz6 : W2.heap.size ≤ w4.heap.size := Nat.le_trans hz5 grow2.size
  have Own3 := Lib.hid own3
  clear own3 grow2 mov2 own2 s0 s1 s2 hb5
  obtain ⟨x0, x1, x2⟩ := cells3 l0
  obtain ⟨v0, v1', v2', v3, v4⟩ := cells5 l2
  obtain ⟨f0, f1, f2, f3, f4⟩ := frozen5 l2
  have hbX := hb6.setCell (p := ⟨w1.heap.size, 2, none⟩) (by show w.heap.size ≤ w1.heap.size; omega) (.slice a2 (g.pairs.length + 1) c2)
  have N1 := Lib.hid (l1.other ⟨w1.heap.size, 2, none⟩ (by show w.heap.size + 1 ≠ w1.heap.size; omega) (.slice a2 (g.pairs.length + 1) c2))
  have hRX : RdR (w4.setCell ⟨w1.heap.size, 2, none⟩ (.slice a2 (g.pairs.length + 1) c2)) (.slice a2 (g.pairs.length + 1) c2) (.slice ca g.counts.length cc) (.slice sa g.size.length sc) (⟨g.kind, g.level, g.pairs ++ [t.data.toList], g.counts, g.size⟩ : Wk.RGeo) := by
    refine ⟨?_, (Hg.out.call hbX).2.1, (Hg.out.call hbX).2.2⟩
    have := (RdT.of_own Own3.out).keep (KeepT.set (T := 9) ⟨w1.heap.size, 2, none⟩ l2 (by decide) (.slice a2 (g.pairs.length + 1) c2))
    simpa [strs, Lib.mk_data] using this
  have HbX := Lib.hid hbX
  have HRX := Lib.hid hRX
  clear hbX hRX l0 l1 l2 hb6
  go_wp2_with fail
  refine (with_any _ 4 lev (.slice ova ovn ovc) o g (⟨g.kind, g.level, g.pairs ++ [t.data.toList], g.counts, g.size⟩ : Wk.RGeo) _ _ _ (.slice a2 (g.pairs.length + 1) c2) (.slice ca g.counts.length cc) (.slice sa g.size.length sc) _ (Hh.out.call HbX.out) HRX.out ho).mono ?_
  rintro e wz ⟨ov', rfl, hZ, hbz⟩
  obtain ⟨ox, oy, oz, rfl⟩ := hZ.form
  have n6 := N1.out.call hbz
  have hbw6 := HbX.out.trans (hbz.mono HbX.out.size)
  obtain ⟨y0, y1, y2⟩ := cells3 n6
  obtain ⟨f0, f1, f2, _, _⟩ := frozen5 n6
  have N6 := Lib.hid n6
  have HZ := Lib.hid hZ
  have Hbw6 := Lib.hid hbw6
  clear hZ hbz hbw6 n6
  go_wp2_with fail
  obtain ⟨kp, _, _⟩ := three N6.out (.int .i64 4) (.int .i64 (lev : Int)) (.slice ox oy oz)
  have hbf := below3 (b := w.heap.size + 1) Hbw6.out (Nat.le_succ _) (.int .i64 4) (.int .i64 (lev : Int)) (.slice ox oy oz)
  refine bodyPost_ret (v := .tuple #[.agg #[.int .i64 4, .int .i64 (lev : Int), .slice ox oy oz], .bool true]) (by simp [results, Try.results24, go_sem, *]) rfl ⟨⟨_, _, _, _, _, _, rfl, ?_⟩, hbf⟩
  rw [Hr.out]
  exact ⟨rfl, (RdS.of (a := 4) HZ.out).keep (kp _ (by decide)) (kp _ (by decide)) (kp _ (by decide))⟩
end Go.Proofs.Ytegkdkilbnighaa
