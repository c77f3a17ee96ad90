import Derived.Test.YtegkdkilbnighaaRfE
set_option linter.unusedVariables false
set_option linter.unusedSimpArgs false
namespace Go.Proofs.Ytegkdkilbnighaa
open Go.RowKit Go.Rg
attribute [local go_sem] Oper.semAt_some

set_option maxRecDepth 100000 in
set_option maxHeartbeats 8000000 in
theorem step1_any (lev kd : Nat) (t : ByteArray) (hlev : lev ≤ 1000000) (ht : t.size ≤ 100000) (ov : Value) (cs : List Value) (out : List Wk.RGeo) (w : World) (h : RdT 78 w ov out.length cs) (h2 : rdsR w cs out) (ho : out.length ≤ 1000000) :
    Calls Try.prog 24 #[.agg #[.int .i64 1, .int .i64 (lev : Int), ov], .int .i64 (kd : Int), .string t] w fun e w' => StepR w' e (Wk.step ⟨1, lev, out⟩ kd t.data.toList) ∧ Below w.heap.size w w' := by
  obtain ⟨oa, oc, rfl⟩ := pair_form (R := 0) h
  have hl := h2.len
  obtain ⟨kk, hkk⟩ : ∃ kk, kk = Wk.kind t.data.toList := ⟨_, rfl⟩
  have hr0 : Wk.step ⟨1, lev, out⟩ kd t.data.toList = if kd ≠ 1 ∨ kk = 0 ∨ (kk = 7 ∧ 32 ≤ lev) then none else some ⟨2, lev, out ++ [⟨kk, lev, [], [], []⟩]⟩ := by rw [Wk.step1, hkk]; rfl
  obtain ⟨r, hr⟩ : ∃ r, r = Wk.step ⟨1, lev, out⟩ kd t.data.toList := ⟨_, rfl⟩
  rw [hr0] at hr
  rw [hr0, ← hr]
  have Hr := Lib.hid hr
  have Hkk := Lib.hid hkk
  have Hh := Lib.hid h
  have H2 := Lib.hid h2
  have HL := Lib.hid hl
  clear hr hr0 h h2 hkk hl
  go_enter Try.func24, Try.ntmps24
  go_wp2_with fail
  obtain ⟨W0, hW0, B0, B1, hBel, hz0⟩ := st_blk w (.int .i64 1) (.int .i64 (lev : Int)) (.slice oa out.length oc)
  rw [hW0]
  refine (rkind_any t W0 ht).mono ?_
  rintro e w1 ⟨rfl, hb1⟩
  rw [← Hkk.out]
  have j0 := B0.call hb1
  have j1 := B1.call hb1
  have hbw1 := hBel.trans (hb1.mono hBel.size)
  have hz1 : w.heap.size + 2 ≤ w1.heap.size := Nat.le_trans hz0 hb1.size
  obtain ⟨x0, x1, x2⟩ := cells3 j0
  obtain ⟨y0, y1, y2⟩ := cells3 j1
  obtain ⟨f0, f1, f2, _, _⟩ := frozen5 j1
  obtain ⟨g0, g1, g2, _, _⟩ := frozen5 j0
  have Hb1 := Lib.hid hbw1
  clear hb1 hBel hW0 B0 B1 hbw1
  by_cases hbad : kd ≠ 1 ∨ kk = 0 ∨ (kk = 7 ∧ 32 ≤ lev)
  · rw [if_pos hbad] at Hr
    have hend : bodyPost Try.prog Try.f24 (fun e w' => StepR w' e r ∧ Below w.heap.size w w') = bodyPost Try.prog Try.f24 (fun e w' => StepR w' e r ∧ Below w.heap.size w w') := rfl
    clear hend j0 j1
    have hbf := Lib.hid (below3 (b := w.heap.size + 1) Hb1.out (Nat.le_succ _) (.int .i64 1) (.int .i64 (lev : Int)) (.slice oa out.length oc))
    by_cases hk1 : kd = 1
    · subst hk1
      by_cases hk0 : kk = 0
      · subst hk0
        go_wp2_with fail
        refine bodyPost_ret (v := .tuple #[.agg #[.int .i64 1, .int .i64 (lev : Int), .slice oa out.length oc], .bool false]) (by simp [results, Try.results24, go_sem, *]) rfl ⟨⟨_, _, _, _, _, _, rfl, ?_⟩, hbf.out⟩
        rw [Hr.out]
      · obtain ⟨hk7, hl32⟩ : kk = 7 ∧ 32 ≤ lev := by omega
        subst hk7
        clear hbad hk0
        go_wp2_with fail
        refine bodyPost_ret (v := .tuple #[.agg #[.int .i64 1, .int .i64 (lev : Int), .slice oa out.length oc], .bool false]) (by simp [results, Try.results24, go_sem, *]) rfl ⟨⟨_, _, _, _, _, _, rfl, ?_⟩, hbf.out⟩
        rw [Hr.out]
    · have e1 : ((kd : Int) != 1) = true := by simp; omega
      clear hbad
      go_wp2_with fail
      refine bodyPost_ret (v := .tuple #[.agg #[.int .i64 1, .int .i64 (lev : Int), .slice oa out.length oc], .bool false]) (by simp [results, Try.results24, go_sem, *]) rfl ⟨⟨_, _, _, _, _, _, rfl, ?_⟩, hbf.out⟩
      rw [Hr.out]
  · rw [if_neg hbad] at Hr
    obtain rfl : kd = 1 := by omega
    have e0 : ((kk : Int) == 0) = false := by simp; omega
    have HR := Lib.hid ((Hh.out.keep (.call Hb1.out)).reads)
    have Hone := Lib.hid (H2.out.one)
    have e32 : ¬ (kk = 7 ∧ 32 ≤ lev) := by omega
    have tail : ∀ (P : Prop), P → P := fun _ h => h
    cases e7 : ((kk : Int) == 7) with
    | true =>
      have hk7 : kk = 7 := by have := eq_of_beq e7; omega
      have hl : (lev : Int) < 32 := by omega
      clear hbad e32 hk7
      go_wp2_with (at_builtin; refine wpList_append2 _ rfl _ _ 27 rfl w1.heap.size 78 (.agg #[.int .i64 0, .int .i64 0, .slice none 0 0, .slice none 0 0, .slice none 0 0]) 5 88 Try.underlying27 info_rgeo rfl (by decide) (.slice none 0 0) 0 _ rfl (World.ownsRow_nil _ _ _ _) _ _ out.length cs rfl HR.out HL.out Hone.out (by unfold maxLen; omega) (by omega) (Nat.le_refl _) ?_)
      intro v1 w2 own1 grow1 mov1
      have q0 := j0.grown grow1 (by simp [Value.ownBlock])
      have q1 := j1.grown grow1 (by simp [Value.ownBlock])
      have hb2 : Below w.heap.size w w2 := Hb1.out.grown grow1 Hb1.out.size (fun k e => by cases e)
      have hz2 : w1.heap.size ≤ w2.heap.size := grow1.size
      have own2 := Lib.hid (own_call own1 ((Below.refl _ w2).alloc (Nat.le_refl _) (.cells #[.int .i64 (kk : Int), .int .i64 (lev : Int), .slice none 0 0, .slice none 0 0, .slice none 0 0] 78)))
      have k0 := q0.alloc (.cells #[.int .i64 (kk : Int), .int .i64 (lev : Int), .slice none 0 0, .slice none 0 0, .slice none 0 0] 78)
      have k1 := q1.alloc (.cells #[.int .i64 (kk : Int), .int .i64 (lev : Int), .slice none 0 0, .slice none 0 0, .slice none 0 0] 78)
      have hb3 : Below w.heap.size w (w2.alloc (.cells #[.int .i64 (kk : Int), .int .i64 (lev : Int), .slice none 0 0, .slice none 0 0, .slice none 0 0] 78)) := hb2.alloc hb2.size _
      have hz3 : w1.heap.size ≤ (w2.alloc (.cells #[.int .i64 (kk : Int), .int .i64 (lev : Int), .slice none 0 0, .slice none 0 0, .slice none 0 0] 78)).heap.size := by simp; omega
      obtain ⟨a0, a1, a2⟩ := cells3 q0
      clear own1 grow1 mov1 q0 q1 hb2 HR j0 j1 x0 x1 x2 y0 y1 y2 f0 f1 f2 g0 g1 g2
      go_wp2_with (at_builtin; refine wpList_append2 _ rfl _ _ 27 rfl w1.heap.size 78 (.agg #[.int .i64 0, .int .i64 0, .slice none 0 0, .slice none 0 0, .slice none 0 0]) 5 88 Try.underlying27 info_rgeo rfl (by decide) v1 out.length _ rfl own2.out _ _ 1 [.int .i64 (kk : Int), .int .i64 (lev : Int), .slice none 0 0, .slice none 0 0, .slice none 0 0] rfl (reads_new _ _ _ 1 1 (by decide) (by decide)) rfl (by simp [Value.oneCell']) (by unfold maxLen; omega) (by omega) hz3 ?_)
      intro v2 w3 own3 grow2 mov2
      obtain ⟨aa, cc, rfl⟩ := own_form own3
      have hrow : ∀ k, v1.ownBlock = some k → w1.heap.size ≤ k := fun k e => (own2.out.lt k e).1
      have l0 : Blk w3 w.heap.size [.int .i64 1, .int .i64 (lev : Int), .slice oa out.length oc] 62 := k0.grown grow2 (fun e => by have := hrow _ e.symm; omega)
      have l1 : Blk w3 (w.heap.size + 1) [.int .i64 0, .int .i64 0, .slice none 0 0] 62 := k1.grown grow2 (fun e => by have := hrow _ e.symm; omega)
      have hb4 : Below w.heap.size w w3 := hb3.grown grow2 hb3.size (fun k e => by have := hrow k e; omega)
      obtain ⟨x0, x1, x2⟩ := cells3 l0
      obtain ⟨y0, y1, y2⟩ := cells3 l1
      obtain ⟨f0, f1, f2, _, _⟩ := frozen5 l1
      obtain ⟨g0, g1, g2, _, _⟩ := frozen5 l0
      have L0 := Lib.hid l0
      have L1 := Lib.hid l1
      have Own3 := Lib.hid own3
      have Hb4 := Lib.hid hb4
      clear own3 grow2 mov2 own2 k0 k1 hb3 l0 l1 hb4 hrow a0 a1 a2
      go_wp2_with fail
      have M0 := L0.out.set 2 (.slice aa (out.length + 1) cc)
      have M1 := (L1.out.other ⟨w.heap.size, 2, none⟩ (by show w.heap.size + 1 ≠ w.heap.size; omega) (.slice aa (out.length + 1) cc)).other ⟨w.heap.size, 0, none⟩ (by show w.heap.size + 1 ≠ w.heap.size; omega) (.int .i64 2)
      obtain ⟨kp, _, _⟩ := three M1 (.int .i64 2) (.int .i64 (lev : Int)) (.slice aa (out.length + 1) cc)
      have hbf := below3 (b := w.heap.size + 1) ((Hb4.out.setCell (p := ⟨w.heap.size, 2, none⟩) (Nat.le_refl _) (.slice aa (out.length + 1) cc)).setCell (p := ⟨w.heap.size, 0, none⟩) (Nat.le_refl _) (.int .i64 2)) (Nat.le_succ _) (.int .i64 2) (.int .i64 (lev : Int)) (.slice aa (out.length + 1) cc)
      refine bodyPost_ret (v := .tuple #[.agg #[.int .i64 2, .int .i64 (lev : Int), .slice aa (out.length + 1) cc], .bool true]) (by simp [results, Try.results24, go_sem, *]) rfl ⟨⟨_, _, _, _, _, _, rfl, ?_⟩, hbf⟩
      rw [Hr.out]
      refine ⟨rfl, RdS.of (a := 2) (pv := .slice none 0 0) (cv := .slice none 0 0) (sv := .slice none 0 0) ⟨cs, ?_, H2.out.keep (.call hbf) (.call hbf), RdT.nil _ _, RdT.nil _ _, RdT.nil _ _⟩⟩
      exact (RdT.of_own Own3.out).keep (((KeepT.set (T := 78) ⟨w.heap.size, 2, none⟩ L0.out (by decide) _).trans (KeepT.set (T := 78) ⟨w.heap.size, 0, none⟩ M0 (by decide) _)).trans (kp _ (by decide)))
    | false =>
      clear hbad e32
      go_wp2_with (at_builtin; refine wpList_append2 _ rfl _ _ 27 rfl w1.heap.size 78 (.agg #[.int .i64 0, .int .i64 0, .slice none 0 0, .slice none 0 0, .slice none 0 0]) 5 88 Try.underlying27 info_rgeo rfl (by decide) (.slice none 0 0) 0 _ rfl (World.ownsRow_nil _ _ _ _) _ _ out.length cs rfl HR.out HL.out Hone.out (by unfold maxLen; omega) (by omega) (Nat.le_refl _) ?_)
      intro v1 w2 own1 grow1 mov1
      have q0 := j0.grown grow1 (by simp [Value.ownBlock])
      have q1 := j1.grown grow1 (by simp [Value.ownBlock])
      have hb2 : Below w.heap.size w w2 := Hb1.out.grown grow1 Hb1.out.size (fun k e => by cases e)
      have hz2 : w1.heap.size ≤ w2.heap.size := grow1.size
      have own2 := Lib.hid (own_call own1 ((Below.refl _ w2).alloc (Nat.le_refl _) (.cells #[.int .i64 (kk : Int), .int .i64 (lev : Int), .slice none 0 0, .slice none 0 0, .slice none 0 0] 78)))
      have k0 := q0.alloc (.cells #[.int .i64 (kk : Int), .int .i64 (lev : Int), .slice none 0 0, .slice none 0 0, .slice none 0 0] 78)
      have k1 := q1.alloc (.cells #[.int .i64 (kk : Int), .int .i64 (lev : Int), .slice none 0 0, .slice none 0 0, .slice none 0 0] 78)
      have hb3 : Below w.heap.size w (w2.alloc (.cells #[.int .i64 (kk : Int), .int .i64 (lev : Int), .slice none 0 0, .slice none 0 0, .slice none 0 0] 78)) := hb2.alloc hb2.size _
      have hz3 : w1.heap.size ≤ (w2.alloc (.cells #[.int .i64 (kk : Int), .int .i64 (lev : Int), .slice none 0 0, .slice none 0 0, .slice none 0 0] 78)).heap.size := by simp; omega
      obtain ⟨a0, a1, a2⟩ := cells3 q0
      clear own1 grow1 mov1 q0 q1 hb2 HR j0 j1 x0 x1 x2 y0 y1 y2 f0 f1 f2 g0 g1 g2
      go_wp2_with (at_builtin; refine wpList_append2 _ rfl _ _ 27 rfl w1.heap.size 78 (.agg #[.int .i64 0, .int .i64 0, .slice none 0 0, .slice none 0 0, .slice none 0 0]) 5 88 Try.underlying27 info_rgeo rfl (by decide) v1 out.length _ rfl own2.out _ _ 1 [.int .i64 (kk : Int), .int .i64 (lev : Int), .slice none 0 0, .slice none 0 0, .slice none 0 0] rfl (reads_new _ _ _ 1 1 (by decide) (by decide)) rfl (by simp [Value.oneCell']) (by unfold maxLen; omega) (by omega) hz3 ?_)
      intro v2 w3 own3 grow2 mov2
      obtain ⟨aa, cc, rfl⟩ := own_form own3
      have hrow : ∀ k, v1.ownBlock = some k → w1.heap.size ≤ k := fun k e => (own2.out.lt k e).1
      have l0 : Blk w3 w.heap.size [.int .i64 1, .int .i64 (lev : Int), .slice oa out.length oc] 62 := k0.grown grow2 (fun e => by have := hrow _ e.symm; omega)
      have l1 : Blk w3 (w.heap.size + 1) [.int .i64 0, .int .i64 0, .slice none 0 0] 62 := k1.grown grow2 (fun e => by have := hrow _ e.symm; omega)
      have hb4 : Below w.heap.size w w3 := hb3.grown grow2 hb3.size (fun k e => by have := hrow k e; omega)
      obtain ⟨x0, x1, x2⟩ := cells3 l0
      obtain ⟨y0, y1, y2⟩ := cells3 l1
      obtain ⟨f0, f1, f2, _, _⟩ := frozen5 l1
      obtain ⟨g0, g1, g2, _, _⟩ := frozen5 l0
      have L0 := Lib.hid l0
      have L1 := Lib.hid l1
      have Own3 := Lib.hid own3
      have Hb4 := Lib.hid hb4
      clear own3 grow2 mov2 own2 k0 k1 hb3 l0 l1 hb4 hrow a0 a1 a2
      go_wp2_with fail
      have M0 := L0.out.set 2 (.slice aa (out.length + 1) cc)
      have M1 := (L1.out.other ⟨w.heap.size, 2, none⟩ (by show w.heap.size + 1 ≠ w.heap.size; omega) (.slice aa (out.length + 1) cc)).other ⟨w.heap.size, 0, none⟩ (by show w.heap.size + 1 ≠ w.heap.size; omega) (.int .i64 2)
      obtain ⟨kp, _, _⟩ := three M1 (.int .i64 2) (.int .i64 (lev : Int)) (.slice aa (out.length + 1) cc)
      have hbf := below3 (b := w.heap.size + 1) ((Hb4.out.setCell (p := ⟨w.heap.size, 2, none⟩) (Nat.le_refl _) (.slice aa (out.length + 1) cc)).setCell (p := ⟨w.heap.size, 0, none⟩) (Nat.le_refl _) (.int .i64 2)) (Nat.le_succ _) (.int .i64 2) (.int .i64 (lev : Int)) (.slice aa (out.length + 1) cc)
      refine bodyPost_ret (v := .tuple #[.agg #[.int .i64 2, .int .i64 (lev : Int), .slice aa (out.length + 1) cc], .bool true]) (by simp [results, Try.results24, go_sem, *]) rfl ⟨⟨_, _, _, _, _, _, rfl, ?_⟩, hbf⟩
      rw [Hr.out]
      refine ⟨rfl, RdS.of (a := 2) (pv := .slice none 0 0) (cv := .slice none 0 0) (sv := .slice none 0 0) ⟨cs, ?_, H2.out.keep (.call hbf) (.call hbf), RdT.nil _ _, RdT.nil _ _, RdT.nil _ _⟩⟩
      exact (RdT.of_own Own3.out).keep (((KeepT.set (T := 78) ⟨w.heap.size, 2, none⟩ L0.out (by decide) _).trans (KeepT.set (T := 78) ⟨w.heap.size, 0, none⟩ M0 (by decide) _)).trans (kp _ (by decide)))
end Go.Proofs.Ytegkdkilbnighaa
