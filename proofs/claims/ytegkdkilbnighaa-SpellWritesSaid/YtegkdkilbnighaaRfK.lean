import Derived.Test.YtegkdkilbnighaaRfI
set_option linter.unusedVariables false
set_option linter.unusedSimpArgs false
namespace Go.Proofs.Ytegkdkilbnighaa
open Go.RowKit Go.Rg
attribute [local go_sem] Oper.semAt_some

set_option maxRecDepth 100000 in
set_option maxHeartbeats 8000000 in
theorem step8_any (lev kd : Nat) (t : ByteArray) (hlev : lev ≤ 1000000) (ht : t.size ≤ 100000) (ov : Value) (o : List Wk.RGeo) (g : Wk.RGeo) (pv cv sv : Value) (w : World) (h : RdZ w ov o g pv cv sv) (ho : o.length ≤ 1000000) (hsn : g.size.length ≤ 1000000) :
    Calls Try.prog 24 #[.agg #[.int .i64 8, .int .i64 (lev : Int), ov], .int .i64 (kd : Int), .string t] w fun e w' => StepR w' e (Wk.step ⟨8, lev, o ++ [g]⟩ kd t.data.toList) ∧ Below w.heap.size w w' := by
  have hS : ∀ (b l : Nat) w', Below w.heap.size w w' → RdS w' (.agg #[.int .i64 (b : Int), .int .i64 (l : Int), ov]) ⟨b, l, o ++ [g]⟩ := fun b l w' hb => .of (h.call hb)
  have HS := Lib.hid hS
  have Hh := Lib.hid h
  obtain ⟨ova, ovn, ovc, rfl⟩ := h.form
  have hg' := h.choose_spec.2.2
  obtain ⟨pa, pc, rfl⟩ := pair_form (R := 0) hg'.1
  obtain ⟨ca, cc, rfl⟩ := pair_form (R := 0) hg'.2.1
  obtain ⟨sa, sc, rfl⟩ := pair_form (R := 0) hg'.2.2
  have Hg : Hid (RdR w (.slice pa g.pairs.length pc) (.slice ca g.counts.length cc) (.slice sa g.size.length sc) g) := hg'
  clear h hS hg'
  have hl : Wk.last ⟨8, lev, o ++ [g]⟩ = g := by unfold Wk.last; simp
  have hr0 : Wk.step ⟨8, lev, o ++ [g]⟩ kd t.data.toList = if Wk.isEmpty kd t.data.toList then some ⟨9, lev, o ++ [(⟨g.kind, g.level, g.pairs, g.counts, g.size ++ [0]⟩ : Wk.RGeo)]⟩ else if kd = 3 then some ⟨6, lev, o ++ [(⟨g.kind, g.level, g.pairs, g.counts, g.size ++ [0]⟩ : Wk.RGeo)]⟩ else none := by
    unfold Wk.step; rw [hl]; simp [Wk.setLast]
  obtain ⟨r, hr⟩ : ∃ r, r = Wk.step ⟨8, lev, o ++ [g]⟩ kd t.data.toList := ⟨_, rfl⟩
  rw [hr0] at hr
  rw [hr0, ← hr]
  have Hr := Lib.hid hr
  clear hr0 hl hr
  go_enter Try.func24, Try.ntmps24
  go_wp2_with fail
  obtain ⟨W0, hW0, B0, B1, hBel, hz0⟩ := st_blk w (.int .i64 8) (.int .i64 (lev : Int)) (.slice ova ovn ovc)
  rw [hW0]
  refine (last_any 8 lev (.slice ova ovn ovc) o g _ _ _ W0 (Hh.out.call hBel) ho).mono ?_
  rintro e w1 ⟨rfl, hb1⟩
  have j0 := B0.call hb1
  have j1 := B1.call hb1
  have hbw1 := hBel.trans (hb1.mono hBel.size)
  have hz1 : w.heap.size + 2 ≤ w1.heap.size := Nat.le_trans hz0 hb1.size
  unfold rgV
  clear hb1 hBel hW0 B0 B1
  have hb2 : Below w.heap.size w (w1.alloc (.cells #[.int .i64 (g.kind : Int), .int .i64 (g.level : Int), .slice pa g.pairs.length pc, .slice ca g.counts.length cc, .slice sa g.size.length sc] 78)) := hbw1.alloc hbw1.size _
  have B2 := Blk.new w1 [.int .i64 (g.kind : Int), .int .i64 (g.level : Int), .slice pa g.pairs.length pc, .slice ca g.counts.length cc, .slice sa g.size.length sc] 78
  have k0 := j0.alloc (.cells #[.int .i64 (g.kind : Int), .int .i64 (g.level : Int), .slice pa g.pairs.length pc, .slice ca g.counts.length cc, .slice sa g.size.length sc] 78)
  have k1 := j1.alloc (.cells #[.int .i64 (g.kind : Int), .int .i64 (g.level : Int), .slice pa g.pairs.length pc, .slice ca g.counts.length cc, .slice sa g.size.length sc] 78)
  obtain ⟨W2, hW2⟩ : ∃ W2, w1.alloc (.cells #[.int .i64 (g.kind : Int), .int .i64 (g.level : Int), .slice pa g.pairs.length pc, .slice ca g.counts.length cc, .slice sa g.size.length sc] 78) = W2 := ⟨_, rfl⟩
  have hz2 : W2.heap.size = w1.heap.size + 1 := by rw [← hW2]; simp
  rw [hW2] at hb2 B2 k0 k1
  have hz2' : w1.heap.size + 1 ≤ W2.heap.size := by omega
  clear j0 j1 hbw1 hz2
  have O1 := Lib.hid (own_empty (W := W2) 3 1 W2.heap.size (Nat.le_refl _))
  have q0 := k0.alloc (.cells #[] 3)
  have q1 := k1.alloc (.cells #[] 3)
  have q2 := B2.alloc (.cells #[] 3)
  have hz3 : W2.heap.size ≤ (W2.alloc (.cells #[] 3)).heap.size := by simp
  have hb3 : Below w.heap.size w (W2.alloc (.cells #[] 3)) := hb2.alloc (by omega) _
  have HRp := Lib.hid ((Hg.out.call hb3).2.2.reads)
  have c2 := q2.cell (j := 4) rfl
  clear k0 k1 B2 hb2
  go_wp2_with (at_builtin; refine wpList_append2 _ rfl _ _ 38 rfl W2.heap.size 3 (.int .i64 0) 1 8 Try.underlying38 info_int rfl (by decide) (.slice (some ⟨W2.heap.size, 0, none⟩) 0 0) 0 _ rfl O1.out _ _ g.size.length (intsN g.size) rfl HRp.out (by simp [intsN]) (intsN_one _) (by unfold maxLen; omega) (by omega) hz3 ?_)
  intro v1 w3 own1 grow1 mov1
  have r0 := q0.appended O1.out (by omega) grow1
  have r1 := q1.appended O1.out (by omega) grow1
  have r2 := q2.appended O1.out (by omega) grow1
  have hb4 : Below w.heap.size w w3 := hb3.grown grow1 hb3.size (fun k e => by have e' : some W2.heap.size = some k := e; injection e' with e''; omega)
  have hz4 : W2.heap.size ≤ w3.heap.size := Nat.le_trans hz3 grow1.size
  have own2 := Lib.hid (own_call own1 ((Below.refl _ w3).alloc (Nat.le_refl _) (.cells #[.int .i64 0] 3)))
  have s0 := r0.alloc (.cells #[.int .i64 0] 3)
  have s1 := r1.alloc (.cells #[.int .i64 0] 3)
  have s2 := r2.alloc (.cells #[.int .i64 0] 3)
  have hb5 : Below w.heap.size w (w3.alloc (.cells #[.int .i64 0] 3)) := hb4.alloc hb4.size _
  have hz5 : W2.heap.size ≤ (w3.alloc (.cells #[.int .i64 0] 3)).heap.size := by simp; omega
  clear own1 grow1 mov1 r0 r1 r2 hb4 O1 q0 q1 q2 c2 hb3 HRp
  go_wp2_with (at_builtin; refine wpList_append2 _ rfl _ _ 38 rfl W2.heap.size 3 (.int .i64 0) 1 8 Try.underlying38 info_int rfl (by decide) v1 g.size.length _ rfl own2.out _ _ 1 [.int .i64 0] rfl (reads_new _ _ _ 1 1 (by decide) (by decide)) rfl (by simp [Value.oneCell']) (by unfold maxLen; omega) (by omega) hz5 ?_)
  intro v2 w4 own3 grow2 mov2
  obtain ⟨a2, c2, rfl⟩ := own_form own3
  have l0 := s0.appended own2.out (by omega) grow2
  have l1 := s1.appended own2.out (by omega) grow2
  have l2 := s2.appended own2.out (by omega) grow2
  have hb6 : Below w.heap.size w w4 := hb5.grown grow2 hb5.size (fun k e => by have := (own2.out.lt k e).1; omega)
  have hz6 : W2.heap.size ≤ w4.heap.size := Nat.le_trans hz5 grow2.size
  have Own3 := Lib.hid own3
  clear own3 grow2 mov2 own2 s0 s1 s2 hb5
  have z0 := l0.other ⟨w1.heap.size, 4, none⟩ (by show w.heap.size ≠ w1.heap.size; omega) (.slice a2 (g.size.length + 1) c2)
  have z1 := l1.other ⟨w1.heap.size, 4, none⟩ (by show w.heap.size + 1 ≠ w1.heap.size; omega) (.slice a2 (g.size.length + 1) c2)
  have z2 : Blk (w4.setCell ⟨w1.heap.size, 4, none⟩ (.slice a2 (g.size.length + 1) c2)) w1.heap.size [.int .i64 (g.kind : Int), .int .i64 (g.level : Int), .slice pa g.pairs.length pc, .slice ca g.counts.length cc, .slice a2 (g.size.length + 1) c2] 78 := l2.set 4 (.slice a2 (g.size.length + 1) c2)
  have hbX := hb6.setCell (p := ⟨w1.heap.size, 4, none⟩) (by show w.heap.size ≤ w1.heap.size; omega) (.slice a2 (g.size.length + 1) c2)
  have hRX : RdR (w4.setCell ⟨w1.heap.size, 4, none⟩ (.slice a2 (g.size.length + 1) c2)) (.slice pa g.pairs.length pc) (.slice ca g.counts.length cc) (.slice a2 (g.size.length + 1) c2) (⟨g.kind, g.level, g.pairs, g.counts, g.size ++ [0]⟩ : Wk.RGeo) := by
    refine ⟨(Hg.out.call hbX).1, (Hg.out.call hbX).2.1, ?_⟩
    have := (RdT.of_own Own3.out).keep (KeepT.set (T := 3) ⟨w1.heap.size, 4, none⟩ l2 (by decide) (.slice a2 (g.size.length + 1) c2))
    simpa [intsN] using this
  obtain ⟨a0, a1, a2'⟩ := cells3 l0
  obtain ⟨b0, b1, b2, b3, b4⟩ := cells5 l2
  obtain ⟨f0, f1, f2, f3, f4⟩ := frozen5 l2
  have Z0 := Lib.hid z0
  have Z1 := Lib.hid z1
  have Z2 := Lib.hid z2
  have HbX := Lib.hid hbX
  have HRX := Lib.hid hRX
  clear z0 z1 z2 hbX hRX l0 l1 l2 hb6 Own3
  cases hkd : ((kd : Int) == 1) with
  | false =>
    have hem : Wk.isEmpty kd t.data.toList = false := by
      have := ne_of_beq_false hkd
      unfold Wk.isEmpty; rw [show (kd == 1) = false by simp; omega]; rfl
    rw [hem, if_neg (by simp)] at Hr
    have N1 := Z1
    go_wp2_with fail
    refine (with_any _ 6 lev (.slice ova ovn ovc) o g (⟨g.kind, g.level, g.pairs, g.counts, g.size ++ [0]⟩ : Wk.RGeo) _ _ _ (.slice pa g.pairs.length pc) (.slice ca g.counts.length cc) (.slice a2 (g.size.length + 1) c2) _ (Hh.out.call HbX.out) HRX.out ho).mono ?_
    rintro e wz ⟨ov', rfl, hZ, hbz⟩
    obtain ⟨ox, oy, oz, rfl⟩ := hZ.form
    have n6 := N1.out.call hbz
    have hbw6 := HbX.out.trans (hbz.mono HbX.out.size)
    obtain ⟨y0, y1, y2⟩ := cells3 n6
    obtain ⟨f0, f1, f2, _, _⟩ := frozen5 n6
    have N6 := Lib.hid n6
    have HZ := Lib.hid hZ
    have Hbw6 := Lib.hid hbw6
    clear hZ hbz hbw6 n6
    go_wp2_with fail
    obtain ⟨kp, _, _⟩ := three N6.out (.int .i64 6) (.int .i64 (lev : Int)) (.slice ox oy oz)
    have hbf := below3 (b := w.heap.size + 1) Hbw6.out (Nat.le_succ _) (.int .i64 6) (.int .i64 (lev : Int)) (.slice ox oy oz)
    refine bodyPost_ret (v := .tuple #[.agg #[.int .i64 6, .int .i64 (lev : Int), .slice ox oy oz], .bool ((kd : Int) == 3)]) (by simp [results, Try.results24, go_sem, *]) rfl ⟨⟨_, _, _, _, _, _, rfl, ?_⟩, hbf⟩
    rw [Hr.out]
    by_cases h3 : kd = 3
    · rw [if_pos h3]; exact ⟨by subst h3; rfl, (RdS.of (a := 6) HZ.out).keep (kp _ (by decide)) (kp _ (by decide)) (kp _ (by decide))⟩
    · rw [if_neg h3]; simp; omega
  | true =>
    have hk1' : kd = 1 := by have := eq_of_beq hkd; omega
    subst hk1'
    go_wp2_with fail
    obtain ⟨XX, hXX⟩ : ∃ XX, (w4.setCell ⟨w1.heap.size, 4, none⟩ (.slice a2 (g.size.length + 1) c2)) = XX := ⟨_, rfl⟩
    rw [hXX] at Z0 Z1 Z2 HbX HRX ⊢
    clear hXX a0 a1 a2' b0 b1 b2 b3 b4 f0 f1 f2 f3 f4
    refine (rupper_any t XX ht).mono ?_
    rintro e W3 ⟨ru, rfl, Hu, hb3⟩
    have z0 := Z0.out.call hb3
    have z2 := Z2.out.call hb3
    have N1 := Lib.hid (Z1.out.call hb3)
    have HbX' := Lib.hid (HbX.out.trans (hb3.mono HbX.out.size))
    have HRX' := Lib.hid (HRX.out.call hb3)
    have hem : Wk.isEmpty 1 t.data.toList = (ru.toList == [69, 77, 80, 84, 89]) := by rw [empty_iff ru t.data.toList Hu.out]; rfl
    rw [hem] at Hr
    obtain ⟨a0, a1, a2'⟩ := cells3 z0
    obtain ⟨b0, b1, b2, b3, b4⟩ := cells5 z2
    clear hb3 hem Hu z0 z2 HbX HRX
    have HbX := HbX'
    have HRX := HRX'
    clear HbX' HRX'
    cases hcmp : (ru.toList == [69, 77, 80, 84, 89]) with
    | true =>
      rw [hcmp, if_pos rfl] at Hr
      go_wp2_with fail
      refine (with_any _ 9 lev (.slice ova ovn ovc) o g (⟨g.kind, g.level, g.pairs, g.counts, g.size ++ [0]⟩ : Wk.RGeo) _ _ _ (.slice pa g.pairs.length pc) (.slice ca g.counts.length cc) (.slice a2 (g.size.length + 1) c2) W3 (Hh.out.call HbX.out) HRX.out ho).mono ?_
      rintro e wz ⟨ov', rfl, hZ, hbz⟩
      obtain ⟨ox, oy, oz, rfl⟩ := hZ.form
      have n6 := N1.out.call hbz
      have hbw6 := HbX.out.trans (hbz.mono HbX.out.size)
      obtain ⟨y0, y1, y2⟩ := cells3 n6
      obtain ⟨f0, f1, f2, _, _⟩ := frozen5 n6
      have N6 := Lib.hid n6
      have HZ := Lib.hid hZ
      have Hbw6 := Lib.hid hbw6
      clear hZ hbz hbw6 n6
      go_wp2_with fail
      obtain ⟨kp, _, _⟩ := three N6.out (.int .i64 9) (.int .i64 (lev : Int)) (.slice ox oy oz)
      have hbf := below3 (b := w.heap.size + 1) Hbw6.out (Nat.le_succ _) (.int .i64 9) (.int .i64 (lev : Int)) (.slice ox oy oz)
      refine bodyPost_ret (v := .tuple #[.agg #[.int .i64 9, .int .i64 (lev : Int), .slice ox oy oz], .bool true]) (by simp [results, Try.results24, go_sem, *]) rfl ⟨⟨_, _, _, _, _, _, rfl, ?_⟩, hbf⟩
      rw [Hr.out]
      exact ⟨rfl, (RdS.of (a := 9) HZ.out).keep (kp _ (by decide)) (kp _ (by decide)) (kp _ (by decide))⟩
    | false =>
      rw [hcmp, if_neg (by simp), if_neg (by decide)] at Hr
      go_wp2_with fail
      refine (with_any _ 6 lev (.slice ova ovn ovc) o g (⟨g.kind, g.level, g.pairs, g.counts, g.size ++ [0]⟩ : Wk.RGeo) _ _ _ (.slice pa g.pairs.length pc) (.slice ca g.counts.length cc) (.slice a2 (g.size.length + 1) c2) W3 (Hh.out.call HbX.out) HRX.out ho).mono ?_
      rintro e wz ⟨ov', rfl, hZ, hbz⟩
      obtain ⟨ox, oy, oz, rfl⟩ := hZ.form
      have n6 := N1.out.call hbz
      have hbw6 := HbX.out.trans (hbz.mono HbX.out.size)
      obtain ⟨y0, y1, y2⟩ := cells3 n6
      obtain ⟨f0, f1, f2, _, _⟩ := frozen5 n6
      have N6 := Lib.hid n6
      have HZ := Lib.hid hZ
      have Hbw6 := Lib.hid hbw6
      clear hZ hbz hbw6 n6
      go_wp2_with fail
      obtain ⟨kp, _, _⟩ := three N6.out (.int .i64 6) (.int .i64 (lev : Int)) (.slice ox oy oz)
      have hbf := below3 (b := w.heap.size + 1) Hbw6.out (Nat.le_succ _) (.int .i64 6) (.int .i64 (lev : Int)) (.slice ox oy oz)
      refine bodyPost_ret (v := .tuple #[.agg #[.int .i64 6, .int .i64 (lev : Int), .slice ox oy oz], .bool false]) (by simp [results, Try.results24, go_sem, *]) rfl ⟨⟨_, _, _, _, _, _, rfl, ?_⟩, hbf⟩
      rw [Hr.out]
end Go.Proofs.Ytegkdkilbnighaa
