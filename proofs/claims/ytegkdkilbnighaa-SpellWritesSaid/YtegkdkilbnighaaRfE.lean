import Derived.Test.YtegkdkilbnighaaRfD
import Derived.Deep.RegionHeld3
set_option linter.unusedVariables false
set_option linter.unusedSimpArgs false
namespace Go.Proofs.Ytegkdkilbnighaa
open Go.RowKit Go.Rg
attribute [local go_sem] Oper.semAt_some

theorem RdZ.form {w : World} {ov : Value} {o : List Wk.RGeo} {g : Wk.RGeo} {pv cv sv : Value} (h : RdZ w ov o g pv cv sv) : ∃ a n c, ov = .slice a n c := by
  obtain ⟨co, b, _⟩ := h; obtain ⟨a, c, e⟩ := pair_form (R := 0) b; exact ⟨_, _, _, e⟩
theorem empty_iff (r : ByteArray) (t : Lx.Str) (h : r.data.toList = Lx.upper t) : (r.toList == [69, 77, 80, 84, 89]) = (Lx.upper t == Wk.emptyWord) := by
  rw [Lib.toList_data, h]; rfl

set_option maxRecDepth 100000 in
set_option maxHeartbeats 8000000 in
theorem mbody_any (lev kd : Nat) (t : ByteArray) (hlev : lev ≤ 1000000) (ht : t.size ≤ 100000) (ov : Value) (o : List Wk.RGeo) (g : Wk.RGeo) (pv cv sv : Value) (w : World) (h : RdZ w ov o g pv cv sv) (ho : o.length ≤ 1000000) (hk : g.kind ≤ 7) (hk1 : 1 ≤ g.kind) (hcn : g.counts.length ≤ 1000000) :
    Calls Try.prog 49 #[.agg #[.int .i64 2, .int .i64 (lev : Int), ov], .int .i64 (kd : Int), .string t] w fun e w' => StepR w' e (Wk.mbody ⟨2, lev, o ++ [g]⟩ kd t.data.toList) ∧ Below w.heap.size w w' := by
  have hS : ∀ (b l : Nat) w', Below w.heap.size w w' → RdS w' (.agg #[.int .i64 (b : Int), .int .i64 (l : Int), ov]) ⟨b, l, o ++ [g]⟩ := fun b l w' hb => .of (h.call hb)
  have HS := Lib.hid hS
  have Hh := Lib.hid h
  obtain ⟨ova, ovn, ovc, rfl⟩ : ∃ a n c, ov = .slice a n c := by obtain ⟨co, b, _⟩ := h; obtain ⟨a, c, e⟩ := pair_form (R := 0) b; exact ⟨_, _, _, e⟩
  obtain ⟨co', hb', hc', hg'⟩ := h
  obtain ⟨pa, pc, rfl⟩ := pair_form (R := 0) hg'.1
  obtain ⟨ca, cc, rfl⟩ := pair_form (R := 0) hg'.2.1
  obtain ⟨sa, sc, rfl⟩ := pair_form (R := 0) hg'.2.2
  have Hg := Lib.hid hg'
  clear hb' hc' hg' co' hS
  have hl : Wk.last ⟨2, lev, o ++ [g]⟩ = g := by unfold Wk.last; simp
  have hr0 : Wk.mbody ⟨2, lev, o ++ [g]⟩ kd t.data.toList = if Wk.isEmpty kd t.data.toList then some ⟨10, lev, o ++ [g]⟩ else if kd ≠ 3 then none else if g.kind = 7 then some ⟨1, lev + 1, o ++ [g]⟩ else some ⟨Wk.mnext (Wk.deeper g.kind), lev, o ++ [if Wk.deeper g.kind ≤ 2 then Wk.more g else g]⟩ := by
    unfold Wk.mbody
    rw [hl]
    simp [Wk.setLast]
  obtain ⟨r, hr⟩ : ∃ r, r = Wk.mbody ⟨2, lev, o ++ [g]⟩ kd t.data.toList := ⟨_, rfl⟩
  rw [hr0] at hr
  rw [hr0, ← hr]
  have Hr := Lib.hid hr
  clear hr hr0 hl
  go_enter Try.func49, Try.ntmps49
  go_wp2_with fail
  obtain ⟨W0, hW0, B0, B1, hBel, hz0⟩ := st_blk w (.int .i64 2) (.int .i64 (lev : Int)) (.slice ova ovn ovc)
  rw [hW0]
  refine (last_any 2 lev (.slice ova ovn ovc) o g _ _ _ W0 (Hh.out.call hBel) ho).mono ?_
  rintro e w1 ⟨rfl, hb1⟩
  have j0 := B0.call hb1
  have j1 := B1.call hb1
  have hbw1 := hBel.trans (hb1.mono hBel.size)
  have hz1 : w.heap.size + 2 ≤ w1.heap.size := Nat.le_trans hz0 hb1.size
  unfold rgV
  clear hb1 hBel hW0 B0 B1
  -- the geometry's own box
  have hb2 : Below w.heap.size w (w1.alloc (.cells #[.int .i64 (g.kind : Int), .int .i64 (g.level : Int), .slice pa g.pairs.length pc, .slice ca g.counts.length cc, .slice sa g.size.length sc] 78)) := hbw1.alloc hbw1.size _
  have B2 := Blk.new w1 [.int .i64 (g.kind : Int), .int .i64 (g.level : Int), .slice pa g.pairs.length pc, .slice ca g.counts.length cc, .slice sa g.size.length sc] 78
  have k0 := j0.alloc (.cells #[.int .i64 (g.kind : Int), .int .i64 (g.level : Int), .slice pa g.pairs.length pc, .slice ca g.counts.length cc, .slice sa g.size.length sc] 78)
  have k1 := j1.alloc (.cells #[.int .i64 (g.kind : Int), .int .i64 (g.level : Int), .slice pa g.pairs.length pc, .slice ca g.counts.length cc, .slice sa g.size.length sc] 78)
  obtain ⟨W2, hW2⟩ : ∃ W2, w1.alloc (.cells #[.int .i64 (g.kind : Int), .int .i64 (g.level : Int), .slice pa g.pairs.length pc, .slice ca g.counts.length cc, .slice sa g.size.length sc] 78) = W2 := ⟨_, rfl⟩
  have hz2 : W2.heap.size = w1.heap.size + 1 := by rw [← hW2]; simp
  rw [hW2] at hb2 B2 k0 k1
  have hz2' : w1.heap.size + 1 ≤ W2.heap.size := by omega
  clear j0 j1 hbw1 hz2
  cases hkd : ((kd : Int) == 1) with
  | false =>
    have hem : Wk.isEmpty kd t.data.toList = false := by
      have := ne_of_beq_false hkd
      unfold Wk.isEmpty; rw [show (kd == 1) = false by simp; omega]; rfl
    rw [hem] at Hr
    have hbW := hb2
    obtain ⟨c0, c1, c2⟩ := cells3 k0
    obtain ⟨e0, e1, e2⟩ := cells3 k1
    obtain ⟨q0, q1, q2, q3, q4⟩ := cells5 B2
    obtain ⟨g0, g1, g2, _, _⟩ := frozen5 k0
    obtain ⟨f0, f1, f2, _, _⟩ := frozen5 k1
    have HbW := Lib.hid hbW
    clear hbW
    by_cases h3 : kd ≠ 3
    · have e3 : ((kd : Int) != 3) = true := by simp; omega
      clear k0 k1 B2
      go_wp2_with fail
      have hbf := below3 (b := w.heap.size + 1) HbW.out (Nat.le_succ _) (.int .i64 2) (.int .i64 (lev : Int)) (.slice ova ovn ovc)
      refine bodyPost_ret (v := .tuple #[.agg #[.int .i64 2, .int .i64 (lev : Int), .slice ova ovn ovc], .bool false]) (by simp [results, Try.results49, go_sem, *]) rfl ⟨⟨_, _, _, _, _, _, rfl, ?_⟩, hbf⟩
      rw [Hr.out, if_neg (by simp), if_pos h3]
    · have h3' : kd = 3 := by omega
      subst h3'
      by_cases h7 : g.kind = 7
      · have e7 : ((g.kind : Int) == 7) = true := by rw [h7]; rfl
        have H7 := Lib.hid h7
        clear k0 k1 B2 h7
        go_wp2_with fail
        have hbf := below3 (b := w.heap.size + 1) ((HbW.out.setCell (p := ⟨w.heap.size, 1, none⟩) (Nat.le_refl _) (.int .i64 ((lev : Int) + 1))).setCell (p := ⟨w.heap.size, 0, none⟩) (Nat.le_refl _) (.int .i64 1)) (Nat.le_succ _) (.int .i64 1) (.int .i64 ((lev : Int) + 1)) (.slice ova ovn ovc)
        refine bodyPost_ret (v := .tuple #[.agg #[.int .i64 1, .int .i64 ((lev : Int) + 1), .slice ova ovn ovc], .bool true]) (by simp [results, Try.results49, go_sem, *]) rfl ⟨⟨_, _, _, _, _, _, rfl, ?_⟩, hbf⟩
        rw [Hr.out, if_neg (by simp), if_neg (by simp), if_pos H7.out]
        exact ⟨rfl, HS.out 1 (lev + 1) _ hbf⟩
      · have e7 : ((g.kind : Int) == 7) = false := by simp; omega
        have hk6 : g.kind ≤ 6 := by omega
        rw [if_neg (by simp), if_neg (by simp), if_neg h7] at Hr
        obtain ⟨A1, A2, A3, A4⟩ := olds W2 w.heap.size (by omega)
        obtain ⟨A5, A6, A7, A8⟩ := olds W2 (w.heap.size + 1) (by omega)
        obtain ⟨A9, A10, A11, A12⟩ := olds W2 w1.heap.size (by omega)
        go_wp2_with fail
        have arr := Blk.new W2 [.int .i64 0, .int .i64 3, .int .i64 3, .int .i64 6, .int .i64 11, .int .i64 8] 126
        have m0 := k0.alloc (.cells #[.int .i64 0, .int .i64 3, .int .i64 3, .int .i64 6, .int .i64 11, .int .i64 8] 126)
        have m1 := k1.alloc (.cells #[.int .i64 0, .int .i64 3, .int .i64 3, .int .i64 6, .int .i64 11, .int .i64 8] 126)
        have mg := B2.alloc (.cells #[.int .i64 0, .int .i64 3, .int .i64 3, .int .i64 6, .int .i64 11, .int .i64 8] 126)
        have hbA : Below w.heap.size w (W2.alloc (.cells #[.int .i64 0, .int .i64 3, .int .i64 3, .int .i64 6, .int .i64 11, .int .i64 8] 126)) := HbW.out.alloc (by omega) _
        have hzA : W2.heap.size + 1 ≤ (W2.alloc (.cells #[.int .i64 0, .int .i64 3, .int .i64 3, .int .i64 6, .int .i64 11, .int .i64 8] 126)).heap.size := by simp
        refine (deeper_any g.kind hk6 _).mono ?_
        rintro e w4 ⟨rfl, hb4⟩
        have n0 := m0.call hb4
        have n1 := m1.call hb4
        have ng := mg.call hb4
        have na := arr.call hb4
        have hb4' := hbA.trans (hb4.mono hbA.size)
        have hz4 : W2.heap.size + 1 ≤ w4.heap.size := Nat.le_trans hzA hb4.size
        obtain ⟨d, hd⟩ : ∃ d, d = Wk.deeper g.kind := ⟨_, rfl⟩
        have hd5 : 1 ≤ d ∧ d ≤ 5 := by
          rw [hd]
          have : g.kind = 1 ∨ g.kind = 2 ∨ g.kind = 3 ∨ g.kind = 4 ∨ g.kind = 5 ∨ g.kind = 6 := by omega
          rcases this with h | h | h | h | h | h <;> rw [h] <;> decide
        rw [← hd]
        rw [← hd] at Hr
        have Hd := Lib.hid hd
        have Hb4 := Lib.hid hb4'
        clear A1 A2 A3 A4 A5 A6 A7 A8 A9 A10 A11 A12 m0 m1 mg arr hbA hb4 hb4' hd k0 k1 B2 c0 c1 c2 e0 e1 e2 q0 q1 q2 q3 q4 f0 f1 f2 g0 g1 g2
        have dd : d = 1 ∨ d = 2 ∨ d = 3 ∨ d = 4 ∨ d = 5 := by omega
        clear hd5
        rcases dd with rfl | rfl | rfl | rfl | rfl
        · have e2 : (((1 : Nat) : Int) ≤ 2) := by decide
          obtain ⟨x0, x1, x2⟩ := cells3 n0
          obtain ⟨v0, v1, v2, v3, v4⟩ := cells5 ng
          go_wp2_with fail
          refine (more_any g _ _ _ w4 (Hg.out.call Hb4.out) hcn).mono ?_
          rintro e w7 ⟨cv', rfl, hR7, hb7⟩
          obtain ⟨ca2, cc2, rfl⟩ := pair_form (R := 0) hR7.2.1
          have hlm : (Wk.more g).counts.length = g.counts.length + 1 := by simp [Wk.more]
          rw [hlm]
          have hkm : (Wk.more g).kind = g.kind := rfl
          have hkl : (Wk.more g).level = g.level := rfl
          unfold rgV
          rw [hkm, hkl]
          have p0 := n0.call hb7
          have p1 := n1.call hb7
          have pg := ng.call hb7
          have pa' := na.call hb7
          have hb47 := Hb4.out.trans (hb7.mono Hb4.out.size)
          have hz7 : W2.heap.size + 1 ≤ w7.heap.size := Nat.le_trans hz4 hb7.size
          obtain ⟨kp7, bl7, pg7⟩ := five pg (.int .i64 (g.kind : Int)) (.int .i64 (g.level : Int)) (.slice pa g.pairs.length pc) (.slice ca2 (g.counts.length + 1) cc2) (.slice sa g.size.length sc)
          have pz := five_other p0 (b := w1.heap.size) (by omega) (.int .i64 (g.kind : Int)) (.int .i64 (g.level : Int)) (.slice pa g.pairs.length pc) (.slice ca2 (g.counts.length + 1) cc2) (.slice sa g.size.length sc)
          have pr := five_other p1 (b := w1.heap.size) (by omega) (.int .i64 (g.kind : Int)) (.int .i64 (g.level : Int)) (.slice pa g.pairs.length pc) (.slice ca2 (g.counts.length + 1) cc2) (.slice sa g.size.length sc)
          have pn := five_other pa' (b := w1.heap.size) (by omega) (.int .i64 (g.kind : Int)) (.int .i64 (g.level : Int)) (.slice pa g.pairs.length pc) (.slice ca2 (g.counts.length + 1) cc2) (.slice sa g.size.length sc)
          have hbX := hb47.trans (bl7 w.heap.size (by omega))
          have hRX : RdR _ _ _ _ (Wk.more g) := hR7.keep (kp7 _ (by decide)) (kp7 _ (by decide))
          rw [hlm] at hRX
          obtain ⟨t0, t1, t2, t3, t4⟩ := cells5 pg
          obtain ⟨s0, s1, s2, s3, s4⟩ := frozen5 pg
          have hsX := hz7
          obtain ⟨X5, hX5⟩ : ∃ X5, (((((w7.setCell ⟨w1.heap.size, 0, none⟩ (.int .i64 (g.kind : Int))).setCell ⟨w1.heap.size, 1, none⟩ (.int .i64 (g.level : Int))).setCell ⟨w1.heap.size, 2, none⟩ (.slice pa g.pairs.length pc)).setCell ⟨w1.heap.size, 3, none⟩ (.slice ca2 (g.counts.length + 1) cc2)).setCell ⟨w1.heap.size, 4, none⟩ (.slice sa g.size.length sc)) = X5 := ⟨_, rfl⟩
          have hzX : W2.heap.size + 1 ≤ X5.heap.size := by rw [← hX5]; simpa [World.setCell] using hz7
          rw [hX5] at pz pr pn hbX hRX pg7
          have HX5 := Lib.hid hX5
          have HbX := Lib.hid hbX
          have HRX := Lib.hid hRX
          clear hX5 hbX hRX kp7 bl7 pg p0 p1 pa' hb47 hb7 hR7 n0 n1 ng na x0 x1 x2 v0 v1 v2 v3 v4 hkm hkl hlm e2
          go_wp2_with fail
          rw [HX5.out]
          clear t0 t1 t2 t3 t4 s0 s1 s2 s3 s4 HX5
          have n0 := pz
          have n1 := pr
          have ng := pg7
          have na := pn
          simp only [List.set_cons_zero, List.set_cons_succ] at ng
          obtain ⟨x0, x1, x2⟩ := cells3 n0
          obtain ⟨y0, y1, y2⟩ := cells3 n1
          obtain ⟨v0, v1, v2, v3, v4⟩ := cells5 ng
          obtain ⟨u0, u1, u2, _, _⟩ := frozen5 n1
          have an : X5.cell? ⟨W2.heap.size, 1, none⟩ = some (.int .i64 3) := na.cell rfl
          clear pz pr pn pg7
          have N1 := Lib.hid n1
          clear n0 n1 ng na
          have hz5 : ∀ w5 : World, Below X5.drew.heap.size X5.drew w5 → X5.heap.size ≤ w5.heap.size := fun w5 h => h.size
          go_region_held3 (fun w' => w'.cell? ⟨w.heap.size, 0, none⟩ = some (.int .i64 2) ∧ w'.cell? ⟨w.heap.size, 1, none⟩ = some (.int .i64 (lev : Int)) ∧ w'.cell? ⟨w.heap.size, 2, none⟩ = some (.slice ova ovn ovc) ∧
              w'.cell? ⟨w1.heap.size, 0, none⟩ = some (.int .i64 (g.kind : Int)) ∧ w'.cell? ⟨w1.heap.size, 1, none⟩ = some (.int .i64 (g.level : Int)) ∧ w'.cell? ⟨w1.heap.size, 2, none⟩ = some (.slice pa g.pairs.length pc) ∧ w'.cell? ⟨w1.heap.size, 3, none⟩ = some (.slice ca2 (g.counts.length + 1) cc2) ∧ w'.cell? ⟨w1.heap.size, 4, none⟩ = some (.slice sa g.size.length sc) ∧
              w'.cell? ⟨W2.heap.size, 1, none⟩ = some (.int .i64 3))
            (first
              | exact ⟨keepc hb5 (by show _ < X5.heap.size; omega) x0, keepc hb5 (by show _ < X5.heap.size; omega) x1, keepc hb5 (by show _ < X5.heap.size; omega) x2, keepc hb5 (by show _ < X5.heap.size; omega) v0, keepc hb5 (by show _ < X5.heap.size; omega) v1, keepc hb5 (by show _ < X5.heap.size; omega) v2, keepc hb5 (by show _ < X5.heap.size; omega) v3, keepc hb5 (by show _ < X5.heap.size; omega) v4, keepc hb5 (by show _ < X5.heap.size; omega) an⟩
              | exact ⟨keepc hb6 (by show _ < _; omega) (keepc hb5 (by show _ < X5.heap.size; omega) x0), keepc hb6 (by show _ < _; omega) (keepc hb5 (by show _ < X5.heap.size; omega) x1), keepc hb6 (by show _ < _; omega) (keepc hb5 (by show _ < X5.heap.size; omega) x2), keepc hb6 (by show _ < _; omega) (keepc hb5 (by show _ < X5.heap.size; omega) v0), keepc hb6 (by show _ < _; omega) (keepc hb5 (by show _ < X5.heap.size; omega) v1), keepc hb6 (by show _ < _; omega) (keepc hb5 (by show _ < X5.heap.size; omega) v2), keepc hb6 (by show _ < _; omega) (keepc hb5 (by show _ < X5.heap.size; omega) v3), keepc hb6 (by show _ < _; omega) (keepc hb5 (by show _ < X5.heap.size; omega) v4), keepc hb6 (by show _ < _; omega) (keepc hb5 (by show _ < X5.heap.size; omega) an)⟩
              | exact ⟨keeps3 (by omega) (keepc hb6 (by show _ < _; omega) (keepc hb5 (by show _ < X5.heap.size; omega) x0)), keeps3 (by omega) (keepc hb6 (by show _ < _; omega) (keepc hb5 (by show _ < X5.heap.size; omega) x1)), keeps3 (by omega) (keepc hb6 (by show _ < _; omega) (keepc hb5 (by show _ < X5.heap.size; omega) x2)), keeps3 (by omega) (keepc hb6 (by show _ < _; omega) (keepc hb5 (by show _ < X5.heap.size; omega) v0)), keeps3 (by omega) (keepc hb6 (by show _ < _; omega) (keepc hb5 (by show _ < X5.heap.size; omega) v1)), keeps3 (by omega) (keepc hb6 (by show _ < _; omega) (keepc hb5 (by show _ < X5.heap.size; omega) v2)), keeps3 (by omega) (keepc hb6 (by show _ < _; omega) (keepc hb5 (by show _ < X5.heap.size; omega) v3)), keeps3 (by omega) (keepc hb6 (by show _ < _; omega) (keepc hb5 (by show _ < X5.heap.size; omega) v4)), keeps3 (by omega) (keepc hb6 (by show _ < _; omega) (keepc hb5 (by show _ < X5.heap.size; omega) an))⟩
              | go_keep)
            ((first | (go_at_call 51; refine (deeper_any g.kind hk6 _).mono ?_; rintro e w5 ⟨rfl, hb5⟩; rw [← Hd.out]; have hz5' := hz5 w5 hb5) | (go_at_call 52; refine (with_any 2 3 lev (.slice ova ovn ovc) o g (Wk.more g) _ _ _ _ _ _ _ (((Hh.out.call HbX.out).call ((Below.refl _ X5).drew)).call hb5) ((HRX.out.call ((Below.refl _ X5).drew)).call hb5) ho).mono ?_; rintro e w6 ⟨ov', rfl, hZ6, hb6⟩; obtain ⟨ox, oy, oz, rfl⟩ := hZ6.form; have Y0 := keepc hb6 (by show _ < _; omega) (keepc hb5 (by show _ < X5.heap.size; omega) y0); have Y1 := keepc hb6 (by show _ < _; omega) (keepc hb5 (by show _ < X5.heap.size; omega) y1); have Y2 := keepc hb6 (by show _ < _; omega) (keepc hb5 (by show _ < X5.heap.size; omega) y2); have U0 := keepf hb6 (by show _ < _; omega) (keepf hb5 (by show _ < X5.heap.size; omega) u0); have U1 := keepf hb6 (by show _ < _; omega) (keepf hb5 (by show _ < X5.heap.size; omega) u1); have U2 := keepf hb6 (by show _ < _; omega) (keepf hb5 (by show _ < X5.heap.size; omega) u2))))
          have HZ6 := Lib.hid hZ6
          have N6 := Lib.hid (((show Blk X5.drew (w.heap.size + 1) [.int .i64 0, .int .i64 0, .slice none 0 0] 62 from N1.out).call hb5).call hb6)
          have hbw6 : Below w.heap.size w w6 := ((HbX.out.drew).trans (hb5.mono HbX.out.size)).trans (hb6.mono (Nat.le_trans HbX.out.size hz5'))
          have Hbw6 := Lib.hid hbw6
          clear hZ6 hb5 hb6 hbw6
          go_wp2_with fail
          obtain ⟨kp, _, _⟩ := three N6.out (.int .i64 3) (.int .i64 (lev : Int)) (.slice ox oy oz)
          have hbf := below3 (b := w.heap.size + 1) Hbw6.out (Nat.le_succ _) (.int .i64 3) (.int .i64 (lev : Int)) (.slice ox oy oz)
          refine bodyPost_ret (v := .tuple #[.agg #[.int .i64 3, .int .i64 (lev : Int), .slice ox oy oz], .bool true]) (by simp [results, Try.results49, go_sem, *]) rfl ⟨⟨_, _, _, _, _, _, rfl, ?_⟩, hbf⟩
          rw [Hr.out]
          exact ⟨rfl, (RdS.of (a := 3) HZ6.out).keep (kp _ (by decide)) (kp _ (by decide)) (kp _ (by decide))⟩
        · have e2 : (((2 : Nat) : Int) ≤ 2) := by decide
          obtain ⟨x0, x1, x2⟩ := cells3 n0
          obtain ⟨v0, v1, v2, v3, v4⟩ := cells5 ng
          go_wp2_with fail
          refine (more_any g _ _ _ w4 (Hg.out.call Hb4.out) hcn).mono ?_
          rintro e w7 ⟨cv', rfl, hR7, hb7⟩
          obtain ⟨ca2, cc2, rfl⟩ := pair_form (R := 0) hR7.2.1
          have hlm : (Wk.more g).counts.length = g.counts.length + 1 := by simp [Wk.more]
          rw [hlm]
          have hkm : (Wk.more g).kind = g.kind := rfl
          have hkl : (Wk.more g).level = g.level := rfl
          unfold rgV
          rw [hkm, hkl]
          have p0 := n0.call hb7
          have p1 := n1.call hb7
          have pg := ng.call hb7
          have pa' := na.call hb7
          have hb47 := Hb4.out.trans (hb7.mono Hb4.out.size)
          have hz7 : W2.heap.size + 1 ≤ w7.heap.size := Nat.le_trans hz4 hb7.size
          obtain ⟨kp7, bl7, pg7⟩ := five pg (.int .i64 (g.kind : Int)) (.int .i64 (g.level : Int)) (.slice pa g.pairs.length pc) (.slice ca2 (g.counts.length + 1) cc2) (.slice sa g.size.length sc)
          have pz := five_other p0 (b := w1.heap.size) (by omega) (.int .i64 (g.kind : Int)) (.int .i64 (g.level : Int)) (.slice pa g.pairs.length pc) (.slice ca2 (g.counts.length + 1) cc2) (.slice sa g.size.length sc)
          have pr := five_other p1 (b := w1.heap.size) (by omega) (.int .i64 (g.kind : Int)) (.int .i64 (g.level : Int)) (.slice pa g.pairs.length pc) (.slice ca2 (g.counts.length + 1) cc2) (.slice sa g.size.length sc)
          have pn := five_other pa' (b := w1.heap.size) (by omega) (.int .i64 (g.kind : Int)) (.int .i64 (g.level : Int)) (.slice pa g.pairs.length pc) (.slice ca2 (g.counts.length + 1) cc2) (.slice sa g.size.length sc)
          have hbX := hb47.trans (bl7 w.heap.size (by omega))
          have hRX : RdR _ _ _ _ (Wk.more g) := hR7.keep (kp7 _ (by decide)) (kp7 _ (by decide))
          rw [hlm] at hRX
          obtain ⟨t0, t1, t2, t3, t4⟩ := cells5 pg
          obtain ⟨s0, s1, s2, s3, s4⟩ := frozen5 pg
          have hsX := hz7
          obtain ⟨X5, hX5⟩ : ∃ X5, (((((w7.setCell ⟨w1.heap.size, 0, none⟩ (.int .i64 (g.kind : Int))).setCell ⟨w1.heap.size, 1, none⟩ (.int .i64 (g.level : Int))).setCell ⟨w1.heap.size, 2, none⟩ (.slice pa g.pairs.length pc)).setCell ⟨w1.heap.size, 3, none⟩ (.slice ca2 (g.counts.length + 1) cc2)).setCell ⟨w1.heap.size, 4, none⟩ (.slice sa g.size.length sc)) = X5 := ⟨_, rfl⟩
          have hzX : W2.heap.size + 1 ≤ X5.heap.size := by rw [← hX5]; simpa [World.setCell] using hz7
          rw [hX5] at pz pr pn hbX hRX pg7
          have HX5 := Lib.hid hX5
          have HbX := Lib.hid hbX
          have HRX := Lib.hid hRX
          clear hX5 hbX hRX kp7 bl7 pg p0 p1 pa' hb47 hb7 hR7 n0 n1 ng na x0 x1 x2 v0 v1 v2 v3 v4 hkm hkl hlm e2
          go_wp2_with fail
          rw [HX5.out]
          clear t0 t1 t2 t3 t4 s0 s1 s2 s3 s4 HX5
          have n0 := pz
          have n1 := pr
          have ng := pg7
          have na := pn
          simp only [List.set_cons_zero, List.set_cons_succ] at ng
          obtain ⟨x0, x1, x2⟩ := cells3 n0
          obtain ⟨y0, y1, y2⟩ := cells3 n1
          obtain ⟨v0, v1, v2, v3, v4⟩ := cells5 ng
          obtain ⟨u0, u1, u2, _, _⟩ := frozen5 n1
          have an : X5.cell? ⟨W2.heap.size, 2, none⟩ = some (.int .i64 3) := na.cell rfl
          clear pz pr pn pg7
          have N1 := Lib.hid n1
          clear n0 n1 ng na
          have hz5 : ∀ w5 : World, Below X5.drew.heap.size X5.drew w5 → X5.heap.size ≤ w5.heap.size := fun w5 h => h.size
          go_region_held3 (fun w' => w'.cell? ⟨w.heap.size, 0, none⟩ = some (.int .i64 2) ∧ w'.cell? ⟨w.heap.size, 1, none⟩ = some (.int .i64 (lev : Int)) ∧ w'.cell? ⟨w.heap.size, 2, none⟩ = some (.slice ova ovn ovc) ∧
              w'.cell? ⟨w1.heap.size, 0, none⟩ = some (.int .i64 (g.kind : Int)) ∧ w'.cell? ⟨w1.heap.size, 1, none⟩ = some (.int .i64 (g.level : Int)) ∧ w'.cell? ⟨w1.heap.size, 2, none⟩ = some (.slice pa g.pairs.length pc) ∧ w'.cell? ⟨w1.heap.size, 3, none⟩ = some (.slice ca2 (g.counts.length + 1) cc2) ∧ w'.cell? ⟨w1.heap.size, 4, none⟩ = some (.slice sa g.size.length sc) ∧
              w'.cell? ⟨W2.heap.size, 2, none⟩ = some (.int .i64 3))
            (first
              | exact ⟨keepc hb5 (by show _ < X5.heap.size; omega) x0, keepc hb5 (by show _ < X5.heap.size; omega) x1, keepc hb5 (by show _ < X5.heap.size; omega) x2, keepc hb5 (by show _ < X5.heap.size; omega) v0, keepc hb5 (by show _ < X5.heap.size; omega) v1, keepc hb5 (by show _ < X5.heap.size; omega) v2, keepc hb5 (by show _ < X5.heap.size; omega) v3, keepc hb5 (by show _ < X5.heap.size; omega) v4, keepc hb5 (by show _ < X5.heap.size; omega) an⟩
              | exact ⟨keepc hb6 (by show _ < _; omega) (keepc hb5 (by show _ < X5.heap.size; omega) x0), keepc hb6 (by show _ < _; omega) (keepc hb5 (by show _ < X5.heap.size; omega) x1), keepc hb6 (by show _ < _; omega) (keepc hb5 (by show _ < X5.heap.size; omega) x2), keepc hb6 (by show _ < _; omega) (keepc hb5 (by show _ < X5.heap.size; omega) v0), keepc hb6 (by show _ < _; omega) (keepc hb5 (by show _ < X5.heap.size; omega) v1), keepc hb6 (by show _ < _; omega) (keepc hb5 (by show _ < X5.heap.size; omega) v2), keepc hb6 (by show _ < _; omega) (keepc hb5 (by show _ < X5.heap.size; omega) v3), keepc hb6 (by show _ < _; omega) (keepc hb5 (by show _ < X5.heap.size; omega) v4), keepc hb6 (by show _ < _; omega) (keepc hb5 (by show _ < X5.heap.size; omega) an)⟩
              | exact ⟨keeps3 (by omega) (keepc hb6 (by show _ < _; omega) (keepc hb5 (by show _ < X5.heap.size; omega) x0)), keeps3 (by omega) (keepc hb6 (by show _ < _; omega) (keepc hb5 (by show _ < X5.heap.size; omega) x1)), keeps3 (by omega) (keepc hb6 (by show _ < _; omega) (keepc hb5 (by show _ < X5.heap.size; omega) x2)), keeps3 (by omega) (keepc hb6 (by show _ < _; omega) (keepc hb5 (by show _ < X5.heap.size; omega) v0)), keeps3 (by omega) (keepc hb6 (by show _ < _; omega) (keepc hb5 (by show _ < X5.heap.size; omega) v1)), keeps3 (by omega) (keepc hb6 (by show _ < _; omega) (keepc hb5 (by show _ < X5.heap.size; omega) v2)), keeps3 (by omega) (keepc hb6 (by show _ < _; omega) (keepc hb5 (by show _ < X5.heap.size; omega) v3)), keeps3 (by omega) (keepc hb6 (by show _ < _; omega) (keepc hb5 (by show _ < X5.heap.size; omega) v4)), keeps3 (by omega) (keepc hb6 (by show _ < _; omega) (keepc hb5 (by show _ < X5.heap.size; omega) an))⟩
              | go_keep)
            ((first | (go_at_call 51; refine (deeper_any g.kind hk6 _).mono ?_; rintro e w5 ⟨rfl, hb5⟩; rw [← Hd.out]; have hz5' := hz5 w5 hb5) | (go_at_call 52; refine (with_any 2 3 lev (.slice ova ovn ovc) o g (Wk.more g) _ _ _ _ _ _ _ (((Hh.out.call HbX.out).call ((Below.refl _ X5).drew)).call hb5) ((HRX.out.call ((Below.refl _ X5).drew)).call hb5) ho).mono ?_; rintro e w6 ⟨ov', rfl, hZ6, hb6⟩; obtain ⟨ox, oy, oz, rfl⟩ := hZ6.form; have Y0 := keepc hb6 (by show _ < _; omega) (keepc hb5 (by show _ < X5.heap.size; omega) y0); have Y1 := keepc hb6 (by show _ < _; omega) (keepc hb5 (by show _ < X5.heap.size; omega) y1); have Y2 := keepc hb6 (by show _ < _; omega) (keepc hb5 (by show _ < X5.heap.size; omega) y2); have U0 := keepf hb6 (by show _ < _; omega) (keepf hb5 (by show _ < X5.heap.size; omega) u0); have U1 := keepf hb6 (by show _ < _; omega) (keepf hb5 (by show _ < X5.heap.size; omega) u1); have U2 := keepf hb6 (by show _ < _; omega) (keepf hb5 (by show _ < X5.heap.size; omega) u2))))
          have HZ6 := Lib.hid hZ6
          have N6 := Lib.hid (((show Blk X5.drew (w.heap.size + 1) [.int .i64 0, .int .i64 0, .slice none 0 0] 62 from N1.out).call hb5).call hb6)
          have hbw6 : Below w.heap.size w w6 := ((HbX.out.drew).trans (hb5.mono HbX.out.size)).trans (hb6.mono (Nat.le_trans HbX.out.size hz5'))
          have Hbw6 := Lib.hid hbw6
          clear hZ6 hb5 hb6 hbw6
          go_wp2_with fail
          obtain ⟨kp, _, _⟩ := three N6.out (.int .i64 3) (.int .i64 (lev : Int)) (.slice ox oy oz)
          have hbf := below3 (b := w.heap.size + 1) Hbw6.out (Nat.le_succ _) (.int .i64 3) (.int .i64 (lev : Int)) (.slice ox oy oz)
          refine bodyPost_ret (v := .tuple #[.agg #[.int .i64 3, .int .i64 (lev : Int), .slice ox oy oz], .bool true]) (by simp [results, Try.results49, go_sem, *]) rfl ⟨⟨_, _, _, _, _, _, rfl, ?_⟩, hbf⟩
          rw [Hr.out]
          exact ⟨rfl, (RdS.of (a := 3) HZ6.out).keep (kp _ (by decide)) (kp _ (by decide)) (kp _ (by decide))⟩
        · obtain ⟨x0, x1, x2⟩ := cells3 n0
          obtain ⟨y0, y1, y2⟩ := cells3 n1
          obtain ⟨v0, v1, v2, v3, v4⟩ := cells5 ng
          obtain ⟨u0, u1, u2, _, _⟩ := frozen5 n1
          have an : w4.cell? ⟨W2.heap.size, 3, none⟩ = some (.int .i64 6) := na.cell rfl
          have HbX := Hb4
          have N1 := Lib.hid n1
          clear n0 n1 ng na
          have hz5 : ∀ w5 : World, Below w4.drew.heap.size w4.drew w5 → w4.heap.size ≤ w5.heap.size := fun w5 h => h.size
          go_wp2_with fail
          go_region_held3 (fun w' => w'.cell? ⟨w.heap.size, 0, none⟩ = some (.int .i64 2) ∧ w'.cell? ⟨w.heap.size, 1, none⟩ = some (.int .i64 (lev : Int)) ∧ w'.cell? ⟨w.heap.size, 2, none⟩ = some (.slice ova ovn ovc) ∧
              w'.cell? ⟨w1.heap.size, 0, none⟩ = some (.int .i64 (g.kind : Int)) ∧ w'.cell? ⟨w1.heap.size, 1, none⟩ = some (.int .i64 (g.level : Int)) ∧ w'.cell? ⟨w1.heap.size, 2, none⟩ = some (.slice pa g.pairs.length pc) ∧ w'.cell? ⟨w1.heap.size, 3, none⟩ = some (.slice ca g.counts.length cc) ∧ w'.cell? ⟨w1.heap.size, 4, none⟩ = some (.slice sa g.size.length sc) ∧
              w'.cell? ⟨W2.heap.size, 3, none⟩ = some (.int .i64 6))
            (first
              | exact ⟨keepc hb5 (by show _ < w4.heap.size; omega) x0, keepc hb5 (by show _ < w4.heap.size; omega) x1, keepc hb5 (by show _ < w4.heap.size; omega) x2, keepc hb5 (by show _ < w4.heap.size; omega) v0, keepc hb5 (by show _ < w4.heap.size; omega) v1, keepc hb5 (by show _ < w4.heap.size; omega) v2, keepc hb5 (by show _ < w4.heap.size; omega) v3, keepc hb5 (by show _ < w4.heap.size; omega) v4, keepc hb5 (by show _ < w4.heap.size; omega) an⟩
              | exact ⟨keepc hb6 (by show _ < _; omega) (keepc hb5 (by show _ < w4.heap.size; omega) x0), keepc hb6 (by show _ < _; omega) (keepc hb5 (by show _ < w4.heap.size; omega) x1), keepc hb6 (by show _ < _; omega) (keepc hb5 (by show _ < w4.heap.size; omega) x2), keepc hb6 (by show _ < _; omega) (keepc hb5 (by show _ < w4.heap.size; omega) v0), keepc hb6 (by show _ < _; omega) (keepc hb5 (by show _ < w4.heap.size; omega) v1), keepc hb6 (by show _ < _; omega) (keepc hb5 (by show _ < w4.heap.size; omega) v2), keepc hb6 (by show _ < _; omega) (keepc hb5 (by show _ < w4.heap.size; omega) v3), keepc hb6 (by show _ < _; omega) (keepc hb5 (by show _ < w4.heap.size; omega) v4), keepc hb6 (by show _ < _; omega) (keepc hb5 (by show _ < w4.heap.size; omega) an)⟩
              | exact ⟨keeps3 (by omega) (keepc hb6 (by show _ < _; omega) (keepc hb5 (by show _ < w4.heap.size; omega) x0)), keeps3 (by omega) (keepc hb6 (by show _ < _; omega) (keepc hb5 (by show _ < w4.heap.size; omega) x1)), keeps3 (by omega) (keepc hb6 (by show _ < _; omega) (keepc hb5 (by show _ < w4.heap.size; omega) x2)), keeps3 (by omega) (keepc hb6 (by show _ < _; omega) (keepc hb5 (by show _ < w4.heap.size; omega) v0)), keeps3 (by omega) (keepc hb6 (by show _ < _; omega) (keepc hb5 (by show _ < w4.heap.size; omega) v1)), keeps3 (by omega) (keepc hb6 (by show _ < _; omega) (keepc hb5 (by show _ < w4.heap.size; omega) v2)), keeps3 (by omega) (keepc hb6 (by show _ < _; omega) (keepc hb5 (by show _ < w4.heap.size; omega) v3)), keeps3 (by omega) (keepc hb6 (by show _ < _; omega) (keepc hb5 (by show _ < w4.heap.size; omega) v4)), keeps3 (by omega) (keepc hb6 (by show _ < _; omega) (keepc hb5 (by show _ < w4.heap.size; omega) an))⟩
              | go_keep)
            ((first | (go_at_call 51; refine (deeper_any g.kind hk6 _).mono ?_; rintro e w5 ⟨rfl, hb5⟩; rw [← Hd.out]; have hz5' := hz5 w5 hb5) | (go_at_call 52; refine (with_any 2 6 lev (.slice ova ovn ovc) o g g _ _ _ _ _ _ _ (((Hh.out.call HbX.out).call ((Below.refl _ w4).drew)).call hb5) (((Hg.out.call HbX.out).call ((Below.refl _ w4).drew)).call hb5) ho).mono ?_; rintro e w6 ⟨ov', rfl, hZ6, hb6⟩; obtain ⟨ox, oy, oz, rfl⟩ := hZ6.form; have Y0 := keepc hb6 (by show _ < _; omega) (keepc hb5 (by show _ < w4.heap.size; omega) y0); have Y1 := keepc hb6 (by show _ < _; omega) (keepc hb5 (by show _ < w4.heap.size; omega) y1); have Y2 := keepc hb6 (by show _ < _; omega) (keepc hb5 (by show _ < w4.heap.size; omega) y2); have U0 := keepf hb6 (by show _ < _; omega) (keepf hb5 (by show _ < w4.heap.size; omega) u0); have U1 := keepf hb6 (by show _ < _; omega) (keepf hb5 (by show _ < w4.heap.size; omega) u1); have U2 := keepf hb6 (by show _ < _; omega) (keepf hb5 (by show _ < w4.heap.size; omega) u2))))
          have HZ6 := Lib.hid hZ6
          have N6 := Lib.hid (((show Blk w4.drew (w.heap.size + 1) [.int .i64 0, .int .i64 0, .slice none 0 0] 62 from N1.out).call hb5).call hb6)
          have hbw6 : Below w.heap.size w w6 := ((HbX.out.drew).trans (hb5.mono HbX.out.size)).trans (hb6.mono (Nat.le_trans HbX.out.size hz5'))
          have Hbw6 := Lib.hid hbw6
          clear hZ6 hb5 hb6 hbw6
          go_wp2_with fail
          obtain ⟨kp, _, _⟩ := three N6.out (.int .i64 6) (.int .i64 (lev : Int)) (.slice ox oy oz)
          have hbf := below3 (b := w.heap.size + 1) Hbw6.out (Nat.le_succ _) (.int .i64 6) (.int .i64 (lev : Int)) (.slice ox oy oz)
          refine bodyPost_ret (v := .tuple #[.agg #[.int .i64 6, .int .i64 (lev : Int), .slice ox oy oz], .bool true]) (by simp [results, Try.results49, go_sem, *]) rfl ⟨⟨_, _, _, _, _, _, rfl, ?_⟩, hbf⟩
          rw [Hr.out]
          exact ⟨rfl, (RdS.of (a := 6) HZ6.out).keep (kp _ (by decide)) (kp _ (by decide)) (kp _ (by decide))⟩
        · obtain ⟨x0, x1, x2⟩ := cells3 n0
          obtain ⟨y0, y1, y2⟩ := cells3 n1
          obtain ⟨v0, v1, v2, v3, v4⟩ := cells5 ng
          obtain ⟨u0, u1, u2, _, _⟩ := frozen5 n1
          have an : w4.cell? ⟨W2.heap.size, 4, none⟩ = some (.int .i64 11) := na.cell rfl
          have HbX := Hb4
          have N1 := Lib.hid n1
          clear n0 n1 ng na
          have hz5 : ∀ w5 : World, Below w4.drew.heap.size w4.drew w5 → w4.heap.size ≤ w5.heap.size := fun w5 h => h.size
          go_wp2_with fail
          go_region_held3 (fun w' => w'.cell? ⟨w.heap.size, 0, none⟩ = some (.int .i64 2) ∧ w'.cell? ⟨w.heap.size, 1, none⟩ = some (.int .i64 (lev : Int)) ∧ w'.cell? ⟨w.heap.size, 2, none⟩ = some (.slice ova ovn ovc) ∧
              w'.cell? ⟨w1.heap.size, 0, none⟩ = some (.int .i64 (g.kind : Int)) ∧ w'.cell? ⟨w1.heap.size, 1, none⟩ = some (.int .i64 (g.level : Int)) ∧ w'.cell? ⟨w1.heap.size, 2, none⟩ = some (.slice pa g.pairs.length pc) ∧ w'.cell? ⟨w1.heap.size, 3, none⟩ = some (.slice ca g.counts.length cc) ∧ w'.cell? ⟨w1.heap.size, 4, none⟩ = some (.slice sa g.size.length sc) ∧
              w'.cell? ⟨W2.heap.size, 4, none⟩ = some (.int .i64 11))
            (first
              | exact ⟨keepc hb5 (by show _ < w4.heap.size; omega) x0, keepc hb5 (by show _ < w4.heap.size; omega) x1, keepc hb5 (by show _ < w4.heap.size; omega) x2, keepc hb5 (by show _ < w4.heap.size; omega) v0, keepc hb5 (by show _ < w4.heap.size; omega) v1, keepc hb5 (by show _ < w4.heap.size; omega) v2, keepc hb5 (by show _ < w4.heap.size; omega) v3, keepc hb5 (by show _ < w4.heap.size; omega) v4, keepc hb5 (by show _ < w4.heap.size; omega) an⟩
              | exact ⟨keepc hb6 (by show _ < _; omega) (keepc hb5 (by show _ < w4.heap.size; omega) x0), keepc hb6 (by show _ < _; omega) (keepc hb5 (by show _ < w4.heap.size; omega) x1), keepc hb6 (by show _ < _; omega) (keepc hb5 (by show _ < w4.heap.size; omega) x2), keepc hb6 (by show _ < _; omega) (keepc hb5 (by show _ < w4.heap.size; omega) v0), keepc hb6 (by show _ < _; omega) (keepc hb5 (by show _ < w4.heap.size; omega) v1), keepc hb6 (by show _ < _; omega) (keepc hb5 (by show _ < w4.heap.size; omega) v2), keepc hb6 (by show _ < _; omega) (keepc hb5 (by show _ < w4.heap.size; omega) v3), keepc hb6 (by show _ < _; omega) (keepc hb5 (by show _ < w4.heap.size; omega) v4), keepc hb6 (by show _ < _; omega) (keepc hb5 (by show _ < w4.heap.size; omega) an)⟩
              | exact ⟨keeps3 (by omega) (keepc hb6 (by show _ < _; omega) (keepc hb5 (by show _ < w4.heap.size; omega) x0)), keeps3 (by omega) (keepc hb6 (by show _ < _; omega) (keepc hb5 (by show _ < w4.heap.size; omega) x1)), keeps3 (by omega) (keepc hb6 (by show _ < _; omega) (keepc hb5 (by show _ < w4.heap.size; omega) x2)), keeps3 (by omega) (keepc hb6 (by show _ < _; omega) (keepc hb5 (by show _ < w4.heap.size; omega) v0)), keeps3 (by omega) (keepc hb6 (by show _ < _; omega) (keepc hb5 (by show _ < w4.heap.size; omega) v1)), keeps3 (by omega) (keepc hb6 (by show _ < _; omega) (keepc hb5 (by show _ < w4.heap.size; omega) v2)), keeps3 (by omega) (keepc hb6 (by show _ < _; omega) (keepc hb5 (by show _ < w4.heap.size; omega) v3)), keeps3 (by omega) (keepc hb6 (by show _ < _; omega) (keepc hb5 (by show _ < w4.heap.size; omega) v4)), keeps3 (by omega) (keepc hb6 (by show _ < _; omega) (keepc hb5 (by show _ < w4.heap.size; omega) an))⟩
              | go_keep)
            ((first | (go_at_call 51; refine (deeper_any g.kind hk6 _).mono ?_; rintro e w5 ⟨rfl, hb5⟩; rw [← Hd.out]; have hz5' := hz5 w5 hb5) | (go_at_call 52; refine (with_any 2 11 lev (.slice ova ovn ovc) o g g _ _ _ _ _ _ _ (((Hh.out.call HbX.out).call ((Below.refl _ w4).drew)).call hb5) (((Hg.out.call HbX.out).call ((Below.refl _ w4).drew)).call hb5) ho).mono ?_; rintro e w6 ⟨ov', rfl, hZ6, hb6⟩; obtain ⟨ox, oy, oz, rfl⟩ := hZ6.form; have Y0 := keepc hb6 (by show _ < _; omega) (keepc hb5 (by show _ < w4.heap.size; omega) y0); have Y1 := keepc hb6 (by show _ < _; omega) (keepc hb5 (by show _ < w4.heap.size; omega) y1); have Y2 := keepc hb6 (by show _ < _; omega) (keepc hb5 (by show _ < w4.heap.size; omega) y2); have U0 := keepf hb6 (by show _ < _; omega) (keepf hb5 (by show _ < w4.heap.size; omega) u0); have U1 := keepf hb6 (by show _ < _; omega) (keepf hb5 (by show _ < w4.heap.size; omega) u1); have U2 := keepf hb6 (by show _ < _; omega) (keepf hb5 (by show _ < w4.heap.size; omega) u2))))
          have HZ6 := Lib.hid hZ6
          have N6 := Lib.hid (((show Blk w4.drew (w.heap.size + 1) [.int .i64 0, .int .i64 0, .slice none 0 0] 62 from N1.out).call hb5).call hb6)
          have hbw6 : Below w.heap.size w w6 := ((HbX.out.drew).trans (hb5.mono HbX.out.size)).trans (hb6.mono (Nat.le_trans HbX.out.size hz5'))
          have Hbw6 := Lib.hid hbw6
          clear hZ6 hb5 hb6 hbw6
          go_wp2_with fail
          obtain ⟨kp, _, _⟩ := three N6.out (.int .i64 11) (.int .i64 (lev : Int)) (.slice ox oy oz)
          have hbf := below3 (b := w.heap.size + 1) Hbw6.out (Nat.le_succ _) (.int .i64 11) (.int .i64 (lev : Int)) (.slice ox oy oz)
          refine bodyPost_ret (v := .tuple #[.agg #[.int .i64 11, .int .i64 (lev : Int), .slice ox oy oz], .bool true]) (by simp [results, Try.results49, go_sem, *]) rfl ⟨⟨_, _, _, _, _, _, rfl, ?_⟩, hbf⟩
          rw [Hr.out]
          exact ⟨rfl, (RdS.of (a := 11) HZ6.out).keep (kp _ (by decide)) (kp _ (by decide)) (kp _ (by decide))⟩
        · obtain ⟨x0, x1, x2⟩ := cells3 n0
          obtain ⟨y0, y1, y2⟩ := cells3 n1
          obtain ⟨v0, v1, v2, v3, v4⟩ := cells5 ng
          obtain ⟨u0, u1, u2, _, _⟩ := frozen5 n1
          have an : w4.cell? ⟨W2.heap.size, 5, none⟩ = some (.int .i64 8) := na.cell rfl
          have HbX := Hb4
          have N1 := Lib.hid n1
          clear n0 n1 ng na
          have hz5 : ∀ w5 : World, Below w4.drew.heap.size w4.drew w5 → w4.heap.size ≤ w5.heap.size := fun w5 h => h.size
          go_wp2_with fail
          go_region_held3 (fun w' => w'.cell? ⟨w.heap.size, 0, none⟩ = some (.int .i64 2) ∧ w'.cell? ⟨w.heap.size, 1, none⟩ = some (.int .i64 (lev : Int)) ∧ w'.cell? ⟨w.heap.size, 2, none⟩ = some (.slice ova ovn ovc) ∧
              w'.cell? ⟨w1.heap.size, 0, none⟩ = some (.int .i64 (g.kind : Int)) ∧ w'.cell? ⟨w1.heap.size, 1, none⟩ = some (.int .i64 (g.level : Int)) ∧ w'.cell? ⟨w1.heap.size, 2, none⟩ = some (.slice pa g.pairs.length pc) ∧ w'.cell? ⟨w1.heap.size, 3, none⟩ = some (.slice ca g.counts.length cc) ∧ w'.cell? ⟨w1.heap.size, 4, none⟩ = some (.slice sa g.size.length sc) ∧
              w'.cell? ⟨W2.heap.size, 5, none⟩ = some (.int .i64 8))
            (first
              | exact ⟨keepc hb5 (by show _ < w4.heap.size; omega) x0, keepc hb5 (by show _ < w4.heap.size; omega) x1, keepc hb5 (by show _ < w4.heap.size; omega) x2, keepc hb5 (by show _ < w4.heap.size; omega) v0, keepc hb5 (by show _ < w4.heap.size; omega) v1, keepc hb5 (by show _ < w4.heap.size; omega) v2, keepc hb5 (by show _ < w4.heap.size; omega) v3, keepc hb5 (by show _ < w4.heap.size; omega) v4, keepc hb5 (by show _ < w4.heap.size; omega) an⟩
              | exact ⟨keepc hb6 (by show _ < _; omega) (keepc hb5 (by show _ < w4.heap.size; omega) x0), keepc hb6 (by show _ < _; omega) (keepc hb5 (by show _ < w4.heap.size; omega) x1), keepc hb6 (by show _ < _; omega) (keepc hb5 (by show _ < w4.heap.size; omega) x2), keepc hb6 (by show _ < _; omega) (keepc hb5 (by show _ < w4.heap.size; omega) v0), keepc hb6 (by show _ < _; omega) (keepc hb5 (by show _ < w4.heap.size; omega) v1), keepc hb6 (by show _ < _; omega) (keepc hb5 (by show _ < w4.heap.size; omega) v2), keepc hb6 (by show _ < _; omega) (keepc hb5 (by show _ < w4.heap.size; omega) v3), keepc hb6 (by show _ < _; omega) (keepc hb5 (by show _ < w4.heap.size; omega) v4), keepc hb6 (by show _ < _; omega) (keepc hb5 (by show _ < w4.heap.size; omega) an)⟩
              | exact ⟨keeps3 (by omega) (keepc hb6 (by show _ < _; omega) (keepc hb5 (by show _ < w4.heap.size; omega) x0)), keeps3 (by omega) (keepc hb6 (by show _ < _; omega) (keepc hb5 (by show _ < w4.heap.size; omega) x1)), keeps3 (by omega) (keepc hb6 (by show _ < _; omega) (keepc hb5 (by show _ < w4.heap.size; omega) x2)), keeps3 (by omega) (keepc hb6 (by show _ < _; omega) (keepc hb5 (by show _ < w4.heap.size; omega) v0)), keeps3 (by omega) (keepc hb6 (by show _ < _; omega) (keepc hb5 (by show _ < w4.heap.size; omega) v1)), keeps3 (by omega) (keepc hb6 (by show _ < _; omega) (keepc hb5 (by show _ < w4.heap.size; omega) v2)), keeps3 (by omega) (keepc hb6 (by show _ < _; omega) (keepc hb5 (by show _ < w4.heap.size; omega) v3)), keeps3 (by omega) (keepc hb6 (by show _ < _; omega) (keepc hb5 (by show _ < w4.heap.size; omega) v4)), keeps3 (by omega) (keepc hb6 (by show _ < _; omega) (keepc hb5 (by show _ < w4.heap.size; omega) an))⟩
              | go_keep)
            ((first | (go_at_call 51; refine (deeper_any g.kind hk6 _).mono ?_; rintro e w5 ⟨rfl, hb5⟩; rw [← Hd.out]; have hz5' := hz5 w5 hb5) | (go_at_call 52; refine (with_any 2 8 lev (.slice ova ovn ovc) o g g _ _ _ _ _ _ _ (((Hh.out.call HbX.out).call ((Below.refl _ w4).drew)).call hb5) (((Hg.out.call HbX.out).call ((Below.refl _ w4).drew)).call hb5) ho).mono ?_; rintro e w6 ⟨ov', rfl, hZ6, hb6⟩; obtain ⟨ox, oy, oz, rfl⟩ := hZ6.form; have Y0 := keepc hb6 (by show _ < _; omega) (keepc hb5 (by show _ < w4.heap.size; omega) y0); have Y1 := keepc hb6 (by show _ < _; omega) (keepc hb5 (by show _ < w4.heap.size; omega) y1); have Y2 := keepc hb6 (by show _ < _; omega) (keepc hb5 (by show _ < w4.heap.size; omega) y2); have U0 := keepf hb6 (by show _ < _; omega) (keepf hb5 (by show _ < w4.heap.size; omega) u0); have U1 := keepf hb6 (by show _ < _; omega) (keepf hb5 (by show _ < w4.heap.size; omega) u1); have U2 := keepf hb6 (by show _ < _; omega) (keepf hb5 (by show _ < w4.heap.size; omega) u2))))
          have HZ6 := Lib.hid hZ6
          have N6 := Lib.hid (((show Blk w4.drew (w.heap.size + 1) [.int .i64 0, .int .i64 0, .slice none 0 0] 62 from N1.out).call hb5).call hb6)
          have hbw6 : Below w.heap.size w w6 := ((HbX.out.drew).trans (hb5.mono HbX.out.size)).trans (hb6.mono (Nat.le_trans HbX.out.size hz5'))
          have Hbw6 := Lib.hid hbw6
          clear hZ6 hb5 hb6 hbw6
          go_wp2_with fail
          obtain ⟨kp, _, _⟩ := three N6.out (.int .i64 8) (.int .i64 (lev : Int)) (.slice ox oy oz)
          have hbf := below3 (b := w.heap.size + 1) Hbw6.out (Nat.le_succ _) (.int .i64 8) (.int .i64 (lev : Int)) (.slice ox oy oz)
          refine bodyPost_ret (v := .tuple #[.agg #[.int .i64 8, .int .i64 (lev : Int), .slice ox oy oz], .bool true]) (by simp [results, Try.results49, go_sem, *]) rfl ⟨⟨_, _, _, _, _, _, rfl, ?_⟩, hbf⟩
          rw [Hr.out]
          exact ⟨rfl, (RdS.of (a := 8) HZ6.out).keep (kp _ (by decide)) (kp _ (by decide)) (kp _ (by decide))⟩
  | true =>
    have hk1' : kd = 1 := by have := eq_of_beq hkd; omega
    subst hk1'
    go_wp2_with fail
    refine (rupper_any t W2 ht).mono ?_
    rintro e W3 ⟨ru, rfl, Hu, hb3⟩
    have hbW := hb2.trans (hb3.mono hb2.size)
    have k0 := k0.call hb3
    have k1 := k1.call hb3
    have B2 := B2.call hb3
    have hz3 : w1.heap.size + 1 ≤ W3.heap.size := Nat.le_trans hz2' hb3.size
    have hem : Wk.isEmpty 1 t.data.toList = (ru.toList == [69, 77, 80, 84, 89]) := by rw [empty_iff ru t.data.toList Hu.out]; rfl
    rw [hem] at Hr
    clear hb3 hem Hu
    cases hcmp : (ru.toList == [69, 77, 80, 84, 89]) with
    | true =>
      rw [hcmp, if_pos rfl] at Hr
      obtain ⟨c0, c1, c2⟩ := cells3 k0
      obtain ⟨e0, e1, e2⟩ := cells3 k1
      obtain ⟨q0, q1, q2, q3, q4⟩ := cells5 B2
      obtain ⟨g0, g1, g2, _, _⟩ := frozen5 k0
      obtain ⟨f0, f1, f2, _, _⟩ := frozen5 k1
      have HbW := Lib.hid hbW
      clear hbW k0 k1 B2
      go_wp2_with fail
      have hbf := below3 (b := w.heap.size + 1) (HbW.out.setCell (p := ⟨w.heap.size, 0, none⟩) (Nat.le_refl _) (.int .i64 10)) (Nat.le_succ _) (.int .i64 10) (.int .i64 (lev : Int)) (.slice ova ovn ovc)
      refine bodyPost_ret (v := .tuple #[.agg #[.int .i64 10, .int .i64 (lev : Int), .slice ova ovn ovc], .bool true]) (by simp [results, Try.results49, go_sem, *]) rfl ⟨⟨_, _, _, _, _, _, rfl, ?_⟩, hbf⟩
      rw [Hr.out]
      exact ⟨rfl, HS.out 10 lev _ hbf⟩
    | false =>
      rw [hcmp, if_neg (by simp), if_pos (by decide)] at Hr
      obtain ⟨c0, c1, c2⟩ := cells3 k0
      obtain ⟨e0, e1, e2⟩ := cells3 k1
      obtain ⟨q0, q1, q2, q3, q4⟩ := cells5 B2
      obtain ⟨g0, g1, g2, _, _⟩ := frozen5 k0
      obtain ⟨f0, f1, f2, _, _⟩ := frozen5 k1
      have HbW := Lib.hid hbW
      clear hbW k0 k1 B2
      go_wp2_with fail
      have hbf := below3 (b := w.heap.size + 1) HbW.out (Nat.le_succ _) (.int .i64 2) (.int .i64 (lev : Int)) (.slice ova ovn ovc)
      refine bodyPost_ret (v := .tuple #[.agg #[.int .i64 2, .int .i64 (lev : Int), .slice ova ovn ovc], .bool false]) (by simp [results, Try.results49, go_sem, *]) rfl ⟨⟨_, _, _, _, _, _, rfl, ?_⟩, hbf⟩
      rw [Hr.out]
end Go.Proofs.Ytegkdkilbnighaa
