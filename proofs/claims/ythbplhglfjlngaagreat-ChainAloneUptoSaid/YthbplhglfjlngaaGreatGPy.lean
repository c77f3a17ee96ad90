/- Parts of the proof. -/
import Derived.Test.YthbplhglfjlngaaGreatGPx
set_option linter.unusedVariables false
set_option linter.unusedSimpArgs false
set_option maxRecDepth 100000
namespace Go.Proofs.YthbplhglfjlngaaGreat
open Go.RowKit Go.Rg Go.Wd Go.Mg
attribute [local go_sem] Oper.semAt_some
theorem slcM {w : World} {v : Value} {L : List (Int × Int)} {m : Nat} (h : SlC w v 2 (ptE L)) (hm : m = L.length) : ∃ u c, v = .slice u m c ∧ SlC w v 2 (ptE L) := by
 obtain ⟨u, c, e, _, _⟩ := h.form
 rw [ptE_len, ← hm] at e
 exact ⟨u, c, e, h⟩
theorem centre_g (x y size : Int) (c : Bool) (h : cenB x y size = c) (w : World) :
  Calls Tryz.prog 13 #[pV x y, .int .i64 size] w fun e w' => e = .returned (.tuple #[pV (cond c (wrap64 (x * size)) 0) (cond c (wrap64 (y * size)) 0), .int .i64 (cond c 0 11)]) ∧ Below w.heap.size w w' := by
 cases c with
 | false => exact centre_no x y size h w
 | true => exact centre_yes x y size h w
set_option maxHeartbeats 8000000 in
theorem lawAloneV (a b : Int × Int) (size : Int) (v : Value) (ps : List (Int × Int)) (w : World) (hv : SlC w v 2 (ptE ps)) (hlen : ps.length ≤ 1048576) :
  Calls Tryz.prog 4 #[.agg #[.int .i64 a.1, .int .i64 a.2, .int .i64 b.1, .int .i64 b.2, v, .int .i64 size]] w fun e w' => e = .returned (.bool true) ∧ Below w.heap.size w w' := by
 obtain ⟨av, cv, e, hn, hcm⟩ := hv.form
 subst e
 obtain ⟨n, Hn⟩ : ∃ n, Hid (n = (ptE ps).length) := ⟨_, hH rfl⟩
 have Hnl : Hid (n = ps.length) := hH (by rw [Hn.out, ptE_len])
 rw [← Hn.out] at hv hn ⊢
 unfold maxLen at hcm
 obtain ⟨W0, hW0⟩ : ∃ W0, w.alloc (.cells #[.int .i64 a.1, .int .i64 a.2, .int .i64 b.1, .int .i64 b.2, .slice av n cv, .int .i64 size] 43) = W0 := ⟨_, rfl⟩
 have B1 : Blk W0 w.heap.size [.int .i64 a.1, .int .i64 a.2, .int .i64 b.1, .int .i64 b.2, .slice av n cv, .int .i64 size] 43 := hW0 ▸ Blk.new _ _ _
 have hb0 : Below w.heap.size w W0 := hW0 ▸ (Below.refl _ w).alloc (Nat.le_refl _) _
 have HV := hH (hv.call hb0)
 have Hlen := hH hlen
 have HB := hb0
 have hsz : w.heap.size < W0.heap.size := B1.lt
 clear hv hlen hb0
 go_enter Tryz.func4, Tryz.ntmps4
 go_upto_region 1 with (fail)
 (try rw [hW0])
 clear hW0
 refine cG ?_
 refine calm_aa (k := 8) (d := 3) (st := 10) (x := (.tmp 21)) (u := .agg #[.int .i64 a.1, .int .i64 a.2]) (T := 23) (k' := 9) (d' := 4) (st' := 11) (x' := (.tmp 23)) (u' := .agg #[.int .i64 b.1, .int .i64 b.2]) (T' := 23) (by kernel_rfl) (by rfl) (by rfl) info_pt rfl rfl (by simp [Value.cells, Value.oneCell']) (by rfl) (by rfl) info_pt rfl rfl (by simp [Value.cells, Value.oneCell']) ?_
 refine cW ?_ ?_ ?_
 refine cX ?_ ?_ (by intro wz hSw; obtain ⟨q0, q1, q2, q3, q4, q5⟩ := c6 (B1.y hSw.1); go_simp; all_goals with_reducible rfl) ?_
 refine cW ?_ ?_ ?_
 refine cX ?_ ?_ (by intro wz hSw; obtain ⟨q0, q1, q2, q3, q4, q5⟩ := c6 (B1.y hSw.1); go_simp; all_goals with_reducible rfl) ?_
 refine cW ?_ ?_ ?_
 refine cX ?_ ?_ (by intro wz hSw; obtain ⟨q0, q1, q2, q3, q4, q5⟩ := c6 (B1.y hSw.1); go_simp; all_goals with_reducible rfl) ?_
 refine cW ?_ ?_ ?_
 refine cX ?_ ?_ (by intro wz hSw; obtain ⟨q0, q1, q2, q3, q4, q5⟩ := c6 (B1.y hSw.1); go_simp; all_goals with_reducible rfl) ?_
 refine cB ?_
 refine cB ?_
 refine cB ?_
 refine cB ?_
 refine cW ?_ ?_ ?_
 refine cW ?_ ?_ ?_
 refine calm_end ?_
 refine ⟨⟨(by rfl), (by rfl)⟩, fun b3 b4 w1 hb3 hb4 hbne4 hS D0 D1 => ?_⟩
 have hl3_1 : w.heap.size < b3 := lL B1.lt hb3
 have hl4_1 : w.heap.size < b4 := lL B1.lt hb4
 have hS := sO hS
 have B1 := B1.y hS
 have B3 : Blk w1 b3 ([.int .i64 a.1, .int .i64 a.2]) 23 := D0
 have B4 : Blk w1 b4 ([.int .i64 b.1, .int .i64 b.2]) 23 := D1
 have hz1 : W0.heap.size ≤ w1.heap.size := hS.size
 have HB := gS HB hS
 have HE1 := hH hS.all
 clear hS D0 D1
 have HV := hH (HV.out.call HE1.out)
 have H3 := hH B3
 have H4 := hH B4
 have HB1 := hH HB
 clear B1 B3 B4 HB HE1 hl3_1 hl4_1 hbne4
 obtain ⟨ok, Hok⟩ : ∃ b : Bool, Hid ((ps.all fun p => ptB p.1 p.2) = b) := ⟨_, hH rfl⟩
 have HRe := refs_any _ ps w1 HV.out Hlen.out
 rw [Hok.out] at HRe
 have HRefs := hH HRe
 clear HRe
 go_wp2_with fail
 refine HRefs.out.mono ?_
 rintro e w2 ⟨vx, rfl, hxs, hb⟩
 obtain ⟨ax, cx, e, _, _⟩ := hxs.form
 subst e
 obtain ⟨nx, Hnx⟩ : ∃ n, Hid (n = (ptE (srtD ps)).length) := ⟨_, hH rfl⟩
 rw [← Hnx.out] at hxs ⊢
 have HXs := hH hxs
 have HB2 := hH (HB1.out.trans (hb.mono HB1.out.size))
 have H3 := hH (H3.out.call hb)
 have H4 := hH (H4.out.call hb)
 have HV := hH (HV.out.call hb)
 clear hxs hb HRefs
 cases ok with
 | false =>
  have hbad : ∃ p ∈ ps, ptB p.1 p.2 = false := by
   have h := Hok.out
   rw [List.all_eq_false] at h
   obtain ⟨p, h1, h2⟩ := h
   exact ⟨p, h1, by simpa using h2⟩
  have HSet := hH (set_bad _ ps w2 HV.out hbad)
  clear hbad
  go_wp2_with fail
  refine HSet.out.mono ?_
  rintro e w3 ⟨rfl, hb⟩
  have HB3 := hH (HB2.out.trans (hb.mono HB2.out.size))
  clear hb HSet
  by_cases h40 : 40 < n
  ·have t1 : (40 : Int) < (n : Int) := by omega
   go_wp2_with fail
   refine (awake17_any w3).mono ?_
   rintro e w9 ⟨rfl, hb9⟩
   have HBf := hH (HB3.out.trans (hb9.mono HB3.out.size))
   clear hb9
   go_wp2_with fail
   go_ret
   exact ⟨rfl, HBf.out⟩
  ·have t1 : ¬ (40 : Int) < (n : Int) := by omega
   go_wp2_with fail
   refine (awake17_any w3).mono ?_
   rintro e w9 ⟨rfl, hb9⟩
   have HBf := hH (HB3.out.trans (hb9.mono HB3.out.size))
   clear hb9
   go_wp2_with fail
   go_ret
   exact ⟨rfl, HBf.out⟩
 | true =>
  have HPt : Hid (∀ p ∈ ps, ptB p.1 p.2 = true) := hH (List.all_eq_true.1 Hok.out)
  have HSet := hH (set_ok _ ps w2 HV.out HPt.out (by have := Hlen.out; omega))
  go_wp2_with fail
  refine HSet.out.mono ?_
  rintro e w3 ⟨R, rfl, hset, hR, hb⟩
  have HSe := hH hset
  have HB3 := hH (HB2.out.trans (hb.mono HB2.out.size))
  have HXs := hH (HXs.out.call hb)
  have H3 := hH (H3.out.call hb)
  have H4 := hH (H4.out.call hb)
  clear hset hb HSet
  by_cases h40 : 40 < n
  ·have t1 : (40 : Int) < (n : Int) := by omega
   go_wp2_with fail
   refine (awake17_any w3).mono ?_
   rintro e w9 ⟨rfl, hb9⟩
   have HBf := hH (HB3.out.trans (hb9.mono HB3.out.size))
   clear hb9
   go_wp2_with fail
   go_ret
   exact ⟨rfl, HBf.out⟩
  ·have t1 : ¬ (40 : Int) < (n : Int) := by omega
   obtain ⟨ca, Hca⟩ : ∃ c : Bool, Hid (cenB a.1 a.2 size = c) := ⟨_, hH rfl⟩
   obtain ⟨cb, Hcb⟩ : ∃ c : Bool, Hid (cenB b.1 b.2 size = c) := ⟨_, hH rfl⟩
   obtain ⟨P1, HP1⟩ : ∃ z : Int, Hid (cond ca (wrap64 (a.1 * size)) 0 = z) := ⟨_, hH rfl⟩
   obtain ⟨P2, HP2⟩ : ∃ z : Int, Hid (cond ca (wrap64 (a.2 * size)) 0 = z) := ⟨_, hH rfl⟩
   obtain ⟨pe, Hpe⟩ : ∃ z : Int, Hid (cond ca 0 11 = z) := ⟨_, hH rfl⟩
   obtain ⟨Q1, HQ1⟩ : ∃ z : Int, Hid (cond cb (wrap64 (b.1 * size)) 0 = z) := ⟨_, hH rfl⟩
   obtain ⟨Q2, HQ2⟩ : ∃ z : Int, Hid (cond cb (wrap64 (b.2 * size)) 0 = z) := ⟨_, hH rfl⟩
   obtain ⟨qe, Hqe⟩ : ∃ z : Int, Hid (cond cb 0 11 = z) := ⟨_, hH rfl⟩
   obtain ⟨G, HGg⟩ : ∃ G : Bool, Hid (cenL size [a, b] = G) := ⟨_, hH rfl⟩
   obtain ⟨ge, Hge⟩ : ∃ z : Int, Hid (cond G 0 11 = z) := ⟨_, hH rfl⟩
   obtain ⟨A, HA0⟩ : ∃ A : Bool, Hid (aloneB a b ps size = A) := ⟨_, hH rfl⟩
   have hc1 := centre_g a.1 a.2 size ca Hca.out w3
   rw [HP1.out, HP2.out, Hpe.out] at hc1
   have HC1 := hH hc1
   obtain ⟨x0, x1⟩ := c2 H3.out
   clear hc1
   go_wp2_with fail
   refine HC1.out.mono ?_
   rintro e w4 ⟨rfl, hb⟩
   have H3 := hH (H3.out.call hb)
   have H4 := hH (H4.out.call hb)
   have HXs := hH (HXs.out.call hb)
   have HSe := hH (HSe.out.call hb)
   have HB4 := hH (HB3.out.trans (hb.mono HB3.out.size))
   obtain ⟨wA, hwA⟩ : ∃ X, w4.alloc (.cells #[.int .i64 P1, .int .i64 P2] 23) = X := ⟨_, rfl⟩
   have hb4 : Below w4.heap.size w4 wA := hwA ▸ (Below.refl _ w4).alloc (Nat.le_refl _) _
   have H10 : Hid (Blk wA w4.heap.size [.int .i64 P1, .int .i64 P2] 23) := hH (hwA ▸ Blk.new _ _ _)
   have H3 := hH (H3.out.call hb4)
   have H4 := hH (H4.out.call hb4)
   have HXs := hH (HXs.out.call hb4)
   have HSe := hH (HSe.out.call hb4)
   have HBA := hH (HB4.out.trans (hb4.mono HB4.out.size))
   have HwA := hH hwA
   clear hb hb4 hwA x0 x1 HC1
   go_upto_region 9 with (fail)
   rw [HwA.out]
   clear HwA
   obtain ⟨b10, hb10⟩ : ∃ z, z = w4.heap.size := ⟨_, rfl⟩
   rw [← hb10] at H10 ⊢
   clear hb10
   have hc2 := centre_g b.1 b.2 size cb Hcb.out wA
   rw [HQ1.out, HQ2.out, Hqe.out] at hc2
   have HC2 := hH hc2
   obtain ⟨x0, x1⟩ := c2 H4.out
   clear hc2
   go_wp2_with fail
   refine HC2.out.mono ?_
   rintro e w5 ⟨rfl, hb⟩
   have H3 := hH (H3.out.call hb)
   have H4 := hH (H4.out.call hb)
   have HXs := hH (HXs.out.call hb)
   have HSe := hH (HSe.out.call hb)
   have H10 := hH (H10.out.call hb)
   have HB5 := hH (HBA.out.trans (hb.mono HBA.out.size))
   obtain ⟨wB, hwB⟩ : ∃ X, w5.alloc (.cells #[.int .i64 Q1, .int .i64 Q2] 23) = X := ⟨_, rfl⟩
   have hb4 : Below w5.heap.size w5 wB := hwB ▸ (Below.refl _ w5).alloc (Nat.le_refl _) _
   have H12 : Hid (Blk wB w5.heap.size [.int .i64 Q1, .int .i64 Q2] 23) := hH (hwB ▸ Blk.new _ _ _)
   have H3 := hH (H3.out.call hb4)
   have H4 := hH (H4.out.call hb4)
   have HXs := hH (HXs.out.call hb4)
   have HSe := hH (HSe.out.call hb4)
   have H10 := hH (H10.out.call hb4)
   have HBB := hH (HB5.out.trans (hb4.mono HB5.out.size))
   have HwB := hH hwB
   clear hb hb4 hwB x0 x1 HC2
   go_upto_region 10 with (fail)
   rw [HwB.out]
   clear HwB
   obtain ⟨b12, hb12⟩ : ∃ z, z = w5.heap.size := ⟨_, rfl⟩
   rw [← hb12] at H12 ⊢
   clear hb12
   obtain ⟨wC, hwC⟩ : ∃ X, wB.alloc (.cells #[.int .i64 a.1, .int .i64 a.2, .int .i64 b.1, .int .i64 b.2] 23) = X := ⟨_, rfl⟩
   have hb4 : Below wB.heap.size wB wC := hwC ▸ (Below.refl _ wB).alloc (Nat.le_refl _) _
   have hBC : Blk wC wB.heap.size [.int .i64 a.1, .int .i64 a.2, .int .i64 b.1, .int .i64 b.2] 23 := hwC ▸ Blk.new _ _ _
   have hvC : SlC wC (.slice (some ⟨wB.heap.size, 0, none⟩) 2 2) 2 (ptE [a, b]) := SlC.of_own (base := wB.heap.size) (t := 23) (es := ptE [a, b]) ⟨rfl, .inr ⟨wB.heap.size, 2, _, rfl, Nat.le_refl _, hBC, Nat.le_refl _, by unfold maxLen; omega, rfl, rfl⟩⟩ (fun e he => by unfold ptE at he; obtain ⟨x, _, rfl⟩ := List.mem_map.1 he; rfl)
   have hc3 := centres_any _ [a, b] size G wC hvC (by simp) HGg.out
   rw [Hge.out] at hc3
   have HC3 := hH hc3
   obtain ⟨x0, x1⟩ := c2 H3.out
   obtain ⟨x2, x3⟩ := c2 H4.out
   have H3 := hH (H3.out.call hb4)
   have H4 := hH (H4.out.call hb4)
   have HXs := hH (HXs.out.call hb4)
   have HSe := hH (HSe.out.call hb4)
   have H10 := hH (H10.out.call hb4)
   have H12 := hH (H12.out.call hb4)
   have HBC := hH (HBB.out.trans (hb4.mono HBB.out.size))
   have HwC := hH hwC
   clear hb4 hBC hvC hc3 hwC
   go_wp2_with fail
   rw [HwC.out]
   refine HC3.out.mono ?_
   rintro e w6 ⟨vc, rfl, hsc, hb⟩
   have H3 := hH (H3.out.call hb)
   have H4 := hH (H4.out.call hb)
   have HXs := hH (HXs.out.call hb)
   have HSe := hH (HSe.out.call hb)
   have H10 := hH (H10.out.call hb)
   have H12 := hH (H12.out.call hb)
   have HB6 := hH (HBC.out.trans (hb.mono HBC.out.size))
   have HSc := hH hsc
   obtain ⟨ac, cc, e, _, _⟩ := hsc.form
   obtain ⟨nc, Hnc⟩ : ∃ k, Hid (k = (ptE (cond G ([a, b].map (cenP size)) [])).length) := ⟨_, hH rfl⟩
   rw [← Hnc.out] at e
   subst e
   have HC4 := hH (alone_any a b R ps size A w6 HSe.out HPt.out Hlen.out HA0.out)
   clear hb hsc x0 x1 x2 x3 HC3 HwC
   obtain ⟨x0, x1⟩ := c2 H3.out
   obtain ⟨x2, x3⟩ := c2 H4.out
   go_wp2_with fail
   refine HC4.out.mono ?_
   rintro e w7 ⟨rfl, hb⟩
   have H3 := hH (H3.out.call hb)
   have H4 := hH (H4.out.call hb)
   have HXs := hH (HXs.out.call hb)
   have HSe := hH (HSe.out.call hb)
   have H10 := hH (H10.out.call hb)
   have H12 := hH (H12.out.call hb)
   have HSc := hH (HSc.out.call hb)
   have HB7 := hH (HB6.out.trans (hb.mono HB6.out.size))
   clear hb HC4 x0 x1 x2 x3
   have hG0 : G = (ca && cb) := by rw [← HGg.out, ← Hca.out, ← Hcb.out]; unfold cenL; simp
   cases ca with
   | false =>
    obtain rfl : pe = 11 := Hpe.out.symm
    have hG : G = false := by rw [hG0]; first | rfl | simp
    subst hG
    obtain rfl : ge = 11 := Hge.out.symm
    have hA : A = false := by rw [← HA0.out]; unfold aloneB; rw [HGg.out]; rfl
    subst hA
    obtain rfl : nc = 0 := Hnc.out
    clear hG0 HSc HSe HXs Hge HGg HA0 Hca Hcb
    go_wp2_with fail
    refine (awake17_any w7).mono ?_
    rintro e w9 ⟨rfl, hb9⟩
    have HBf := hH (HB7.out.trans (hb9.mono HB7.out.size))
    clear hb9
    go_wp2_with fail
    go_ret
    exact ⟨rfl, HBf.out⟩
   | true =>
    obtain rfl : pe = 0 := Hpe.out.symm
    cases cb with
    | false =>
     obtain rfl : qe = 11 := Hqe.out.symm
     have hG : G = false := by rw [hG0]; first | rfl | simp
     subst hG
     obtain rfl : ge = 11 := Hge.out.symm
     have hA : A = false := by rw [← HA0.out]; unfold aloneB; rw [HGg.out]; rfl
     subst hA
     obtain rfl : nc = 0 := Hnc.out
     clear hG0 HSc HSe HXs Hge HGg HA0 Hca Hcb
     go_wp2_with fail
     refine (awake17_any w7).mono ?_
     rintro e w9 ⟨rfl, hb9⟩
     have HBf := hH (HB7.out.trans (hb9.mono HB7.out.size))
     clear hb9
     go_wp2_with fail
     go_ret
     exact ⟨rfl, HBf.out⟩
    | true =>
     obtain rfl : qe = 0 := Hqe.out.symm
     have hG : G = true := by rw [hG0]; rfl
     subst hG
     obtain rfl : ge = 0 := Hge.out.symm
     obtain ⟨hg, hz⟩ := cen_sg HGg.out
     have e1 : (cenP size a).1 = P1 := HP1.out
     have e2 : (cenP size a).2 = P2 := HP2.out
     have e3 : (cenP size b).1 = Q1 := HQ1.out
     have e4 : (cenP size b).2 = Q2 := HQ2.out
     rw [e1, e2, e3, e4] at hg
     obtain ⟨L, HL⟩ : ∃ L, Hid (L = ofB P1 P2 Q1 Q2 size (setR ps)) := ⟨_, hH rfl⟩
     have HAl : Hid (A = L.all (fun c => c == a || c == b)) := hH (by rw [← HA0.out]; unfold aloneB; rw [HGg.out, e1, e2, e3, e4, HL.out]; rfl)
     have HW : Hid ((dOf (cutD P1 P2 Q1 Q2 size) [] (srtD ps)).map (·.1) = L) := hH (by rw [HL.out]; exact of_plain1 ps (szB_iff.1 hz).1)
     have hs : SlC w7 (.slice ac nc cc) 2 [[.int .i64 P1, .int .i64 P2], [.int .i64 Q1, .int .i64 Q2]] := by
      rw [← e1, ← e2, ← e3, ← e4]; exact HSc.out
     obtain rfl : nc = 2 := Hnc.out
     have HG := hH hg
     have HZ := hH hz
     obtain ⟨m, Hm⟩ : ∃ m, Hid (m = L.length) := ⟨_, hH rfl⟩
     obtain ⟨gc, oc, rfl, hgc, hr0, _⟩ := hs.elem (i := 0) rfl
     obtain ⟨gc', oc', ec, _, hr1, _⟩ := hs.elem (i := 1) rfl
     cases ec
     have HR0' : Hid (∀ X, Below w7.heap.size w7 X → X.rangeAt gc (oc + 0 * 2) [.int .i64 P1, .int .i64 P2]) := hH (fun X hX => rangeAt_below hr0 hX hgc)
     have HR1' : Hid (∀ X, Below w7.heap.size w7 X → X.rangeAt gc (oc + 1 * 2) [.int .i64 Q1, .int .i64 Q2]) := hH (fun X hX => rangeAt_below hr1 hX hgc)
     have B10 := H10.out
     have B12 := H12.out
     have HB := HB7.out
     clear hg hz hs hr0 hr1 hgc e1 e2 e3 e4 HGg HA0 hG0 HSc HSe HL
     go_upto_region 15 with (fail)
     refine cG ?_
     refine dB [(fun v _ => v = .agg #[.int .i64 P1, .int .i64 P2]), (fun v _ => v = .agg #[.int .i64 P1, .int .i64 P2]), (fun v _ => v = .agg #[.int .i64 Q1, .int .i64 Q2]), (fun v _ => v = .agg #[.int .i64 Q1, .int .i64 Q2]), (fun v _ => v = .slice ax nx cx), (fun v _ => v = .int .i64 size), (fun v w' => ∃ u c, v = .slice u m c ∧ SlC w' v 2 (ptE L)), (fun v _ => v = .int .i64 (m : Int)), (fun v _ => v = .int .i64 0)] ⟨sE, sE, sE, sE, sE, sE, (fun v w w' ⟨u, c, e, h⟩ hr => ⟨u, c, e, h.call hr⟩), sE, sE, trivial⟩ ⟨?st0, ?st1, ?st2, ?st3, ?st4, ?st5, ?st6, ?st7, ?st8, trivial⟩ ?_
     case st0 => (intro fa wz hp; have e10 := hp.o 10 (.pointer (some ⟨b10, 0, none⟩)); have q0 := B10.d hp 0; have q1 := B10.d hp 1; exact dX rfl)
     case st1 => (intro fa wz hp; have e90 := hp.q 0 90; have hb := hp.base; exact dC1 (by go_simp) (ref_any P1 P2 wz))
     case st2 => (intro fa wz hp; have e12 := hp.o 12 (.pointer (some ⟨b12, 0, none⟩)); have q0 := B12.d hp 0; have q1 := B12.d hp 1; exact dX rfl)
     case st3 => (intro fa wz hp; have e92 := hp.q 2 92; have hb := hp.base; exact dC1 (by go_simp) (ref_any Q1 Q2 wz))
     case st4 => (intro fa wz hp; have e7 := hp.o 7 (.slice ax nx cx); exact dX rfl)
     case st5 => (intro fa wz hp; have e6 := hp.o 6 (.int .i64 size); exact dX rfl)
     case st6 => (intro fa wz hp; have e91 := hp.q 1 91; have e93 := hp.q 3 93; have e94 := hp.q 4 94; have e95 := hp.q 5 95; have hb := hp.base; refine .inl ⟨by rfl, ?_⟩; refine dagUpon_call (by go_simp) ((of17L P1 P2 Q1 Q2 size _ ps L wz (HXs.out.call hb) HG.out HZ.out HPt.out Hlen.out HW.out).mono fun e w'' ⟨v, he, hv, hbb⟩ => ⟨_, he, hbb, slcM hv Hm.out⟩))
     case st7 => (intro fa wz hp; obtain ⟨v96, e96, hv96⟩ := hp.p 6 96; obtain ⟨u, c, hu, hs⟩ := hv96; rw [hu] at e96; exact dX rfl)
     case st8 => (intro fa wz hp; exact dX rfl)
     intro g w21 hb hg
     simp only [putAll, td]
     rw [show g 8 = .int .i64 0 from hg 8 _ _ rfl rfl]
     obtain ⟨aw, cw, hgw, hsw⟩ := show (fun v w' => ∃ u c, v = .slice u m c ∧ SlC w' v 2 (ptE L)) (g 6) w21 from hg 6 _ _ rfl rfl
     rw [hgw] at hsw ⊢
     rw [show g 7 = .int .i64 (m : Int) from hg 7 _ _ rfl rfl]
     clear hg
     have HBx := hH hb
     have B10 := B10.below hb B10.lt
     have B12 := B12.below hb B12.lt
     have hz21 : w7.heap.size ≤ w21.heap.size := hb.size
     have HB := HB.trans (hb.mono HB.size)
     clear hb
     have HWn := hH hsw
     have H10 := hH B10
     have H12 := hH B12
     have H3 := hH (H3.out.call HBx.out)
     have H4 := hH (H4.out.call HBx.out)
     have HR0 : Hid (∀ X, Below w21.heap.size w21 X → X.rangeAt gc (oc + 0 * 2) [.int .i64 P1, .int .i64 P2]) := hH (fun X hX => HR0'.out X (HBx.out.trans (hX.mono HBx.out.size)))
     have HR1 : Hid (∀ X, Below w21.heap.size w21 X → X.rangeAt gc (oc + 1 * 2) [.int .i64 Q1, .int .i64 Q2]) := hH (fun X hX => HR1'.out X (HBx.out.trans (hX.mono HBx.out.size)))
     have HB21 := hH HB
     obtain ⟨hmw, hcw⟩ : m ≤ cw ∧ cw ≤ 9223372036854775807 := by
      obtain ⟨_, _, ew, h1, h2⟩ := hsw.form
      injection ew with e1 e2 e3
      rw [← e2, ← e3] at h1
      rw [← e3] at h2
      unfold maxLen at h2
      exact ⟨h1, by omega⟩
     have hl10 := H10.out.lt
     have hl12 := H12.out.lt
     have hl3 := H3.out.lt
     have hl4 := H4.out.lt
     clear hsw hgw B10 B12 HB HR0' HR1' HBx HXs HW HG HZ
     go_wp2_with fail
     go_loopg [17, 98] m (fun q s17 s98 wx => ∃ (i : Nat) (bk : Bool), i + q = m ∧ s98 = .int .i64 (i : Int) ∧ s17 = .bool bk ∧ Hid (bk = (L.take i).all (fun c => c == a || c == b)) ∧ Hid (Below w21.heap.size w21 wx))
     case atStart => exact ⟨0, true, by omega, by first | rfl | simp, rfl, hH rfl, hH (Below.refl _ _)⟩
     case round =>
      obtain ⟨i, bk, hq, rfl, rfl, Hbk, HBr⟩ := hrel
      cases gk with
      | zero =>
       have t2 : ¬ (i : Int) < (m : Int) := by omega
       have hbk : bk = A := by
        have h := Hbk.out
        rw [List.take_of_length_le (by rw [← Hm.out]; omega)] at h
        rw [h, HAl.out]
       subst hbk
       have B10 := H10.out.below HBr.out hl10
       have B12 := H12.out.below HBr.out hl12
       have HB := HBr.out
       have hwz := HB.size
       clear Hbk HAl
       go_upto_region 20 with (fail)
       skip
       refine cG ?_
       refine cN ?_
       refine cW ?_ ?_ ?_
       refine cW ?_ ?_ ?_
       refine cW ?_ ?_ ?_
       refine cW ?_ ?_ ?_
       refine cW ?_ ?_ ?_
       refine cW ?_ ?_ ?_
       refine cW ?_ ?_ ?_
       refine cW ?_ ?_ ?_
       refine cW ?_ ?_ ?_
       refine cX (.pointer (some ⟨gc, oc + 0 * 2, none⟩)) ?_ (by intro wz hSw; exact x_index (i := 0) (E := 23) (sz := 2) rfl (by rfl) (by rfl) (by decide) Tryz.underlying26 size_clonePt) ?_
       refine cX (.agg #[.int .i64 P1, .int .i64 P2]) ?_ (by intro wz hSw; exact x_row (cs := [.int .i64 P1, .int .i64 P2]) rfl (by rfl) (HR0.out _ (HBr.out.trans ((Stay.all hSw.1).mono HBr.out.size))) Tryz.underlying23 rfl size_clonePt) ?_
       refine cX ?_ ?_ (by intro wz hSw; obtain ⟨q0, q1⟩ := c2 (B10.y hSw.1); go_simp; all_goals with_reducible rfl) ?_
       refine cX (.bool true) ?_ (by intro wz hSw; exact (by go_simp)) ?_
       refine cW ?_ ?_ ?_
       refine cW ?_ ?_ ?_
       refine cW ?_ ?_ ?_
       refine cX (.pointer (some ⟨gc, oc + 1 * 2, none⟩)) ?_ (by intro wz hSw; exact x_index (i := 1) (E := 23) (sz := 2) rfl (by rfl) (by rfl) (by decide) Tryz.underlying26 size_clonePt) ?_
       refine cX (.agg #[.int .i64 Q1, .int .i64 Q2]) ?_ (by intro wz hSw; exact x_row (cs := [.int .i64 Q1, .int .i64 Q2]) rfl (by rfl) (HR1.out _ (HBr.out.trans ((Stay.all hSw.1).mono HBr.out.size))) Tryz.underlying23 rfl size_clonePt) ?_
       refine cX ?_ ?_ (by intro wz hSw; obtain ⟨q0, q1⟩ := c2 (B12.y hSw.1); go_simp; all_goals with_reducible rfl) ?_
       refine cX (.bool true) ?_ (by intro wz hSw; exact (by go_simp)) ?_
       refine cW ?_ ?_ ?_
       refine cW ?_ ?_ ?_
       refine cW ?_ ?_ ?_
       refine cW ?_ ?_ ?_
       refine cX (.bool true) ?_ (by intro wz hSw; exact (by go_simp)) ?_
       refine cW ?_ ?_ ?_
       refine cW ?_ ?_ ?_
       refine cC ?_ ?_ ?_ ?_ ?hc2_27 ?_
       case hc2_27 => (intro w hSw; exact awake17_any w)
       refine cW ?_ ?_ ?_
       refine cW ?_ ?_ ?_
       refine calm_end ?_
       intro w1 hS
       have hS := sO hS
       have B10 := B10.y hS
       have B12 := B12.y hS
       have hz1 : wr.heap.size ≤ w1.heap.size := hS.size
       have HB := gS HB hS
       have HE9 := hS.all
       clear hS
       have HBf := hH (HB21.out.trans (HB.mono HB21.out.size))
       clear HB B10 B12
       go_wp2_with fail
       go_ret
       exact ⟨rfl, HBf.out⟩
      | succ q =>
       have t2 : (i : Int) < (m : Int) := by omega
       obtain ⟨p, hp⟩ : ∃ p, L[i]? = some p := ⟨_, List.getElem?_eq_getElem (by rw [← Hm.out]; omega)⟩
       obtain ⟨gl, ol, rfl, hgl, hrl, _⟩ := HWn.out.elem (ptE_at hp)
       have hel := rangeAt_below hrl HBr.out hgl
       have y2 : wr.cell? ⟨gl, ol + i * 2, none⟩ = some (.int .i64 p.1) := hel 0 _ rfl
       have y3 : wr.cell? ⟨gl, ol + i * 2 + 1, none⟩ = some (.int .i64 p.2) := hel 1 _ rfl
       have HNx : Hid ((L.take (i + 1)).all (fun c => c == a || c == b) = (bk && (p == a || p == b))) := hH (by
        rw [List.take_add_one, hp, List.all_append, ← Hbk.out]; simp)
       obtain ⟨wz, hwz⟩ : ∃ wz, wr.alloc (.cells #[.int .i64 p.1, .int .i64 p.2] 37) = wz := ⟨_, rfl⟩
       have hbz : Below wr.heap.size wr wz := hwz ▸ (Below.refl _ wr).alloc (Nat.le_refl _) _
       have B19 : Blk wz wr.heap.size [.int .i64 p.1, .int .i64 p.2] 37 := hwz ▸ Blk.new _ _ _
       have B3 := (H3.out.below HBr.out hl3).call hbz
       have B4 := (H4.out.below HBr.out hl4).call hbz
       have HB := HBr.out.trans (hbz.mono HBr.out.size)
       have hzz := HB.size
       have Hwz := hH hwz
       clear hrl hel hgl hp Hbk hbz hwz
       go_upto_region 18 with (fail)
       (try rw [Hwz.out])
       clear Hwz y2 y3
       generalize wr.heap.size = b19 at *
       cases bk with
       | false =>
        have HN2 : Hid (false = (L.take (i + 1)).all (fun c => c == a || c == b)) := hH (by rw [HNx.out]; rfl)
        clear HNx
        skip
        refine cG ?_
        refine cN ?_
        refine cW ?_ ?_ ?_
        refine cW ?_ ?_ ?_
        refine cS ?_ ?_
        refine cS ?_ ?_
        refine cS ?_ ?_
        refine cS ?_ ?_
        refine cS ?_ ?_
        refine cS ?_ ?_
        refine cS ?_ ?_
        refine cS ?_ ?_
        refine cS ?_ ?_
        refine cS ?_ ?_
        refine cW ?_ ?_ ?_
        refine cW ?_ ?_ ?_
        refine calm_end ?_
        intro w1 hS
        have hS := sO hS
        have B19 := B19.y hS
        have B3 := B3.y hS
        have B4 := B4.y hS
        have hz1 : wz.heap.size ≤ w1.heap.size := hS.size
        have HB := gS HB hS
        have HE9 := hS.all
        clear hS
        have HBn := hH HB
        clear HB B3 B4 B19
        go_wp2_with fail
        go_roundg q
        case measure => omega
        case rel => exact ⟨i + 1, false, by omega, by go_num, rfl, HN2, HBn⟩
       | true =>
        cases hpa : (p == a) with
        | true =>
         have HA := hH hpa
         have HN2 : Hid (true = (L.take (i + 1)).all (fun c => c == a || c == b)) := hH (by rw [HNx.out, hpa]; rfl)
         clear hpa HNx
         skip
         refine cG ?_
         refine cN ?_
         refine cW ?_ ?_ ?_
         refine cW ?_ ?_ ?_
         refine cX ?_ ?_ (by intro wz hSw; obtain ⟨q0, q1⟩ := c2 (B19.y hSw.1); go_simp; all_goals with_reducible rfl) ?_
         refine cX ?_ ?_ (by intro wz hSw; obtain ⟨q0, q1⟩ := c2 (B3.y hSw.1); go_simp; all_goals with_reducible rfl) ?_
         refine cC ?_ ?_ ?_ ?_ ?hc4_4 ?_
         case hc4_4 => (intro w hSw; exact ref_any a.1 a.2 w)
         refine cX (.bool true) ?_ (by intro wz hSw; exact (by have e1 := (pq_eq HA.out).1; have e2 := (pq_eq HA.out).2; go_simp)) ?_
         refine cW ?_ ?_ ?_
         refine cS ?_ ?_
         refine cS ?_ ?_
         refine cS ?_ ?_
         refine cS ?_ ?_
         refine cW ?_ ?_ ?_
         refine cW ?_ ?_ ?_
         refine cW ?_ ?_ ?_
         refine calm_end ?_
         intro w1 hS
         have hS := sO hS
         have B19 := B19.y hS
         have B3 := B3.y hS
         have B4 := B4.y hS
         have hz1 : wz.heap.size ≤ w1.heap.size := hS.size
         have HB := gS HB hS
         have HE9 := hS.all
         clear hS
         have HBn := hH HB
         clear HB B3 B4 B19
         go_wp2_with fail
         go_roundg q
         case measure => omega
         case rel => exact ⟨i + 1, true, by omega, by go_num, rfl, HN2, HBn⟩
        | false =>
         have HA := hH hpa
         cases hpb : (p == b) with
         | true =>
          have HB2 := hH hpb
          have HN2 : Hid (true = (L.take (i + 1)).all (fun c => c == a || c == b)) := hH (by rw [HNx.out, hpa, hpb]; rfl)
          clear hpa hpb HNx
          skip
          refine cG ?_
          refine cN ?_
          refine cW ?_ ?_ ?_
          refine cW ?_ ?_ ?_
          refine cX ?_ ?_ (by intro wz hSw; obtain ⟨q0, q1⟩ := c2 (B19.y hSw.1); go_simp; all_goals with_reducible rfl) ?_
          refine cX ?_ ?_ (by intro wz hSw; obtain ⟨q0, q1⟩ := c2 (B3.y hSw.1); go_simp; all_goals with_reducible rfl) ?_
          refine cC ?_ ?_ ?_ ?_ ?hc5_4 ?_
          case hc5_4 => (intro w hSw; exact ref_any a.1 a.2 w)
          refine cX (.bool false) ?_ (by intro wz hSw; exact (by have e1 := pq_ne HA.out; go_simp; all_goals exact e1)) ?_
          refine cW ?_ ?_ ?_
          refine cX ?_ ?_ (by intro wz hSw; obtain ⟨q0, q1⟩ := c2 (B19.y hSw.1); go_simp; all_goals with_reducible rfl) ?_
          refine cX ?_ ?_ (by intro wz hSw; obtain ⟨q0, q1⟩ := c2 (B4.y hSw.1); go_simp; all_goals with_reducible rfl) ?_
          refine cC ?_ ?_ ?_ ?_ ?hc5_9 ?_
          case hc5_9 => (intro w hSw; exact ref_any b.1 b.2 w)
          refine cX (.bool true) ?_ (by intro wz hSw; exact (by have e1 := (pq_eq HB2.out).1; have e2 := (pq_eq HB2.out).2; go_simp)) ?_
          refine cW ?_ ?_ ?_
          refine cW ?_ ?_ ?_
          refine cW ?_ ?_ ?_
          refine calm_end ?_
          intro w1 hS
          have hS := sO hS
          have B19 := B19.y hS
          have B3 := B3.y hS
          have B4 := B4.y hS
          have hz1 : wz.heap.size ≤ w1.heap.size := hS.size
          have HB := gS HB hS
          have HE9 := hS.all
          clear hS
          have HBn := hH HB
          clear HB B3 B4 B19
          go_wp2_with fail
          go_roundg q
          case measure => omega
          case rel => exact ⟨i + 1, true, by omega, by go_num, rfl, HN2, HBn⟩
         | false =>
          have HB2 := hH hpb
          have HN2 : Hid (false = (L.take (i + 1)).all (fun c => c == a || c == b)) := hH (by rw [HNx.out, hpa, hpb]; rfl)
          clear hpa hpb HNx
          skip
          refine cG ?_
          refine cN ?_
          refine cW ?_ ?_ ?_
          refine cW ?_ ?_ ?_
          refine cX ?_ ?_ (by intro wz hSw; obtain ⟨q0, q1⟩ := c2 (B19.y hSw.1); go_simp; all_goals with_reducible rfl) ?_
          refine cX ?_ ?_ (by intro wz hSw; obtain ⟨q0, q1⟩ := c2 (B3.y hSw.1); go_simp; all_goals with_reducible rfl) ?_
          refine cC ?_ ?_ ?_ ?_ ?hc6_4 ?_
          case hc6_4 => (intro w hSw; exact ref_any a.1 a.2 w)
          refine cX (.bool false) ?_ (by intro wz hSw; exact (by have e1 := pq_ne HA.out; go_simp; all_goals exact e1)) ?_
          refine cW ?_ ?_ ?_
          refine cX ?_ ?_ (by intro wz hSw; obtain ⟨q0, q1⟩ := c2 (B19.y hSw.1); go_simp; all_goals with_reducible rfl) ?_
          refine cX ?_ ?_ (by intro wz hSw; obtain ⟨q0, q1⟩ := c2 (B4.y hSw.1); go_simp; all_goals with_reducible rfl) ?_
          refine cC ?_ ?_ ?_ ?_ ?hc6_9 ?_
          case hc6_9 => (intro w hSw; exact ref_any b.1 b.2 w)
          refine cX (.bool false) ?_ (by intro wz hSw; exact (by have e1 := pq_ne HB2.out; go_simp; all_goals exact e1)) ?_
          refine cW ?_ ?_ ?_
          refine cW ?_ ?_ ?_
          refine cW ?_ ?_ ?_
          refine calm_end ?_
          intro w1 hS
          have hS := sO hS
          have B19 := B19.y hS
          have B3 := B3.y hS
          have B4 := B4.y hS
          have hz1 : wz.heap.size ≤ w1.heap.size := hS.size
          have HB := gS HB hS
          have HE9 := hS.all
          clear hS
          have HBn := hH HB
          clear HB B3 B4 B19
          go_wp2_with fail
          go_roundg q
          case measure => omega
          case rel => exact ⟨i + 1, false, by omega, by go_num, rfl, HN2, HBn⟩
end Go.Proofs.YthbplhglfjlngaaGreat
