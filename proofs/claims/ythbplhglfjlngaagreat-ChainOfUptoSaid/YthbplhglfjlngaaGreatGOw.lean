/- Parts of the proof. -/
import Derived.Test.YthbplhglfjlngaaGreatGOv
set_option linter.unusedVariables false
set_option linter.unusedSimpArgs false
set_option maxRecDepth 100000
namespace Go.Proofs.YthbplhglfjlngaaGreat
open Go.RowKit Go.Rg Go.Wd Go.Mg
attribute [local go_sem] Oper.semAt_some
theorem size_sgS : (Tryz.prog.info? 25).map (·.size) = some 4 := by kernel_rfl
theorem nodup_len {α : Type} [DecidableEq α] : ∀ {l m : List α}, l.Nodup → (∀ x ∈ l, x ∈ m) → l.length ≤ m.length
 | [], m, _, _ => Nat.zero_le _
 | x :: l, m, hn, hm => by
  obtain ⟨h1, h2⟩ := List.nodup_cons.1 hn
  have hx := hm x (List.mem_cons_self ..)
  have ih := nodup_len (l := l) (m := m.erase x) h2 (fun y hy => (List.mem_erase_of_ne (fun e => h1 (by rw [← e]; exact hy))).2 (hm y (List.mem_cons_of_mem _ hy)))
  rw [List.length_erase_of_mem hx] at ih
  have := List.length_pos_of_mem hx
  simp only [List.length_cons]; omega
theorem nearS_mem {a b c d size : Int} {ps : List (Int × Int)} {p : Int × Int} (h : p ∈ nearS a b c d size (setR ps)) : p ∈ ps := by
 unfold nearS at h
 obtain ⟨x, y⟩ := p
 have := (mem_nearB (setR_rising ps).1 (setR_rising ps).2).1 h
 exact (setR_mem ps (x, y)).1 (by obtain ⟨⟨r, h1, h2, h3⟩, _⟩ := this; exact ⟨r, h1, h2, h3⟩)
theorem nearS_nodup (a b c d size : Int) (ps : List (Int × Int)) : (nearS a b c d size (setR ps)).Nodup := nearB_nodup (setR_strict ps).1 (setR_strict ps).2 _ _ _ _
theorem ofS_any (a b c d size : Int) (R : Nat) (ps L : List (Int × Int)) (w : World) (hL : ofB a b c d size (setR ps) = L) (hg : sgB a b c d = true) (hs : szB size = true) (hset : SetW w R ps) (hpt : ∀ p ∈ ps, ptB p.1 p.2 = true) (hlen : ps.length ≤ 1048576) :
  Calls Tryz.prog 8 #[gV a b c d, .pointer (some ⟨R, 0, none⟩), .int .i64 size] w fun e w' => ∃ v, e = .returned (.tuple #[v, .int .i64 0]) ∧ SlC w' v 2 (ptE L) ∧ Below w.heap.size w w' := by
 subst hL
 have h1 := nodup_len (nearS_nodup a b c d size ps) (fun p hp => nearS_mem hp)
 exact ofC_any a b c d size R ps w hg hs hset (setR_rising ps).1 (setR_rising ps).2 (fun p hp => hpt p (nearS_mem hp)) (by omega)
theorem sg_abs {a b c d : Int} (h : sgB a b c d = true) : a.natAbs ≤ 2199023255552 ∧ b.natAbs ≤ 2199023255552 ∧ c.natAbs ≤ 2199023255552 ∧ d.natAbs ≤ 2199023255552 := by
 unfold sgB ptB at h
 simp only [Bool.and_eq_true, inB_iff] at h
 omega
theorem of17L (a b c d size : Int) (v : Value) (ps L : List (Int × Int)) (w : World) (hv : SlC w v 2 (ptE (srtD ps))) (hg : sgB a b c d = true) (hs : szB size = true) (hpt : ∀ p ∈ ps, ptB p.1 p.2 = true) (hlen : ps.length ≤ 1048576) (hW : (dOf (cutD a b c d size) [] (srtD ps)).map (·.1) = L) :
  Calls Tryz.prog 11 #[.agg #[.int .i64 a, .int .i64 b], .agg #[.int .i64 c, .int .i64 d], v, .int .i64 size] w fun e w' => ∃ v', e = .returned v' ∧ SlC w' v' 2 (ptE L) ∧ Below w.heap.size w w' := by
 subst hW
 obtain ⟨h1, h2, h3, h4⟩ := sg_abs hg
 rw [szB_iff] at hs
 exact of17_any a b c d size v (srtD ps) w hv h1 h2 h3 h4 hs.1 hs.2 (fun p hp => hpt p (((srtD_law ps).2 p).1 hp)) (Nat.le_trans (srtD_len ps) hlen)
theorem nearT (a b c d x y size : Int) (w : World) (hg : sgB a b c d = true) (hs : szB size = true) (hp : ptB x y = true) (hn : nearZ a b c d x y size 1 = true) :
  Calls Tryz.prog 12 #[gV a b c d, pV x y, .int .i64 size, .int .i64 1] w fun e w' => e = .returned (.bool true) ∧ Below w.heap.size w w' := by
 exact near_yes a b c d x y size 1 hs hg hp (by decide) (by decide) hn w
theorem of_plain {a b c d size : Int} (ps : List (Int × Int)) (hs : 1 ≤ size) : (dOf (cutD a b c d size) [] (srtD ps)).map (·.1) = ofB a b c d size (setR ps) ∧ ofB c d a b size (setR ps) = (ofB a b c d size (setR ps)).reverse ∧ ∀ p ∈ ofB a b c d size (setR ps), p ∈ ps ∧ nearZ a b c d p.1 p.2 size 1 = true := by
 obtain ⟨k1, k2⟩ := srtD_law ps
 refine ⟨dOf_eq hs (cutD a b c d size) ps (srtD ps) (k1.imp (fun h e => by subst e; unfold LtP at h; omega)) k2 (fun p _ => cut_ok a b c d size p), ofB_back hs (setR_rising ps).1 (setR_rising ps).2 (nearS_nodup _ _ _ _ _ _) (nearS_nodup _ _ _ _ _ _), fun p hp => ?_⟩
 obtain ⟨h1, z, hz⟩ := ((ofS_law a b c d size hs ps).1 p).1 hp
 exact ⟨h1, near_met hs hz⟩
set_option maxHeartbeats 8000000 in
theorem lawOfV (a b c d size : Int) (v : Value) (ps : List (Int × Int)) (w : World) (hv : SlC w v 2 (ptE ps)) (hlen : ps.length ≤ 1048576) :
  Calls Tryz.prog 3 #[gV a b c d, v, .int .i64 size] w fun e w' => e = .returned (.bool true) ∧ Below w.heap.size w w' := by
 obtain ⟨av, cv, e, hn, hcm⟩ := hv.form
 subst e
 obtain ⟨n, Hn⟩ : ∃ n, Hid (n = (ptE ps).length) := ⟨_, hH rfl⟩
 have Hnl : Hid (n = ps.length) := hH (by rw [Hn.out, ptE_len])
 rw [← Hn.out] at hv hn ⊢
 unfold maxLen at hcm
 obtain ⟨W0, hW0⟩ : ∃ W0, w.alloc (.cells #[.int .i64 a, .int .i64 b, .int .i64 c, .int .i64 d] 25) = W0 := ⟨_, rfl⟩
 have B3 : Blk W0 w.heap.size [.int .i64 a, .int .i64 b, .int .i64 c, .int .i64 d] 25 := hW0 ▸ Blk.new _ _ _
 have hb0 : Below w.heap.size w W0 := hW0 ▸ (Below.refl _ w).alloc (Nat.le_refl _) _
 have HV := hH (hv.call hb0)
 have Hlen := hH hlen
 have HB0 := hH hb0
 have H3 := hH B3
 have hlt3 := B3.lt
 obtain ⟨ok, Hok⟩ : ∃ b : Bool, Hid ((ps.all fun p => ptB p.1 p.2) = b) := ⟨_, hH rfl⟩
 have HRe := refs_any _ ps W0 HV.out hlen
 rw [Hok.out] at HRe
 have HRefs := hH HRe
 clear hv hlen hb0 HRe B3
 go_enter Tryz.func3, Tryz.ntmps3
 go_upto_region 1 with (fail)
 (try rw [hW0])
 clear hW0
 go_wp2_with fail
 refine HRefs.out.mono ?_
 rintro e w1 ⟨vx, rfl, hxs, hb1⟩
 obtain ⟨ax, cx, e, _, _⟩ := hxs.form
 subst e
 obtain ⟨nx, Hnx⟩ : ∃ n, Hid (n = (ptE (srtD ps)).length) := ⟨_, hH rfl⟩
 rw [← Hnx.out] at hxs ⊢
 have HXs := hH hxs
 have HB1 := hH (HB0.out.trans (hb1.mono HB0.out.size))
 have H3 := hH (H3.out.call hb1)
 have HV := hH (HV.out.call hb1)
 clear hxs hb1 HRefs
 cases ok with
 | false =>
  have hbad : ∃ p ∈ ps, ptB p.1 p.2 = false := by
   have h := Hok.out
   rw [List.all_eq_false] at h
   obtain ⟨p, h1, h2⟩ := h
   exact ⟨p, h1, by simpa using h2⟩
  have HSet := hH (set_bad _ ps w1 HV.out hbad)
  clear hbad
  go_wp2_with fail
  refine HSet.out.mono ?_
  rintro e w2 ⟨rfl, hb2⟩
  have HB2 := hH (HB1.out.trans (hb2.mono HB1.out.size))
  clear hb2 HSet
  by_cases h40 : 40 < n
  ·have t1 : (40 : Int) < (n : Int) := by omega
   go_wp2_with fail
   refine (awake17_any w2).mono ?_
   rintro e w3 ⟨rfl, hb3⟩
   have HB3 := hH (HB2.out.trans (hb3.mono HB2.out.size))
   clear hb3
   go_wp2_with fail
   go_ret
   exact ⟨rfl, HB3.out⟩
  ·have t1 : ¬ (40 : Int) < (n : Int) := by omega
   go_wp2_with fail
   refine (awake17_any w2).mono ?_
   rintro e w3 ⟨rfl, hb3⟩
   have HB3 := hH (HB2.out.trans (hb3.mono HB2.out.size))
   clear hb3
   go_wp2_with fail
   go_ret
   exact ⟨rfl, HB3.out⟩
 | true =>
  have HPt : Hid (∀ p ∈ ps, ptB p.1 p.2 = true) := hH (List.all_eq_true.1 Hok.out)
  have HSet := hH (set_ok _ ps w1 HV.out HPt.out (by have := Hlen.out; omega))
  go_wp2_with fail
  refine HSet.out.mono ?_
  rintro e w2 ⟨R, rfl, hset, hR, hb2⟩
  have HSe := hH hset
  have HB2 := hH (HB1.out.trans (hb2.mono HB1.out.size))
  have HXs := hH (HXs.out.call hb2)
  have H3 := hH (H3.out.call hb2)
  clear hset hb2 HSet
  by_cases h40 : 40 < n
  ·have t1 : (40 : Int) < (n : Int) := by omega
   go_wp2_with fail
   refine (awake17_any w2).mono ?_
   rintro e w3 ⟨rfl, hb3⟩
   have HB3 := hH (HB2.out.trans (hb3.mono HB2.out.size))
   clear hb3
   go_wp2_with fail
   go_ret
   exact ⟨rfl, HB3.out⟩
  ·have t1 : ¬ (40 : Int) < (n : Int) := by omega
   obtain ⟨qa0, qa1, qa2, qa3⟩ := c4 H3.out
   by_cases hgs : sgB a b c d = true ∧ szB size = true
   ·obtain ⟨hg, hs⟩ := hgs
    have hs1 := (szB_iff.1 hs).1
    have hs2 := (szB_iff.1 hs).2
    have s1 : ¬ size < 1 := by omega
    have s2 : ¬ (1048576 : Int) < size := by omega
    obtain ⟨L, HLo⟩ : ∃ L, Hid (L = ofB a b c d size (setR ps)) := ⟨_, hH rfl⟩
    obtain ⟨P1, P2, P3⟩ := of_plain (a := a) (b := b) (c := c) (d := d) ps hs1
    rw [← HLo.out] at P1 P2 P3
    have hg2 : sgB c d a b = true := by unfold sgB at hg ⊢; rw [Bool.and_comm]; exact hg
    have hgg : ptB a b = true ∧ ptB c d = true := by unfold sgB at hg; rwa [Bool.and_eq_true] at hg
    have HG := hH hg
    have HG2 := hH hg2
    have HZ := hH hs
    have HC := hH hgg.1
    have HD := hH hgg.2
    have HW := hH P1
    have HBk := hH P2
    have HM := hH P3
    have HOf := hH (ofS_any a b c d size R ps L w2 HLo.out.symm hg hs HSe.out HPt.out Hlen.out)
    obtain ⟨m, Hm⟩ : ∃ m, Hid (m = L.length) := ⟨_, hH rfl⟩
    clear hg hs hg2 hgg P1 P2 P3 HLo
    go_wp2_with fail
    refine HOf.out.mono ?_
    rintro e w3 ⟨vl, rfl, hl, hb3⟩
    obtain ⟨al, cl, e, hml, hcl⟩ := hl.form
    subst e
    rw [ptE_len, ← Hm.out] at hl hml ⊢
    have HL := hH hl
    have HB3 := hH (HB2.out.trans (hb3.mono HB2.out.size))
    have HXs := hH (HXs.out.call hb3)
    have H3 := hH (H3.out.call hb3)
    have HSe := hH (HSe.out.call hb3)
    unfold maxLen at hcl
    clear qa0 qa1 qa2 qa3 hb3 HOf hl
    obtain ⟨qa0, qa1, qa2, qa3⟩ := c4 H3.out
    go_wp2_with fail
    refine (ref_any a b w3).mono ?_
    rintro e w4 ⟨rfl, hb9⟩
    have HB4 := hH (HB3.out.trans (hb9.mono HB3.out.size))
    have HXs := hH (HXs.out.call hb9)
    have H3 := hH (H3.out.call hb9)
    have HL := hH (HL.out.call hb9)
    have HSe := hH (HSe.out.call hb9)
    clear hb9
    go_wp2_with fail
    refine (right3_any a b true HC.out w4).mono ?_
    rintro e w5 ⟨rfl, hb9⟩
    have HB5 := hH (HB4.out.trans (hb9.mono HB4.out.size))
    have HXs := hH (HXs.out.call hb9)
    have H3 := hH (H3.out.call hb9)
    have HL := hH (HL.out.call hb9)
    have HSe := hH (HSe.out.call hb9)
    clear hb9
    obtain ⟨qa0, qa1, qa2, qa3⟩ := c4 H3.out
    go_wp2_with fail
    refine (ref_any c d w5).mono ?_
    rintro e w6 ⟨rfl, hb9⟩
    have HB6 := hH (HB5.out.trans (hb9.mono HB5.out.size))
    have HXs := hH (HXs.out.call hb9)
    have H3 := hH (H3.out.call hb9)
    have HL := hH (HL.out.call hb9)
    have HSe := hH (HSe.out.call hb9)
    clear hb9
    go_wp2_with fail
    refine (right3_any c d true HD.out w6).mono ?_
    rintro e w7 ⟨rfl, hb9⟩
    have HB7 := hH (HB6.out.trans (hb9.mono HB6.out.size))
    have HXs := hH (HXs.out.call hb9)
    have H3 := hH (H3.out.call hb9)
    have HL := hH (HL.out.call hb9)
    have HSe := hH (HSe.out.call hb9)
    clear hb9
    have B3 := H3.out
    have HB := HB7.out
    have hlt7 : w.heap.size < w7.heap.size := B3.lt
    go_upto_region 10 with (fail)
    refine cG ?_
    refine dB [(fun v _ => v = .pointer (some ⟨w.heap.size, 0, none⟩)), (fun v _ => v = .agg #[.int .i64 a, .int .i64 b]), (fun v _ => v = .agg #[.int .i64 a, .int .i64 b]), (fun v _ => v = .pointer (some ⟨w.heap.size, 2, none⟩)), (fun v _ => v = .agg #[.int .i64 c, .int .i64 d]), (fun v _ => v = .agg #[.int .i64 c, .int .i64 d]), (fun v _ => v = .slice ax nx cx), (fun v _ => v = .int .i64 size), (fun v w' => SlC w' v 2 (ptE L)), (fun v w' => SlC w' v 2 (ptE L))] ⟨sE, sE, sE, sE, sE, sE, sE, sE, (fun v w w' h hr => h.call hr), (fun v w w' h hr => h.call hr), trivial⟩ ⟨?st0, ?st1, ?st2, ?st3, ?st4, ?st5, ?st6, ?st7, ?st8, ?st9, trivial⟩ ?_
    case st0 => (intro fa wz hp; have e3 := hp.o 3 (.pointer (some ⟨w.heap.size, 0, none⟩)); exact dX rfl)
    case st1 => (intro fa wz hp; have e70 := hp.q 0 70; have q0 := B3.d hp 0; have q1 := B3.d hp 1; exact dX rfl)
    case st2 => (intro fa wz hp; have e71 := hp.q 1 71; have hb := hp.base; exact dC1 (by go_simp) (ref_any a b wz))
    case st3 => (intro fa wz hp; have e3 := hp.o 3 (.pointer (some ⟨w.heap.size, 0, none⟩)); exact dX rfl)
    case st4 => (intro fa wz hp; have e73 := hp.q 3 73; have q0 := B3.d hp 2; have q1 := B3.d hp 3; exact dX rfl)
    case st5 => (intro fa wz hp; have e74 := hp.q 4 74; have hb := hp.base; exact dC1 (by go_simp) (ref_any c d wz))
    case st6 => (intro fa wz hp; have e7 := hp.o 7 (.slice ax nx cx); exact dX rfl)
    case st7 => (intro fa wz hp; have e2 := hp.o 2 (.int .i64 size); exact dX rfl)
    case st8 => (intro fa wz hp; have e72 := hp.q 2 72; have e75 := hp.q 5 75; have e76 := hp.q 6 76; have e77 := hp.q 7 77; have hb := hp.base; exact dC2 (by go_simp) (of17L a b c d size _ ps L wz (HXs.out.call hb) HG.out HZ.out HPt.out Hlen.out HW.out))
    case st9 => (intro fa wz hp; obtain ⟨v78, e78, hv78⟩ := hp.p 8 78; exact dW (by go_simp) hv78)
    intro g w11 hb hg
    simp only [putAll, td]
    have hr11 := show (fun v w' => SlC w' v 2 (ptE L)) (g 9) w11 from hg 9 _ _ rfl rfl
    clear hg
    have HBx := hH hb
    have B3 := B3.below hb B3.lt
    have hz11 : w7.heap.size ≤ w11.heap.size := hb.size
    have HB := HB.trans (hb.mono HB.size)
    clear hb
    have HW2 := hH hr11
    clear hr11
    generalize g 9 = vw at *
    obtain ⟨aw, cw, e, _, hcw⟩ := HW2.out.form
    subst e
    rw [ptE_len, ← Hm.out] at HW2 ⊢
    unfold maxLen at hcw
    have HLn : Hid (SlC w11 (.slice al m cl) 2 (ptE L)) := hH (HL.out.call HBx.out)
    have HOb := hH (ofS_any c d a b size R ps L.reverse w11 HBk.out HG2.out HZ.out (HSe.out.call HBx.out) HPt.out Hlen.out)
    have HB11 := hH HB
    have H3 := hH B3
    obtain ⟨qa0, qa1, qa2, qa3⟩ := c4 H3.out
    clear HL HB B3 HXs HSe HBx
    go_wp2_with fail
    refine HOb.out.mono ?_
    rintro e w12 ⟨vb, rfl, hb, hb12⟩
    obtain ⟨ab, cb, e, _, hcb⟩ := hb.form
    subst e
    rw [ptE_len, List.length_reverse, ← Hm.out] at hb ⊢
    have HVb := hH hb
    have HL := hH (HLn.out.call hb12)
    have HW2 := hH (HW2.out.call hb12)
    have HB12 := hH (HB11.out.trans (hb12.mono HB11.out.size))
    have H3 := hH (H3.out.call hb12)
    unfold maxLen at hcb
    have hlt12 : w.heap.size < w12.heap.size := H3.out.lt
    clear qa0 qa1 qa2 qa3 hb hb12 HOb HLn
    go_wp2_with fail
    go_loopg [15, 110] m (fun q s15 s110 wx => ∃ i : Nat, i + q = m ∧ s110 = .int .i64 (i : Int) ∧ Hid (Below w12.heap.size w12 wx))
    case atStart => exact ⟨0, by omega, by first | rfl | simp, hH (Below.refl _ _)⟩
    case round =>
     obtain ⟨i, hq, rfl, HBr⟩ := hrel
     cases gk with
     | zero =>
      have t2 : ¬ (i : Int) < (m : Int) := by omega
      have HBn := hH (HB12.out.trans (HBr.out.mono HB12.out.size))
      go_wp2_with fail
      refine (awake17_any wr).mono ?_
      rintro e w13 ⟨rfl, hb9⟩
      have HB13 := hH (HBn.out.trans (hb9.mono HBn.out.size))
      clear hb9
      go_wp2_with fail
      go_ret
      exact ⟨rfl, HB13.out⟩
     | succ q =>
      have t2 : (i : Int) < (m : Int) := by omega
      obtain ⟨p, hp⟩ : ∃ p, L[i]? = some p := ⟨_, List.getElem?_eq_getElem (by rw [← Hm.out]; omega)⟩
      obtain ⟨k, Hk⟩ : ∃ k, Hid (k = m - 1 - i) := ⟨_, hH rfl⟩
      obtain ⟨m1, Hm1⟩ : ∃ k, Hid (k = m - 1) := ⟨_, hH rfl⟩
      have hkm : k < m := by have := Hk.out; omega
      have tn1 : (m : Int) - 1 = (m1 : Int) := by have := Hm1.out; omega
      have hm1 : m1 ≤ 9223372036854775806 := by have := Hm1.out; omega
      have tn2 : IntKind.i64.wrap (m1 : Int) = (m1 : Int) := by rw [IntKind.wrap_i64]; omega
      have tk1 : (m1 : Int) - (i : Int) = (k : Int) := by have := Hm1.out; have := Hk.out; omega
      have tk2 : IntKind.i64.wrap (k : Int) = (k : Int) := by rw [IntKind.wrap_i64]; omega
      have hpk : L.reverse[k]? = some p := by
       rw [List.getElem?_reverse (by rw [← Hm.out]; exact hkm), ← Hm.out, show m - 1 - k = i by have := Hk.out; omega]; exact hp
      obtain ⟨gl, ol, rfl, hgl, hrl, _⟩ := HL.out.elem (ptE_at hp)
      obtain ⟨gw, ow, rfl, hgw, hrw, _⟩ := HW2.out.elem (ptE_at hp)
      obtain ⟨gb, ob, rfl, hgb, hrb, _⟩ := HVb.out.elem (ptE_at hpk)
      have HR1 : Hid (∀ X, Below w12.heap.size w12 X → X.rangeAt gl (ol + i * 2) [.int .i64 p.1, .int .i64 p.2]) := hH (fun X hX => rangeAt_below hrl hX hgl)
      have HR2 : Hid (∀ X, Below w12.heap.size w12 X → X.rangeAt gw (ow + i * 2) [.int .i64 p.1, .int .i64 p.2]) := hH (fun X hX => rangeAt_below hrw hX hgw)
      have HR3 : Hid (∀ X, Below w12.heap.size w12 X → X.rangeAt gb (ob + k * 2) [.int .i64 p.1, .int .i64 p.2]) := hH (fun X hX => rangeAt_below hrb hX hgb)
      have hmp := HM.out p (List.mem_of_getElem? hp)
      have HPp := hH (HPt.out p hmp.1)
      have HNp := hH hmp.2
      have B3 := H3.out.below HBr.out hlt12
      have HB := HBr.out
      have hwz := HB.size
      clear hp hpk hrl hrw hrb hgl hgw hgb hmp
      go_upto_region 19 with (fail)
      go_upto_region 19 with (fail)
      refine cG ?_
      refine cN ?_
      refine cW ?_ ?_ ?_
      refine cW ?_ ?_ ?_
      refine cX (.pointer (some ⟨gl, ol + i * 2, none⟩)) ?_ (by intro wz hSw; exact x_index (i := i) (E := 23) (sz := 2) rfl (by rfl) (by rfl) (by omega) Tryz.underlying26 size_clonePt) ?_
      refine cX (.agg #[.int .i64 p.1, .int .i64 p.2]) ?_ (by intro wz hSw; exact x_row (cs := [.int .i64 p.1, .int .i64 p.2]) rfl (by rfl) (HR1.out _ (HBr.out.trans ((Stay.all hSw.1).mono HBr.out.size))) Tryz.underlying23 rfl size_clonePt) ?_
      refine cC ?_ ?_ ?_ ?_ ?hc1_4 ?_
      case hc1_4 => (intro w hSw; exact ref_any p.1 p.2 w)
      refine cW ?_ ?_ ?_
      refine cW ?_ ?_ ?_
      refine cX (.pointer (some ⟨gw, ow + i * 2, none⟩)) ?_ (by intro wz hSw; exact x_index (i := i) (E := 37) (sz := 2) rfl (by rfl) (by rfl) (by omega) Tryz.underlying27 size_p3S) ?_
      refine cX (.agg #[.int .i64 p.1, .int .i64 p.2]) ?_ (by intro wz hSw; exact x_row (cs := [.int .i64 p.1, .int .i64 p.2]) rfl (by rfl) (HR2.out _ (HBr.out.trans ((Stay.all hSw.1).mono HBr.out.size))) Tryz.underlying37 rfl size_p3S) ?_
      refine cX (.bool false) ?_ (by intro wz hSw; exact (by go_simp)) ?_
      refine cW ?_ ?_ ?_
      refine cW ?_ ?_ ?_
      refine cW ?_ ?_ ?_
      refine cW ?_ ?_ ?_
      refine cX ?_ ?_ (by intro wz hSw; have nn := tn1; have nn2 := tn2; go_simp; all_goals with_reducible rfl) ?_
      refine cW ?_ ?_ ?_
      refine cX ?_ ?_ (by intro wz hSw; have nn := tk1; have nn2 := tk2; go_simp; all_goals with_reducible rfl) ?_
      refine cX (.pointer (some ⟨gb, ob + k * 2, none⟩)) ?_ (by intro wz hSw; exact x_index (i := k) (E := 23) (sz := 2) rfl (by rfl) (by rfl) (by omega) Tryz.underlying26 size_clonePt) ?_
      refine cX (.agg #[.int .i64 p.1, .int .i64 p.2]) ?_ (by intro wz hSw; exact x_row (cs := [.int .i64 p.1, .int .i64 p.2]) rfl (by rfl) (HR3.out _ (HBr.out.trans ((Stay.all hSw.1).mono HBr.out.size))) Tryz.underlying23 rfl size_clonePt) ?_
      refine cW ?_ ?_ ?_
      refine cW ?_ ?_ ?_
      refine cX (.pointer (some ⟨gl, ol + i * 2, none⟩)) ?_ (by intro wz hSw; exact x_index (i := i) (E := 23) (sz := 2) rfl (by rfl) (by rfl) (by omega) Tryz.underlying26 size_clonePt) ?_
      refine cX (.agg #[.int .i64 p.1, .int .i64 p.2]) ?_ (by intro wz hSw; exact x_row (cs := [.int .i64 p.1, .int .i64 p.2]) rfl (by rfl) (HR1.out _ (HBr.out.trans ((Stay.all hSw.1).mono HBr.out.size))) Tryz.underlying23 rfl size_clonePt) ?_
      refine cX (.bool false) ?_ (by intro wz hSw; exact (by go_simp)) ?_
      refine cW ?_ ?_ ?_
      refine cW ?_ ?_ ?_
      refine cX (gV a b c d) ?_ (by intro wz hSw; exact load_row rfl (by rfl) (B3.y hSw.1) Tryz.underlying25 rfl size_sgS) ?_
      refine cW ?_ ?_ ?_
      refine cW ?_ ?_ ?_
      refine cX (.pointer (some ⟨gl, ol + i * 2, none⟩)) ?_ (by intro wz hSw; exact x_index (i := i) (E := 23) (sz := 2) rfl (by rfl) (by rfl) (by omega) Tryz.underlying26 size_clonePt) ?_
      refine cX (.agg #[.int .i64 p.1, .int .i64 p.2]) ?_ (by intro wz hSw; exact x_row (cs := [.int .i64 p.1, .int .i64 p.2]) rfl (by rfl) (HR1.out _ (HBr.out.trans ((Stay.all hSw.1).mono HBr.out.size))) Tryz.underlying23 rfl size_clonePt) ?_
      refine cW ?_ ?_ ?_
      refine cC ?_ ?_ ?_ ?_ ?hc1_32 ?_
      case hc1_32 => (intro w hSw; exact nearT a b c d p.1 p.2 size w HG.out HZ.out HPp.out HNp.out)
      refine cW ?_ ?_ ?_
      refine cW ?_ ?_ ?_
      refine calm_end ?_
      intro w1 hS
      have hS := Stay.of_below hS
      have B3 := B3.y hS
      have hz1 : wr.heap.size ≤ w1.heap.size := hS.size
      have HB := gS HB hS
      have HE9 := hH hS.all
      clear hS
      have HBn := hH HB
      clear HB B3 tn1 tn2 tk1 tk2
      go_wp2_with fail
      go_roundg q
      case measure => omega
      case rel => exact ⟨i + 1, by omega, by go_num, HBn⟩
   ·have HOf := hH (of_bad a b c d size R w2 hgs)
    have Hgs := hH hgs
    clear hgs
    go_wp2_with fail
    refine HOf.out.mono ?_
    rintro e w3 ⟨rfl, hb3⟩
    have HB3 := hH (HB2.out.trans (hb3.mono HB2.out.size))
    have H3 := hH (H3.out.call hb3)
    clear qa0 qa1 qa2 qa3 hb3 HOf
    obtain ⟨qa0, qa1, qa2, qa3⟩ := c4 H3.out
    by_cases s1 : size < 1
    ·go_wp2_with fail
     refine (awake17_any w3).mono ?_
     rintro e w4 ⟨rfl, hb9⟩
     have HB4 := hH (HB3.out.trans (hb9.mono HB3.out.size))
     clear hb9
     go_wp2_with fail
     go_ret
     exact ⟨rfl, HB4.out⟩
    ·by_cases s2 : 1048576 < size
     ·go_wp2_with fail
      refine (awake17_any w3).mono ?_
      rintro e w4 ⟨rfl, hb9⟩
      have HB4 := hH (HB3.out.trans (hb9.mono HB3.out.size))
      clear hb9
      go_wp2_with fail
      go_ret
      exact ⟨rfl, HB4.out⟩
     ·have hsz : szB size = true := by rw [szB_iff]; omega
      cases hpa : ptB a b with
      | false =>
       have HC := hH hpa
       clear hpa hsz Hgs
       go_wp2_with fail
       refine (ref_any a b w3).mono ?_
       rintro e w4 ⟨rfl, hb4⟩
       have HB4 := hH (HB3.out.trans (hb4.mono HB3.out.size))
       clear hb4
       go_wp2_with fail
       refine (right3_any a b false HC.out w4).mono ?_
       rintro e w5 ⟨rfl, hb5⟩
       have HB5 := hH (HB4.out.trans (hb5.mono HB4.out.size))
       clear hb5
       go_wp2_with fail
       refine (awake17_any w5).mono ?_
       rintro e w6 ⟨rfl, hb9⟩
       have HB6 := hH (HB5.out.trans (hb9.mono HB5.out.size))
       clear hb9
       go_wp2_with fail
       go_ret
       exact ⟨rfl, HB6.out⟩
      | true =>
       have hpc : ptB c d = false := by
        cases h : ptB c d with
        | false => rfl
        | true => exact absurd ⟨by unfold sgB; rw [hpa, h]; rfl, hsz⟩ Hgs.out
       have HC := hH hpa
       have HD := hH hpc
       clear hpa hpc hsz Hgs
       go_wp2_with fail
       refine (ref_any a b w3).mono ?_
       rintro e w4 ⟨rfl, hb4⟩
       have HB4 := hH (HB3.out.trans (hb4.mono HB3.out.size))
       have H3 := hH (H3.out.call hb4)
       clear hb4 qa0 qa1 qa2 qa3
       go_wp2_with fail
       refine (right3_any a b true HC.out w4).mono ?_
       rintro e w5 ⟨rfl, hb5⟩
       have HB5 := hH (HB4.out.trans (hb5.mono HB4.out.size))
       have H3 := hH (H3.out.call hb5)
       obtain ⟨qa0, qa1, qa2, qa3⟩ := c4 H3.out
       clear hb5
       go_wp2_with fail
       refine (ref_any c d w5).mono ?_
       rintro e w6 ⟨rfl, hb6⟩
       have HB6 := hH (HB5.out.trans (hb6.mono HB5.out.size))
       clear hb6
       go_wp2_with fail
       refine (right3_any c d false HD.out w6).mono ?_
       rintro e w7 ⟨rfl, hb7⟩
       have HB7 := hH (HB6.out.trans (hb7.mono HB6.out.size))
       clear hb7
       go_wp2_with fail
       refine (awake17_any w7).mono ?_
       rintro e w8 ⟨rfl, hb9⟩
       have HB8 := hH (HB7.out.trans (hb9.mono HB7.out.size))
       clear hb9
       go_wp2_with fail
       go_ret
       exact ⟨rfl, HB8.out⟩
end Go.Proofs.YthbplhglfjlngaaGreat
