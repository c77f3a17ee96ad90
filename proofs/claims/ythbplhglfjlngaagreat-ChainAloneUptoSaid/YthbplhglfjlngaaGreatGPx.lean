/- Parts of the proof. -/
import Derived.Test.YthbplhglfjlngaaGreatGPw
set_option linter.unusedVariables false
set_option linter.unusedSimpArgs false
set_option maxRecDepth 100000
namespace Go.Proofs.YthbplhglfjlngaaGreat
open Go.RowKit Go.Rg Go.Wd Go.Mg
attribute [local go_sem] Oper.semAt_some
def cenB (x y size : Int) : Bool := szB size && ptB x y && ptB (wrap64 (x * size)) (wrap64 (y * size))
set_option maxHeartbeats 4000000 in
theorem centre_any (x y size : Int) (w : World) :
  Calls Tryz.prog 13 #[pV x y, .int .i64 size] w fun e w' => e = .returned (if cenB x y size = true then .tuple #[pV (wrap64 (x * size)) (wrap64 (y * size)), .int .i64 0] else .tuple #[pV 0 0, .int .i64 11]) ∧ Below w.heap.size w w' := by
 unfold cenB
 obtain ⟨X, HX⟩ : ∃ z, Hid (wrap64 (x * size) = z) := ⟨_, hH rfl⟩
 obtain ⟨Y, HY⟩ : ∃ z, Hid (wrap64 (y * size) = z) := ⟨_, hH rfl⟩
 rw [HX.out, HY.out]
 obtain ⟨res, HRes⟩ : ∃ v : Value, Hid (v = if (szB size && ptB x y && ptB X Y) = true then .tuple #[pV X Y, .int .i64 0] else .tuple #[pV 0 0, .int .i64 11]) := ⟨_, hH rfl⟩
 have HGo : Hid ((if (szB size && ptB x y && ptB X Y) = true then Ending.returned (.tuple #[pV X Y, .int .i64 0]) else .returned (.tuple #[pV 0 0, .int .i64 11])) = .returned res) := hH (by rw [HRes.out]; split <;> rfl)
 rw [← HRes.out]
 clear HGo
 obtain ⟨W0, hW0⟩ : ∃ W0, [.cells #[.int .i64 x, .int .i64 y] 23, .cells #[.int .i64 0, .int .i64 0] 23].foldl World.alloc w = W0 := ⟨_, rfl⟩
 have B2 : Blk W0 w.heap.size [.int .i64 x, .int .i64 y] 23 := Blk.allocs _ hW0 0 rfl
 have B4 : Blk W0 (w.heap.size + 1) [.int .i64 0, .int .i64 0] 23 := Blk.allocs _ hW0 1 rfl
 have HB := aB hW0
 have hsz : w.heap.size + 2 ≤ W0.heap.size := aZ hW0
 simp only [List.foldl_cons, List.foldl_nil] at hW0
 obtain ⟨q0, q1⟩ := c2 B2
 go_enter Tryz.func13, Tryz.ntmps13
 go_upto_region 1 with (fail)
 (try rw [hW0])
 clear hW0
 go_upto_region 2 with (fail)
 rw [HX.out, HY.out]
 obtain ⟨W1, hW1⟩ : ∃ W1, W0.alloc (.cells #[.int .i64 X, .int .i64 Y] 23) = W1 := ⟨_, rfl⟩
 have B6 : Blk W1 W0.heap.size [.int .i64 X, .int .i64 Y] 23 := hW1 ▸ Blk.new _ _ _
 have hb1 : Below W0.heap.size W0 W1 := hW1 ▸ (Below.refl _ W0).alloc (Nat.le_refl _) _
 have B2 := B2.call hb1
 have B4 := B4.call hb1
 have HB := HB.trans (hb1.mono HB.size)
 (try rw [hW1])
 clear hW1 q0 q1 hb1
 have hb6 : w.heap.size + 2 ≤ W0.heap.size := hsz
 generalize W0.heap.size = b6 at *
 obtain ⟨q0, q1⟩ := c2 B2
 obtain ⟨r0, r1⟩ := c2 B6
 cases hs : szB size with
 | false =>
  have HR : Hid ((szB size && ptB x y && ptB X Y) = false) := hH (by rw [hs]; rfl)
  have HS := hH hs
  clear hs
  go_wp2_with fail
  refine (psize_any size false HS.out W1).mono ?_
  rintro e w1 ⟨rfl, hb⟩
  have B2 := B2.call hb
  have B4 := B4.call hb
  have B6 := B6.call hb
  have HB := HB.trans (hb.mono HB.size)
  clear hb q0 q1 r0 r1
  go_upto_region 3 with (fail)
  refine pl_start ?_
  refine pl_val (v := .agg #[.int .i64 0, .int .i64 0]) (by rfl) (by go_simp) ?_
  (try simp only [td])
  refine pl_store (b := w.heap.size + 1) (off := 0) (u := .agg #[.int .i64 0, .int .i64 0]) (by rfl) (by rfl) (by rfl) (by rfl) (by rfl) B4 (by first | rfl | (rw [size_clonePt]; rfl)) (by simp [Value.cells, Value.oneCell']) (by simp [Value.cells]) ?_
  intro y11 hu11 hc11
  have B2 := B2.upd hu11 (by have := B2.lt; omega)
  have B6 := B6.upd hu11 (by have := B6.lt; omega)
  have hz11 : w1.heap.size ≤ y11.heap.size := hu11.size
  have HB := Upd.low HB (by omega) (Nat.le_refl _) hu11
  have B4 : Blk y11 (w.heap.size + 1) [.int .i64 0, .int .i64 0] 23 := hc11
  clear hu11 hc11
  (try simp only [td])
  refine pM (.int .i64 11) ?_
  (try simp only [td])
  refine pl_end ?_
  go_wp2_with fail
  obtain ⟨s0, s1⟩ := c2 B4
  refine bodyPost_ret (v := .tuple #[pV 0 0, .int .i64 11]) (by simp [results, Tryz.results13, go_sem, s0, s1]) rfl ⟨by rw [HRes.out, HR.out]; rfl, HB⟩
 | true =>
  have HS := hH hs
  clear hs
  cases hp : ptB x y with
  | false =>
   have HR : Hid ((szB size && ptB x y && ptB X Y) = false) := hH (by rw [HS.out, hp]; rfl)
   have HP := hH hp
   clear hp
   go_wp2_with fail
   refine (psize_any size true HS.out W1).mono ?_
   rintro e w1 ⟨rfl, hb⟩
   have B2 := B2.call hb
   have B4 := B4.call hb
   have B6 := B6.call hb
   have HB := HB.trans (hb.mono HB.size)
   clear hb q0 q1 r0 r1
   obtain ⟨q0, q1⟩ := c2 B2
   go_wp2_with fail
   refine (ptRight_any x y false HP.out w1).mono ?_
   rintro e w2 ⟨rfl, hb⟩
   have B2 := B2.call hb
   have B4 := B4.call hb
   have B6 := B6.call hb
   have HB := HB.trans (hb.mono HB.size)
   clear hb q0 q1
   go_upto_region 3 with (fail)
   refine pl_start ?_
   refine pl_val (v := .agg #[.int .i64 0, .int .i64 0]) (by rfl) (by go_simp) ?_
   (try simp only [td])
   refine pl_store (b := w.heap.size + 1) (off := 0) (u := .agg #[.int .i64 0, .int .i64 0]) (by rfl) (by rfl) (by rfl) (by rfl) (by rfl) B4 (by first | rfl | (rw [size_clonePt]; rfl)) (by simp [Value.cells, Value.oneCell']) (by simp [Value.cells]) ?_
   intro y11 hu11 hc11
   have B2 := B2.upd hu11 (by have := B2.lt; omega)
   have B6 := B6.upd hu11 (by have := B6.lt; omega)
   have hz11 : w2.heap.size ≤ y11.heap.size := hu11.size
   have HB := Upd.low HB (by omega) (Nat.le_refl _) hu11
   have B4 : Blk y11 (w.heap.size + 1) [.int .i64 0, .int .i64 0] 23 := hc11
   clear hu11 hc11
   (try simp only [td])
   refine pM (.int .i64 11) ?_
   (try simp only [td])
   refine pl_end ?_
   go_wp2_with fail
   obtain ⟨s0, s1⟩ := c2 B4
   refine bodyPost_ret (v := .tuple #[pV 0 0, .int .i64 11]) (by simp [results, Tryz.results13, go_sem, s0, s1]) rfl ⟨by rw [HRes.out, HR.out]; rfl, HB⟩
  | true =>
   obtain ⟨b3, Hb3⟩ : ∃ b : Bool, Hid (ptB X Y = b) := ⟨_, hH rfl⟩
   have HR : Hid ((szB size && ptB x y && ptB X Y) = b3) := hH (by rw [Hb3.out, HS.out, hp]; rfl)
   have HP := hH hp
   clear hp
   go_wp2_with fail
   refine (psize_any size true HS.out W1).mono ?_
   rintro e w1 ⟨rfl, hb⟩
   have B2 := B2.call hb
   have B4 := B4.call hb
   have B6 := B6.call hb
   have HB := HB.trans (hb.mono HB.size)
   clear hb q0 q1 r0 r1
   obtain ⟨q0, q1⟩ := c2 B2
   go_wp2_with fail
   refine (ptRight_any x y true HP.out w1).mono ?_
   rintro e w2 ⟨rfl, hb⟩
   have B2 := B2.call hb
   have B4 := B4.call hb
   have B6 := B6.call hb
   have HB := HB.trans (hb.mono HB.size)
   clear hb q0 q1
   obtain ⟨r0, r1⟩ := c2 B6
   go_wp2_with fail
   refine (ptRight_any X Y b3 Hb3.out w2).mono ?_
   rintro e w3 ⟨rfl, hb⟩
   have B2 := B2.call hb
   have B4 := B4.call hb
   have B6 := B6.call hb
   have HB := HB.trans (hb.mono HB.size)
   clear hb r0 r1
   cases b3 with
   | false =>
    go_upto_region 3 with (fail)
    refine pl_start ?_
    refine pl_val (v := .agg #[.int .i64 0, .int .i64 0]) (by rfl) (by go_simp) ?_
    (try simp only [td])
    refine pl_store (b := w.heap.size + 1) (off := 0) (u := .agg #[.int .i64 0, .int .i64 0]) (by rfl) (by rfl) (by rfl) (by rfl) (by rfl) B4 (by first | rfl | (rw [size_clonePt]; rfl)) (by simp [Value.cells, Value.oneCell']) (by simp [Value.cells]) ?_
    intro y11 hu11 hc11
    have B2 := B2.upd hu11 (by have := B2.lt; omega)
    have B6 := B6.upd hu11 (by have := B6.lt; omega)
    have hz11 : w3.heap.size ≤ y11.heap.size := hu11.size
    have HB := Upd.low HB (by omega) (Nat.le_refl _) hu11
    have B4 : Blk y11 (w.heap.size + 1) [.int .i64 0, .int .i64 0] 23 := hc11
    clear hu11 hc11
    (try simp only [td])
    refine pM (.int .i64 11) ?_
    (try simp only [td])
    refine pl_end ?_
    go_wp2_with fail
    obtain ⟨s0, s1⟩ := c2 B4
    refine bodyPost_ret (v := .tuple #[pV 0 0, .int .i64 11]) (by simp [results, Tryz.results13, go_sem, s0, s1]) rfl ⟨by rw [HRes.out, HR.out]; rfl, HB⟩
   | true =>
    go_upto_region 4 with (fail)
    refine pl_start ?_
    refine pl_val (v := .agg #[.int .i64 X, .int .i64 Y]) (by rfl) (by have q0 := B6.cell (j := 0) rfl; have q1 := B6.cell (j := 1) rfl; go_simp) ?_
    (try simp only [td])
    refine pl_store (b := w.heap.size + 1) (off := 0) (u := .agg #[.int .i64 X, .int .i64 Y]) (by rfl) (by rfl) (by rfl) (by rfl) (by rfl) B4 (by first | rfl | (rw [size_clonePt]; rfl)) (by simp [Value.cells, Value.oneCell']) (by simp [Value.cells]) ?_
    intro y11 hu11 hc11
    have B2 := B2.upd hu11 (by have := B2.lt; omega)
    have B6 := B6.upd hu11 (by have := B6.lt; omega)
    have hz11 : w3.heap.size ≤ y11.heap.size := hu11.size
    have HB := Upd.low HB (by omega) (Nat.le_refl _) hu11
    have B4 : Blk y11 (w.heap.size + 1) [.int .i64 X, .int .i64 Y] 23 := hc11
    clear hu11 hc11
    (try simp only [td])
    refine pM (.int .i64 0) ?_
    (try simp only [td])
    refine pl_end ?_
    go_wp2_with fail
    obtain ⟨s0, s1⟩ := c2 B4
    refine bodyPost_ret (v := .tuple #[pV X Y, .int .i64 0]) (by simp [results, Tryz.results13, go_sem, s0, s1]) rfl ⟨by rw [HRes.out, HR.out]; rfl, HB⟩
end Go.Proofs.YthbplhglfjlngaaGreat
namespace Go.Proofs.YthbplhglfjlngaaGreat
open Go.RowKit Go.Rg Go.Wd Go.Mg
attribute [local go_sem] Oper.semAt_some
theorem centre_yes (x y size : Int) (h : cenB x y size = true) (w : World) :
  Calls Tryz.prog 13 #[pV x y, .int .i64 size] w fun e w' => e = .returned (.tuple #[pV (wrap64 (x * size)) (wrap64 (y * size)), .int .i64 0]) ∧ Below w.heap.size w w' := by
 have k := centre_any x y size w
 rw [if_pos h] at k; exact k
theorem centre_no (x y size : Int) (h : cenB x y size = false) (w : World) :
  Calls Tryz.prog 13 #[pV x y, .int .i64 size] w fun e w' => e = .returned (.tuple #[pV 0 0, .int .i64 11]) ∧ Below w.heap.size w w' := by
 have k := centre_any x y size w
 rw [if_neg (by rw [h]; decide)] at k; exact k
def cenP (size : Int) (p : Int × Int) : Int × Int := (wrap64 (p.1 * size), wrap64 (p.2 * size))
def cenL (size : Int) (ps : List (Int × Int)) : Bool := ps.all fun p => cenB p.1 p.2 size
set_option maxHeartbeats 4000000 in
theorem centres_any (v : Value) (ps : List (Int × Int)) (size : Int) (G : Bool) (w : World) (hv : SlC w v 2 (ptE ps)) (hlen : ps.length ≤ 1048576) (hG : cenL size ps = G) :
  Calls Tryz.prog 14 #[v, .int .i64 size] w fun e w' => ∃ v', e = .returned (.tuple #[v', .int .i64 (cond G 0 11)]) ∧ SlC w' v' 2 (ptE (cond G (ps.map (cenP size)) [])) ∧ Below w.heap.size w w' := by
 obtain ⟨ap, cp, e, hn, hcm⟩ := hv.form
 subst e
 obtain ⟨n, Hn⟩ : ∃ n, Hid (n = (ptE ps).length) := ⟨_, hH rfl⟩
 have Hnl : Hid (n = ps.length) := hH (by rw [Hn.out, ptE_len])
 rw [← Hn.out] at hv hn ⊢
 have hnb : n ≤ 1048576 := by rw [Hnl.out]; exact hlen
 unfold maxLen at hcm
 have HV := hH hv
 have HG := hH hG
 clear hv hlen hG
 go_enter Tryz.func14, Tryz.ntmps14
 go_wp2_with fail
 go_loopg [6, 13] n (fun q s6 s13 wx => ∃ i : Nat, i + q = n ∧ s13 = .int .i64 (i : Int) ∧ Hid (cenL size (ps.take i) = true) ∧ Hid (OwS wx w.heap.size 23 2 s6 (ptE ((ps.take i).map (cenP size)))) ∧ Hid (Below w.heap.size w wx))
 case atStart => exact ⟨0, by omega, by first | rfl | simp, hH rfl, hH (OwS.none _ _ _ _), hH (Below.refl _ _)⟩
 case round =>
  obtain ⟨i, hq, rfl, Hbk, HO, HBr⟩ := hrel
  cases gk with
  | zero =>
   have t0 : ¬ (i : Int) < (n : Int) := by omega
   have HF : Hid (ps.take i = ps) := hH (List.take_of_length_le (by rw [← Hnl.out]; omega))
   rw [HF.out] at HO Hbk
   have hg : G = true := by rw [← HG.out]; exact Hbk.out
   subst hg
   have HS := hH HO.out.slc
   clear HO HF Hbk
   go_wp2_with fail
   go_ret2
   exact ⟨_, rfl, HS.out, HBr.out⟩
  | succ q =>
   have t0 : (i : Int) < (n : Int) := by omega
   obtain ⟨p, hp0⟩ : ∃ p, ps[i]? = some p := ⟨_, List.getElem?_eq_getElem (by rw [← Hnl.out]; omega)⟩
   obtain ⟨gp, op, rfl, hgp, hrp, _⟩ := HV.out.elem (ptE_at hp0)
   have hel := rangeAt_below hrp HBr.out hgp
   have y2 : wr.cell? ⟨gp, op + i * 2, none⟩ = some (.int .i64 p.1) := hel 0 _ rfl
   have y3 : wr.cell? ⟨gp, op + i * 2 + 1, none⟩ = some (.int .i64 p.2) := hel 1 _ rfl
   have HNx : Hid (ptE ((ps.take i).map (cenP size)) ++ [[.int .i64 (wrap64 (p.1 * size)), .int .i64 (wrap64 (p.2 * size))]] = ptE ((ps.take (i + 1)).map (cenP size))) := hH (by rw [List.take_add_one, hp0, List.map_append]; exact ptE_app _ (cenP size p))
   have HNb : Hid (cenL size (ps.take (i + 1)) = cenB p.1 p.2 size) := hH (by
    have h := Hbk.out
    unfold cenL at h ⊢
    rw [List.take_add_one, hp0, List.all_append, h]; simp)
   have Hmem := hH (List.mem_of_getElem? hp0)
   obtain ⟨wz, hwz⟩ : ∃ wz, wr.alloc (.cells #[.int .i64 p.1, .int .i64 p.2] 23) = wz := ⟨_, rfl⟩
   have hbz : Below wr.heap.size wr wz := hwz ▸ (Below.refl _ wr).alloc (Nat.le_refl _) _
   have B8 : Blk wz wr.heap.size [.int .i64 p.1, .int .i64 p.2] 23 := hwz ▸ Blk.new _ _ _
   have HOz := hH (HO.out.call hbz)
   have HBz : Hid (Below w.heap.size w wz) := hH (HBr.out.trans (hbz.mono HBr.out.size))
   have Hwz := hH hwz
   clear hrp hel hgp hp0 HO Hbk hbz hwz
   go_upto_region 5 with (fail)
   (try rw [Hwz.out])
   clear Hwz y2 y3
   obtain ⟨z0, z1⟩ := c2 B8
   cases hc : cenB p.1 p.2 size with
   | false =>
    have hg : G = false := by
     rw [← HG.out]; unfold cenL
     rw [List.all_eq_false]
     exact ⟨p, Hmem.out, by rw [hc]; decide⟩
    subst hg
    have HC := hH (centre_no p.1 p.2 size hc wz)
    clear hc HNb HNx HOz
    go_wp2_with fail
    refine HC.out.mono ?_
    rintro e w1 ⟨rfl, hb1⟩
    have HB1 := hH (HBz.out.trans (hb1.mono HBz.out.size))
    have HBn := hH ((HB1.out).alloc (Nat.le_trans HB1.out.size (Nat.le_refl _)) (.cells #[.int .i64 0, .int .i64 0] 23))
    clear hb1 z0 z1 B8 HC
    go_wp2_with fail
    go_ret2
    exact ⟨_, rfl, SlC.nil _ _, HBn.out⟩
   | true =>
    have HC := hH (centre_yes p.1 p.2 size hc wz)
    have HNb2 : Hid (cenL size (ps.take (i + 1)) = true) := hH (by rw [HNb.out, hc])
    obtain ⟨X, HX⟩ : ∃ z, Hid (wrap64 (p.1 * size) = z) := ⟨_, hH rfl⟩
    obtain ⟨Y, HY⟩ : ∃ z, Hid (wrap64 (p.2 * size) = z) := ⟨_, hH rfl⟩
    rw [HX.out, HY.out] at HC HNx
    clear hc HNb HX HY
    go_wp2_with fail
    refine HC.out.mono ?_
    rintro e w1 ⟨rfl, hb1⟩
    have HO1 := hH (HOz.out.call hb1)
    have HB1 := hH (HBz.out.trans (hb1.mono HBz.out.size))
    clear hb1 z0 z1 B8 HC HOz
    obtain ⟨wn, hwn⟩ : ∃ wn, w1.alloc (.cells #[.int .i64 X, .int .i64 Y] 23) = wn := ⟨_, rfl⟩
    have hbn : Below w1.heap.size w1 wn := hwn ▸ (Below.refl _ w1).alloc (Nat.le_refl _) _
    have B9 : Blk wn w1.heap.size [.int .i64 X, .int .i64 Y] 23 := hwn ▸ Blk.new _ _ _
    have HOn := hH (HO1.out.call hbn)
    have HBn := hH (HB1.out.trans (hbn.mono HB1.out.size))
    have Hwn := hH hwn
    clear hbn hwn HO1
    go_upto_region 8 with (fail)
    (try rw [Hwn.out])
    clear Hwn
    refine pl_start ?_
    refine pM (u6) ?_
    (try simp only [td])
    refine pl_val (v := .agg #[.int .i64 X, .int .i64 Y]) (by rfl) (load_row rfl (by rfl) B9 Tryz.underlying23 rfl size_clonePt) ?_
    (try simp only [td])
    refine pl_one _ rfl 26 23 (.tmp 27) (.agg #[.int .i64 X, .int .i64 Y]) (.agg #[.int .i64 0, .int .i64 0]) [.int .i64 X, .int .i64 Y] rfl Tryz.underlying26 (info_small info_clonePt) (by rfl) rfl (by simp) (by simp) ?_
    intro gb wb hsb hbb
    have HSb := hH hsb
    have HOb := hH (HOn.out.call hbb)
    have HBb := hH (HBn.out.trans (hbb.mono HBn.out.size))
    clear hsb hbb
    (try simp only [td])
    refine pl_app w wb HBb.out rfl (.tmp 26) (.tmp 28) 26 rfl 23 (.agg #[.int .i64 0, .int .i64 0]) 2 16 Tryz.underlying26 info_clonePt rfl (by decide) (u6) _ rfl HOb.out _ _ rfl HSb.out (pt_one (ps := [(X, Y)])) (by rw [ptE_len, List.length_map, List.length_take, List.length_singleton]; omega) (by decide) ?_
    intro ad nd cd wd hnd hod hbd _
    have HOd := hH hod
    have HBd := hH hbd
    clear hnd hod hbd
    (try simp only [td])
    refine pM (.slice ad nd cd) ?_
    (try simp only [td])
    refine pl_end ?_
    have HOf : Hid (OwS wd w.heap.size 23 2 (.slice ad nd cd) (ptE ((ps.take (i + 1)).map (cenP size)))) := hH (by rw [← HNx.out]; exact HOd.out)
    clear HOd HNx B9
    go_wp2_with fail
    go_roundg q
    case measure => omega
    case rel => exact ⟨i + 1, by omega, by go_num, HNb2, HOf, HBd⟩
end Go.Proofs.YthbplhglfjlngaaGreat
namespace Go.Proofs.YthbplhglfjlngaaGreat
open Go.RowKit Go.Rg Go.Wd Go.Mg
attribute [local go_sem] Oper.semAt_some
theorem pq_eq {p q : Int × Int} (h : (p == q) = true) : p.1 = q.1 ∧ p.2 = q.2 := by
 have : p = q := by simpa using h
 subst this; exact ⟨rfl, rfl⟩
theorem pq_ne {p q : Int × Int} (h : (p == q) = false) : p.1 = q.1 → ¬ p.2 = q.2 := fun h1 h2 => by
 have : p = q := Prod.ext h1 h2
 subst this; simp at h
def aloneB (a b : Int × Int) (ps : List (Int × Int)) (size : Int) : Bool := cenL size [a, b] && (ofB (cenP size a).1 (cenP size a).2 (cenP size b).1 (cenP size b).2 size (setR ps)).all (fun c => c == a || c == b)
theorem cen_sg {a b : Int × Int} {size : Int} (h : cenL size [a, b] = true) : sgB (cenP size a).1 (cenP size a).2 (cenP size b).1 (cenP size b).2 = true ∧ szB size = true := by
 unfold cenL at h
 simp only [List.all_cons, List.all_nil, Bool.and_true, Bool.and_eq_true] at h
 unfold cenB at h
 simp only [Bool.and_eq_true] at h
 exact ⟨by unfold sgB cenP; rw [Bool.and_eq_true]; exact ⟨h.1.2, h.2.2⟩, h.1.1.1⟩
set_option maxHeartbeats 4000000 in
theorem alone_any (a b : Int × Int) (R : Nat) (ps : List (Int × Int)) (size : Int) (A : Bool) (w : World) (hset : SetW w R ps) (hpt : ∀ p ∈ ps, ptB p.1 p.2 = true) (hlen : ps.length ≤ 1048576) (hA : aloneB a b ps size = A) :
  Calls Tryz.prog 15 #[pV a.1 a.2, pV b.1 b.2, .pointer (some ⟨R, 0, none⟩), .int .i64 size] w fun e w' => e = .returned (.bool A) ∧ Below w.heap.size w w' := by
 obtain ⟨W0, hW0⟩ : ∃ W0, [.cells #[.int .i64 a.1, .int .i64 a.2] 23, .cells #[.int .i64 b.1, .int .i64 b.2] 23].foldl World.alloc w = W0 := ⟨_, rfl⟩
 have B4 : Blk W0 w.heap.size [.int .i64 a.1, .int .i64 a.2] 23 := Blk.allocs _ hW0 0 rfl
 have B5 : Blk W0 (w.heap.size + 1) [.int .i64 b.1, .int .i64 b.2] 23 := Blk.allocs _ hW0 1 rfl
 have HB := aB hW0
 have hsz : w.heap.size + 2 ≤ W0.heap.size := aZ hW0
 simp only [List.foldl_cons, List.foldl_nil] at hW0
 have HSe := hH (hset.call HB)
 have HPt := hH hpt
 have Hlen := hH hlen
 have HA0 := hH hA
 obtain ⟨q0, q1⟩ := c2 B4
 obtain ⟨r0, r1⟩ := c2 B5
 obtain ⟨W1, hW1⟩ : ∃ W1, W0.alloc (.cells #[.int .i64 a.1, .int .i64 a.2, .int .i64 b.1, .int .i64 b.2] 23) = W1 := ⟨_, rfl⟩
 have hb1 : Below W0.heap.size W0 W1 := hW1 ▸ (Below.refl _ W0).alloc (Nat.le_refl _) _
 have hB1 : Blk W1 W0.heap.size [.int .i64 a.1, .int .i64 a.2, .int .i64 b.1, .int .i64 b.2] 23 := hW1 ▸ Blk.new _ _ _
 have hv : SlC W1 (.slice (some ⟨W0.heap.size, 0, none⟩) 2 2) 2 (ptE [a, b]) := SlC.of_own (base := W0.heap.size) (t := 23) (es := ptE [a, b]) ⟨rfl, .inr ⟨W0.heap.size, 2, _, rfl, Nat.le_refl _, hB1, Nat.le_refl _, by unfold maxLen; omega, rfl, rfl⟩⟩ (fun e he => by unfold ptE at he; obtain ⟨x, _, rfl⟩ := List.mem_map.1 he; rfl)
 obtain ⟨G, hG⟩ : ∃ G, cenL size [a, b] = G := ⟨_, rfl⟩
 have HC := hH (centres_any _ [a, b] size G W1 hv (by simp) hG)
 have HGe := hH hG
 have HB1 := hH (HB.trans (hb1.mono HB.size))
 have H4 := hH (B4.call hb1)
 have H5 := hH (B5.call hb1)
 have HSe := hH (HSe.out.call hb1)
 have HW1 := hH hW1
 clear hset hpt hlen hA hv hB1 hb1 hW1 hG HB B4 B5
 go_enter Tryz.func15, Tryz.ntmps15
 go_upto_region 1 with (fail)
 (try rw [hW0])
 clear hW0
 go_wp2_with fail
 rw [HW1.out]
 refine HC.out.mono ?_
 rintro e w2 ⟨v, rfl, hs, hb2⟩
 have HB2 := hH (HB1.out.trans (hb2.mono HB1.out.size))
 have H4 := hH (H4.out.call hb2)
 have H5 := hH (H5.out.call hb2)
 have HSe := hH (HSe.out.call hb2)
 clear hb2 HC HW1 q0 q1 r0 r1
 cases G with
 | false =>
  have hA : A = false := by rw [← HA0.out]; unfold aloneB; rw [HGe.out]; rfl
  subst hA
  clear hs
  go_wp2_with fail
  go_ret
  exact ⟨rfl, HB2.out⟩
 | true =>
  obtain ⟨hg, hz⟩ := cen_sg HGe.out
  obtain ⟨P1, hP1⟩ : ∃ z, z = (cenP size a).1 := ⟨_, rfl⟩
  obtain ⟨P2, hP2⟩ : ∃ z, z = (cenP size a).2 := ⟨_, rfl⟩
  obtain ⟨Q1, hQ1⟩ : ∃ z, z = (cenP size b).1 := ⟨_, rfl⟩
  obtain ⟨Q2, hQ2⟩ : ∃ z, z = (cenP size b).2 := ⟨_, rfl⟩
  obtain ⟨L, HL⟩ : ∃ L, Hid (L = ofB P1 P2 Q1 Q2 size (setR ps)) := ⟨_, hH rfl⟩
  have HAl : Hid (A = L.all (fun c => c == a || c == b)) := hH (by rw [← HA0.out]; unfold aloneB; rw [HGe.out, HL.out, hP1, hP2, hQ1, hQ2]; rfl)
  rw [← hP1, ← hP2, ← hQ1, ← hQ2] at hg
  have hs : SlC w2 v 2 [[.int .i64 P1, .int .i64 P2], [.int .i64 Q1, .int .i64 Q2]] := by
   rw [hP1, hP2, hQ1, hQ2]; exact hs
  have HG := hH hg
  have HZ := hH hz
  obtain ⟨av, cc, e, _, _⟩ := hs.form
  subst e
  obtain ⟨gc, oc, rfl, hgc, hr0, _⟩ := hs.elem (i := 0) rfl
  obtain ⟨gc', oc', ec, _, hr1, _⟩ := hs.elem (i := 1) rfl
  cases ec
  have HR0 : Hid (∀ X, Below w2.heap.size w2 X → X.rangeAt gc (oc + 0 * 2) [.int .i64 P1, .int .i64 P2]) := hH (fun X hX => rangeAt_below hr0 hX hgc)
  have HR1 : Hid (∀ X, Below w2.heap.size w2 X → X.rangeAt gc (oc + 1 * 2) [.int .i64 Q1, .int .i64 Q2]) := hH (fun X hX => rangeAt_below hr1 hX hgc)
  have B4 := H4.out
  have B5 := H5.out
  have HB := HB2.out
  have hlt2 := B5.lt
  clear hg hz hs hr0 hr1 hgc hP1 hP2 hQ1 hQ2 HA0 HGe
  go_upto_region 4 with (fail)
  refine cG ?_
  refine dB [(fun v _ => v = .slice (some ⟨gc, oc, none⟩) 2 cc), (fun v _ => v = .pointer (some ⟨gc, oc + 0 * 2, none⟩)), (fun v _ => v = .agg #[.int .i64 P1, .int .i64 P2]), (fun v _ => v = .slice (some ⟨gc, oc, none⟩) 2 cc), (fun v _ => v = .pointer (some ⟨gc, oc + 1 * 2, none⟩)), (fun v _ => v = .agg #[.int .i64 Q1, .int .i64 Q2]), (fun v _ => v = .agg #[.int .i64 P1, .int .i64 P2, .int .i64 Q1, .int .i64 Q2]), (fun v _ => v = .pointer (some ⟨R, 0, none⟩)), (fun v _ => v = .int .i64 size), (fun v w' => ∃ u, v = .tuple #[u, .int .i64 0] ∧ SlC w' u 2 (ptE L)), (fun v w' => ∃ u, v = .tuple #[u, .int .i64 0] ∧ SlC w' u 2 (ptE L)), (fun v w' => SlC w' v 2 (ptE L)), (fun v _ => v = .int .i64 0), (fun v w' => SlC w' v 2 (ptE L)), (fun v _ => v = .int .i64 0)] ⟨sE, sE, sE, sE, sE, sE, sE, sE, sE, (fun v w w' ⟨u, e, h⟩ hr => ⟨u, e, h.call hr⟩), (fun v w w' ⟨u, e, h⟩ hr => ⟨u, e, h.call hr⟩), (fun v w w' h hr => h.call hr), sE, (fun v w w' h hr => h.call hr), sE, trivial⟩ ⟨?st0, ?st1, ?st2, ?st3, ?st4, ?st5, ?st6, ?st7, ?st8, ?st9, ?st10, ?st11, ?st12, ?st13, ?st14, trivial⟩ ?_
  case st0 => (intro fa wz hp; have e9 := hp.o 9 (.slice (some ⟨gc, oc, none⟩) 2 cc); exact dX rfl)
  case st1 => (intro fa wz hp; have e25 := hp.q 0 25; exact dW (x_index (i := 0) (E := 23) (sz := 2) rfl (evt e25) rfl (by decide) Tryz.underlying26 size_clonePt) rfl)
  case st2 => (intro fa wz hp; have e26 := hp.q 1 26; have hb := hp.base; exact dW (x_row (cs := [.int .i64 P1, .int .i64 P2]) rfl (evt e26) (HR0.out wz hb) Tryz.underlying23 rfl size_clonePt) rfl)
  case st3 => (intro fa wz hp; have e9 := hp.o 9 (.slice (some ⟨gc, oc, none⟩) 2 cc); exact dX rfl)
  case st4 => (intro fa wz hp; have e28 := hp.q 3 28; exact dW (x_index (i := 1) (E := 23) (sz := 2) rfl (evt e28) rfl (by decide) Tryz.underlying26 size_clonePt) rfl)
  case st5 => (intro fa wz hp; have e29 := hp.q 4 29; have hb := hp.base; exact dW (x_row (cs := [.int .i64 Q1, .int .i64 Q2]) rfl (evt e29) (HR1.out wz hb) Tryz.underlying23 rfl size_clonePt) rfl)
  case st6 => (intro fa wz hp; have e27 := hp.q 2 27; have e30 := hp.q 5 30; exact dX rfl)
  case st7 => (intro fa wz hp; have e2 := hp.o 2 (.pointer (some ⟨R, 0, none⟩)); exact dX rfl)
  case st8 => (intro fa wz hp; have e3 := hp.o 3 (.int .i64 size); exact dX rfl)
  case st9 => (intro fa wz hp; have e31 := hp.q 6 31; have e32 := hp.q 7 32; have e33 := hp.q 8 33; have hb := hp.base; refine .inl ⟨by rfl, ?_⟩; refine dagUpon_call (by go_simp) ((ofS_any P1 P2 Q1 Q2 size R ps L wz HL.out.symm HG.out HZ.out (HSe.out.call hb) HPt.out Hlen.out).mono fun e w'' ⟨v, he, hv, hbb⟩ => ⟨_, he, hbb, v, rfl, hv⟩))
  case st10 => (intro fa wz hp; obtain ⟨v34, e34, hv34⟩ := hp.p 9 34; exact dW (by go_simp) hv34)
  case st11 => (intro fa wz hp; obtain ⟨v24, e24, hv24⟩ := hp.p 10 24; obtain ⟨u, hu, hs⟩ := hv24; rw [hu] at e24; refine .inl ⟨by rfl, ?_⟩; exact dagUpon_val (by go_simp) (Below.refl _ _) hs)
  case st12 => (intro fa wz hp; obtain ⟨v24, e24, hv24⟩ := hp.p 10 24; obtain ⟨u, hu, hs⟩ := hv24; rw [hu] at e24; exact dX rfl)
  case st13 => (intro fa wz hp; obtain ⟨v35, e35, hv35⟩ := hp.p 11 35; exact dW (by go_simp) hv35)
  case st14 => (intro fa wz hp; have e36 := hp.q 12 36; exact dX rfl)
  intro g w11 hb hg
  simp only [putAll, td]
  rw [show g 14 = .int .i64 0 from hg 14 _ _ rfl rfl]
  have hrl := show (fun v w' => SlC w' v 2 (ptE L)) (g 13) w11 from hg 13 _ _ rfl rfl
  clear hg
  have B4 := B4.below hb B4.lt
  have B5 := B5.below hb B5.lt
  have hz11 : w2.heap.size ≤ w11.heap.size := hb.size
  have HB := HB.trans (hb.mono HB.size)
  clear hb
  have HLv := hH hrl
  clear hrl HR0 HR1
  generalize g 13 = vl at *
  obtain ⟨al, cl, e, hml, hcl⟩ := HLv.out.form
  subst e
  obtain ⟨m, Hm⟩ : ∃ m, Hid (m = L.length) := ⟨_, hH rfl⟩
  rw [ptE_len, ← Hm.out] at HLv hml ⊢
  unfold maxLen at hcl
  have H4 := hH B4
  have H5 := hH B5
  have HB11 := hH HB
  have hlt11 : w.heap.size + 1 < w11.heap.size := B5.lt
  clear B4 B5 HB
  go_wp2_with fail
  go_loopg [39] m (fun q s39 wx => ∃ i : Nat, i + q = m ∧ s39 = .int .i64 (i : Int) ∧ Hid ((L.take i).all (fun c => c == a || c == b) = true) ∧ Hid (Below w11.heap.size w11 wx))
  case atStart => exact ⟨0, by omega, by first | rfl | simp, hH rfl, hH (Below.refl _ _)⟩
  case round =>
   obtain ⟨i, hq, rfl, Hall, HBr⟩ := hrel
   cases gk with
   | zero =>
    have t0 : ¬ (i : Int) < (m : Int) := by omega
    have hA : A = true := by
     rw [HAl.out]
     have h := Hall.out
     rwa [List.take_of_length_le (by rw [← Hm.out]; omega)] at h
    subst hA
    have HBn := hH (HB11.out.trans (HBr.out.mono HB11.out.size))
    clear Hall HAl
    go_wp2_with fail
    go_ret
    exact ⟨rfl, HBn.out⟩
   | succ q =>
    have t0 : (i : Int) < (m : Int) := by omega
    obtain ⟨p, hp⟩ : ∃ p, L[i]? = some p := ⟨_, List.getElem?_eq_getElem (by rw [← Hm.out]; omega)⟩
    obtain ⟨gl, ol, rfl, hgl, hrl, _⟩ := HLv.out.elem (ptE_at hp)
    have hel := rangeAt_below hrl HBr.out hgl
    have y2 : wr.cell? ⟨gl, ol + i * 2, none⟩ = some (.int .i64 p.1) := hel 0 _ rfl
    have y3 : wr.cell? ⟨gl, ol + i * 2 + 1, none⟩ = some (.int .i64 p.2) := hel 1 _ rfl
    have Hmem := hH (List.mem_of_getElem? hp)
    have HNx : Hid ((L.take (i + 1)).all (fun c => c == a || c == b) = (p == a || p == b)) := hH (by
     rw [List.take_add_one, hp, List.all_append, Hall.out]; simp)
    obtain ⟨wz, hwz⟩ : ∃ wz, wr.alloc (.cells #[.int .i64 p.1, .int .i64 p.2] 23) = wz := ⟨_, rfl⟩
    have hbz : Below wr.heap.size wr wz := hwz ▸ (Below.refl _ wr).alloc (Nat.le_refl _) _
    have B13 : Blk wz wr.heap.size [.int .i64 p.1, .int .i64 p.2] 23 := hwz ▸ Blk.new _ _ _
    have B4 := (H4.out.below HBr.out H4.out.lt).call hbz
    have B5 := (H5.out.below HBr.out H5.out.lt).call hbz
    have HB := HBr.out.trans (hbz.mono HBr.out.size)
    have hzz := HB.size
    have Hwz := hH hwz
    clear hrl hel hgl hp Hall hbz hwz
    go_upto_region 8 with (fail)
    (try rw [Hwz.out])
    clear Hwz y2 y3
    generalize wr.heap.size = b13 at *
    cases hpa : (p == a) with
    | true =>
     have HA := hH hpa
     have HN2 : Hid ((L.take (i + 1)).all (fun c => c == a || c == b) = true) := hH (by rw [HNx.out, hpa]; rfl)
     clear hpa HNx
     skip
     refine cP ?_
     refine cN ?_
     refine cX ?_ ?_ (by intro wz hSw; obtain ⟨q0, q1⟩ := c2 (B13.y hSw.1); go_simp; all_goals with_reducible rfl) ?_
     refine cX ?_ ?_ (by intro wz hSw; obtain ⟨q0, q1⟩ := c2 (B4.y hSw.1); go_simp; all_goals with_reducible rfl) ?_
     refine cX (.bool false) ?_ (by intro wz hSw; exact (by have e1 := (pq_eq HA.out).1; have e2 := (pq_eq HA.out).2; go_simp)) ?_
     refine cW ?_ ?_ ?_
     refine cS ?_ ?_
     refine cS ?_ ?_
     refine cS ?_ ?_
     refine cW ?_ ?_ ?_
     refine calm_end ?_
     intro w1 hS
     have hS := sO hS
     have B13 := B13.y hS
     have B4 := B4.y hS
     have B5 := B5.y hS
     have hz1 : wz.heap.size ≤ w1.heap.size := hS.size
     have HB := gS HB hS
     have HE9 := hS.all
     clear hS
     have HBn := hH HB
     clear HB B4 B5 B13
     go_wp2_with fail
     go_roundg q
     case measure => omega
     case rel => exact ⟨i + 1, by omega, by go_num, HN2, HBn⟩
    | false =>
     have HA := hH hpa
     cases hpb : (p == b) with
     | true =>
      have HB2 := hH hpb
      have HN2 : Hid ((L.take (i + 1)).all (fun c => c == a || c == b) = true) := hH (by rw [HNx.out, hpa, hpb]; rfl)
      clear hpa hpb HNx
      skip
      refine cP ?_
      refine cN ?_
      refine cX ?_ ?_ (by intro wz hSw; obtain ⟨q0, q1⟩ := c2 (B13.y hSw.1); go_simp; all_goals with_reducible rfl) ?_
      refine cX ?_ ?_ (by intro wz hSw; obtain ⟨q0, q1⟩ := c2 (B4.y hSw.1); go_simp; all_goals with_reducible rfl) ?_
      refine cX (.bool true) ?_ (by intro wz hSw; exact (by have e1 := pq_ne HA.out; go_simp; all_goals exact e1)) ?_
      refine cW ?_ ?_ ?_
      refine cX ?_ ?_ (by intro wz hSw; obtain ⟨q0, q1⟩ := c2 (B13.y hSw.1); go_simp; all_goals with_reducible rfl) ?_
      refine cX ?_ ?_ (by intro wz hSw; obtain ⟨q0, q1⟩ := c2 (B5.y hSw.1); go_simp; all_goals with_reducible rfl) ?_
      refine cX (.bool false) ?_ (by intro wz hSw; exact (by have e1 := (pq_eq HB2.out).1; have e2 := (pq_eq HB2.out).2; go_simp)) ?_
      refine cW ?_ ?_ ?_
      refine calm_end ?_
      intro w1 hS
      have hS := sO hS
      have B13 := B13.y hS
      have B4 := B4.y hS
      have B5 := B5.y hS
      have hz1 : wz.heap.size ≤ w1.heap.size := hS.size
      have HB := gS HB hS
      have HE9 := hS.all
      clear hS
      have HBn := hH HB
      clear HB B4 B5 B13
      go_wp2_with fail
      go_roundg q
      case measure => omega
      case rel => exact ⟨i + 1, by omega, by go_num, HN2, HBn⟩
     | false =>
      have HB2 := hH hpb
      have hA : A = false := by
       rw [HAl.out, List.all_eq_false]
       exact ⟨p, Hmem.out, by rw [hpa, hpb]; decide⟩
      subst hA
      clear hpa hpb HNx
      skip
      refine cP ?_
      refine cN ?_
      refine cX ?_ ?_ (by intro wz hSw; obtain ⟨q0, q1⟩ := c2 (B13.y hSw.1); go_simp; all_goals with_reducible rfl) ?_
      refine cX ?_ ?_ (by intro wz hSw; obtain ⟨q0, q1⟩ := c2 (B4.y hSw.1); go_simp; all_goals with_reducible rfl) ?_
      refine cX (.bool true) ?_ (by intro wz hSw; exact (by have e1 := pq_ne HA.out; go_simp; all_goals exact e1)) ?_
      refine cW ?_ ?_ ?_
      refine cX ?_ ?_ (by intro wz hSw; obtain ⟨q0, q1⟩ := c2 (B13.y hSw.1); go_simp; all_goals with_reducible rfl) ?_
      refine cX ?_ ?_ (by intro wz hSw; obtain ⟨q0, q1⟩ := c2 (B5.y hSw.1); go_simp; all_goals with_reducible rfl) ?_
      refine cX (.bool true) ?_ (by intro wz hSw; exact (by have e1 := pq_ne HB2.out; go_simp; all_goals exact e1)) ?_
      refine cW ?_ ?_ ?_
      refine calm_end ?_
      intro w1 hS
      have hS := sO hS
      have B13 := B13.y hS
      have B4 := B4.y hS
      have B5 := B5.y hS
      have hz1 : wz.heap.size ≤ w1.heap.size := hS.size
      have HB := gS HB hS
      have HE9 := hS.all
      clear hS
      have HBn := hH (HB11.out.trans (HB.mono HB11.out.size))
      clear HB B4 B5 B13
      go_wp2_with fail
      go_ret
      exact ⟨rfl, HBn.out⟩
end Go.Proofs.YthbplhglfjlngaaGreat
