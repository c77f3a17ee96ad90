/- The law FeatureFrom: true of every text and all places. Printed by wip/genfl.py. -/
import Derived.Test.YtfbdkjonjpanfaaGreatDoorGFh
import Derived.DataShut

set_option linter.unusedVariables false
set_option linter.unusedSimpArgs false
namespace Go.Proofs.YtfbdkjonjpanfaaGreatDoor
open Go.RowKit Go.Rg Ft
attribute [local go_sem] Oper.semAt_some

/-- the two flags are put together: whatever is left in the temporaries -/
theorem wp_join22 {P : Program} {ops : Array Oper} {Q : Exit → Act → World → Prop} {a : Act} {w : World} (x y pb rb : Bool)
    (h : Hid ((Code.region 22 ops false).wp P (fun e a' w' => e = .normal ∧ w' = w ∧ ∃ u102 u103 u104 u105 u106 u107 u108 u109, a' = { tmps := ((((((((((a.tmps.setIfInBounds 11 (.bool (pb || x))).setIfInBounds 12 (.bool (rb || y))).setIfInBounds 102 u102).setIfInBounds 103 u103).setIfInBounds 104 u104).setIfInBounds 105 u105).setIfInBounds 106 u106).setIfInBounds 107 u107).setIfInBounds 108 u108).setIfInBounds 109 u109), defers := a.defers }) a w))
    (k : ∀ u102 u103 u104 u105 u106 u107 u108 u109, Q .normal { tmps := ((((((((((a.tmps.setIfInBounds 11 (.bool (pb || x))).setIfInBounds 12 (.bool (rb || y))).setIfInBounds 102 u102).setIfInBounds 103 u103).setIfInBounds 104 u104).setIfInBounds 105 u105).setIfInBounds 106 u106).setIfInBounds 107 u107).setIfInBounds 108 u108).setIfInBounds 109 u109), defers := a.defers } w) : (Code.region 22 ops false).wp P Q a w :=
  wp_mono h (by rintro e a' w' ⟨rfl, rfl, u102, u103, u104, u105, u106, u107, u108, u109, rfl⟩; exact k u102 u103 u104 u105 u106 u107 u108 u109)
theorem wp_join12 {P : Program} {ops : Array Oper} {c : Code} {Q : Exit → Act → World → Prop} {a : Act} {w : World}
    (h : Hid (((Code.region 12 ops false).seq c).wp P (fun e a' w' => e = .normal ∧ w' = w ∧ ∃ u66 u67 u68 u69 u70 u71 u72, a' = { tmps := (((((((a.tmps.setIfInBounds 66 u66).setIfInBounds 67 u67).setIfInBounds 68 u68).setIfInBounds 69 u69).setIfInBounds 70 u70).setIfInBounds 71 u71).setIfInBounds 72 u72), defers := a.defers }) a w))
    (k : ∀ u66 u67 u68 u69 u70 u71 u72, Q .normal { tmps := (((((((a.tmps.setIfInBounds 66 u66).setIfInBounds 67 u67).setIfInBounds 68 u68).setIfInBounds 69 u69).setIfInBounds 70 u70).setIfInBounds 71 u71).setIfInBounds 72 u72), defers := a.defers } w) : ((Code.region 12 ops false).seq c).wp P Q a w :=
  wp_mono h (by rintro e a' w' ⟨rfl, rfl, u66, u67, u68, u69, u70, u71, u72, rfl⟩; exact k u66 u67 u68 u69 u70 u71 u72)
theorem wp_join13 {P : Program} {ops : Array Oper} {c : Code} {Q : Exit → Act → World → Prop} {a : Act} {w : World} (R : Value → World → Prop)
    (h : Hid (((Code.region 13 ops false).seq c).wp P (fun e a' w' => e = .normal ∧ ∃ u10 u73 u74 u75 u76 u77 u78 u79, a' = { tmps := ((((((((a.tmps.setIfInBounds 10 u10).setIfInBounds 73 u73).setIfInBounds 74 u74).setIfInBounds 75 u75).setIfInBounds 76 u76).setIfInBounds 77 u77).setIfInBounds 78 u78).setIfInBounds 79 u79), defers := a.defers } ∧ R u10 w') a w))
    (k : ∀ w' u10 u73 u74 u75 u76 u77 u78 u79, R u10 w' → Q .normal { tmps := ((((((((a.tmps.setIfInBounds 10 u10).setIfInBounds 73 u73).setIfInBounds 74 u74).setIfInBounds 75 u75).setIfInBounds 76 u76).setIfInBounds 77 u77).setIfInBounds 78 u78).setIfInBounds 79 u79), defers := a.defers } w') : ((Code.region 13 ops false).seq c).wp P Q a w :=
  wp_mono h (by rintro e a' w' ⟨rfl, u10, u73, u74, u75, u76, u77, u78, u79, rfl, hR⟩; exact k w' u10 u73 u74 u75 u76 u77 u78 u79 hR)
/-- how the features lie behind the begin of a round -/
def R13 (W : World) (R : Nat) (fine : Int) (l : List GA) (i : Nat) (kk lev : Int) (ls : List (List Wk.Pr)) (la : Option Addr) (lc : Nat) (za : Option Addr) (zn ln zc P : Nat) (v : Value) (X : World) : Prop :=
  ∃ B D cap cd d pv lv rv f vs us, v = .slice (some ⟨D, 0, none⟩) (d.length + 1) cap ∧ Out X W.heap.size B R D cap cd d pv lv rv f vs us ∧ Hid (accN fine l (i + 1) = some (d, addG fine kk f ls)) ∧ Hid (f.pts.length + (ls.map List.length).sum ≤ 100000000 ∧ f.lines.length + ls.length ≤ 100000000 ∧ f.rings.length + ls.length ≤ 100000000) ∧ Blk X P [.int .i64 kk, .int .i64 lev, .slice la ln lc, .slice za zn zc] 33 ∧ Below W.heap.size W X
theorem KeepB.set {B D o : Nat} {a : World} {cs : List Value} (h : Blk a D cs tF) (v : Value) : KeepB B a (a.setCell ⟨D, o, none⟩ v) :=
  .of (KeepT.set (T' := tF) ⟨D, o, none⟩ h (by decide) v) (KeepT.set (T' := tF) ⟨D, o, none⟩ h (by decide) v)
theorem eqFe_self (f : Fe) : eqFe f f = true := (eqFe_iff f f).2 rfl
theorem heap_pos {w : World} (h : Tabs w) : 0 < w.heap.size := by
  obtain ⟨m, hm⟩ := h
  obtain ⟨o, ho, _⟩ := cells_of_cell hm
  have := (Array.getElem?_eq_some_iff.1 ho).1
  omega

set_option maxRecDepth 100000 in
set_option maxHeartbeats 16000000 in
theorem lawFromW (s : ByteArray) (hsm : s.size ≤ maxLen) (fine : Int) (w : World) (ht : Tabs w) (hf1 : -9223372036854775808 ≤ fine) (hf2 : fine ≤ 9223372036854775807) :
    Calls Tryz.prog 3 #[.string s, .int .i64 fine] w fun e w' => e = .returned (.bool true) ∧ Below w.heap.size w w' := by
  have HT := Lib.hid ht
  have hsm' : s.size ≤ 9223372036854775807 := hsm
  clear ht hsm
  go_enter Tryz.func3, Tryz.ntmps3
  by_cases hsz : s.size > 2000
  · go_wp2_with fail
    refine (awake13_any w HT.out).mono ?_
    rintro e w1 ⟨rfl, hb⟩
    go_wp2_with fail
    go_ret
    exact ⟨rfl, hb⟩
  go_wp2_with fail
  refine (parse_any s w (by omega)).mono ?_
  rintro e w1 ⟨v1, at1, er1, rfl, hp, hb1⟩
  have HB1 := Lib.hid hb1
  have HT1 := Lib.hid (HT.out.below hb1 (Nat.le_refl _))
  cases hps : Wk.parse s.data.toList with
  | error kerr =>
    rw [hps] at hp
    obtain ⟨rfl, rfl, rfl⟩ := hp
    clear hps hb1
    go_wp2_with fail
    refine (from13_any _ [] [] fine w1 ⟨none, 0, rfl, Nat.zero_le _, fun h => absurd rfl h⟩ (fun i g h => by cases h) (fun g h => by cases h) (by simp) (fun g h => by cases h) (by simp) HT1.out hf1 hf2).mono ?_
    rintro e w2 ⟨rv, err, rfl, hF, hb2⟩
    have he : rv = .slice none 0 0 ∧ err = 10 := by
      rcases hF with ⟨_, h1, h2⟩ | ⟨h, _⟩
      · exact ⟨h1, h2⟩
      · exact absurd h.1 (fun h => awNil ⟨h, by decide, by decide⟩)
    obtain ⟨rfl, rfl⟩ := he
    have HB2 : Hid (Below w.heap.size w w2) := HB1.out.trans (hb2.mono HB1.out.size)
    clear hF hb2
    go_wp2_with fail
    refine (awake13_any w2 (HT.out.below HB2.out (Nat.le_refl _))).mono ?_
    rintro e w3 ⟨rfl, hb3⟩
    have HB3 : Hid (Below w.heap.size w w3) := HB2.out.trans (hb3.mono HB2.out.size)
    clear hb3
    go_wp2_with fail
    go_ret
    exact ⟨rfl, HB3.out⟩
  | ok gs =>
    have HFit := Lib.hid (Pg.fit s gs hps (by omega))
    rw [hps] at hp
    obtain ⟨⟨R0, cs, hr, hg⟩, rfl, rfl⟩ := hp
    obtain ⟨a, c, rfl, hm⟩ := (RdC.of hr).form
    have hr := RdC.of hr
    have hg := Pg.gsC hg
    obtain ⟨l, hl⟩ : ∃ l, l = gs.map Wk.toA := ⟨_, rfl⟩
    have hlen : l.length = gs.length := by rw [hl, List.length_map]
    rw [← hl] at hg HFit
    rw [← hlen] at hr hm ⊢
    have HL2 : Hid (2 * s.size ≤ 4000) := by unfold Hid; omega
    have hn6 : l.length ≤ 4000 := by have := HFit.out.2.2.1; have := HL2.out; omega
    have HX : Hid (∀ g ∈ l, g.lists.length ≤ 1000000 ∧ ∀ m ∈ g.lists, m.length ≤ 1000000 ∧ ∀ p ∈ m, p.1.length ≤ 100000 ∧ p.2.length ≤ 100000) := fun g hg => by
      have h4 := HFit.out.2.2.2.1
      have h5 := HL2.out
      exact ⟨by have := (h4 g hg).1; omega, fun m hm => ⟨by have := ((h4 g hg).2 m hm).1; omega, fun p hp => by have := ((h4 g hg).2 m hm).2 p hp; omega⟩⟩
    have HTot : Hid ((l.map mu13).sum ≤ 100000000) := by have := HFit.out.2.2.2.2; have := HL2.out; unfold Hid; omega
    have HRight : Hid (Wk.RightA l) := HFit.out.1
    have HFr := Lib.hid (from13_any _ cs l fine w1 hr hg HFit.out.2.1 (by omega) HX.out HTot.out HT1.out hf1 hf2)
    have Hr1 := Lib.hid hr
    have Hg1 := Lib.hid hg
    clear hb1 hps hl hlen HFit HL2 hr hg HT1
    obtain ⟨n, hnn⟩ : ∃ n, n = l.length := ⟨_, rfl⟩
    rw [← hnn] at hm hn6 HFr Hr1 ⊢
    have Hn := Lib.hid hnn
    unfold maxLen at hm
    clear hnn
    go_wp2_with fail
    refine HFr.out.mono ?_
    rintro e W ⟨rv, err, rfl, hF, hb2⟩
    have HBW : Hid (Below w.heap.size w W) := HB1.out.trans (hb2.mono HB1.out.size)
    have HTW := Lib.hid (HT.out.below HBW.out (Nat.le_refl _))
    have Hr := Lib.hid (Hr1.out.call hb2)
    have Hg := Lib.hid (Hg1.out.call hb2)
    have hwW : w.heap.size ≤ W.heap.size := HBW.out.size
    obtain ⟨ra, rn, rc, rfl⟩ : ∃ ra rn rc, rv = .slice ra rn rc := by
      rcases hF with ⟨_, h, _⟩ | ⟨_, ⟨_, h, _⟩ | ⟨_, _, h, _⟩ | ⟨_, _, _, h⟩⟩
      · exact ⟨_, _, _, h⟩
      · exact ⟨_, _, _, h⟩
      · exact ⟨_, _, _, h⟩
      · obtain ⟨a, c, h, _⟩ := h.form
        exact ⟨_, _, _, h⟩
    have HF := Lib.hid hF
    clear hF hb2 Hr1 Hg1 HFr HB1
    by_cases h09 : 0 ≤ fine ∧ fine ≤ 9
    · obtain ⟨h0, h9⟩ := h09
      have hF2 : Hid ((errA 22 fine l = true ∧ Value.slice ra rn rc = .slice none 0 0 ∧ err = 22) ∨ (errA 22 fine l = false ∧ errA 23 fine l = true ∧ Value.slice ra rn rc = .slice none 0 0 ∧ err = 23) ∨ (errA 22 fine l = false ∧ errA 23 fine l = false ∧ err = 0 ∧ FsT W (.slice ra rn rc) (from_ fine l))) := by
        rcases HF.out with ⟨h, _⟩ | ⟨_, h⟩
        · exact absurd ⟨HRight.out, h0, h9⟩ h
        · exact h
      obtain ⟨R, hR⟩ : ∃ R, R = 0 := ⟨_, rfl⟩
      have hRb : R < W.heap.size := by have := heap_pos HTW.out; omega
      clear HF hR
      go_wp2_with fail
      go_loopg [10, 11, 12, 61] n (fun q s10 s11 s12 s61 wx => ∃ (i : Nat) (pb rb : Bool) (av : Option Addr) (an ac : Nat), i + q = n ∧ s10 = .slice av an ac ∧ s11 = .bool pb ∧ s12 = .bool rb ∧ s61 = .int .i64 (i : Int) ∧ Hid (Acc13 wx W.heap.size R (.slice av an ac) (accN fine l i)) ∧ Hid (pb = errA 22 fine (l.take i) ∧ rb = errA 23 fine (l.take i)) ∧ Hid (Below W.heap.size W wx) ∧ W.heap.size ≤ wx.heap.size)
      case atStart => exact ⟨0, false, false, none, 0, 0, by omega, rfl, rfl, rfl, by first | rfl | simp, rfl, ⟨rfl, rfl⟩, Below.refl _ _, Nat.le_refl _⟩
      case round =>
        obtain ⟨i, pb, rb, av, an, ac, hq, rfl, rfl, rfl, rfl, HA, Hpb, HB, hb0x⟩ := hrel
        cases gk with
        | zero =>
          have hin : i = n := by omega
          subst hin
          have hfull : l.take i = l := by rw [Hn.out, List.take_length]
          rw [hfull] at Hpb
          have HFs : Hid (FsT wr (.slice av an ac) (from_ fine l)) := by have := HA.out; rw [Hn.out] at this; exact this.fsT
          have HBR : Hid (Below w.heap.size w wr) := HBW.out.trans (HB.out.mono HBW.out.size)
          have HTR := Lib.hid (HT.out.below HBR.out (Nat.le_refl _))
          clear hfull HA
          cases pb
          · cases rb
            · have hE : err = 0 ∧ FsT W (.slice ra rn rc) (from_ fine l) := by
                rcases hF2.out with ⟨h, _⟩ | ⟨_, h, _⟩ | ⟨_, _, h1, h2⟩
                · rw [← Hpb.out.1] at h; cases h
                · rw [← Hpb.out.2] at h; cases h
                · exact ⟨h1, h2⟩
              obtain ⟨rfl, hE2⟩ := hE
              have HFg := Lib.hid hE2
              obtain ⟨_, _, e1, hm1⟩ := HFg.out.form
              obtain ⟨_, _, e2, _⟩ := HFs.out.form
              cases e1
              cases e2
              obtain ⟨m, hmm⟩ : ∃ m, m = (from_ fine l).length := ⟨_, rfl⟩
              have Hm := Lib.hid hmm
              rw [← hmm] at HFg HFs hm1 ⊢
              unfold maxLen at hm1
              clear hF2 hE2 hmm Hpb
              obtain ⟨WB, hWB⟩ : ∃ X, X = wr := ⟨_, rfl⟩
              subst hWB
              go_wp2_with fail
              go_loopg [190] m (fun q s190 wx => ∃ j : Nat, j + q = m ∧ s190 = .int .i64 (j : Int) ∧ Hid (Below WB.heap.size WB wx))
              case atStart => exact ⟨0, by omega, by first | rfl | simp, Below.refl _ _⟩
              case round =>
                obtain ⟨j, hq, rfl, HBx⟩ := hrel
                cases gk with
                | zero =>
                  have hjm : j = m := by omega
                  subst hjm
                  have HBR : Hid (Below w.heap.size w wr) := HBR.out.trans (HBx.out.mono HBR.out.size)
                  have HTR := Lib.hid (HT.out.below HBR.out (Nat.le_refl _))
                  go_wp2_with fail
                  refine (awake13_any wr HTR.out).mono ?_
                  rintro e w3 ⟨rfl, hb3⟩
                  have HB3 : Hid (Below w.heap.size w w3) := HBR.out.trans (hb3.mono HBR.out.size)
                  clear hb3
                  go_wp2_with fail
                  go_ret
                  exact ⟨rfl, HB3.out⟩
                | succ q =>
                  have hjm : j < m := by omega
                  obtain ⟨fe, hfe⟩ : ∃ fe, (from_ fine l)[j]? = some fe := ⟨_, List.getElem?_eq_getElem (by rw [← Hm.out]; exact hjm)⟩
                  obtain ⟨ga, oa, pv, lv, rv, rfl, -, qa1, qa2, hga, y0, y1, y2, hFa⟩ := HFg.out.at hfe
                  obtain ⟨gb, ob, pv2, lv2, rv2, rfl, -, qb1, qb2, hgb, z0, z1, z2, hFb⟩ := HFs.out.at hfe
                  have HBn : Below W.heap.size W wr := HB.out.trans (HBx.out.mono HB.out.size)
                  have HBd : Hid (Below W.heap.size W wr.drew) := (HB.out.trans (HBx.out.mono HB.out.size)).drew
                  have HBd2 : Hid (Below WB.heap.size WB wr.drew) := HBx.out.drew
                  have HFa := Lib.hid hFa.feC
                  have HFb := Lib.hid hFb.feC
                  have y0 : wr.cell? ⟨ga, oa + j * 3, none⟩ = some pv := keepc HBn hga y0
                  have y1 : wr.cell? ⟨ga, oa + j * 3 + 1, none⟩ = some lv := keepc HBn hga y1
                  have y2 : wr.cell? ⟨ga, oa + j * 3 + 2, none⟩ = some rv := keepc HBn hga y2
                  have z0 : wr.cell? ⟨gb, ob + j * 3, none⟩ = some pv2 := keepc HBx.out hgb z0
                  have z1 : wr.cell? ⟨gb, ob + j * 3 + 1, none⟩ = some lv2 := keepc HBx.out hgb z1
                  have z2 : wr.cell? ⟨gb, ob + j * 3 + 2, none⟩ = some rv2 := keepc HBx.out hgb z2
                  have hga : ga < wr.drew.heap.size := Nat.lt_of_lt_of_le hga HBd.out.size
                  have hgb : gb < wr.drew.heap.size := Nat.lt_of_lt_of_le hgb HBd2.out.size
                  unfold maxLen at qa2 qb2
                  have k1 : IntKind.i64.wrap (j : Int) = (j : Int) := by rw [IntKind.wrap_i64]; omega
                  have k2 : (j : Int) < (m : Int) := by omega
                  clear hFa hFb hfe HBx HBn
                  go_wp2_with fail
                  refine wp_region_held_drew (S := fun w' => w'.cell? ⟨ga, oa + j * 3, none⟩ = some pv ∧ w'.cell? ⟨ga, oa + j * 3 + 1, none⟩ = some lv ∧ w'.cell? ⟨ga, oa + j * 3 + 2, none⟩ = some rv ∧ w'.cell? ⟨gb, ob + j * 3, none⟩ = some pv2 ∧ w'.cell? ⟨gb, ob + j * 3 + 1, none⟩ = some lv2 ∧ w'.cell? ⟨gb, ob + j * 3 + 2, none⟩ = some rv2) (by kernel_rfl) ⟨y0, y1, y2, z0, z1, z2⟩ (fun hHeld => ?_)
                  refine takeL 0 (v := ?_) rfl (by kernel_rfl) (by kernel_rfl) (by kernel_rfl) (fun _ _ _ h => h) (by rfl) (by assumption) ?hy0 ?_
                  case hy0 => (intro w hSw; (try dsimp only at hSw); go_simp; all_goals (with_reducible rfl))
                  (try simp only [Act.put, List.setIfInBounds_toArray, List.set_cons_zero, List.set_cons_succ])
                  refine takeL 1 (v := ?_) rfl (by kernel_rfl) (by kernel_rfl) (by kernel_rfl) (fun _ _ _ h => h) (by rfl) (by assumption) ?hy1 ?_
                  case hy1 => (intro w hSw; (try dsimp only at hSw); go_simp; all_goals (with_reducible rfl))
                  (try simp only [Act.put, List.setIfInBounds_toArray, List.set_cons_zero, List.set_cons_succ])
                  refine takeL 2 (v := ?_) rfl (by kernel_rfl) (by kernel_rfl) (by kernel_rfl) (fun _ _ _ h => h) (by rfl) (by assumption) ?hy2 ?_
                  case hy2 => (intro w hSw; (try dsimp only at hSw); go_simp; all_goals (with_reducible rfl))
                  (try simp only [Act.put, List.setIfInBounds_toArray, List.set_cons_zero, List.set_cons_succ])
                  refine takeL 3 (v := ?_) rfl (by kernel_rfl) (by kernel_rfl) (by kernel_rfl) (fun _ _ _ h => h) (by rfl) (by assumption) ?hy3 ?_
                  case hy3 => (intro w hSw; (try dsimp only at hSw); go_simp; all_goals (with_reducible rfl))
                  (try simp only [Act.put, List.setIfInBounds_toArray, List.set_cons_zero, List.set_cons_succ])
                  refine takeL 4 (v := ?_) rfl (by kernel_rfl) (by kernel_rfl) (by kernel_rfl) (fun _ _ _ h => h) (by rfl) (by assumption) ?hy4 ?_
                  case hy4 => (intro w hSw; (try dsimp only at hSw); go_simp; all_goals (with_reducible rfl))
                  (try simp only [Act.put, List.setIfInBounds_toArray, List.set_cons_zero, List.set_cons_succ])
                  refine takeL 5 (v := ?_) rfl (by kernel_rfl) (by kernel_rfl) (by kernel_rfl) (fun _ _ _ h => h) (by rfl) (by assumption) ?hy5 ?_
                  case hy5 => (intro w hSw; (try dsimp only at hSw); go_simp; all_goals (with_reducible rfl))
                  (try simp only [Act.put, List.setIfInBounds_toArray, List.set_cons_zero, List.set_cons_succ])
                  refine takeL 6 (v := ?_) rfl (by kernel_rfl) (by kernel_rfl) (by kernel_rfl) (fun _ _ _ h => h) (by rfl) (by assumption) ?hy6 ?_
                  case hy6 => (intro w hSw; (try dsimp only at hSw); go_simp; all_goals (with_reducible rfl))
                  (try simp only [Act.put, List.setIfInBounds_toArray, List.set_cons_zero, List.set_cons_succ])
                  refine takeL 7 (v := ?_) rfl (by kernel_rfl) (by kernel_rfl) (by kernel_rfl) (fun _ _ _ h => h) (by rfl) (by assumption) ?hy7 ?_
                  case hy7 => (intro w hSw; (try dsimp only at hSw); go_simp; all_goals (with_reducible rfl))
                  (try simp only [Act.put, List.setIfInBounds_toArray, List.set_cons_zero, List.set_cons_succ])
                  refine consL 8 (by kernel_rfl) rfl (by rfl) (fun K hK => ?_)
                  go_simp
                  go_at_call 11
                  refine (equal13_any fe fe pv lv rv pv2 lv2 rv2 _ (HFa.out.call HBd.out) (HFb.out.call HBd2.out)).mono ?_
                  rintro e w7 ⟨rfl, hb7⟩
                  have HB7 := Lib.hid (HBd2.out.trans (hb7.mono HBd2.out.size))
                  have hs7 := hb7.size
                  have y0 := keepc hb7 hga y0
                  have y1 := keepc hb7 hga y1
                  have y2 := keepc hb7 hga y2
                  have z0 := keepc hb7 hgb z0
                  have z1 := keepc hb7 hgb z1
                  have z2 := keepc hb7 hgb z2
                  rw [eqFe_self fe]
                  clear hb7
                  clear hHeld
                  refine hK.out _ _ ?hS8 (fun hHeld => ?_)
                  case hS8 => ((try dsimp only); exact ⟨y0, y1, y2, z0, z1, z2⟩)
                  clear hK K
                  (try simp only [Act.put, List.setIfInBounds_toArray, List.set_cons_zero, List.set_cons_succ])
                  refine takeL 9 (v := ?_) rfl (by kernel_rfl) (by kernel_rfl) (by kernel_rfl) (fun _ _ _ h => h) (by rfl) (by assumption) ?hy9 ?_
                  case hy9 => (intro w hSw; (try dsimp only at hSw); go_simp; all_goals (with_reducible rfl))
                  (try simp only [Act.put, List.setIfInBounds_toArray, List.set_cons_zero, List.set_cons_succ])
                  refine wpAnyH_done (by kernel_rfl) ?_ _
                  clear y0 y1 y2 z0 z1 z2 hHeld
                  go_wp2_with fail
                  go_roundg q
                  case measure => omega
                  case rel => exact ⟨j + 1, by omega, by first | rfl | simp, HB7⟩
            · have hE : Value.slice ra rn rc = .slice none 0 0 ∧ err = 23 := by
                rcases hF2.out with ⟨h, _⟩ | ⟨_, _, h1, h2⟩ | ⟨_, h, _⟩
                · rw [← Hpb.out.1] at h; cases h
                · exact ⟨h1, h2⟩
                · rw [← Hpb.out.2] at h; cases h
              obtain ⟨hE1, rfl⟩ := hE
              cases hE1
              clear hF2
              go_wp2_with fail
              refine (awake13_any wr HTR.out).mono ?_
              rintro e w3 ⟨rfl, hb3⟩
              have HB3 : Hid (Below w.heap.size w w3) := HBR.out.trans (hb3.mono HBR.out.size)
              clear hb3
              go_wp2_with fail
              go_ret
              exact ⟨rfl, HB3.out⟩

          · have hE : Value.slice ra rn rc = .slice none 0 0 ∧ err = 22 := by
              rcases hF2.out with ⟨_, h1, h2⟩ | ⟨h, _⟩ | ⟨h, _⟩
              · exact ⟨h1, h2⟩
              · rw [← Hpb.out.1] at h; cases h
              · rw [← Hpb.out.1] at h; cases h
            obtain ⟨hE1, rfl⟩ := hE
            cases hE1
            clear hF2
            go_wp2_with fail
            refine (awake13_any wr HTR.out).mono ?_
            rintro e w3 ⟨rfl, hb3⟩
            have HB3 : Hid (Below w.heap.size w w3) := HBR.out.trans (hb3.mono HBR.out.size)
            clear hb3
            go_wp2_with fail
            go_ret
            exact ⟨rfl, HB3.out⟩

        | succ q =>
          have hin : i < n := by omega
          obtain ⟨g, hgi⟩ : ∃ g, l[i]? = some g := ⟨_, List.getElem?_eq_getElem (by rw [← Hn.out]; exact hin)⟩
          obtain ⟨g1, o1, glv, gzv, rfl, q1, q2, hBd, q3, z0, z1, z2, z3⟩ := gs_at Hr.out Hg.out i g hgi
          obtain ⟨hls6, hlx⟩ := HX.out g (List.mem_of_getElem? hgi)
          obtain ⟨kk, lev, ls, ss⟩ := g
          simp only at z0 z1 hls6 hlx
          have x0 := keepc HB.out q3 z0
          have x1 := keepc HB.out q3 z1
          have x2 := keepc HB.out q3 z2
          have x3 := keepc HB.out q3 z3
          have HBd := Lib.hid hBd
          obtain ⟨vs9, _, hlv, _, hzv⟩ := hBd
          obtain ⟨la, lc, rfl, hlm⟩ := hlv.form
          obtain ⟨za, zc, rfl, hzm⟩ := hzv.form
          simp only at HBd x2 x3
          obtain ⟨ln, hln⟩ : ∃ m, m = ls.length := ⟨_, rfl⟩
          obtain ⟨zn, hzn⟩ : ∃ m, m = ss.length := ⟨_, rfl⟩
          rw [← hln] at x2 HBd hls6
          rw [← hzn] at x3 HBd
          have hlm6 : ls.length ≤ 1000000 := by rw [← hln]; exact hls6
          have HLx := Lib.hid hlx
          have Hln := Lib.hid hln
          have Hgi := Lib.hid hgi
          have HQ := Lib.hid hq
          obtain ⟨q0, hq0⟩ : ∃ q0, q0 = q := ⟨_, rfl⟩
          subst hq0
          have Hpb2 : Hid ((pb || errL 22 fine ls) = errA 22 fine (l.take (i + 1)) ∧ (rb || errL 23 fine ls) = errA 23 fine (l.take (i + 1))) := by
            unfold Hid
            rw [errA_take 22 fine l i _ hgi, errA_take 23 fine l i _ hgi, Hpb.out.1, Hpb.out.2]
            exact ⟨rfl, rfl⟩
          clear z0 z1 z2 z3 hlv hzv hlm hzm hln hzn hlx hgi hq Hpb
          by_cases hnc : i = 0 ∧ kk = 7
          · obtain ⟨rfl, rfl⟩ := hnc
            have hnl : ls = [] := right_coll l HRight.out 0 _ Hgi.out rfl
            have Hpb3 : Hid (pb = errA 22 fine (l.take (0 + 1)) ∧ rb = errA 23 fine (l.take (0 + 1))) := by have := Hpb2.out; rw [hnl] at this; unfold Hid; simpa [errL] using this
            have HN : Hid (accN fine l (0 + 1) = accN fine l 0) := by unfold Hid; rw [accN_succ fine l 0 _ Hgi.out]; unfold next; rw [if_pos ⟨rfl, rfl⟩]
            simp only [Nat.zero_mul, Nat.add_zero] at x0 x1 x2 x3
            clear hnl Hpb2
            go_wp2_with fail
            obtain ⟨WX, hWX⟩ : ∃ WX, wr.alloc (.cells #[.int .i64 7, .int .i64 lev, .slice la ln lc, .slice za zn zc] 33) = WX := ⟨_, rfl⟩
            have hbX : Below wr.heap.size wr WX := hWX ▸ (Below.refl _ wr).alloc (Nat.le_refl _) _
            have HB := Lib.hid (HB.out.trans (hbX.mono HB.out.size))
            have HA := Lib.hid (HA.out.call hbX)
            have hsX : W.heap.size ≤ WX.heap.size := Nat.le_trans hb0x hbX.size
            rw [hWX]
            clear hWX hbX
            go_roundg q0
            case measure => omega
            case rel => exact ⟨1, pb, rb, av, an, ac, by have := HQ.out; omega, rfl, rfl, rfl, by first | rfl | simp, by unfold Hid; rw [show (1 : Nat) = 0 + 1 from rfl, HN.out]; exact HA.out, Hpb3, HB, hsX⟩
          have HNC := Lib.hid hnc
          iterate 39 (first | go_values | go_skip | go_guarded | go_step | go_upon | go_back)
          refine wp_join12 ?_ ?_
          · unfold Hid
            by_cases hi0 : i = 0
            · subst hi0
              have hk7 : (kk == 7) = false := by rw [beq_eq_false_iff_ne]; exact fun h => hnc ⟨rfl, h⟩
              have y0 := (Blk.new wr [.int .i64 kk, .int .i64 lev, .slice la ln lc, .slice za zn zc] 33).cell (j := 0) rfl
              go_wp2_with fail
              all_goals exact ⟨rfl, rfl, _, _, _, _, _, _, _, rfl⟩
            · have hi0' : ((i : Int) == 0) = false := by rw [beq_eq_false_iff_ne]; omega
              go_wp2_with fail
              all_goals exact ⟨rfl, rfl, _, _, _, _, _, _, _, rfl⟩
          intro u66 u67 u68 u69 u70 u71 u72
          simp only [List.setIfInBounds_toArray, List.set_cons_zero, List.set_cons_succ]
          clear hnc x0 x1 x2 x3
          obtain ⟨WA, hWA⟩ : ∃ WA, wr.alloc (.cells #[.int .i64 kk, .int .i64 lev, .slice la ln lc, .slice za zn zc] 33) = WA := ⟨_, rfl⟩
          have hbA : Below wr.heap.size wr WA := hWA ▸ (Below.refl _ wr).alloc (Nat.le_refl _) _
          have HPA : Hid (Blk WA wr.heap.size [.int .i64 kk, .int .i64 lev, .slice la ln lc, .slice za zn zc] 33) := hWA ▸ Blk.new wr _ _
          have HB := Lib.hid (HB.out.trans (hbA.mono hb0x))
          have HA := Lib.hid (HA.out.call hbA)
          have hbA0 : W.heap.size ≤ WA.heap.size := HB.out.size
          rw [hWA]
          obtain ⟨P, hP⟩ : ∃ P, P = wr.heap.size := ⟨_, rfl⟩
          rw [← hP] at HPA ⊢
          have hPb : W.heap.size ≤ P := by omega
          have y1 := HPA.out.cell (j := 1) rfl
          clear hWA hbA hP
          iterate 3 (first | go_values | go_skip | go_guarded | go_step | go_upon | go_back)
          refine wp_join13 (R13 W R fine l i kk lev ls la lc za zn ln zc P) ?_ ?_
          · unfold Hid
            by_cases hlev : lev ≤ 1
            · cases hacc : accN fine l i with
              | none =>
                have hav : Value.slice av an ac = .slice none 0 0 := by have := HA.out; rw [hacc] at this; exact this
                cases hav
                have HN : Hid (accN fine l (i + 1) = some ([], addG fine kk .no ls)) := by unfold Hid; rw [accN_succ fine l i _ Hgi.out, hacc]; unfold next; rw [if_neg HNC.out, if_pos hlev]
                have HZ : Hid (Fe.no.pts.length + (ls.map List.length).sum ≤ 100000000 ∧ Fe.no.lines.length + ls.length ≤ 100000000 ∧ Fe.no.rings.length + ls.length ≤ 100000000) := by
                  have h8 := mu_total l i ⟨kk, lev, ls, ss⟩ Hgi.out
                  have h9 := HTot.out
                  unfold mu13 at h8 h9
                  unfold Hid
                  simp only at h8
                  have e0 : Fe.no.pts.length = 0 ∧ Fe.no.lines.length = 0 ∧ Fe.no.rings.length = 0 := ⟨rfl, rfl, rfl⟩
                  omega
                clear hacc HA
                go_wp2_with (at_builtin; refine wpList_append2 _ rfl _ _ 27 rfl W.heap.size tF (.agg #[.slice none 0 0, .slice none 0 0, .slice none 0 0]) 3 72 Tryz.underlying27 info_fe rfl (by decide) (.slice none 0 0) 0 _ rfl ((World.ownsRow_nil WA W.heap.size tF 3).alloc _) _ _ 1 [.slice none 0 0, .slice none 0 0, .slice none 0 0] rfl (reads_new _ _ _ 1 1 (by decide) (by decide)) rfl ?_ ?_ ?_ ?_ ?_)
                any_goals (first | (unfold maxLen; omega) | omega | (simp; omega) | (simp [Value.oneCell']; done))
                intro v' WX hown4 hgrow hmov
                obtain ⟨WZ, hWZ⟩ : ∃ WZ, WA.alloc (.cells #[.slice none 0 0, .slice none 0 0, .slice none 0 0] tF) = WZ := ⟨_, rfl⟩
                have hbZ : Below WA.heap.size WA WZ := hWZ ▸ (Below.refl _ WA).alloc (Nat.le_refl _) _
                rw [hWZ] at hgrow hmov
                have hszZ := hbZ.size
                have hPz : P < WZ.heap.size := (HPA.out.call hbZ).lt
                have HPG := Lib.hid ((HPA.out.call hbZ).grown hgrow (fun e => by cases e))
                have HB := Lib.hid ((HB.out.trans (hbZ.mono hbA0)).grown hgrow (by omega) (fun j e => by cases e))
                obtain ⟨D, cap, rfl, hout⟩ := Out.first hown4 (R := R) (Nat.lt_of_lt_of_le hRb (Nat.le_trans hbA0 (Nat.le_trans hszZ hgrow.size)))
                have HOut := Lib.hid hout
                obtain ⟨B, hBe⟩ : ∃ B, B = WX.heap.size := ⟨_, rfl⟩
                rw [← hBe] at HOut
                obtain ⟨cd, hcd⟩ : ∃ cd : List Value, cd = [] := ⟨_, rfl⟩
                obtain ⟨d, hd⟩ : ∃ d : List Fe, d = [] := ⟨_, rfl⟩
                obtain ⟨f, hfe⟩ : ∃ f : Fe, f = .no := ⟨_, rfl⟩
                obtain ⟨pv, hpv⟩ : ∃ v : Value, v = .slice none 0 0 := ⟨_, rfl⟩
                rw [← hfe] at HZ
                have HOut : Hid (Out WX W.heap.size B R D cap cd d pv pv pv f [] []) := by rw [hcd, hd, hpv, hfe]; exact HOut.out
                have HN : Hid (accN fine l (i + 1) = some (d, addG fine kk f ls)) := by rw [hd, hfe]; exact HN.out
                clear hout hown4 hgrow hmov hbZ hWZ hcd hfe hpv hBe
                go_wp2_with fail
                unfold R13
                exact ⟨B, D, cap, cd, d, pv, pv, pv, f, [], [], by first | rfl | (rw [hd]; rfl) | (simp [hd]), HOut.out, HN, HZ, HPG.out, HB.out⟩
              | some z =>
                obtain ⟨d0, f0⟩ := z
                have hA2 := HA.out
                rw [hacc] at hA2
                obtain ⟨B0, D0, cap0, cd0, pv0, lv0, rv0, vs0, us0, hav, hout⟩ := hA2
                cases hav
                have HN : Hid (accN fine l (i + 1) = some (d0 ++ [f0], addG fine kk .no ls)) := by unfold Hid; rw [accN_succ fine l i _ Hgi.out, hacc]; unfold next; rw [if_neg HNC.out, if_pos hlev]
                have HZ : Hid (Fe.no.pts.length + (ls.map List.length).sum ≤ 100000000 ∧ Fe.no.lines.length + ls.length ≤ 100000000 ∧ Fe.no.rings.length + ls.length ≤ 100000000) := by
                  have h8 := mu_total l i ⟨kk, lev, ls, ss⟩ Hgi.out
                  have h9 := HTot.out
                  unfold mu13 at h8 h9
                  unfold Hid
                  simp only at h8
                  have e0 : Fe.no.pts.length = 0 ∧ Fe.no.lines.length = 0 ∧ Fe.no.rings.length = 0 := ⟨rfl, rfl, rfl⟩
                  omega
                have hd6 : d0.length + 1 ≤ 1000000 := by have := (acc_sizes fine l i (by rw [← Hn.out]; omega) d0 f0 hacc).1; omega
                have HOld := Lib.hid hout
                have hown := hout.own
                obtain ⟨k0, hk0⟩ : ∃ k0, k0 = d0.length + 1 := ⟨_, rfl⟩
                have HK0 := Lib.hid hk0
                rw [← hk0] at hown hd6 ⊢
                clear hout hk0
                clear hacc HA
                go_wp2_with (at_builtin; refine wpList_append2 _ rfl _ _ 27 rfl W.heap.size tF (.agg #[.slice none 0 0, .slice none 0 0, .slice none 0 0]) 3 72 Tryz.underlying27 info_fe rfl (by decide) (.slice (some ⟨D0, 0, none⟩) k0 ac) k0 _ rfl (hown.alloc _) _ _ 1 [.slice none 0 0, .slice none 0 0, .slice none 0 0] rfl (reads_new _ _ _ 1 1 (by decide) (by decide)) rfl ?_ ?_ ?_ ?_ ?_)
                any_goals (first | (unfold maxLen; omega) | omega | (simp; omega) | (simp [Value.oneCell']; done))
                intro v' WX hown4 hgrow hmov
                obtain ⟨WZ, hWZ⟩ : ∃ WZ, WA.alloc (.cells #[.slice none 0 0, .slice none 0 0, .slice none 0 0] tF) = WZ := ⟨_, rfl⟩
                have hbZ : Below WA.heap.size WA WZ := hWZ ▸ (Below.refl _ WA).alloc (Nat.le_refl _) _
                rw [hWZ] at hgrow hmov
                have hszZ := hbZ.size
                have hPz : P < WZ.heap.size := (HPA.out.call hbZ).lt
                have hbD0 : W.heap.size ≤ D0 := (hown.lt D0 rfl).1
                have HPG := Lib.hid ((HPA.out.call hbZ).grown hgrow ((HPA.out.call hbZ).not_own (own_call hown hbZ) (by decide)))
                have HB := Lib.hid ((HB.out.trans (hbZ.mono hbA0)).grown hgrow (by omega) (fun j e => (by have e9 : D0 = j := (by simpa [Value.ownBlock] using e); omega)))
                have hOZ := HOld.out.call hbZ
                obtain ⟨D, cap, rfl, hout⟩ := Out.begin hOZ (by rw [← HK0.out]; simpa using hown4) (by rw [← HK0.out]; exact hgrow)
                have HOut := Lib.hid hout
                obtain ⟨B, hBe⟩ : ∃ B, B = WX.heap.size := ⟨_, rfl⟩
                rw [← hBe] at HOut
                obtain ⟨cd, hcd⟩ : ∃ cd : List Value, cd = cd0 ++ [pv0, lv0, rv0] := ⟨_, rfl⟩
                obtain ⟨d, hd⟩ : ∃ d : List Fe, d = d0 ++ [f0] := ⟨_, rfl⟩
                obtain ⟨f, hfe⟩ : ∃ f : Fe, f = .no := ⟨_, rfl⟩
                obtain ⟨pv, hpv⟩ : ∃ v : Value, v = .slice none 0 0 := ⟨_, rfl⟩
                rw [← hfe] at HZ
                have HOut : Hid (Out WX W.heap.size B R D cap cd d pv pv pv f [] []) := by rw [hcd, hd, hpv, hfe]; exact HOut.out
                have HN : Hid (accN fine l (i + 1) = some (d, addG fine kk f ls)) := by rw [hd, hfe]; exact HN.out
                clear hout hown4 hown hgrow hmov hbZ hWZ hcd hfe hpv hBe hOZ HOld HK0
                go_wp2_with fail
                unfold R13
                exact ⟨B, D, cap, cd, d, pv, pv, pv, f, [], [], by first | rfl | (rw [hd]; rfl) | (simp [hd]), HOut.out, HN, HZ, HPG.out, HB.out⟩
            · skip
              obtain ⟨z, hacc⟩ := Ft.begun fine l HRight.out i _ Hgi.out hlev HNC.out
              obtain ⟨d, f⟩ := z
              have hA2 := HA.out
              rw [hacc] at hA2
              obtain ⟨B, D, cap, cd, pv, lv, rv, vs, us, hav, hout⟩ := hA2
              cases hav
              have HN : Hid (accN fine l (i + 1) = some (d, addG fine kk f ls)) := by unfold Hid; rw [accN_succ fine l i _ Hgi.out, hacc]; unfold next; rw [if_neg HNC.out, if_neg hlev]; rfl
              have HZ : Hid (f.pts.length + (ls.map List.length).sum ≤ 100000000 ∧ f.lines.length + ls.length ≤ 100000000 ∧ f.rings.length + ls.length ≤ 100000000) := by
                have h8 := mu_total l i ⟨kk, lev, ls, ss⟩ Hgi.out
                have h9 := HTot.out
                unfold mu13 at h8 h9
                unfold Hid
                simp only at h8
                have e0 := acc_sizes fine l i (by rw [← Hn.out]; omega) d f hacc
                unfold mu13 at e0
                omega
              have HOut := Lib.hid hout
              clear hacc HA hout
              go_wp2_with fail
              unfold R13
              exact ⟨B, D, ac, cd, d, pv, lv, rv, f, vs, us, rfl, HOut.out, HN, HZ, HPA.out, HB.out⟩
          intro WX u10 u73 u74 u75 u76 u77 u78 u79 hR
          obtain ⟨B, D, cap, cd, d, pv, lv, rv, f, vs, us, rfl, hOut, HN, HZ, hPG, hBX⟩ := hR
          have HOut := Lib.hid hOut
          have HPG := Lib.hid hPG
          have HB := Lib.hid hBX
          clear hOut hPG hBX HPA HA hbA0 y1
          simp only [List.setIfInBounds_toArray, List.set_cons_zero, List.set_cons_succ]
          obtain ⟨cb, hbk, hcl, hct, hbD, hkc, hcm⟩ := own_blk HOut.out.own
          have HBk := Lib.hid hbk
          have HCl := Lib.hid hcl
          have HCt := Lib.hid hct
          have HKC := Lib.hid hkc
          have HKM := Lib.hid hcm
          have HbD := Lib.hid hbD
          have hDB : D < B := HOut.out.hD
          have hBX : B ≤ WX.heap.size := HOut.out.hB
          have hPD : P ≠ D := fun e => by
            have h8 := HPG.out
            rw [e] at h8
            unfold Blk at h8 hbk
            rw [hbk] at h8
            cases h8
          have hPX : P < WX.heap.size := HPG.out.lt
          obtain ⟨k, hk⟩ : ∃ k, k = d.length := ⟨_, rfl⟩
          have HK := Lib.hid hk
          have hkc' : k + 1 ≤ cap := by rw [hk]; exact hkc
          have hcm' : cap ≤ 9223372036854775807 := by unfold maxLen at hcm; omega
          have hC0 := take_at hct HOut.out.len
          rw [← hk] at hC0 ⊢
          have Hcs : k * 3 + 2 < cb.length := (List.getElem?_eq_some_iff.1 hC0.2.2).1
          have HD0 : Hid (Blk WX D (((cb.set (k * 3) pv).set (k * 3 + 1) lv).set (k * 3 + 2) rv) tF) := by unfold Hid; rw [set3_same hC0.1 hC0.2.1 hC0.2.2]; exact hbk
          have hk1 : ((k + 1 : Nat) : Int) - 1 = (k : Int) := by omega
          have hk2 : (k : Int) + 1 - 1 = (k : Int) := by omega
          have hk3 : ((k : Int) + 1 == 0) = false := by rw [beq_eq_false_iff_ne]; omega
          have hwk : IntKind.i64.wrap (k : Int) = (k : Int) := by rw [IntKind.wrap_i64]; omega
          have hkk : k < k + 1 := by omega
          have hkk2 : (k : Int) < (k : Int) + 1 := by omega
          have y2 := HPG.out.cell (j := 2) rfl
          clear hbk hcl hct hk hbD hkc hcm hC0
          go_wp2_with fail
          clear y2 hkk hkk2 hwk hk1 hk2 hk3
          go_loopg [11, 12, 91] ln (fun q s11 s12 s91 wx => ∃ (j : Nat) (pv lv rv : Value) (vs us : List Value) (p2 r2 : Bool), j + q = ln ∧ s11 = .bool p2 ∧ s12 = .bool r2 ∧ s91 = .int .i64 (j : Int) ∧ Hid (Last wx B pv lv rv (addG fine kk f (ls.take j)) vs us) ∧ Hid (Blk wx D (((cb.set (k * 3) pv).set (k * 3 + 1) lv).set (k * 3 + 2) rv) tF) ∧ Hid (p2 = (pb || errL 22 fine (ls.take j)) ∧ r2 = (rb || errL 23 fine (ls.take j))) ∧ Hid (Blk wx P [.int .i64 kk, .int .i64 lev, .slice la ln lc, .slice za zn zc] 33) ∧ Hid (KeepB B WX wx) ∧ Hid (Below W.heap.size W wx) ∧ P < wx.heap.size ∧ B ≤ wx.heap.size)
          case atStart => exact ⟨0, pv, lv, rv, vs, us, pb, rb, by omega, rfl, rfl, by first | rfl | simp, by exact HOut.out.last, HD0, by unfold Hid; simp [errL], HPG, KeepB.refl _ _, HB, hPX, hBX⟩
          case round =>
            clear HD0 HPG HB hPX hBX
            obtain ⟨j, pv, lv, rv, vs, us, p2, r2, hq, rfl, rfl, rfl, HL, HD, Hp2, HPG, HKB, HB, hPx, hBx⟩ := hrel
            have y2 := HPG.out.cell (j := 2) rfl
            cases gk with
            | zero =>
              have hjn : j = ln := by omega
              subst hjn
              have hfull : ls.take j = ls := by rw [Hln.out, List.take_length]
              rw [hfull] at HL Hp2
              have HO7 : Hid (Out wr W.heap.size B R D cap cd d pv lv rv (addG fine kk f ls) vs us) := by
                have h9 := own_of_blk (n := d.length + 1) HD.out (by simpa using HCl.out) HbD.out HKC.out HKM.out
                rw [← HK.out] at h9
                rw [set3_take (by rw [HK.out]; exact HCt.out) (by rw [HK.out]; exact HOut.out.len) (by rw [HCl.out]; exact Nat.mul_le_mul_right _ hkc')] at h9
                exact ⟨by rw [← HK.out]; exact h9, HOut.out.len, HOut.out.done.keep HKB.out, HL.out, HOut.out.hD, HOut.out.hR, hBx⟩
              have HA7 : Hid (Acc13 wr W.heap.size R (.slice (some ⟨D, 0, none⟩) (k + 1) cap) (accN fine l (i + 1))) := by
                unfold Hid
                rw [HN.out, HK.out]
                exact ⟨B, D, cap, cd, pv, lv, rv, vs, us, rfl, HO7.out⟩
              have hs7 : W.heap.size ≤ wr.heap.size := HB.out.size
              have Hpb3 : Hid (p2 = errA 22 fine (l.take (i + 1)) ∧ r2 = errA 23 fine (l.take (i + 1))) := ⟨Hp2.out.1.trans Hpb2.out.1, Hp2.out.2.trans Hpb2.out.2⟩
              clear y2 HO7 HOut HBk HCl HCt HPG HK HZ HN hfull HL Hp2 HD HKB
              go_wp2_with fail
              go_roundg q0
              case measure => omega
              case rel => exact ⟨i + 1, _, _, _, _, _, by have := HQ.out; omega, rfl, rfl, rfl, by first | rfl | simp, HA7, Hpb3, HB, hs7⟩
            | succ q =>
              have hjn : j < ln := by omega
              obtain ⟨m, hm⟩ : ∃ m, ls[j]? = some m := ⟨_, List.getElem?_eq_getElem (by rw [← Hln.out]; exact hjn)⟩
              obtain ⟨vs9, _, hlv, hvs9, _⟩ := HBd.out
              obtain ⟨u, hu, hur⟩ := hvs9 j m hm
              have hur2 : RdC wr u m.length (flatP m) := hur.call HB.out
              obtain ⟨a', c', e', _, ho'⟩ := hlv
              injection e' with e1 e2 e3
              subst e1 e3
              clear e2
              obtain ⟨g1, o1, rfl, h1, h2, h3, h4⟩ := ho' (fun e => by rw [e] at hu; simp at hu)
              have h1 : ln ≤ lc := by rw [Hln.out]; exact h1
              have y1 : wr.cell? ⟨g1, o1 + j, none⟩ = some u := keepc HB.out h3 (h4 _ _ hu)
              obtain ⟨hm6, hmx⟩ := HLx.out m (List.mem_of_getElem? hm)
              have Hsum : Hid ((addG fine kk f (ls.take j)).pts.length + m.length ≤ 100000000 ∧ (addG fine kk f (ls.take j)).lines.length ≤ f.lines.length + j ∧ (addG fine kk f (ls.take j)).rings.length ≤ f.rings.length + j) := add_sizes fine kk f ls j m hm HZ.out.1
              have Hst : Hid (addG fine kk f (ls.take (j + 1)) = Ft.addL kk (addG fine kk f (ls.take j)) (scl fine m)) := addG_take fine kk f ls j m hm
              have Hp3 : Hid ((p2 || errs 22 fine m) = (pb || errL 22 fine (ls.take (j + 1))) ∧ (r2 || errs 23 fine m) = (rb || errL 23 fine (ls.take (j + 1)))) := by
                unfold Hid
                rw [errL_take 22 fine ls j m hm, errL_take 23 fine ls j m hm, Hp2.out.1, Hp2.out.2]
                constructor <;> simp only [or3]
              have HPT := Lib.hid (points13_any u m fine wr hur2 (HTW.out.below HB.out (Nat.le_refl _)) hm6 hmx hf1 hf2)
              have HQ2 := Lib.hid hq
              have hzf : f.lines.length ≤ 100000000 ∧ f.rings.length ≤ 100000000 := by have := HZ.out; omega
              have hj8 : j ≤ 1000000 := by omega
              unfold maxLen at h2
              clear h4 hu hur hur2 ho' hm Hp2 hq hmx hvs9
              go_wp2_with fail
              refine HPT.out.mono ?_
              rintro e w1 ⟨u1, rfl, ho1, hb1⟩
              obtain ⟨b1, k1, rfl⟩ := own_form ho1
              have hpB : ∀ g, pv.ownBlock = some g → g < wr.heap.size := fun g e => (HL.out.op.lt g e).2
              have HL1 := Lib.hid (HL.out.call hb1)
              have HD1 := Lib.hid (HD.out.call hb1)
              have HG1 := Lib.hid (HPG.out.call hb1)
              have HK1 := Lib.hid (HKB.out.trans (KeepB.call hb1 |>.mono hBx))
              have HB1' := Lib.hid (HB.out.trans (hb1.mono HB.out.size))
              have HO1 := Lib.hid ho1
              have Hne : Hid (∀ g, (Value.slice b1 m.length k1).ownBlock = some g → pv.ownBlock ≠ some g) := fun g e e2 => by
                have := (ho1.lt g e).1
                have := hpB g e2
                omega
              have hg1x : P < w1.heap.size := HG1.out.lt
              have hBw : B ≤ w1.heap.size := Nat.le_trans hBx hb1.size
              have hDW : W.heap.size ≤ D := HbD.out
              have q0' := HG1.out.cell (j := 0) rfl
              have hDx := HD1.out.lt
              have df := HD1.out.frozen
              obtain ⟨d0, d1, d2⟩ := set3_at (cs := cb) Hcs pv lv rv
              have c0 := HD1.out.cell d0
              have c1 := HD1.out.cell d1
              have c2 := HD1.out.cell d2
              clear ho1 hb1 hpB HL HD HPG HKB HB HPT y2 y1 d0 d1 d2
              dsimp only
              repeat (fail_if_success (with_reducible refine wp_join22 (errs 22 fine m) (errs 23 fine m) p2 r2 ?_ ?_)); first | go_values | go_skip | go_step | go_upon | go_back
              refine wp_join22 (errs 22 fine m) (errs 23 fine m) p2 r2 ?_ ?_
              · unfold Hid
                cases p2 <;> cases r2
                all_goals go_wp2_with fail
                all_goals exact ⟨rfl, rfl, _, _, _, _, _, _, _, _, rfl⟩
              intro u102 u103 u104 u105 u106 u107 u108 u109
              simp only [List.setIfInBounds_toArray, List.set_cons_zero, List.set_cons_succ]
              by_cases h0 : m.length = 0
              · have hl0 : m = [] := List.eq_nil_of_length_eq_zero h0
                have Hst2 : Hid (addG fine kk f (ls.take (j + 1)) = addG fine kk f (ls.take j)) := by unfold Hid; rw [Hst.out, hl0]; unfold Ft.addL scl; simp
                rw [h0]
                clear hl0 c0 c1 c2
                go_wp2_with fail
                go_roundg q
                case measure => omega
                case rel => exact ⟨j + 1, pv, lv, rv, vs, us, _, _, by have := HQ2.out; omega, rfl, rfl, by first | rfl | simp, by unfold Hid; rw [Hst2.out]; exact HL1.out, HD1, Hp3, HG1, HK1, HB1', hg1x, hBw⟩
              · have hne0 : ((m.length : Int) == 0) = false := by rw [beq_eq_false_iff_ne]; omega
                have hnl : scl fine m ≠ [] := fun e => h0 (by have := congrArg List.length e; rw [scl_len] at this; exact this)
                obtain ⟨mn, hmn⟩ : ∃ x, x = m.length := ⟨_, rfl⟩
                rw [← hmn] at hne0 HO1 hm6 Hne ⊢
                have Hm := Lib.hid hmn
                have Hnl := Lib.hid hnl
                clear h0 hmn hnl
                by_cases hk1 : kk = 1 ∨ kk = 4
                · have hst : Ft.addL kk (addG fine kk f (ls.take j)) (scl fine m) = { addG fine kk f (ls.take j) with pts := (addG fine kk f (ls.take j)).pts ++ scl fine m } := by unfold Ft.addL; rw [if_neg Hnl.out, if_pos hk1]
                  have Hst2 : Hid (addG fine kk f (ls.take (j + 1)) = _) := Hst.out.trans hst
                  obtain ⟨F, hF⟩ : ∃ F, F = addG fine kk f (ls.take j) := ⟨_, rfl⟩
                  rw [← hF] at HL1 Hst2 Hsum
                  obtain ⟨kl, hkl⟩ : ∃ x, x = F.pts.length := ⟨_, rfl⟩
                  have hown := HL1.out.op
                  rw [← hkl] at hown
                  obtain ⟨pa, pc, rfl⟩ := own_form hown
                  have hk8 : kl + mn ≤ 100000000 := by have := Hsum.out.1; rw [← hkl, ← Hm.out] at this; exact this
                  have Hk := Lib.hid hkl
                  have hrd : Reads w1 w1.heap.size (.slice b1 mn k1) mn (flat (scl fine m)) := Reads.of_own HO1.out
                  have hnf : (flat (scl fine m)).length = mn * 2 := by rw [flat_len, scl_len, ← Hm.out]
                  clear hst hF hkl Hst
                  rcases hk1 with hk1 | hk1
                  · have n1 : (kk == 1) = true := by rw [hk1]; rfl
                    clear hk1
                    go_wp2_with (at_builtin; refine wpList_append2 _ rfl _ _ tL rfl B tP (.agg #[.int .i64 0, .int .i64 0]) 2 16 Tryz.underlying34 info_point rfl (by decide) (.slice pa kl pc) kl _ rfl hown _ w1.heap.size mn (flat (scl fine m)) rfl hrd hnf (flat_one _) ?_ ?_ ?_ ?_)
                    any_goals (first | (unfold maxLen; omega) | omega | exact hBw)
                    intro v' w2 hown2 hgrow hmov
                    have HL2 := Lib.hid (HL1.out.addP (l := scl fine m) (by rw [← Hk.out, scl_len, ← Hm.out]; exact hown2) hgrow hmov)
                    have hrow : ∀ g, (Value.slice pa kl pc).ownBlock = some g → B ≤ g := fun g e => (hown.lt g e).1
                    have HD2 := Lib.hid (HD1.out.grown hgrow (fun e => by have := hrow _ e.symm; omega))
                    have HG2 := Lib.hid (HG1.out.grown hgrow (HG1.out.not_own hown (by decide)))
                    have HK2 := Lib.hid (HK1.out.trans (KeepB.grown hgrow hrow))
                    have HB2' := Lib.hid (HB1'.out.grown hgrow (by omega) (fun g e => by have := hrow g e; omega))
                    obtain ⟨pa2, pc2, rfl⟩ := own_form hown2
                    have HD3 : Hid (Blk (w2.setCell ⟨D, k * 3, none⟩ (.slice pa2 (kl + mn) pc2)) D (((cb.set (k * 3) (.slice pa2 (kl + mn) pc2)).set (k * 3 + 1) lv).set (k * 3 + 2) rv) tF) := by unfold Hid; rw [← set3_0 (.slice pa kl pc) lv rv (.slice pa2 (kl + mn) pc2)]; exact HD2.out.set (k * 3) (.slice pa2 (kl + mn) pc2)
                    have HL3 := Lib.hid (HL2.out.keep (KeepT.set (T' := tF) ⟨D, k * 3, none⟩ HD2.out (by decide) (.slice pa2 (kl + mn) pc2)) (KeepT.set (T' := tF) ⟨D, k * 3, none⟩ HD2.out (by decide) (.slice pa2 (kl + mn) pc2)))
                    have HG3 := Lib.hid (HG2.out.other ⟨D, k * 3, none⟩ (by show P ≠ D; omega) (.slice pa2 (kl + mn) pc2))
                    have HK3 := Lib.hid (HK2.out.trans (KeepB.set (o := k * 3) HD2.out (.slice pa2 (kl + mn) pc2)))
                    have HB3 := Lib.hid (HB2'.out.setCell (p := ⟨D, k * 3, none⟩) hDW (.slice pa2 (kl + mn) pc2))
                    have hg3 : P < (w2.setCell ⟨D, k * 3, none⟩ (.slice pa2 (kl + mn) pc2)).heap.size := HG3.out.lt
                    have hB3 : B ≤ (w2.setCell ⟨D, k * 3, none⟩ (.slice pa2 (kl + mn) pc2)).heap.size := by have := hgrow.size; simp [World.setCell]; omega
                    have c0 := HD2.out.cell (set3_at (cs := cb) Hcs (.slice pa kl pc) lv rv).1
                    have c1 := HD2.out.cell (set3_at (cs := cb) Hcs (.slice pa kl pc) lv rv).2.1
                    have c2 := HD2.out.cell (set3_at (cs := cb) Hcs (.slice pa kl pc) lv rv).2.2
                    have df := HD2.out.frozen
                    clear hown hown2 hgrow hmov hrow HL1 HD1 HG1 HK1 HB1' HL2 HG2 HK2 HB2' HD2 HO1
                    go_wp2_with fail
                    go_roundg q
                    case measure => omega
                    case rel => exact ⟨j + 1, _, lv, rv, vs, us, _, _, by have := HQ2.out; omega, rfl, rfl, by first | rfl | simp, by unfold Hid; rw [Hst2.out]; exact HL3.out, HD3, Hp3, HG3, HK3, HB3, hg3, hB3⟩
                  · have n1 : (kk == 1) = false := by rw [hk1]; rfl
                    have n4 : (kk == 4) = true := by rw [hk1]; rfl
                    clear hk1
                    go_wp2_with (at_builtin; refine wpList_append2 _ rfl _ _ tL rfl B tP (.agg #[.int .i64 0, .int .i64 0]) 2 16 Tryz.underlying34 info_point rfl (by decide) (.slice pa kl pc) kl _ rfl hown _ w1.heap.size mn (flat (scl fine m)) rfl hrd hnf (flat_one _) ?_ ?_ ?_ ?_)
                    any_goals (first | (unfold maxLen; omega) | omega | exact hBw)
                    intro v' w2 hown2 hgrow hmov
                    have HL2 := Lib.hid (HL1.out.addP (l := scl fine m) (by rw [← Hk.out, scl_len, ← Hm.out]; exact hown2) hgrow hmov)
                    have hrow : ∀ g, (Value.slice pa kl pc).ownBlock = some g → B ≤ g := fun g e => (hown.lt g e).1
                    have HD2 := Lib.hid (HD1.out.grown hgrow (fun e => by have := hrow _ e.symm; omega))
                    have HG2 := Lib.hid (HG1.out.grown hgrow (HG1.out.not_own hown (by decide)))
                    have HK2 := Lib.hid (HK1.out.trans (KeepB.grown hgrow hrow))
                    have HB2' := Lib.hid (HB1'.out.grown hgrow (by omega) (fun g e => by have := hrow g e; omega))
                    obtain ⟨pa2, pc2, rfl⟩ := own_form hown2
                    have HD3 : Hid (Blk (w2.setCell ⟨D, k * 3, none⟩ (.slice pa2 (kl + mn) pc2)) D (((cb.set (k * 3) (.slice pa2 (kl + mn) pc2)).set (k * 3 + 1) lv).set (k * 3 + 2) rv) tF) := by unfold Hid; rw [← set3_0 (.slice pa kl pc) lv rv (.slice pa2 (kl + mn) pc2)]; exact HD2.out.set (k * 3) (.slice pa2 (kl + mn) pc2)
                    have HL3 := Lib.hid (HL2.out.keep (KeepT.set (T' := tF) ⟨D, k * 3, none⟩ HD2.out (by decide) (.slice pa2 (kl + mn) pc2)) (KeepT.set (T' := tF) ⟨D, k * 3, none⟩ HD2.out (by decide) (.slice pa2 (kl + mn) pc2)))
                    have HG3 := Lib.hid (HG2.out.other ⟨D, k * 3, none⟩ (by show P ≠ D; omega) (.slice pa2 (kl + mn) pc2))
                    have HK3 := Lib.hid (HK2.out.trans (KeepB.set (o := k * 3) HD2.out (.slice pa2 (kl + mn) pc2)))
                    have HB3 := Lib.hid (HB2'.out.setCell (p := ⟨D, k * 3, none⟩) hDW (.slice pa2 (kl + mn) pc2))
                    have hg3 : P < (w2.setCell ⟨D, k * 3, none⟩ (.slice pa2 (kl + mn) pc2)).heap.size := HG3.out.lt
                    have hB3 : B ≤ (w2.setCell ⟨D, k * 3, none⟩ (.slice pa2 (kl + mn) pc2)).heap.size := by have := hgrow.size; simp [World.setCell]; omega
                    have c0 := HD2.out.cell (set3_at (cs := cb) Hcs (.slice pa kl pc) lv rv).1
                    have c1 := HD2.out.cell (set3_at (cs := cb) Hcs (.slice pa kl pc) lv rv).2.1
                    have c2 := HD2.out.cell (set3_at (cs := cb) Hcs (.slice pa kl pc) lv rv).2.2
                    have df := HD2.out.frozen
                    clear hown hown2 hgrow hmov hrow HL1 HD1 HG1 HK1 HB1' HL2 HG2 HK2 HB2' HD2 HO1
                    go_wp2_with fail
                    go_roundg q
                    case measure => omega
                    case rel => exact ⟨j + 1, _, lv, rv, vs, us, _, _, by have := HQ2.out; omega, rfl, rfl, by first | rfl | simp, by unfold Hid; rw [Hst2.out]; exact HL3.out, HD3, Hp3, HG3, HK3, HB3, hg3, hB3⟩
                · have n1 : (kk == 1) = false := by rw [beq_eq_false_iff_ne]; omega
                  have n4 : (kk == 4) = false := by rw [beq_eq_false_iff_ne]; omega
                  by_cases hk2 : kk = 2 ∨ kk = 5
                  · have hst : Ft.addL kk (addG fine kk f (ls.take j)) (scl fine m) = { addG fine kk f (ls.take j) with lines := (addG fine kk f (ls.take j)).lines ++ [scl fine m] } := by unfold Ft.addL; rw [if_neg Hnl.out, if_neg hk1, if_pos hk2]
                    have Hst2 : Hid (addG fine kk f (ls.take (j + 1)) = _) := Hst.out.trans hst
                    obtain ⟨F, hF⟩ : ∃ F, F = addG fine kk f (ls.take j) := ⟨_, rfl⟩
                    rw [← hF] at HL1 Hst2 Hsum
                    obtain ⟨kl, hkl⟩ : ∃ x, x = F.lines.length := ⟨_, rfl⟩
                    have hown := HL1.out.ol
                    rw [← hkl] at hown
                    obtain ⟨pa, pc, rfl⟩ := own_form hown
                    have hk8 : kl ≤ 110000000 := by have := Hsum.out.2.1; rw [← hkl] at this; omega
                    have Hk := Lib.hid hkl
                    clear hst hF hkl Hst hk1
                    rcases hk2 with hk2 | hk2
                    · have n2 : (kk == 2) = true := by rw [hk2]; rfl
                      clear hk2
                      go_wp2_with (at_builtin; refine wpList_append2 _ rfl _ _ 35 rfl B tL (.slice none 0 0) 1 24 Tryz.underlying35 info_pts rfl (by decide) (.slice pa kl pc) kl _ rfl (hown.alloc _) _ _ 1 [.slice b1 mn k1] rfl (reads_new _ _ _ 1 1 (by decide) (by decide)) rfl ?_ ?_ ?_ ?_ ?_)
                      any_goals (first | (simp [Value.oneCell']; done) | (unfold maxLen; omega) | omega | (simp; omega))
                      intro v' w2 hown2 hgrow hmov
                      obtain ⟨wa, hwa⟩ : ∃ wa, w1.alloc (.cells #[.slice b1 mn k1] tL) = wa := ⟨_, rfl⟩
                      have hba : Below w1.heap.size w1 wa := hwa ▸ (Below.refl _ w1).alloc (Nat.le_refl _) _
                      rw [hwa] at hgrow hmov
                      have hown := own_call hown hba
                      have HL1 := Lib.hid (HL1.out.call hba)
                      have HD1 := Lib.hid (HD1.out.call hba)
                      have HG1 := Lib.hid (HG1.out.call hba)
                      have HK1 := Lib.hid (HK1.out.trans ((KeepB.call hba).mono hBw))
                      have HB1' := Lib.hid (HB1'.out.trans (hba.mono HB1'.out.size))
                      have hu := RdT.of_own (own_call HO1.out hba)
                      have hBx : B ≤ wa.heap.size := Nat.le_trans hBw hba.size
                      have hs1 : W.heap.size ≤ wa.heap.size := HB1'.out.size
                      clear hwa hba
                      have HL2 := Lib.hid (HL1.out.addL (l := scl fine m) (u := .slice b1 mn k1) (by rw [scl_len, ← Hm.out]; exact hu) Hne.out (by rw [← Hk.out]; exact hown2) hgrow hmov)
                      clear hu
                      have hrow : ∀ g, (Value.slice pa kl pc).ownBlock = some g → B ≤ g := fun g e => (hown.lt g e).1
                      have HD2 := Lib.hid (HD1.out.grown hgrow (fun e => by have := hrow _ e.symm; omega))
                      have HG2 := Lib.hid (HG1.out.grown hgrow (HG1.out.not_own hown (by decide)))
                      have HK2 := Lib.hid (HK1.out.trans (KeepB.grown hgrow hrow))
                      have HB2' := Lib.hid (HB1'.out.grown hgrow (by omega) (fun g e => by have := hrow g e; omega))
                      obtain ⟨pa2, pc2, rfl⟩ := own_form hown2
                      have HD3 : Hid (Blk (w2.setCell ⟨D, k * 3 + 1, none⟩ (.slice pa2 (kl + 1) pc2)) D (((cb.set (k * 3) pv).set (k * 3 + 1) (.slice pa2 (kl + 1) pc2)).set (k * 3 + 2) rv) tF) := by unfold Hid; rw [← set3_1 pv (.slice pa kl pc) rv (.slice pa2 (kl + 1) pc2)]; exact HD2.out.set (k * 3 + 1) (.slice pa2 (kl + 1) pc2)
                      have HL3 := Lib.hid (HL2.out.keep (KeepT.set (T' := tF) ⟨D, k * 3 + 1, none⟩ HD2.out (by decide) (.slice pa2 (kl + 1) pc2)) (KeepT.set (T' := tF) ⟨D, k * 3 + 1, none⟩ HD2.out (by decide) (.slice pa2 (kl + 1) pc2)))
                      have HG3 := Lib.hid (HG2.out.other ⟨D, k * 3 + 1, none⟩ (by show P ≠ D; omega) (.slice pa2 (kl + 1) pc2))
                      have HK3 := Lib.hid (HK2.out.trans (KeepB.set (o := k * 3 + 1) HD2.out (.slice pa2 (kl + 1) pc2)))
                      have HB3 := Lib.hid (HB2'.out.setCell (p := ⟨D, k * 3 + 1, none⟩) hDW (.slice pa2 (kl + 1) pc2))
                      have hg3 : P < (w2.setCell ⟨D, k * 3 + 1, none⟩ (.slice pa2 (kl + 1) pc2)).heap.size := HG3.out.lt
                      have hB3 : B ≤ (w2.setCell ⟨D, k * 3 + 1, none⟩ (.slice pa2 (kl + 1) pc2)).heap.size := by have := hgrow.size; simp [World.setCell]; omega
                      have c0 := HD2.out.cell (set3_at (cs := cb) Hcs pv (.slice pa kl pc) rv).1
                      have c1 := HD2.out.cell (set3_at (cs := cb) Hcs pv (.slice pa kl pc) rv).2.1
                      have c2 := HD2.out.cell (set3_at (cs := cb) Hcs pv (.slice pa kl pc) rv).2.2
                      have df := HD2.out.frozen
                      clear hown hown2 hgrow hmov hrow HL1 HD1 HG1 HK1 HB1' HL2 HG2 HK2 HB2' HD2 HO1
                      go_wp2_with fail
                      go_roundg q
                      case measure => omega
                      case rel => exact ⟨j + 1, pv, _, rv, _, us, _, _, by have := HQ2.out; omega, rfl, rfl, by first | rfl | simp, by unfold Hid; rw [Hst2.out]; exact HL3.out, HD3, Hp3, HG3, HK3, HB3, hg3, hB3⟩
                    · have n2 : (kk == 2) = false := by rw [hk2]; rfl
                      have n5 : (kk == 5) = true := by rw [hk2]; rfl
                      clear hk2
                      go_wp2_with (at_builtin; refine wpList_append2 _ rfl _ _ 35 rfl B tL (.slice none 0 0) 1 24 Tryz.underlying35 info_pts rfl (by decide) (.slice pa kl pc) kl _ rfl (hown.alloc _) _ _ 1 [.slice b1 mn k1] rfl (reads_new _ _ _ 1 1 (by decide) (by decide)) rfl ?_ ?_ ?_ ?_ ?_)
                      any_goals (first | (simp [Value.oneCell']; done) | (unfold maxLen; omega) | omega | (simp; omega))
                      intro v' w2 hown2 hgrow hmov
                      obtain ⟨wa, hwa⟩ : ∃ wa, w1.alloc (.cells #[.slice b1 mn k1] tL) = wa := ⟨_, rfl⟩
                      have hba : Below w1.heap.size w1 wa := hwa ▸ (Below.refl _ w1).alloc (Nat.le_refl _) _
                      rw [hwa] at hgrow hmov
                      have hown := own_call hown hba
                      have HL1 := Lib.hid (HL1.out.call hba)
                      have HD1 := Lib.hid (HD1.out.call hba)
                      have HG1 := Lib.hid (HG1.out.call hba)
                      have HK1 := Lib.hid (HK1.out.trans ((KeepB.call hba).mono hBw))
                      have HB1' := Lib.hid (HB1'.out.trans (hba.mono HB1'.out.size))
                      have hu := RdT.of_own (own_call HO1.out hba)
                      have hBx : B ≤ wa.heap.size := Nat.le_trans hBw hba.size
                      have hs1 : W.heap.size ≤ wa.heap.size := HB1'.out.size
                      clear hwa hba
                      have HL2 := Lib.hid (HL1.out.addL (l := scl fine m) (u := .slice b1 mn k1) (by rw [scl_len, ← Hm.out]; exact hu) Hne.out (by rw [← Hk.out]; exact hown2) hgrow hmov)
                      clear hu
                      have hrow : ∀ g, (Value.slice pa kl pc).ownBlock = some g → B ≤ g := fun g e => (hown.lt g e).1
                      have HD2 := Lib.hid (HD1.out.grown hgrow (fun e => by have := hrow _ e.symm; omega))
                      have HG2 := Lib.hid (HG1.out.grown hgrow (HG1.out.not_own hown (by decide)))
                      have HK2 := Lib.hid (HK1.out.trans (KeepB.grown hgrow hrow))
                      have HB2' := Lib.hid (HB1'.out.grown hgrow (by omega) (fun g e => by have := hrow g e; omega))
                      obtain ⟨pa2, pc2, rfl⟩ := own_form hown2
                      have HD3 : Hid (Blk (w2.setCell ⟨D, k * 3 + 1, none⟩ (.slice pa2 (kl + 1) pc2)) D (((cb.set (k * 3) pv).set (k * 3 + 1) (.slice pa2 (kl + 1) pc2)).set (k * 3 + 2) rv) tF) := by unfold Hid; rw [← set3_1 pv (.slice pa kl pc) rv (.slice pa2 (kl + 1) pc2)]; exact HD2.out.set (k * 3 + 1) (.slice pa2 (kl + 1) pc2)
                      have HL3 := Lib.hid (HL2.out.keep (KeepT.set (T' := tF) ⟨D, k * 3 + 1, none⟩ HD2.out (by decide) (.slice pa2 (kl + 1) pc2)) (KeepT.set (T' := tF) ⟨D, k * 3 + 1, none⟩ HD2.out (by decide) (.slice pa2 (kl + 1) pc2)))
                      have HG3 := Lib.hid (HG2.out.other ⟨D, k * 3 + 1, none⟩ (by show P ≠ D; omega) (.slice pa2 (kl + 1) pc2))
                      have HK3 := Lib.hid (HK2.out.trans (KeepB.set (o := k * 3 + 1) HD2.out (.slice pa2 (kl + 1) pc2)))
                      have HB3 := Lib.hid (HB2'.out.setCell (p := ⟨D, k * 3 + 1, none⟩) hDW (.slice pa2 (kl + 1) pc2))
                      have hg3 : P < (w2.setCell ⟨D, k * 3 + 1, none⟩ (.slice pa2 (kl + 1) pc2)).heap.size := HG3.out.lt
                      have hB3 : B ≤ (w2.setCell ⟨D, k * 3 + 1, none⟩ (.slice pa2 (kl + 1) pc2)).heap.size := by have := hgrow.size; simp [World.setCell]; omega
                      have c0 := HD2.out.cell (set3_at (cs := cb) Hcs pv (.slice pa kl pc) rv).1
                      have c1 := HD2.out.cell (set3_at (cs := cb) Hcs pv (.slice pa kl pc) rv).2.1
                      have c2 := HD2.out.cell (set3_at (cs := cb) Hcs pv (.slice pa kl pc) rv).2.2
                      have df := HD2.out.frozen
                      clear hown hown2 hgrow hmov hrow HL1 HD1 HG1 HK1 HB1' HL2 HG2 HK2 HB2' HD2 HO1
                      go_wp2_with fail
                      go_roundg q
                      case measure => omega
                      case rel => exact ⟨j + 1, pv, _, rv, _, us, _, _, by have := HQ2.out; omega, rfl, rfl, by first | rfl | simp, by unfold Hid; rw [Hst2.out]; exact HL3.out, HD3, Hp3, HG3, HK3, HB3, hg3, hB3⟩
                  · have n2 : (kk == 2) = false := by rw [beq_eq_false_iff_ne]; omega
                    have n5 : (kk == 5) = false := by rw [beq_eq_false_iff_ne]; omega
                    have hst : Ft.addL kk (addG fine kk f (ls.take j)) (scl fine m) = { addG fine kk f (ls.take j) with rings := (addG fine kk f (ls.take j)).rings ++ [scl fine m] } := by unfold Ft.addL; rw [if_neg Hnl.out, if_neg hk1, if_neg hk2]
                    have Hst2 : Hid (addG fine kk f (ls.take (j + 1)) = _) := Hst.out.trans hst
                    obtain ⟨F, hF⟩ : ∃ F, F = addG fine kk f (ls.take j) := ⟨_, rfl⟩
                    rw [← hF] at HL1 Hst2 Hsum
                    obtain ⟨kl, hkl⟩ : ∃ x, x = F.rings.length := ⟨_, rfl⟩
                    have hown := HL1.out.or
                    rw [← hkl] at hown
                    obtain ⟨pa, pc, rfl⟩ := own_form hown
                    have hk8 : kl ≤ 110000000 := by have := Hsum.out.2.2; rw [← hkl] at this; omega
                    have Hk := Lib.hid hkl
                    clear hst hF hkl Hst hk1 hk2
                    go_wp2_with (at_builtin; refine wpList_append2 _ rfl _ _ 35 rfl B tL (.slice none 0 0) 1 24 Tryz.underlying35 info_pts rfl (by decide) (.slice pa kl pc) kl _ rfl (hown.alloc _) _ _ 1 [.slice b1 mn k1] rfl (reads_new _ _ _ 1 1 (by decide) (by decide)) rfl ?_ ?_ ?_ ?_ ?_)
                    any_goals (first | (simp [Value.oneCell']; done) | (unfold maxLen; omega) | omega | (simp; omega))
                    intro v' w2 hown2 hgrow hmov
                    obtain ⟨wa, hwa⟩ : ∃ wa, w1.alloc (.cells #[.slice b1 mn k1] tL) = wa := ⟨_, rfl⟩
                    have hba : Below w1.heap.size w1 wa := hwa ▸ (Below.refl _ w1).alloc (Nat.le_refl _) _
                    rw [hwa] at hgrow hmov
                    have hown := own_call hown hba
                    have HL1 := Lib.hid (HL1.out.call hba)
                    have HD1 := Lib.hid (HD1.out.call hba)
                    have HG1 := Lib.hid (HG1.out.call hba)
                    have HK1 := Lib.hid (HK1.out.trans ((KeepB.call hba).mono hBw))
                    have HB1' := Lib.hid (HB1'.out.trans (hba.mono HB1'.out.size))
                    have hu := RdT.of_own (own_call HO1.out hba)
                    have hBx : B ≤ wa.heap.size := Nat.le_trans hBw hba.size
                    have hs1 : W.heap.size ≤ wa.heap.size := HB1'.out.size
                    clear hwa hba
                    have HL2 := Lib.hid (HL1.out.addR (l := scl fine m) (u := .slice b1 mn k1) (by rw [scl_len, ← Hm.out]; exact hu) Hne.out (by rw [← Hk.out]; exact hown2) hgrow hmov)
                    clear hu
                    have hrow : ∀ g, (Value.slice pa kl pc).ownBlock = some g → B ≤ g := fun g e => (hown.lt g e).1
                    have HD2 := Lib.hid (HD1.out.grown hgrow (fun e => by have := hrow _ e.symm; omega))
                    have HG2 := Lib.hid (HG1.out.grown hgrow (HG1.out.not_own hown (by decide)))
                    have HK2 := Lib.hid (HK1.out.trans (KeepB.grown hgrow hrow))
                    have HB2' := Lib.hid (HB1'.out.grown hgrow (by omega) (fun g e => by have := hrow g e; omega))
                    obtain ⟨pa2, pc2, rfl⟩ := own_form hown2
                    have HD3 : Hid (Blk (w2.setCell ⟨D, k * 3 + 2, none⟩ (.slice pa2 (kl + 1) pc2)) D (((cb.set (k * 3) pv).set (k * 3 + 1) lv).set (k * 3 + 2) (.slice pa2 (kl + 1) pc2)) tF) := by unfold Hid; rw [← set3_2 pv lv (.slice pa kl pc) (.slice pa2 (kl + 1) pc2)]; exact HD2.out.set (k * 3 + 2) (.slice pa2 (kl + 1) pc2)
                    have HL3 := Lib.hid (HL2.out.keep (KeepT.set (T' := tF) ⟨D, k * 3 + 2, none⟩ HD2.out (by decide) (.slice pa2 (kl + 1) pc2)) (KeepT.set (T' := tF) ⟨D, k * 3 + 2, none⟩ HD2.out (by decide) (.slice pa2 (kl + 1) pc2)))
                    have HG3 := Lib.hid (HG2.out.other ⟨D, k * 3 + 2, none⟩ (by show P ≠ D; omega) (.slice pa2 (kl + 1) pc2))
                    have HK3 := Lib.hid (HK2.out.trans (KeepB.set (o := k * 3 + 2) HD2.out (.slice pa2 (kl + 1) pc2)))
                    have HB3 := Lib.hid (HB2'.out.setCell (p := ⟨D, k * 3 + 2, none⟩) hDW (.slice pa2 (kl + 1) pc2))
                    have hg3 : P < (w2.setCell ⟨D, k * 3 + 2, none⟩ (.slice pa2 (kl + 1) pc2)).heap.size := HG3.out.lt
                    have hB3 : B ≤ (w2.setCell ⟨D, k * 3 + 2, none⟩ (.slice pa2 (kl + 1) pc2)).heap.size := by have := hgrow.size; simp [World.setCell]; omega
                    have c0 := HD2.out.cell (set3_at (cs := cb) Hcs pv lv (.slice pa kl pc)).1
                    have c1 := HD2.out.cell (set3_at (cs := cb) Hcs pv lv (.slice pa kl pc)).2.1
                    have c2 := HD2.out.cell (set3_at (cs := cb) Hcs pv lv (.slice pa kl pc)).2.2
                    have df := HD2.out.frozen
                    clear hown hown2 hgrow hmov hrow HL1 HD1 HG1 HK1 HB1' HL2 HG2 HK2 HB2' HD2 HO1
                    go_wp2_with fail
                    go_roundg q
                    case measure => omega
                    case rel => exact ⟨j + 1, pv, lv, _, vs, _, _, _, by have := HQ2.out; omega, rfl, rfl, by first | rfl | simp, by unfold Hid; rw [Hst2.out]; exact HL3.out, HD3, Hp3, HG3, HK3, HB3, hg3, hB3⟩
    · have he : Value.slice ra rn rc = .slice none 0 0 ∧ err = 10 := by
        rcases HF.out with ⟨_, h1, h2⟩ | ⟨h, _⟩
        · exact ⟨h1, h2⟩
        · exact absurd ⟨h.2.1, h.2.2⟩ h09
      obtain ⟨he1, rfl⟩ := he
      cases he1
      clear HF
      by_cases h0 : fine < 0
      · clear h09
        go_wp2_with fail
        refine (awake13_any W HTW.out).mono ?_
        rintro e w3 ⟨rfl, hb3⟩
        have HB3 : Hid (Below w.heap.size w w3) := HBW.out.trans (hb3.mono HBW.out.size)
        clear hb3
        go_wp2_with fail
        go_ret
        exact ⟨rfl, HB3.out⟩
      · have h9 : fine > 9 := by omega
        clear h09
        go_wp2_with fail
        refine (awake13_any W HTW.out).mono ?_
        rintro e w3 ⟨rfl, hb3⟩
        have HB3 : Hid (Below w.heap.size w w3) := HBW.out.trans (hb3.mono HBW.out.size)
        clear hb3
        go_wp2_with fail
        go_ret
        exact ⟨rfl, HB3.out⟩
theorem lawFromC (s : ByteArray) (hs : s.size ≤ maxLen) (fine : Int) (hf : (Lit.int .i64 fine).wf = true) (w : World) (ht : Tabs w) :
    Calls Tryz.prog 3 #[.string s, .int .i64 fine] w fun e w' => e = .returned (.bool true) ∧ Below w.heap.size w w' :=
  have h := (Lit.wf_int_iff .i64 fine).1 hf
  lawFromW s hs fine w ht h.1 h.2
end Go.Proofs.YtfbdkjonjpanfaaGreatDoor
