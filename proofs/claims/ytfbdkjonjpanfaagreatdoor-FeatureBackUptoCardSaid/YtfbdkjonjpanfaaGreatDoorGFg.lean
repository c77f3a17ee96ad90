/- slices.Grow of nothing, slices.Concat of two slices of slices of points, walked. -/
import Derived.Test.YtfbdkjonjpanfaaGreatDoorGFf
import Derived.Lib.AppendZerosOnto
import Derived.Test.YtfbdkjonjpanfaaGreatDoorGFd
import Derived.Test.YtfbdkjonjpanfaaGreatDoorGFa
import Derived.Deep.RegionHeld3
import Derived.BigQuiet

set_option linter.unusedVariables false
set_option linter.unusedSimpArgs false
namespace Go.Proofs.YtfbdkjonjpanfaaGreatDoor
open Go.RowKit Go.Rg Ft
attribute [local go_sem] Oper.semAt_some

theorem grow13_any (n : Nat) (w : World) (hn : n ≤ 1000000) :
    Calls Tryz.prog 70 #[.slice none 0 0, .int .i64 n] w fun e w' => ∃ u, e = .returned u ∧ w'.ownsRow w.heap.size tL 1 u 0 [] ∧ Below w.heap.size w w' := by
  go_enter Tryz.func70, Tryz.ntmps70
  rcases Nat.eq_zero_or_pos n with rfl | h0
  · go_wp2_with fail
    go_ret
    exact ⟨_, rfl, World.ownsRow_nil _ _ _ _, Below.refl _ _⟩
  · have hb : Tryz.t34.bytes = 24 := rfl
    have h1 : (n:Int) * 24 ≤ 281474976710656 := by omega
    have h2 : ¬ n = 0 := by omega
    have h3 : (n:Int) ≤ 9223372036854775807 := by omega
    have hfit : Builtin.nextslicecap n 0 * 24 ≤ 281474976710656 := by
      have := Go.growslice_fits (need := n) (old := 0) (bytes := 24) (by omega) (by omega)
      omega
    go_wp2_with fail
    go_ret
    refine ⟨_, rfl, World.ownsRow_made w _ _ (Nat.le_refl _) (grownCap_le_maxLen w n 0 34 (by simp only [maxLen]; omega)) ?_, ?_⟩
    · have hge := grownCap_ge w n 0 34
      simp only [grownCap] at hge
      simp only [Array.size_append, size_zeroCells]
      simp only [Array.size, List.length_cons, List.length_nil]
      omega
    · exact ((Below.refl _ w).alloc (Nat.le_refl _) _).drew
end Go.Proofs.YtfbdkjonjpanfaaGreatDoor

set_option linter.unusedVariables false
set_option linter.unusedSimpArgs false
namespace Go.Proofs.YtfbdkjonjpanfaaGreatDoor
open Go.RowKit Go.Rg Ft
attribute [local go_sem] Oper.semAt_some

theorem own_low {w : World} {base B e size n : Nat} {v : Value} {xs : List Value} (h : w.ownsRow base e size v n xs) (hB : B ≤ base) : w.ownsRow B e size v n xs := by
  rcases h with ⟨hl, h | ⟨g, cap, cur, rfl, hb, h⟩⟩
  · exact ⟨hl, .inl h⟩
  · exact ⟨hl, .inr ⟨g, cap, cur, rfl, Nat.le_trans hB hb, h⟩⟩

theorem concat13_any (A : Nat) (a1 a2 : Option Addr) (n1 n2 m1 m2 : Nat) (es1 es2 : List Value) (w : World) (h1 : ReadsE w w.heap.size (.slice a1 n1 m1) n1 es1) (h2 : ReadsE w w.heap.size (.slice a2 n2 m2) n2 es2) (l1 : es1.length = n1) (l2 : es2.length = n2) (k1 : ∀ u ∈ es1, u.oneCell' = true) (k2 : ∀ u ∈ es2, u.oneCell' = true) (hA : A < w.heap.size)
    (c0 : w.cell? ⟨A, 0, none⟩ = some (.slice a1 n1 m1)) (c1 : w.cell? ⟨A, 1, none⟩ = some (.slice a2 n2 m2)) (hn1 : n1 ≤ 400000) (hn2 : n2 ≤ 400000) :
    Calls Tryz.prog 41 #[.slice (some ⟨A, 0, none⟩) 2 2] w fun e w' => ∃ u, e = .returned u ∧ w'.ownsRow w.heap.size tL 1 u (n1 + n2) (es1 ++ es2) ∧ Below w.heap.size w w' := by
  have H1 := Lib.hid h1
  have H2 := Lib.hid h2
  have L1 := Lib.hid (show es1.length = n1 * 1 by omega)
  have L2 := Lib.hid (show es2.length = n2 * 1 by omega)
  have K1 := Lib.hid k1
  have K2 := Lib.hid k2
  clear h1 h2 l1 l2 k1 k2
  go_enter Tryz.func41, Tryz.ntmps41
  go_wp2_with fail
  go_loopg [3, 5, 11] 2 (fun q s3 s5 s11 wx => Hid (Below w.heap.size w wx) ∧ ((q = 2 ∧ s11 = .int .i64 0 ∧ s3 = .int .i64 0) ∨ (q = 1 ∧ s11 = .int .i64 1 ∧ s3 = .int .i64 (n1 : Int)) ∨ (q = 0 ∧ s11 = .int .i64 2 ∧ s3 = .int .i64 ((n1 : Int) + (n2 : Int)))))
  case atStart => exact ⟨Below.refl _ _, .inl ⟨rfl, rfl, rfl⟩⟩
  case round =>
    obtain ⟨Hb, hc⟩ := hrel
    have x0 : wr.cell? ⟨A, 0, none⟩ = some (.slice a1 n1 m1) := keepc Hb.out hA c0
    have x1 : wr.cell? ⟨A, 1, none⟩ = some (.slice a2 n2 m2) := keepc Hb.out hA c1
    rcases hc with ⟨rfl, rfl, rfl⟩ | ⟨rfl, rfl, rfl⟩ | ⟨rfl, rfl, rfl⟩
    · go_wp2_with fail
      go_roundg 1
      case measure => omega
      case rel => exact ⟨Hb, .inr (.inl ⟨rfl, rfl, rfl⟩)⟩
    · have e0 : ¬ ((n1 : Int) + (n2 : Int) < 0) := by omega
      have e1 : (n1 : Int) + (n2 : Int) ≤ 9223372036854775807 := by omega
      have e2 : (0 : Int) ≤ (n1 : Int) + (n2 : Int) := by omega
      go_wp2_with fail
      go_roundg 0
      case measure => omega
      case rel => exact ⟨Hb, .inr (.inr ⟨rfl, rfl, rfl⟩)⟩
    · have e3 : (n1 : Int) + (n2 : Int) = ((n1 + n2 : Nat) : Int) := by omega
      rw [e3]
      have E3 := Lib.hid e3
      clear e3
      go_wp2_with (go_at_call 70; refine (grow13_any (n1 + n2) _ (by omega)).mono ?_; rintro e w2 ⟨u0, rfl, o2, b2⟩; obtain ⟨ga, gc, rfl⟩ := own_form o2; have O2 := Lib.hid o2; have B2 := Lib.hid (Hb.out.trans (b2.mono Hb.out.size)); clear o2 b2)
      have O2 := Lib.hid (own_low O2.out Hb.out.size)
      clear Hb x0 x1
      go_loopg [6, 8, 27] 2 (fun q s6 s8 s27 wx => Hid (Below w.heap.size w wx) ∧ ∃ (pa : Option Addr) (pc : Nat), ((q = 2 ∧ s27 = .int .i64 0 ∧ s6 = .slice pa 0 pc ∧ Hid (wx.ownsRow w.heap.size tL 1 (.slice pa 0 pc) 0 [])) ∨ (q = 1 ∧ s27 = .int .i64 1 ∧ s6 = .slice pa n1 pc ∧ Hid (wx.ownsRow w.heap.size tL 1 (.slice pa n1 pc) n1 es1)) ∨ (q = 0 ∧ s27 = .int .i64 2 ∧ s6 = .slice pa (n1 + n2) pc ∧ Hid (wx.ownsRow w.heap.size tL 1 (.slice pa (n1 + n2) pc) (n1 + n2) (es1 ++ es2)))))
      case atStart => exact ⟨B2, ga, gc, .inl ⟨rfl, rfl, rfl, O2⟩⟩
      case round =>
      obtain ⟨Hb, pa, pc, hc⟩ := hrel
      have x0 : wr.cell? ⟨A, 0, none⟩ = some (.slice a1 n1 m1) := keepc Hb.out hA c0
      have x1 : wr.cell? ⟨A, 1, none⟩ = some (.slice a2 n2 m2) := keepc Hb.out hA c1
      clear O2 B2
      rcases hc with ⟨rfl, rfl, rfl, ho⟩ | ⟨rfl, rfl, rfl, ho⟩ | ⟨rfl, rfl, rfl, ho⟩
      · go_wp2_with (at_builtin; refine wpList_append2E _ rfl _ _ 35 rfl w.heap.size tL (.slice none 0 0) 1 24 Tryz.underlying35 info_pts rfl (by decide) (.slice pa 0 pc) 0 _ rfl ho.out _ w.heap.size n1 es1 rfl (H1.out.below Hb.out) L1.out K1.out (by unfold maxLen; omega) (by omega) Hb.out.size ?_)
        intro v' w3 o3 g3 mv3
        have hb3 : Hid (Below w.heap.size w w3) := Hb.out.grown g3 Hb.out.size (fun k e => (ho.out.lt k e).1)
        obtain ⟨qa, qc, rfl⟩ := own_form o3
        have O3 := Lib.hid o3
        clear o3 g3 mv3 ho
        go_wp2_with fail
        go_roundg 1
        case measure => omega
        case rel => exact ⟨hb3, qa, qc, .inr (.inl ⟨rfl, rfl, by simp, O3⟩)⟩
      · go_wp2_with (at_builtin; refine wpList_append2E _ rfl _ _ 35 rfl w.heap.size tL (.slice none 0 0) 1 24 Tryz.underlying35 info_pts rfl (by decide) (.slice pa n1 pc) n1 _ rfl ho.out _ w.heap.size n2 es2 rfl (H2.out.below Hb.out) L2.out K2.out (by unfold maxLen; omega) (by omega) Hb.out.size ?_)
        intro v' w3 o3 g3 mv3
        have hb3 : Hid (Below w.heap.size w w3) := Hb.out.grown g3 Hb.out.size (fun k e => (ho.out.lt k e).1)
        obtain ⟨qa, qc, rfl⟩ := own_form o3
        have O3 := Lib.hid o3
        clear o3 g3 mv3 ho
        go_wp2_with fail
        go_roundg 0
        case measure => omega
        case rel => exact ⟨hb3, qa, qc, .inr (.inr ⟨rfl, rfl, rfl, O3⟩)⟩
      · go_wp2_with fail
        go_ret
        exact ⟨_, rfl, ho.out, Hb.out⟩
end Go.Proofs.YtfbdkjonjpanfaaGreatDoor

set_option linter.unusedVariables false
set_option linter.unusedSimpArgs false
namespace Go.Proofs.YtfbdkjonjpanfaaGreatDoor
open Go.RowKit Go.Rg Ft
attribute [local go_sem] Oper.semAt_some

theorem allF13 (a b c : Value) (w : World) :
    Calls Tryz.prog 25 #[.agg #[a, b, c]] w fun e w' => e = .returned (.func (.func 40) #[] #[.pointer (some ⟨w.heap.size, 0, none⟩)]) ∧ w.alloc (.cells #[a, b, c] 37) = w' := by
  go_enter Tryz.func25, Tryz.ntmps25
  go_wp2_with fail
  go_ret
  first | exact ⟨rfl, rfl⟩ | trace_state

theorem segsF13 (a b c : Value) (w : World) :
    Calls Tryz.prog 15 #[.agg #[a, b, c]] w fun e w' => e = .returned (.func (.func 26) #[] #[.pointer (some ⟨w.heap.size, 0, none⟩)]) ∧ w.alloc (.cells #[a, b, c] 37) = w' := by
  go_enter Tryz.func15, Tryz.ntmps15
  go_wp2_with fail
  go_ret
  first | exact ⟨rfl, rfl⟩ | trace_state
end Go.Proofs.YtfbdkjonjpanfaaGreatDoor

set_option linter.unusedVariables false
set_option linter.unusedSimpArgs false
namespace Go.Proofs.YtfbdkjonjpanfaaGreatDoor
open Go.RowKit Go.Rg Ft
attribute [local go_sem] Oper.semAt_some

/-- what the iterator yields: whether the list is closed, the list -/
def allY (n1 : Nat) (es : List Value) : List (Array Value) := es.mapIdx fun i v => #[.bool (decide (n1 ≤ i)), v]

set_option maxRecDepth 100000 in
set_option maxHeartbeats 2000000 in
theorem all13_seq (b : Nat) (a0 : Value) (a1 a2 : Option Addr) (n1 n2 m1 m2 : Nat) (es1 es2 : List Value) (S : Nat → Prop) (w : World) (hb : Blk w b [a0, .slice a1 n1 m1, .slice a2 n2 m2] 37) (hSb : S b) (hS : ∀ k, S k → k < w.heap.size)
    (h1 : ∀ W, Kept S w W → ReadsE W W.heap.size (.slice a1 n1 m1) n1 es1) (h2 : ∀ W, Kept S w W → ReadsE W W.heap.size (.slice a2 n2 m2) n2 es2) (l1 : es1.length = n1) (l2 : es2.length = n2) (k1 : ∀ u ∈ es1, u.oneCell' = true) (k2 : ∀ u ∈ es2, u.oneCell' = true) (hn1 : n1 ≤ 400000) (hn2 : n2 ≤ 400000) :
    SeqI Tryz.prog 40 #[.pointer (some ⟨b, 0, none⟩)] (allY n1 (es1 ++ es2)) S w := by
  intro l J Jx W hW hJ hJx hY h0
  have hB := hb.of_same (hW.same b hSb)
  have c1 : W.cell? ⟨b, 1, none⟩ = some (.slice a1 n1 m1) := hB.cell rfl
  have c2 : W.cell? ⟨b, 2, none⟩ = some (.slice a2 n2 m2) := hB.cell rfl
  have R1 := Lib.hid (h1 W hW)
  have R2 := Lib.hid (h2 W hW)
  have Hh1 := Lib.hid h1
  have Hh2 := Lib.hid h2
  have L1 := Lib.hid l1
  have L2 := Lib.hid l2
  have K1 := Lib.hid k1
  have K2 := Lib.hid k2
  have HY := Lib.hid hY
  have HJ := Lib.hid hJ
  have HJx := Lib.hid hJx
  have H0 := Lib.hid h0
  clear h1 h2 l1 l2 k1 k2 hY hJ hJx h0
  refine callsIn_of_wp Tryz.func40 rfl trivial ?_ rfl
  simp only [Tryz.ntmps40, List.size_toArray, List.length_cons, List.length_nil, Nat.reduceAdd, Nat.reduceSub, Array.replicate_succ, Array.replicate_zero, List.push_toArray, List.append_toArray, List.nil_append, List.cons_append]
  gi_wp2_with fail
  have hbN : Below W.heap.size W (W.alloc (.cells #[.slice a1 n1 m1, .slice a2 n2 m2] 35)) := (Below.refl _ W).alloc (Nat.le_refl _) _
  have hN1 := (R1.out.below hbN).mono hbN.size
  have hN2 := (R2.out.below hbN).mono hbN.size
  have hBN : Blk (W.alloc (.cells #[.slice a1 n1 m1, .slice a2 n2 m2] 35)) W.heap.size [.slice a1 n1 m1, .slice a2 n2 m2] 35 := Blk.new W _ _
  have HB := Lib.hid hbN
  refine (calls_iff.2 (concat13_any W.heap.size a1 a2 n1 n2 m1 m2 es1 es2 _ hN1 hN2 L1.out L2.out K1.out K2.out (by simp) (hBN.cell (j := 0) rfl) (hBN.cell (j := 1) rfl) hn1 hn2)).mono ?_
  rintro e w2 ⟨u, rfl, o2, b2⟩
  have B2 := Lib.hid (HB.out.trans (b2.mono HB.out.size))
  obtain ⟨ga, gc, rfl⟩ := own_form o2
  obtain ⟨O, hO⟩ : ∃ O : Nat → Prop, O = grow (fun _ => False) W w2 := ⟨_, rfl⟩
  have HO := Lib.hid hO
  have O2 := Lib.hid o2
  have H1 : Hid (J 0 O w2) := HJ.out _ _ _ _ _ H0.out (Ext.of_below B2.out) (fun j hj => hO ▸ hj)
  clear H0 o2 b2 hO hbN hN1 hN2 hBN HB R1 R2
  gi_wp2_with fail
  gi_loopw [3, 4, 12] (fun p3 p4 p wr => ∃ i : Nat, p = .int .i64 (i : Int) ∧ i ≤ n1 + n2 ∧ Hid (J i O wr) ∧ Hid (Kept (both S O) w2 wr))
    (fun p3 p4 p _ => n1 + n2 - (intOf p).toNat)
  case atStart => exact ⟨0, rfl, Nat.zero_le _, H1, Kept.refl _ _⟩
  case round =>
    obtain ⟨i, rfl, hi, Hj, Hk⟩ := hrel
    by_cases hlt : i < n1 + n2
    · obtain ⟨x, hx⟩ : ∃ x, (es1 ++ es2)[i]? = some x := ⟨_, List.getElem?_eq_getElem (by rw [List.length_append, L1.out, L2.out]; exact hlt)⟩
      obtain ⟨g, rfl, hgB, hgs, hgc, hcm, hcell⟩ : ∃ g, ga = some ⟨g, 0, none⟩ ∧ W.heap.size ≤ g ∧ g < w2.heap.size ∧ n1 + n2 ≤ gc ∧ gc ≤ maxLen ∧ w2.cell? ⟨g, i, none⟩ = some x := by
        have h0 := O2.out
        have hc := fun k hk => h0.cells (g := k) hk i x hx
        rcases h0 with ⟨hl, ⟨he, hz⟩ | ⟨g, cap, cur, he, hb', hcur, h3, h4, _⟩⟩
        · omega
        · injection he with e1 e2 e3
          subst e1 e3
          refine ⟨g, rfl, by simp at hb'; omega, (Array.getElem?_eq_some_iff.1 hcur).1, h3, h4, ?_⟩
          have := hc g rfl
          have ha : (⟨g, 0, none⟩ : Addr).add i = ⟨g, i, none⟩ := by unfold Addr.add; split <;> simp_all
          rwa [ha] at this
      have hOg : O g := by rw [HO.out]; exact .inr ⟨hgB, hgs⟩
      have y0 : wr.cell? ⟨g, i, none⟩ = some x := (World.cell?_of_block (w := w2) (a := ⟨g, i, none⟩) (Hk.out.same g (.inr hOg))).trans hcell
      have HkS : Hid (Kept S W wr) := ((Kept.of_below B2.out).mono (fun j hj => by have := hS j hj; have := hW.size; omega)).trans (Hk.out.mono (fun j hj => .inl hj))
      have x1 : wr.cell? ⟨b, 1, none⟩ = some (.slice a1 n1 m1) := (hb.of_same ((HkS.out.same b hSb).trans (hW.same b hSb))).cell rfl
      unfold maxLen at hcm
      clear hcell hOg c1 c2 hB
      have Hx := Lib.hid hx
      clear hx
      have hOs : ∀ j, O j → W.heap.size ≤ j ∧ j < wr.heap.size := by
        intro j hj
        rw [HO.out] at hj
        have := Hk.out.size
        rcases hj with hj | hj
        · exact hj.elim
        · omega
      have hyield := HY.out i #[.bool (decide (n1 ≤ i)), x] O wr (by unfold allY; rw [List.getElem?_mapIdx, Hx.out]; rfl) HkS.out hOs Hj.out
      obtain ⟨fn, tmps, assign, body, hy, hR⟩ := hyield
      have HOs := Lib.hid hOs
      clear hOs
      gi_wp2_with fail
      refine hR.mono ?_
      clear hR hy
      rintro e X' (⟨rfl, hj2, hk2, _⟩ | ⟨rfl, hj2, hk2, _⟩)
      · have Hj2 := Lib.hid hj2
        have Hk2 := Lib.hid (show Kept (both S O) w2 X' from Hk.out.trans hk2)
        clear hj2 hk2
        gi_wp2_with fail
        go_roundw
        case rel => exact ⟨i + 1, by first | rfl | simp, hlt, Hj2, Hk2⟩
        case measure => simp [intOf]; omega
      · have Hj2 := Lib.hid hj2
        have Hk2 := Lib.hid (HkS.out.trans (hk2.mono (fun j hj => .inl hj)))
        clear hj2 hk2
        gi_wp2_with fail
        refine bodyPost_ret (results_none rfl _ _ _) rfl ?_
        exact ⟨⟨_, rfl⟩, Hk2.out, .inr ⟨i + 1, by omega, by unfold allY; rw [List.length_mapIdx, List.length_append, L1.out, L2.out]; omega, Hj2.out⟩⟩
    · have hie : i = n1 + n2 := by omega
      have HkS : Hid (Kept S W wr) := ((Kept.of_below B2.out).mono (fun j hj => by have := hS j hj; have := hW.size; omega)).trans (Hk.out.mono (fun j hj => .inl hj))
      have HE : Hid (i = (allY n1 (es1 ++ es2)).length) := by unfold Hid allY; rw [List.length_mapIdx, List.length_append, L1.out, L2.out]; exact hie
      have HOs : Hid (∀ j, O j → W.heap.size ≤ j ∧ j < wr.heap.size) := by
        intro j hj
        rw [HO.out] at hj
        have := Hk.out.size
        rcases hj with hj | hj
        · exact hj.elim
        · omega
      have hno : ¬ ((i : Int) < (n1 : Int) + (n2 : Int)) := by omega
      gi_wp2_with fail
      refine bodyPost_end (results_none rfl _ _ _) rfl ?_
      exact ⟨⟨_, rfl⟩, HkS.out, .inl ⟨O, HOs.out, by rw [← HE.out]; exact Hj.out⟩⟩
end Go.Proofs.YtfbdkjonjpanfaaGreatDoor

set_option linter.unusedVariables false
set_option linter.unusedSimpArgs false
namespace Go.Proofs.YtfbdkjonjpanfaaGreatDoor
open Go.RowKit Go.Rg Ft
attribute [local go_sem] Oper.semAt_some

/-- these values read as those lists of points -/
def LqC (w : World) (vs : List Value) (ls : List (List Pt)) : Prop := ∀ (i : Nat) (l : List Pt), ls[i]? = some l → ∃ v, vs[i]? = some v ∧ RdC w v l.length (flat l)
theorem LqC.call {w w' : World} {vs : List Value} {ls : List (List Pt)} (h : LqC w vs ls) (hb : Below w.heap.size w w') : LqC w' vs ls := fun i l hl => by
  obtain ⟨v, h1, h2⟩ := h i l hl; exact ⟨v, h1, h2.call hb⟩
/-- a feature, as it reads, whatever its blocks -/
def FeC (w : World) (pv lv rv : Value) (f : Fe) : Prop := RdC w pv f.pts.length (flat f.pts) ∧ (∃ vs, vs.length = f.lines.length ∧ RdC w lv f.lines.length vs ∧ LqC w vs f.lines) ∧ (∃ us, us.length = f.rings.length ∧ RdC w rv f.rings.length us ∧ LqC w us f.rings)
theorem FeC.call {w w' : World} {pv lv rv : Value} {f : Fe} (h : FeC w pv lv rv f) (hb : Below w.heap.size w w') : FeC w' pv lv rv f := by
  obtain ⟨h1, ⟨vs, a, b, c⟩, ⟨us, d, e, g⟩⟩ := h
  exact ⟨h1.call hb, ⟨vs, a, b.call hb, c.call hb⟩, ⟨us, d, e.call hb, g.call hb⟩⟩
abbrev feV (pv lv rv : Value) : Value := .agg #[pv, lv, rv]

set_option maxRecDepth 100000 in
set_option maxHeartbeats 4000000 in
theorem eqPts_any (v u : Value) (l m : List Pt) (w : World) (h : RdC w v l.length (flat l)) (h2 : RdC w u m.length (flat m)) :
    Calls Tryz.prog 23 #[v, u] w fun e w' => e = .returned (.bool (decide (l = m))) ∧ Below w.heap.size w w' := by
  obtain ⟨a1, c1, rfl, hm1, ho1⟩ := h
  obtain ⟨a2, c2, rfl, hm2, ho2⟩ := h2
  have Ho1 := Lib.hid ho1
  have Ho2 := Lib.hid ho2
  unfold maxLen at hm1 hm2
  obtain ⟨n, hn⟩ : ∃ n, n = l.length := ⟨_, rfl⟩
  obtain ⟨n2, hn2⟩ : ∃ n, n = m.length := ⟨_, rfl⟩
  rw [← hn] at hm1 ⊢
  rw [← hn2] at hm2 ⊢
  have Hn := Lib.hid hn
  have Hn2 := Lib.hid hn2
  clear ho1 ho2 hn hn2
  go_enter Tryz.func23, Tryz.ntmps23
  by_cases hnn : n = n2
  · subst hnn
    go_wp2_with fail
    go_loopg [13] n (fun q s13 wx => ∃ i : Nat, i + q = n ∧ s13 = .int .i64 (i : Int) ∧ Hid (l.take i = m.take i) ∧ Hid (Below w.heap.size w wx))
    case atStart => exact ⟨0, by omega, rfl, rfl, Below.refl _ _⟩
    case round =>
      obtain ⟨i, hiq, rfl, Hi, Hb⟩ := hrel
      cases gk with
      | zero =>
        have hin : i = n := by omega
        subst hin
        have Heq : Hid (l = m) := by
          have := Hi.out
          rw [Hn.out, List.take_length, ← Hn.out, Hn2.out, List.take_length] at this
          exact this
        go_wp2_with fail
        try rw [Exit.noGoto_ret]
        go_ret
        exact ⟨by rw [Heq.out]; simp, Hb.out⟩
      | succ q =>
        have hin : i < n := by omega
        obtain ⟨p, hp⟩ : ∃ p, l[i]? = some p := ⟨_, List.getElem?_eq_getElem (by rw [← Hn.out]; exact hin)⟩
        obtain ⟨p2, hp2⟩ : ∃ p, m[i]? = some p := ⟨_, List.getElem?_eq_getElem (by rw [← Hn2.out]; exact hin)⟩
        obtain ⟨f1, f2⟩ := flat_at hp
        obtain ⟨f3, f4⟩ := flat_at hp2
        obtain ⟨g1, o1, rfl, q1, q2, q3, q4⟩ := Ho1.out (fun e => by rw [e] at f1; cases f1)
        obtain ⟨g2, o2, rfl, r1, r2, r3, r4⟩ := Ho2.out (fun e => by rw [e] at f3; cases f3)
        rw [← Hn.out] at q1
        rw [← Hn2.out] at r1
        have y1 : wr.cell? ⟨g1, o1 + i * 2, none⟩ = some (.int .i64 p.1) := keepc Hb.out q3 (q4 _ _ f1)
        have y2 : wr.cell? ⟨g1, o1 + i * 2 + 1, none⟩ = some (.int .i64 p.2) := keepc Hb.out q3 (q4 _ _ f2)
        have z1 : wr.cell? ⟨g2, o2 + i * 2, none⟩ = some (.int .i64 p2.1) := keepc Hb.out r3 (r4 _ _ f3)
        have z2 : wr.cell? ⟨g2, o2 + i * 2 + 1, none⟩ = some (.int .i64 p2.2) := keepc Hb.out r3 (r4 _ _ f4)
        unfold maxLen at q2 r2
        have Hp := Lib.hid hp
        have Hp2 := Lib.hid hp2
        clear q4 r4 f1 f2 f3 f4 hp hp2
        by_cases he : p = p2
        · subst he
          have e1 : (p.1 == p.1) = true := by simp
          have e2 : (p.2 == p.2) = true := by simp
          go_wp2_with fail
          go_quiet (fail)
          go_wp2_with fail
          go_roundg q
          case measure => omega
          case rel => exact ⟨i + 1, by omega, by first | rfl | simp, by unfold Hid; rw [List.take_add_one, List.take_add_one, Hi.out, Hp.out, Hp2.out], Hb.out.trans (below_drewN _ _ _)⟩
        · have hno : ¬ l = m := fun e => by rw [e] at Hp; have := Hp.out.symm.trans Hp2.out; exact he (Option.some.inj this)
          have Hno := Lib.hid hno
          clear hno
          by_cases h1 : p.1 = p2.1
          · have h2 : ¬ p.2 = p2.2 := fun e => he (Prod.ext h1 e)
            have e1 : (p.1 == p2.1) = true := by rw [beq_iff_eq]; exact h1
            have e2 : (p.2 == p2.2) = false := by rw [beq_eq_false_iff_ne]; exact h2
            clear he h1 h2
            go_wp2_with fail
            go_quiet (fail)
            go_wp2_with fail
            try rw [Exit.noGoto_ret]
            go_ret
            exact ⟨by rw [decide_eq_false Hno.out]; rfl, Hb.out.trans (below_drewN _ _ _)⟩
          · have e1 : (p.1 == p2.1) = false := by rw [beq_eq_false_iff_ne]; exact h1
            clear he h1
            go_wp2_with fail
            go_quiet (fail)
            go_wp2_with fail
            try rw [Exit.noGoto_ret]
            go_ret
            exact ⟨by rw [decide_eq_false Hno.out]; rfl, Hb.out.trans (below_drewN _ _ _)⟩
  · have hno : ¬ l = m := fun e => hnn (by rw [Hn.out, Hn2.out, e])
    have Hno := Lib.hid hno
    clear hno
    have hz : ((n : Int) == (n2 : Int)) = false := by rw [beq_eq_false_iff_ne]; omega
    go_wp2_with fail
    go_ret
    exact ⟨by rw [decide_eq_false Hno.out]; rfl, Below.refl _ _⟩
theorem enter_eqPts (args : Array Value) (w : World) : (callFunc 23 args).run Tryz.prog w = .ok (.enter 23 args) w := enters_of Tryz.func23 (by kernel_rfl) rfl args w

set_option maxRecDepth 100000 in
set_option maxHeartbeats 4000000 in
theorem eqLs_any (v u : Value) (vs us : List Value) (l m : List (List Pt)) (w : World) (h : RdC w v l.length vs) (hv : LqC w vs l) (h2 : RdC w u m.length us) (hu : LqC w us m) :
    Calls Tryz.prog 24 #[v, u, .func (.func 23) #[] #[]] w fun e w' => e = .returned (.bool (decide (l = m))) ∧ Below w.heap.size w w' := by
  obtain ⟨a1, c1, rfl, hm1, ho1⟩ := h
  obtain ⟨a2, c2, rfl, hm2, ho2⟩ := h2
  have Ho1 := Lib.hid ho1
  have Ho2 := Lib.hid ho2
  have Hv := Lib.hid hv
  have Hu := Lib.hid hu
  unfold maxLen at hm1 hm2
  obtain ⟨n, hn⟩ : ∃ n, n = l.length := ⟨_, rfl⟩
  obtain ⟨n2, hn2⟩ : ∃ n, n = m.length := ⟨_, rfl⟩
  rw [← hn] at hm1 ⊢
  rw [← hn2] at hm2 ⊢
  have Hn := Lib.hid hn
  have Hn2 := Lib.hid hn2
  have eg := enter_eqPts
  clear ho1 ho2 hn hn2 hv hu
  go_enter Tryz.func24, Tryz.ntmps24
  by_cases hnn : n = n2
  · subst hnn
    go_wp2_with fail
    go_loopg [17] n (fun q s17 wx => ∃ i : Nat, i + q = n ∧ s17 = .int .i64 (i : Int) ∧ Hid (l.take i = m.take i) ∧ Hid (Below w.heap.size w wx))
    case atStart => exact ⟨0, by omega, rfl, rfl, Below.refl _ _⟩
    case round =>
      obtain ⟨i, hiq, rfl, Hi, Hb⟩ := hrel
      cases gk with
      | zero =>
        have hin : i = n := by omega
        subst hin
        have Heq : Hid (l = m) := by
          have := Hi.out
          rw [Hn.out, List.take_length, ← Hn.out, Hn2.out, List.take_length] at this
          exact this
        go_wp2_with fail
        try rw [Exit.noGoto_ret]
        go_ret
        exact ⟨by rw [Heq.out]; simp, Hb.out⟩
      | succ q =>
        have hin : i < n := by omega
        obtain ⟨p, hp⟩ : ∃ p, l[i]? = some p := ⟨_, List.getElem?_eq_getElem (by rw [← Hn.out]; exact hin)⟩
        obtain ⟨p2, hp2⟩ : ∃ p, m[i]? = some p := ⟨_, List.getElem?_eq_getElem (by rw [← Hn2.out]; exact hin)⟩
        obtain ⟨vk, hvk, hPk⟩ := Hv.out i p hp
        obtain ⟨uk, huk, hQk⟩ := Hu.out i p2 hp2
        obtain ⟨g1, o1, rfl, q1, q2, q3, q4⟩ := Ho1.out (fun e => by rw [e] at hvk; cases hvk)
        obtain ⟨g2, o2, rfl, r1, r2, r3, r4⟩ := Ho2.out (fun e => by rw [e] at huk; cases huk)
        rw [← Hn.out] at q1
        rw [← Hn2.out] at r1
        have y1 : wr.cell? ⟨g1, o1 + i, none⟩ = some vk := keepc Hb.out q3 (q4 _ _ hvk)
        have z1 : wr.cell? ⟨g2, o2 + i, none⟩ = some uk := keepc Hb.out r3 (r4 _ _ huk)
        unfold maxLen at q2 r2
        have Hp := Lib.hid hp
        have Hp2 := Lib.hid hp2
        have HC := Lib.hid (eqPts_any vk uk p p2 wr (hPk.call Hb.out) (hQk.call Hb.out))
        clear q4 r4 hvk huk hPk hQk hp hp2
        by_cases he : p = p2
        · rw [decide_eq_true he] at HC
          have He := Lib.hid he
          clear he
          go_wp2_with fail
          refine HC.out.mono ?_
          rintro e w5 ⟨rfl, hb5⟩
          have Hb5 := Lib.hid (Hb.out.trans (hb5.mono Hb.out.size))
          clear hb5
          go_wp2_with fail
          go_roundg q
          case measure => omega
          case rel => exact ⟨i + 1, by omega, by first | rfl | simp, by unfold Hid; rw [List.take_add_one, List.take_add_one, Hi.out, Hp.out, Hp2.out, He.out], Hb5⟩
        · rw [decide_eq_false he] at HC
          have hno : ¬ l = m := fun e => by rw [e] at Hp; have := Hp.out.symm.trans Hp2.out; exact he (Option.some.inj this)
          have Hno := Lib.hid hno
          clear hno he
          go_wp2_with fail
          refine HC.out.mono ?_
          rintro e w5 ⟨rfl, hb5⟩
          have Hb5 := Lib.hid (Hb.out.trans (hb5.mono Hb.out.size))
          clear hb5
          go_wp2_with fail
          try rw [Exit.noGoto_ret]
          go_ret
          exact ⟨by rw [decide_eq_false Hno.out]; rfl, Hb5.out⟩
  · have hno : ¬ l = m := fun e => hnn (by rw [Hn.out, Hn2.out, e])
    have Hno := Lib.hid hno
    clear hno
    have hz : ((n : Int) == (n2 : Int)) = false := by rw [beq_eq_false_iff_ne]; omega
    go_wp2_with fail
    go_ret
    exact ⟨by rw [decide_eq_false Hno.out]; rfl, Below.refl _ _⟩

end Go.Proofs.YtfbdkjonjpanfaaGreatDoor

set_option linter.unusedVariables false
set_option linter.unusedSimpArgs false
namespace Go.Proofs.YtfbdkjonjpanfaaGreatDoor
open Go.RowKit Go.Rg Ft
attribute [local go_sem] Oper.semAt_some

/-- a feature's two lists of lists, as they read -/
structure FeL (w : World) (B : Nat) (lv rv : Value) (vs us : List Value) (f : Fe) : Prop where
  rl : ReadsE w B lv f.lines.length vs
  rr : ReadsE w B rv f.rings.length us
  ll : vs.length = f.lines.length
  lr : us.length = f.rings.length
  el : ∀ (i : Nat) (l : List Pt), (f.lines ++ f.rings)[i]? = some l → ∃ v, (vs ++ us)[i]? = some v ∧ ReadsE w B v l.length (flat l)
theorem FeL.below {w w' : World} {B : Nat} {lv rv : Value} {vs us : List Value} {f : Fe} (h : FeL w B lv rv vs us f) (hb : Below B w w') : FeL w' B lv rv vs us f :=
  ⟨h.rl.below hb, h.rr.below hb, h.ll, h.lr, fun i l hl => by obtain ⟨v, a, b⟩ := h.el i l hl; exact ⟨v, a, b.below hb⟩⟩
theorem FeL.mono {w : World} {B B' : Nat} {lv rv : Value} {vs us : List Value} {f : Fe} (h : FeL w B lv rv vs us f) (hb : B ≤ B') : FeL w B' lv rv vs us f :=
  ⟨h.rl.mono hb, h.rr.mono hb, h.ll, h.lr, fun i l hl => by obtain ⟨v, a, b⟩ := h.el i l hl; exact ⟨v, a, b.mono hb⟩⟩
theorem reads_slice {w : World} {B : Nat} {v : Value} {n : Nat} {xs : List Value} (h : ReadsE w B v n xs) : ∃ a c, v = .slice a n c := h.form
theorem FeL.one {w : World} {B : Nat} {lv rv : Value} {vs us : List Value} {f : Fe} (h : FeL w B lv rv vs us f) : ∀ u ∈ vs ++ us, u.oneCell' = true := by
  intro u hu
  obtain ⟨i, hi⟩ := List.mem_iff_getElem?.1 hu
  have hlt := (List.getElem?_eq_some_iff.1 hi).1
  rw [List.length_append, h.ll, h.lr] at hlt
  obtain ⟨l, hl⟩ : ∃ l, (f.lines ++ f.rings)[i]? = some l := ⟨_, List.getElem?_eq_getElem (by rw [List.length_append]; exact hlt)⟩
  obtain ⟨v, hv, hr⟩ := h.el i l hl
  rw [hi] at hv
  cases hv
  obtain ⟨a, c, rfl⟩ := reads_slice hr
  rfl
/-- the points of the first lists -/
def csum (f : Fe) (k : Nat) : Nat := f.pts.length + (((f.lines ++ f.rings).take k).map List.length).sum
theorem csum_succ {f : Fe} {k : Nat} {l : List Pt} (h : (f.lines ++ f.rings)[k]? = some l) : csum f (k + 1) = csum f k + l.length := by
  unfold csum; rw [List.take_add_one, h]; simp; omega
theorem csum_all (f : Fe) : csum f (f.lines ++ f.rings).length = count f := by
  unfold csum count; rw [List.take_length]; simp; omega
theorem csum_le (f : Fe) (k : Nat) : csum f k ≤ count f := by
  rw [← csum_all]
  unfold csum
  rw [List.take_length]
  conv => rhs; rw [← List.take_append_drop k (f.lines ++ f.rings)]
  rw [List.map_append, List.sum_append]
  omega

theorem enter_all13 (args : Array Value) (w : World) : (callFunc 40 args).run Tryz.prog w = .ok (.enter 40 args) w := enters_of Tryz.func40 (by kernel_rfl) rfl args w

set_option maxRecDepth 100000 in
set_option maxHeartbeats 2000000 in
theorem count13_any (a0 a1 a2 : Option Addr) (m0 m1 m2 : Nat) (f : Fe) (vs us : List Value) (w : World)
    (h : FeL w w.heap.size (.slice a1 f.lines.length m1) (.slice a2 f.rings.length m2) vs us f) (hc : count f ≤ 100000) (hn1 : f.lines.length ≤ 400000) (hn2 : f.rings.length ≤ 400000) :
    Calls Tryz.prog 14 #[feV (.slice a0 f.pts.length m0) (.slice a1 f.lines.length m1) (.slice a2 f.rings.length m2)] w fun e w' => e = .returned (.int .i64 (count f : Int)) ∧ Below w.heap.size w w' := by
  refine (calls_iff (r := none) (m := 0)).1 (callsIn_of_wp_marks Tryz.func14 rfl trivial ?_ rfl)
  simp only [Tryz.ntmps14, List.size_toArray, List.length_cons, List.length_nil, Nat.reduceAdd, Nat.reduceSub, Array.replicate_succ, Array.replicate_zero, List.push_toArray, List.append_toArray, List.nil_append, List.cons_append]
  obtain ⟨n1, e1⟩ : ∃ n, n = f.lines.length := ⟨_, rfl⟩
  obtain ⟨n2, e2⟩ : ∃ n, n = f.rings.length := ⟨_, rfl⟩
  obtain ⟨n0, e0⟩ : ∃ n, n = f.pts.length := ⟨_, rfl⟩
  have H := Lib.hid h
  have E0 := Lib.hid e0
  have E1 := Lib.hid e1
  have E2 := Lib.hid e2
  have HC := Lib.hid hc
  rw [← e1] at hn1
  rw [← e2] at hn2
  unfold feV
  rw [← e0, ← e1, ← e2]
  clear h e0 e1 e2 hc
  gi_wp2_with fail
  refine (calls_iff.2 (allF13 _ _ _ _)).mono ?_
  rintro e w2 ⟨rfl, hw2⟩
  have hw2' : [.cells #[.slice a0 n0 m0, .slice a1 n1 m1, .slice a2 n2 m2] 37, .cells #[.int .i64 (n0 : Int)] 3, .cells #[.slice a0 n0 m0, .slice a1 n1 m1, .slice a2 n2 m2] 37].foldl World.alloc w = w2 := hw2
  clear hw2
  have hB1 : Blk w2 (w.heap.size + 1) [.int .i64 (n0 : Int)] 3 := Blk.allocs _ hw2' 1 rfl
  have hB2 : Blk w2 (w.heap.size + 2) [.slice a0 n0 m0, .slice a1 n1 m1, .slice a2 n2 m2] 37 := Blk.allocs _ hw2' 2 rfl
  have hbel : Below w.heap.size w w2 := hw2' ▸ allocs_below _ w
  have Hsz : Hid (w2.heap.size = w.heap.size + 3) := hw2' ▸ allocs_size _ w
  have hs2 : w.heap.size + 3 ≤ w2.heap.size := by have := Hsz.out; omega
  clear hw2'
  obtain ⟨S, hS⟩ : ∃ S : Nat → Prop, S = fun j => j < w.heap.size ∨ j = w.heap.size + 2 := ⟨_, rfl⟩
  have HS := Lib.hid hS
  have HF : Hid (∀ W, Kept S w2 W → FeL W w.heap.size (.slice a1 n1 m1) (.slice a2 n2 m2) vs us f) := by
    intro W hW
    have h := H.out
    rw [← E1.out, ← E2.out] at h
    exact (h.below hbel).below (Kept.below (hW.mono (fun j hj => by rw [hS]; exact .inl hj)))
  have HSeq : Hid (SeqI Tryz.prog 40 #[.pointer (some ⟨w.heap.size + 2, 0, none⟩)] (allY n1 (vs ++ us)) S w2) := by
    have hsz : ∀ W, Kept S w2 W → w.heap.size ≤ W.heap.size := fun W hW => by have := hW.size; omega
    exact all13_seq (w.heap.size + 2) _ a1 a2 n1 n2 m1 m2 vs us S w2 hB2 (by rw [hS]; exact .inr rfl) (fun k hk => by rw [hS] at hk; omega)
      (fun W hW => by have := (HF.out W hW).rl.mono (hsz W hW); rwa [← E1.out] at this) (fun W hW => by have := (HF.out W hW).rr.mono (hsz W hW); rwa [← E2.out] at this) (by rw [E1.out]; exact H.out.ll) (by rw [E2.out]; exact H.out.lr)
      (fun u hu => H.out.one u (List.mem_append_left _ hu)) (fun u hu => H.out.one u (List.mem_append_right _ hu)) hn1 hn2
  clear hB2 hS
  gi_wp2_with fail
  refine wp_range (P := Tryz.prog) (gf := 40) (lb := #[.pointer (some ⟨w.heap.size + 2, 0, none⟩)]) (S := S) rfl enter_all13
    HSeq.out (Kept.refl _ _) (fun k hk => by rw [HS.out] at hk; omega) (fun x hx => by unfold allY at hx; obtain ⟨i, hi, rfl⟩ := List.mem_mapIdx.1 hx; rfl)
    (fun k _ X => Blk X (w.heap.size + 1) [.int .i64 (csum f k : Int)] 3 ∧ Below w.heap.size w X) (fun _ _ _ => False) (fun k O O' X Y h hx hO => ⟨h.1.ext hx, h.2.trans (hx.below.mono (by omega))⟩) (fun c k X Y h hx => h)
    ⟨by have e : csum f 0 = n0 := by rw [E0.out]; unfold csum; simp
        rw [e]; exact hB1, hbel⟩ ?round ?done ?stop
  case round =>
    intro l k x O Wr hl1 hl2 hx hk hO hi
    have hx2 : ((vs ++ us)[k]?).map (fun v => #[Value.bool (decide (n1 ≤ k)), v]) = some x := by unfold allY at hx; rw [List.getElem?_mapIdx] at hx; exact hx
    obtain ⟨v, hv, rfl⟩ := Option.map_eq_some_iff.1 hx2
    clear hx hx2
    have hlt : k < (f.lines ++ f.rings).length := by have := (List.getElem?_eq_some_iff.1 hv).1; rw [List.length_append, H.out.ll, H.out.lr] at this; rw [List.length_append]; exact this
    obtain ⟨ls, hls⟩ : ∃ ls, (f.lines ++ f.rings)[k]? = some ls := ⟨_, List.getElem?_eq_getElem hlt⟩
    obtain ⟨v', hv', hrd⟩ := H.out.el k ls hls
    rw [hv] at hv'
    cases hv'
    obtain ⟨va, vc, rfl⟩ := reads_slice hrd
    obtain ⟨c, hc⟩ : ∃ c, c = csum f k := ⟨_, rfl⟩
    obtain ⟨nl, hnl⟩ : ∃ n, n = ls.length := ⟨_, rfl⟩
    have hsum : c + nl ≤ 100000 := by have := csum_succ hls; have := csum_le f (k + 1); have := HC.out; omega
    have Hsum : Hid (csum f (k + 1) = c + nl) := by rw [hc, hnl]; exact csum_succ hls
    rw [← hc] at hi
    rw [← hnl]
    have Hi := Lib.hid hi
    have HO := Lib.hid hO
    clear hi hO hv hls hrd hlt hc hnl hB1
    gi_wp2_with fail
    refine ⟨Eff.refl _ _ _, ?_⟩
    intro Wb hx hkb hszb hlb
    have j1 := Hi.out.1.ext hx
    have HB : Hid (Below w.heap.size w Wb) := Hi.out.2.trans (hx.below.mono (by omega))
    have Hx := Lib.hid hx
    have d1 := j1.cell (j := 0) rfl
    have g1 := j1.frozen 0
    have hsz : Wr.heap.size ≤ Wb.heap.size := by omega
    clear hx hkb hlb hszb
    gi_wp2_with fail
    refine ⟨(Eff.refl _ _ _).setCell _ ?_ _, ?_, HB.out.setCell (p := ⟨w.heap.size + 1, 0, none⟩) (by show _ ≤ w.heap.size + 1; omega) _⟩
    · rintro (h | h)
      · rw [HS.out] at h; simp only at h; omega
      · have := (HO.out _ h).1; simp only at this; omega
    · rw [Hsum.out, Int.natCast_add]
      exact j1.set 0 (.int .i64 ((c : Int) + (nl : Int)))
  case done =>
    intro O Wd hk hlt hi hD
    have hlen : (allY n1 (vs ++ us)).length = (f.lines ++ f.rings).length := by unfold allY; rw [List.length_mapIdx, List.length_append, List.length_append, H.out.ll, H.out.lr]
    rw [hlen, csum_all] at hi
    have d1 := hi.1.cell (j := 0) rfl
    have HI := Lib.hid hi
    have HD := Lib.hid hD
    clear hi hD hlen hB1
    gi_wp2_with fail
    refine ⟨by simp, .inl ⟨_, _, rfl, run_takeDeferred HD.out, ?_⟩⟩
    exact ⟨_, results_tmp rfl _ _ _, rfl, put_below HI.out.2 (by omega) HD.out rfl⟩
  case stop =>
    intro c k Wd hk hlt hk0 hkl hi hD
    exact hi.elim
end Go.Proofs.YtfbdkjonjpanfaaGreatDoor

set_option linter.unusedVariables false
namespace Go.Proofs.YtfbdkjonjpanfaaGreatDoor
open Go.RowKit Go.Rg
namespace Ft
theorem flatten_at {A : Type} (xs : List (List A)) (k : Nat) (l : List A) (h : xs[k]? = some l) (j : Nat) (x : A) (hx : l[j]? = some x) : xs.flatten[(xs.take k).flatten.length + j]? = some x := by
  induction xs generalizing k with
  | nil => cases h
  | cons y xs ih =>
    cases k with
    | zero =>
      simp at h
      subst h
      rw [List.take_zero, List.flatten_nil, List.length_nil, Nat.zero_add, List.flatten_cons, List.getElem?_append_left (List.getElem?_eq_some_iff.1 hx).1]
      exact hx
    | succ k =>
      rw [List.take_succ_cons, List.flatten_cons, List.flatten_cons, List.length_append, List.getElem?_append_right (by omega), show y.length + (xs.take k).flatten.length + j - y.length = (xs.take k).flatten.length + j from by omega]
      exact ih k (by simpa using h)
theorem flatten_take_succ {A : Type} (xs : List (List A)) (k : Nat) (l : List A) (h : xs[k]? = some l) : (xs.take (k + 1)).flatten.length = (xs.take k).flatten.length + l.length := by
  rw [List.take_add_one, h]; simp
theorem flatten_take_le {A : Type} (xs : List (List A)) (k : Nat) : (xs.take k).flatten.length ≤ xs.flatten.length := by
  conv => rhs; rw [← List.take_append_drop k xs, List.flatten_append, List.length_append]
  omega

/-- the segments of one list -/
def segL (l : List Pt) (ring : Bool) : List (Pt × Pt) := (way l ring).map fun z => (l.getD z.1 (0, 0), l.getD z.2 (0, 0))
/-- the segments of a feature, list by list -/
def segX (f : Fe) : List (List (Pt × Pt)) := (f.lines ++ f.rings).mapIdx fun i l => segL l (decide (f.lines.length ≤ i))
def segP (f : Fe) (k : Nat) : Nat := ((segX f).take k).flatten.length
def segF (f : Fe) : List (Pt × Pt) := (segX f).flatten
theorem segX_at {f : Fe} {k : Nat} {l : List Pt} (h : (f.lines ++ f.rings)[k]? = some l) : (segX f)[k]? = some (segL l (decide (f.lines.length ≤ k))) := by
  unfold segX; rw [List.getElem?_mapIdx, h]; rfl
theorem segP_succ {f : Fe} {k : Nat} {l : List Pt} (h : (f.lines ++ f.rings)[k]? = some l) : segP f (k + 1) = segP f k + (segL l (decide (f.lines.length ≤ k))).length := flatten_take_succ _ _ _ (segX_at h)
theorem segF_at {f : Fe} {k : Nat} {l : List Pt} (h : (f.lines ++ f.rings)[k]? = some l) {j : Nat} {x : Pt × Pt} (hx : (segL l (decide (f.lines.length ≤ k)))[j]? = some x) : (segF f)[segP f k + j]? = some x := flatten_at _ _ _ (segX_at h) j x hx
theorem segP_all (f : Fe) : segP f (f.lines ++ f.rings).length = (segF f).length := by
  unfold segP segF
  rw [List.take_of_length_le (by unfold segX; simp)]
theorem segL_step {l : List Pt} {ring : Bool} {i : Nat} {p q : Pt} (h1 : 1 ≤ i) (hp : l[i - 1]? = some p) (hq : l[i]? = some q) : (segL l ring)[i - 1]? = some (p, q) := by
  have hlt := (List.getElem?_eq_some_iff.1 hq).1
  unfold segL way
  rw [if_neg (by omega), List.map_append, List.getElem?_append_left (by simp; omega), List.getElem?_map, List.getElem?_map, List.getElem?_range (by omega)]
  simp only [Option.map_some, List.getD_eq_getElem?_getD, Nat.sub_add_cancel h1, hp, hq, Option.getD_some]
theorem segL_nil (ring : Bool) : segL [] ring = [] := by unfold segL way; simp
theorem segL_one (p : Pt) (ring : Bool) : segL [p] ring = [(p, p)] := by unfold segL way; simp
theorem segL_last {l : List Pt} {p q : Pt} (h : 1 < l.length) (hp : l[l.length - 1]? = some p) (hq : l[0]? = some q) (hne : p ≠ q) : (segL l true)[l.length - 1]? = some (p, q) ∧ (segL l true).length = l.length := by
  have hg : l.head? ≠ l.getLast? := by
    rw [List.getLast?_eq_getElem?, hp, List.head?_eq_getElem?, hq]
    intro e; cases e; exact hne rfl
  unfold segL way
  rw [if_neg (by omega), if_pos ⟨rfl, h, hg⟩]
  refine ⟨?_, by simp; omega⟩
  rw [List.map_append, List.getElem?_append_right (by simp)]
  simp only [List.length_map, List.length_range, Nat.sub_self, List.map_cons, List.getElem?_cons_zero, List.getD_eq_getElem?_getD, hp, hq, Option.getD_some]
theorem segL_open {l : List Pt} {ring : Bool} {p q : Pt} (h : 1 < l.length) (hp : l[l.length - 1]? = some p) (hq : l[0]? = some q) (hne : ring = false ∨ p = q) : (segL l ring).length = l.length - 1 := by
  have hg : ¬ (ring = true ∧ 1 < l.length ∧ l.head? ≠ l.getLast?) := by
    rintro ⟨h1, _, h3⟩
    rcases hne with h | h
    · rw [h] at h1; cases h1
    · apply h3
      rw [List.getLast?_eq_getElem?, hp, List.head?_eq_getElem?, hq, h]
  unfold segL way
  rw [if_neg (by omega), if_neg hg]
  simp
end Ft
end Go.Proofs.YtfbdkjonjpanfaaGreatDoor
