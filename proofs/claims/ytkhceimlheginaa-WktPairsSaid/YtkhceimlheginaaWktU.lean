import Derived.Test.YtkhceimlheginaaBase
import Derived.Deep.LoopGhost
import Derived.BigQuiet
set_option linter.unusedVariables false
set_option linter.unusedSimpArgs false
namespace Go.Proofs.Ytkhceimlheginaa
open Go.RowKit Go.Rg
attribute [local go_sem] Oper.semAt_some

set_option maxRecDepth 100000 in
set_option maxHeartbeats 4000000 in
/-- a list of pairs is itself -/
theorem eqPairs_any (v : Value) (l : List Wk.Pr) (w : World) (h : RdT 66 w v l.length (flatP l)) :
    Calls Try.prog 47 #[v, v] w fun e w' => e = .returned (.bool true) ∧ Below w.heap.size w w' := by
  obtain ⟨a, c, rfl, hm, ho⟩ := rdT_base2 h
  have Ho := Lib.hid ho
  unfold maxLen at hm
  obtain ⟨n, hn⟩ : ∃ n, n = l.length := ⟨_, rfl⟩
  rw [← hn] at hm ⊢
  have Hn := Lib.hid hn
  clear h ho hn
  go_enter Try.func47, Try.ntmps47
  go_wp2_with fail
  go_loopg [13] n (fun q s13 wx => ∃ i : Nat, i + q = n ∧ s13 = .int .i64 (i : Int) ∧ Hid (Below w.heap.size w wx))
  case atStart => exact ⟨0, by omega, rfl, Below.refl _ _⟩
  case round =>
    obtain ⟨i, hiq, rfl, Hb⟩ := hrel
    cases gk with
    | zero =>
      have hin : i = n := by omega
      subst hin
      go_wp2_with fail
      try rw [Exit.noGoto_ret]
      go_ret
      exact ⟨rfl, Hb.out⟩
    | succ q =>
      have hin : i < n := by omega
      obtain ⟨p, hp⟩ : ∃ p, l[i]? = some p := ⟨_, List.getElem?_eq_getElem (by rw [← Hn.out]; exact hin)⟩
      obtain ⟨f1, f2⟩ := flatP_at2 _ _ _ hp
      obtain ⟨g1, o1, rfl, h1, h2, h3, h4⟩ := Ho.out (fun e => by rw [e] at f1; cases f1)
      rw [← Hn.out] at h1
      have y1 : wr.cell? ⟨g1, o1 + i * 2, none⟩ = some (.string ⟨p.1.toArray⟩) := (Hb.out.cell (p := ⟨g1, o1 + i * 2, none⟩) h3).trans (h4 _ _ f1)
      have y2 : wr.cell? ⟨g1, o1 + i * 2 + 1, none⟩ = some (.string ⟨p.2.toArray⟩) := (Hb.out.cell (p := ⟨g1, o1 + i * 2 + 1, none⟩) h3).trans (h4 _ _ f2)
      unfold maxLen at h2
      clear h4 f1 f2 hp
      go_wp2_with fail
      go_quiet (fail)
      go_wp2_with fail
      go_roundg q
      case measure => omega
      case rel => exact ⟨i + 1, by omega, by first | rfl | simp, Hb.out.trans (below_drewN _ _ _)⟩

set_option maxRecDepth 100000 in
set_option maxHeartbeats 4000000 in
theorem eqInts_any (v : Value) (l : List Nat) (w : World) (h : RdT 3 w v l.length (intsN l)) :
    Calls Try.prog 48 #[v, v] w fun e w' => e = .returned (.bool true) ∧ Below w.heap.size w w' := by
  obtain ⟨a, c, rfl, hm, ho⟩ := rdT_base2 h
  have Ho := Lib.hid ho
  unfold maxLen at hm
  obtain ⟨n, hn⟩ : ∃ n, n = l.length := ⟨_, rfl⟩
  rw [← hn] at hm ⊢
  have Hn := Lib.hid hn
  clear h ho hn
  go_enter Try.func48, Try.ntmps48
  go_wp2_with fail
  go_loopg [13] n (fun q s13 wx => ∃ i : Nat, i + q = n ∧ s13 = .int .i64 (i : Int) ∧ Hid (Below w.heap.size w wx))
  case atStart => exact ⟨0, by omega, rfl, Below.refl _ _⟩
  case round =>
    obtain ⟨i, hiq, rfl, Hb⟩ := hrel
    cases gk with
    | zero =>
      have hin : i = n := by omega
      subst hin
      go_wp2_with fail
      try rw [Exit.noGoto_ret]
      go_ret
      exact ⟨rfl, Hb.out⟩
    | succ q =>
      have hin : i < n := by omega
      obtain ⟨p, hp⟩ : ∃ p, l[i]? = some p := ⟨_, List.getElem?_eq_getElem (by rw [← Hn.out]; exact hin)⟩
      have f1 : (intsN l)[i]? = some (.int .i64 (p : Int)) := by unfold intsN; rw [List.getElem?_map, hp]; rfl
      obtain ⟨g1, o1, rfl, h1, h2, h3, h4⟩ := Ho.out (fun e => by rw [e] at f1; cases f1)
      rw [← Hn.out] at h1
      have y1 : wr.cell? ⟨g1, o1 + i, none⟩ = some (.int .i64 (p : Int)) := (Hb.out.cell (p := ⟨g1, o1 + i, none⟩) h3).trans (h4 _ _ f1)
      unfold maxLen at h2
      clear h4 f1 hp
      go_wp2_with fail
      go_quiet (fail)
      go_wp2_with fail
      go_roundg q
      case measure => omega
      case rel => exact ⟨i + 1, by omega, by first | rfl | simp, Hb.out.trans (below_drewN _ _ _)⟩

set_option maxRecDepth 100000 in
set_option maxHeartbeats 4000000 in
theorem eqFunc_any (R : Nat) (v : Value) (vs : List Value) (ls : List (List Wk.Pr)) (w : World) (h : RdT 60 w v ls.length vs) (hvs : rdsL R w vs ls) :
    Calls Try.prog 46 #[v, v, .func (.func 47) #[] #[]] w fun e w' => e = .returned (.bool true) ∧ Below w.heap.size w w' := by
  obtain ⟨a, c, rfl, hm, ho⟩ := rdT_base2 h
  have Ho := Lib.hid ho
  have Hvs := Lib.hid hvs
  unfold maxLen at hm
  obtain ⟨n, hn⟩ : ∃ n, n = ls.length := ⟨_, rfl⟩
  rw [← hn] at hm ⊢
  have Hn := Lib.hid hn
  clear h ho hn hvs
  have eg : ∀ args w, (callFunc 47 args).run Try.prog w = .ok (.enter 47 args) w := fun args w => enters_of Try.func47 (by kernel_rfl) rfl args w
  go_enter Try.func46, Try.ntmps46
  go_wp2_with fail
  go_loopg [17] n (fun q s17 wx => ∃ i : Nat, i + q = n ∧ s17 = .int .i64 (i : Int) ∧ Hid (Below w.heap.size w wx))
  case atStart => exact ⟨0, by omega, rfl, Below.refl _ _⟩
  case round =>
    obtain ⟨i, hiq, rfl, Hb⟩ := hrel
    cases gk with
    | zero =>
      have hin : i = n := by omega
      subst hin
      go_wp2_with fail
      try rw [Exit.noGoto_ret]
      go_ret
      exact ⟨rfl, Hb.out⟩
    | succ q =>
      have hin : i < n := by omega
      obtain ⟨l, hl⟩ : ∃ l, ls[i]? = some l := ⟨_, List.getElem?_eq_getElem (by rw [← Hn.out]; exact hin)⟩
      obtain ⟨vk, hvk, hPk⟩ := rdsL_at2 Hvs.out hl
      obtain ⟨g1, o1, rfl, h1, h2, h3, h4⟩ := Ho.out (fun e => by rw [e] at hvk; cases hvk)
      rw [← Hn.out] at h1
      have y1 : wr.cell? ⟨g1, o1 + i, none⟩ = some vk := (Hb.out.cell (p := ⟨g1, o1 + i, none⟩) h3).trans (h4 _ _ hvk)
      have HPk := Lib.hid (hPk.1.keep (.call Hb.out))
      unfold maxLen at h2
      clear h4 hvk hPk hl
      go_wp2_with fail
      refine (eqPairs_any vk l wr HPk.out).mono ?_
      rintro e w5 ⟨rfl, hb5⟩
      have Hb5 := Lib.hid (Hb.out.trans (hb5.mono Hb.out.size))
      clear hb5
      go_wp2_with fail
      go_roundg q
      case measure => omega
      case rel => exact ⟨i + 1, by omega, by first | rfl | simp, Hb5⟩

set_option maxRecDepth 100000 in
set_option maxHeartbeats 4000000 in
/-- a geometry is itself -/
theorem equal_any (R : Nat) (g : Wk.Geo) (lv zv : Value) (w : World) (h : BodyR R w lv zv (g.lists, g.sizes)) :
    Calls Try.prog 28 #[gV2 g lv zv, gV2 g lv zv] w fun e w' => e = .returned (.bool true) ∧ Below w.heap.size w w' := by
  obtain ⟨vs, hl, hvs, hz⟩ := h
  obtain ⟨la, lc, rfl⟩ := pair_form (R := 0) hl
  obtain ⟨za, zc, rfl⟩ := pair_form (R := 0) hz
  obtain ⟨W0, hW0⟩ : ∃ W0, [.cells #[.int .i64 (g.kind : Int), .int .i64 (g.level : Int), .slice la g.lists.length lc, .slice za g.sizes.length zc] 50, .cells #[.int .i64 (g.kind : Int), .int .i64 (g.level : Int), .slice la g.lists.length lc, .slice za g.sizes.length zc] 50].foldl World.alloc w = W0 := ⟨_, rfl⟩
  have B0 : Blk W0 w.heap.size [.int .i64 (g.kind : Int), .int .i64 (g.level : Int), .slice la g.lists.length lc, .slice za g.sizes.length zc] 50 := Blk.allocs _ hW0 0 rfl
  have B1 : Blk W0 (w.heap.size + 1) [.int .i64 (g.kind : Int), .int .i64 (g.level : Int), .slice la g.lists.length lc, .slice za g.sizes.length zc] 50 := Blk.allocs _ hW0 1 rfl
  have hBel : Below w.heap.size w W0 := hW0 ▸ allocs_below _ w
  have hz0 : w.heap.size + 2 ≤ W0.heap.size := Nat.le_of_eq (hW0 ▸ allocs_size _ w).symm
  simp only [List.foldl_cons, List.foldl_nil] at hW0
  have a0 := B0.cell (j := 0) rfl
  have a1 := B0.cell (j := 1) rfl
  have a2 := B0.cell (j := 2) rfl
  have b0 := B1.cell (j := 0) rfl
  have b1 := B1.cell (j := 1) rfl
  have b2 := B1.cell (j := 2) rfl
  have Hl := Lib.hid (hl.keep (.call hBel))
  have Hvs := Lib.hid (hvs.keep (.call hBel))
  have Hz := Lib.hid hz
  have HB0 := Lib.hid B0
  have HB1 := Lib.hid B1
  have HBel := Lib.hid hBel
  unfold gV2
  clear B0 B1 hl hvs hz hBel
  go_enter Try.func28, Try.ntmps28
  go_wp2_with fail
  refine (eqFunc_any R _ vs g.lists W0 Hl.out Hvs.out).mono ?_
  rintro e w5 ⟨rfl, hb5⟩
  have hbw := HBel.out.trans (hb5.mono HBel.out.size)
  have q3 := (HB0.out.call hb5).cell (j := 3) rfl
  have q4 := (HB1.out.call hb5).cell (j := 3) rfl
  have Hz5 := Lib.hid (Hz.out.keep (.call hbw))
  have Hbw := Lib.hid hbw
  clear hb5 hbw
  go_wp2_with fail
  refine (eqInts_any _ g.sizes w5 Hz5.out).mono ?_
  rintro e w6 ⟨rfl, hb6⟩
  have hbw6 := Hbw.out.trans (hb6.mono Hbw.out.size)
  clear hb6
  go_wp2_with fail
  go_ret
  exact ⟨rfl, hbw6⟩
end Go.Proofs.Ytkhceimlheginaa
