import Derived.Test.YtegkdkilbnighaaRfA
set_option linter.unusedVariables false
set_option linter.unusedSimpArgs false
namespace Go.Proofs.Ytegkdkilbnighaa
open Go.RowKit Go.Rg
attribute [local go_sem] Oper.semAt_some

theorem info_rgeo : (Try.prog.info? 78).map (fun i => (i.zero, i.size, i.bytes)) = some (some (.agg #[.int .i64 0, .int .i64 0, .slice none 0 0, .slice none 0 0, .slice none 0 0]), 5, 88) := by kernel_rfl
theorem info_str : (Try.prog.info? 9).map (fun i => (i.zero, i.size, i.bytes)) = some (some (.string ⟨#[]⟩), 1, 16) := by kernel_rfl

theorem own_empty {W : World} (e : TypeId) (size base : Nat) (hb : base ≤ W.heap.size) : (W.alloc (.cells #[] e)).ownsRow base e size (.slice (some ⟨W.heap.size, 0, none⟩) 0 0) 0 [] :=
  ⟨by simp, .inr ⟨W.heap.size, 0, #[], rfl, hb, World.alloc_heap_new W _, Nat.le_refl _, Nat.zero_le _, by simp, by simp⟩⟩

/-- five stores into a block: whatever is of another type stays -/
theorem five {T' : TypeId} {X : World} {b : Nat} {cs : List Value} (h : Blk X b cs T') (v0 v1 v2 v3 v4 : Value) :
    (∀ T, T' ≠ T → KeepT T X (((((X.setCell ⟨b, 0, none⟩ v0).setCell ⟨b, 1, none⟩ v1).setCell ⟨b, 2, none⟩ v2).setCell ⟨b, 3, none⟩ v3).setCell ⟨b, 4, none⟩ v4)) ∧
    (∀ B, B ≤ b → Below B X (((((X.setCell ⟨b, 0, none⟩ v0).setCell ⟨b, 1, none⟩ v1).setCell ⟨b, 2, none⟩ v2).setCell ⟨b, 3, none⟩ v3).setCell ⟨b, 4, none⟩ v4)) ∧
    Blk (((((X.setCell ⟨b, 0, none⟩ v0).setCell ⟨b, 1, none⟩ v1).setCell ⟨b, 2, none⟩ v2).setCell ⟨b, 3, none⟩ v3).setCell ⟨b, 4, none⟩ v4) b (((((cs.set 0 v0).set 1 v1).set 2 v2).set 3 v3).set 4 v4) T' := by
  have h0 := h.set 0 v0
  have h1 := h0.set 1 v1
  have h2 := h1.set 2 v2
  have h3 := h2.set 3 v3
  refine ⟨fun T hT => ((((KeepT.set ⟨b, 0, none⟩ h hT v0).trans (KeepT.set ⟨b, 1, none⟩ h0 hT v1)).trans (KeepT.set ⟨b, 2, none⟩ h1 hT v2)).trans (KeepT.set ⟨b, 3, none⟩ h2 hT v3)).trans (KeepT.set ⟨b, 4, none⟩ h3 hT v4), fun B hB => ?_, h3.set 4 v4⟩
  exact (((((Below.refl B X).setCell (p := ⟨b, 0, none⟩) hB v0).setCell (p := ⟨b, 1, none⟩) hB v1).setCell (p := ⟨b, 2, none⟩) hB v2).setCell (p := ⟨b, 3, none⟩) hB v3).setCell (p := ⟨b, 4, none⟩) hB v4
theorem five_other {T' : TypeId} {X : World} {b b' : Nat} {cs : List Value} (h : Blk X b' cs T') (hne : b' ≠ b) (v0 v1 v2 v3 v4 : Value) :
    Blk (((((X.setCell ⟨b, 0, none⟩ v0).setCell ⟨b, 1, none⟩ v1).setCell ⟨b, 2, none⟩ v2).setCell ⟨b, 3, none⟩ v3).setCell ⟨b, 4, none⟩ v4) b' cs T' :=
  ((((h.other ⟨b, 0, none⟩ hne v0).other ⟨b, 1, none⟩ hne v1).other ⟨b, 2, none⟩ hne v2).other ⟨b, 3, none⟩ hne v3).other ⟨b, 4, none⟩ hne v4
theorem three {T' : TypeId} {X : World} {b : Nat} {cs : List Value} (h : Blk X b cs T') (v0 v1 v2 : Value) :
    (∀ T, T' ≠ T → KeepT T X (((X.setCell ⟨b, 0, none⟩ v0).setCell ⟨b, 1, none⟩ v1).setCell ⟨b, 2, none⟩ v2)) ∧
    (∀ B, B ≤ b → Below B X (((X.setCell ⟨b, 0, none⟩ v0).setCell ⟨b, 1, none⟩ v1).setCell ⟨b, 2, none⟩ v2)) ∧
    Blk (((X.setCell ⟨b, 0, none⟩ v0).setCell ⟨b, 1, none⟩ v1).setCell ⟨b, 2, none⟩ v2) b (((cs.set 0 v0).set 1 v1).set 2 v2) T' := by
  have h0 := h.set 0 v0
  have h1 := h0.set 1 v1
  refine ⟨fun T hT => ((KeepT.set ⟨b, 0, none⟩ h hT v0).trans (KeepT.set ⟨b, 1, none⟩ h0 hT v1)).trans (KeepT.set ⟨b, 2, none⟩ h1 hT v2), fun B hB => ?_, h1.set 2 v2⟩
  exact (((Below.refl B X).setCell (p := ⟨b, 0, none⟩) hB v0).setCell (p := ⟨b, 1, none⟩) hB v1).setCell (p := ⟨b, 2, none⟩) hB v2

theorem closed_any (g : Wk.RGeo) (hk : g.kind ≤ 6) (pv cv sv : Value) (w : World) (h : RdR w pv cv sv g) :
    Calls Try.prog 53 #[rgV g pv cv sv] w fun e w' => e = .returned (.int .i64 (Wk.closedAt g : Nat)) ∧ Below w.heap.size w w' := by
  have h1 := rdT_one h.1
  have h2 := rdT_one h.2.1
  have h3 := rdT_one h.2.2
  clear h
  unfold rgV
  obtain ⟨r, hr⟩ : ∃ r, r = Wk.closedAt g := ⟨_, rfl⟩
  have hfin : r = if Wk.deeper g.kind = 1 ∨ Wk.deeper g.kind = 2 then 10 else 7 := hr
  rw [← hr]
  have Hfin := Lib.hid hfin
  clear hfin hr
  go_enter Try.func53, Try.ntmps53
  go_wp2_with fail
  have hb0 : Below w.heap.size w (w.alloc (.cells #[.int .i64 (g.kind : Int), .int .i64 (g.level : Int), pv, cv, sv] 78)) := (Below.refl _ w).alloc (Nat.le_refl _) _
  refine (deeper_any g.kind hk _).mono ?_
  rintro e w1 ⟨rfl, hb1⟩
  have hb : Below w.heap.size w w1 := hb0.trans (hb1.mono (by simp))
  obtain ⟨d, hd⟩ : ∃ d, d = Wk.deeper g.kind := ⟨_, rfl⟩
  have hr : r = if d = 1 ∨ d = 2 then 10 else 7 := by rw [Hfin.out, hd]
  rw [← hd]
  clear hb0 hb1 hd Hfin
  by_cases d1 : d = 1
  · subst d1
    obtain rfl : r = 10 := hr
    go_wp2_with fail
    go_ret
    exact ⟨rfl, hb⟩
  · by_cases d2 : d = 2
    · subst d2
      obtain rfl : r = 10 := hr
      go_wp2_with fail
      go_ret
      exact ⟨rfl, hb⟩
    · have e1 : ((d : Int) == 1) = false := by simp; omega
      have e2 : ((d : Int) == 2) = false := by simp; omega
      rw [if_neg (by omega)] at hr
      subst hr
      go_wp2_with fail
      go_ret
      exact ⟨rfl, hb⟩

theorem last_any (a lev : Nat) (ov : Value) (o : List Wk.RGeo) (g : Wk.RGeo) (pv cv sv : Value) (w : World) (h : RdZ w ov o g pv cv sv) (ho : o.length ≤ 1000000) :
    Calls Try.prog 50 #[.agg #[.int .i64 (a : Int), .int .i64 (lev : Int), ov]] w fun e w' => e = .returned (rgV g pv cv sv) ∧ Below w.heap.size w w' := by
  obtain ⟨co, h1, h2, h3⟩ := h
  have hl := h2.len
  obtain ⟨gb, off, cap, rfl, hgl, hcl, hcm, hc⟩ := rdT_opens h1 (by simp [rgC])
  have cell : ∀ j x, (rgC g pv cv sv)[j]? = some x → w.cell? ⟨gb, off + o.length * 5 + j, none⟩ = some x := fun j x hj => by
    have := hc (co.length + j) x (by rw [List.getElem?_append_right (by omega)]; rw [Nat.add_sub_cancel_left]; exact hj)
    rw [hl] at this
    rwa [← Nat.add_assoc] at this
  have c0 := cell 0 _ rfl
  have c1 := cell 1 _ rfl
  have c2 := cell 2 _ rfl
  have c3 := cell 3 _ rfl
  have c4 := cell 4 _ rfl
  rw [Nat.add_zero] at c0
  unfold maxLen at hcm
  obtain ⟨pa, pc, rfl⟩ := pair_form (R := 0) h3.1
  obtain ⟨ca, cc, rfl⟩ := pair_form (R := 0) h3.2.1
  obtain ⟨sa, sc, rfl⟩ := pair_form (R := 0) h3.2.2
  clear hc cell h1 h2 h3 hl
  unfold rgV
  go_enter Try.func50, Try.ntmps50
  go_wp2_with fail
  refine bodyPost_ret (v := .agg #[.int .i64 (g.kind : Int), .int .i64 (g.level : Int), .slice pa g.pairs.length pc, .slice ca g.counts.length cc, .slice sa g.size.length sc]) (by simp [results, Try.results50, go_sem]) rfl ⟨rfl, ?_⟩
  exact ((Below.refl _ w).alloc (Nat.le_refl _) _).alloc (by simp) _

theorem more_any (g : Wk.RGeo) (pv cv sv : Value) (w : World) (h : RdR w pv cv sv g) (hn : g.counts.length ≤ 1000000) :
    Calls Try.prog 56 #[rgV g pv cv sv] w fun e w' => ∃ cv', e = .returned (rgV (Wk.more g) pv cv' sv) ∧ RdR w' pv cv' sv (Wk.more g) ∧ Below w.heap.size w w' := by
  obtain ⟨pa, pc, rfl⟩ := pair_form (R := 0) h.1
  obtain ⟨ca, cc, rfl⟩ := pair_form (R := 0) h.2.1
  obtain ⟨sa, sc, rfl⟩ := pair_form (R := 0) h.2.2
  unfold rgV
  obtain ⟨W0, hW0⟩ : ∃ W0, [.cells #[.int .i64 (g.kind : Int), .int .i64 (g.level : Int), .slice pa g.pairs.length pc, .slice ca g.counts.length cc, .slice sa g.size.length sc] 78, .cells #[.int .i64 0, .int .i64 0, .slice none 0 0, .slice none 0 0, .slice none 0 0] 78].foldl World.alloc w = W0 := ⟨_, rfl⟩
  have hA0 : Blk W0 w.heap.size [.int .i64 (g.kind : Int), .int .i64 (g.level : Int), .slice pa g.pairs.length pc, .slice ca g.counts.length cc, .slice sa g.size.length sc] 78 := Blk.allocs _ hW0 0 rfl
  have hA1 : Blk W0 (w.heap.size + 1) [.int .i64 0, .int .i64 0, .slice none 0 0, .slice none 0 0, .slice none 0 0] 78 := Blk.allocs _ hW0 1 rfl
  have hBel : Below w.heap.size w W0 := hW0 ▸ allocs_below _ w
  have hz0 : w.heap.size + 1 + 1 ≤ W0.heap.size := Nat.le_of_eq (hW0 ▸ allocs_size _ w).symm
  simp only [List.foldl_cons, List.foldl_nil] at hW0
  have HR := Lib.hid ((h.call hBel).call ((Below.refl _ W0).alloc (Nat.le_refl _) (.cells #[] 3)))
  have O1 := Lib.hid (own_empty (W := W0) 3 1 W0.heap.size (Nat.le_refl _))
  have hB0 := hA0.alloc (.cells #[] 3)
  have hB1 := hA1.alloc (.cells #[] 3)
  have hz1 : W0.heap.size ≤ (W0.alloc (.cells #[] 3)).heap.size := by simp
  have hBel1 : Below w.heap.size w (W0.alloc (.cells #[] 3)) := hBel.alloc (by omega) _
  have Hh := Lib.hid h
  clear h hA0 hA1 hBel
  go_enter Try.func56, Try.ntmps56
  have cB3 := hB0.cell (j := 3) rfl
  go_wp2_with (at_builtin; refine wpList_append2 _ rfl _ _ 38 rfl W0.heap.size 3 (.int .i64 0) 1 8 Try.underlying38 info_int rfl (by decide) (.slice (some ⟨W0.heap.size, 0, none⟩) 0 0) 0 _ rfl O1.out _ _ g.counts.length (intsN g.counts) rfl HR.out.2.1.reads (by simp [intsN]) (by simp [intsN, Value.oneCell']) (by unfold maxLen; omega) (by omega) hz1 ?_)
  intro v1 w1 own1 grow1 mov1
  have k0 := hB0.appended O1.out (by omega) grow1
  have k1 := hB1.appended O1.out (by omega) grow1
  have hb1 : Below w.heap.size w w1 := hBel1.grown grow1 hBel1.size (fun k e => by have e' : some W0.heap.size = some k := e; injection e' with e''; omega)
  have hz2 : W0.heap.size ≤ w1.heap.size := Nat.le_trans hz1 grow1.size
  have own2 := Lib.hid (own_call own1 ((Below.refl _ w1).alloc (Nat.le_refl _) (.cells #[.int .i64 0] 3)))
  have j0 := k0.alloc (.cells #[.int .i64 0] 3)
  have j1 := k1.alloc (.cells #[.int .i64 0] 3)
  have hb2 : Below w.heap.size w (w1.alloc (.cells #[.int .i64 0] 3)) := hb1.alloc hb1.size _
  have hz3 : W0.heap.size ≤ (w1.alloc (.cells #[.int .i64 0] 3)).heap.size := by simp; omega
  clear own1 grow1 mov1 k0 k1 hb1 O1 hB0 hB1 cB3
  go_wp2_with (at_builtin; refine wpList_append2 _ rfl _ _ 38 rfl W0.heap.size 3 (.int .i64 0) 1 8 Try.underlying38 info_int rfl (by decide) v1 g.counts.length _ rfl own2.out _ _ 1 [.int .i64 0] rfl (reads_new _ _ _ 1 1 (by decide) (by decide)) rfl (by simp [Value.oneCell']) (by unfold maxLen; omega) (by omega) hz3 ?_)
  intro v2 w2 own3 grow2 mov2
  obtain ⟨a2, c2, rfl⟩ := own_form own3
  have l0 := j0.appended own2.out (by omega) grow2
  have l1 := j1.appended own2.out (by omega) grow2
  have hb3 : Below w.heap.size w w2 := hb2.grown grow2 (by have := hb2.size; omega) (fun k e => by have := (own2.out.lt k e).1; omega)
  have f3 := l0.frozen 3
  have d0 := l0.cell (j := 0) rfl
  have d1 := l0.cell (j := 1) rfl
  have d2 := l0.cell (j := 2) rfl
  have d3 := l0.cell (j := 3) rfl
  have d4 := l0.cell (j := 4) rfl
  have e0 : w2.cell? ⟨w.heap.size + 1, 0, none⟩ = some (.int .i64 0) := l1.cell (j := 0) rfl
  have e1 : w2.cell? ⟨w.heap.size + 1, 1, none⟩ = some (.int .i64 0) := l1.cell (j := 1) rfl
  have e2 : w2.cell? ⟨w.heap.size + 1, 2, none⟩ = some (.slice none 0 0) := l1.cell (j := 2) rfl
  have e3 : w2.cell? ⟨w.heap.size + 1, 3, none⟩ = some (.slice none 0 0) := l1.cell (j := 3) rfl
  have e4 : w2.cell? ⟨w.heap.size + 1, 4, none⟩ = some (.slice none 0 0) := l1.cell (j := 4) rfl
  have g0 := l1.frozen 0
  have g1 := l1.frozen 1
  have g2 := l1.frozen 2
  have g3 := l1.frozen 3
  have g4 := l1.frozen 4
  have L0 := Lib.hid l0
  have L1 := Lib.hid l1
  have Own3 := Lib.hid own3
  have Hb3 := Lib.hid hb3
  clear own3 grow2 mov2 own2 j0 j1 hb2 l0 l1 hb3
  go_wp2_with fail
  have M1 := L1.out.other ⟨w.heap.size, 3, none⟩ (by show w.heap.size + 1 ≠ w.heap.size; omega) (.slice a2 (g.counts.length + 1) c2)
  obtain ⟨kp, bl, _⟩ := five M1 (.int .i64 (g.kind : Int)) (.int .i64 (g.level : Int)) (.slice pa g.pairs.length pc) (.slice a2 (g.counts.length + 1) c2) (.slice sa g.size.length sc)
  have hbf := (Hb3.out.setCell (p := ⟨w.heap.size, 3, none⟩) (Nat.le_refl _) (.slice a2 (g.counts.length + 1) c2)).trans (bl w.heap.size (Nat.le_succ _))
  refine bodyPost_ret (v := .agg #[.int .i64 (g.kind : Int), .int .i64 (g.level : Int), .slice pa g.pairs.length pc, .slice a2 (g.counts.length + 1) c2, .slice sa g.size.length sc]) (by simp [results, Try.results56, go_sem, *]) rfl ⟨_, rfl, ⟨(Hh.out.call hbf).1, ?_, (Hh.out.call hbf).2.2⟩, hbf⟩
  have := (RdT.of_own Own3.out).keep ((KeepT.set (T := 3) ⟨w.heap.size, 3, none⟩ L0.out (by decide) _).trans (kp _ (by decide)))
  simpa [Wk.more, intsN] using this
end Go.Proofs.Ytegkdkilbnighaa

namespace Go.Proofs.Ytegkdkilbnighaa
open Go.RowKit Go.Rg
attribute [local go_sem] Oper.semAt_some

set_option maxRecDepth 100000 in
set_option maxHeartbeats 4000000 in
theorem counted_any (g : Wk.RGeo) (hk : g.kind ≤ 6) (pv cv sv : Value) (w : World) (h : RdR w pv cv sv g) (hn : g.size.length ≤ 1000000) (hne : Wk.deeper g.kind = 5 → g.size ≠ []) (hs : ∀ n ∈ g.size, n ≤ 1000000) :
    Calls Try.prog 55 #[rgV g pv cv sv] w fun e w' => ∃ sv', e = .returned (rgV (Wk.counted g) pv cv sv') ∧ RdR w' pv cv sv' (Wk.counted g) ∧ Below w.heap.size w w' := by
  obtain ⟨pa, pc, rfl⟩ := pair_form (R := 0) h.1
  obtain ⟨ca, cc, rfl⟩ := pair_form (R := 0) h.2.1
  obtain ⟨sa, sc, rfl⟩ := pair_form (R := 0) h.2.2
  unfold rgV
  obtain ⟨W0, hW0⟩ : ∃ W0, [.cells #[.int .i64 (g.kind : Int), .int .i64 (g.level : Int), .slice pa g.pairs.length pc, .slice ca g.counts.length cc, .slice sa g.size.length sc] 78, .cells #[.int .i64 0, .int .i64 0, .slice none 0 0, .slice none 0 0, .slice none 0 0] 78].foldl World.alloc w = W0 := ⟨_, rfl⟩
  have hA0 : Blk W0 w.heap.size [.int .i64 (g.kind : Int), .int .i64 (g.level : Int), .slice pa g.pairs.length pc, .slice ca g.counts.length cc, .slice sa g.size.length sc] 78 := Blk.allocs _ hW0 0 rfl
  have hA1 : Blk W0 (w.heap.size + 1) [.int .i64 0, .int .i64 0, .slice none 0 0, .slice none 0 0, .slice none 0 0] 78 := Blk.allocs _ hW0 1 rfl
  have hBel : Below w.heap.size w W0 := hW0 ▸ allocs_below _ w
  have hz0 : w.heap.size + 1 + 1 ≤ W0.heap.size := Nat.le_of_eq (hW0 ▸ allocs_size _ w).symm
  simp only [List.foldl_cons, List.foldl_nil] at hW0
  have Hh := Lib.hid h
  have H0 := Lib.hid (h.call hBel)
  obtain ⟨d, hd⟩ : ∃ d, d = Wk.deeper g.kind := ⟨_, rfl⟩
  have hcnt : Wk.counted g = if d = 5 then { g with size := Wk.bump g.size } else g := by rw [hd]; rfl
  have hne' : d = 5 → g.size ≠ [] := by rw [hd]; exact hne
  obtain ⟨cg, hcg⟩ : ∃ cg, cg = Wk.counted g := ⟨_, rfl⟩
  rw [← hcg] at hcnt ⊢
  have Hd := Lib.hid hd
  clear h hd hne hcg
  go_enter Try.func55, Try.ntmps55
  have cB0 := hA0.cell (j := 0) rfl
  go_wp2_with fail
  refine (deeper_any g.kind hk _).mono ?_
  rintro e w1 ⟨rfl, hb1⟩
  rw [← Hd.out]
  have j0 := hA0.call hb1
  have j1 := hA1.call hb1
  have hbw1 : Below w.heap.size w w1 := hBel.trans (hb1.mono hBel.size)
  have hz1 : w.heap.size + 1 + 1 ≤ w1.heap.size := Nat.le_trans hz0 hb1.size
  have H1 := Lib.hid (H0.out.call hb1)
  clear hb1 hBel cB0 hA0 hA1
  by_cases h5 : d = 5
  · rw [if_pos h5] at hcnt
    have hne'' := hne' h5
    obtain ⟨l, m, hlm⟩ : ∃ l m, g.size = l ++ [m] := by
      rcases List.eq_nil_or_concat g.size with h | ⟨l, m, h⟩
      · exact absurd h hne''
      · exact ⟨l, m, by rw [h, List.concat_eq_append]⟩
    have hb : Wk.bump g.size = l ++ [m + 1] := by rw [hlm]; exact Wk.bump_snoc l m
    have hm : m ≤ 1000000 := hs m (by rw [hlm]; simp)
    have hgl : g.size.length = l.length + 1 := by rw [hlm]; simp
    rw [hb] at hcnt
    subst h5
    have O1 := Lib.hid (own_empty (W := w1) 3 1 w1.heap.size (Nat.le_refl _))
    have q0 := j0.alloc (.cells #[] 3)
    have q1 := j1.alloc (.cells #[] 3)
    have hz2 : w1.heap.size ≤ (w1.alloc (.cells #[] 3)).heap.size := by simp
    have hbw2 : Below w.heap.size w (w1.alloc (.cells #[] 3)) := hbw1.alloc (by omega) _
    have hrd := H1.out.2.2.keep (.alloc (.cells #[] 3))
    rw [hlm] at hrd
    have HR := Lib.hid hrd
    have cB4 := q0.cell (j := 4) rfl
    have Hcnt := Lib.hid hcnt
    have Hlm := Lib.hid hlm
    have hll : (l ++ [m]).length = l.length + 1 := by simp
    rw [hll] at HR
    have hn' : l.length + 1 ≤ 1000000 := by omega
    rw [hgl] at q0 cB4
    clear hrd hcnt hlm hne'' hne' hb hs hn j0 j1 hbw1 hll
    go_wp2_with (at_builtin; refine wpList_append2 _ rfl _ _ 38 rfl w1.heap.size 3 (.int .i64 0) 1 8 Try.underlying38 info_int rfl (by decide) (.slice (some ⟨w1.heap.size, 0, none⟩) 0 0) 0 _ rfl O1.out _ _ (l.length + 1) (intsN (l ++ [m])) rfl HR.out.reads (by simp [intsN]) (intsN_one _) (by unfold maxLen; omega) (by omega) hz2 ?_)
    intro v1 w2 own1 grow1 mov1
    obtain ⟨gr, rc, rfl, hgr, hgl2, hrc, hrm, fr, cr⟩ := own_cons (show w2.ownsRow w1.heap.size 3 1 v1 (l.length + 1) (intsN (l ++ [m])) by simpa using own1)
    have c5 := cr l.length (.int .i64 (m : Int)) (by simp [intsN])
    have f5 := fr l.length
    have l0 := q0.appended O1.out (by omega) grow1
    have l1 := q1.appended O1.out (by omega) grow1
    have hb3 : Below w.heap.size w w2 := hbw2.grown grow1 hbw2.size (fun k e => by have e' : some w1.heap.size = some k := e; injection e' with e''; omega)
    obtain ⟨d0, d1, d2, d3, d4⟩ := cells5 l0
    have l1' : Blk w2 (w.heap.size + 1) [.int .i64 0, .int .i64 0, .slice none 0 0, .slice none 0 0, .slice none 0 0] 78 := l1
    obtain ⟨e0, e1, e2, e3, e4⟩ := cells5 l1'
    obtain ⟨g0, g1, g2, g3, g4⟩ := frozen5 l1'
    have f4 := l0.frozen 4
    have L0 := Lib.hid l0
    have L1 := Lib.hid l1'
    have Own1 := Lib.hid (show w2.ownsRow w1.heap.size 3 1 (.slice (some ⟨gr, 0, none⟩) (l.length + 1) rc) (l.length + 1) (intsN (l ++ [m])) by simpa using own1)
    have Hb3 := Lib.hid hb3
    have hgrn : gr ≠ w.heap.size := by omega
    have hgrn1 : gr ≠ w.heap.size + 1 := by omega
    unfold maxLen at hrm
    clear own1 grow1 mov1 q0 q1 hbw2 l0 l1 hb3 l1' fr cr cB4 O1 HR
    go_wp2_with fail
    have M1 := (L1.out.other ⟨w.heap.size, 4, none⟩ (by show w.heap.size + 1 ≠ w.heap.size; omega) (.slice (some ⟨gr, 0, none⟩) (l.length + 1) rc)).other ⟨gr, l.length, none⟩ (by show w.heap.size + 1 ≠ gr; omega) (.int .i64 ((m : Int) + 1))
    obtain ⟨kp, bl, _⟩ := five M1 (.int .i64 (g.kind : Int)) (.int .i64 (g.level : Int)) (.slice pa g.pairs.length pc) (.slice ca g.counts.length cc) (.slice (some ⟨gr, 0, none⟩) (l.length + 1) rc)
    have hbf := (((Hb3.out.setCell (p := ⟨w.heap.size, 4, none⟩) (Nat.le_refl _) (.slice (some ⟨gr, 0, none⟩) (l.length + 1) rc))).setCell (p := ⟨gr, l.length, none⟩) (by show w.heap.size ≤ gr; omega) (.int .i64 ((m : Int) + 1))).trans (bl w.heap.size (Nat.le_succ _))
    have O2 := own_set (own_other Own1.out ⟨w.heap.size, 4, none⟩ (by show w.heap.size < w1.heap.size; omega) (.slice (some ⟨gr, 0, none⟩) (l.length + 1) rc)) l.length (.int .i64 ((m : Int) + 1))
    have hcg := Hcnt.out
    subst hcg
    refine bodyPost_ret (v := .agg #[.int .i64 (g.kind : Int), .int .i64 (g.level : Int), .slice pa g.pairs.length pc, .slice ca g.counts.length cc, .slice (some ⟨gr, 0, none⟩) (l.length + 1) rc]) (by simp [results, Try.results55, go_sem, hgrn, hgrn1, *]) rfl ⟨_, rfl, ⟨(Hh.out.call hbf).1, (Hh.out.call hbf).2.1, ?_⟩, hbf⟩
    have := (RdT.of_own O2).keep (kp _ (by decide))
    simpa [intsN] using this
  · rw [if_neg h5] at hcnt
    subst hcnt
    have e5 : ((d : Int) == 5) = false := by simp; omega
    obtain ⟨d0, d1, d2, d3, d4⟩ := cells5 j0
    have j1' : Blk w1 (w.heap.size + 1) [.int .i64 0, .int .i64 0, .slice none 0 0, .slice none 0 0, .slice none 0 0] 78 := j1
    obtain ⟨e0, e1, e2, e3, e4⟩ := cells5 j1'
    obtain ⟨g0, g1, g2, g3, g4⟩ := frozen5 j1'
    have Hb3 := Lib.hid hbw1
    have L1 := Lib.hid j1'
    clear j0 j1 j1' hne' hs hbw1
    go_wp2_with fail
    obtain ⟨kp, bl, _⟩ := five L1.out (.int .i64 (cg.kind : Int)) (.int .i64 (cg.level : Int)) (.slice pa cg.pairs.length pc) (.slice ca cg.counts.length cc) (.slice sa cg.size.length sc)
    have hbf := Hb3.out.trans (bl w.heap.size (Nat.le_succ _))
    refine bodyPost_ret (v := .agg #[.int .i64 (cg.kind : Int), .int .i64 (cg.level : Int), .slice pa cg.pairs.length pc, .slice ca cg.counts.length cc, .slice sa cg.size.length sc]) (by simp [results, Try.results55, go_sem, *]) rfl ⟨_, rfl, Hh.out.call hbf, hbf⟩

set_option maxRecDepth 100000 in
set_option maxHeartbeats 4000000 in
theorem with_any (a b lev : Nat) (ov : Value) (o : List Wk.RGeo) (g0 g : Wk.RGeo) (pv0 cv0 sv0 pv cv sv : Value) (w : World) (h : RdZ w ov o g0 pv0 cv0 sv0) (hg : RdR w pv cv sv g) (ho : o.length ≤ 1000000) :
    Calls Try.prog 52 #[.agg #[.int .i64 (a : Int), .int .i64 (lev : Int), ov], rgV g pv cv sv, .int .i64 (b : Int)] w fun e w' => ∃ ov', e = .returned (.agg #[.int .i64 (b : Int), .int .i64 (lev : Int), ov']) ∧ RdZ w' ov' o g pv cv sv ∧ Below w.heap.size w w' := by
  obtain ⟨co, h1, h2, h3⟩ := h
  have hl := h2.len
  obtain ⟨gb, off, cap, rfl, hgl, hcl, hcm, hc⟩ := rdT_opens h1 (by simp [rgC])
  have hrd : Reads w w.heap.size (.slice (some ⟨gb, off, none⟩) o.length cap) o.length co := .inr ⟨gb, off, cap, rfl, hgl, by omega, hcm, fun j x hj => hc j x (by rw [List.getElem?_append_left (List.getElem?_eq_some_iff.1 hj).1]; exact hj)⟩
  obtain ⟨pa, pc, rfl⟩ := pair_form (R := 0) hg.1
  obtain ⟨ca, cc, rfl⟩ := pair_form (R := 0) hg.2.1
  obtain ⟨sa, sc, rfl⟩ := pair_form (R := 0) hg.2.2
  have hone := h2.one
  unfold rgV
  obtain ⟨W0, hW0⟩ : ∃ W0, [.cells #[.int .i64 (a : Int), .int .i64 (lev : Int), .slice (some ⟨gb, off, none⟩) (o.length + 1) cap] 62, .cells #[.int .i64 (g.kind : Int), .int .i64 (g.level : Int), .slice pa g.pairs.length pc, .slice ca g.counts.length cc, .slice sa g.size.length sc] 78, .cells #[.int .i64 0, .int .i64 0, .slice none 0 0] 62].foldl World.alloc w = W0 := ⟨_, rfl⟩
  have hA0 : Blk W0 w.heap.size [.int .i64 (a : Int), .int .i64 (lev : Int), .slice (some ⟨gb, off, none⟩) (o.length + 1) cap] 62 := Blk.allocs _ hW0 0 rfl
  have hA1 : Blk W0 (w.heap.size + 1) [.int .i64 (g.kind : Int), .int .i64 (g.level : Int), .slice pa g.pairs.length pc, .slice ca g.counts.length cc, .slice sa g.size.length sc] 78 := Blk.allocs _ hW0 1 rfl
  have hA2 : Blk W0 (w.heap.size + 1 + 1) [.int .i64 0, .int .i64 0, .slice none 0 0] 62 := Blk.allocs _ hW0 2 rfl
  have hBel : Below w.heap.size w W0 := hW0 ▸ allocs_below _ w
  have hz0 : w.heap.size + 3 ≤ W0.heap.size := Nat.le_of_eq (hW0 ▸ allocs_size _ w).symm
  simp only [List.foldl_cons, List.foldl_nil] at hW0
  have HR := Lib.hid ((hrd.below hBel).mono hBel.size)
  have H2 := Lib.hid h2
  have Hg := Lib.hid hg
  have Hone := Lib.hid hone
  have cA := hA0.cell (j := 2) rfl
  unfold maxLen at hcm
  clear h1 h2 h3 hc hrd hg hone hgl
  go_enter Try.func52, Try.ntmps52
  go_wp2_with (at_builtin; refine wpList_append2 _ rfl _ _ 27 rfl W0.heap.size 78 (.agg #[.int .i64 0, .int .i64 0, .slice none 0 0, .slice none 0 0, .slice none 0 0]) 5 88 Try.underlying27 info_rgeo rfl (by decide) (.slice none 0 0) 0 _ rfl (World.ownsRow_nil _ _ _ _) _ _ o.length co rfl HR.out hl Hone.out (by unfold maxLen; omega) (by omega) (Nat.le_refl _) ?_)
  intro v1 w1 own1 grow1 mov1
  have q0 := hA0.grown grow1 (by simp [Value.ownBlock])
  have q1 := hA1.grown grow1 (by simp [Value.ownBlock])
  have q2 := hA2.grown grow1 (by simp [Value.ownBlock])
  have hb1 : Below w.heap.size w w1 := hBel.grown grow1 hBel.size (fun k e => by cases e)
  have hz1 : W0.heap.size ≤ w1.heap.size := grow1.size
  have own2 := Lib.hid (own_call own1 ((Below.refl _ w1).alloc (Nat.le_refl _) (.cells #[.int .i64 (g.kind : Int), .int .i64 (g.level : Int), .slice pa g.pairs.length pc, .slice ca g.counts.length cc, .slice sa g.size.length sc] 78)))
  have j0 := q0.alloc (.cells #[.int .i64 (g.kind : Int), .int .i64 (g.level : Int), .slice pa g.pairs.length pc, .slice ca g.counts.length cc, .slice sa g.size.length sc] 78)
  have j2 := q2.alloc (.cells #[.int .i64 (g.kind : Int), .int .i64 (g.level : Int), .slice pa g.pairs.length pc, .slice ca g.counts.length cc, .slice sa g.size.length sc] 78)
  have hb2 : Below w.heap.size w (w1.alloc (.cells #[.int .i64 (g.kind : Int), .int .i64 (g.level : Int), .slice pa g.pairs.length pc, .slice ca g.counts.length cc, .slice sa g.size.length sc] 78)) := hb1.alloc hb1.size _
  have hz2 : W0.heap.size ≤ (w1.alloc (.cells #[.int .i64 (g.kind : Int), .int .i64 (g.level : Int), .slice pa g.pairs.length pc, .slice ca g.counts.length cc, .slice sa g.size.length sc] 78)).heap.size := by simp; omega
  obtain ⟨k0, k1, k2, k3, k4⟩ := cells5 q1
  clear own1 grow1 mov1 q0 q1 q2 hb1 HR hA0 hA1 hA2 cA hBel
  go_wp2_with (at_builtin; refine wpList_append2 _ rfl _ _ 27 rfl W0.heap.size 78 (.agg #[.int .i64 0, .int .i64 0, .slice none 0 0, .slice none 0 0, .slice none 0 0]) 5 88 Try.underlying27 info_rgeo rfl (by decide) v1 o.length _ rfl own2.out _ _ 1 [.int .i64 (g.kind : Int), .int .i64 (g.level : Int), .slice pa g.pairs.length pc, .slice ca g.counts.length cc, .slice sa g.size.length sc] rfl (reads_new _ _ _ 1 1 (by decide) (by decide)) rfl (by simp [Value.oneCell']) (by unfold maxLen; omega) (by omega) hz2 ?_)
  intro v2 w2 own3 grow2 mov2
  obtain ⟨a2, c2, rfl⟩ := own_form own3
  have hrow : ∀ k, v1.ownBlock = some k → W0.heap.size ≤ k := fun k e => (own2.out.lt k e).1
  have l0 : Blk w2 w.heap.size [.int .i64 (a : Int), .int .i64 (lev : Int), .slice (some ⟨gb, off, none⟩) (o.length + 1) cap] 62 := j0.grown grow2 (fun e => by have := hrow _ e.symm; omega)
  have l2 : Blk w2 (w.heap.size + 1 + 1) [.int .i64 0, .int .i64 0, .slice none 0 0] 62 := j2.grown grow2 (fun e => by have := hrow _ e.symm; omega)
  have hb3 : Below w.heap.size w w2 := hb2.grown grow2 hb2.size (fun k e => by have := hrow k e; omega)
  obtain ⟨d0, d1, d2⟩ := cells3 l0
  obtain ⟨e0, e1, e2⟩ := cells3 l2
  obtain ⟨g0', g1', g2', _, _⟩ := frozen5 l0
  obtain ⟨f0, f1, f2, _, _⟩ := frozen5 l2
  have L0 := Lib.hid l0
  have L2 := Lib.hid l2
  have Own3 := Lib.hid own3
  have Hb3 := Lib.hid hb3
  clear own3 grow2 mov2 own2 j0 j2 hb2 l0 l2 hb3 hrow k0 k1 k2 k3 k4
  go_wp2_with fail
  have M0 := L0.out.set 2 (.slice a2 (o.length + 1) c2)
  have M2 := (L2.out.other ⟨w.heap.size, 2, none⟩ (by show w.heap.size + 1 + 1 ≠ w.heap.size; omega) (.slice a2 (o.length + 1) c2)).other ⟨w.heap.size, 0, none⟩ (by show w.heap.size + 1 + 1 ≠ w.heap.size; omega) (.int .i64 (b : Int))
  obtain ⟨kp, bl, _⟩ := three M2 (.int .i64 (b : Int)) (.int .i64 (lev : Int)) (.slice a2 (o.length + 1) c2)
  have hbf := ((Hb3.out.setCell (p := ⟨w.heap.size, 2, none⟩) (Nat.le_refl _) (.slice a2 (o.length + 1) c2)).setCell (p := ⟨w.heap.size, 0, none⟩) (Nat.le_refl _) (.int .i64 (b : Int))).trans (bl w.heap.size (by omega))
  refine bodyPost_ret (v := .agg #[.int .i64 (b : Int), .int .i64 (lev : Int), .slice a2 (o.length + 1) c2]) (by simp [results, Try.results52, go_sem, *]) rfl ⟨_, rfl, ⟨co, ?_, H2.out.keep (.call hbf) (.call hbf), Hg.out.call hbf⟩, hbf⟩
  exact (RdT.of_own Own3.out).keep (((KeepT.set (T := 78) ⟨w.heap.size, 2, none⟩ L0.out (by decide) _).trans (KeepT.set (T := 78) ⟨w.heap.size, 0, none⟩ M0 (by decide) _)).trans (kp _ (by decide)))
end Go.Proofs.Ytegkdkilbnighaa
