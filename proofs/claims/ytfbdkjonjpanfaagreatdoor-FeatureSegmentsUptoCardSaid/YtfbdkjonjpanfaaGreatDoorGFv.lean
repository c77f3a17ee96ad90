/- gromaref13.Way, walked. -/
import Derived.Test.YtfbdkjonjpanfaaGreatDoorGFs
import Derived.Test.YtfbdkjonjpanfaaGreatDoorGFg
import Derived.Test.YtfbdkjonjpanfaaGreatDoorGFh

set_option linter.unusedVariables false
set_option linter.unusedSimpArgs false
namespace Go.Proofs.YtfbdkjonjpanfaaGreatDoor
open Go.RowKit Go.Rg Ft
attribute [local go_sem] Oper.semAt_some

abbrev tW : TypeId := 51
/-- the cells of a way -/
def wayC (l : List (Nat × Nat)) : List Value := l.flatMap fun z => [.int .i64 (z.1 : Int), .int .i64 (z.2 : Int)]
theorem wayC_snoc (l : List (Nat × Nat)) (z : Nat × Nat) : wayC (l ++ [z]) = wayC l ++ [.int .i64 (z.1 : Int), .int .i64 (z.2 : Int)] := by unfold wayC; rw [List.flatMap_append]; rfl
theorem wayC_len (l : List (Nat × Nat)) : (wayC l).length = l.length * 2 := by
  induction l with
  | nil => rfl
  | cons p l ih => unfold wayC at *; rw [List.flatMap_cons, List.length_append, ih, List.length_cons]; simp; omega
theorem wayC_at {l : List (Nat × Nat)} {t : Nat} {z : Nat × Nat} (h : l[t]? = some z) : (wayC l)[t * 2]? = some (.int .i64 (z.1 : Int)) ∧ (wayC l)[t * 2 + 1]? = some (.int .i64 (z.2 : Int)) := by
  induction l generalizing t with
  | nil => cases h
  | cons c l ih =>
    cases t with
    | zero => simp at h; subst h; exact ⟨rfl, rfl⟩
    | succ t =>
      have := ih (t := t) (by simpa using h)
      have e : ∀ i, (wayC (c :: l))[i + 2]? = (wayC l)[i]? := fun i => rfl
      rw [show (t + 1) * 2 = t * 2 + 2 from by omega, show t * 2 + 2 + 1 = t * 2 + 1 + 2 from rfl, e, e]
      exact this
def wayN (n : Nat) : List (Nat × Nat) := (List.range n).map fun i => (i, i + 1)
theorem wayN_succ (n : Nat) : wayN (n + 1) = wayN n ++ [(n, n + 1)] := by unfold wayN; rw [List.range_succ, List.map_append]; rfl
theorem wayN_len (n : Nat) : (wayN n).length = n := by unfold wayN; simp
theorem way_one {l : List Pt} {ring : Bool} (h : l.length = 1) : way l ring = [(0, 0)] := by unfold way; rw [if_pos h]
theorem way_open {l : List Pt} {ring : Bool} (h : l.length ≠ 1) (hne : ring = false ∨ l.length = 0 ∨ l.head? = l.getLast?) : way l ring = wayN (l.length - 1) := by
  unfold way wayN
  rw [if_neg h, if_neg]
  · simp
  · rintro ⟨h1, h2, h3⟩
    rcases hne with h | h | h
    · rw [h] at h1; cases h1
    · omega
    · exact h3 h
theorem way_ring {l : List Pt} (h : 1 < l.length) (hne : l.head? ≠ l.getLast?) : way l true = wayN (l.length - 1) ++ [(l.length - 1, 0)] := by
  unfold way wayN
  rw [if_neg (by omega), if_pos ⟨rfl, h, hne⟩]
theorem way_len (l : List Pt) (ring : Bool) : (way l ring).length ≤ l.length := by
  unfold way
  split
  · simp; omega
  · rename_i h1
    simp only [List.length_append, List.length_map, List.length_range]
    split
    · simp; omega
    · simp
theorem info_way : (Tryz.prog.info? 51).map (fun i => (i.zero, i.size, i.bytes)) = some (some (.agg #[.int .i64 0, .int .i64 0]), 2, 16) := by kernel_rfl

set_option maxRecDepth 100000 in
set_option maxHeartbeats 4000000 in
theorem way13_any (v : Value) (l : List Pt) (ring : Bool) (w : World) (h : RdC w v l.length (flat l)) (hl6 : l.length ≤ 1000000) :
    Calls Tryz.prog 13 #[v, .bool ring] w fun e w' => ∃ u, e = .returned u ∧ w'.ownsRow w.heap.size tW 2 u (way l ring).length (wayC (way l ring)) ∧ Below w.heap.size w w' := by
  obtain ⟨a, c, rfl, hm, _⟩ := id h
  obtain ⟨n, hn⟩ : ∃ n, n = l.length := ⟨_, rfl⟩
  have Hl := Lib.hid h
  rw [← hn] at hm hl6 ⊢
  have Hn := Lib.hid hn
  unfold maxLen at hm
  clear h hn
  go_enter Tryz.func13, Tryz.ntmps13
  by_cases h1 : n = 1
  · subst h1
    rw [way_one (ring := ring) Hn.out.symm]
    go_wp2_with fail
    go_ret
    refine ⟨_, rfl, ?_, (Below.refl _ w).alloc (Nat.le_refl _) _⟩
    have hb := Blk.new w [.int .i64 0, .int .i64 0] tW
    exact own_of_blk (n := 1) (cap := 1) (size := 2) hb rfl (Nat.le_refl _) (Nat.le_refl _) (by unfold maxLen; simp)
  · have hn1 : ((n : Int) == 1) = false := by rw [beq_eq_false_iff_ne]; omega
    go_wp2_with fail
    go_loopg [5, 6] (n - 1) (fun q s5 s6 wx => ∃ (i : Nat) (av : Option Addr) (ac : Nat), i + q = n - 1 ∧ s5 = .slice av i ac ∧ s6 = .int .i64 (i : Int) ∧ Hid (wx.ownsRow w.heap.size tW 2 (.slice av i ac) i (wayC (wayN i))) ∧ Hid (Below w.heap.size w wx))
    case atStart => exact ⟨0, none, 0, by omega, rfl, rfl, World.ownsRow_nil _ _ _ _, Below.refl _ _⟩
    case round =>
      obtain ⟨i, av, ac, hq, rfl, rfl, HO, HB⟩ := hrel
      cases gk with
      | zero =>
        have hin : i = n - 1 := by omega
        have hno : ¬ ((i : Int) + 1 < (n : Int)) := by omega
        cases ring with
        | false =>
          have HW : Hid (way l false = wayN i) := by unfold Hid; rw [hin, Hn.out]; exact way_open (by rw [← Hn.out]; exact h1) (.inl rfl)
          clear hin
          go_wp2_with fail
          go_quiet (fail)
          go_wp2_with fail
          try rw [Exit.noGoto_ret]
          go_ret
          exact ⟨_, rfl, by rw [HW.out, wayN_len]; exact own_ext HO.out (Ext.of_below (below_drewN _ _ _)), HB.out.trans (below_drewN _ _ _)⟩
        | true =>
          by_cases hgt : 1 < n
          · have hgt2 : (1 : Int) < (n : Int) := by omega
            obtain ⟨p, hp⟩ : ∃ p, l[0]? = some p := ⟨_, List.getElem?_eq_getElem (by rw [← Hn.out]; omega)⟩
            obtain ⟨p2, hp2⟩ : ∃ p, l[n - 1]? = some p := ⟨_, List.getElem?_eq_getElem (by rw [← Hn.out]; omega)⟩
            obtain ⟨g3, o3, cc3, e3, t1, t2, t3, t4, t5⟩ := LqC.pt Hl.out hp
            obtain ⟨g4, o4, cc4, e4, v1, v2, v3, v4, v5⟩ := LqC.pt Hl.out hp2
            injection e3 with e31 e32 e33
            injection e4 with e41 e42 e43
            subst e31 e33 e43
            cases e41
            rw [← Hn.out] at t1
            have y2 : wr.cell? ⟨g3, o3, none⟩ = some (.int .i64 p.1) := keepc HB.out t3 (by simpa using t4)
            have y3 : wr.cell? ⟨g3, o3 + 1, none⟩ = some (.int .i64 p.2) := keepc HB.out t3 (by simpa using t5)
            have z2 : wr.cell? ⟨g3, o3 + i * 2, none⟩ = some (.int .i64 p2.1) := keepc HB.out t3 (by rw [hin]; exact v4)
            have z3 : wr.cell? ⟨g3, o3 + i * 2 + 1, none⟩ = some (.int .i64 p2.2) := keepc HB.out t3 (by rw [hin]; exact v5)
            have hn2 : (n : Int) - 1 = (i : Int) := by omega
            have hn3 : IntKind.i64.wrap (i : Int) = (i : Int) := by rw [IntKind.wrap_i64]; omega
            have hn4 : (i : Int) < (n : Int) := by omega
            have hn5 : (0 : Int) < (n : Int) := by omega
            have Hends : Hid (l.head? = l.getLast? ↔ p = p2) := by
              unfold Hid
              rw [List.head?_eq_getElem?, List.getLast?_eq_getElem?, ← Hn.out, hp, hp2]
              exact ⟨fun h => Option.some.inj h, fun h => by rw [h]⟩
            unfold maxLen at t2
            clear hp hp2 t4 t5 v1 v2 v3 v4 v5 e32 e42
            by_cases he : p = p2
            · have hw := Hends.out.2 he
              subst he
              have e1 : (p.1 == p.1) = true := by simp
              have e2 : (p.2 == p.2) = true := by simp
              have HW : Hid (way l true = wayN i) := by unfold Hid; rw [hin, Hn.out]; exact way_open (by rw [← Hn.out]; exact h1) (.inr (.inr hw))
              clear hin
              go_wp2_with fail
              go_quiet (fail)
              go_wp2_with fail
              try rw [Exit.noGoto_ret]
              go_ret
              exact ⟨_, rfl, by rw [HW.out, wayN_len]; exact own_ext HO.out (Ext.of_below (below_drewN _ _ _)), HB.out.trans (below_drewN _ _ _)⟩
            · have HW : Hid (way l true = wayN i ++ [(i, 0)]) := by unfold Hid; rw [hin, Hn.out]; exact way_ring (by rw [← Hn.out]; exact hgt) (fun h => he (Hends.out.1 h))
              have hown := HO.out
              have hwx : w.heap.size ≤ wr.heap.size := HB.out.size
              clear hin
              by_cases h2 : p.1 = p2.1
              · have h3 : ¬ p.2 = p2.2 := fun e => he (Prod.ext h2 e)
                have e1 : (p.1 == p2.1) = true := by rw [beq_iff_eq]; exact h2
                have e2 : (p.2 == p2.2) = false := by rw [beq_eq_false_iff_ne]; exact h3
                clear he h2 h3
                go_wp2_with fail
                go_quiet (fail)
                have hown2 := own_ext hown (Ext.of_below (below_drewN wr.heap.size wr nq))
                have hbq : Below w.heap.size w (wr.drewN nq) := HB.out.trans (below_drewN _ _ _)
                have hwq : w.heap.size ≤ (wr.drewN nq).heap.size := hbq.size
                go_wp2_with (at_builtin; refine wpList_append2 _ rfl _ _ 49 rfl w.heap.size tW (.agg #[.int .i64 0, .int .i64 0]) 2 16 Tryz.underlying49 info_way rfl (by decide) (.slice av i ac) i _ rfl (hown2.alloc _) _ _ 1 [.int .i64 (i : Int), .int .i64 0] rfl (reads_new _ _ _ 1 1 (by decide) (by decide)) rfl (by simp [Value.oneCell']) (by unfold maxLen; omega) (by omega) (by simp; omega) ?_)
                intro v' w3 hown3 hgrow hmov
                obtain ⟨a2, cap2, rfl⟩ := own_form hown3
                have HB3 : Hid (Below w.heap.size w w3) := (hbq.trans (((Below.refl _ _).alloc (Nat.le_refl _) _).mono hbq.size)).grown hgrow (by simp; omega) (fun k e => (hown2.lt k e).1)
                have HO3 := Lib.hid hown3
                clear hown hown2 hown3 hgrow hmov
                go_wp2_with fail
                try rw [Exit.noGoto_ret]
                go_ret
                exact ⟨_, rfl, by rw [HW.out, List.length_append, wayN_len, wayC_snoc]; exact HO3.out, HB3.out⟩
              · have e1 : (p.1 == p2.1) = false := by rw [beq_eq_false_iff_ne]; exact h2
                clear he h2
                go_wp2_with fail
                go_quiet (fail)
                have hown2 := own_ext hown (Ext.of_below (below_drewN wr.heap.size wr nq))
                have hbq : Below w.heap.size w (wr.drewN nq) := HB.out.trans (below_drewN _ _ _)
                have hwq : w.heap.size ≤ (wr.drewN nq).heap.size := hbq.size
                go_wp2_with (at_builtin; refine wpList_append2 _ rfl _ _ 49 rfl w.heap.size tW (.agg #[.int .i64 0, .int .i64 0]) 2 16 Tryz.underlying49 info_way rfl (by decide) (.slice av i ac) i _ rfl (hown2.alloc _) _ _ 1 [.int .i64 (i : Int), .int .i64 0] rfl (reads_new _ _ _ 1 1 (by decide) (by decide)) rfl (by simp [Value.oneCell']) (by unfold maxLen; omega) (by omega) (by simp; omega) ?_)
                intro v' w3 hown3 hgrow hmov
                obtain ⟨a2, cap2, rfl⟩ := own_form hown3
                have HB3 : Hid (Below w.heap.size w w3) := (hbq.trans (((Below.refl _ _).alloc (Nat.le_refl _) _).mono hbq.size)).grown hgrow (by simp; omega) (fun k e => (hown2.lt k e).1)
                have HO3 := Lib.hid hown3
                clear hown hown2 hown3 hgrow hmov
                go_wp2_with fail
                try rw [Exit.noGoto_ret]
                go_ret
                exact ⟨_, rfl, by rw [HW.out, List.length_append, wayN_len, wayC_snoc]; exact HO3.out, HB3.out⟩
          · have hgt2 : ¬ (1 : Int) < (n : Int) := by omega
            have hd : decide ((1 : Int) < (n : Int)) = false := decide_eq_false hgt2
            have HW : Hid (way l true = wayN i) := by unfold Hid; rw [hin, Hn.out]; exact way_open (by rw [← Hn.out]; exact h1) (.inr (.inl (by rw [← Hn.out]; omega)))
            clear hin
            go_wp2_with fail
            go_quiet (fail)
            go_wp2_with fail
            try rw [Exit.noGoto_ret]
            go_ret
            exact ⟨_, rfl, by rw [HW.out, wayN_len]; exact own_ext HO.out (Ext.of_below (below_drewN _ _ _)), HB.out.trans (below_drewN _ _ _)⟩
      | succ q =>
        have hin : i + 1 < n := by omega
        have hin2 : (i : Int) + 1 < (n : Int) := by omega
        have hown := HO.out
        have hwx : w.heap.size ≤ wr.heap.size := HB.out.size
        have HQ := Lib.hid hq
        have Hst : Hid (wayC (wayN (i + 1)) = wayC (wayN i) ++ [.int .i64 (i : Int), .int .i64 ((i : Int) + 1)]) := by unfold Hid; rw [wayN_succ, wayC_snoc]; simp
        clear hq
        go_wp2_with (at_builtin; refine wpList_append2 _ rfl _ _ 49 rfl w.heap.size tW (.agg #[.int .i64 0, .int .i64 0]) 2 16 Tryz.underlying49 info_way rfl (by decide) (.slice av i ac) i _ rfl (hown.alloc _) _ _ 1 [.int .i64 (i : Int), .int .i64 ((i : Int) + 1)] rfl (reads_new _ _ _ 1 1 (by decide) (by decide)) rfl (by simp [Value.oneCell']) (by unfold maxLen; omega) (by omega) (by simp; omega) ?_)
        intro v' w3 hown2 hgrow hmov
        obtain ⟨a2, cap2, rfl⟩ := own_form hown2
        have HB3 : Hid (Below w.heap.size w w3) := (HB.out.trans (((Below.refl _ wr).alloc (Nat.le_refl _) _).mono HB.out.size)).grown hgrow (by simp; omega) (fun k e => (hown.lt k e).1)
        have HO3 := Lib.hid hown2
        clear hown hown2 hgrow hmov
        go_wp2_with fail
        go_roundg q
        case measure => omega
        case rel => exact ⟨i + 1, a2, cap2, by have := HQ.out; omega, rfl, by first | rfl | simp, by unfold Hid; rw [Hst.out]; exact HO3.out, HB3⟩
end Go.Proofs.YtfbdkjonjpanfaaGreatDoor

set_option linter.unusedVariables false
set_option linter.unusedSimpArgs false
namespace Go.Proofs.YtfbdkjonjpanfaaGreatDoor
open Go.RowKit Go.Rg Ft
attribute [local go_sem] Oper.semAt_some

abbrev tSg : TypeId := 53
/-- the cells of segments -/
def segC (s : Pt × Pt) : List Value := [.int .i64 s.1.1, .int .i64 s.1.2, .int .i64 s.2.1, .int .i64 s.2.2]
def flatS (l : List (Pt × Pt)) : List Value := l.flatMap segC
theorem flatS_snoc (l : List (Pt × Pt)) (s : Pt × Pt) : flatS (l ++ [s]) = flatS l ++ segC s := by unfold flatS; rw [List.flatMap_append]; simp
theorem flatS_at {l : List (Pt × Pt)} {t : Nat} {s : Pt × Pt} (h : l[t]? = some s) : (flatS l)[t * 4]? = some (.int .i64 s.1.1) ∧ (flatS l)[t * 4 + 1]? = some (.int .i64 s.1.2) ∧ (flatS l)[t * 4 + 2]? = some (.int .i64 s.2.1) ∧ (flatS l)[t * 4 + 3]? = some (.int .i64 s.2.2) := by
  induction l generalizing t with
  | nil => cases h
  | cons c l ih =>
    cases t with
    | zero => simp at h; subst h; exact ⟨rfl, rfl, rfl, rfl⟩
    | succ t =>
      have := ih (t := t) (by simpa using h)
      have e : ∀ i, (flatS (c :: l))[i + 4]? = (flatS l)[i]? := fun i => rfl
      rw [show (t + 1) * 4 = t * 4 + 4 from by omega, show t * 4 + 4 + 1 = t * 4 + 1 + 4 from rfl, show t * 4 + 4 + 2 = t * 4 + 2 + 4 from rfl, show t * 4 + 4 + 3 = t * 4 + 3 + 4 from rfl, e, e, e, e]
      exact this
/-- a way's segment -/
def seg1 (l : List Pt) (z : Nat × Nat) : Pt × Pt := (l.getD z.1 (0, 0), l.getD z.2 (0, 0))
theorem segL_way (l : List Pt) (ring : Bool) : segL l ring = (way l ring).map (seg1 l) := rfl
theorem segL_len (l : List Pt) (ring : Bool) : (segL l ring).length = (way l ring).length := by unfold segL; simp
theorem way_lt {l : List Pt} {ring : Bool} {t : Nat} {z : Nat × Nat} (h : (way l ring)[t]? = some z) : z.1 < l.length ∧ z.2 < l.length := by
  have hm := List.mem_of_getElem? h
  unfold way at hm
  split at hm
  · rename_i h1; simp at hm; subst hm; exact ⟨by show 0 < _; omega, by show 0 < _; omega⟩
  · rename_i h1
    rcases List.mem_append.1 hm with hm | hm
    · simp only [List.mem_map, List.mem_range] at hm
      obtain ⟨i, hi, rfl⟩ := hm
      exact ⟨by show i < _; omega, by show i + 1 < _; omega⟩
    · split at hm
      · rename_i h2
        simp at hm; subst hm
        exact ⟨by show l.length - 1 < _; omega, by show 0 < _; omega⟩
      · simp at hm
/-- the segments so far: the first lists whole, of the next one the first few -/
def segT (f : Fe) (i : Nat) (l : List Pt) (ring : Bool) (t : Nat) : List (Pt × Pt) := ((segX f).take i).flatten ++ ((way l ring).take t).map (seg1 l)
theorem segT_succ {f : Fe} {i : Nat} {l : List Pt} {ring : Bool} {t : Nat} {z : Nat × Nat} (h : (way l ring)[t]? = some z) : segT f i l ring (t + 1) = segT f i l ring t ++ [seg1 l z] := by
  unfold segT; rw [List.take_add_one, h, List.map_append, ← List.append_assoc]; rfl
theorem segT_zero (f : Fe) (i : Nat) (l : List Pt) (ring : Bool) : segT f i l ring 0 = ((segX f).take i).flatten := by unfold segT; simp
theorem segT_all {f : Fe} {i : Nat} {l : List Pt} (h : (f.lines ++ f.rings)[i]? = some l) : segT f i l (decide (f.lines.length ≤ i)) (way l (decide (f.lines.length ≤ i))).length = ((segX f).take (i + 1)).flatten := by
  unfold segT
  rw [List.take_length, ← segL_way, List.take_add_one, segX_at h]
  simp
theorem segT_len (f : Fe) (i : Nat) (l : List Pt) (ring : Bool) (t : Nat) (h : (f.lines ++ f.rings)[i]? = some l) (hr : ring = decide (f.lines.length ≤ i)) (ht : t ≤ (way l ring).length) : (segT f i l ring t).length ≤ (segF f).length := by
  have h1 : (segT f i l ring t).length ≤ (segT f i l ring (way l ring).length).length := by
    unfold segT; simp only [List.length_append, List.length_map, List.length_take]; omega
  subst hr
  rw [segT_all h] at h1
  exact Nat.le_trans h1 (flatten_take_le _ _)
theorem segF_len (f : Fe) : (segF f).length ≤ muF f := by
  have h : ∀ k, k ≤ (f.lines ++ f.rings).length → segP f k ≤ (((f.lines ++ f.rings).take k).map fun l => l.length + 1).sum := by
    intro k
    induction k with
    | zero => intro _; unfold segP; simp
    | succ k ih =>
      intro hk
      obtain ⟨l, hl⟩ : ∃ l, (f.lines ++ f.rings)[k]? = some l := ⟨_, List.getElem?_eq_getElem (by omega)⟩
      rw [segP_succ hl, List.take_add_one, hl, segL_len]
      have := way_len l (decide (f.lines.length ≤ k))
      have := ih (by omega)
      simp only [List.map_append, List.sum_append, Option.toList_some, List.map_cons, List.map_nil, List.sum_cons, List.sum_nil]
      omega
  have := h _ (Nat.le_refl _)
  rw [segP_all, List.take_length] at this
  unfold muF Fx.muQ
  rw [List.map_append, List.sum_append] at this
  omega
theorem info_seg : (Tryz.prog.info? 53).map (fun i => (i.zero, i.size, i.bytes)) = some (some (.agg #[.int .i64 0, .int .i64 0, .int .i64 0, .int .i64 0]), 4, 32) := by kernel_rfl
theorem info_pt3 : (Tryz.prog.info? 48).map (fun i => (i.zero, i.size, i.bytes)) = some (some (.agg #[.int .i64 0, .int .i64 0]), 2, 16) := by kernel_rfl

/-! ### The last loop, between two rounds -/
def sI (w w6 : World) (S : Nat → Prop) (R K : Nat) (k : Nat) (_ : Nat → Prop) (X : World) : Prop :=
  Kept S w6 X ∧ Below w.heap.size w X ∧ Blk X R [.bool false] 4 ∧ Blk X K [.int .i64 (k : Int)] 3
def sX (w : World) (R : Nat) (c : Code) (k : Nat) (X : World) : Prop := c = .ret ∧ Below w.heap.size w X ∧ Blk X R [.bool true] 4
theorem sI_stab {w w6 : World} {S : Nat → Prop} {R K : Nat} (hw : w.heap.size ≤ w6.heap.size) (hS : ∀ j, S j → j < w6.heap.size) (k : Nat) (O O' : Nat → Prop) (X Y : World) (h : sI w w6 S R K k O X) (hx : Ext w6.heap.size X Y) (hO : ∀ j, O' j → grow O X Y j) : sI w w6 S R K k O' Y := by
  obtain ⟨h0, h1, h2, h3⟩ := h
  exact ⟨h0.trans ((Kept.of_below hx.below).mono hS), h1.trans (hx.below.mono hw), h2.ext hx, h3.ext hx⟩
theorem sX_stab {w w6 : World} {R : Nat} (hw : w.heap.size ≤ w6.heap.size) (c : Code) (k : Nat) (X Y : World) (h : sX w R c k X) (hx : Ext w6.heap.size X Y) : sX w R c k Y := by
  obtain ⟨h1, h2, h3⟩ := h
  exact ⟨h1, h2.trans (hx.below.mono hw), h3.ext hx⟩
theorem s_go {w w6 Wb X : World} {S O : Nat → Prop} {R K k : Nat} (hK : ¬ S K) (hRw : w.heap.size ≤ R) (hKw : R < K) (hb : Below w.heap.size w Wb) (h0 : Kept S w6 Wb) (j2 : Blk Wb R [.bool false] 4) (j3 : Blk Wb K [.int .i64 (k : Int)] 3)
    (hO : ∀ j, O j → K < j ∧ j < Wb.heap.size) (hS : ∀ j, S j → j < Wb.heap.size) (hX : Below Wb.heap.size Wb X) :
    Eff w6.heap.size (both S O) Wb (X.setCell ⟨K, 0, none⟩ (.int .i64 ((k : Int) + 1))) ∧ sI w w6 S R K (k + 1) O (X.setCell ⟨K, 0, none⟩ (.int .i64 ((k : Int) + 1))) := by
  have hbs := hb.size
  have hE : Eff w6.heap.size (both S O) Wb (X.setCell ⟨K, 0, none⟩ (.int .i64 ((k : Int) + 1))) := by
    refine ((Eff.refl _ _ _).call hX (fun j hj => hj.elim (fun h => hS j h) (fun h => (hO j h).2))).setCell _ ?_ _
    rintro (h | h)
    · exact hK h
    · have := (hO _ h).1; simp only at this; omega
  refine ⟨hE, h0.trans (hE.kept.mono (fun j hj => .inl hj)), ?_, ?_, ?_⟩
  · exact (hb.trans (hX.mono (by omega))).setCell (p := ⟨K, 0, none⟩) (by show _ ≤ K; omega) _
  · exact (j2.call hX).other _ (by show _ ≠ K; omega) _
  · exact (j3.call hX).set 0 (.int .i64 ((k : Int) + 1))
theorem s_stop {w w6 Wb X X1 : World} {S O : Nat → Prop} {R K k : Nat} (hR : ¬ S R) (hRw : w.heap.size ≤ R) (hKw : R < K) (hO : ∀ j, O j → K < j ∧ j < Wb.heap.size) (hS : ∀ j, S j → j < Wb.heap.size)
    (hE : Eff w6.heap.size (both S O) Wb X) (hI : sI w w6 S R K (k + 1) O X) (hX : Below X.heap.size X X1) :
    Blk X1 R [.bool false] 4 ∧ Eff w6.heap.size (both S O) Wb (X1.setCell ⟨R, 0, none⟩ (.bool true)) ∧ sX w R .ret (k + 1) (X1.setCell ⟨R, 0, none⟩ (.bool true)) := by
  obtain ⟨h0, h1, h2, h3⟩ := hI
  have hs := hE.kept.size
  refine ⟨h2.call hX, (hE.call hX (fun j hj => hj.elim (fun h => by have := hS j h; omega) (fun h => by have := (hO j h).2; omega))).setCell _ ?_ _, rfl, ?_, (h2.call hX).set 0 (.bool true)⟩
  · rintro (h | h)
    · exact hR h
    · have := (hO _ h).1; simp only at this; omega
  · exact (h1.trans (hX.mono h1.size)).setCell (p := ⟨R, 0, none⟩) hRw _
end Go.Proofs.YtfbdkjonjpanfaaGreatDoor

set_option linter.unusedVariables false
set_option linter.unusedSimpArgs false
namespace Go.Proofs.YtfbdkjonjpanfaaGreatDoor
open Go.RowKit Go.Rg Ft
attribute [local go_sem] Oper.semAt_some

/-- the segments that are wanted, while they grow: their slice lies in a box of its own -/
def Wnt (B5 : Nat) (w6 X : World) (acc : List (Pt × Pt)) : Prop := Upd B5 w6 X ∧ ∃ v, Blk X B5 [v] 44 ∧ X.ownsRow w6.heap.size tSg 4 v acc.length (flatS acc)
theorem Wnt.call {B5 : Nat} {w6 X Y : World} {acc : List (Pt × Pt)} (h : Wnt B5 w6 X acc) (hb : Below X.heap.size X Y) : Wnt B5 w6 Y acc := by
  obtain ⟨h1, v, h2, h3⟩ := h; exact ⟨h1.call hb, v, h2.call hb, own_call h3 hb⟩
theorem Wnt.app {B5 : Nat} {w6 X Y : World} {acc : List (Pt × Pt)} {s : Pt × Pt} {v v' : Value} (hB : B5 < w6.heap.size) (h1 : Upd B5 w6 X) (h2 : Blk X B5 [v] 44) (h3 : X.ownsRow w6.heap.size tSg 4 v acc.length (flatS acc))
    (ho : Y.ownsRow w6.heap.size tSg 4 v' (acc.length + 1) (flatS acc ++ segC s)) (hg : X.grownBy Y v.ownBlock) : Wnt B5 w6 (Y.setCell ⟨B5, 0, none⟩ v') (acc ++ [s]) := by
  refine ⟨(h1.grown hg (fun k e => (h3.lt k e).1)).set 0 v', v', (h2.appended h3 hB hg).set 0 v', ?_⟩
  rw [List.length_append, flatS_snoc]
  exact own_other ho ⟨B5, 0, none⟩ hB v'
/-- the way on alone -/
def onlyN (Q : Exit → Act → World → Prop) (e : Exit) (a : Act) (w : World) : Prop := match e with | .normal => Q .normal a w | _ => False
theorem onlyN_mono {F : Fence} {n : Nat} {P : Program} {c : Code} {Q : Exit → Act → World → Prop} {a : Act} {w : World} (h : c.wpIn F n P (onlyN Q) a w) : c.wpIn F n P Q a w :=
  wpIn_mono h (fun e a w h => by cases e <;> first | exact h | exact h.elim)
theorem fsr_results (X : World) (b : Nat) (v : Bool) (a : Act) (h0 : a.tmps[4]?.getD undef = .pointer (some ⟨b, 0, none⟩)) (k0 : X.cell? ⟨b, 0, none⟩ = some (.bool v)) :
    (results Tryz.f4 a.tmps).run Tryz.prog X = .ok (.bool v) X := by
  simp [results, Tryz.results4, go_sem, h0, k0]
theorem neq_segs (w : World) (f : Nat) (b : Nat) : (binOp .neq 56 (.func (.func f) #[] #[.pointer (some ⟨b, 0, none⟩)]) .nilFunc).run Tryz.prog w = .ok (.bool true) w := by kernel_rfl

set_option maxRecDepth 100000 in
set_option maxHeartbeats 16000000 in
theorem lawSegsW (f : Fe) (pv lv rv : Value) (stop : Int) (w : World) (h : FeA w pv lv rv f) (hmu : muF f ≤ 1048576) (ht : Tabs w) :
    Calls Tryz.prog 4 #[feV pv lv rv, .int .i64 stop] w fun e w' => e = .returned (.bool true) ∧ Below w.heap.size w w' := by
  have HT := Lib.hid ht
  have HFA := Lib.hid h
  obtain ⟨hp, vs, us, hF⟩ := h
  obtain ⟨a0, m0, rfl⟩ := hp.form
  obtain ⟨a1, m1, rfl⟩ := hF.rl.form
  obtain ⟨a2, m2, rfl⟩ := hF.rr.form
  obtain ⟨n0, e0⟩ : ∃ n, n = f.pts.length := ⟨_, rfl⟩
  obtain ⟨n1, e1⟩ : ∃ n, n = f.lines.length := ⟨_, rfl⟩
  obtain ⟨n2, e2⟩ : ∃ n, n = f.rings.length := ⟨_, rfl⟩
  have hs1 : n1 ≤ 1048576 := by have := muQ_len f.lines; unfold muF at hmu; omega
  have hs2 : n2 ≤ 1048576 := by have := muQ_len f.rings; unfold muF at hmu; omega
  have hs0 : n0 ≤ 1048576 := by unfold muF at hmu; omega
  have HF := Lib.hid hF
  have HM := Lib.hid hmu
  have hrl := hF.rl
  have hrr := hF.rr
  have HL1 : Hid (vs.length = n1 * 1) := by unfold Hid; rw [hF.ll, e1]; omega
  have HL2 : Hid (us.length = n2 * 1) := by unfold Hid; rw [hF.lr, e2]; omega
  have HK1 : Hid (∀ u ∈ vs, u.oneCell' = true) := fun u hu => hF.one u (List.mem_append_left _ hu)
  have HK2 : Hid (∀ u ∈ us, u.oneCell' = true) := fun u hu => hF.one u (List.mem_append_right _ hu)
  have E0 := Lib.hid e0
  have E1 := Lib.hid e1
  have E2 := Lib.hid e2
  rw [← e1] at hrl
  rw [← e2] at hrr
  have HFA2 : Hid (FeA w (.slice a0 n0 m0) (.slice a1 n1 m1) (.slice a2 n2 m2) f) := by unfold Hid; rw [e0, e1, e2]; exact HFA.out
  unfold feV
  rw [← e0, ← e1, ← e2]
  clear hp hF hmu e0 e1 e2 ht HFA
  refine (calls_iff (r := none) (m := 0)).1 (callsIn_of_wp_marks Tryz.func4 rfl trivial ?_ rfl)
  simp only [Tryz.ntmps4, List.size_toArray, List.length_cons, List.length_nil, Nat.reduceAdd, Nat.reduceSub, Array.replicate_succ, Array.replicate_zero, List.push_toArray, List.append_toArray, List.nil_append, List.cons_append]
  gi_wp2_with fail
  obtain ⟨y0, hy0⟩ : ∃ X, [.cells #[.slice a0 n0 m0, .slice a1 n1 m1, .slice a2 n2 m2] 37, .cells #[.int .i64 stop] 3, .cells #[.bool false] 4].foldl World.alloc w = X := ⟨_, rfl⟩
  have HA : Hid (Blk y0 w.heap.size [.slice a0 n0 m0, .slice a1 n1 m1, .slice a2 n2 m2] 37) := Blk.allocs _ hy0 0 rfl
  have HSt : Hid (Blk y0 (w.heap.size + 1) [.int .i64 stop] 3) := Blk.allocs _ hy0 1 rfl
  have HRs : Hid (Blk y0 (w.heap.size + 2) [.bool false] 4) := Blk.allocs _ hy0 2 rfl
  have HB : Hid (Below w.heap.size w y0) := hy0 ▸ allocs_below _ w
  simp only [List.foldl_cons, List.foldl_nil] at hy0
  rw [hy0]
  clear hy0
  refine (calls_iff.2 (light13_any f (.slice a0 n0 m0) (.slice a1 n1 m1) (.slice a2 n2 m2) y0 (HFA2.out.call HB.out) HM.out)).mono ?_
  rintro e y1 ⟨rfl, hb⟩
  have HB := Lib.hid (HB.out.trans (hb.mono HB.out.size))
  have HA := Lib.hid (HA.out.call hb)
  have HSt := Lib.hid (HSt.out.call hb)
  have HRs := Lib.hid (HRs.out.call hb)
  have hzr : w.heap.size + 2 < y1.heap.size := HRs.out.lt
  have hz1 : w.heap.size < y1.heap.size := by omega
  have b2 := HRs.out.cell (j := 0) rfl
  have f2 := HRs.out.frozen 0
  have c0 := HA.out.cell (j := 0) rfl
  have c1 := HA.out.cell (j := 1) rfl
  have c2 := HA.out.cell (j := 2) rfl
  clear hb
  by_cases h200 : muF f ≤ 200
  · rw [decide_eq_true h200]
    gi_wp2_with fail
    obtain ⟨w0, hw0⟩ : ∃ X, y1.alloc (.cells #[.slice none 0 0] 44) = X := ⟨_, rfl⟩
    have hb : Below y1.heap.size y1 w0 := hw0 ▸ (Below.refl _ y1).alloc (Nat.le_refl _) _
    have HWb : Hid (Blk w0 y1.heap.size [.slice none 0 0] 44) := hw0 ▸ Blk.new y1 _ _
    rw [hw0]
    obtain ⟨B5, hB5⟩ : ∃ B, B = y1.heap.size := ⟨_, rfl⟩
    have HB := Lib.hid (HB.out.trans (hb.mono HB.out.size))
    have HA := Lib.hid (HA.out.call hb)
    have HSt := Lib.hid (HSt.out.call hb)
    have HRs := Lib.hid (HRs.out.call hb)
    rw [← hB5] at HWb hzr ⊢
    have hz0 : B5 < w0.heap.size := HWb.out.lt
    have x1' : w0.cell? ⟨w.heap.size, 1, none⟩ = some (.slice a1 n1 m1) := HA.out.cell (j := 1) rfl
    have x2' : w0.cell? ⟨w.heap.size, 2, none⟩ = some (.slice a2 n2 m2) := HA.out.cell (j := 2) rfl
    have HR1 : Hid (ReadsE w0 w0.heap.size (.slice a1 n1 m1) n1 vs) := (hrl.below HB.out).mono HB.out.size
    have HR2 : Hid (ReadsE w0 w0.heap.size (.slice a2 n2 m2) n2 us) := (hrr.below HB.out).mono HB.out.size
    have x1 := x1'
    have x2 := x2'
    clear hb hw0 hB5 b2 f2 c0 c1 c2 hrl hrr
    refine onlyN_mono ?_
    refine held_round (fun w' => w'.cell? ⟨w.heap.size, 1, none⟩ = some (.slice a1 n1 m1) ∧ w'.cell? ⟨w.heap.size, 2, none⟩ = some (.slice a2 n2 m2)) (by kernel_rfl) ?_ (by kernel_rfl) ?_
    · exact fun ⟨_, _, h⟩ => h
    have hHeld : w0.drew.cell? ⟨w.heap.size, 1, none⟩ = some (.slice a1 n1 m1) ∧ w0.drew.cell? ⟨w.heap.size, 2, none⟩ = some (.slice a2 n2 m2) := ⟨x1', x2'⟩
    refine takeL 1 (v := ?_) rfl (by kernel_rfl) (by kernel_rfl) (by kernel_rfl) (fun _ _ _ h => h) (by rfl) (by assumption) ?hy1 ?_
    case hy1 => (intro w hSw; (try dsimp only at hSw); go_simp; all_goals (with_reducible rfl))
    (try simp only [Act.put, List.setIfInBounds_toArray, List.set_cons_zero, List.set_cons_succ])
    refine takeL 2 (v := ?_) rfl (by kernel_rfl) (by kernel_rfl) (by kernel_rfl) (fun _ _ _ h => h) (by rfl) (by assumption) ?hy2 ?_
    case hy2 => (intro w hSw; (try dsimp only at hSw); go_simp; all_goals (with_reducible rfl))
    (try simp only [Act.put, List.setIfInBounds_toArray, List.set_cons_zero, List.set_cons_succ])
    refine takeL 4 (v := ?_) rfl (by kernel_rfl) (by kernel_rfl) (by kernel_rfl) (fun _ _ _ h => h) (by rfl) (by assumption) ?hy4 ?_
    case hy4 => (intro w hSw; (try dsimp only at hSw); go_simp; all_goals (with_reducible rfl))
    (try simp only [Act.put, List.setIfInBounds_toArray, List.set_cons_zero, List.set_cons_succ])
    refine takeL 5 (v := ?_) rfl (by kernel_rfl) (by kernel_rfl) (by kernel_rfl) (fun _ _ _ h => h) (by rfl) (by assumption) ?hy5 ?_
    case hy5 => (intro w hSw; (try dsimp only at hSw); go_simp; all_goals (with_reducible rfl))
    (try simp only [Act.put, List.setIfInBounds_toArray, List.set_cons_zero, List.set_cons_succ])
    refine takeL 8 (v := ?_) rfl (by kernel_rfl) (by kernel_rfl) (by kernel_rfl) (fun _ _ _ h => h) (by rfl) (by assumption) ?hy8 ?_
    case hy8 => (intro w hSw; (try dsimp only at hSw); go_simp; all_goals (with_reducible rfl))
    (try simp only [Act.put, List.setIfInBounds_toArray, List.set_cons_zero, List.set_cons_succ])
    refine consL 0 (by kernel_rfl) rfl (by rfl) (fun K hK => ?_)
    go_simp
    obtain ⟨wa, hwa⟩ : ∃ X, (w0.alloc (.cells #[] tL)).drew = X := ⟨_, rfl⟩
    have hba : Below w0.heap.size w0 wa := hwa ▸ ((Below.refl _ w0).alloc (Nat.le_refl _) _).drew
    have HO0 : Hid (wa.ownsRow w0.heap.size tL 1 (.slice (some ⟨w0.heap.size, 0, none⟩) 0 0) 0 []) := by
      have hb : Blk wa w0.heap.size [] tL := hwa ▸ (Blk.new w0 [] tL : Blk (w0.alloc (.cells #[] tL)).drew w0.heap.size [] tL)
      have := own_of_blk (n := 0) (cap := 0) (size := 1) (base := w0.heap.size) hb rfl (Nat.le_refl _) (Nat.le_refl _) (Nat.zero_le _)
      exact this
    have HBa : Hid (Below w0.heap.size w0 wa) := hba
    have x1 := keepc hba (show w.heap.size < w0.heap.size by omega) x1
    have x2 := keepc hba (show w.heap.size < w0.heap.size by omega) x2
    have hsa : w0.heap.size ≤ wa.heap.size := hba.size
    (try rw [hwa])
    clear hwa hba
    clear hHeld
    refine hK.out _ _ ?hS0 (fun hHeld => ?_)
    case hS0 => ((try dsimp only); exact ⟨x1, x2⟩)
    clear hK K
    (try simp only [Act.put, List.setIfInBounds_toArray, List.set_cons_zero, List.set_cons_succ])
    refine consL 3 (by kernel_rfl) rfl (by rfl) (fun K hK => ?_)
    refine wp_append2E _ _ _ 35 rfl w0.heap.size tL (.slice none 0 0) 1 24 Tryz.underlying35 info_pts rfl (by decide) (.slice (some ⟨w0.heap.size, 0, none⟩) 0 0) 0 _ rfl HO0.out _ w0.heap.size n1 vs rfl (HR1.out.below HBa.out) HL1.out HK1.out (by unfold maxLen; omega) (by omega) hsa ?_
    intro v3 w3 own3 grow3 mov3
    obtain ⟨a3, c3, rfl⟩ := own_form own3
    have HO3 := Lib.hid own3
    have hrow3 : ∀ g, (Value.slice (some ⟨w0.heap.size, 0, none⟩) 0 0).ownBlock = some g → w0.heap.size ≤ g := fun g e => (HO0.out.lt g e).1
    have HB3 := Lib.hid (HBa.out.grown grow3 hsa (fun g e => hrow3 g e))
    have x1 := (World.cell?_of_block (a := ⟨w.heap.size, 1, none⟩) (HB3.out.block w.heap.size (by omega))).trans x1'
    have x2 := (World.cell?_of_block (a := ⟨w.heap.size, 2, none⟩) (HB3.out.block w.heap.size (by omega))).trans x2'
    have hs3 : w0.heap.size ≤ w3.heap.size := HB3.out.size
    clear own3 grow3 mov3 hrow3
    clear hHeld
    refine hK.out _ _ ?hS3 (fun hHeld => ?_)
    case hS3 => ((try dsimp only); exact ⟨x1, x2⟩)
    clear hK K
    (try simp only [Act.put, List.setIfInBounds_toArray, List.set_cons_zero, List.set_cons_succ])
    refine consL 6 (by kernel_rfl) rfl (by rfl) (fun K hK => ?_)
    refine wp_append2E _ _ _ 35 rfl w0.heap.size tL (.slice none 0 0) 1 24 Tryz.underlying35 info_pts rfl (by decide) (.slice a3 (0 + n1) c3) (0 + n1) _ rfl HO3.out _ w0.heap.size n2 us rfl (HR2.out.below HB3.out) HL2.out HK2.out (by unfold maxLen; omega) (by omega) hs3 ?_
    intro v6 w6 own6 grow6 mov6
    obtain ⟨a6, c6, rfl⟩ := own_form own6
    have HO6 := Lib.hid own6
    have hrow6 : ∀ g, (Value.slice a3 (0 + n1) c3).ownBlock = some g → w0.heap.size ≤ g := fun g e => (HO3.out.lt g e).1
    have HB6 := Lib.hid (HB3.out.grown grow6 hs3 (fun g e => hrow6 g e))
    have x1 := (World.cell?_of_block (a := ⟨w.heap.size, 1, none⟩) (HB6.out.block w.heap.size (by omega))).trans x1'
    have x2 := (World.cell?_of_block (a := ⟨w.heap.size, 2, none⟩) (HB6.out.block w.heap.size (by omega))).trans x2'
    clear own6 grow6 mov6 hrow6
    clear hHeld
    refine hK.out _ _ ?hS6 (fun hHeld => ?_)
    case hS6 => ((try dsimp only); exact ⟨x1, x2⟩)
    clear hK K
    (try simp only [Act.put, List.setIfInBounds_toArray, List.set_cons_zero, List.set_cons_succ])
    refine takeL 7 (v := ?_) rfl (by kernel_rfl) (by kernel_rfl) (by kernel_rfl) (fun _ _ _ h => h) (by rfl) (by assumption) ?hy7 ?_
    case hy7 => (intro w hSw; (try dsimp only at hSw); go_simp; all_goals (with_reducible rfl))
    (try simp only [Act.put, List.setIfInBounds_toArray, List.set_cons_zero, List.set_cons_succ])
    refine wpAnyH_done (by kernel_rfl) ?_ _
    unfold onlyN
    dsimp only
    clear hHeld x1 x2 x1' x2' HO0 HO3 HBa HB3 HR1 HR2 HL1 HL2 HK1 HK2
    have HO : Hid (w6.ownsRow w0.heap.size tL 1 (.slice a6 (n1 + n2) c6) (n1 + n2) (vs ++ us)) := by have := HO6.out; rw [Nat.zero_add, List.nil_append] at this; exact this
    rw [Nat.zero_add]
    obtain ⟨N, hN⟩ : ∃ N, N = n1 + n2 := ⟨_, rfl⟩
    have hNi : (n1 : Int) + (n2 : Int) = (N : Int) := by omega
    have HN : Hid (N = (f.lines ++ f.rings).length) := by unfold Hid; rw [List.length_append, ← E1.out, ← E2.out]; exact hN
    rw [hNi, ← hN]
    rw [← hN] at HO
    have hN6 : N ≤ 2100000 := by omega
    have hz6 : B5 < w6.heap.size := Nat.lt_of_lt_of_le hz0 HB6.out.size
    have hwz : w.heap.size ≤ B5 := by omega
    have HW0 : Hid (Wnt B5 w6 w6 []) := ⟨Upd.refl _ _, .slice none 0 0, (HWb.out.below HB6.out hz0), World.ownsRow_nil _ _ _ _⟩
    have HBw6 : Hid (Below w.heap.size w w6) := HB.out.trans (HB6.out.mono HB.out.size)
    have HA6 : Hid (Blk w6 w.heap.size [.slice a0 n0 m0, .slice a1 n1 m1, .slice a2 n2 m2] 37) := HA.out.below HB6.out (by omega)
    have HSt6 : Hid (Blk w6 (w.heap.size + 1) [.int .i64 stop] 3) := HSt.out.below HB6.out (by omega)
    have HRs6 : Hid (Blk w6 (w.heap.size + 2) [.bool false] 4) := HRs.out.below HB6.out (by omega)
    clear HO6 HB6 hNi hN hsa hs3 HB HA HSt HRs HWb
    gi_wp2_with fail
    gi_loopw [6, 32] (fun s6 s32 wx => ∃ i : Nat, s6 = .int .i64 (csum f i : Int) ∧ s32 = .int .i64 (i : Int) ∧ i ≤ N ∧ Hid (Wnt B5 w6 wx ((segX f).take i).flatten)) (fun s6 s32 _ => N - (intOf s32).toNat)
    case atStart => exact ⟨0, by rw [E0.out]; unfold csum; simp, by first | rfl | simp, Nat.zero_le _, by unfold Hid; simpa using HW0.out⟩
    case round =>
      clear HW0
      obtain ⟨i, rfl, rfl, hi, HW⟩ := hrel
      by_cases hiN : i < N
      · obtain ⟨ls, hls⟩ : ∃ ls, (f.lines ++ f.rings)[i]? = some ls := ⟨_, List.getElem?_eq_getElem (by rw [← HN.out]; exact hiN)⟩
        have HBx : Hid (Below w.heap.size w wr) := HBw6.out.trans (HW.out.1.below hwz (by omega))
        obtain ⟨u, hu, hr⟩ := HF.out.el i ls hls
        obtain ⟨ua, uc, rfl⟩ := hr.form
        have HRl : Hid (RdC w (.slice ua ls.length uc) ls.length (flat ls)) := hr.rdC
        have HOx := own_upd HO.out HW.out.1 hz0
        obtain ⟨g, rfl, hgs, hgc, hcm, hcell⟩ : ∃ g, a6 = some ⟨g, 0, none⟩ ∧ g < wr.heap.size ∧ N ≤ c6 ∧ c6 ≤ maxLen ∧ wr.cell? ⟨g, i, none⟩ = some (.slice ua ls.length uc) := by
          have hc := fun k hk => HOx.cells (g := k) hk i _ hu
          rcases HOx with ⟨hl, ⟨he, hz⟩ | ⟨g, cap, cur, he, hb', hcur, h3, h4, _⟩⟩
          · omega
          · injection he with e1 e2 e3
            subst e1 e3
            refine ⟨g, rfl, (Array.getElem?_eq_some_iff.1 hcur).1, h3, h4, ?_⟩
            have := hc g rfl
            have ha : (⟨g, 0, none⟩ : Addr).add i = ⟨g, i, none⟩ := by unfold Addr.add; split <;> simp_all
            rwa [ha] at this
        have HS1 : Hid (csum f (i + 1) = csum f i + ls.length) := csum_succ hls
        have hcs : csum f i + ls.length ≤ 200 := by
          have h1 := csum_le f (i + 1)
          have h2 := HS1.out
          have h3 : count f ≤ muF f := by
            have h : ∀ ls : List (List Pt), (ls.map List.length).sum ≤ Fx.muQ ls := by
              intro ls
              unfold Fx.muQ
              induction ls with
              | nil => simp
              | cons l ls ih => simp only [List.map_cons, List.sum_cons]; omega
            have := h f.lines; have := h f.rings; unfold count muF; omega
          omega
        obtain ⟨nl, hnl⟩ : ∃ n, n = ls.length := ⟨_, rfl⟩
        obtain ⟨cc, hcc⟩ : ∃ c, c = csum f i := ⟨_, rfl⟩
        have Hnl := Lib.hid hnl
        have Hcc := Lib.hid hcc
        have Hls := Lib.hid hls
        rw [← hnl] at hcell hcs
        rw [← hcc] at hcs ⊢
        unfold maxLen at hcm
        clear hls hu hr HOx hnl hcc
        gi_wp2_with fail
        obtain ⟨wi, hwi⟩ : ∃ X, X = wr := ⟨_, rfl⟩
        subst hwi
        gi_loopw [9, 39] (fun s9 s39 wx => ∃ (j : Nat) (xa : Option Addr) (xc : Nat), s9 = .slice xa j xc ∧ s39 = .int .i64 (j : Int) ∧ j ≤ nl ∧ Hid (wx.ownsRow wi.heap.size 48 2 (.slice xa j xc) j (flat (ls.take j))) ∧ Hid (Below wi.heap.size wi wx)) (fun _ s39 _ => nl - (intOf s39).toNat)
        case atStart => exact ⟨0, none, 0, rfl, by first | rfl | simp, Nat.zero_le _, World.ownsRow_nil _ _ _ _, Below.refl _ _⟩
        case round =>
          obtain ⟨j, xa, xc, rfl, rfl, hj, HO2, HB2⟩ := hrel
          by_cases hjn : j < nl
          · obtain ⟨p, hp⟩ : ∃ p, ls[j]? = some p := ⟨_, List.getElem?_eq_getElem (by rw [← Hnl.out]; exact hjn)⟩
            obtain ⟨g3, o3, cc3, e3, t1, t2, t3, t4, t5⟩ := LqC.pt HRl.out hp
            injection e3 with e31 e32 e33
            subst e31 e33
            rw [← Hnl.out] at t1
            have hBB : Below w.heap.size w wr := HBx.out.trans (HB2.out.mono HBx.out.size)
            have z2 := keepc hBB t3 t4
            have z3 := keepc hBB t3 t5
            have hown := HO2.out
            have hwx : wi.heap.size ≤ wr.heap.size := HB2.out.size
            have Hst : Hid (flat (ls.take (j + 1)) = flat (ls.take j) ++ [.int .i64 p.1, .int .i64 p.2]) := by unfold Hid; rw [List.take_add_one, hp, flat_append]; rfl
            unfold maxLen at t2
            clear hp t4 t5 e32 hBB hcell
            gi_wp2_with (gi_at_builtin; refine wpListIn_append2 _ rfl _ _ 45 rfl wi.heap.size 48 (.agg #[.int .i64 0, .int .i64 0]) 2 16 Tryz.underlying45 info_pt3 rfl (by decide) (.slice xa j xc) j _ rfl ((hown.alloc _).alloc _) _ _ 1 [.int .i64 p.1, .int .i64 p.2] rfl (reads_new2 _ _ _ 1 1 _ (by simp) (by decide) (by decide)) rfl (by simp [Value.oneCell']) (by unfold maxLen; omega) (by omega) (by simp; omega) ?_)
            intro v' w9 hown2 hgrow hmov
            obtain ⟨xa2, xc2, rfl⟩ := own_form hown2
            have HB3 : Hid (Below wi.heap.size wi w9) := ((HB2.out.trans (((Below.refl _ wr).alloc (Nat.le_refl _) _).mono HB2.out.size)).trans (((Below.refl _ _).alloc (Nat.le_refl _) _).mono (by simp; omega))).grown hgrow (by simp; omega) (fun k e => (hown.lt k e).1)
            have HO3 := Lib.hid hown2
            clear hown hown2 hgrow hmov z2 z3
            gi_wp2_with fail
            go_roundw
            case rel => exact ⟨j + 1, xa2, xc2, rfl, by first | rfl | simp, hjn, by unfold Hid; rw [Hst.out]; exact HO3.out, HB3⟩
            case measure => simp [intOf]; omega
          · have hjn2 : j = nl := by omega
            subst hjn2
            have hall : ls.take j = ls := by rw [Hnl.out, List.take_length]
            rw [hall] at HO2
            have HX2 : Hid (RdC wr (.slice xa ls.length xc) ls.length (flat ls)) := by have := HO2.out; rw [Hnl.out] at this; exact RdC.own this
            have HX2 : Hid (RdC wr (.slice xa j xc) ls.length (flat ls)) := by have := HX2.out; rw [← Hnl.out] at this ⊢; exact this
            have HWx := Lib.hid (HW.out.call (HB2.out.mono (Nat.le_refl _)))
            have HBxx : Hid (Below w.heap.size w wr) := HBx.out.trans (HB2.out.mono HBx.out.size)
            have HAx := HA6.out.upd HWx.out.1 (by omega)
            have d1 := HAx.cell (j := 1) rfl
            have hzz : w.heap.size < wr.heap.size := HAx.lt
            clear hall HO2 HAx
            gi_wp2_with fail
            refine (calls_iff.2 (way13_any _ ls _ wr HX2.out (by rw [← Hnl.out]; omega))).mono ?_
            rintro e wy ⟨u2, rfl, o2, b2⟩
            obtain ⟨ring, hrg⟩ : ∃ r, r = decide (n1 ≤ i) := ⟨_, rfl⟩
            rw [← hrg] at o2
            have Hring : Hid (ring = decide (f.lines.length ≤ i)) := by unfold Hid; rw [hrg, E1.out]
            obtain ⟨wn, hwn⟩ : ∃ x, x = (way ls ring).length := ⟨_, rfl⟩
            rw [← hwn] at o2
            have Hwn := Lib.hid hwn
            have hwn6 : wn ≤ 200 := by have := way_len ls ring; rw [← hwn, ← Hnl.out] at this; omega
            obtain ⟨ta, tc, rfl⟩ := own_form o2
            have HRW := Lib.hid (RdT.of_own o2)
            have HWy := Lib.hid (HWx.out.call b2)
            have HBy : Hid (Below w.heap.size w wy) := HBxx.out.trans (b2.mono HBxx.out.size)
            obtain ⟨ta', tc', e9, htm, _⟩ := RdC.of HRW.out
            clear hrg o2 b2 hwn HWx HB2 HX2 d1 htm e9
            gi_wp2_with fail
            gi_loopw [56] (fun s56 wx => ∃ t : Nat, s56 = .int .i64 (t : Int) ∧ t ≤ wn ∧ Hid (Wnt B5 w6 wx (segT f i ls ring t)) ∧ Hid (KeepT tW wy wx)) (fun s56 _ => wn - (intOf s56).toNat)
            case atStart => exact ⟨0, by first | rfl | simp, Nat.zero_le _, by unfold Hid; rw [segT_zero]; exact HWy.out, KeepT.refl _ _⟩
            case round =>
              clear HWy
              obtain ⟨t, rfl, ht, HWt, HKt⟩ := hrel
              by_cases htn : t < wn
              · obtain ⟨z, hz⟩ : ∃ z, (way ls ring)[t]? = some z := ⟨_, List.getElem?_eq_getElem (by rw [← Hwn.out]; exact htn)⟩
                obtain ⟨hz1, hz2⟩ := way_lt hz
                obtain ⟨f1, f2⟩ := wayC_at hz
                obtain ⟨ta2, tc2, e10, _, ho⟩ := RdC.of (HRW.out.keep HKt.out)
                injection e10 with e101 e102 e103
                subst e101 e103
                obtain ⟨g7, o7, rfl, h1, h2, h3, h4⟩ := ho (fun e => by rw [e] at f1; cases f1)
                have y1 : wr.cell? ⟨g7, o7 + t * 2, none⟩ = some (.int .i64 (z.1 : Int)) := h4 _ _ f1
                have y2 : wr.cell? ⟨g7, o7 + t * 2 + 1, none⟩ = some (.int .i64 (z.2 : Int)) := h4 _ _ f2
                obtain ⟨p, hp⟩ : ∃ p, ls[z.1]? = some p := ⟨_, List.getElem?_eq_getElem hz1⟩
                obtain ⟨q, hq⟩ : ∃ q, ls[z.2]? = some q := ⟨_, List.getElem?_eq_getElem hz2⟩
                obtain ⟨g3, o3, cc3, e3, t1, t2, t3, t4, t5⟩ := LqC.pt HRl.out hp
                obtain ⟨g4, o4, cc4, e4, v1, v2, v3, v4, v5⟩ := LqC.pt HRl.out hq
                injection e3 with e31 e32 e33
                injection e4 with e41 e42 e43
                subst e31 e33 e43
                cases e41
                rw [← Hnl.out] at t1 hz1 hz2
                have Hst : Hid (segT f i ls ring (t + 1) = segT f i ls ring t ++ [(p, q)]) := by
                  unfold Hid; rw [segT_succ hz]; unfold seg1
                  simp only [List.getD_eq_getElem?_getD, hp, hq, Option.getD_some]
                have hacc : (segT f i ls ring t).length ≤ 1048576 := Nat.le_trans (segT_len f i ls ring t Hls.out Hring.out (by rw [← Hwn.out]; exact ht)) (Nat.le_trans (segF_len f) HM.out)
                obtain ⟨acc, hac⟩ : ∃ acc, acc = segT f i ls ring t := ⟨_, rfl⟩
                rw [← hac] at hacc HWt Hst
                have V4 := Lib.hid t4
                have V5 := Lib.hid t5
                have V6 := Lib.hid v4
                have V7 := Lib.hid v5
                unfold maxLen at h2 t2
                clear f1 f2 h4 ho hp hq hz t4 t5 v1 v2 v3 v4 v5 e32 e42 e102 hac
                gi_wp2_with fail
                obtain ⟨wb, hwb⟩ : ∃ X, wr.alloc (.cells #[.int .i64 (z.1 : Int), .int .i64 (z.2 : Int)] tW) = X := ⟨_, rfl⟩
                have hbb : Below wr.heap.size wr wb := hwb ▸ (Below.refl _ wr).alloc (Nat.le_refl _) _
                have HG7 : Hid (Blk wb wr.heap.size [.int .i64 (z.1 : Int), .int .i64 (z.2 : Int)] tW) := hwb ▸ Blk.new wr _ _
                rw [hwb]
                obtain ⟨G, hG⟩ : ∃ G, G = wr.heap.size := ⟨_, rfl⟩
                rw [← hG] at HG7 ⊢
                obtain ⟨hU7, wv, hB7, hO7⟩ := HWt.out.call hbb
                obtain ⟨wa0, wc0, rfl⟩ := own_form hO7
                have HU7 := Lib.hid hU7
                have HB7 := Lib.hid hB7
                have HO7 := Lib.hid hO7
                have HK7 := Lib.hid (HKt.out.trans (KeepT.call hbb))
                have HBw7 : Hid (Below w.heap.size w wb) := HBw6.out.trans (hU7.below hwz (by omega))
                have hs7 : w6.heap.size ≤ wb.heap.size := hU7.size
                have s0 := HB7.out.cell (j := 0) rfl
                have s1 := HG7.out.cell (j := 0) rfl
                have s2 := HG7.out.cell (j := 1) rfl
                have s3 := keepc HBw7.out t3 V4.out
                have s4 := keepc HBw7.out t3 V5.out
                have s5 := keepc HBw7.out t3 V6.out
                have s6 := keepc HBw7.out t3 V7.out
                have hS17d : wb.drew.cell? ⟨B5, 0, none⟩ = some (.slice wa0 acc.length wc0) ∧ wb.drew.cell? ⟨G, 0, none⟩ = some (.int .i64 (z.1 : Int)) ∧ wb.drew.cell? ⟨G, 1, none⟩ = some (.int .i64 (z.2 : Int)) ∧ wb.drew.cell? ⟨g3, o3 + z.1 * 2, none⟩ = some (.int .i64 p.1) ∧ wb.drew.cell? ⟨g3, o3 + z.1 * 2 + 1, none⟩ = some (.int .i64 p.2) ∧ wb.drew.cell? ⟨g3, o3 + z.2 * 2, none⟩ = some (.int .i64 q.1) ∧ wb.drew.cell? ⟨g3, o3 + z.2 * 2 + 1, none⟩ = some (.int .i64 q.2) := ⟨s0, s1, s2, s3, s4, s5, s6⟩
                have k1 : IntKind.i64.wrap (z.1 : Int) = (z.1 : Int) := by rw [IntKind.wrap_i64]; omega
                have k2 : IntKind.i64.wrap (z.2 : Int) = (z.2 : Int) := by rw [IntKind.wrap_i64]; omega
                have k3 : (z.1 : Int) < (j : Int) := by omega
                have k4 : (z.2 : Int) < (j : Int) := by omega
                clear hwb hbb hG hU7 hB7 hO7 y1 y2 HWt HKt
                refine onlyN_mono ?_
                refine heldG_round (fun w' => w'.cell? ⟨B5, 0, none⟩ = some (.slice wa0 acc.length wc0) ∧ w'.cell? ⟨G, 0, none⟩ = some (.int .i64 (z.1 : Int)) ∧ w'.cell? ⟨G, 1, none⟩ = some (.int .i64 (z.2 : Int)) ∧ w'.cell? ⟨g3, o3 + z.1 * 2, none⟩ = some (.int .i64 p.1) ∧ w'.cell? ⟨g3, o3 + z.1 * 2 + 1, none⟩ = some (.int .i64 p.2) ∧ w'.cell? ⟨g3, o3 + z.2 * 2, none⟩ = some (.int .i64 q.1) ∧ w'.cell? ⟨g3, o3 + z.2 * 2 + 1, none⟩ = some (.int .i64 q.2)) (fun j => j == 14) (by kernel_rfl) ?_ (by kernel_rfl) ?_
                · exact fun ⟨_, _, h⟩ => h
                have hHeld := hS17d
                refine takeG 0 (v := ?_) [0, 13, 14] rfl (by kernel_rfl) (by kernel_rfl) (by kernel_rfl) (by kernel_rfl) (by kernel_rfl) (fun _ _ _ h => h) (by rfl) (by assumption) ?hy0 ?_
                case hy0 => (intro w hSw; (try dsimp only at hSw); obtain ⟨z0, z1, z2, z3, z4, z5, z6⟩ := hSw; go_simp; all_goals (with_reducible rfl))
                (try simp only [Act.put, List.setIfInBounds_toArray, List.set_cons_zero, List.set_cons_succ])
                refine takeG 1 (v := ?_) [1, 4, 5, 11, 12, 13, 14] rfl (by kernel_rfl) (by kernel_rfl) (by kernel_rfl) (by kernel_rfl) (by kernel_rfl) (fun _ _ _ h => h) (by rfl) (by assumption) ?hy1 ?_
                case hy1 => (intro w hSw; (try dsimp only at hSw); obtain ⟨z0, z1, z2, z3, z4, z5, z6⟩ := hSw; go_simp; all_goals (with_reducible rfl))
                (try simp only [Act.put, List.setIfInBounds_toArray, List.set_cons_zero, List.set_cons_succ])
                refine takeG 2 (v := ?_) [2, 3, 4, 5, 11, 12, 13, 14] rfl (by kernel_rfl) (by kernel_rfl) (by kernel_rfl) (by kernel_rfl) (by kernel_rfl) (fun _ _ _ h => h) (by rfl) (by assumption) ?hy2 ?_
                case hy2 => (intro w hSw; (try dsimp only at hSw); obtain ⟨z0, z1, z2, z3, z4, z5, z6⟩ := hSw; go_simp; all_goals (with_reducible rfl))
                (try simp only [Act.put, List.setIfInBounds_toArray, List.set_cons_zero, List.set_cons_succ])
                refine takeG 3 (v := ?_) [3, 4, 5, 11, 12, 13, 14] rfl (by kernel_rfl) (by kernel_rfl) (by kernel_rfl) (by kernel_rfl) (by kernel_rfl) (fun _ _ _ h => h) (by rfl) (by assumption) ?hy3 ?_
                case hy3 => (intro w hSw; (try dsimp only at hSw); obtain ⟨z0, z1, z2, z3, z4, z5, z6⟩ := hSw; go_simp; all_goals (with_reducible rfl))
                (try simp only [Act.put, List.setIfInBounds_toArray, List.set_cons_zero, List.set_cons_succ])
                refine takeG 4 (v := ?_) [4, 5, 11, 12, 13, 14] rfl (by kernel_rfl) (by kernel_rfl) (by kernel_rfl) (by kernel_rfl) (by kernel_rfl) (fun _ _ _ h => h) (by rfl) (by assumption) ?hy4 ?_
                case hy4 => (intro w hSw; (try dsimp only at hSw); obtain ⟨z0, z1, z2, z3, z4, z5, z6⟩ := hSw; go_simp; all_goals (with_reducible rfl))
                (try simp only [Act.put, List.setIfInBounds_toArray, List.set_cons_zero, List.set_cons_succ])
                refine takeG 5 (v := ?_) [5, 11, 12, 13, 14] rfl (by kernel_rfl) (by kernel_rfl) (by kernel_rfl) (by kernel_rfl) (by kernel_rfl) (fun _ _ _ h => h) (by rfl) (by assumption) ?hy5 ?_
                case hy5 => (intro w hSw; (try dsimp only at hSw); obtain ⟨z0, z1, z2, z3, z4, z5, z6⟩ := hSw; go_simp; all_goals (with_reducible rfl))
                (try simp only [Act.put, List.setIfInBounds_toArray, List.set_cons_zero, List.set_cons_succ])
                refine takeG 6 (v := ?_) [6, 9, 10, 11, 12, 13, 14] rfl (by kernel_rfl) (by kernel_rfl) (by kernel_rfl) (by kernel_rfl) (by kernel_rfl) (fun _ _ _ h => h) (by rfl) (by assumption) ?hy6 ?_
                case hy6 => (intro w hSw; (try dsimp only at hSw); obtain ⟨z0, z1, z2, z3, z4, z5, z6⟩ := hSw; go_simp; all_goals (with_reducible rfl))
                (try simp only [Act.put, List.setIfInBounds_toArray, List.set_cons_zero, List.set_cons_succ])
                refine takeG 7 (v := ?_) [7, 8, 9, 10, 11, 12, 13, 14] rfl (by kernel_rfl) (by kernel_rfl) (by kernel_rfl) (by kernel_rfl) (by kernel_rfl) (fun _ _ _ h => h) (by rfl) (by assumption) ?hy7 ?_
                case hy7 => (intro w hSw; (try dsimp only at hSw); obtain ⟨z0, z1, z2, z3, z4, z5, z6⟩ := hSw; go_simp; all_goals (with_reducible rfl))
                (try simp only [Act.put, List.setIfInBounds_toArray, List.set_cons_zero, List.set_cons_succ])
                refine takeG 8 (v := ?_) [8, 9, 10, 11, 12, 13, 14] rfl (by kernel_rfl) (by kernel_rfl) (by kernel_rfl) (by kernel_rfl) (by kernel_rfl) (fun _ _ _ h => h) (by rfl) (by assumption) ?hy8 ?_
                case hy8 => (intro w hSw; (try dsimp only at hSw); obtain ⟨z0, z1, z2, z3, z4, z5, z6⟩ := hSw; go_simp; all_goals (with_reducible rfl))
                (try simp only [Act.put, List.setIfInBounds_toArray, List.set_cons_zero, List.set_cons_succ])
                refine takeG 9 (v := ?_) [9, 10, 11, 12, 13, 14] rfl (by kernel_rfl) (by kernel_rfl) (by kernel_rfl) (by kernel_rfl) (by kernel_rfl) (fun _ _ _ h => h) (by rfl) (by assumption) ?hy9 ?_
                case hy9 => (intro w hSw; (try dsimp only at hSw); obtain ⟨z0, z1, z2, z3, z4, z5, z6⟩ := hSw; go_simp; all_goals (with_reducible rfl))
                (try simp only [Act.put, List.setIfInBounds_toArray, List.set_cons_zero, List.set_cons_succ])
                refine takeG 10 (v := ?_) [10, 11, 12, 13, 14] rfl (by kernel_rfl) (by kernel_rfl) (by kernel_rfl) (by kernel_rfl) (by kernel_rfl) (fun _ _ _ h => h) (by rfl) (by assumption) ?hy10 ?_
                case hy10 => (intro w hSw; (try dsimp only at hSw); obtain ⟨z0, z1, z2, z3, z4, z5, z6⟩ := hSw; go_simp; all_goals (with_reducible rfl))
                (try simp only [Act.put, List.setIfInBounds_toArray, List.set_cons_zero, List.set_cons_succ])
                refine takeG 11 (v := ?_) [11, 12, 13, 14] rfl (by kernel_rfl) (by kernel_rfl) (by kernel_rfl) (by kernel_rfl) (by kernel_rfl) (fun _ _ _ h => h) (by rfl) (by assumption) ?hy11 ?_
                case hy11 => (intro w hSw; (try dsimp only at hSw); obtain ⟨z0, z1, z2, z3, z4, z5, z6⟩ := hSw; go_simp; all_goals (with_reducible rfl))
                (try simp only [Act.put, List.setIfInBounds_toArray, List.set_cons_zero, List.set_cons_succ])
                refine consG 12 (by kernel_rfl) rfl (by rfl) (fun K hK => ?_)
                go_simp
                obtain ⟨wd, hwd⟩ : ∃ X, (wb.alloc (.cells #[.int .i64 p.1, .int .i64 p.2, .int .i64 q.1, .int .i64 q.2] tSg)).drew = X := ⟨_, rfl⟩
                have hbd : Below wb.heap.size wb wd := hwd ▸ ((Below.refl _ wb).alloc (Nat.le_refl _) _).drew
                have HRd : Hid (Reads wd wd.heap.size (.slice (some ⟨wb.heap.size, 0, none⟩) 1 1) 1 (segC (p, q))) := by
                  have hb : Blk wd wb.heap.size (segC (p, q)) tSg := hwd ▸ (Blk.new wb (segC (p, q)) tSg : Blk (wb.alloc (.cells #[.int .i64 p.1, .int .i64 p.2, .int .i64 q.1, .int .i64 q.2] tSg)).drew wb.heap.size (segC (p, q)) tSg)
                  exact .inr ⟨wb.heap.size, 0, 1, rfl, hb.lt, Nat.le_refl _, (by decide), fun j x hj => by rw [Nat.zero_add]; exact hb.cell hj⟩
                have HUd := Lib.hid (HU7.out.call hbd)
                have HBd := Lib.hid (HB7.out.call hbd)
                have HGd := Lib.hid (HG7.out.call hbd)
                have HOd := Lib.hid (own_call HO7.out hbd)
                have HKd := Lib.hid (HK7.out.trans (KeepT.call hbd))
                have HBw := Lib.hid (HBw7.out.trans (hbd.mono HBw7.out.size))
                have s0 := HBd.out.cell (j := 0) rfl
                have s1 := HGd.out.cell (j := 0) rfl
                have s2 := HGd.out.cell (j := 1) rfl
                have s3 := keepc HBw.out t3 V4.out
                have s4 := keepc HBw.out t3 V5.out
                have s5 := keepc HBw.out t3 V6.out
                have s6 := keepc HBw.out t3 V7.out
                have hsd : w6.heap.size ≤ wd.heap.size := Nat.le_trans hs7 hbd.size
                (try rw [hwd])
                clear hwd hbd
                clear hHeld
                refine hK.out _ _ ?hS12 (fun hHeld => ?_)
                case hS12 => (intro _; (try dsimp only); exact ⟨s0, s1, s2, s3, s4, s5, s6⟩)
                have hHeld := hHeld rfl
                clear hK K
                (try simp only [Act.put, List.setIfInBounds_toArray, List.set_cons_zero, List.set_cons_succ])
                refine consG 13 (by kernel_rfl) rfl (by rfl) (fun K hK => ?_)
                refine wp_append2 _ _ _ 44 rfl w6.heap.size tSg (.agg #[.int .i64 0, .int .i64 0, .int .i64 0, .int .i64 0]) 4 32 Tryz.underlying44 info_seg rfl (by decide) (.slice wa0 acc.length wc0) acc.length _ rfl HOd.out _ wd.heap.size 1 (segC (p, q)) rfl HRd.out rfl (by unfold segC; simp [Value.oneCell']) (by unfold maxLen; omega) (by omega) hsd ?_
                intro v13 w13 own13 grow13 mov13
                obtain ⟨wa3, wc3, rfl⟩ := own_form own13
                have HW13 := Lib.hid (Wnt.app hz6 HUd.out HBd.out HOd.out own13 grow13)
                have HG13 := Lib.hid (HGd.out.grown grow13 (HGd.out.not_own HOd.out (by decide)))
                have HK13 := Lib.hid (HKd.out.trans (KeepT.grown HOd.out (by decide) grow13))
                have HB13 := Lib.hid (HBd.out.appended HOd.out hz6 grow13)
                have HBw13 := Lib.hid (HBw.out.grown grow13 (by omega) (fun k e => by have := (HOd.out.lt k e).1; omega))
                have s0 := HB13.out.cell (j := 0) rfl
                have s1 := HG13.out.cell (j := 0) rfl
                have s2 := HG13.out.cell (j := 1) rfl
                have s3 := keepc HBw13.out t3 V4.out
                have s4 := keepc HBw13.out t3 V5.out
                have s5 := keepc HBw13.out t3 V6.out
                have s6 := keepc HBw13.out t3 V7.out
                have sf := HB13.out.frozen 0
                clear own13 grow13 mov13 HRd HUd HBd HGd HOd HKd HBw
                clear hHeld
                refine hK.out _ _ ?hS13 (fun hHeld => ?_)
                case hS13 => (intro _; (try dsimp only); exact ⟨s0, s1, s2, s3, s4, s5, s6⟩)
                have hHeld := hHeld rfl
                clear hK K
                (try simp only [Act.put, List.setIfInBounds_toArray, List.set_cons_zero, List.set_cons_succ])
                refine consG 14 (by kernel_rfl) rfl (by rfl) (fun K hK => ?_)
                go_simp
                clear hHeld
                refine hK.out _ _ (fun h => by cases h) (fun hHeld => ?_)
                clear hK K
                (try simp only [Act.put, List.setIfInBounds_toArray, List.set_cons_zero, List.set_cons_succ])
                refine wpAnyG_done (by kernel_rfl) ?_ _
                unfold onlyN
                dsimp only
                clear s0 s1 s2 s3 s4 s5 s6 sf hHeld
                gi_wp2_with fail
                go_roundw
                case rel => exact ⟨t + 1, by first | rfl | simp, htn, by unfold Hid; rw [Hst.out]; exact HW13.out, HK13.out.trans (KeepT.set (T' := 44) ⟨B5, 0, none⟩ HB13.out (by decide) _)⟩
                case measure => simp [intOf]; omega
              · have htn2 : t = wn := by omega
                have HWf : Hid (Wnt B5 w6 wr ((segX f).take (i + 1)).flatten) := by
                  have := HWt.out
                  rw [htn2, Hwn.out] at this
                  have h9 := segT_all Hls.out
                  rw [← Hring.out] at h9
                  rw [h9] at this
                  exact this
                have Hcs : Hid (((csum f (i + 1) : Nat) : Int) = (cc : Int) + (j : Int)) := by unfold Hid; rw [HS1.out, ← Hcc.out, ← Hnl.out]; omega
                clear HWt HKt
                subst htn2
                gi_wp2_with fail
                go_roundw
                case rel => exact ⟨i + 1, by rw [Hcs.out], by first | rfl | simp, hiN, HWf⟩
                case measure => simp [intOf]; omega
      · have hiE : i = N := by omega
        subst hiE
        have HWE : Hid (Wnt B5 w6 wr (segF f)) := by
          have := HW.out
          rw [List.take_of_length_le (by unfold segX; rw [List.length_mapIdx, HN.out]; exact Nat.le_refl _)] at this
          exact this
        have hcE : csum f i = count f := by rw [HN.out]; exact csum_all f
        rw [hcE]
        have hcu : count f ≤ 200 := by
          have h : ∀ ls : List (List Pt), (ls.map List.length).sum ≤ Fx.muQ ls := by
            intro ls
            unfold Fx.muQ
            induction ls with
            | nil => simp
            | cons l ls ih => simp only [List.map_cons, List.sum_cons]; omega
          have := h f.lines; have := h f.rings; unfold muF at h200; unfold count; omega
        have hq1 : n1 ≤ 200 := by have := muQ_len f.lines; have := E1.out; unfold muF at h200; omega
        have hq2 : n2 ≤ 200 := by have := muQ_len f.rings; have := E2.out; unfold muF at h200; omega
        have HBx : Hid (Below w.heap.size w wr) := HBw6.out.trans (HW.out.1.below hwz (by omega))
        have HAx := Lib.hid (HA6.out.upd HWE.out.1 (by omega))
        have HSx := Lib.hid (HSt6.out.upd HWE.out.1 (by omega))
        have HRx := Lib.hid (HRs6.out.upd HWE.out.1 (by omega))
        have HCt := Lib.hid (count13_any a0 a1 a2 m0 m1 m2 f vs us wr ((HF.out.below HBx.out).mono HBx.out.size) (by omega) (by rw [← E1.out]; omega) (by rw [← E2.out]; omega))
        rw [← E0.out, ← E1.out, ← E2.out] at HCt
        unfold feV at HCt
        have d0 := HAx.out.cell (j := 0) rfl
        have d1 := HAx.out.cell (j := 1) rfl
        have d2 := HAx.out.cell (j := 2) rfl
        have hz9 : w.heap.size < wr.heap.size := HAx.out.lt
        clear HW hcE HO
        gi_wp2_with fail
        refine (calls_iff.2 HCt.out).mono ?_
        rintro e x7 ⟨rfl, hb⟩
        have HWE := Lib.hid (HWE.out.call hb)
        have HBx := Lib.hid (HBx.out.trans (hb.mono HBx.out.size))
        have HAx := Lib.hid (HAx.out.call hb)
        have HSx := Lib.hid (HSx.out.call hb)
        have HRx := Lib.hid (HRx.out.call hb)
        have d0 := HAx.out.cell (j := 0) rfl
        have d1 := HAx.out.cell (j := 1) rfl
        have d2 := HAx.out.cell (j := 2) rfl
        have hz9 : w.heap.size < x7.heap.size := HAx.out.lt
        clear hb HCt
        gi_wp2_with fail
        refine (calls_iff.2 (equal13_any f f (.slice a0 n0 m0) (.slice a1 n1 m1) (.slice a2 n2 m2) (.slice a0 n0 m0) (.slice a1 n1 m1) (.slice a2 n2 m2) x7 (HFA2.out.call HBx.out).feC (HFA2.out.call HBx.out).feC)).mono ?_
        rintro e x8 ⟨rfl, hb⟩
        rw [show eqFe f f = true from (eqFe_iff f f).2 rfl]
        have HWE := Lib.hid (HWE.out.call hb)
        have HBx := Lib.hid (HBx.out.trans (hb.mono HBx.out.size))
        have HAx := Lib.hid (HAx.out.call hb)
        have HSx := Lib.hid (HSx.out.call hb)
        have HRx := Lib.hid (HRx.out.call hb)
        have d0 := HAx.out.cell (j := 0) rfl
        have d1 := HAx.out.cell (j := 1) rfl
        have d2 := HAx.out.cell (j := 2) rfl
        have hz9 : w.heap.size < x8.heap.size := HAx.out.lt
        clear hb
        gi_wp2_with fail
        refine (calls_iff.2 (segsF13 _ _ _ _)).mono ?_
        rintro e w9 ⟨rfl, hw9⟩
        have hw9' : [.cells #[.int .i64 0] 3, .cells #[.slice a0 n0 m0, .slice a1 n1 m1, .slice a2 n2 m2] 37].foldl World.alloc x8 = w9 := hw9
        clear hw9
        have hE0 : Blk w9 x8.heap.size [.int .i64 ((0 : Nat) : Int)] 3 := Blk.allocs _ hw9' 0 rfl
        have hE1 : Blk w9 (x8.heap.size + 1) [.slice a0 n0 m0, .slice a1 n1 m1, .slice a2 n2 m2] 37 := Blk.allocs _ hw9' 1 rfl
        have hb9 : Below x8.heap.size x8 w9 := hw9' ▸ allocs_below _ x8
        have Hsz9 : Hid (w9.heap.size = x8.heap.size + 2) := hw9' ▸ allocs_size _ x8
        have hs9 : x8.heap.size + 2 ≤ w9.heap.size := by have := Hsz9.out; omega
        clear hw9'
        obtain ⟨hUd, wv, hWB, hown⟩ := HWE.out
        have hK6 : w6.heap.size ≤ x8.heap.size := hUd.size
        have hbel9 : Below w.heap.size w w9 := HBx.out.trans (hb9.mono HBx.out.size)
        have hD1 : Blk w9 (w.heap.size + 1) [.int .i64 stop] 3 := HSx.out.call hb9
        have hD2 : Blk w9 (w.heap.size + 2) [.bool false] 4 := HRx.out.call hb9
        have hWB9 := hWB.call hb9
        obtain ⟨av, capv, rfl⟩ := own_form hown
        obtain ⟨M, hM⟩ : ∃ M, M = (segF f).length := ⟨_, rfl⟩
        have hM6 : M ≤ 1048576 := by have := segF_len f; have := HM.out; omega
        rw [← hM] at hown hWB9
        have HMs := Lib.hid hM
        obtain ⟨S, hSd⟩ : ∃ S : Nat → Prop, S = fun j => j < w9.heap.size ∧ j ≠ w.heap.size + 2 ∧ j ≠ x8.heap.size := ⟨_, rfl⟩
        have hSlt : ∀ j, S j → j < w9.heap.size := by rw [hSd]; exact fun j hj => hj.1
        have HS := Lib.hid hSd
        have Hrow : Hid (∀ X, Kept S w9 X → ∀ t s, (segF f)[t]? = some s → ∃ g, av = some ⟨g, 0, none⟩ ∧ M ≤ capv ∧ capv ≤ maxLen ∧ X.cell? ⟨g, t * 4, none⟩ = some (.int .i64 s.1.1) ∧ X.cell? ⟨g, t * 4 + 1, none⟩ = some (.int .i64 s.1.2) ∧ X.cell? ⟨g, t * 4 + 2, none⟩ = some (.int .i64 s.2.1) ∧ X.cell? ⟨g, t * 4 + 3, none⟩ = some (.int .i64 s.2.2)) := by
          intro X hX t s hs
          obtain ⟨f0, f1, f2, f3⟩ := flatS_at hs
          have hc := fun k hk => hown.cells (g := k) hk
          have hlt := fun k hk => hown.lt k hk
          rcases hown with ⟨hl, ⟨he, hz⟩ | ⟨g, cap, cur, he, hb', hcur, h3, h4, _⟩⟩
          · rw [hM] at hz; have := (List.getElem?_eq_some_iff.1 hs).1; omega
          · injection he with e1 e2 e3
            subst e1 e3
            have hg8 := (hlt g rfl).2
            have hSg : S g := by rw [hSd]; exact ⟨by omega, by omega, by omega⟩
            have key : ∀ j x, (flatS (segF f))[j]? = some x → X.cell? ⟨g, j, none⟩ = some x := fun j x hj => by
              have h1 := hc g rfl j x hj
              have ha : (⟨g, 0, none⟩ : Addr).add j = ⟨g, j, none⟩ := by unfold Addr.add; split <;> simp_all
              rw [ha] at h1
              exact (World.cell?_of_block (a := ⟨g, j, none⟩) ((hX.same g hSg).trans (hb9.block g hg8))).trans h1
            exact ⟨g, rfl, h3, h4, key _ _ f0, key _ _ f1, key _ _ f2, key _ _ f3⟩
        have hnf := fun wx => neq_segs wx 26 (x8.heap.size + 1)
        have HSeq : Hid (SeqI Tryz.prog 26 #[.pointer (some ⟨x8.heap.size + 1, 0, none⟩)] ((segF f).map segV) S w9) :=
          segs13_seq (x8.heap.size + 1) a0 a1 a2 n0 m0 m1 m2 f vs us S w9 (by rw [← E1.out, ← E2.out]; exact hE1) (by rw [hSd]; exact ⟨by omega, by omega, by omega⟩) hSlt
            (fun X hX => ((HF.out.below hbel9).below (Kept.below (hX.mono (fun j hj => by rw [hSd]; exact ⟨by omega, by omega, by omega⟩)))).mono (by have := hX.size; omega)) (by rw [← E1.out]; omega) (by rw [← E2.out]; omega)
        clear hSd hM hown HWE HBx HAx HSx HRx hWB hE1 hb9 hUd d0 d1 d2
        gi_wp2_with fail
        refine wp_range (P := Tryz.prog) (gf := 26) (lb := #[.pointer (some ⟨x8.heap.size + 1, 0, none⟩)]) (S := S) rfl enter_segs13
          HSeq.out (Kept.refl _ _) hSlt (fun x hx => by obtain ⟨t, _, rfl⟩ := List.mem_map.1 hx; rfl)
          (sI w w9 S (w.heap.size + 2) x8.heap.size) (sX w (w.heap.size + 2)) (fun k O O' X Y h hx hO => sI_stab (by omega) hSlt k O O' X Y h hx hO) (fun c k X Y h hx => sX_stab (by omega) c k X Y h hx)
          ⟨Kept.refl _ _, hbel9, hD2, hE0⟩ ?round ?done ?stop
        case round =>
          intro l k x O Wr hl1 hl2 hx hk hO hi
          rw [List.getElem?_map] at hx
          obtain ⟨sg, hsg, rfl⟩ := Option.map_eq_some_iff.1 hx
          clear hx
          have Hp := Lib.hid hsg
          have Hi := Lib.hid hi
          have HO := Lib.hid hO
          clear hsg hi hO hE0
          unfold segV
          gi_wp2_with fail
          refine ⟨(Eff.refl _ _ _).alloc (fun j hj => hj.elim (fun h => by have := hk.size; have := hSlt j h; omega) (fun h => (HO.out j h).2)) _, ?_⟩
          intro Wb hx hkb hszb hlb
          obtain ⟨i0, i1, i2, i3⟩ := Hi.out
          have hwW : w9.heap.size ≤ Wr.heap.size := hk.size
          have hxr : Ext w9.heap.size Wr Wb := (Ext.of_below' ((Below.refl _ Wr).alloc (Nat.le_refl _) (.cells #[.int .i64 sg.1.1, .int .i64 sg.1.2, .int .i64 sg.2.1, .int .i64 sg.2.2] 53)) (by omega)).trans hx
          have jt := (Blk.new Wr [.int .i64 sg.1.1, .int .i64 sg.1.2, .int .i64 sg.2.1, .int .i64 sg.2.2] 53).ext hx
          have j0 : Kept S w9 Wb := i0.trans ((Kept.of_below hxr.below).mono hSlt)
          have j2 := i2.ext hxr
          have j3 := i3.ext hxr
          have jb : Below w.heap.size w Wb := i1.trans (hxr.below.mono (by omega))
          have j1 : Blk Wb (w.heap.size + 1) [.int .i64 stop] 3 := hD1.of_same (j0.same _ (by rw [HS.out]; exact ⟨by omega, by omega, by omega⟩))
          have j8 : Blk Wb B5 [.slice av M capv] 44 := hWB9.of_same (j0.same _ (by rw [HS.out]; exact ⟨by omega, by omega, by omega⟩))
          have hzb : Wr.heap.size + 1 ≤ Wb.heap.size := by rw [hszb]; simp
          have hkM : k < M := by rw [HMs.out]; exact (List.getElem?_eq_some_iff.1 Hp.out).1
          obtain ⟨g, rfl, m1', m2', q0, q1, q2, q3⟩ := Hrow.out Wb j0 k sg Hp.out
          have t0 := jt.cell (j := 0) rfl
          have t1 := jt.cell (j := 1) rfl
          have t2 := jt.cell (j := 2) rfl
          have t3 := jt.cell (j := 3) rfl
          have dd1 := j1.cell (j := 0) rfl
          have dd2 := j2.cell (j := 0) rfl
          have dd3 := j3.cell (j := 0) rfl
          have dd8 := j8.cell (j := 0) rfl
          have gg2 := j2.frozen 0
          have gg3 := j3.frozen 0
          have hge : ¬ (M : Int) ≤ (k : Int) := by omega
          have hge2 : decide ((M : Int) ≤ (k : Int)) = false := decide_eq_false hge
          have hge3 : decide (M ≤ k) = false := decide_eq_false (by omega)
          have hkM2 : (k : Int) < (M : Int) := by omega
          have hwk : IntKind.i64.wrap (k : Int) = (k : Int) := by rw [IntKind.wrap_i64]; omega
          unfold maxLen at m2'
          clear hx hkb hszb hlb i0 i1 i2 i3
          obtain ⟨⟨sa, sb⟩, sc, sd⟩ := sg
          simp only at t0 t1 t2 t3 q0 q1 q2 q3 ⊢
          gi_wp2_with fail
          refine quiet_round (by kernel_rfl) (by kernel_rfl) (by kernel_rfl) ?_
          repeat (quiet_step_in (fail))
          refine wpQuietIn_nil ?_
          intro _ hw'
          obtain ⟨nq, hw''⟩ := hw'
          subst hw''
          have hXd := below_drewN Wb.heap.size Wb nq
          have hfin := s_go (w6 := w9) (S := S) (R := w.heap.size + 2) (K := x8.heap.size) (k := k) (O := O) (by rw [HS.out]; exact fun h => h.2.2 rfl) (by omega) (by omega) jb j0 j2 j3 (fun j hj => ⟨by have := (HO.out j hj).1; omega, by have := (HO.out j hj).2; omega⟩) (fun j hj => by have := hSlt j hj; omega) (X := Wb.drewN nq) hXd
          have Hfin := Lib.hid hfin
          have e3 := (j3.call hXd).cell (j := 0) rfl
          have g3' := (j3.call hXd).frozen 0
          have e1 := (j1.call hXd).cell (j := 0) rfl
          clear hfin t0 t1 t2 t3
          by_cases hst : (k : Int) + 1 = stop
          · have hst' : ((k : Int) + 1 == stop) = true := by rw [beq_iff_eq]; exact hst
            clear hst
            gi_wp2_with fail
            refine (calls_iff.2 (awake13_any _ (HT.out.below Hfin.out.2.2.1 (Nat.le_refl _)))).mono ?_
            rintro e X1 ⟨rfl, hX1⟩
            obtain ⟨z1, z2, z3⟩ := s_stop (by rw [HS.out]; exact fun h => h.2.1 rfl) (by omega) (by omega) (fun j hj => ⟨by have := (HO.out j hj).1; omega, by have := (HO.out j hj).2; omega⟩) (fun j hj => by have := hSlt j hj; omega) Hfin.out.1 Hfin.out.2 hX1
            have y1 : X1.cell? ⟨w.heap.size + 2, 0, none⟩ = some (.bool false) := z1.cell (j := 0) rfl
            have y2 : X1.frozen? ⟨w.heap.size + 2, 0, none⟩ = false := z1.frozen 0
            have Hz := Lib.hid (And.intro z2 z3)
            clear z1 z2 z3
            gi_wp2_with fail
            exact Hz.out
          · have hst' : ((k : Int) + 1 == stop) = false := by rw [beq_eq_false_iff_ne]; exact hst
            clear hst
            gi_wp2_with fail
            exact Hfin.out
        case done =>
          intro O Wd hk hlt hi hD
          rw [List.length_map, ← HMs.out] at hi
          obtain ⟨i0, i1, i2, i3⟩ := hi
          have j8 : Blk Wd B5 [.slice av M capv] 44 := hWB9.of_same (i0.same _ (by rw [HS.out]; exact ⟨by omega, by omega, by omega⟩))
          have dd3 := i3.cell (j := 0) rfl
          have dd8 := j8.cell (j := 0) rfl
          have HD := Lib.hid hD
          have hle : ((M : Int) == (M : Int)) = true := by simp
          clear hD hE0 hD1 hD2
          gi_wp2_with fail
          refine (calls_iff.2 (awake13_any _ (HT.out.below i1 (Nat.le_refl _)))).mono ?_
          rintro e X1 ⟨rfl, hX1⟩
          have y1 : X1.cell? ⟨w.heap.size + 2, 0, none⟩ = some (.bool false) := (i2.call hX1).cell (j := 0) rfl
          have y2 : X1.frozen? ⟨w.heap.size + 2, 0, none⟩ = false := (i2.call hX1).frozen 0
          have hfb := (i2.call hX1).set 0 (.bool true)
          have hbf := (i1.trans (hX1.mono i1.size)).setCell (p := ⟨w.heap.size + 2, 0, none⟩) (by show _ ≤ w.heap.size + 2; omega) (.bool true)
          have hDD : X1.heap[w9.heap.size]? = some (.deferred (some [])) := (hX1.block _ (Array.getElem?_eq_some_iff.1 HD.out).1).trans HD.out
          have HD1 := Lib.hid (set_other hDD rfl ⟨w.heap.size + 2, 0, none⟩ (.bool true))
          have Hfb := Lib.hid hfb
          have Hbf := Lib.hid hbf
          clear hDD hfb hbf
          gi_wp2_with fail
          refine ⟨by simp, .inl ⟨_, _, rfl, run_takeDeferred HD1.out, ?_⟩⟩
          exact ⟨_, fsr_results _ (w.heap.size + 2) true _ rfl ((Hfb.out.put (by omega) _).cell rfl), rfl, put_below Hbf.out (by omega) HD1.out rfl⟩
        case stop =>
          intro c k Wd hk hlt hk0 hkl hi hD
          obtain ⟨rfl, i1, i2⟩ := hi
          have HD := Lib.hid hD
          clear hD hE0 hD1 hD2
          gi_wp2_with fail
          refine ⟨by simp, .inl ⟨_, _, rfl, run_takeDeferred HD.out, ?_⟩⟩
          exact ⟨_, fsr_results _ (w.heap.size + 2) true _ rfl ((i2.put (by omega) _).cell rfl), rfl, put_below i1 (by omega) HD.out rfl⟩
  · rw [decide_eq_false h200]
    gi_wp2_with fail
    refine (calls_iff.2 (awake13_any y1 (HT.out.below HB.out (Nat.le_refl _)))).mono ?_
    rintro e y2 ⟨rfl, hb⟩
    have b2 := (HRs.out.call hb).cell (j := 0) rfl
    have f2 := (HRs.out.call hb).frozen 0
    have hfin := (HRs.out.call hb).set 0 (.bool true)
    have hbf := (HB.out.trans (hb.mono HB.out.size)).setCell (p := ⟨w.heap.size + 2, 0, none⟩) (by show _ ≤ w.heap.size + 2; omega) (.bool true)
    have Hfin := Lib.hid hfin
    have Hbf := Lib.hid hbf
    clear hb c0 c1 c2 hfin hbf
    gi_wp2_with fail
    exact ⟨_, fsr_results _ (w.heap.size + 2) true _ rfl (Hfin.out.cell rfl), rfl, Hbf.out⟩
theorem lawSegsC (f : Fe) (pv lv rv : Value) (w : World) (h : FeA w pv lv rv f) (hmu : muF f ≤ 1048576) (stop : Int) (_wf : (Lit.int .i64 stop).wf = true) (ht : Tabs w) :
    Calls Tryz.prog 4 #[feV pv lv rv, .int .i64 stop] w fun e w' => e = .returned (.bool true) ∧ Below w.heap.size w w' := lawSegsW f pv lv rv stop w h hmu ht
end Go.Proofs.YtfbdkjonjpanfaaGreatDoor
