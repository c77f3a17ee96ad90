/- spell's Right, of any geometries. -/
import Derived.Test.YtegkdkilbnighaaGSp2
import Derived.Test.YtegkdkilbnighaaGSp1
import Derived.Test.YtegkdkilbnighaaWktI
import Derived.Shelf.Strings.BuilderK
import Derived.Deep.RegionHeld3

set_option linter.unusedVariables false
set_option linter.unusedSimpArgs false
namespace Go.Proofs.Ytegkdkilbnighaa
open Go.RowKit Go.Rg
attribute [local go_sem] Oper.semAt_some

namespace Wk
def mostA (p : GA) : Int := if p.kind = 7 then p.level + 1 else p.level
def levA (p : Option GA) (g : GA) : Bool := match p with
  | .none => !decide (g.level < 0) && !decide (0 < g.level)
  | .some p => !decide (g.level < 1) && !decide (mostA p < g.level)
def okA (p : Option GA) (g : GA) : Bool := oneA g && (levA p g && !(g.kind == 7 && decide (32 ≤ g.level)))
def prevA (l : List GA) (i : Nat) : Option GA := if i = 0 then .none else l[i - 1]?
def okAt (l : List GA) (i : Nat) : Bool := match l[i]? with | .none => true | .some g => okA (prevA l i) g
/-- they are what a text is read as -/
def RightA (l : List GA) : Prop := l ≠ [] ∧ ∀ i, i < l.length → okAt l i = true
end Wk

/-- the cells cs are those of the geometries -/
def GsC (w : World) (cs : List Value) (l : List GA) : Prop := ∀ (i : Nat) (g : GA), l[i]? = some g → ∃ lv zv, cs[i * 4]? = some (.int .i64 g.kind) ∧ cs[i * 4 + 1]? = some (.int .i64 g.level) ∧ cs[i * 4 + 2]? = some lv ∧ cs[i * 4 + 3]? = some zv ∧ BdA w lv zv g
theorem GsC.call {w w' : World} {cs : List Value} {l : List GA} (h : GsC w cs l) (hb : Below w.heap.size w w') : GsC w' cs l := fun i g hg => by
  obtain ⟨lv, zv, h1, h2, h3, h4, h5⟩ := h i g hg; exact ⟨lv, zv, h1, h2, h3, h4, h5.call hb⟩
/-- how an element of the slice lies -/
theorem gs_at {w : World} {a : Option Addr} {n c : Nat} {cs : List Value} {l : List GA} (h : RdC w (.slice a n c) n cs) (hg : GsC w cs l) (i : Nat) (g : GA) (hi : l[i]? = some g) :
    ∃ g1 o1 lv zv, a = some ⟨g1, o1, none⟩ ∧ n ≤ c ∧ c ≤ 9223372036854775807 ∧ BdA w lv zv g ∧ g1 < w.heap.size ∧
      w.cell? ⟨g1, o1 + i * 4, none⟩ = some (.int .i64 g.kind) ∧ w.cell? ⟨g1, o1 + i * 4 + 1, none⟩ = some (.int .i64 g.level) ∧ w.cell? ⟨g1, o1 + i * 4 + 2, none⟩ = some lv ∧ w.cell? ⟨g1, o1 + i * 4 + 3, none⟩ = some zv := by
  obtain ⟨lv, zv, h1, h2, h3, h4, h5⟩ := hg i g hi
  obtain ⟨a', c', e, _, ho⟩ := h
  cases e
  obtain ⟨g1, o1, rfl, q1, q2, q3, q4⟩ := ho (fun e => by rw [e] at h1; simp at h1)
  exact ⟨g1, o1, lv, zv, rfl, q1, q2, h5, q3, q4 _ _ h1, by have := q4 _ _ h2; rwa [← Nat.add_assoc] at this, by have := q4 _ _ h3; rwa [← Nat.add_assoc] at this, by have := q4 _ _ h4; rwa [← Nat.add_assoc] at this⟩

set_option maxRecDepth 100000 in
set_option maxHeartbeats 8000000 in
theorem rightA_any (v : Value) (cs : List Value) (l : List GA) (w : World) (h : RdC w v l.length cs) (hg : GsC w cs l) (hf : ∀ g ∈ l, Wk.FitA g) :
    Calls Try.prog 13 #[v] w fun e w' => ∃ b : Bool, e = .returned (.bool b) ∧ Hid (b = true ↔ Wk.RightA l) ∧ Below w.heap.size w w' := by
  obtain ⟨a, c, rfl, hm⟩ := h.form
  obtain ⟨n, hnn⟩ : ∃ n, n = l.length := ⟨_, rfl⟩
  rw [← hnn] at h hm ⊢
  have Hn := Lib.hid hnn
  have Hr := Lib.hid h
  have Hg := Lib.hid hg
  have Hf := Lib.hid hf
  clear hnn h hg hf
  unfold maxLen at hm
  go_enter Try.func13, Try.ntmps13
  go_wp2_with fail
  go_loopg [9] n (fun q s9 wx => ∃ i : Nat, i + q = n ∧ s9 = .int .i64 (i : Int) ∧ Hid (∀ j, j < i → Wk.okAt l j = true) ∧ Hid (Below w.heap.size w wx))
  case atStart => exact ⟨0, by omega, rfl, fun j hj => by omega, Below.refl _ _⟩
  case round =>
    obtain ⟨i, hiq, rfl, Hok, Hb⟩ := hrel
    cases gk with
    | zero =>
      have hin : i = n := by omega
      subst hin
      go_wp2_with fail
      try rw [Exit.noGoto_ret]
      go_ret
      refine ⟨decide (0 < i), rfl, ?_, Hb.out⟩
      unfold Hid Wk.RightA
      rw [← Hn.out, decide_eq_true_eq]
      refine ⟨fun h => ⟨fun e => ?_, Hok.out⟩, fun h => ?_⟩
      · have := Hn.out; rw [e] at this; simp at this; omega
      · rcases Nat.eq_zero_or_pos i with h0 | h0
        · exact absurd (List.eq_nil_of_length_eq_zero (Hn.out.symm.trans h0)) h.1
        · exact h0
    | succ q =>
      have hin : i < n := by omega
      obtain ⟨g, hgi⟩ : ∃ g, l[i]? = some g := ⟨_, List.getElem?_eq_getElem (by rw [← Hn.out]; exact hin)⟩
      obtain ⟨g1, o1, lv, zv, rfl, q1, q2, hB, q3, y0, y1, y2, y3⟩ := gs_at Hr.out Hg.out i g hgi
      have HB := Lib.hid hB
      obtain ⟨vs, _, hl, _, hzs⟩ := hB
      obtain ⟨la, lc, rfl, _⟩ := hl.form
      obtain ⟨za, zc, rfl, _⟩ := hzs.form
      clear hl hzs
      have x0 : wr.cell? ⟨g1, o1 + i * 4, none⟩ = _ := keepc Hb.out q3 y0
      have x1 : wr.cell? ⟨g1, o1 + i * 4 + 1, none⟩ = _ := keepc Hb.out q3 y1
      have x2 : wr.cell? ⟨g1, o1 + i * 4 + 2, none⟩ = _ := keepc Hb.out q3 y2
      have x3 : wr.cell? ⟨g1, o1 + i * 4 + 3, none⟩ = _ := keepc Hb.out q3 y3
      have hszr := Hb.out.size
      obtain ⟨Wb, hWb⟩ : ∃ Wb, wr.alloc (.cells #[.int .i64 g.kind, .int .i64 g.level, .slice la g.lists.length lc, .slice za g.sizes.length zc] 40) = Wb := ⟨_, rfl⟩
      have B0 : Blk Wb wr.heap.size [.int .i64 g.kind, .int .i64 g.level, .slice la g.lists.length lc, .slice za g.sizes.length zc] 40 := hWb ▸ Blk.new wr _ _
      have hBw : Below wr.heap.size wr Wb := hWb ▸ (Below.refl _ wr).alloc (Nat.le_refl _) _
      have hzb : wr.heap.size < Wb.heap.size := by rw [← hWb, World.size_alloc]; omega
      have hbw : Below w.heap.size w Wb := Hb.out.trans (hBw.mono hszr)
      have b0 := B0.cell (j := 0) rfl
      have b1 := B0.cell (j := 1) rfl
      have b2 := B0.cell (j := 2) rfl
      have b3 := B0.cell (j := 3) rfl
      have HOne : Hid (∀ X, Below w.heap.size w X → Calls Try.prog 31 #[gaV g (.slice la g.lists.length lc) (.slice za g.sizes.length zc)] X fun e X' => e = .returned (.bool (Wk.oneA g)) ∧ Below X.heap.size X X') := fun X hX => one_any2 g _ _ X (HB.out.call hX) (Hf.out g (List.mem_of_getElem? hgi))
      have HB0 := Lib.hid B0
      have Hbw := Lib.hid hbw
      have Hres : Hid (Wk.okAt l i = Wk.okA (Wk.prevA l i) g) := by unfold Hid Wk.okAt; rw [hgi]
      have Hstop : Hid (Wk.okAt l i = false → ¬ Wk.RightA l) := fun h hr => by have := hr.2 i (by rw [← Hn.out]; exact hin); rw [h] at this; cases this
      have Hgo : Hid (Wk.okAt l i = true → ∀ j, j < i + 1 → Wk.okAt l j = true) := fun h j hj => by
        rcases Nat.lt_or_ge j i with h' | h'
        · exact Hok.out j h'
        · have : j = i := by omega
          subst this; exact h
      have hX6 : ∀ {k : Nat} {X : World}, Below (Wb.drewN k).heap.size (Wb.drewN k) X → Below Wb.heap.size Wb X := fun h => (below_drewN _ _ _).trans (h.mono (below_drewN Wb.heap.size Wb _).size)
      have hX5 : ∀ {k : Nat} {X : World}, Below (Wb.drewN k).heap.size (Wb.drewN k) X → Below w.heap.size Wb X := fun h => (hX6 h).mono hbw.size
      clear B0 hBw hbw y0 y1 y2 y3 hgi
      obtain ⟨kk, lev, ls, ss⟩ := g
      simp only at *
      rcases Nat.eq_zero_or_pos i with rfl | hpos
      · have Hpr : Hid (Wk.prevA l 0 = .none) := rfl
        simp only [Nat.zero_mul, Nat.add_zero] at x0 x1 x2 x3
        go_wp2_with fail
        refine (HOne.out _ Hbw.out).mono ?_
        rintro e w5 ⟨rfl, hb5⟩
        have hbw5 := Lib.hid (Hbw.out.trans (hb5.mono Hbw.out.size))
        have B5 := HB0.out.call hb5
        have c0 := B5.cell (j := 0) rfl
        have c1 := B5.cell (j := 1) rfl
        have c2 := B5.cell (j := 2) rfl
        have c3 := B5.cell (j := 3) rfl
        clear hb5 B5 b0 b1 b2 b3
        cases hone : Wk.oneA ⟨kk, lev, ls, ss⟩ with
        | false =>
          have Hone := Lib.hid hone
          clear hone
          go_wp2_with fail
          (try rw [Exit.noGoto_ret])
          go_ret
          refine ⟨false, rfl, ?_, hbw5.out⟩
          have hno : ¬ Wk.RightA l := Hstop.out (by rw [Hres.out, Hpr.out]; unfold Wk.okA Wk.levA; rw [Hone.out]; rfl)
          exact ⟨(fun h => by cases h), fun h => absurd h hno⟩
        | true =>
          have Hone := Lib.hid hone
          clear hone
          by_cases hl1 : lev < 0
          · go_wp2_with fail
            (try rw [Exit.noGoto_ret])
            go_ret
            refine ⟨false, rfl, ?_, hbw5.out⟩
            have hno : ¬ Wk.RightA l := Hstop.out (by rw [Hres.out, Hpr.out]; unfold Wk.okA Wk.levA; simp [hl1])
            exact ⟨(fun h => by cases h), fun h => absurd h hno⟩
          · by_cases hl2 : 0 < lev
            · go_wp2_with fail
              (try rw [Exit.noGoto_ret])
              go_ret
              refine ⟨false, rfl, ?_, hbw5.out⟩
              have hno : ¬ Wk.RightA l := Hstop.out (by rw [Hres.out, Hpr.out]; unfold Wk.okA Wk.levA; simp [hl2])
              exact ⟨(fun h => by cases h), fun h => absurd h hno⟩
            · by_cases hk7 : kk = 7
              · by_cases h32 : 32 ≤ lev
                · exact absurd h32 (by omega)
                · subst hk7
                  go_wp2_with fail
                  go_roundg q
                  case measure => omega
                  case rel => exact ⟨0 + 1, by omega, by first | rfl | simp, Hgo.out (by rw [Hres.out, Hpr.out]; unfold Wk.okA Wk.levA; rw [Hone.out]; simp [hl1, hl2, h32]), hbw5⟩
              · have e7 : (kk == 7) = false := by rw [beq_eq_false_iff_ne]; exact hk7
                go_wp2_with fail
                go_roundg q
                case measure => omega
                case rel => exact ⟨0 + 1, by omega, by first | rfl | simp, Hgo.out (by rw [Hres.out, Hpr.out]; unfold Wk.okA Wk.levA; rw [Hone.out]; simp [hl1, hl2, hk7]), hbw5⟩
      · have hpi : i - 1 < n := by omega
        obtain ⟨p, hp⟩ : ∃ p, l[i - 1]? = some p := ⟨_, List.getElem?_eq_getElem (by rw [← Hn.out]; exact hpi)⟩
        obtain ⟨g1', o1', lv', zv', e', _, _, _, q3', y0, y1, _, _⟩ := gs_at Hr.out Hg.out (i - 1) p hp
        cases e'
        have p0 : Wb.cell? ⟨g1, o1 + (i - 1) * 4, none⟩ = _ := keepc Hbw.out q3 y0
        have p1 : Wb.cell? ⟨g1, o1 + (i - 1) * 4 + 1, none⟩ = _ := keepc Hbw.out q3 y1
        have Hpr : Hid (Wk.prevA l i = .some p) := by unfold Hid Wk.prevA; rw [if_neg (by omega)]; exact hp
        have hpok := Hok.out (i - 1) (by omega)
        have hp32 : p.kind = 7 → p.level < 32 := by
          intro h7
          unfold Wk.okAt Wk.okA at hpok
          rw [hp] at hpok
          simp only [Bool.and_eq_true] at hpok
          have := hpok.2.2
          rw [h7] at this
          simp at this
          omega
        have hp0 : 0 ≤ p.level := by
          unfold Wk.okAt Wk.okA at hpok
          rw [hp] at hpok
          simp only [Bool.and_eq_true] at hpok
          have := hpok.2.1
          unfold Wk.levA at this
          split at this
          · simp at this; omega
          · simp at this; omega
        have hi1 : ((i : Int) - 1) = ((i - 1 : Nat) : Int) := by omega
        have hi0 : (0 : Int) < (i : Int) := by omega
        clear y0 y1 hp hpok
        obtain ⟨pk, pl, pls, pss⟩ := p
        simp only at *
        by_cases hpk : pk = 7
        · subst hpk
          have hp32' : pl < 32 := hp32 rfl
          have Hm : Hid (Wk.mostA ⟨7, pl, pls, pss⟩ = pl + 1) := rfl
          go_wp2_with fail
          go_quiet (fail)
          go_wp2_with fail
          refine (HOne.out _ (Hbw.out.trans (below_drewN _ _ _))).mono ?_
          rintro e w5 ⟨rfl, hb5⟩
          have hbd := Hbw.out.trans (hX5 hb5)
          have hbw5 := Lib.hid hbd
          have B5 := HB0.out.call (hX6 hb5)
          have c0 := B5.cell (j := 0) rfl
          have c1 := B5.cell (j := 1) rfl
          have c2 := B5.cell (j := 2) rfl
          have c3 := B5.cell (j := 3) rfl
          clear hb5 B5 b0 b1 b2 b3
          cases hone : Wk.oneA ⟨kk, lev, ls, ss⟩ with
          | false =>
            have Hone := Lib.hid hone
            clear hone
            go_wp2_with fail
            (try rw [Exit.noGoto_ret])
            go_ret
            refine ⟨false, rfl, ?_, hbw5.out⟩
            have hno : ¬ Wk.RightA l := Hstop.out (by rw [Hres.out, Hpr.out]; unfold Wk.okA Wk.levA; rw [Hone.out]; rfl)
            exact ⟨(fun h => by cases h), fun h => absurd h hno⟩
          | true =>
            have Hone := Lib.hid hone
            clear hone
            by_cases hl1 : lev < 1
            · go_wp2_with fail
              (try rw [Exit.noGoto_ret])
              go_ret
              refine ⟨false, rfl, ?_, hbw5.out⟩
              have hno : ¬ Wk.RightA l := Hstop.out (by rw [Hres.out, Hpr.out]; unfold Wk.okA Wk.levA; simp [hl1])
              exact ⟨(fun h => by cases h), fun h => absurd h hno⟩
            · by_cases hl2 : (pl + 1) < lev
              · go_wp2_with fail
                (try rw [Exit.noGoto_ret])
                go_ret
                refine ⟨false, rfl, ?_, hbw5.out⟩
                have hno : ¬ Wk.RightA l := Hstop.out (by rw [Hres.out, Hpr.out]; unfold Wk.okA Wk.levA; simp [hl2, Wk.mostA])
                exact ⟨(fun h => by cases h), fun h => absurd h hno⟩
              · by_cases hk7 : kk = 7
                · by_cases h32 : 32 ≤ lev
                  · subst hk7
                    go_wp2_with fail
                    (try rw [Exit.noGoto_ret])
                    go_ret
                    refine ⟨false, rfl, ?_, hbw5.out⟩
                    have hno : ¬ Wk.RightA l := Hstop.out (by rw [Hres.out, Hpr.out]; unfold Wk.okA Wk.levA; simp [h32])
                    exact ⟨(fun h => by cases h), fun h => absurd h hno⟩
                  · subst hk7
                    go_wp2_with fail
                    go_roundg q
                    case measure => omega
                    case rel => exact ⟨i + 1, by omega, by first | rfl | simp, Hgo.out (by rw [Hres.out, Hpr.out]; unfold Wk.okA Wk.levA; rw [Hone.out]; simp [hl1, hl2, h32, Wk.mostA]), hbw5⟩
                · have e7 : (kk == 7) = false := by rw [beq_eq_false_iff_ne]; exact hk7
                  go_wp2_with fail
                  go_roundg q
                  case measure => omega
                  case rel => exact ⟨i + 1, by omega, by first | rfl | simp, Hgo.out (by rw [Hres.out, Hpr.out]; unfold Wk.okA Wk.levA; rw [Hone.out]; simp [hl1, hl2, hk7, Wk.mostA]), hbw5⟩
        · have epk : (pk == 7) = false := by rw [beq_eq_false_iff_ne]; exact hpk
          go_wp2_with fail
          go_quiet (fail)
          go_wp2_with fail
          refine (HOne.out _ (Hbw.out.trans (below_drewN _ _ _))).mono ?_
          rintro e w5 ⟨rfl, hb5⟩
          have hbd := Hbw.out.trans (hX5 hb5)
          have hbw5 := Lib.hid hbd
          have B5 := HB0.out.call (hX6 hb5)
          have c0 := B5.cell (j := 0) rfl
          have c1 := B5.cell (j := 1) rfl
          have c2 := B5.cell (j := 2) rfl
          have c3 := B5.cell (j := 3) rfl
          clear hb5 B5 b0 b1 b2 b3
          cases hone : Wk.oneA ⟨kk, lev, ls, ss⟩ with
          | false =>
            have Hone := Lib.hid hone
            clear hone
            go_wp2_with fail
            (try rw [Exit.noGoto_ret])
            go_ret
            refine ⟨false, rfl, ?_, hbw5.out⟩
            have hno : ¬ Wk.RightA l := Hstop.out (by rw [Hres.out, Hpr.out]; unfold Wk.okA Wk.levA; rw [Hone.out]; rfl)
            exact ⟨(fun h => by cases h), fun h => absurd h hno⟩
          | true =>
            have Hone := Lib.hid hone
            clear hone
            by_cases hl1 : lev < 1
            · go_wp2_with fail
              (try rw [Exit.noGoto_ret])
              go_ret
              refine ⟨false, rfl, ?_, hbw5.out⟩
              have hno : ¬ Wk.RightA l := Hstop.out (by rw [Hres.out, Hpr.out]; unfold Wk.okA Wk.levA; simp [hl1])
              exact ⟨(fun h => by cases h), fun h => absurd h hno⟩
            · by_cases hl2 : pl < lev
              · go_wp2_with fail
                (try rw [Exit.noGoto_ret])
                go_ret
                refine ⟨false, rfl, ?_, hbw5.out⟩
                have hno : ¬ Wk.RightA l := Hstop.out (by rw [Hres.out, Hpr.out]; unfold Wk.okA Wk.levA; simp [hl2, Wk.mostA, hpk])
                exact ⟨(fun h => by cases h), fun h => absurd h hno⟩
              · by_cases hk7 : kk = 7
                · by_cases h32 : 32 ≤ lev
                  · subst hk7
                    go_wp2_with fail
                    (try rw [Exit.noGoto_ret])
                    go_ret
                    refine ⟨false, rfl, ?_, hbw5.out⟩
                    have hno : ¬ Wk.RightA l := Hstop.out (by rw [Hres.out, Hpr.out]; unfold Wk.okA Wk.levA; simp [h32])
                    exact ⟨(fun h => by cases h), fun h => absurd h hno⟩
                  · subst hk7
                    go_wp2_with fail
                    go_roundg q
                    case measure => omega
                    case rel => exact ⟨i + 1, by omega, by first | rfl | simp, Hgo.out (by rw [Hres.out, Hpr.out]; unfold Wk.okA Wk.levA; rw [Hone.out]; simp [hl1, hl2, h32, Wk.mostA, hpk]), hbw5⟩
                · have e7 : (kk == 7) = false := by rw [beq_eq_false_iff_ne]; exact hk7
                  go_wp2_with fail
                  go_roundg q
                  case measure => omega
                  case rel => exact ⟨i + 1, by omega, by first | rfl | simp, Hgo.out (by rw [Hres.out, Hpr.out]; unfold Wk.okA Wk.levA; rw [Hone.out]; simp [hl1, hl2, hk7, Wk.mostA, hpk]), hbw5⟩
end Go.Proofs.Ytegkdkilbnighaa

set_option linter.unusedVariables false
set_option linter.unusedSimpArgs false
namespace Go.Proofs.Ytegkdkilbnighaa.Wk
open Go Lx

def toA (g : Geo) : GA := ⟨(g.kind : Int), (g.level : Int), g.lists, g.sizes.map fun (n : Nat) => (n : Int)⟩

def pc (a : Option Nat) (g : Geo) (r : List Geo) : Str := sep a g.level ++ (nm g.kind ++ (32 :: (if told g r then bodyT g else [])))
def pF : Option Nat → List Geo → List Str
  | _, [] => []
  | a, g :: r => pc a g r :: pF (.some g.level) r
def close : Option Nat → List Geo → Str
  | .none, [] => []
  | .some a, [] => List.replicate a 41
  | _, g :: r => close (.some g.level) r
theorem close_cons (a : Option Nat) (g : Geo) (r : List Geo) : close a (g :: r) = close (.some g.level) r := by cases a <;> rfl
theorem textF_pF : ∀ (l : List Geo) (a : Option Nat), textF a l = (pF a l).flatten ++ close a l
  | [], .none => rfl
  | [], .some a => by simp [textF, pF, close]
  | g :: r, a => by
    rw [textF_cons, close_cons, after, textF_pF r (.some g.level), pF, List.flatten_cons, pc]
    simp
theorem pF_len : ∀ (l : List Geo) (a : Option Nat), (pF a l).length = l.length
  | [], a => by cases a <;> rfl
  | g :: r, a => by rw [pF, List.length_cons, pF_len r, List.length_cons]
theorem pF_at : ∀ (l : List Geo) (a : Option Nat) (i : Nat) (g : Geo), l[i]? = some g → (pF a l)[i]? = some (pc (if i = 0 then a else (l[i - 1]?).map Geo.level) g (l.drop (i + 1)))
  | [], _, i, g, h => by cases h
  | x :: r, a, 0, g, h => by cases h; rfl
  | x :: r, a, i + 1, g, h => by
    rw [pF, List.getElem?_cons_succ, pF_at r (.some x.level) i g h]
    have e : (if i = 0 then (.some x.level : Option Nat) else (r[i - 1]?).map Geo.level) = (if i + 1 = 0 then a else ((x :: r)[i + 1 - 1]?).map Geo.level) := by
      cases i with
      | zero => simp
      | succ i => simp
    rw [e]; rfl
theorem close_at : ∀ (l : List Geo) (a : Option Nat) (g : Geo), l[l.length - 1]? = some g → close a l = List.replicate g.level 41
  | [], a, g, h => by cases h
  | [x], a, g, h => by cases h; cases a <;> rfl
  | x :: y :: r, a, g, h => by
    rw [close_cons]
    exact close_at (y :: r) _ g (by simpa using h)
theorem told_at (l : List Geo) (i : Nat) (g : Geo) : told g (l.drop (i + 1)) = (g.kind != 7 || (match l[i + 1]? with | .none => true | .some h => decide (h.level ≤ g.level))) := by
  unfold told
  congr 1
  have : (l.drop (i + 1))[0]? = l[i + 1]? := by rw [List.getElem?_drop]
  rw [← this]
  cases l.drop (i + 1) <;> rfl
/-- the text of the first so many -/
def wr (gs : List Geo) (i : Nat) : Str := ((pF .none gs).take i).flatten
theorem wr_succ (gs : List Geo) (i : Nat) (g : Geo) (h : gs[i]? = some g) : wr gs (i + 1) = wr gs i ++ pc (if i = 0 then .none else (gs[i - 1]?).map Geo.level) g (gs.drop (i + 1)) := by
  unfold wr; rw [List.take_add_one, pF_at gs .none i g h]; simp
theorem write_wr (gs : List Geo) (g : Geo) (h : gs[gs.length - 1]? = some g) : write gs = wr gs gs.length ++ List.replicate g.level 41 := by
  unfold write wr
  rw [textF_pF, close_at gs .none g h]
  congr 1
  rw [← pF_len gs .none, List.take_length]
theorem wr_le (gs : List Geo) (i : Nat) : (wr gs i).length ≤ (write gs).length := by
  unfold write
  rw [textF_pF]
  unfold wr
  have : ∀ (l : List Str) (i : Nat), (l.take i).flatten.length ≤ l.flatten.length := by
    intro l
    induction l with
    | nil => intro i; simp
    | cons x l ih => intro i; cases i with
      | zero => simp
      | succ i => have := ih i; simp only [List.take_succ_cons, List.flatten_cons, List.length_append]; omega
  have := this (pF .none gs) i
  rw [List.length_append]; omega

theorem sumTo_yes : ∀ (l : List Nat) (z n : Nat), z + l.sum = n → sumTo (z : Int) n (l.map fun (n : Nat) => (n : Int)) = true
  | [], z, n, h => by simp [sumTo] at h ⊢; omega
  | m :: r, z, n, h => by
    simp only [List.map_cons, sumTo, Bool.and_eq_true, List.sum_cons] at h ⊢
    refine ⟨by simp; omega, ?_⟩
    have := sumTo_yes r (z + m) n (by omega)
    rw [← Int.natCast_add]; exact this
theorem sumTo_of : ∀ (l : List Int) (z : Nat) (n : Nat), sumTo (z : Int) n l = true → ∃ m : List Nat, l = m.map (fun (n : Nat) => (n : Int)) ∧ z + m.sum = n
  | [], z, n, h => ⟨[], rfl, by simp [sumTo] at h ⊢; omega⟩
  | x :: r, z, n, h => by
    simp only [sumTo, Bool.and_eq_true, Bool.not_eq_true', Bool.or_eq_false_iff, decide_eq_false_iff_not] at h
    obtain ⟨k, rfl⟩ : ∃ k : Nat, x = k := ⟨x.toNat, by omega⟩
    rw [← Int.natCast_add] at h
    obtain ⟨m, hm, hs⟩ := sumTo_of r (z + k) n h.2
    exact ⟨k :: m, by rw [hm]; rfl, by simp; omega⟩
theorem lsB_iff (l : List Pr) : lsB l = true ↔ lsOk l := by
  unfold lsB lsOk prB prOk
  simp
theorem one_toA (g : Geo) (h : OneG g) : oneA (toA g) = true := by
  obtain ⟨h1, h2, h3, h4, h5, h6, h7, h8, h9⟩ := h
  unfold oneA toA shapedA
  simp only [Bool.and_eq_true, List.length_map]
  refine ⟨?_, ?_, ?_⟩
  · by_cases e1 : g.kind = 1
    · rw [if_pos (by omega)]
      rcases h4 e1 with e | ⟨p, e⟩ <;> rw [e] <;> rfl
    rw [if_neg (by omega)]
    by_cases e2 : g.kind = 2
    · rw [if_pos (by omega)]
      rcases h5 e2 with e | ⟨l, e, hl⟩ <;> rw [e]
      · rfl
      · cases l with
        | nil => exact absurd rfl hl
        | cons x r => simp
    rw [if_neg (by omega)]
    by_cases e4 : g.kind = 4
    · rw [if_pos (by omega)]
      simpa using h6 e4
    rw [if_neg (by omega)]
    by_cases e35 : g.kind = 3 ∨ g.kind = 5
    · rw [if_pos (by omega)]
    rw [if_neg (by omega)]
    by_cases e6 : g.kind = 6
    · rw [if_pos (by omega)]
      exact sumTo_yes g.sizes 0 g.lists.length (by rw [Nat.zero_add]; exact h7 e6)
    rw [if_neg (by omega)]
    have e7 : g.kind = 7 := by omega
    rw [e7, (h9 e7).1]; rfl
  · by_cases e6 : g.kind = 6
    · rw [e6]; rfl
    · rw [h8 e6]; simp
  · rw [List.all_eq_true]
    exact fun l hl => (lsB_iff l).2 (h3 l hl)
theorem one_ofA (g : GA) (h : oneA g = true) (hl : 0 ≤ g.level) (h7 : g.kind = 7 → g.level < 32) : ∃ og, g = toA og ∧ OneG og := by
  obtain ⟨k, lev, ls, ss⟩ := g
  simp only at hl h7
  obtain ⟨lv, rfl⟩ : ∃ n : Nat, lev = n := ⟨lev.toNat, by omega⟩
  unfold oneA at h
  simp only [Bool.and_eq_true, Bool.or_eq_true] at h
  obtain ⟨hs, hz, hp⟩ := h
  have hls : ∀ l ∈ ls, lsOk l := fun l hl => (lsB_iff l).1 (List.all_eq_true.1 hp l hl)
  unfold shapedA at hs
  simp only at hs
  by_cases e6 : k = 6
  · subst e6
    rw [if_neg (by decide), if_neg (by decide), if_neg (by decide), if_neg (by decide), if_pos (by trivial)] at hs
    obtain ⟨m, rfl, hm⟩ := sumTo_of ss 0 ls.length hs
    refine ⟨⟨6, lv, ls, m⟩, rfl, by simp, by simp, hls, ?_, ?_, ?_, ?_, ?_, ?_⟩
    · intro e; cases e
    · intro e; cases e
    · intro e; cases e
    · intro _; simpa using hm
    · intro e; exact absurd rfl e
    · intro e; cases e
  · have hss : ss = [] := by
      rcases hz with hz | hz
      · simp at hz; exact absurd hz e6
      · simpa using hz
    subst hss
    by_cases e1 : k = 1
    · subst e1
      rw [if_pos (by trivial)] at hs
      refine ⟨⟨1, lv, ls, []⟩, rfl, by simp, by simp, hls, ?_, ?_, ?_, ?_, ?_, ?_⟩
      · intro _
        simp only [Bool.or_eq_true, Bool.and_eq_true, beq_iff_eq] at hs
        rcases hs with hs | ⟨hs1, hs2⟩
        · left; exact List.eq_nil_of_length_eq_zero hs
        · right
          cases ls with
          | nil => cases hs1
          | cons x r =>
            have hr : r = [] := List.eq_nil_of_length_eq_zero (by simpa using hs1)
            subst hr
            simp only [List.headD_cons] at hs2
            obtain ⟨p, hp⟩ := List.length_eq_one_iff.1 hs2
            exact ⟨p, by rw [hp]⟩
      · intro e; cases e
      · intro e; cases e
      · intro e; cases e
      · intro _; rfl
      · intro e; cases e
    rw [if_neg e1] at hs
    by_cases e2 : k = 2
    · subst e2
      rw [if_pos (by trivial)] at hs
      refine ⟨⟨2, lv, ls, []⟩, rfl, by simp, by simp, hls, ?_, ?_, ?_, ?_, ?_, ?_⟩
      · intro e; cases e
      · intro _
        simp only [Bool.or_eq_true, Bool.and_eq_true, beq_iff_eq, decide_eq_true_eq] at hs
        rcases hs with hs | ⟨hs1, hs2⟩
        · left; exact List.eq_nil_of_length_eq_zero hs
        · right
          cases ls with
          | nil => cases hs1
          | cons x r =>
            have hr : r = [] := List.eq_nil_of_length_eq_zero (by simpa using hs1)
            subst hr
            simp only [List.headD_cons] at hs2
            exact ⟨x, rfl, fun e => by rw [e] at hs2; simp at hs2⟩
      · intro e; cases e
      · intro e; cases e
      · intro _; rfl
      · intro e; cases e
    rw [if_neg e2] at hs
    by_cases e4 : k = 4
    · subst e4
      rw [if_pos (by trivial)] at hs
      refine ⟨⟨4, lv, ls, []⟩, rfl, by simp, by simp, hls, ?_, ?_, ?_, ?_, ?_, ?_⟩
      · intro e; cases e
      · intro e; cases e
      · intro _ l hl
        have := List.all_eq_true.1 hs l hl
        simpa using this
      · intro e; cases e
      · intro _; rfl
      · intro e; cases e
    rw [if_neg e4] at hs
    by_cases e35 : k = 3 ∨ k = 5
    · rcases e35 with rfl | rfl
      · refine ⟨⟨3, lv, ls, []⟩, rfl, by simp, by simp, hls, ?_, ?_, ?_, ?_, ?_, ?_⟩ <;> intro e <;> first | cases e | rfl
      · refine ⟨⟨5, lv, ls, []⟩, rfl, by simp, by simp, hls, ?_, ?_, ?_, ?_, ?_, ?_⟩ <;> intro e <;> first | cases e | rfl
    rw [if_neg e35, if_neg e6] at hs
    simp only [Bool.and_eq_true, beq_iff_eq] at hs
    obtain ⟨rfl, hs⟩ := hs
    have hl0 : ls = [] := List.eq_nil_of_length_eq_zero hs
    subst hl0
    refine ⟨⟨7, lv, [], []⟩, rfl, by simp, by simp, hls, ?_, ?_, ?_, ?_, ?_, ?_⟩
    · intro e; cases e
    · intro e; cases e
    · intro e; cases e
    · intro e; cases e
    · intro _; rfl
    · intro _; exact ⟨rfl, by have := h7 rfl; show lv < 32; omega⟩

theorem lev_at : ∀ (gs : List Geo), Lev gs → ∀ (i : Nat) (g h : Geo), gs[i]? = some g → gs[i + 1]? = some h → h.level ≤ if g.kind = 7 then g.level + 1 else g.level
  | [], _, i, g, h, e, _ => by cases e
  | [x], _, i, g, h, _, e => by simp at e
  | x :: y :: r, hl, 0, g, h, e, e2 => by cases e; cases e2; exact hl.1
  | x :: y :: r, hl, i + 1, g, h, e, e2 => lev_at (y :: r) hl.2 i g h (by simpa using e) (by simpa using e2)
theorem lev_of : ∀ (gs : List Geo), (∀ (i : Nat) (g h : Geo), gs[i]? = some g → gs[i + 1]? = some h → h.level ≤ if g.kind = 7 then g.level + 1 else g.level) → Lev gs
  | [], _ => trivial
  | [x], _ => trivial
  | x :: y :: r, h => ⟨h 0 x y rfl rfl, lev_of (y :: r) (fun i g k e1 e2 => h (i + 1) g k (by simpa using e1) (by simpa using e2))⟩
theorem mem_at {A : Type} {l : List A} {x : A} (h : x ∈ l) : ∃ i : Nat, l[i]? = some x := by
  obtain ⟨i, hi, e⟩ := List.mem_iff_getElem.1 h
  exact ⟨i, by rw [List.getElem?_eq_getElem hi, e]⟩
theorem right_toA (gs : List Geo) (h : RightG gs) : RightA (gs.map toA) := by
  obtain ⟨h1, h2, h3⟩ := h
  refine ⟨fun e => ?_, fun i hi => ?_⟩
  · have : gs = [] := by simpa using e
    rw [this] at h3; exact h3
  · rw [List.length_map] at hi
    obtain ⟨g, hg⟩ : ∃ g, gs[i]? = some g := ⟨_, List.getElem?_eq_getElem hi⟩
    have hgm := h1 g (List.mem_of_getElem? hg)
    have e1 : (gs.map toA)[i]? = some (toA g) := by rw [List.getElem?_map, hg]; rfl
    unfold okAt
    rw [e1]
    unfold okA
    simp only [Bool.and_eq_true]
    refine ⟨one_toA g hgm, ?_, ?_⟩
    · unfold prevA
      cases i with
      | zero =>
        rw [if_pos rfl]
        cases gs with
        | nil => cases hg
        | cons x r =>
          cases hg
          have := h3.1
          unfold levA toA; simp; omega
      | succ i =>
        rw [if_neg (by omega), Nat.add_sub_cancel]
        obtain ⟨p, hp⟩ : ∃ p, gs[i]? = some p := ⟨_, List.getElem?_eq_getElem (by omega)⟩
        have e2 : (gs.map toA)[i]? = some (toA p) := by rw [List.getElem?_map, hp]; rfl
        rw [e2]
        have hle := lev_at gs h2 i p g hp hg
        have hge : 1 ≤ g.level := by
          cases gs with
          | nil => cases hg
          | cons x r => exact h3.2 g (List.mem_of_getElem? (i := i) (by simpa using hg))
        unfold levA mostA toA
        simp only [Bool.and_eq_true, Bool.not_eq_true', decide_eq_false_iff_not]
        refine ⟨by omega, ?_⟩
        split
        · rename_i e
          have e' : p.kind = 7 := by omega
          rw [if_pos e'] at hle; omega
        · rename_i e
          rw [if_neg (by omega)] at hle; omega
    · by_cases e7 : g.kind = 7
      · have := (hgm.2.2.2.2.2.2.2.2 e7).2
        unfold toA; simp; omega
      · unfold toA; simp; omega
theorem ok_level (l : List GA) (h : ∀ i, i < l.length → okAt l i = true) (i : Nat) (g : GA) (hg : l[i]? = some g) : 0 ≤ g.level ∧ (g.kind = 7 → g.level < 32) ∧ oneA g = true ∧ levA (prevA l i) g = true := by
  have hi := (List.getElem?_eq_some_iff.1 hg).1
  have := h i hi
  unfold okAt okA at this
  rw [hg] at this
  simp only [Bool.and_eq_true] at this
  obtain ⟨a, b, c⟩ := this
  refine ⟨?_, fun e => ?_, a, b⟩
  · unfold levA at b
    split at b
    · simp at b; omega
    · simp at b; omega
  · rw [e] at c; simp at c; omega
theorem list_ofA : ∀ (l : List GA), (∀ g ∈ l, ∃ og, g = toA og ∧ OneG og) → ∃ gs : List Geo, l = gs.map toA ∧ ∀ g ∈ gs, OneG g
  | [], _ => ⟨[], rfl, (fun g h => by cases h)⟩
  | g :: r, h => by
    obtain ⟨og, e, ho⟩ := h g (List.mem_cons_self ..)
    obtain ⟨gs, e2, ho2⟩ := list_ofA r (fun x hx => h x (List.mem_cons_of_mem _ hx))
    refine ⟨og :: gs, by rw [e, e2]; rfl, fun x hx => ?_⟩
    rcases List.mem_cons.1 hx with rfl | hx
    · exact ho
    · exact ho2 x hx
theorem right_ofA (l : List GA) (h : RightA l) : ∃ gs : List Geo, l = gs.map toA ∧ RightG gs := by
  obtain ⟨h1, h2⟩ := h
  obtain ⟨gs, rfl, hgs⟩ := list_ofA l (fun g hg => by
    obtain ⟨i, hi⟩ := mem_at hg
    obtain ⟨a, b, c, _⟩ := ok_level l h2 i g hi
    exact one_ofA g c a b)
  have hat : ∀ (i : Nat) (g : Geo), gs[i]? = some g → levA (prevA (gs.map toA) i) (toA g) = true := fun i g hg => (ok_level _ h2 i (toA g) (by rw [List.getElem?_map, hg]; rfl)).2.2.2
  refine ⟨gs, rfl, hgs, lev_of gs ?_, ?_⟩
  · intro i p g hp hg
    have := hat (i + 1) g hg
    unfold prevA at this
    rw [if_neg (by omega), Nat.add_sub_cancel, List.getElem?_map, hp] at this
    unfold levA mostA toA at this
    simp only [Option.map_some, Bool.and_eq_true, Bool.not_eq_true', decide_eq_false_iff_not] at this
    have h2 := this.2
    by_cases e7 : p.kind = 7
    · rw [if_pos e7]; rw [if_pos (by omega)] at h2; omega
    · rw [if_neg e7]; rw [if_neg (by omega)] at h2; omega
  · cases gs with
    | nil => exact absurd rfl h1
    | cons x r =>
      refine ⟨?_, fun g hg => ?_⟩
      · have := hat 0 x rfl
        unfold prevA levA toA at this
        simp at this; omega
      · obtain ⟨i, hi⟩ := mem_at hg
        have := hat (i + 1) g (by simpa using hi)
        unfold prevA at this
        have hil := (List.getElem?_eq_some_iff.1 hi).1
        obtain ⟨p, hp⟩ : ∃ p, (x :: r)[i]? = some p := ⟨_, List.getElem?_eq_getElem (by simp; omega)⟩
        rw [if_neg (by omega), Nat.add_sub_cancel, List.getElem?_map, hp] at this
        unfold levA toA at this
        simp at this; omega
theorem level_le (gs : List Geo) (h : RightG gs) : ∀ g ∈ gs, g.level ≤ 32 := by
  have : ∀ (i : Nat) (g : Geo), gs[i]? = some g → g.level ≤ 32 := by
    intro i
    induction i with
    | zero =>
      intro g hg
      have := h.2.2
      cases gs with
      | nil => cases hg
      | cons x r => cases hg; have := this.1; omega
    | succ i ih =>
      intro g hg
      obtain ⟨p, hp⟩ : ∃ p, gs[i]? = some p := ⟨_, List.getElem?_eq_getElem (by have := (List.getElem?_eq_some_iff.1 hg).1; omega)⟩
      have h1 := lev_at gs h.2.1 i p g hp hg
      have h2 := ih p hp
      by_cases e7 : p.kind = 7
      · have := ((h.1 p (List.mem_of_getElem? hp)).2.2.2.2.2.2.2.2 e7).2
        rw [if_pos e7] at h1; omega
      · rw [if_neg e7] at h1; omega
  intro g hg
  obtain ⟨i, hi⟩ := mem_at hg
  exact this i g hi
theorem nm_len (k : Nat) : (nm k).length ≤ 18 := by
  rcases Nat.lt_or_ge k 8 with h | h
  · have : ∀ k : Fin 8, (nm k.1).length ≤ 18 := by decide
    exact this ⟨k, h⟩
  · unfold nm names
    rw [List.getD_eq_getElem?_getD, List.getElem?_eq_none (by simpa using h)]; simp
theorem write_ne (gs : List Geo) (h : RightG gs) : write gs ≠ [] := by
  cases gs with
  | nil => exact absurd h.2.2 (by simp [Top])
  | cons g r => unfold write; rw [textF_cons]; unfold after; simp
end Go.Proofs.Ytegkdkilbnighaa.Wk

set_option linter.unusedVariables false
set_option linter.unusedSimpArgs false
namespace Go.Proofs.Ytegkdkilbnighaa.Wk
open Go Lx

theorem docF_ends : ∀ n, (∀ g r, (doc n (g :: r)).2 <:+ g :: r ∧ (1 ≤ n → (doc n (g :: r)).2 <:+ r)) ∧ (∀ lev l, (kids n lev l).2 <:+ l) := by
  intro n
  induction n with
  | zero => exact ⟨fun g r => ⟨by rw [doc_zero]; exact List.suffix_refl _, fun h => by omega⟩, fun lev l => by rw [kids_zero]; exact List.suffix_refl _⟩
  | succ n ih =>
    obtain ⟨i1, i2⟩ := ih
    have h1 : ∀ g r, (doc (n + 1) (g :: r)).2 <:+ r := by
      intro g r
      rw [doc_cons]
      split
      · exact i2 _ _
      · exact List.suffix_refl _
    refine ⟨fun g r => ⟨(h1 g r).trans (List.suffix_cons _ _), fun _ => h1 g r⟩, fun lev l => ?_⟩
    cases l with
    | nil => rw [kids_nil]; exact List.suffix_refl _
    | cons h r =>
      rw [kids_cons]
      split
      · exact (i2 _ _).trans (i1 h r).1
      · exact List.suffix_refl _
theorem doc_nil (n : Nat) : doc n [] = ([], []) := by cases n <;> rfl
theorem docF_stab : ∀ n, (∀ l m, 2 * l.length ≤ n → n ≤ m → doc m l = doc n l) ∧ (∀ lev l m, 2 * l.length + 1 ≤ n → n ≤ m → kids m lev l = kids n lev l) := by
  intro n
  induction n with
  | zero =>
    refine ⟨fun l m h _ => ?_, fun lev l m h _ => by omega⟩
    have : l = [] := List.eq_nil_of_length_eq_zero (by omega)
    subst this; rw [doc_nil, doc_nil]
  | succ n ih =>
    obtain ⟨i1, i2⟩ := ih
    refine ⟨fun l m h hm => ?_, fun lev l m h hm => ?_⟩
    · cases l with
      | nil => rw [doc_nil, doc_nil]
      | cons g r =>
        obtain ⟨m, rfl⟩ : ∃ k, m = k + 1 := ⟨m - 1, by omega⟩
        rw [doc_cons, doc_cons, i2 g.level r m (by simp at h; omega) (by omega)]
    · cases l with
      | nil => rw [kids_nil, kids_nil]
      | cons x r =>
        obtain ⟨m, rfl⟩ : ∃ k, m = k + 1 := ⟨m - 1, by omega⟩
        rw [kids_cons, kids_cons, i1 (x :: r) m (by simp at h ⊢; omega) (by omega)]
        have hn : 1 ≤ n := by simp at h; omega
        have hs := (((docF_ends n).1 x r).2 hn).length_le
        rw [i2 lev (doc n (x :: r)).2 m (by simp at h; omega) (by omega)]
/-- the text of the first, and what is left -/
def D (l : List Geo) : Str × List Geo := doc (2 * l.length) l
def K (lev : Nat) (l : List Geo) : List Str × List Geo := kids (2 * l.length + 1) lev l
theorem D_cons (g : Geo) (r : List Geo) : D (g :: r) = if g.kind = 7 then (nm g.kind ++ (32 :: joined (K g.level r).1), (K g.level r).2) else (nm g.kind ++ (32 :: bodyT g), r) := by
  unfold D K
  rw [List.length_cons, show 2 * (r.length + 1) = 2 * r.length + 1 + 1 from by omega, doc_cons]
theorem K_nil (lev : Nat) : K lev [] = ([], []) := kids_nil _ _
theorem D_rest (g : Geo) (r : List Geo) : (D (g :: r)).2 <:+ r := ((docF_ends _).1 g r).2 (by rw [List.length_cons]; omega)
theorem K_rest (lev : Nat) (l : List Geo) : (K lev l).2 <:+ l := (docF_ends _).2 lev l
theorem K_cons (lev : Nat) (h : Geo) (r : List Geo) : K lev (h :: r) = if h.level > lev then ((D (h :: r)).1 :: (K lev (D (h :: r)).2).1, (K lev (D (h :: r)).2).2) else ([], h :: r) := by
  have hl := (D_rest h r).length_le
  unfold K
  rw [List.length_cons, kids_cons]
  have e1 : doc (2 * (r.length + 1)) (h :: r) = D (h :: r) := rfl
  rw [e1]
  have e2 : kids (2 * (r.length + 1)) lev (D (h :: r)).2 = kids (2 * (D (h :: r)).2.length + 1) lev (D (h :: r)).2 := (docF_stab _).2 lev _ _ (Nat.le_refl _) (by omega)
  rw [e2]

/-- a list's end: its place -/
def plc (gs r : List Geo) : Nat := gs.length - r.length
theorem plc_drop {gs r : List Geo} (h : r <:+ gs) : r = gs.drop (plc gs r) := List.suffix_iff_eq_drop.1 h
theorem plc_of {gs : List Geo} {i : Nat} (h : i ≤ gs.length) : plc gs (gs.drop i) = i := by unfold plc; rw [List.length_drop]; omega
theorem after_le (gs : List Geo) : ∀ (i : Nat) (g : Geo), gs[i]? = some g → (after g (gs.drop (i + 1))).length ≤ (write gs).length := by
  have key : ∀ (l : List Geo) (a : Option Nat) (i : Nat) (g : Geo), l[i]? = some g → (after g (l.drop (i + 1))).length ≤ (textF a l).length := by
    intro l
    induction l with
    | nil => intro a i g h; cases h
    | cons x r ih =>
      intro a i g h
      rw [textF_cons]
      cases i with
      | zero => cases h; simp
      | succ i =>
        have := ih (.some x.level) i g h
        show (after g (r.drop (i + 1))).length ≤ _
        rw [List.length_append]
        have e : (textF (.some x.level) r).length ≤ (after x r).length := by unfold after; simp; omega
        omega
  exact key gs .none
theorem lev_drop : ∀ (gs : List Geo) (i : Nat), Lev gs → Lev (gs.drop i)
  | gs, 0, h => by simpa using h
  | [], i + 1, h => trivial
  | g :: r, i + 1, h => lev_drop r i h.tail
theorem drop_at {gs : List Geo} {i : Nat} {g : Geo} (h : gs[i]? = some g) : gs.drop i = g :: gs.drop (i + 1) := by
  obtain ⟨hlt, e⟩ := List.getElem?_eq_some_iff.1 h
  rw [List.drop_eq_getElem_cons hlt, e]
/-- how long the document's texts are -/
theorem D_le (gs : List Geo) (hR : RightG gs) (i : Nat) (g : Geo) (h : gs[i]? = some g) : (D (gs.drop i)).1.length ≤ (write gs).length := by
  have hl := lev_drop gs i hR.2.1
  rw [drop_at h] at hl ⊢
  have hc : ∀ x ∈ g :: gs.drop (i + 1), x.kind = 7 → x.lists = [] := fun x hx h7 => by
    rw [← drop_at h] at hx
    exact ((hR.1 x (List.mem_of_mem_drop hx)).2.2.2.2.2.2.2.2 h7).1
  have h1 := ((doc_text (2 * (g :: gs.drop (i + 1)).length)).1 g (gs.drop (i + 1)) (by omega) hl hc).2.2
  have h2 := after_le gs i g h
  rw [h1] at h2
  rw [List.length_append] at h2
  unfold D; omega
theorem K_le (gs : List Geo) (hR : RightG gs) (i : Nat) (g : Geo) (h : gs[i]? = some g) (h7 : g.kind = 7) : (joined (K g.level (gs.drop (i + 1))).1).length ≤ (write gs).length := by
  have := D_le gs hR i g h
  rw [drop_at h, D_cons, if_pos h7] at this
  simp at this; omega
theorem write_D (gs : List Geo) (hR : RightG gs) : D gs = (write gs, []) :=
  write_doc gs (2 * gs.length) (by omega) hR.2.1 hR.2.2 (fun x hx h7 => ((hR.1 x hx).2.2.2.2.2.2.2.2 h7).1)
end Go.Proofs.Ytegkdkilbnighaa.Wk

set_option linter.unusedVariables false
set_option linter.unusedSimpArgs false
namespace Go.Proofs.Ytegkdkilbnighaa.Wk
open Go Lx

theorem join_size : ∀ xs : List Str, (join xs).length ≤ (xs.map fun x => x.length + 2).sum
  | [] => Nat.le_refl _
  | [x] => by simp [join]
  | x :: y :: r => by
    rw [join_cons x (y :: r) (by simp)]
    have := join_size (y :: r)
    simp only [List.length_append, List.map_cons, List.sum_cons, List.length_cons, List.length_nil] at this ⊢
    omega
theorem joined_size (xs : List Str) : (joined xs).length ≤ 5 + (xs.map fun x => x.length + 2).sum := by
  unfold joined
  split
  · simp [emptyWord]
  · have := join_size xs
    unfold bracket; simp; omega
theorem sum_le {A : Type} (f g : A → Nat) : ∀ l : List A, (∀ x ∈ l, f x ≤ g x) → (l.map f).sum ≤ (l.map g).sum
  | [], _ => Nat.le_refl _
  | a :: l, h => by
    have h1 := h a (List.mem_cons_self ..)
    have h2 := sum_le f g l (fun x hx => h x (List.mem_cons_of_mem _ hx))
    simp only [List.map_cons, List.sum_cons]; omega
theorem sum_mul {A : Type} (c : Nat) (f : A → Nat) : ∀ l : List A, (l.map fun x => c * f x).sum = c * (l.map f).sum
  | [] => rfl
  | a :: l => by simp only [List.map_cons, List.sum_cons, sum_mul c f l, Nat.mul_add]
theorem pairsT_size (l : List Pr) : (pairsT l).length ≤ 5 * mL l := by
  have h1 := joined_size (l.map pairT)
  rw [List.map_map] at h1
  have h2 := sum_le (((fun (x : Str) => x.length + 2) ∘ pairT)) (fun p => 2 * mP p) l (fun p _ => by unfold pairT mP; simp; omega)
  rw [sum_mul] at h2
  unfold pairsT mL; omega
theorem listsT_size (ls : List (List Pr)) : (listsT ls).length ≤ 5 + 7 * mLs ls := by
  have h1 := joined_size (ls.map pairsT)
  rw [List.map_map] at h1
  have h2 := sum_le (((fun (x : Str) => x.length + 2) ∘ pairsT)) (fun l => 7 * mL l) ls (fun l _ => by have := pairsT_size l; have : 1 ≤ mL l := by unfold mL; omega
                                                                                                       show (pairsT l).length + 2 ≤ _; omega)
  rw [sum_mul] at h2
  unfold listsT mLs; omega
theorem mLs_cut (ls : List (List Pr)) (n : Nat) : mLs (ls.take n) + mLs (ls.drop n) = mLs ls := by
  unfold mLs
  conv => rhs; rw [← List.take_append_drop n ls]
  rw [List.map_append, sum_append]
theorem parts_size : ∀ (ss : List Nat) (ls : List (List Pr)), ((parts ss ls).map mLs).sum ≤ mLs ls
  | [], _ => by simp [parts]
  | n :: r, ls => by
    have h1 := parts_size r (ls.drop n)
    have h2 := mLs_cut ls n
    unfold parts
    simp only [List.map_cons, List.sum_cons]; omega
theorem plen : ∀ (ss : List Nat) (ls : List (List Pr)), (parts ss ls).length = ss.length
  | [], _ => rfl
  | n :: r, ls => by unfold parts; simp [plen r]
theorem bodyT_size (g : Geo) : (bodyT g).length ≤ 7 * mG g := by
  unfold bodyT mG
  split
  · split
    · simp [emptyWord]; omega
    · rename_i x r e
      have h1 := pairsT_size x
      have h2 : mL x ≤ mLs (x :: r) := by unfold mLs; simp
      rw [e]; omega
  · split
    · have h1 := joined_size ((parts g.sizes g.lists).map listsT)
      rw [List.map_map] at h1
      have h2 := sum_le (((fun (x : Str) => x.length + 2) ∘ listsT)) (fun l => 7 * (1 + mLs l)) (parts g.sizes g.lists) (fun l _ => by have := listsT_size l; show (listsT l).length + 2 ≤ _; omega)
      rw [sum_mul, sum_succ, plen] at h2
      have h3 := parts_size g.sizes g.lists
      omega
    · have := listsT_size g.lists; omega
theorem pF_size : ∀ (l : List Geo) (a : Option Nat), (∀ x, a = .some x → x ≤ 32) → (∀ g ∈ l, g.level ≤ 32) → (pF a l).flatten.length ≤ 16 * (l.map mG).sum
  | [], _, _, _ => Nat.zero_le _
  | g :: r, a, ha, hl => by
    have h1 := pF_size r (.some g.level) (fun x e => by cases e; exact hl g (List.mem_cons_self ..)) (fun x hx => hl x (List.mem_cons_of_mem _ hx))
    have h2 := nm_len g.kind
    have h3 := bodyT_size g
    have h4 : 6 ≤ mG g := by unfold mG; omega
    have h5 : (sep a g.level).length ≤ 34 := by
      cases a with
      | none => exact Nat.zero_le _
      | some x =>
        have := ha x rfl
        show (if x < g.level then ([40] : Str) else List.replicate (x - g.level) 41 ++ [44, 32]).length ≤ 34
        split
        · exact (by decide : 1 ≤ 34)
        · rw [List.length_append, List.length_replicate]; show x - g.level + 2 ≤ 34; omega
    rw [pF, List.flatten_cons, List.length_append, List.map_cons, List.sum_cons]
    unfold pc
    have h6 : (if told g r = true then bodyT g else []).length ≤ 7 * mG g := by split; exact h3; exact Nat.zero_le _
    simp only [List.length_append, List.length_cons]
    omega
theorem write_size (gs : List Geo) (h : RightG gs) : (write gs).length ≤ 22 * (gs.map mG).sum := by
  have hl := level_le gs h
  have h1 := pF_size gs .none (fun x e => by cases e) hl
  have hne : gs ≠ [] := fun e => by rw [e] at h; exact h.2.2
  obtain ⟨g, hg⟩ : ∃ g, gs[gs.length - 1]? = some g := ⟨_, List.getElem?_eq_getElem (by have := List.length_pos_iff.2 hne; omega)⟩
  have h2 := close_at gs .none g hg
  have h3 := hl g (List.mem_of_getElem? hg)
  have h4 : 6 ≤ (gs.map mG).sum := by
    cases gs with
    | nil => exact absurd rfl hne
    | cons x r => simp only [List.map_cons, List.sum_cons]; unfold mG; omega
  unfold write
  rw [textF_pF, List.length_append, h2, List.length_replicate]
  omega
theorem mG_le (gs : List Geo) (g : Geo) (h : g ∈ gs) : mG g ≤ (gs.map mG).sum := by
  induction gs with
  | nil => cases h
  | cons x r ih =>
    simp only [List.map_cons, List.sum_cons]
    rcases List.mem_cons.1 h with rfl | h
    · omega
    · have := ih h; omega
theorem mLs_mem (ls : List (List Pr)) (l : List Pr) (h : l ∈ ls) : mL l ≤ mLs ls := by
  unfold mLs
  induction ls with
  | nil => cases h
  | cons x r ih =>
    simp only [List.map_cons, List.sum_cons]
    rcases List.mem_cons.1 h with rfl | h
    · omega
    · have := ih h; omega
theorem mP_mem (l : List Pr) (p : Pr) (h : p ∈ l) : mP p ≤ mL l := by
  unfold mL
  induction l with
  | nil => cases h
  | cons x r ih =>
    simp only [List.map_cons, List.sum_cons]
    rcases List.mem_cons.1 h with rfl | h
    · omega
    · have := ih h; omega
theorem mLs_len (ls : List (List Pr)) : ls.length ≤ mLs ls ∧ ls.flatten.length ≤ mLs ls := by
  induction ls with
  | nil => exact ⟨Nat.le_refl _, Nat.le_refl _⟩
  | cons x r ih =>
    have h : x.length + 1 ≤ mL x := by
      unfold mL
      have : x.length ≤ (x.map mP).sum := by
        induction x with
        | nil => exact Nat.le_refl _
        | cons p x ih2 => have : 2 ≤ mP p := by unfold mP; omega
                          simp only [List.length_cons, List.map_cons, List.sum_cons]; have := ih2; omega
      omega
    unfold mLs at ih ⊢
    simp only [List.length_cons, List.map_cons, List.sum_cons, List.flatten_cons, List.length_append]
    omega
theorem fitA_of (g : Geo) (N : Nat) (h : mG g ≤ N) (hN : N ≤ 100000000) : FitA (toA g) := by
  have h1 := mLs_len g.lists
  unfold mG at h
  refine ⟨by show g.lists.length ≤ _; omega, by show (g.sizes.map _).length ≤ _; rw [List.length_map]; omega, fun l hl p hp => ?_⟩
  have h2 := mLs_mem g.lists l hl
  have h3 := mP_mem l p hp
  unfold mP at h3
  unfold Go.Proofs.Ytegkdkilbnighaa.fit maxLen
  constructor <;> omega
end Go.Proofs.Ytegkdkilbnighaa.Wk

set_option linter.unusedVariables false
set_option linter.unusedSimpArgs false
namespace Go.Proofs.Ytegkdkilbnighaa
open Go.RowKit Go.Rg
attribute [local go_sem] Oper.semAt_some

abbrev IsB (b : Nat) (l : Lx.Str) (w : World) : Prop := Lib.IsBuilderF 69 5 b b (Lib.byteCells l) w
theorem bld_call {b : Nat} {l : Lx.Str} {w w' : World} (h : IsB b l w) (hx : Below w.heap.size w w') : IsB b l w' := by
  have : ∀ p, Lib.BuilderAtF 69 5 b b p (Lib.byteCells l) w → Lib.BuilderAtF 69 5 b b p (Lib.byteCells l) w' := by
    rintro p ⟨hB, v, hb, ⟨hl, ho⟩, hne⟩
    refine ⟨hB, v, (hx.block b (Array.getElem?_eq_some_iff.1 hb).1).trans hb, ⟨hl, ?_⟩, hne⟩
    rcases ho with hn | ⟨g, cap, cur, fz, hv, hbg, hg, rest⟩
    · exact .inl hn
    · exact .inr ⟨g, cap, cur, fz, hv, hbg, (hx.block g (Array.getElem?_eq_some_iff.1 hg).1).trans hg, rest⟩
  exact h.elim (fun x => .inl (this _ x)) (fun x => .inr (this _ x))
theorem bld_new (w : World) : IsB w.heap.size [] (w.alloc (.cells #[.pointer none, .slice none 0 0] 69)) :=
  .inl ⟨Nat.le_refl _, _, World.alloc_heap_new w _, World.ownsRowF_nil _ _ _ _, by simp [Value.ownBlock]⟩
theorem bld_lt {b : Nat} {l : Lx.Str} {w : World} (h : IsB b l w) : b < w.heap.size := h.elim (fun x => x.lt) (fun x => x.lt)
/-- what a write leaves of another block -/
theorem blk_others {b : Nat} {w w' : World} {q : Nat} {cs : List Value} {t : TypeId} (h : Blk w q cs t) (hq : q ≠ b) (ht : t ≠ 5) (hx : Lib.OthersKept 5 (some b) w w') : Blk w' q cs t :=
  hx q _ h (fun e => hq (Option.some.inj e)) (fun c fz e => by cases e; exact ht rfl)
theorem writeK_any (b : Nat) (l m : Lx.Str) (s : ByteArray) (w : World) (h : IsB b l w) (hs : s.data.toList = m) (hlen : l.length + m.length ≤ 100000000000) :
    Calls Try.prog 25 #[.pointer (some ⟨b, 0, none⟩), .string s] w fun e w' => e = .returned (.tuple #[.int .i64 s.size, .nilIface]) ∧ IsB b (l ++ m) w' ∧ Below b w w' ∧ Lib.OthersKept 5 (some b) w w' :=
  (Any.Builder_WriteString_k lays166 Try.Builder_Extra_156 b b (Lib.byteCells l) s w h (by rw [Lib.byteCells_length, Lib.size_eq, hs]; omega) (Nat.le_of_lt (bld_lt h))).mono fun e w' ⟨h1, h2, h3, h4⟩ => ⟨h1, .inr (by
    have : Lib.byteCells (l ++ m) = Lib.byteCells l ++ Lib.strCells s := by unfold Lib.byteCells Lib.strCells; rw [List.map_append, hs]
    rw [this]; exact h2), h3, h4⟩
theorem string_any (b : Nat) (l : Lx.Str) (w : World) (h : IsB b l w) (h0 : l ≠ []) :
    Calls Try.prog 28 #[.pointer (some ⟨b, 0, none⟩)] w fun e w' => e = .returned (str l) ∧ Below b w w' :=
  (Try.Builder_String_k b b l w h h0).mono fun e w' ⟨h1, _, h2, _⟩ => ⟨h1, h2⟩
theorem repeat_one (c : UInt8) : ∀ n, Lib.repeatL [c] n = List.replicate n c
  | 0 => rfl
  | n + 1 => by unfold Lib.repeatL; rw [repeat_one c n]; rfl
theorem repeat_any (n : Nat) (w : World) (hn : n ≤ 100000000) :
    Calls Try.prog 26 #[.string ⟨#[41]⟩, .int .i64 (n : Int)] w fun e w' => e = .returned (str (List.replicate n 41)) ∧ Below w.heap.size w w' :=
  (Try.strings_Repeat ⟨#[41]⟩ n w (by omega) (by show 1 * n ≤ _; omega)).mono fun e w' ⟨h1, h2⟩ => ⟨h1.trans (by show Ending.returned (.string ⟨(Lib.repeatL [41] n).toArray⟩) = _; rw [repeat_one]), h2⟩
theorem bdC_of {w : World} {lv zv : Value} {g : Wk.Geo} (h : BdA w lv zv (Wk.toA g)) : BdC w lv zv g := by
  obtain ⟨vs, h0, h1, h2, h3⟩ := h
  refine ⟨vs, h0, h1, h2, ?_⟩
  have e1 : (Wk.toA g).sizes.length = g.sizes.length := by unfold Wk.toA; simp
  have e2 : intsZ (Wk.toA g).sizes = intsN g.sizes := by unfold intsZ intsN Wk.toA; rw [List.map_map]; rfl
  rw [e1, e2] at h3
  exact h3
theorem bdC_toA {w : World} {lv zv : Value} {g : Wk.Geo} (h : BdC w lv zv g) : BdA w lv zv (Wk.toA g) := by
  obtain ⟨vs, h0, h1, h2, h3⟩ := h
  refine ⟨vs, h0, h1, h2, ?_⟩
  have e1 : (Wk.toA g).sizes.length = g.sizes.length := by unfold Wk.toA; simp
  have e2 : intsZ (Wk.toA g).sizes = intsN g.sizes := by unfold intsZ intsN Wk.toA; rw [List.map_map]; rfl
  rw [e1, e2]
  exact h3
theorem name_nm (k : Nat) (h : 1 ≤ k ∧ k ≤ 7) : Wk.name (k : Int) = Wk.nm k := by unfold Wk.name Wk.nm; rw [if_pos (by omega)]; rfl

set_option maxRecDepth 100000 in
set_option maxHeartbeats 8000000 in
theorem write_any (gs : List Wk.Geo) (v : Value) (cs : List Value) (w : World) (hR : Wk.RightG gs) (h : RdC w v gs.length cs) (hg : GsC w cs (gs.map Wk.toA)) (hf : ∀ g ∈ gs.map Wk.toA, Wk.FitA g) (hlen : (Wk.write gs).length ≤ 1000000000) :
    Calls Try.prog 11 #[v] w fun e w' => e = .returned (.tuple #[str (Wk.write gs), .int .i64 0]) ∧ Below w.heap.size w w' := by
  have HRA := Lib.hid (rightA_any v cs (gs.map Wk.toA) w (by rw [List.length_map]; exact h) hg hf)
  obtain ⟨a, c, rfl, hm⟩ := h.form
  obtain ⟨n, hnn⟩ : ∃ n, n = gs.length := ⟨_, rfl⟩
  have Hn := Lib.hid hnn
  rw [← hnn] at h hm HRA ⊢
  have Hr := Lib.hid h
  have Hg := Lib.hid hg
  have Hf := Lib.hid hf
  have HR := Lib.hid hR
  have Hlen := Lib.hid hlen
  have hn0 : 0 < n := by
    rcases Nat.eq_zero_or_pos n with h0 | h0
    · exfalso
      have : gs = [] := List.eq_nil_of_length_eq_zero (hnn.symm.trans h0)
      rw [this] at hR; exact hR.2.2
    · exact h0
  clear hnn h hg hf hR hlen
  unfold maxLen at hm
  go_enter Try.func11, Try.ntmps11
  go_wp2_with fail
  refine HRA.out.mono ?_
  rintro e w1 ⟨b, rfl, hb, hbw⟩
  cases b with
  | false => exact absurd (hb.out.2 (Wk.right_toA gs HR.out)) (by simp)
  | true =>
  clear hb HRA
  obtain ⟨W1, hW1⟩ : ∃ W1, w1.alloc (.cells #[.pointer none, .slice none 0 0] 69) = W1 := ⟨_, rfl⟩
  have hIB : IsB w1.heap.size [] W1 := hW1 ▸ bld_new w1
  have hB1 : Below w1.heap.size w1 W1 := hW1 ▸ (Below.refl _ w1).alloc (Nat.le_refl _) _
  have hws := hbw.size
  have HIB := Lib.hid hIB
  have HB1 := Lib.hid hB1
  have Hbw := Lib.hid hbw
  clear hIB hB1 hbw
  go_wp2_with fail
  (try simp only [hW1])
  go_loopg [13] n (fun q s13 wx => ∃ i : Nat, i + q = n ∧ s13 = .int .i64 (i : Int) ∧ Hid (IsB w1.heap.size (Wk.wr gs i) wx) ∧ Hid (Below w1.heap.size w1 wx))
  case atStart => exact ⟨0, by omega, rfl, HIB.out, HB1.out⟩
  case round =>
    obtain ⟨i, hiq, rfl, HI, Hb⟩ := hrel
    have hb1 := bld_lt HI.out
    cases gk with
    | zero =>
      have hin : i = n := by omega
      subst hin
      obtain ⟨g, hgl⟩ : ∃ g, gs[i - 1]? = some g := ⟨_, List.getElem?_eq_getElem (by rw [← Hn.out]; omega)⟩
      have hga : (gs.map Wk.toA)[i - 1]? = some (Wk.toA g) := by rw [List.getElem?_map, hgl]; rfl
      obtain ⟨g1, o1, lv, zv, rfl, q1, q2, hB, q3, y0, y1, y2, y3⟩ := gs_at Hr.out Hg.out (i - 1) _ hga
      have hwx := Lib.hid (Hbw.out.trans (Hb.out.mono hws))
      have x1 : wr.cell? ⟨g1, o1 + (i - 1) * 4 + 1, none⟩ = some (.int .i64 (g.level : Int)) := keepc hwx.out q3 y1
      have hww : Hid (Wk.write gs = Wk.wr gs i ++ List.replicate g.level 41) := by unfold Hid; rw [Hn.out]; exact Wk.write_wr gs g (by rw [← Hn.out]; exact hgl)
      have hl : g.level ≤ 1000000000 := by have := Hlen.out; rw [hww.out] at this; simp at this; omega
      have hi1 : ((i : Int) - 1) = ((i - 1 : Nat) : Int) := by omega
      have HlenI : Hid ((Wk.wr gs i).length + (List.replicate g.level (41 : UInt8)).length ≤ 100000000000) := by
        unfold Hid; have := Wk.wr_le gs i; have := Hlen.out; rw [List.length_replicate]; omega
      have hl8 : g.level ≤ 100000000 := by
        have h7 : g.level ≤ 32 := Wk.level_le gs HR.out g (List.mem_of_getElem? hgl)
        omega
      have Hne : Hid (Wk.write gs ≠ []) := Wk.write_ne gs HR.out
      clear y0 y1 y2 y3 hB hga
      go_wp2_with fail
      refine (repeat_any g.level wr hl8).mono ?_
      rintro e w5 ⟨rfl, hb5⟩
      have HI5 := Lib.hid (bld_call HI.out hb5)
      have hw5 := Lib.hid (Hb.out.trans (hb5.mono Hb.out.size))
      clear hb5
      go_wp2_with fail
      refine (writeK_any w1.heap.size (Wk.wr gs i) (List.replicate g.level 41) ⟨(List.replicate g.level 41).toArray⟩ w5 HI5.out (by simp) HlenI.out).mono ?_
      rintro e w6 ⟨rfl, hI6, hb6, ho6⟩
      rw [← hww.out] at hI6
      have HI6 := Lib.hid hI6
      have hw6 := Lib.hid (hw5.out.trans hb6)
      clear hI6 hb6 ho6
      go_wp2_with fail
      refine (string_any w1.heap.size (Wk.write gs) w6 HI6.out Hne.out).mono ?_
      rintro e w7 ⟨rfl, hb7⟩
      have hw7 := Lib.hid (Hbw.out.trans ((hw6.out.trans hb7).mono hws))
      clear hb7
      go_wp2_with fail
      exact bodyPost_ret (v := .tuple #[str (Wk.write gs), .int .i64 0]) (by simp [results, Try.results11, go_sem]) rfl ⟨rfl, hw7.out⟩
    | succ q =>
      have hin : i < n := by omega
      obtain ⟨g, hgi⟩ : ∃ g, gs[i]? = some g := ⟨_, List.getElem?_eq_getElem (by rw [← Hn.out]; exact hin)⟩
      have hga : (gs.map Wk.toA)[i]? = some (Wk.toA g) := by rw [List.getElem?_map, hgi]; rfl
      obtain ⟨g1, o1, lv, zv, rfl, q1, q2, hB, q3, y0, y1, y2, y3⟩ := gs_at Hr.out Hg.out i _ hga
      have HB := Lib.hid (bdC_of hB)
      obtain ⟨vs, _, hl, _, hzs⟩ := HB.out
      obtain ⟨la, lc, rfl, _⟩ := hl.form
      obtain ⟨za, zc, rfl, _⟩ := hzs.form
      clear hl hzs hB
      have hgm := List.mem_of_getElem? hgi
      have hone := HR.out.1 g hgm
      have hfit := Hf.out _ (List.mem_map_of_mem hgm)
      have hsucc := Wk.wr_succ gs i g hgi
      have htold := Wk.told_at gs i g
      have hnm := name_nm g.kind ⟨hone.1, hone.2.1⟩
      have hwle := Nat.le_trans (Wk.wr_le gs (i + 1)) Hlen.out
      have Hone := Lib.hid hone
      have hnl := Wk.nm_len g.kind
      obtain ⟨kk, hkk⟩ : ∃ kk : Int, kk = (g.kind : Int) := ⟨_, rfl⟩
      have hk17 : 1 ≤ kk ∧ kk ≤ 7 := by have := hone.1; have := hone.2.1; omega
      obtain ⟨lev, hlev⟩ : ∃ lev : Nat, lev = g.level := ⟨_, rfl⟩
      have hl32 : lev ≤ 32 := by rw [hlev]; exact Wk.level_le gs HR.out g hgm
      have y0' : w.cell? ⟨g1, o1 + i * 4, none⟩ = some (.int .i64 kk) := y0.trans (by rw [hkk]; rfl)
      have y1' : w.cell? ⟨g1, o1 + i * 4 + 1, none⟩ = some (.int .i64 (lev : Int)) := y1.trans (by rw [hlev]; rfl)
      have hwx := Lib.hid (Hbw.out.trans (Hb.out.mono hws))
      have x0 : wr.cell? ⟨g1, o1 + i * 4, none⟩ = _ := keepc hwx.out q3 y0'
      have x1 : wr.cell? ⟨g1, o1 + i * 4 + 1, none⟩ = _ := keepc hwx.out q3 y1'
      have x2 : wr.cell? ⟨g1, o1 + i * 4 + 2, none⟩ = _ := keepc hwx.out q3 y2
      have x3 : wr.cell? ⟨g1, o1 + i * 4 + 3, none⟩ = _ := keepc hwx.out q3 y3
      have hszr := Hb.out.size
      obtain ⟨Wb, hWb⟩ : ∃ Wb, wr.alloc (.cells #[.int .i64 kk, .int .i64 (lev : Int), .slice la g.lists.length lc, .slice za g.sizes.length zc] 40) = Wb := ⟨_, rfl⟩
      have B0 : Blk Wb wr.heap.size [.int .i64 kk, .int .i64 (lev : Int), .slice la g.lists.length lc, .slice za g.sizes.length zc] 40 := hWb ▸ Blk.new wr _ _
      have hBw : Below wr.heap.size wr Wb := hWb ▸ (Below.refl _ wr).alloc (Nat.le_refl _) _
      have hbw := Hb.out.trans (hBw.mono hszr)
      have HIb := Lib.hid (bld_call HI.out hBw)
      have HB0 := Lib.hid B0
      have HBw := Lib.hid hbw
      have Hsucc := Lib.hid hsucc
      have Htold := Lib.hid htold
      have Hnm := Lib.hid (show Wk.name kk = Wk.nm g.kind by rw [hkk]; exact hnm)
      have Hkk := Lib.hid hkk
      have Hlev := Lib.hid hlev
      have Hgi := Lib.hid hgi
      have Hwle := Lib.hid hwle
      have Hfit := Lib.hid hfit
      have hqb : wr.heap.size ≠ w1.heap.size := by omega
      have hbody : ∀ X, Below w.heap.size w X → Wk.told g (gs.drop (i + 1)) = true → Calls Try.prog 27 #[.agg #[.int .i64 kk, .int .i64 (lev : Int), .slice la g.lists.length lc, .slice za g.sizes.length zc]] X fun e X' => e = .returned (str (Wk.bodyT g)) ∧ Below X.heap.size X X' := by
        intro X hX ht
        have hl : (Wk.bodyT g).length ≤ 1000000000 := by
          have := Hwle.out; rw [Hsucc.out] at this; unfold Wk.pc at this; rw [if_pos ht] at this; simp at this; omega
        have := body_any2 g (.slice la g.lists.length lc) (.slice za g.sizes.length zc) X (HB.out.call hX) Hone.out Hfit.out.1 (by have := Hfit.out.2.1; unfold Wk.toA at this; simpa using this) hl
        rw [hkk, hlev]; exact this
      have Hbody := Lib.hid hbody
      have b0 := B0.cell (j := 0) rfl
      have b1 := B0.cell (j := 1) rfl
      have hzb : wr.heap.size < Wb.heap.size := by rw [← hWb, World.size_alloc]; omega
      clear y0 y1 y2 y3 y0' y1' hga B0 hBw hbw hsucc htold hnm hone hgi hgm hfit hbody hkk hlev hwle
      have hD : ∀ {k : Nat} {X Y : World}, Below w1.heap.size w1 X → Below (X.drewN k).heap.size (X.drewN k) Y → Below w1.heap.size w1 Y := fun h1 h2 => (h1.trans (below_drewN _ _ _)).trans (h2.mono (h1.trans (below_drewN _ _ _)).size)
      rcases Nat.eq_zero_or_pos i with hi00 | hpos
      · have Hi00 := Lib.hid hi00
        have hi0 : ¬ ((0 : Int) < (i : Int)) := by omega
        clear hi00
        have Hsep : Hid (Wk.sep (if i = 0 then .none else (gs[i - 1]?).map Wk.Geo.level) g.level = []) := by unfold Hid; rw [if_pos Hi00.out]; rfl
        go_wp2_with fail
        refine (name_any kk Wb).mono ?_
        rintro e w3 ⟨rfl, hb3⟩
        rw [Hnm.out]
        have HI3 := Lib.hid (bld_call HIb.out hb3)
        have hw3 := Lib.hid (HBw.out.trans (hb3.mono HBw.out.size))
        have HB3 := Lib.hid (HB0.out.call hb3)
        clear hb3
        go_wp2_with fail
        refine (writeK_any w1.heap.size (Wk.wr gs i) (Wk.nm g.kind ++ [32]) ((⟨(Wk.nm g.kind).toArray⟩ : ByteArray) ++ (⟨#[32]⟩ : ByteArray)) w3 HI3.out (by simp) ?len1).mono ?_
        case len1 => have := Hwle.out; rw [Hsucc.out] at this; unfold Wk.pc at this; rw [Hsep.out] at this; (try simp at this); (try simp); omega
        rintro e w4 ⟨rfl, hI4, hb4, ho4⟩
        have HI4 := Lib.hid hI4
        have hw4 := Lib.hid (hw3.out.trans hb4)
        have B4 := blk_others HB3.out hqb (by decide) ho4
        have d0 := B4.cell (j := 0) rfl
        have d1 := B4.cell (j := 1) rfl
        have d2 := B4.cell (j := 2) rfl
        have d3 := B4.cell (j := 3) rfl
        have HB4 := Lib.hid B4
        have hlt4 := bld_lt HI4.out
        have hwx4 := Lib.hid (Hbw.out.trans (hw4.out.mono hws))
        clear hI4 hb4 ho4 B4
        by_cases hk7 : kk = 7
        · subst hk7
          have hg7 : g.kind = 7 := by have := Hkk.out; omega
          rcases Nat.lt_or_ge (i + 1) n with hi2 | hi2
          · have hil : (((i : Int) + 1) == (n : Int)) = false := by rw [beq_eq_false_iff_ne]; omega
            obtain ⟨h, hh⟩ : ∃ h, gs[i + 1]? = some h := ⟨_, List.getElem?_eq_getElem (by rw [← Hn.out]; exact hi2)⟩
            have hha : (gs.map Wk.toA)[i + 1]? = some (Wk.toA h) := by rw [List.getElem?_map, hh]; rfl
            obtain ⟨g1', o1', lv', zv', e', _, _, _, q3', z0, z1, _, _⟩ := gs_at Hr.out Hg.out (i + 1) _ hha
            cases e'
            obtain ⟨hlv, hhl⟩ : ∃ hlv : Nat, hlv = h.level := ⟨_, rfl⟩
            have z1' : w.cell? ⟨g1, o1 + (i + 1) * 4 + 1, none⟩ = some (.int .i64 (hlv : Int)) := z1.trans (by rw [hhl]; rfl)
            have e1 : w4.cell? ⟨g1, o1 + (i + 1) * 4 + 1, none⟩ = _ := keepc hwx4.out q3 z1'
            clear z0 z1 z1' hha
            by_cases hle : hlv ≤ lev
            · have Htd : Hid (Wk.told g (gs.drop (i + 1)) = true) := by unfold Hid; rw [Htold.out, hh]; simp; right; rw [← hhl, ← Hlev.out]; exact hle
              clear hh hhl
              go_wp2_with fail
              go_quiet (fail)
              go_wp2_with fail
              refine (Hbody.out _ (hwx4.out.trans (below_drewN _ _ _)) Htd.out).mono ?_
              rintro e w5 ⟨rfl, hb5⟩
              have HI5 := Lib.hid (bld_call (bld_call HI4.out (below_drewN _ _ _)) hb5)
              have hw5 := Lib.hid (hD hw4.out hb5)
              clear hb5
              go_wp2_with fail
              refine (writeK_any w1.heap.size (Wk.wr gs i ++ (Wk.nm g.kind ++ [32])) (Wk.bodyT g) ⟨(Wk.bodyT g).toArray⟩ w5 HI5.out (by simp) ?len2).mono ?_
              case len2 => have := Hwle.out; rw [Hsucc.out] at this; unfold Wk.pc at this; rw [Hsep.out, if_pos Htd.out] at this; (try simp at this); (try simp); omega
              rintro e w6 ⟨rfl, hI6, hb6, ho6⟩
              have HI6 : Hid (IsB w1.heap.size (Wk.wr gs (i + 1)) w6) := by unfold Hid; rw [Hsucc.out]; unfold Wk.pc; rw [Hsep.out, if_pos Htd.out]; simp only [List.append_assoc, List.cons_append, List.nil_append] at hI6 ⊢; exact hI6
              have hw6 := Lib.hid (hw5.out.trans hb6)
              clear hI6 hb6 ho6
              go_wp2_with fail
              go_roundg q
              case measure => omega
              case rel => exact ⟨i + 1, by omega, by first | rfl | simp, HI6, hw6⟩
            · have Htd : Hid (Wk.told g (gs.drop (i + 1)) = false) := by unfold Hid; rw [Htold.out, hh, hg7]; simp; rw [← hhl, ← Hlev.out]; omega
              clear hh hhl
              go_wp2_with fail
              go_quiet (fail)
              go_wp2_with fail
              have HI6 : Hid (IsB w1.heap.size (Wk.wr gs (i + 1)) w4) := by unfold Hid; rw [Hsucc.out]; unfold Wk.pc; rw [Hsep.out, if_neg (by rw [Htd.out]; simp)]; have := HI4.out; simp only [List.append_assoc, List.cons_append, List.nil_append] at this ⊢; exact this
              go_roundg q
              case measure => omega
              case rel => exact ⟨i + 1, by omega, by first | rfl | simp, bld_call HI6.out (below_drewN _ _ _), hw4.out.trans (below_drewN _ _ _)⟩
          · have hil : (((i : Int) + 1) == (n : Int)) = true := by rw [beq_iff_eq]; omega
            have hhn : gs[i + 1]? = none := List.getElem?_eq_none (by rw [← Hn.out]; omega)
            have Htd : Hid (Wk.told g (gs.drop (i + 1)) = true) := by unfold Hid; rw [Htold.out, hhn]; simp
            clear hhn
            go_wp2_with fail
            go_quiet (fail)
            go_wp2_with fail
            refine (Hbody.out _ (hwx4.out.trans (below_drewN _ _ _)) Htd.out).mono ?_
            rintro e w5 ⟨rfl, hb5⟩
            have HI5 := Lib.hid (bld_call (bld_call HI4.out (below_drewN _ _ _)) hb5)
            have hw5 := Lib.hid (hD hw4.out hb5)
            clear hb5
            go_wp2_with fail
            refine (writeK_any w1.heap.size (Wk.wr gs i ++ (Wk.nm g.kind ++ [32])) (Wk.bodyT g) ⟨(Wk.bodyT g).toArray⟩ w5 HI5.out (by simp) ?len3).mono ?_
            case len3 => have := Hwle.out; rw [Hsucc.out] at this; unfold Wk.pc at this; rw [Hsep.out, if_pos Htd.out] at this; (try simp at this); (try simp); omega
            rintro e w6 ⟨rfl, hI6, hb6, ho6⟩
            have HI6 : Hid (IsB w1.heap.size (Wk.wr gs (i + 1)) w6) := by unfold Hid; rw [Hsucc.out]; unfold Wk.pc; rw [Hsep.out, if_pos Htd.out]; simp only [List.append_assoc, List.cons_append, List.nil_append] at hI6 ⊢; exact hI6
            have hw6 := Lib.hid (hw5.out.trans hb6)
            clear hI6 hb6 ho6
            go_wp2_with fail
            go_roundg q
            case measure => omega
            case rel => exact ⟨i + 1, by omega, by first | rfl | simp, HI6, hw6⟩
        · have e7 : (kk == 7) = false := by rw [beq_eq_false_iff_ne]; exact hk7
          have e7' : (kk != 7) = true := by rw [bne, e7]; rfl
          have Htd : Hid (Wk.told g (gs.drop (i + 1)) = true) := by unfold Hid; rw [Htold.out]; have := Hkk.out; have h7 : g.kind ≠ 7 := by omega
                                                                    simp [h7]
          go_wp2_with fail
          go_quiet (fail)
          go_wp2_with fail
          refine (Hbody.out _ (hwx4.out.trans (below_drewN _ _ _)) Htd.out).mono ?_
          rintro e w5 ⟨rfl, hb5⟩
          have HI5 := Lib.hid (bld_call (bld_call HI4.out (below_drewN _ _ _)) hb5)
          have hw5 := Lib.hid (hD hw4.out hb5)
          clear hb5
          go_wp2_with fail
          refine (writeK_any w1.heap.size (Wk.wr gs i ++ (Wk.nm g.kind ++ [32])) (Wk.bodyT g) ⟨(Wk.bodyT g).toArray⟩ w5 HI5.out (by simp) ?len4).mono ?_
          case len4 => have := Hwle.out; rw [Hsucc.out] at this; unfold Wk.pc at this; rw [Hsep.out, if_pos Htd.out] at this; (try simp at this); (try simp); omega
          rintro e w6 ⟨rfl, hI6, hb6, ho6⟩
          have HI6 : Hid (IsB w1.heap.size (Wk.wr gs (i + 1)) w6) := by unfold Hid; rw [Hsucc.out]; unfold Wk.pc; rw [Hsep.out, if_pos Htd.out]; simp only [List.append_assoc, List.cons_append, List.nil_append] at hI6 ⊢; exact hI6
          have hw6 := Lib.hid (hw5.out.trans hb6)
          clear hI6 hb6 ho6
          go_wp2_with fail
          go_roundg q
          case measure => omega
          case rel => exact ⟨i + 1, by omega, by first | rfl | simp, HI6, hw6⟩
      · obtain ⟨p, hp⟩ : ∃ p, gs[i - 1]? = some p := ⟨_, List.getElem?_eq_getElem (by rw [← Hn.out]; omega)⟩
        have hpa : (gs.map Wk.toA)[i - 1]? = some (Wk.toA p) := by rw [List.getElem?_map, hp]; rfl
        obtain ⟨g1', o1', lv', zv', e', _, _, _, q3', _, y1, _, _⟩ := gs_at Hr.out Hg.out (i - 1) _ hpa
        cases e'
        obtain ⟨pl, hpl⟩ : ∃ pl : Nat, pl = p.level := ⟨_, rfl⟩
        have y1' : w.cell? ⟨g1, o1 + (i - 1) * 4 + 1, none⟩ = some (.int .i64 (pl : Int)) := y1.trans (by rw [hpl]; rfl)
        have p1 : Wb.cell? ⟨g1, o1 + (i - 1) * 4 + 1, none⟩ = _ := keepc (Hbw.out.trans (HBw.out.mono hws)) q3 y1'
        have hpl32 : pl ≤ 32 := by rw [hpl]; exact Wk.level_le gs HR.out p (List.mem_of_getElem? hp)
        have hi1 : ((i : Int) - 1) = ((i - 1 : Nat) : Int) := by omega
        have hi0 : (0 : Int) < (i : Int) := by omega
        have Hsp : Hid (Wk.sep (if i = 0 then .none else (gs[i - 1]?).map Wk.Geo.level) g.level = if pl < lev then [40] else List.replicate (pl - lev) 41 ++ [44, 32]) := by
          unfold Hid; rw [if_neg (by omega), hp, hpl, Hlev.out]; rfl
        clear y1 y1' hpa hp hpl
        by_cases hgt : pl < lev
        · have Hsep : Hid (Wk.sep (if i = 0 then .none else (gs[i - 1]?).map Wk.Geo.level) g.level = [40]) := by unfold Hid; rw [Hsp.out, if_pos hgt]
          go_wp2_with fail
          refine (writeK_any w1.heap.size (Wk.wr gs i) [40] ⟨#[40]⟩ Wb HIb.out (by simp) ?len5).mono ?_
          case len5 => have := Hwle.out; rw [Hsucc.out] at this; unfold Wk.pc at this; rw [Hsep.out] at this; (try simp at this); (try simp); omega
          rintro e w2 ⟨rfl, hI2, hb2, ho2⟩
          have HI2 := Lib.hid hI2
          have hw2 := Lib.hid (HBw.out.trans hb2)
          have B2 := blk_others HB0.out hqb (by decide) ho2
          have c0 := B2.cell (j := 0) rfl
          have HB2 := Lib.hid B2
          clear hI2 hb2 ho2 B2
          go_wp2_with fail
          refine (name_any kk w2).mono ?_
          rintro e w3 ⟨rfl, hb3⟩
          rw [Hnm.out]
          have HI3 := Lib.hid (bld_call HI2.out hb3)
          have hw3 := Lib.hid (hw2.out.trans (hb3.mono hw2.out.size))
          have HB3 := Lib.hid (HB2.out.call hb3)
          clear hb3
          go_wp2_with fail
          refine (writeK_any w1.heap.size (Wk.wr gs i ++ [40]) (Wk.nm g.kind ++ [32]) ((⟨(Wk.nm g.kind).toArray⟩ : ByteArray) ++ (⟨#[32]⟩ : ByteArray)) w3 HI3.out (by simp) ?len6).mono ?_
          case len6 => have := Hwle.out; rw [Hsucc.out] at this; unfold Wk.pc at this; rw [Hsep.out] at this; (try simp at this); (try simp); omega
          rintro e w4 ⟨rfl, hI4, hb4, ho4⟩
          have HI4 := Lib.hid hI4
          have hw4 := Lib.hid (hw3.out.trans hb4)
          have B4 := blk_others HB3.out hqb (by decide) ho4
          have d0 := B4.cell (j := 0) rfl
          have d1 := B4.cell (j := 1) rfl
          have d2 := B4.cell (j := 2) rfl
          have d3 := B4.cell (j := 3) rfl
          have HB4 := Lib.hid B4
          have hlt4 := bld_lt HI4.out
          have hwx4 := Lib.hid (Hbw.out.trans (hw4.out.mono hws))
          clear hI4 hb4 ho4 B4
          by_cases hk7 : kk = 7
          · subst hk7
            have hg7 : g.kind = 7 := by have := Hkk.out; omega
            rcases Nat.lt_or_ge (i + 1) n with hi2 | hi2
            · have hil : (((i : Int) + 1) == (n : Int)) = false := by rw [beq_eq_false_iff_ne]; omega
              obtain ⟨h, hh⟩ : ∃ h, gs[i + 1]? = some h := ⟨_, List.getElem?_eq_getElem (by rw [← Hn.out]; exact hi2)⟩
              have hha : (gs.map Wk.toA)[i + 1]? = some (Wk.toA h) := by rw [List.getElem?_map, hh]; rfl
              obtain ⟨g1', o1', lv', zv', e', _, _, _, q3', z0, z1, _, _⟩ := gs_at Hr.out Hg.out (i + 1) _ hha
              cases e'
              obtain ⟨hlv, hhl⟩ : ∃ hlv : Nat, hlv = h.level := ⟨_, rfl⟩
              have z1' : w.cell? ⟨g1, o1 + (i + 1) * 4 + 1, none⟩ = some (.int .i64 (hlv : Int)) := z1.trans (by rw [hhl]; rfl)
              have e1 : w4.cell? ⟨g1, o1 + (i + 1) * 4 + 1, none⟩ = _ := keepc hwx4.out q3 z1'
              clear z0 z1 z1' hha
              by_cases hle : hlv ≤ lev
              · have Htd : Hid (Wk.told g (gs.drop (i + 1)) = true) := by unfold Hid; rw [Htold.out, hh]; simp; right; rw [← hhl, ← Hlev.out]; exact hle
                clear hh hhl
                go_wp2_with fail
                go_quiet (fail)
                go_wp2_with fail
                refine (Hbody.out _ (hwx4.out.trans (below_drewN _ _ _)) Htd.out).mono ?_
                rintro e w5 ⟨rfl, hb5⟩
                have HI5 := Lib.hid (bld_call (bld_call HI4.out (below_drewN _ _ _)) hb5)
                have hw5 := Lib.hid (hD hw4.out hb5)
                clear hb5
                go_wp2_with fail
                refine (writeK_any w1.heap.size (Wk.wr gs i ++ [40] ++ (Wk.nm g.kind ++ [32])) (Wk.bodyT g) ⟨(Wk.bodyT g).toArray⟩ w5 HI5.out (by simp) ?len7).mono ?_
                case len7 => have := Hwle.out; rw [Hsucc.out] at this; unfold Wk.pc at this; rw [Hsep.out, if_pos Htd.out] at this; (try simp at this); (try simp); omega
                rintro e w6 ⟨rfl, hI6, hb6, ho6⟩
                have HI6 : Hid (IsB w1.heap.size (Wk.wr gs (i + 1)) w6) := by unfold Hid; rw [Hsucc.out]; unfold Wk.pc; rw [Hsep.out, if_pos Htd.out]; simp only [List.append_assoc, List.cons_append, List.nil_append] at hI6 ⊢; exact hI6
                have hw6 := Lib.hid (hw5.out.trans hb6)
                clear hI6 hb6 ho6
                go_wp2_with fail
                go_roundg q
                case measure => omega
                case rel => exact ⟨i + 1, by omega, by first | rfl | simp, HI6, hw6⟩
              · have Htd : Hid (Wk.told g (gs.drop (i + 1)) = false) := by unfold Hid; rw [Htold.out, hh, hg7]; simp; rw [← hhl, ← Hlev.out]; omega
                clear hh hhl
                go_wp2_with fail
                go_quiet (fail)
                go_wp2_with fail
                have HI6 : Hid (IsB w1.heap.size (Wk.wr gs (i + 1)) w4) := by unfold Hid; rw [Hsucc.out]; unfold Wk.pc; rw [Hsep.out, if_neg (by rw [Htd.out]; simp)]; have := HI4.out; simp only [List.append_assoc, List.cons_append, List.nil_append] at this ⊢; exact this
                go_roundg q
                case measure => omega
                case rel => exact ⟨i + 1, by omega, by first | rfl | simp, bld_call HI6.out (below_drewN _ _ _), hw4.out.trans (below_drewN _ _ _)⟩
            · have hil : (((i : Int) + 1) == (n : Int)) = true := by rw [beq_iff_eq]; omega
              have hhn : gs[i + 1]? = none := List.getElem?_eq_none (by rw [← Hn.out]; omega)
              have Htd : Hid (Wk.told g (gs.drop (i + 1)) = true) := by unfold Hid; rw [Htold.out, hhn]; simp
              clear hhn
              go_wp2_with fail
              go_quiet (fail)
              go_wp2_with fail
              refine (Hbody.out _ (hwx4.out.trans (below_drewN _ _ _)) Htd.out).mono ?_
              rintro e w5 ⟨rfl, hb5⟩
              have HI5 := Lib.hid (bld_call (bld_call HI4.out (below_drewN _ _ _)) hb5)
              have hw5 := Lib.hid (hD hw4.out hb5)
              clear hb5
              go_wp2_with fail
              refine (writeK_any w1.heap.size (Wk.wr gs i ++ [40] ++ (Wk.nm g.kind ++ [32])) (Wk.bodyT g) ⟨(Wk.bodyT g).toArray⟩ w5 HI5.out (by simp) ?len8).mono ?_
              case len8 => have := Hwle.out; rw [Hsucc.out] at this; unfold Wk.pc at this; rw [Hsep.out, if_pos Htd.out] at this; (try simp at this); (try simp); omega
              rintro e w6 ⟨rfl, hI6, hb6, ho6⟩
              have HI6 : Hid (IsB w1.heap.size (Wk.wr gs (i + 1)) w6) := by unfold Hid; rw [Hsucc.out]; unfold Wk.pc; rw [Hsep.out, if_pos Htd.out]; simp only [List.append_assoc, List.cons_append, List.nil_append] at hI6 ⊢; exact hI6
              have hw6 := Lib.hid (hw5.out.trans hb6)
              clear hI6 hb6 ho6
              go_wp2_with fail
              go_roundg q
              case measure => omega
              case rel => exact ⟨i + 1, by omega, by first | rfl | simp, HI6, hw6⟩
          · have e7 : (kk == 7) = false := by rw [beq_eq_false_iff_ne]; exact hk7
            have e7' : (kk != 7) = true := by rw [bne, e7]; rfl
            have Htd : Hid (Wk.told g (gs.drop (i + 1)) = true) := by unfold Hid; rw [Htold.out]; have := Hkk.out; have h7 : g.kind ≠ 7 := by omega
                                                                      simp [h7]
            go_wp2_with fail
            go_quiet (fail)
            go_wp2_with fail
            refine (Hbody.out _ (hwx4.out.trans (below_drewN _ _ _)) Htd.out).mono ?_
            rintro e w5 ⟨rfl, hb5⟩
            have HI5 := Lib.hid (bld_call (bld_call HI4.out (below_drewN _ _ _)) hb5)
            have hw5 := Lib.hid (hD hw4.out hb5)
            clear hb5
            go_wp2_with fail
            refine (writeK_any w1.heap.size (Wk.wr gs i ++ [40] ++ (Wk.nm g.kind ++ [32])) (Wk.bodyT g) ⟨(Wk.bodyT g).toArray⟩ w5 HI5.out (by simp) ?len9).mono ?_
            case len9 => have := Hwle.out; rw [Hsucc.out] at this; unfold Wk.pc at this; rw [Hsep.out, if_pos Htd.out] at this; (try simp at this); (try simp); omega
            rintro e w6 ⟨rfl, hI6, hb6, ho6⟩
            have HI6 : Hid (IsB w1.heap.size (Wk.wr gs (i + 1)) w6) := by unfold Hid; rw [Hsucc.out]; unfold Wk.pc; rw [Hsep.out, if_pos Htd.out]; simp only [List.append_assoc, List.cons_append, List.nil_append] at hI6 ⊢; exact hI6
            have hw6 := Lib.hid (hw5.out.trans hb6)
            clear hI6 hb6 ho6
            go_wp2_with fail
            go_roundg q
            case measure => omega
            case rel => exact ⟨i + 1, by omega, by first | rfl | simp, HI6, hw6⟩
        · have Hsep : Hid (Wk.sep (if i = 0 then .none else (gs[i - 1]?).map Wk.Geo.level) g.level = List.replicate (pl - lev) 41 ++ [44, 32]) := by unfold Hid; rw [Hsp.out, if_neg hgt]
          have hpm : ((pl : Int) - (lev : Int)) = ((pl - lev : Nat) : Int) := by omega
          have hgt' : ¬ ((pl : Int) < (lev : Int)) := by omega
          go_wp2_with fail
          refine (repeat_any (pl - lev) Wb (by omega)).mono ?_
          rintro e w0 ⟨rfl, hb0⟩
          have HI0 := Lib.hid (bld_call HIb.out hb0)
          have hw0 := Lib.hid (HBw.out.trans (hb0.mono HBw.out.size))
          have HBz := Lib.hid (HB0.out.call hb0)
          clear hb0
          go_wp2_with fail
          refine (writeK_any w1.heap.size (Wk.wr gs i) (List.replicate (pl - lev) 41 ++ [44, 32]) ((⟨(List.replicate (pl - lev) 41).toArray⟩ : ByteArray) ++ (⟨#[44, 32]⟩ : ByteArray)) w0 HI0.out (by simp) ?len10).mono ?_
          case len10 => have := Hwle.out; rw [Hsucc.out] at this; unfold Wk.pc at this; rw [Hsep.out] at this; (try simp at this); (try simp); omega
          rintro e w2 ⟨rfl, hI2, hb2, ho2⟩
          have HI2 := Lib.hid hI2
          have hw2 := Lib.hid (hw0.out.trans hb2)
          have B2 := blk_others HBz.out hqb (by decide) ho2
          have c0 := B2.cell (j := 0) rfl
          have HB2 := Lib.hid B2
          clear hI2 hb2 ho2 B2
          go_wp2_with fail
          refine (name_any kk w2).mono ?_
          rintro e w3 ⟨rfl, hb3⟩
          rw [Hnm.out]
          have HI3 := Lib.hid (bld_call HI2.out hb3)
          have hw3 := Lib.hid (hw2.out.trans (hb3.mono hw2.out.size))
          have HB3 := Lib.hid (HB2.out.call hb3)
          clear hb3
          go_wp2_with fail
          refine (writeK_any w1.heap.size (Wk.wr gs i ++ (List.replicate (pl - lev) 41 ++ [44, 32])) (Wk.nm g.kind ++ [32]) ((⟨(Wk.nm g.kind).toArray⟩ : ByteArray) ++ (⟨#[32]⟩ : ByteArray)) w3 HI3.out (by simp) ?len11).mono ?_
          case len11 => have := Hwle.out; rw [Hsucc.out] at this; unfold Wk.pc at this; rw [Hsep.out] at this; (try simp at this); (try simp); omega
          rintro e w4 ⟨rfl, hI4, hb4, ho4⟩
          have HI4 := Lib.hid hI4
          have hw4 := Lib.hid (hw3.out.trans hb4)
          have B4 := blk_others HB3.out hqb (by decide) ho4
          have d0 := B4.cell (j := 0) rfl
          have d1 := B4.cell (j := 1) rfl
          have d2 := B4.cell (j := 2) rfl
          have d3 := B4.cell (j := 3) rfl
          have HB4 := Lib.hid B4
          have hlt4 := bld_lt HI4.out
          have hwx4 := Lib.hid (Hbw.out.trans (hw4.out.mono hws))
          clear hI4 hb4 ho4 B4
          by_cases hk7 : kk = 7
          · subst hk7
            have hg7 : g.kind = 7 := by have := Hkk.out; omega
            rcases Nat.lt_or_ge (i + 1) n with hi2 | hi2
            · have hil : (((i : Int) + 1) == (n : Int)) = false := by rw [beq_eq_false_iff_ne]; omega
              obtain ⟨h, hh⟩ : ∃ h, gs[i + 1]? = some h := ⟨_, List.getElem?_eq_getElem (by rw [← Hn.out]; exact hi2)⟩
              have hha : (gs.map Wk.toA)[i + 1]? = some (Wk.toA h) := by rw [List.getElem?_map, hh]; rfl
              obtain ⟨g1', o1', lv', zv', e', _, _, _, q3', z0, z1, _, _⟩ := gs_at Hr.out Hg.out (i + 1) _ hha
              cases e'
              obtain ⟨hlv, hhl⟩ : ∃ hlv : Nat, hlv = h.level := ⟨_, rfl⟩
              have z1' : w.cell? ⟨g1, o1 + (i + 1) * 4 + 1, none⟩ = some (.int .i64 (hlv : Int)) := z1.trans (by rw [hhl]; rfl)
              have e1 : w4.cell? ⟨g1, o1 + (i + 1) * 4 + 1, none⟩ = _ := keepc hwx4.out q3 z1'
              clear z0 z1 z1' hha
              by_cases hle : hlv ≤ lev
              · have Htd : Hid (Wk.told g (gs.drop (i + 1)) = true) := by unfold Hid; rw [Htold.out, hh]; simp; right; rw [← hhl, ← Hlev.out]; exact hle
                clear hh hhl
                go_wp2_with fail
                go_quiet (fail)
                go_wp2_with fail
                refine (Hbody.out _ (hwx4.out.trans (below_drewN _ _ _)) Htd.out).mono ?_
                rintro e w5 ⟨rfl, hb5⟩
                have HI5 := Lib.hid (bld_call (bld_call HI4.out (below_drewN _ _ _)) hb5)
                have hw5 := Lib.hid (hD hw4.out hb5)
                clear hb5
                go_wp2_with fail
                refine (writeK_any w1.heap.size (Wk.wr gs i ++ (List.replicate (pl - lev) 41 ++ [44, 32]) ++ (Wk.nm g.kind ++ [32])) (Wk.bodyT g) ⟨(Wk.bodyT g).toArray⟩ w5 HI5.out (by simp) ?len12).mono ?_
                case len12 => have := Hwle.out; rw [Hsucc.out] at this; unfold Wk.pc at this; rw [Hsep.out, if_pos Htd.out] at this; (try simp at this); (try simp); omega
                rintro e w6 ⟨rfl, hI6, hb6, ho6⟩
                have HI6 : Hid (IsB w1.heap.size (Wk.wr gs (i + 1)) w6) := by unfold Hid; rw [Hsucc.out]; unfold Wk.pc; rw [Hsep.out, if_pos Htd.out]; simp only [List.append_assoc, List.cons_append, List.nil_append] at hI6 ⊢; exact hI6
                have hw6 := Lib.hid (hw5.out.trans hb6)
                clear hI6 hb6 ho6
                go_wp2_with fail
                go_roundg q
                case measure => omega
                case rel => exact ⟨i + 1, by omega, by first | rfl | simp, HI6, hw6⟩
              · have Htd : Hid (Wk.told g (gs.drop (i + 1)) = false) := by unfold Hid; rw [Htold.out, hh, hg7]; simp; rw [← hhl, ← Hlev.out]; omega
                clear hh hhl
                go_wp2_with fail
                go_quiet (fail)
                go_wp2_with fail
                have HI6 : Hid (IsB w1.heap.size (Wk.wr gs (i + 1)) w4) := by unfold Hid; rw [Hsucc.out]; unfold Wk.pc; rw [Hsep.out, if_neg (by rw [Htd.out]; simp)]; have := HI4.out; simp only [List.append_assoc, List.cons_append, List.nil_append] at this ⊢; exact this
                go_roundg q
                case measure => omega
                case rel => exact ⟨i + 1, by omega, by first | rfl | simp, bld_call HI6.out (below_drewN _ _ _), hw4.out.trans (below_drewN _ _ _)⟩
            · have hil : (((i : Int) + 1) == (n : Int)) = true := by rw [beq_iff_eq]; omega
              have hhn : gs[i + 1]? = none := List.getElem?_eq_none (by rw [← Hn.out]; omega)
              have Htd : Hid (Wk.told g (gs.drop (i + 1)) = true) := by unfold Hid; rw [Htold.out, hhn]; simp
              clear hhn
              go_wp2_with fail
              go_quiet (fail)
              go_wp2_with fail
              refine (Hbody.out _ (hwx4.out.trans (below_drewN _ _ _)) Htd.out).mono ?_
              rintro e w5 ⟨rfl, hb5⟩
              have HI5 := Lib.hid (bld_call (bld_call HI4.out (below_drewN _ _ _)) hb5)
              have hw5 := Lib.hid (hD hw4.out hb5)
              clear hb5
              go_wp2_with fail
              refine (writeK_any w1.heap.size (Wk.wr gs i ++ (List.replicate (pl - lev) 41 ++ [44, 32]) ++ (Wk.nm g.kind ++ [32])) (Wk.bodyT g) ⟨(Wk.bodyT g).toArray⟩ w5 HI5.out (by simp) ?len13).mono ?_
              case len13 => have := Hwle.out; rw [Hsucc.out] at this; unfold Wk.pc at this; rw [Hsep.out, if_pos Htd.out] at this; (try simp at this); (try simp); omega
              rintro e w6 ⟨rfl, hI6, hb6, ho6⟩
              have HI6 : Hid (IsB w1.heap.size (Wk.wr gs (i + 1)) w6) := by unfold Hid; rw [Hsucc.out]; unfold Wk.pc; rw [Hsep.out, if_pos Htd.out]; simp only [List.append_assoc, List.cons_append, List.nil_append] at hI6 ⊢; exact hI6
              have hw6 := Lib.hid (hw5.out.trans hb6)
              clear hI6 hb6 ho6
              go_wp2_with fail
              go_roundg q
              case measure => omega
              case rel => exact ⟨i + 1, by omega, by first | rfl | simp, HI6, hw6⟩
          · have e7 : (kk == 7) = false := by rw [beq_eq_false_iff_ne]; exact hk7
            have e7' : (kk != 7) = true := by rw [bne, e7]; rfl
            have Htd : Hid (Wk.told g (gs.drop (i + 1)) = true) := by unfold Hid; rw [Htold.out]; have := Hkk.out; have h7 : g.kind ≠ 7 := by omega
                                                                      simp [h7]
            go_wp2_with fail
            go_quiet (fail)
            go_wp2_with fail
            refine (Hbody.out _ (hwx4.out.trans (below_drewN _ _ _)) Htd.out).mono ?_
            rintro e w5 ⟨rfl, hb5⟩
            have HI5 := Lib.hid (bld_call (bld_call HI4.out (below_drewN _ _ _)) hb5)
            have hw5 := Lib.hid (hD hw4.out hb5)
            clear hb5
            go_wp2_with fail
            refine (writeK_any w1.heap.size (Wk.wr gs i ++ (List.replicate (pl - lev) 41 ++ [44, 32]) ++ (Wk.nm g.kind ++ [32])) (Wk.bodyT g) ⟨(Wk.bodyT g).toArray⟩ w5 HI5.out (by simp) ?len14).mono ?_
            case len14 => have := Hwle.out; rw [Hsucc.out] at this; unfold Wk.pc at this; rw [Hsep.out, if_pos Htd.out] at this; (try simp at this); (try simp); omega
            rintro e w6 ⟨rfl, hI6, hb6, ho6⟩
            have HI6 : Hid (IsB w1.heap.size (Wk.wr gs (i + 1)) w6) := by unfold Hid; rw [Hsucc.out]; unfold Wk.pc; rw [Hsep.out, if_pos Htd.out]; simp only [List.append_assoc, List.cons_append, List.nil_append] at hI6 ⊢; exact hI6
            have hw6 := Lib.hid (hw5.out.trans hb6)
            clear hI6 hb6 ho6
            go_wp2_with fail
            go_roundg q
            case measure => omega
            case rel => exact ⟨i + 1, by omega, by first | rfl | simp, HI6, hw6⟩
end Go.Proofs.Ytegkdkilbnighaa

set_option linter.unusedVariables false
set_option linter.unusedSimpArgs false
namespace Go.Proofs.Ytegkdkilbnighaa
open Go.RowKit Go.Rg
attribute [local go_sem] Oper.semAt_some

theorem RdC.blk {W : World} {b n c : Nat} {cs : List Value} {T : TypeId} (h : Blk W b cs T) (hn : n ≤ c) (hc : c ≤ maxLen) : RdC W (.slice (some ⟨b, 0, none⟩) n c) n cs :=
  ⟨_, _, rfl, by omega, fun _ => ⟨b, 0, rfl, hn, hc, (Array.getElem?_eq_some_iff.1 h).1, fun j x hj => by rw [Nat.zero_add]; exact h.cell hj⟩⟩
theorem RdC.nil (W : World) : RdC W (.slice none 0 0) 0 [] := ⟨none, 0, rfl, Nat.zero_le _, fun h => absurd rfl h⟩
theorem GsC.one {W : World} {g : GA} {lv zv : Value} (h : BdA W lv zv g) : GsC W [.int .i64 g.kind, .int .i64 g.level, lv, zv] [g] := fun i x hx => by
  cases i with
  | zero => cases hx; exact ⟨lv, zv, rfl, rfl, rfl, rfl, h⟩
  | succ i => simp at hx
theorem GsC.cons {W : World} {g : GA} {lv zv : Value} {cs : List Value} {l : List GA} (h : BdA W lv zv g) (hl : GsC W cs l) : GsC W (.int .i64 g.kind :: .int .i64 g.level :: lv :: zv :: cs) (g :: l) := fun i x hx => by
  cases i with
  | zero => cases hx; exact ⟨lv, zv, rfl, rfl, rfl, rfl, h⟩
  | succ i =>
    obtain ⟨lv', zv', q1, q2, q3, q4, q5⟩ := hl i x hx
    have e : (i + 1) * 4 = i * 4 + 1 + 1 + 1 + 1 := by omega
    rw [e]
    exact ⟨lv', zv', q1, q2, q3, q4, q5⟩
theorem GsC.nil (W : World) : GsC W [] [] := fun i x hx => by cases hx

set_option maxRecDepth 100000 in
set_option maxHeartbeats 4000000 in
theorem flat_right (g : GA) (og : Wk.Geo) (lv zv : Value) (w : World) (h : BdA w lv zv g) (hf : Wk.FitA g) (he : (⟨g.kind, 0, g.lists, g.sizes⟩ : GA) = Wk.toA og) (hR : Wk.RightG [og]) (hlen : (Wk.write [og]).length ≤ 1000000000) :
    Calls Try.prog 18 #[gaV g lv zv] w fun e w' => e = .returned (str (Wk.write [og])) ∧ Below w.heap.size w w' := by
  obtain ⟨kk, lev, ls, ss⟩ := g
  have HB := Lib.hid h
  obtain ⟨vs, hvl, hl, hvs, hzs⟩ := h
  obtain ⟨la, lc, rfl, _⟩ := hl.form
  obtain ⟨za, zc, rfl, _⟩ := hzs.form
  obtain ⟨n, hnn⟩ : ∃ n, n = ls.length := ⟨_, rfl⟩
  obtain ⟨nz, hnz⟩ : ∃ nz, nz = ss.length := ⟨_, rfl⟩
  unfold gaV
  simp only at HB hf ⊢
  rw [← hnn, ← hnz] at HB ⊢
  obtain ⟨W0, hW0⟩ : ∃ W0, [.cells #[.int .i64 kk, .int .i64 0, .slice la n lc, .slice za nz zc] 40, .cells #[.int .i64 kk, .int .i64 0, .slice la n lc, .slice za nz zc] 40].foldl World.alloc w = W0 := ⟨_, rfl⟩
  have B1 : Blk W0 (w.heap.size + 1) [.int .i64 kk, .int .i64 0, .slice la n lc, .slice za nz zc] 40 := Blk.allocs _ hW0 1 rfl
  have hBel : Below w.heap.size w W0 := hW0 ▸ allocs_below _ w
  have hB0 : BdA W0 (.slice la n lc) (.slice za nz zc) ⟨kk, 0, ls, ss⟩ := BdA.call HB.out hBel
  simp only [List.foldl_cons, List.foldl_nil] at hW0
  have hG : GsC W0 [.int .i64 kk, .int .i64 0, .slice la n lc, .slice za nz zc] [⟨kk, 0, ls, ss⟩] := GsC.one hB0
  have hfit : ∀ x ∈ [og].map Wk.toA, Wk.FitA x := fun x hx => by
    rw [List.map_cons, List.map_nil, List.mem_singleton] at hx; subst hx; rw [← he]; exact hf
  have H := Lib.hid (write_any [og] (.slice (some ⟨w.heap.size + 1, 0, none⟩) 1 1) _ W0 hR (RdC.blk B1 (Nat.le_refl _) (by decide)) (by rw [List.map_cons, List.map_nil, ← he]; exact hG) hfit hlen)
  have HBel := Lib.hid hBel
  clear hB0 hBel hG B1 HB hl hvs hzs hvl hnn hnz hf he hR hlen hfit
  go_enter Try.func18, Try.ntmps18
  go_wp2_with fail
  (try simp only [hW0])
  refine H.out.mono ?_
  rintro e w1 ⟨rfl, hb⟩
  have hw := Lib.hid (HBel.out.trans (hb.mono HBel.out.size))
  clear hb
  go_wp2_with fail
  go_ret
  exact ⟨rfl, hw.out⟩

def aw0 : List Wk.Geo := [⟨7, 0, [], []⟩, ⟨1, 1, [[([49], [50])]], []⟩, ⟨2, 1, [], []⟩]
theorem aw_one : Wk.OneG ⟨7, 0, [], []⟩ ∧ Wk.OneG ⟨1, 1, [[([49], [50])]], []⟩ ∧ Wk.OneG ⟨2, 1, [], []⟩ ∧ Wk.OneG ⟨1, 0, [[([49], [50])]], []⟩ := by
  refine ⟨⟨by decide, by decide, by simp, by simp, by simp, by simp, by simp, by simp, by simp⟩, ⟨by decide, by decide, ?_, ?_, by simp, by simp, by simp, by simp, by simp⟩, ⟨by decide, by decide, by simp, by simp, by simp, by simp, by simp, by simp, by simp⟩, ⟨by decide, by decide, ?_, ?_, by simp, by simp, by simp, by simp, by simp⟩⟩
  · intro l hl p hp
    simp only [List.mem_singleton] at hl; subst hl
    simp only [List.mem_singleton] at hp; subst hp
    exact ⟨by decide +kernel, by decide +kernel⟩
  · intro _; exact .inr ⟨_, rfl⟩
  · intro l hl p hp
    simp only [List.mem_singleton] at hl; subst hl
    simp only [List.mem_singleton] at hp; subst hp
    exact ⟨by decide +kernel, by decide +kernel⟩
  · intro _; exact .inr ⟨_, rfl⟩
theorem aw_right : Wk.RightG aw0 := by
  refine ⟨fun g hg => ?_, ?_, ?_⟩
  · unfold aw0 at hg
    simp only [List.mem_cons, List.not_mem_nil, or_false] at hg
    rcases hg with rfl | rfl | rfl
    · exact aw_one.1
    · exact aw_one.2.1
    · exact aw_one.2.2.1
  · exact ⟨by decide, by decide, trivial⟩
  · exact ⟨rfl, by simp⟩
def awP : Wk.Geo := ⟨1, 0, [[([49], [50])]], []⟩
theorem awP_right : Wk.RightG [awP] := ⟨fun g hg => by rw [List.mem_singleton] at hg; subst hg; exact aw_one.2.2.2, trivial, rfl, by simp⟩
def awText : Lx.Str := [71, 69, 79, 77, 69, 84, 82, 89, 67, 79, 76, 76, 69, 67, 84, 73, 79, 78, 32, 40, 80, 79, 73, 78, 84, 32, 40, 49, 32, 50, 41, 44, 32, 76, 73, 78, 69, 83, 84, 82, 73, 78, 71, 32, 69, 77, 80, 84, 89, 41]
theorem aw_write : Wk.write aw0 = awText := by decide +kernel
theorem awP_write : Wk.write [awP] = [80, 79, 73, 78, 84, 32, 40, 49, 32, 50, 41] := by decide +kernel
theorem aw_not : ¬ Wk.RightA [⟨1, 1, [[([49], [50])]], []⟩, ⟨2, 1, [], []⟩] := fun h => by
  have := h.2 0 (by simp)
  unfold Wk.okAt Wk.okA Wk.prevA Wk.levA at this
  simp at this

set_option maxRecDepth 100000 in
set_option maxHeartbeats 8000000 in
theorem awake12_any (w : World) : Calls Try.prog 8 #[] w fun e w' => e = .returned (.bool true) ∧ Below w.heap.size w w' := by
  obtain ⟨W0, hW0⟩ : ∃ W0, [.cells #[.string ⟨#[49]⟩, .string ⟨#[50]⟩] 47, .cells #[.slice (some ⟨w.heap.size, 0, none⟩) 1 1] 48, .cells #[.int .i64 7, .int .i64 0, .slice none 0 0, .slice none 0 0, .int .i64 1, .int .i64 1, .slice (some ⟨w.heap.size + 1, 0, none⟩) 1 1, .slice none 0 0, .int .i64 2, .int .i64 1, .slice none 0 0, .slice none 0 0] 40].foldl World.alloc w = W0 := ⟨_, rfl⟩
  have B0 : Blk W0 w.heap.size [.string ⟨#[49]⟩, .string ⟨#[50]⟩] 47 := Blk.allocs _ hW0 0 rfl
  have B1 : Blk W0 (w.heap.size + 1) [.slice (some ⟨w.heap.size, 0, none⟩) 1 1] 48 := Blk.allocs _ hW0 1 rfl
  have B2 : Blk W0 (w.heap.size + 2) [.int .i64 7, .int .i64 0, .slice none 0 0, .slice none 0 0, .int .i64 1, .int .i64 1, .slice (some ⟨w.heap.size + 1, 0, none⟩) 1 1, .slice none 0 0, .int .i64 2, .int .i64 1, .slice none 0 0, .slice none 0 0] 40 := Blk.allocs _ hW0 2 rfl
  have hBel : Below w.heap.size w W0 := hW0 ▸ allocs_below _ w
  have hz0 : w.heap.size + 3 ≤ W0.heap.size := Nat.le_of_eq (hW0 ▸ allocs_size _ w).symm
  simp only [List.foldl_cons, List.foldl_nil] at hW0
  have hb1 : ∀ k l : Int, BdA W0 (.slice none 0 0) (.slice none 0 0) ⟨k, l, [], []⟩ := fun k l => ⟨[], rfl, RdC.nil _, (fun i x hx => by cases hx), RdC.nil _⟩
  have hb2 : ∀ k l : Int, BdA W0 (.slice (some ⟨w.heap.size + 1, 0, none⟩) 1 1) (.slice none 0 0) ⟨k, l, [[([49], [50])]], []⟩ := fun k l => ⟨[.slice (some ⟨w.heap.size, 0, none⟩) 1 1], rfl, RdC.blk B1 (Nat.le_refl _) (by decide), (fun i x hx => by
    cases i with
    | zero => cases hx; exact ⟨_, rfl, RdC.blk B0 (Nat.le_refl _) (by decide)⟩
    | succ i => simp at hx), RdC.nil _⟩
  have hG1 : GsC W0 [.int .i64 1, .int .i64 1, .slice (some ⟨w.heap.size + 1, 0, none⟩) 1 1, .slice none 0 0, .int .i64 2, .int .i64 1, .slice none 0 0, .slice none 0 0] [⟨1, 1, [[([49], [50])]], []⟩, ⟨2, 1, [], []⟩] := GsC.cons (hb2 1 1) (GsC.one (hb1 2 1))
  have hG : GsC W0 [.int .i64 7, .int .i64 0, .slice none 0 0, .slice none 0 0, .int .i64 1, .int .i64 1, .slice (some ⟨w.heap.size + 1, 0, none⟩) 1 1, .slice none 0 0, .int .i64 2, .int .i64 1, .slice none 0 0, .slice none 0 0] (aw0.map Wk.toA) := GsC.cons (hb1 7 0) hG1
  have hfit : ∀ x ∈ aw0.map Wk.toA, Wk.FitA x := fun x hx => by
    obtain ⟨g, hg, rfl⟩ := List.mem_map.1 hx
    exact Wk.fitA_of g 100 (Nat.le_trans (Wk.mG_le aw0 g hg) (by decide)) (by decide)
  have hR0 : RdC W0 (.slice (some ⟨w.heap.size + 2, 0, none⟩) 3 3) 3 [.int .i64 7, .int .i64 0, .slice none 0 0, .slice none 0 0, .int .i64 1, .int .i64 1, .slice (some ⟨w.heap.size + 1, 0, none⟩) 1 1, .slice none 0 0, .int .i64 2, .int .i64 1, .slice none 0 0, .slice none 0 0] := RdC.blk B2 (Nat.le_refl _) (by decide)
  have hR1 : RdC W0 (.slice (some ⟨w.heap.size + 2, 4, none⟩) 2 2) 2 [.int .i64 1, .int .i64 1, .slice (some ⟨w.heap.size + 1, 0, none⟩) 1 1, .slice none 0 0, .int .i64 2, .int .i64 1, .slice none 0 0, .slice none 0 0] :=
    ⟨_, _, rfl, by decide, fun _ => ⟨w.heap.size + 2, 4, rfl, Nat.le_refl _, by decide, by omega, fun j x hj => B2.cell (j := 4 + j) (by rw [Nat.add_comm 4 j]; exact hj)⟩⟩
  have HW : Hid (∀ X, Below W0.heap.size W0 X → Calls Try.prog 11 #[.slice (some ⟨w.heap.size + 2, 0, none⟩) 3 3] X fun e X' => e = .returned (.tuple #[str awText, .int .i64 0]) ∧ Below X.heap.size X X') := fun X hX => by
    have := write_any aw0 _ _ X aw_right (hR0.call hX) (hG.call hX) hfit (by rw [aw_write]; decide)
    rw [aw_write] at this; exact this
  have HA : Hid (∀ X, Below W0.heap.size W0 X → Calls Try.prog 13 #[.slice (some ⟨w.heap.size + 2, 0, none⟩) 3 3] X fun e X' => e = .returned (.bool true) ∧ Below X.heap.size X X') := fun X hX =>
    (rightA_any _ _ (aw0.map Wk.toA) X (hR0.call hX) (hG.call hX) hfit).mono fun e X' ⟨b, he, hb, hx⟩ => by
      have : b = true := hb.out.2 (Wk.right_toA _ aw_right)
      subst this; exact ⟨he, hx⟩
  have HN : Hid (∀ X, Below W0.heap.size W0 X → Calls Try.prog 13 #[.slice (some ⟨w.heap.size + 2, 4, none⟩) 2 2] X fun e X' => e = .returned (.bool false) ∧ Below X.heap.size X X') := fun X hX =>
    (rightA_any _ _ [⟨1, 1, [[([49], [50])]], []⟩, ⟨2, 1, [], []⟩] X (hR1.call hX) (hG1.call hX) (fun x hx => hfit x (List.mem_cons_of_mem _ hx))).mono fun e X' ⟨b, he, hb, hx⟩ => by
      cases b with
      | false => exact ⟨he, hx⟩
      | true => exact absurd (hb.out.1 rfl) aw_not
  have HF : Hid (∀ X, Below W0.heap.size W0 X → Calls Try.prog 18 #[.agg #[.int .i64 1, .int .i64 1, .slice (some ⟨w.heap.size + 1, 0, none⟩) 1 1, .slice none 0 0]] X fun e X' => e = .returned (.string ⟨#[80, 79, 73, 78, 84, 32, 40, 49, 32, 50, 41]⟩) ∧ Below X.heap.size X X') := fun X hX => by
    have := flat_right ⟨1, 1, [[([49], [50])]], []⟩ awP _ _ X ((hb2 1 1).call hX) (hfit _ (List.mem_cons_of_mem _ (List.mem_cons_self ..))) rfl awP_right (by rw [awP_write]; decide)
    rw [awP_write] at this; exact this
  have HB2 := Lib.hid B2
  have HBel := Lib.hid hBel
  clear B0 B1 B2 hBel hG hG1 hR0 hR1 hb1 hb2 hfit
  go_enter Try.func8, Try.ntmps8
  go_wp2_with fail
  (try simp only [hW0])
  refine (HW.out W0 (Below.refl _ _)).mono ?_
  rintro e w1 ⟨rfl, hb1⟩
  have hw1 := Lib.hid hb1
  clear hb1
  have et : (awText : Lx.Str) = [71, 69, 79, 77, 69, 84, 82, 89, 67, 79, 76, 76, 69, 67, 84, 73, 79, 78, 32, 40, 80, 79, 73, 78, 84, 32, 40, 49, 32, 50, 41, 44, 32, 76, 73, 78, 69, 83, 84, 82, 73, 78, 71, 32, 69, 77, 80, 84, 89, 41] := rfl
  rw [et]
  clear et
  go_wp2_with fail
  refine (HA.out w1 hw1.out).mono ?_
  rintro e w2 ⟨rfl, hb2⟩
  have hw2 := Lib.hid (hw1.out.trans (hb2.mono hw1.out.size))
  clear hb2
  go_wp2_with fail
  refine (HN.out w2 hw2.out).mono ?_
  rintro e w3 ⟨rfl, hb3⟩
  have hw3 := Lib.hid (hw2.out.trans (hb3.mono hw2.out.size))
  have B3 := HB2.out.call hw3.out
  have d4 := B3.cell (j := 4) rfl
  have d5 := B3.cell (j := 5) rfl
  have d6 := B3.cell (j := 6) rfl
  have d7 := B3.cell (j := 7) rfl
  clear hb3 B3
  go_wp2_with fail
  refine (HF.out w3 hw3.out).mono ?_
  rintro e w4 ⟨rfl, hb4⟩
  have hw4 := Lib.hid (hw3.out.trans (hb4.mono hw3.out.size))
  clear hb4
  go_wp2_with fail
  go_ret
  exact ⟨rfl, HBel.out.trans (hw4.out.mono HBel.out.size)⟩
end Go.Proofs.Ytegkdkilbnighaa
