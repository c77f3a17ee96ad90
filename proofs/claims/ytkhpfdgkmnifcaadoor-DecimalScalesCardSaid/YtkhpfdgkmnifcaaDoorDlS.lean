/- gromalaw10.DecimalScales, walked. Printed by wip/gends.py. -/
import Derived.Test.YtkhpfdgkmnifcaaDoorDcAw
import Derived.Test.YtkhpfdgkmnifcaaDoorRefR
import Derived.Test.YtkhpfdgkmnifcaaDoorNum
import Derived.Test.YtkhpfdgkmnifcaaDoorDlP
import Derived.Test.YtkhpfdgkmnifcaaDoorTkG
import Derived.Test.YtkhpfdgkmnifcaaDoorDlSP
import Derived.Test.YtkhpfdgkmnifcaaDoorDlSN
import Derived.DataShut
set_option linter.unusedVariables false
set_option linter.unusedSimpArgs false
namespace Go.Proofs.YtkhpfdgkmnifcaaDoor
open Go.RowKit Go.Rg Go.Lib Bg
attribute [local go_sem] Oper.semAt_some

set_option maxRecDepth 100000 in
set_option maxHeartbeats 8000000 in
theorem lawScalesW (s : ByteArray) (hsm : s.size ≤ maxLen) (fine : Int) (w : World) (ht : Tabs w) (hf1 : -9223372036854775808 ≤ fine) (hf2 : fine ≤ 9223372036854775807) :
    Calls Tryd.prog 3 #[.string s, .int .i64 fine] w fun e w' => e = .returned (.bool true) ∧ Below w.heap.size w w' := by
  have HT := Lib.hid ht
  unfold maxLen at hsm
  by_cases hbig : s.size > 3000
  · have HB := Lib.hid (Below.refl w.heap.size w)
    clear ht
    go_enter Tryd.func3, Tryd.ntmps3
    go_wp2_with fail
    refine (awake10_any _ (HT.out.below HB.out (Nat.le_refl _))).mono ?_
    rintro e w99 ⟨rfl, h99⟩
    have HB := Lib.hid (HB.out.trans (h99.mono HB.out.size))
    clear h99
    go_wp2_with fail
    go_ret
    exact ⟨rfl, HB.out⟩
  have hs3 : s.size ≤ 3000 := by omega
  by_cases hbad : Lx.right s.data.toList = false ∨ fine < 0 ∨ fine > 9
  · have HSc := Lib.hid (Dc.scale_bad s.data.toList fine hbad)
    cases hr : Lx.right s.data.toList
    · have HR := Lib.hid hr
      clear hr hbad ht
      go_enter Tryd.func3, Tryd.ntmps3
      go_wp2_with fail
      refine (scale_any s fine w HT.out (by omega) hf1 hf2).mono ?_
      rintro e w1 ⟨he, hb1⟩
      rw [HSc.out] at he
      subst he
      have HB := Lib.hid hb1
      clear hb1
      go_wp2_with fail
      refine (rright_any s w1 (by unfold maxLen; omega)).mono ?_
      rintro e w' ⟨rfl, rfl⟩
      rw [HR.out]
      go_wp2_with fail
      refine (awake10_any _ (HT.out.below HB.out (Nat.le_refl _))).mono ?_
      rintro e w99 ⟨rfl, h99⟩
      have HB := Lib.hid (HB.out.trans (h99.mono HB.out.size))
      clear h99
      go_wp2_with fail
      go_ret
      exact ⟨rfl, HB.out⟩
    · have HR := Lib.hid hr
      have hb2 : fine < 0 ∨ fine > 9 := by
        rcases hbad with h | h
        · rw [hr] at h; cases h
        · exact h
      clear hr hbad ht
      rcases hb2 with h | h
      · go_enter Tryd.func3, Tryd.ntmps3
        go_wp2_with fail
        refine (scale_any s fine w HT.out (by omega) hf1 hf2).mono ?_
        rintro e w1 ⟨he, hb1⟩
        rw [HSc.out] at he
        subst he
        have HB := Lib.hid hb1
        clear hb1
        go_wp2_with fail
        refine (rright_any s w1 (by unfold maxLen; omega)).mono ?_
        rintro e w' ⟨rfl, rfl⟩
        rw [HR.out]
        go_wp2_with fail
        refine (awake10_any _ (HT.out.below HB.out (Nat.le_refl _))).mono ?_
        rintro e w99 ⟨rfl, h99⟩
        have HB := Lib.hid (HB.out.trans (h99.mono HB.out.size))
        clear h99
        go_wp2_with fail
        go_ret
        exact ⟨rfl, HB.out⟩
      · have h' : ¬ fine < 0 := by omega
        go_enter Tryd.func3, Tryd.ntmps3
        go_wp2_with fail
        refine (scale_any s fine w HT.out (by omega) hf1 hf2).mono ?_
        rintro e w1 ⟨he, hb1⟩
        rw [HSc.out] at he
        subst he
        have HB := Lib.hid hb1
        clear hb1
        go_wp2_with fail
        refine (rright_any s w1 (by unfold maxLen; omega)).mono ?_
        rintro e w' ⟨rfl, rfl⟩
        rw [HR.out]
        go_wp2_with fail
        refine (awake10_any _ (HT.out.below HB.out (Nat.le_refl _))).mono ?_
        rintro e w99 ⟨rfl, h99⟩
        have HB := Lib.hid (HB.out.trans (h99.mono HB.out.size))
        clear h99
        go_wp2_with fail
        go_ret
        exact ⟨rfl, HB.out⟩
  have hr : Lx.right s.data.toList = true := by
    cases hr : Lx.right s.data.toList
    · exact absurd (.inl hr) hbad
    · rfl
  have h0 : 0 ≤ fine := by
    apply Classical.byContradiction
    intro h
    exact hbad (.inr (.inl (by omega)))
  have h9 : fine ≤ 9 := by
    apply Classical.byContradiction
    intro h
    exact hbad (.inr (.inr (by omega)))
  clear hbad
  cases hpl : Dc.plainP s.data.toList
  · have HR := Lib.hid hr
    have HPP := Lib.hid hpl
    have hk := Dc.scale_kinds s.data.toList fine hr h0 h9
    obtain ⟨n, e0, hsc⟩ : ∃ n e0, Dc.scaleP s.data.toList fine = (n, e0) := ⟨_, _, rfl⟩
    rw [hsc] at hk
    simp only at hk
    have HSc := Lib.hid hsc
    have hn0 : ¬ fine < 0 := by omega
    have hn9 : ¬ fine > 9 := by omega
    clear hr hpl hsc ht
    rcases hk with rfl | ⟨rfl, rfl | rfl⟩
    · go_enter Tryd.func3, Tryd.ntmps3
      go_wp2_with fail
      refine (scale_any s fine w HT.out (by omega) hf1 hf2).mono ?_
      rintro e w1 ⟨he, hb1⟩
      rw [HSc.out] at he
      subst he
      have HB := Lib.hid hb1
      clear hb1
      go_wp2_with fail
      refine (rright_any s w1 (by unfold maxLen; omega)).mono ?_
      rintro e w' ⟨rfl, rfl⟩
      rw [HR.out]
      go_wp2_with fail
      refine (plain_any s w1 (by omega)).mono ?_
      rintro e w' ⟨rfl, rfl⟩
      rw [HPP.out]
      go_wp2_with fail
      refine (awake10_any _ (HT.out.below HB.out (Nat.le_refl _))).mono ?_
      rintro e w99 ⟨rfl, h99⟩
      have HB := Lib.hid (HB.out.trans (h99.mono HB.out.size))
      clear h99
      go_wp2_with fail
      go_ret
      exact ⟨rfl, HB.out⟩
    · go_enter Tryd.func3, Tryd.ntmps3
      go_wp2_with fail
      refine (scale_any s fine w HT.out (by omega) hf1 hf2).mono ?_
      rintro e w1 ⟨he, hb1⟩
      rw [HSc.out] at he
      subst he
      have HB := Lib.hid hb1
      clear hb1
      go_wp2_with fail
      refine (rright_any s w1 (by unfold maxLen; omega)).mono ?_
      rintro e w' ⟨rfl, rfl⟩
      rw [HR.out]
      go_wp2_with fail
      refine (plain_any s w1 (by omega)).mono ?_
      rintro e w' ⟨rfl, rfl⟩
      rw [HPP.out]
      go_wp2_with fail
      refine (awake10_any _ (HT.out.below HB.out (Nat.le_refl _))).mono ?_
      rintro e w99 ⟨rfl, h99⟩
      have HB := Lib.hid (HB.out.trans (h99.mono HB.out.size))
      clear h99
      go_wp2_with fail
      go_ret
      exact ⟨rfl, HB.out⟩
    · go_enter Tryd.func3, Tryd.ntmps3
      go_wp2_with fail
      refine (scale_any s fine w HT.out (by omega) hf1 hf2).mono ?_
      rintro e w1 ⟨he, hb1⟩
      rw [HSc.out] at he
      subst he
      have HB := Lib.hid hb1
      clear hb1
      go_wp2_with fail
      refine (rright_any s w1 (by unfold maxLen; omega)).mono ?_
      rintro e w' ⟨rfl, rfl⟩
      rw [HR.out]
      go_wp2_with fail
      refine (plain_any s w1 (by omega)).mono ?_
      rintro e w' ⟨rfl, rfl⟩
      rw [HPP.out]
      go_wp2_with fail
      refine (awake10_any _ (HT.out.below HB.out (Nat.le_refl _))).mono ?_
      rintro e w99 ⟨rfl, h99⟩
      have HB := Lib.hid (HB.out.trans (h99.mono HB.out.size))
      clear h99
      go_wp2_with fail
      go_ret
      exact ⟨rfl, HB.out⟩
  · obtain ⟨sg, a, dt, bb, ex, sp, q, hp⟩ := Dc.parts_of_right _ hr
    obtain ⟨hl60, hq2⟩ := Dc.plain_of hp hpl
    obtain ⟨f, rfl⟩ : ∃ f : Nat, fine = f := ⟨fine.toNat, by omega⟩
    have hf : f ≤ 9 := by omega
    by_cases hz0 : 0 ≤ Dc.numE bb sp q + (f : Int)
    · rcases Dc.scale_law hp (by omega) hq2 f hf _ rfl _ _ rfl rfl with ⟨n, h1, h2, h3, h4⟩ | ⟨h1, h2⟩ | ⟨h1, h2, h3⟩
      · rw [if_pos hz0, if_pos hz0] at h4
        exact scalePA s f hf w ht sg a dt bb ex sp q hp hpl _ rfl hz0 _ _ rfl rfl n h1 h2 h3 h4
      · rw [if_pos hz0, if_pos hz0] at h2
        exact scalePB s f hf w ht sg a dt bb ex sp q hp hpl _ rfl hz0 _ _ rfl rfl h1 h2
      · rw [if_pos hz0, if_pos hz0] at h2 h3
        exact scalePC s f hf w ht sg a dt bb ex sp q hp hpl _ rfl hz0 _ _ rfl rfl h1 h2 h3
    · rcases Dc.scale_law hp (by omega) hq2 f hf _ rfl _ _ rfl rfl with ⟨n, h1, h2, h3, h4⟩ | ⟨h1, h2⟩ | ⟨h1, h2, h3⟩
      · rw [if_neg hz0, if_neg hz0] at h4
        exact scaleNA s f hf w ht sg a dt bb ex sp q hp hpl _ rfl (by omega) _ _ rfl rfl n h1 h2 h3 h4
      · rw [if_neg hz0, if_neg hz0] at h2
        exact scaleNB s f hf w ht sg a dt bb ex sp q hp hpl _ rfl (by omega) _ _ rfl rfl h1 h2
      · rw [if_neg hz0, if_neg hz0] at h2 h3
        exact scaleNC s f hf w ht sg a dt bb ex sp q hp hpl _ rfl (by omega) _ _ rfl rfl h1 h2 h3
theorem lawScalesC (s : ByteArray) (hs : s.size ≤ maxLen) (fine : Int) (hf : (Lit.int .i64 fine).wf = true) (w : World) (ht : Tabs w) :
    Calls Tryd.prog 3 #[.string s, .int .i64 fine] w fun e w' => e = .returned (.bool true) ∧ Below w.heap.size w w' :=
  have h := (Lit.wf_int_iff .i64 fine).1 hf
  lawScalesW s hs fine w ht h.1 h.2
end Go.Proofs.YtkhpfdgkmnifcaaDoor
