/- decimal.Digits, walked. -/
import Derived.Test.YtkhpfdgkmnifcaaDoorDcW
import Derived.Handy
set_option linter.unusedVariables false
set_option linter.unusedSimpArgs false
namespace Go.Proofs.YtkhpfdgkmnifcaaDoor
open Go.RowKit Go.Lib

theorem upper_size (s r : ByteArray) (h : r.data.toList = Lx.upper s.data.toList) : r.size = s.size := by
  rw [Lib.size_eq, Lib.size_eq, h]; unfold Lx.upper; rw [List.length_map]
theorem empty_iff (r : ByteArray) : (r.data.toList = []) ↔ r.size = 0 := by
  rw [Lib.size_eq]; exact List.length_eq_zero_iff.symm

theorem digits_any (s : ByteArray) (w : World) (ht : Tabs w) (hs : s.size ≤ 100000) :
    Calls Tryd.prog 19 #[.string s] w fun e w' => ∃ (d : ByteArray) (p : Int) (b ok : Bool), e = .returned (.tuple #[.string d, .int .i64 p, .bool b, .bool ok]) ∧ Hid (Dc.digitsP s.data.toList = (d.data.toList, p, b, ok)) ∧ Below w.heap.size w w' := by
  have HT := Lib.hid ht
  clear ht
  go_enter Tryd.func19, Tryd.ntmps19
  go_wp2_with fail
  refine (right_any _ _ (by unfold maxLen; omega)).mono ?_
  rintro e w' ⟨rfl, rfl⟩
  cases hr : Lx.right s.data.toList
  · have Hk := Lib.hid (Dc.digits_wrong _ hr)
    clear hr
    go_wp2_with fail
    go_returns
    exact ⟨ByteArray.empty, 0, false, false, rfl, Hk, Below.refl _ _⟩
  · obtain ⟨sg, a, dt, b, ex, sp, q, hp⟩ := Dc.parts_of_right _ hr
    have HP := Lib.hid hp
    clear hp hr
    go_wp2_with fail
    refine (hasPrefix_any _ _ _).mono ?_
    rintro e w' ⟨rfl, rfl⟩
    have HB : Hid (Lib.hasPrefix s.data.toList [45] = (sg == [45])) := by
      unfold Hid; rw [HP.out.eq]; exact Dc.minus_head sg _ HP.out.hsg HP.out.head
    have HB2 : Lib.hasPrefix s.data.toList (⟨#[45]⟩ : ByteArray).data.toList = (sg == [45]) := HB.out
    rw [HB2]
    clear HB HB2
    generalize hbl : (sg == [45]) = below
    have Hbl := Lib.hid hbl
    clear hbl
    go_wp2_with fail
    refine (trimSign_any _ _).mono ?_
    rintro e w1 ⟨r1, rfl, H1, h1, hb1⟩
    go_wp2_with fail
    refine (upper_any _ _ (by unfold maxLen; omega)).mono ?_
    rintro e w2 ⟨r2, rfl, H2, hb2⟩
    have h2 := upper_size _ _ H2.out
    have hb2' := hb1.trans (hb2.mono hb1.size)
    clear hb1 hb2
    go_wp2_with fail
    refine (cut_any _ _ _ (HT.out.below hb2' (Nat.le_refl _)) (by omega)).mono ?_
    rintro e w3 ⟨m, tail, found, rfl, H3, H4, H5, h3, h4, hb3⟩
    have hb3' := hb2'.trans (hb3.mono hb2'.size)
    clear hb3 hb2'
    have hcut := HP.out.cuts
    rw [H2.out, H1.out] at H3 H4 H5
    have H3' : Hid (m.data.toList = a ++ (dt ++ b)) := H3.out.trans hcut.1
    have H4' : Hid ((if found then Dc.powerP tail.data.toList else 0) = Dc.expo sp q) := by unfold Hid; rw [H4.out, H5.out]; exact hcut.2
    have HQ : Hid (found = true → (Lib.trimLeftS tail.data.toList [43, 45]).all Lx.digit = true) := by
      intro hf
      have h5 := H5.out
      have h4 := H4.out
      rw [h4]
      exact HP.out.tail (h5.symm.trans hf)
    clear H3 H4 H5 hcut
    cases found
    · have Hp : Hid ((0 : Int) = Dc.expo sp q) := H4'.out
      clear H4' HQ
      go_wp2_with fail
      refine (cut_any _ _ _ (HT.out.below hb3' (Nat.le_refl _)) (by omega)).mono ?_
      rintro e w5 ⟨wh, pt, fd, rfl, H6, H7, _, h6, h7, hb5⟩
      have hb5' := hb3'.trans (hb5.mono hb3'.size)
      clear hb5 hb3'
      rw [H3'.out] at H6 H7
      have H6' : Hid (wh.data.toList = a) := H6.out.trans HP.out.point.1
      have H7' : Hid (pt.data.toList = b) := H7.out.trans HP.out.point.2
      clear H6 H7 H3'
      have H8 : Hid ((wh ++ pt).data.toList = a ++ b) := by
        unfold Hid; rw [← H6'.out, ← H7'.out]; simp
      have h8 : (wh ++ pt).size = wh.size + pt.size := ByteArray.size_append
      go_wp2_with fail
      generalize wh ++ pt = cc at *
      refine (trimLeft_any _ _).mono ?_
      rintro e w' ⟨dg, rfl, H9, h9, rfl⟩
      go_wp2_with fail
      refine (trimRight_any _ _ (by unfold maxLen; omega)).mono ?_
      rintro e w' ⟨sh, rfl, H10, h10, rfl⟩
      have Hsh : Hid (sh.data.toList = Dc.short (a ++ b)) := by unfold Hid Dc.short; rw [H10.out, H9.out, H8.out]
      have HK := Lib.hid (Dc.digits_parts HP.out)
      by_cases h0 : sh.size = 0
      · have he := empty_yes h0
        have HK2 : Hid (Dc.digitsP s.data.toList = ([], 0, false, true)) := by
          unfold Hid; rw [HK.out, if_pos]; rw [← Hsh.out]; exact (empty_iff sh).2 h0
        go_wp2_with fail
        go_returns
        exact ⟨ByteArray.empty, 0, false, true, rfl, HK2, hb5'⟩
      · have he := empty_no (Nat.pos_of_ne_zero h0)
        have HK2 : Hid (Dc.digitsP s.data.toList = (sh.data.toList, Dc.clampI (0 - pt.size + dg.size - sh.size), below, true)) := by
          unfold Hid
          rw [HK.out, if_neg, Hbl.out, ← Hsh.out, ← Hp.out, Lib.size_eq pt, Lib.size_eq dg, Lib.size_eq sh, H7'.out, H9.out, H8.out]
          rw [← Hsh.out, empty_iff]; exact h0
        clear HK h0
        have hP : -1125899906842624 ≤ 0 ∧ 0 ≤ 1125899906842624 := by
          have := Hp.out
          unfold Dc.expo at this
          split at this <;> omega
        obtain ⟨hP1, hP2⟩ := hP
        go_wp2_with fail
        refine (clamped_any _ _).mono ?_
        rintro e w' ⟨rfl, rfl⟩
        go_wp2_with fail
        go_returns
        exact ⟨_, _, _, _, rfl, by first | exact HK2 | (rw [Int.zero_sub] at HK2; exact HK2), hb5'⟩
    · have HQ' := HQ.out rfl
      clear HQ
      go_wp2_with fail
      refine (power_any _ _ (by omega) HQ').mono ?_
      rintro e w4 ⟨rfl, hb4⟩
      have hb3'' := hb3'.trans (hb4.mono hb3'.size)
      have Hp : Hid (Dc.powerP tail.data.toList = Dc.expo sp q) := H4'.out
      clear hb4 hb3' HQ' H4'
      generalize Dc.powerP tail.data.toList = P0 at *
      go_wp2_with fail
      refine (cut_any _ _ _ (HT.out.below hb3'' (Nat.le_refl _)) (by omega)).mono ?_
      rintro e w5 ⟨wh, pt, fd, rfl, H6, H7, _, h6, h7, hb5⟩
      have hb5' := hb3''.trans (hb5.mono hb3''.size)
      clear hb5 hb3''
      rw [H3'.out] at H6 H7
      have H6' : Hid (wh.data.toList = a) := H6.out.trans HP.out.point.1
      have H7' : Hid (pt.data.toList = b) := H7.out.trans HP.out.point.2
      clear H6 H7 H3'
      have H8 : Hid ((wh ++ pt).data.toList = a ++ b) := by
        unfold Hid; rw [← H6'.out, ← H7'.out]; simp
      have h8 : (wh ++ pt).size = wh.size + pt.size := ByteArray.size_append
      go_wp2_with fail
      generalize wh ++ pt = cc at *
      refine (trimLeft_any _ _).mono ?_
      rintro e w' ⟨dg, rfl, H9, h9, rfl⟩
      go_wp2_with fail
      refine (trimRight_any _ _ (by unfold maxLen; omega)).mono ?_
      rintro e w' ⟨sh, rfl, H10, h10, rfl⟩
      have Hsh : Hid (sh.data.toList = Dc.short (a ++ b)) := by unfold Hid Dc.short; rw [H10.out, H9.out, H8.out]
      have HK := Lib.hid (Dc.digits_parts HP.out)
      by_cases h0 : sh.size = 0
      · have he := empty_yes h0
        have HK2 : Hid (Dc.digitsP s.data.toList = ([], 0, false, true)) := by
          unfold Hid; rw [HK.out, if_pos]; rw [← Hsh.out]; exact (empty_iff sh).2 h0
        go_wp2_with fail
        go_returns
        exact ⟨ByteArray.empty, 0, false, true, rfl, HK2, hb5'⟩
      · have he := empty_no (Nat.pos_of_ne_zero h0)
        have HK2 : Hid (Dc.digitsP s.data.toList = (sh.data.toList, Dc.clampI (P0 - pt.size + dg.size - sh.size), below, true)) := by
          unfold Hid
          rw [HK.out, if_neg, Hbl.out, ← Hsh.out, ← Hp.out, Lib.size_eq pt, Lib.size_eq dg, Lib.size_eq sh, H7'.out, H9.out, H8.out]
          rw [← Hsh.out, empty_iff]; exact h0
        clear HK h0
        have hP : -1125899906842624 ≤ P0 ∧ P0 ≤ 1125899906842624 := by
          have := Hp.out
          unfold Dc.expo at this
          split at this <;> omega
        obtain ⟨hP1, hP2⟩ := hP
        go_wp2_with fail
        refine (clamped_any _ _).mono ?_
        rintro e w' ⟨rfl, rfl⟩
        go_wp2_with fail
        go_returns
        exact ⟨_, _, _, _, rfl, by first | exact HK2 | (rw [Int.zero_sub] at HK2; exact HK2), hb5'⟩
end Go.Proofs.YtkhpfdgkmnifcaaDoor
