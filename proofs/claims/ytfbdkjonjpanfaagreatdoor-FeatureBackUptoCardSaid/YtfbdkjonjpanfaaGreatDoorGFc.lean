/- The library's functions that decimal calls, in the walks' own words; what the walks ask of the package's variables. -/
import Derived.Test.YtfbdkjonjpanfaaGreatDoorUpper
import Derived.Test.YtfbdkjonjpanfaaGreatDoorGFb
import Derived.Shelf.Strings.SlTrimAscii
import Derived.Laws.RangeString
import Derived.Lib.LaidTab
import Derived.Lib.AppendIntMem
import Derived.Handy

set_option linter.unusedVariables false
set_option linter.unusedSimpArgs false
namespace Go.Proofs.YtfbdkjonjpanfaaGreatDoor
open Go.RowKit Go.Lib

/-- what the library's functions read of the package's variables -/
def Tabs (w : World) : Prop := ∃ m : Int, w.cell? ⟨0, 0, none⟩ = some (.int .i64 m)
/-- what strconv reads of them -/
def TabI (w : World) : Prop := Lib.TabIs Tryz.prog w "internal/strconv.uint64pow10" .u64 Lib.pow10Tab

theorem hasPrefix_any (s p : ByteArray) (w : World) :
    Calls Tryz.prog 59 #[.string s, .string p] w fun e w' => e = .returned (.bool (Lib.hasPrefix s.data.toList p.data.toList)) ∧ w = w' :=
  (Tryz.strings_HasPrefix s p w).mono fun e w' ⟨he, hw⟩ => ⟨he, hw.symm⟩
theorem trimSign_any (s : ByteArray) (w : World) :
    Calls Tryz.prog 61 #[.string s, .string ⟨#[43, 45]⟩] w fun e w' => ∃ r : ByteArray, e = .returned (.string r) ∧ Hid (r.data.toList = Lib.trimLeftS s.data.toList [43, 45]) ∧ r.size ≤ s.size ∧ Below w.heap.size w w' := by
  have hcon := Any.strings_TrimLeft_laid Tryz.lays161 (by kernel_rfl) s ⟨#[43, 45]⟩ w (by decide) (ascii_of_all (by decide))
  change Calls Tryz.prog 61 _ _ (fun e w' => e = .returned (.string ⟨(Lib.trimLeftS s.data.toList [43, 45]).toArray⟩) ∧ Below w.heap.size w w') at hcon
  exact hcon.mono fun e w' ⟨he, hw⟩ => ⟨_, he, rfl, by rw [Lib.size_mk, Lib.size_eq]; exact (List.dropWhile_sublist _).length_le, hw⟩
theorem trimLeft_any (s : ByteArray) (w : World) :
    Calls Tryz.prog 61 #[.string s, .string ⟨#[48]⟩] w fun e w' => ∃ r : ByteArray, e = .returned (.string r) ∧ Hid (r.data.toList = Lib.trimLeftB s.data.toList 48) ∧ r.size ≤ s.size ∧ w = w' :=
  (Tryz.strings_TrimLeft_one s 48 (by decide) w).mono fun e w' ⟨he, hw⟩ => ⟨_, he, rfl, by rw [Lib.size_mk, Lib.size_eq]; exact Dc.trimLeft_le _ _, hw.symm⟩
theorem trimRight_any (s : ByteArray) (w : World) (hs : s.size ≤ maxLen) :
    Calls Tryz.prog 63 #[.string s, .string ⟨#[48]⟩] w fun e w' => ∃ r : ByteArray, e = .returned (.string r) ∧ Hid (r.data.toList = Lib.trimRightB s.data.toList 48) ∧ r.size ≤ s.size ∧ w = w' :=
  (Tryz.strings_TrimRight_one s 48 (by decide) w (by unfold maxLen at hs; omega)).mono fun e w' ⟨he, hw⟩ => ⟨_, he, rfl, by rw [Lib.size_mk, Lib.size_eq]; exact Dc.trimRight_le _ _, hw.symm⟩
theorem cut_any (s sep : ByteArray) (w : World) (ht : Tabs w) (hs : s.size ≤ 1000000) :
    Calls Tryz.prog 60 #[.string s, .string sep] w fun e w' => ∃ (a b : ByteArray) (c : Bool), e = .returned (.tuple #[.string a, .string b, .bool c]) ∧ Hid (a.data.toList = (Lib.cut s.data.toList sep.data.toList).1) ∧ Hid (b.data.toList = (Lib.cut s.data.toList sep.data.toList).2.1) ∧ Hid (c = (Lib.cut s.data.toList sep.data.toList).2.2) ∧ a.size ≤ s.size ∧ b.size ≤ s.size ∧ Below w.heap.size w w' := by
  obtain ⟨m, hm⟩ := ht
  refine (Tryz.strings_Cut s sep m w (by omega) hm).mono fun e w' ⟨he, n, hw⟩ => ⟨_, _, _, he, rfl, rfl, rfl, ?_, ?_, ?_⟩
  · rw [Lib.size_mk, Lib.size_eq]; unfold Lib.cut; split <;> simp; omega
  · rw [Lib.size_mk, Lib.size_eq]; unfold Lib.cut; split <;> simp
  · rw [hw]; exact below_drewN (Below.refl _ _) n
theorem repeat_any (s : ByteArray) (c : Nat) (w : World) (hc : c ≤ 1000) (hs : s.size ≤ 1000) :
    Calls Tryz.prog 39 #[.string s, .int .i64 c] w fun e w' => ∃ r : ByteArray, e = .returned (.string r) ∧ Hid (r.data.toList = Lib.repeatL s.data.toList c) ∧ r.size = c * s.size ∧ Below w.heap.size w w' :=
  (Tryz.strings_Repeat s c w (by omega) (by have : s.size * c ≤ 1000 * 1000 := Nat.mul_le_mul hs hc; omega)).mono fun e w' ⟨he, hw⟩ => ⟨_, he, rfl, by rw [Lib.size_mk, Lib.size_eq, Lib.repeatL_length], hw⟩
theorem itoa_any (n : Int) (w : World) (ht : TabI w) (h0 : -9223372036854775808 ≤ n) (h1 : n ≤ 9223372036854775807) :
    Calls Tryz.prog 71 #[.int .i64 n] w fun e w' => ∃ r : ByteArray, e = .returned (.string r) ∧ Hid (r.data.toList = Lib.itoa n) ∧ Below w.heap.size w w' := by
  refine (Tryz.strconv_Itoa n h0 h1 w ht).mono fun e w' ⟨he, k, os, hw⟩ => ⟨_, he, rfl, ?_⟩
  rw [hw]
  exact Lib.below_grow _ _ (Nat.le_refl _) k os
theorem Tabs.below {w w' : World} {b : Nat} (h : Tabs w) (hb : Below b w w') (hle : w.heap.size ≤ b) : Tabs w' := by
  obtain ⟨m, hm⟩ := h
  exact ⟨m, (hb.cell (Nat.lt_of_lt_of_le (World.block_lt_of_cell? _ _ hm) hle)).trans hm⟩
theorem TabI.below {w w' : World} {b : Nat} (ht : TabI w) (hb : Below b w w') (hle : w.heap.size ≤ b) : TabI w' := by
  unfold TabI at *
  unfold Lib.TabIs World.var? at *
  cases hg : Tryz.prog.globalNamed "internal/strconv.uint64pow10" with
  | none => rw [hg] at ht; cases ht
  | some g =>
    rw [hg] at ht
    simp only [Option.bind_some] at ht ⊢
    have hlt : g < w.heap.size := by
      rcases Nat.lt_or_ge g w.heap.size with h | h
      · exact h
      · rw [Array.getElem?_eq_none h] at ht; cases ht
    rw [hb.block g (by omega)]
    exact ht
end Go.Proofs.YtfbdkjonjpanfaaGreatDoor

set_option linter.unusedVariables false
set_option linter.unusedSimpArgs false
namespace Go.Proofs.YtfbdkjonjpanfaaGreatDoor
open Go.RowKit Go.Lib

theorem clamped_any (n : Int) (w : World) :
    Calls Tryz.prog 64 #[.int .i64 n] w fun e w' => e = .returned (.int .i64 (Dc.clampI n)) ∧ w = w' := by
  go_enter Tryz.func64, Tryz.ntmps64
  go_wp2
  all_goals go_ret
  all_goals exact ⟨rfl, rfl⟩

theorem take_snoc (r : ByteArray) (k : Nat) (h : k < r.size) : r.data.toList.take (k + 1) = r.data.toList.take k ++ [r[k]] := by
  rw [List.take_add_one]
  have : r.data.toList[k]? = some r[k] := by
    rw [List.getElem?_eq_getElem (by rw [← Lib.size_eq]; exact h)]; rfl
  rw [this]; rfl
theorem take_full (r : ByteArray) : r.data.toList.take r.size = r.data.toList := by rw [List.take_of_length_le]; rw [← Lib.size_eq]; exact Nat.le_refl _
theorem digit_at (r : ByteArray) (hd : r.data.toList.all Lx.digit = true) (k : Nat) (h : k < r.size) : 48 ≤ (r[k].toNat : Int) ∧ (r[k].toNat : Int) ≤ 57 := by
  rw [List.all_eq_true] at hd
  have hm : r[k] ∈ r.data.toList := by
    have : r.data.toList[k]? = some r[k] := by
      rw [List.getElem?_eq_getElem (by rw [← Lib.size_eq]; exact h)]; rfl
    exact List.mem_of_getElem? this
  exact (Lx.digit_iff _).1 (hd _ hm)
theorem take_digits (r : ByteArray) (hd : r.data.toList.all Lx.digit = true) (k : Nat) : (r.data.toList.take k).all Lx.digit = true := by
  rw [List.all_eq_true] at *
  exact fun x hx => hd x (List.mem_of_mem_take hx)

theorem power_any (s : ByteArray) (w : World) (hs : s.size ≤ 100000) (hd : (Lib.trimLeftS s.data.toList [43, 45]).all Lx.digit = true) :
    Calls Tryz.prog 62 #[.string s] w fun e w' => e = .returned (.int .i64 (Dc.powerP s.data.toList)) ∧ Below w.heap.size w w' := by
  go_enter Tryz.func62, Tryz.ntmps62
  go_wp2_with (go_at_call 59; refine (hasPrefix_any _ _ _).mono ?_; rintro e w' ⟨rfl, rfl⟩)
  refine (trimSign_any _ _).mono ?_
  rintro e w1 ⟨r, rfl, Hr, hrs, hb⟩
  rw [← Hr.out] at hd
  have Hd := Lib.hid hd
  clear hd
  go_wp2
  go_loopw [4] (fun n wr => ∃ k : Nat, k ≤ r.size ∧ n = .int .i64 (Dc.powN (r.data.toList.take k)) ∧ wr = w1.iter r k) (fun n wr => r.size - (wr.iterPos w1.heap.size))
  case atStart => exact ⟨0, Nat.zero_le _, rfl, rfl⟩
  case round =>
    obtain ⟨k, hk, rfl, rfl⟩ := hrel
    by_cases hlt : k < r.size
    · obtain ⟨h48, h57⟩ := digit_at r Hd.out k hlt
      obtain ⟨hn0, hn1⟩ := Dc.powN_range _ (take_digits r Hd.out k)
      have Hn := Lib.hid (Dc.powN_snoc (r.data.toList.take k) r[k])
      rw [← take_snoc r k hlt] at Hn
      have hnx := fun ty => run_next_ascii (P := Tryz.prog) w1 r k ty hlt (by omega)
      generalize Dc.powN (r.data.toList.take k) = n at *
      generalize (r[k].toNat : Int) = c at *
      go_wp2
      go_roundw
      case rel => exact ⟨k + 1, by omega, by rw [Hn.out], rfl⟩
      case measure => simp; omega
    · obtain rfl : k = r.size := by omega
      have hnx := fun ty => run_next_end (P := Tryz.prog) w1 r r.size ty (by omega)
      have Hn := Lib.hid (congrArg Dc.powN (take_full r))
      have hb2 : Below w.heap.size w (w1.iter r r.size) := hb.alloc hb.size _
      obtain ⟨hn0, hn1⟩ := Dc.powN_range _ (take_digits r Hd.out r.size)
      generalize hn : Dc.powN (r.data.toList.take r.size) = n at *
      clear hn
      go_wp2
      all_goals go_ret
      all_goals refine ⟨int_eq ?_, hb2⟩
      all_goals unfold Dc.powerP
      all_goals rw [← Hr.out, ← Hn.out]
      all_goals simp [*]
end Go.Proofs.YtfbdkjonjpanfaaGreatDoor

set_option linter.unusedVariables false
set_option linter.unusedSimpArgs false
namespace Go.Proofs.YtfbdkjonjpanfaaGreatDoor
open Go.RowKit Go.Lib

theorem upper_size (s r : ByteArray) (h : r.data.toList = Lx.upper s.data.toList) : r.size = s.size := by
  rw [Lib.size_eq, Lib.size_eq, h]; unfold Lx.upper; rw [List.length_map]
theorem empty_iff (r : ByteArray) : (r.data.toList = []) ↔ r.size = 0 := by
  rw [Lib.size_eq]; exact List.length_eq_zero_iff.symm

theorem digits_any (s : ByteArray) (w : World) (ht : Tabs w) (hs : s.size ≤ 100000) :
    Calls Tryz.prog 38 #[.string s] w fun e w' => ∃ (d : ByteArray) (p : Int) (b ok : Bool), e = .returned (.tuple #[.string d, .int .i64 p, .bool b, .bool ok]) ∧ Hid (Dc.digitsP s.data.toList = (d.data.toList, p, b, ok)) ∧ Below w.heap.size w w' := by
  have HT := Lib.hid ht
  clear ht
  go_enter Tryz.func38, Tryz.ntmps38
  go_wp2_with fail
  refine (right_any _ _ (by unfold maxLen; omega)).mono ?_
  rintro e w' ⟨rfl, rfl⟩
  cases hr : Lx.right s.data.toList
  · have Hk := Lib.hid (Dc.digits_wrong _ hr)
    clear hr
    go_wp2_with fail
    go_returns
    exact ⟨ByteArray.empty, 0, false, false, rfl, Hk, Below.refl _ _⟩
  · obtain ⟨sg, a, dt, b, ex, sp, q, hp⟩ := Dc.parts_of_right _ hr
    have HP := Lib.hid hp
    clear hp hr
    go_wp2_with fail
    refine (hasPrefix_any _ _ _).mono ?_
    rintro e w' ⟨rfl, rfl⟩
    have HB : Hid (Lib.hasPrefix s.data.toList [45] = (sg == [45])) := by
      unfold Hid; rw [HP.out.eq]; exact Dc.minus_head sg _ HP.out.hsg HP.out.head
    have HB2 : Lib.hasPrefix s.data.toList (⟨#[45]⟩ : ByteArray).data.toList = (sg == [45]) := HB.out
    rw [HB2]
    clear HB HB2
    generalize hbl : (sg == [45]) = below
    have Hbl := Lib.hid hbl
    clear hbl
    go_wp2_with fail
    refine (trimSign_any _ _).mono ?_
    rintro e w1 ⟨r1, rfl, H1, h1, hb1⟩
    go_wp2_with fail
    refine (upper_any _ _ (by unfold maxLen; omega)).mono ?_
    rintro e w2 ⟨r2, rfl, H2, hb2⟩
    have h2 := upper_size _ _ H2.out
    have hb2' := hb1.trans (hb2.mono hb1.size)
    clear hb1 hb2
    go_wp2_with fail
    refine (cut_any _ _ _ (HT.out.below hb2' (Nat.le_refl _)) (by omega)).mono ?_
    rintro e w3 ⟨m, tail, found, rfl, H3, H4, H5, h3, h4, hb3⟩
    have hb3' := hb2'.trans (hb3.mono hb2'.size)
    clear hb3 hb2'
    have hcut := HP.out.cuts
    rw [H2.out, H1.out] at H3 H4 H5
    have H3' : Hid (m.data.toList = a ++ (dt ++ b)) := H3.out.trans hcut.1
    have H4' : Hid ((if found then Dc.powerP tail.data.toList else 0) = Dc.expo sp q) := by unfold Hid; rw [H4.out, H5.out]; exact hcut.2
    have HQ : Hid (found = true → (Lib.trimLeftS tail.data.toList [43, 45]).all Lx.digit = true) := by
      intro hf
      have h5 := H5.out
      have h4 := H4.out
      rw [h4]
      exact HP.out.tail (h5.symm.trans hf)
    clear H3 H4 H5 hcut
    cases found
    · have Hp : Hid ((0 : Int) = Dc.expo sp q) := H4'.out
      clear H4' HQ
      go_wp2_with fail
      refine (cut_any _ _ _ (HT.out.below hb3' (Nat.le_refl _)) (by omega)).mono ?_
      rintro e w5 ⟨wh, pt, fd, rfl, H6, H7, _, h6, h7, hb5⟩
      have hb5' := hb3'.trans (hb5.mono hb3'.size)
      clear hb5 hb3'
      rw [H3'.out] at H6 H7
      have H6' : Hid (wh.data.toList = a) := H6.out.trans HP.out.point.1
      have H7' : Hid (pt.data.toList = b) := H7.out.trans HP.out.point.2
      clear H6 H7 H3'
      have H8 : Hid ((wh ++ pt).data.toList = a ++ b) := by
        unfold Hid; rw [← H6'.out, ← H7'.out]; simp
      have h8 : (wh ++ pt).size = wh.size + pt.size := ByteArray.size_append
      go_wp2_with fail
      generalize wh ++ pt = cc at *
      refine (trimLeft_any _ _).mono ?_
      rintro e w' ⟨dg, rfl, H9, h9, rfl⟩
      go_wp2_with fail
      refine (trimRight_any _ _ (by unfold maxLen; omega)).mono ?_
      rintro e w' ⟨sh, rfl, H10, h10, rfl⟩
      have Hsh : Hid (sh.data.toList = Dc.short (a ++ b)) := by unfold Hid Dc.short; rw [H10.out, H9.out, H8.out]
      have HK := Lib.hid (Dc.digits_parts HP.out)
      by_cases h0 : sh.size = 0
      · have he := empty_yes h0
        have HK2 : Hid (Dc.digitsP s.data.toList = ([], 0, false, true)) := by
          unfold Hid; rw [HK.out, if_pos]; rw [← Hsh.out]; exact (empty_iff sh).2 h0
        go_wp2_with fail
        go_returns
        exact ⟨ByteArray.empty, 0, false, true, rfl, HK2, hb5'⟩
      · have he := empty_no (Nat.pos_of_ne_zero h0)
        have HK2 : Hid (Dc.digitsP s.data.toList = (sh.data.toList, Dc.clampI (0 - pt.size + dg.size - sh.size), below, true)) := by
          unfold Hid
          rw [HK.out, if_neg, Hbl.out, ← Hsh.out, ← Hp.out, Lib.size_eq pt, Lib.size_eq dg, Lib.size_eq sh, H7'.out, H9.out, H8.out]
          rw [← Hsh.out, empty_iff]; exact h0
        clear HK h0
        have hP : -1125899906842624 ≤ 0 ∧ 0 ≤ 1125899906842624 := by
          have := Hp.out
          unfold Dc.expo at this
          split at this <;> omega
        obtain ⟨hP1, hP2⟩ := hP
        go_wp2_with fail
        refine (clamped_any _ _).mono ?_
        rintro e w' ⟨rfl, rfl⟩
        go_wp2_with fail
        go_returns
        exact ⟨_, _, _, _, rfl, by first | exact HK2 | (rw [Int.zero_sub] at HK2; exact HK2), hb5'⟩
    · have HQ' := HQ.out rfl
      clear HQ
      go_wp2_with fail
      refine (power_any _ _ (by omega) HQ').mono ?_
      rintro e w4 ⟨rfl, hb4⟩
      have hb3'' := hb3'.trans (hb4.mono hb3'.size)
      have Hp : Hid (Dc.powerP tail.data.toList = Dc.expo sp q) := H4'.out
      clear hb4 hb3' HQ' H4'
      generalize Dc.powerP tail.data.toList = P0 at *
      go_wp2_with fail
      refine (cut_any _ _ _ (HT.out.below hb3'' (Nat.le_refl _)) (by omega)).mono ?_
      rintro e w5 ⟨wh, pt, fd, rfl, H6, H7, _, h6, h7, hb5⟩
      have hb5' := hb3''.trans (hb5.mono hb3''.size)
      clear hb5 hb3''
      rw [H3'.out] at H6 H7
      have H6' : Hid (wh.data.toList = a) := H6.out.trans HP.out.point.1
      have H7' : Hid (pt.data.toList = b) := H7.out.trans HP.out.point.2
      clear H6 H7 H3'
      have H8 : Hid ((wh ++ pt).data.toList = a ++ b) := by
        unfold Hid; rw [← H6'.out, ← H7'.out]; simp
      have h8 : (wh ++ pt).size = wh.size + pt.size := ByteArray.size_append
      go_wp2_with fail
      generalize wh ++ pt = cc at *
      refine (trimLeft_any _ _).mono ?_
      rintro e w' ⟨dg, rfl, H9, h9, rfl⟩
      go_wp2_with fail
      refine (trimRight_any _ _ (by unfold maxLen; omega)).mono ?_
      rintro e w' ⟨sh, rfl, H10, h10, rfl⟩
      have Hsh : Hid (sh.data.toList = Dc.short (a ++ b)) := by unfold Hid Dc.short; rw [H10.out, H9.out, H8.out]
      have HK := Lib.hid (Dc.digits_parts HP.out)
      by_cases h0 : sh.size = 0
      · have he := empty_yes h0
        have HK2 : Hid (Dc.digitsP s.data.toList = ([], 0, false, true)) := by
          unfold Hid; rw [HK.out, if_pos]; rw [← Hsh.out]; exact (empty_iff sh).2 h0
        go_wp2_with fail
        go_returns
        exact ⟨ByteArray.empty, 0, false, true, rfl, HK2, hb5'⟩
      · have he := empty_no (Nat.pos_of_ne_zero h0)
        have HK2 : Hid (Dc.digitsP s.data.toList = (sh.data.toList, Dc.clampI (P0 - pt.size + dg.size - sh.size), below, true)) := by
          unfold Hid
          rw [HK.out, if_neg, Hbl.out, ← Hsh.out, ← Hp.out, Lib.size_eq pt, Lib.size_eq dg, Lib.size_eq sh, H7'.out, H9.out, H8.out]
          rw [← Hsh.out, empty_iff]; exact h0
        clear HK h0
        have hP : -1125899906842624 ≤ P0 ∧ P0 ≤ 1125899906842624 := by
          have := Hp.out
          unfold Dc.expo at this
          split at this <;> omega
        obtain ⟨hP1, hP2⟩ := hP
        go_wp2_with fail
        refine (clamped_any _ _).mono ?_
        rintro e w' ⟨rfl, rfl⟩
        go_wp2_with fail
        go_returns
        exact ⟨_, _, _, _, rfl, by first | exact HK2 | (rw [Int.zero_sub] at HK2; exact HK2), hb5'⟩
end Go.Proofs.YtfbdkjonjpanfaaGreatDoor

set_option linter.unusedVariables false
set_option linter.unusedSimpArgs false
namespace Go.Proofs.YtfbdkjonjpanfaaGreatDoor
open Go.RowKit Go.Lib

theorem scale_any (s : ByteArray) (fine : Int) (w : World) (ht : Tabs w) (hs : s.size ≤ 100000) (hf1 : -9223372036854775808 ≤ fine) (hf2 : fine ≤ 9223372036854775807) :
    Calls Tryz.prog 22 #[.string s, .int .i64 fine] w fun e w' => e = .returned (.tuple #[.int .i64 (Dc.scaleP s.data.toList fine).1, .int .i64 (Dc.scaleP s.data.toList fine).2]) ∧ Below w.heap.size w w' := by
  have HK : Hid (Dc.scaleP s.data.toList fine = if (Dc.digitsP s.data.toList).2.2.2 = false ∨ fine < 0 ∨ fine > 9 then (0, 10) else Dc.unit (Dc.digitsP s.data.toList).2.2.1 (Dc.digitsP s.data.toList).1 (Dc.digitsP s.data.toList).2.1 fine) := rfl
  generalize Dc.scaleP s.data.toList fine = R at *
  go_enter Tryz.func22, Tryz.ntmps22
  go_wp2_with fail
  refine (digits_any _ _ ht hs).mono ?_
  rintro e w1 ⟨d, p, below, ok, rfl, Hd, hb⟩
  obtain ⟨hp1, hp2, hda, hdl, _, _⟩ := Dc.digits_facts s.data.toList
  rw [Hd.out] at HK hp1 hp2 hda hdl
  simp only at HK hp1 hp2 hda hdl
  rw [← Lib.size_eq, ← Lib.size_eq] at hdl
  have Hda := Lib.hid hda
  clear hda ht
  have no : ∀ e : Int, R = (0, e) → Ending.returned (.tuple #[.int .i64 0, .int .i64 e]) = .returned (.tuple #[.int .i64 R.1, .int .i64 R.2]) := by
    rintro e rfl; rfl
  have No := Lib.hid no
  clear no
  by_cases hbad : ok = false ∨ fine < 0 ∨ fine > 9
  · have HR : Hid (R = (0, 10)) := by unfold Hid; rw [HK.out, if_pos hbad]
    clear HK Hd
    cases ok
    · go_wp2_with fail
      go_returns
      exact ⟨No.out _ HR.out, hb⟩
    · by_cases h : fine < 0
      · clear hbad
        go_wp2_with fail
        go_returns
        exact ⟨No.out _ HR.out, hb⟩
      · have h9 : fine > 9 := by rcases hbad with h | h | h <;> first | cases h | omega
        clear hbad
        go_wp2_with fail
        go_returns
        exact ⟨No.out _ HR.out, hb⟩
  · obtain ⟨rfl, h0, h9⟩ : ok = true ∧ 0 ≤ fine ∧ fine ≤ 9 := by
      refine ⟨?_, ?_, ?_⟩
      · cases ok
        · exact absurd (.inl rfl) hbad
        · rfl
      · apply Classical.byContradiction
        intro h
        exact hbad (.inr (.inl (by omega)))
      · apply Classical.byContradiction
        intro h
        exact hbad (.inr (.inr (by omega)))
    have HR : Hid (R = Dc.unit below d.data.toList p fine) := by unfold Hid; rw [HK.out, if_neg hbad]
    clear HK Hd hbad hf1 hf2
    by_cases he0 : d.size = 0
    · have he := empty_yes he0
      have HR2 : Hid (R = (0, 0)) := by unfold Hid; rw [HR.out, Dc.unit, if_pos ((empty_iff d).2 he0)]
      go_wp2_with fail
      go_returns
      exact ⟨No.out _ HR2.out, hb⟩
    have he := empty_no (Nat.pos_of_ne_zero he0)
    have hne : ¬ d.data.toList = [] := fun e => he0 ((empty_iff d).1 e)
    by_cases hn : p + fine < 0
    · have HR2 : Hid (R = (0, 22)) := by unfold Hid; rw [HR.out, Dc.unit, if_neg hne, if_pos hn]
      go_wp2_with fail
      go_returns
      exact ⟨No.out _ HR2.out, hb⟩
    by_cases hm : (d.size : Int) + p + fine > 13
    · have HR2 : Hid (R = (0, 23)) := by unfold Hid; rw [HR.out, Dc.unit, if_neg hne, if_neg hn, if_pos (by rw [← Lib.size_eq]; exact hm)]
      clear hne
      go_wp2_with fail
      go_returns
      exact ⟨No.out _ HR2.out, hb⟩
    obtain ⟨k, hk⟩ : ∃ k : Nat, p + fine = k := ⟨(p + fine).toNat, by omega⟩
    have HR2 : Hid (R = if (Dc.dval (d.data.toList ++ Lib.repeatL [48] k) : Int) > 1099511627775 then (0, 23) else if below then (-(Dc.dval (d.data.toList ++ Lib.repeatL [48] k) : Int), 0) else ((Dc.dval (d.data.toList ++ Lib.repeatL [48] k) : Int), 0)) := by
      unfold Hid; rw [HR.out, Dc.unit, if_neg hne, if_neg hn, if_neg (by rw [← Lib.size_eq]; exact hm), hk]; rfl
    clear HR hne
    have hsum : (d.size : Int) + p + fine = d.size + k := by omega
    go_wp2_with fail
    refine (repeat_any _ _ _ (by omega) (by show 1 ≤ 1000; omega)).mono ?_
    rintro e w2 ⟨z, rfl, Hz, hz, hb2⟩
    have hb2' := hb.trans (hb2.mono hb.size)
    clear hb hb2
    have hz1 : z.size = k := by rw [hz]; show k * 1 = k; omega
    have Hc : Hid ((d ++ z).data.toList = d.data.toList ++ Lib.repeatL [48] k) := by
      unfold Hid; rw [← (show z.data.toList = Lib.repeatL [48] k from Hz.out)]; simp
    have hc : (d ++ z).size = d.size + z.size := ByteArray.size_append
    go_wp2_with fail
    generalize d ++ z = c at *
    have Ha : Hid (c.data.toList.all Lx.digit = true) := by
      unfold Hid; rw [Hc.out, List.all_append, Hda.out, Dc.repeatL_one]; simp [Lx.digit]
    have hv : ∀ j, j ≤ c.size → Dc.dval (c.data.toList.take j) < 10000000000000 := by
      intro j hj
      have h1 := Dc.dval_lt _ (take_digits c Ha.out j)
      have h2 : (c.data.toList.take j).length ≤ 13 := by rw [List.length_take]; omega
      have h3 : 10 ^ (c.data.toList.take j).length ≤ 10 ^ 13 := Nat.pow_le_pow_right (by decide) h2
      omega
    have Hv := Lib.hid hv
    rw [← Hc.out] at HR2
    clear hv hz hc hk hsum
    go_loopw [10] (fun n wr => ∃ j : Nat, j ≤ c.size ∧ n = .int .i64 (Dc.dval (c.data.toList.take j)) ∧ wr = w2.iter c j) (fun n wr => c.size - (wr.iterPos w2.heap.size))
    case atStart => exact ⟨0, Nat.zero_le _, rfl, rfl⟩
    case round =>
      obtain ⟨j, hj, rfl, rfl⟩ := hrel
      by_cases hlt : j < c.size
      · obtain ⟨h48, h57⟩ := digit_at c Ha.out j hlt
        have hv1 := Hv.out j hj
        have Hn := Lib.hid (Dc.dval_snoc (c.data.toList.take j) c[j])
        rw [← take_snoc c j hlt] at Hn
        have Hn2 : Hid (((Dc.dval (c.data.toList.take (j + 1)) : Nat) : Int) = (Dc.dval (c.data.toList.take j) : Int) * 10 + ((c[j].toNat : Int) - 48)) := by
          unfold Hid; rw [Hn.out]; omega
        have hnx := fun ty => run_next_ascii (P := Tryz.prog) w2 c j ty hlt (by omega)
        clear Hn
        generalize Dc.dval (c.data.toList.take j) = n at *
        generalize (c[j].toNat : Int) = x at *
        go_wp2
        go_roundw
        case rel => exact ⟨j + 1, by omega, by rw [Hn2.out], rfl⟩
        case measure => simp; omega
      · obtain rfl : j = c.size := by omega
        have hnx := fun ty => run_next_end (P := Tryz.prog) w2 c c.size ty (by omega)
        have hb3 : Below w.heap.size w (w2.iter c c.size) := hb2'.alloc hb2'.size _
        have hv1 := Hv.out c.size (Nat.le_refl _)
        rw [take_full] at hv1 ⊢
        generalize Dc.dval c.data.toList = n at *
        by_cases hx : (n : Int) > 1099511627775
        · have HR3 : Hid (R = (0, 23)) := by unfold Hid; rw [HR2.out, if_pos hx]
          clear HR2
          go_wp2_with fail
          go_returns
          exact ⟨No.out _ HR3.out, hb3⟩
        · cases below
          · have HR3 : Hid (R = ((n : Int), 0)) := by unfold Hid; rw [HR2.out, if_neg hx]; rfl
            clear HR2
            go_wp2_with fail
            go_returns
            exact ⟨by rw [HR3.out]; rfl, hb3⟩
          · have HR3 : Hid (R = (-(n : Int), 0)) := by unfold Hid; rw [HR2.out, if_neg hx]; rfl
            clear HR2
            go_wp2_with fail
            go_returns
            exact ⟨by rw [HR3.out]; rfl, hb3⟩
end Go.Proofs.YtfbdkjonjpanfaaGreatDoor
