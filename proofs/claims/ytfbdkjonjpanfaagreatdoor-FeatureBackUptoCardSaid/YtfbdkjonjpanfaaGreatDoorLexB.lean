import Derived.Test.YtfbdkjonjpanfaaGreatDoorLexA
set_option linter.unusedVariables false
set_option linter.unusedSimpArgs false
namespace Go.Proofs.YtfbdkjonjpanfaaGreatDoor
open Go.RowKit

/-- what is left of a text, under a name -/
theorem rest_of (s : ByteArray) (k : Nat) (h : k ≤ s.size) : ∃ r : ByteArray, s.extract k s.size = r ∧ r.size = s.size - k ∧ Hid (r.data.toList = s.data.toList.drop k) :=
  ⟨_, rfl, by rw [ByteArray.size_extract]; omega, by unfold Hid; rw [Lx.extract_end]⟩

theorem empty_no {s : ByteArray} (h : 0 < s.size) : s.toList.isEmpty = false := by rw [Lx.isEmpty_of_size, decide_eq_false_iff_not]; omega
theorem empty_yes {s : ByteArray} (h : s.size = 0) : s.toList.isEmpty = true := by rw [Lx.isEmpty_of_size]; simp [h]

set_option maxHeartbeats 1000000 in
theorem right_any (s : ByteArray) (w : World) (hs : s.size ≤ maxLen) :
    Calls Tryz.prog 58 #[.string s] w fun e w' => e = .returned (.bool (Lx.right s.data.toList)) ∧ w = w' := by
  have hm := hs
  unfold maxLen at hs
  go_enter Tryz.func58, Tryz.ntmps58
  go_wp2_with fail
  refine (signed_any _ _ hm).mono ?_
  rintro e w' ⟨s1, rfl, hs1, Hs1, rfl⟩
  go_wp2_with fail
  refine (run_digit _ _ (Nat.le_trans hs1 hm)).mono ?_
  rintro e w' ⟨n, rfl, hn, Hn, rfl⟩
  go_wp2_with fail
  obtain ⟨r, hr, hrs, Hr⟩ := rest_of s1 n hn
  rw [hr]
  clear hr
  refine (cutPrefix_any _ _ _).mono ?_
  rintro e w' ⟨t, b, rfl, ht, Ht, Hb, rfl⟩
  have hrl2 : n + r.size ≤ s1.size := by omega
  clear hrs
  cases b
  · have key := Lib.hid (Lx.right_nodot _ _ _ _ Hs1.out Hn.out Hr.out Hb.out)
    clear Ht Hb Hr Hn Hs1 hm
    rcases Nat.eq_zero_or_pos n with rfl | hn0
    · go_wp2_with fail
      go_ret
      exact ⟨bool_eq (by rw [key.out, Lx.tail_none]), rfl⟩
    · have hne : ((n : Int) == 0) = false := by rw [beq_eq_false_iff_ne]; omega
      by_cases hr0 : r.size = 0
      · have he := empty_yes hr0
        have Hnil := Lx.nil_of_size _ hr0
        have kf : Hid (Lx.right s.data.toList = true) := by unfold Hid; rw [key.out, Hnil]; exact Lx.tail_end _ (by omega)
        clear hr0 Hnil key
        go_wp2_with fail
        go_ret
        exact ⟨bool_eq (by first | (rw [kf.out]; done) | (rw [kf.out]; simp; done) | (rw [kf.out]; simp; omega)), rfl⟩
      · have hr1 : 0 < r.size := by omega
        have he := empty_no hr1
        clear hr0
        go_wp2_with fail
        refine (one_any _ _ _).mono ?_
        rintro e w' ⟨rfl, rfl⟩
        cases h1 : Lx.one r[0] [101, 69]
        · have kf : Hid (Lx.right s.data.toList = false) := by unfold Hid; rw [key.out, Lx.tail_bad n (by omega) r hr1 h1]
          go_wp2_with fail
          go_ret
          exact ⟨bool_eq (by rw [kf.out]), rfl⟩
        · go_wp2_with fail
          obtain ⟨r1, hr, hrs, Hr⟩ := rest_of r 1 hr1
          rw [hr]
          clear hr
          have hrs' : r1.size ≤ r.size := by omega
          clear hrs
          refine (signed_any _ _ (by unfold maxLen; omega)).mono ?_
          rintro e w' ⟨q, rfl, hq, Hq, rfl⟩
          have Hq' : Hid (q.data.toList = Lx.signed (r.data.toList.drop 1)) := by unfold Hid; rw [Hq.out, Hr.out]
          clear Hr Hq
          by_cases hq0 : q.size = 0
          · have he2 := empty_yes hq0
            have kf : Hid (Lx.right s.data.toList = false) := by unfold Hid; rw [key.out, Lx.tail_power0 n (by omega) r hr1 h1 q Hq'.out hq0]
            clear hq0
            go_wp2_with fail
            go_ret
            exact ⟨bool_eq (by rw [kf.out]), rfl⟩
          · have he2 := empty_no (s := q) (by omega)
            go_wp2_with fail
            refine (run_digit _ _ (by unfold maxLen; omega)).mono ?_
            rintro e w' ⟨j, rfl, hj, Hj, rfl⟩
            have kf := Lib.hid (Lx.tail_power1 n (by omega) r hr1 h1 q Hq'.out hq0 j Hj.out)
            clear hq0
            go_wp2_with fail
            go_ret
            exact ⟨bool_eq (by rw [key.out, kf.out]), rfl⟩
  · have Hq0 : Hid (t.data.toList.length ≤ t.data.toList.length) := Nat.le_refl _
    go_wp2_with fail
    refine (run_digit _ _ (by unfold maxLen; omega)).mono ?_
    rintro e w' ⟨m, rfl, hmt, Hm, rfl⟩
    have key := Lib.hid (Lx.right_dot _ _ _ _ _ _ Hs1.out Hn.out Hr.out Hb.out Ht.out Hm.out)
    obtain ⟨r2, hr2, hrs2, Hr2⟩ := rest_of t m hmt
    have key2 : Hid (Lx.right s.data.toList = Lx.rightTail (n + m) r2.data.toList) := by unfold Hid; rw [key.out, Hr2.out]
    clear key
    have key := key2
    clear key2
    have hsl : ∀ wx, (Instr.slice 9 (.string t) (some (.int .i64 (m : Int))) none none).run Tryz.prog wx = .ok (.string r2) wx := by
      intro wx
      rw [← hr2]
      simp [go_sem, hmt]
    clear Ht Hb Hr Hn Hs1 hm Hq0 hr2 Hr2
    have hrl3 : n + m + r2.size ≤ s1.size := by omega
    clear hrs2
    rcases Nat.eq_zero_or_pos (n + m) with hz | hn0
    · obtain rfl : n = 0 := by omega
      obtain rfl : m = 0 := by omega
      clear hz
      go_wp2_with fail
      go_ret
      exact ⟨bool_eq (by rw [key.out, Lx.tail_none]), rfl⟩
    · have hne : ((n : Int) + (m : Int) == 0) = false := by rw [beq_eq_false_iff_ne]; omega
      by_cases hr0 : r2.size = 0
      · have he := empty_yes hr0
        have Hnil := Lx.nil_of_size _ hr0
        have kf : Hid (Lx.right s.data.toList = true) := by unfold Hid; rw [key.out, Hnil]; exact Lx.tail_end _ (by omega)
        clear hr0 Hnil key
        go_wp2_with fail
        go_ret
        exact ⟨bool_eq (by first | (rw [kf.out]; done) | (rw [kf.out]; simp; done) | (rw [kf.out]; simp; omega)), rfl⟩
      · have hr1 : 0 < r2.size := by omega
        have he := empty_no hr1
        clear hr0
        go_wp2_with fail
        refine (one_any _ _ _).mono ?_
        rintro e w' ⟨rfl, rfl⟩
        cases h1 : Lx.one r2[0] [101, 69]
        · have kf : Hid (Lx.right s.data.toList = false) := by unfold Hid; rw [key.out, Lx.tail_bad (n + m) (by omega) r2 hr1 h1]
          go_wp2_with fail
          go_ret
          exact ⟨bool_eq (by rw [kf.out]), rfl⟩
        · go_wp2_with fail
          obtain ⟨r1, hr, hrs, Hr⟩ := rest_of r2 1 hr1
          rw [hr]
          clear hr
          have hrs' : r1.size ≤ r2.size := by omega
          clear hrs
          refine (signed_any _ _ (by unfold maxLen; omega)).mono ?_
          rintro e w' ⟨q, rfl, hq, Hq, rfl⟩
          have Hq' : Hid (q.data.toList = Lx.signed (r2.data.toList.drop 1)) := by unfold Hid; rw [Hq.out, Hr.out]
          clear Hr Hq
          by_cases hq0 : q.size = 0
          · have he2 := empty_yes hq0
            have kf : Hid (Lx.right s.data.toList = false) := by unfold Hid; rw [key.out, Lx.tail_power0 (n + m) (by omega) r2 hr1 h1 q Hq'.out hq0]
            clear hq0
            go_wp2_with fail
            go_ret
            exact ⟨bool_eq (by rw [kf.out]), rfl⟩
          · have he2 := empty_no (s := q) (by omega)
            go_wp2_with fail
            refine (run_digit _ _ (by unfold maxLen; omega)).mono ?_
            rintro e w' ⟨j, rfl, hj, Hj, rfl⟩
            have kf := Lib.hid (Lx.tail_power1 (n + m) (by omega) r2 hr1 h1 q Hq'.out hq0 j Hj.out)
            clear hq0
            go_wp2_with fail
            go_ret
            exact ⟨bool_eq (by rw [key.out, kf.out]), rfl⟩
end Go.Proofs.YtfbdkjonjpanfaaGreatDoor
