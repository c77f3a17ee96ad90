/- gromalaw10.DecimalLong, walked: noughts ahead and behind change nothing. -/
import Derived.Test.YtkhpfdgkmnifcaaDoorDcAw
import Derived.Test.YtkhpfdgkmnifcaaDoorMem
import Derived.BigQuiet
set_option linter.unusedVariables false
set_option linter.unusedSimpArgs false
namespace Go.Proofs.YtkhpfdgkmnifcaaDoor
open Go.RowKit Go.Lib Go.Rg

theorem nodot_size (n fine : Int) (h0 : 0 ≤ fine) (h9 : fine ≤ 9) (hn : 0 ≤ n) (hn2 : n ≤ 1099511627775) : (Dc.textP n fine).length ≤ 100 := by
  obtain ⟨sg, whole, part, e, hsg, hw, hwn, hp, _, hpl, hv, hone, hz⟩ := Dc.text_parts n fine h0 h9
  have h1 : whole.length ≤ 20 := by
    rcases Nat.lt_or_ge 20 whole.length with h | h
    · exfalso
      have hh : whole.head? ≠ some 48 := by
        intro hh
        have := hone hh
        omega
      have h2 := Dc.head_ge whole hw hwn hh
      have h3 : 10 ^ 20 ≤ 10 ^ (whole.length - 1) := Nat.pow_le_pow_right (by decide) (by omega)
      rw [Dc.dval_append] at hv
      have h4 : Dc.dval whole ≤ n.natAbs := by
        have hp1 : 1 ≤ 10 ^ part.length := Nat.one_le_pow _ _ (by decide)
        have hp2 : 1 ≤ 10 ^ (fine.toNat - part.length) := Nat.one_le_pow _ _ (by decide)
        have a1 : Dc.dval whole * 1 ≤ Dc.dval whole * 10 ^ part.length := Nat.mul_le_mul_left _ hp1
        have a2 : (Dc.dval whole * 10 ^ part.length + Dc.dval part) * 1 ≤ (Dc.dval whole * 10 ^ part.length + Dc.dval part) * 10 ^ (fine.toNat - part.length) := Nat.mul_le_mul_left _ hp2
        omega
      omega
    · exact h
  have h2 : sg.length ≤ 1 := by rw [hsg]; split <;> simp
  rw [e]
  simp only [List.length_append]
  split
  · simp; omega
  · simp; omega
theorem any_take (r : ByteArray) (k : Nat) (h : k < r.size) : (r.data.toList.take (k + 1)).contains 46 = ((r.data.toList.take k).contains 46 || ((r[k].toNat : Int) == 46)) := by
  rw [take_snoc r k h]
  have e : ((46 : UInt8) == r[k]) = ((r[k].toNat : Int) == 46) := by
    rw [Bool.eq_iff_iff, beq_iff_eq, beq_iff_eq, ← UInt8.toNat_inj]; simp; omega
  rw [← e]
  simp only [List.contains_eq_any_beq, List.any_append, List.any_cons, List.any_nil, Bool.or_false]

theorem lawLongW (n fine ahead behind : Int) (w : World) (ht : Tabs w) :
    Calls Tryd.prog 6 #[.agg #[.int .i64 n, .int .i64 fine, .int .i64 ahead, .int .i64 behind]] w fun e w' => e = .returned (.bool true) ∧ Below w.heap.size w w' := by
  have HT := Lib.hid ht
  clear ht
  go_enter Tryd.func6, Tryd.ntmps6
  go_wp2_with fail
  go_quiet (fail)
  have HB : Hid (Below w.heap.size w ((w.alloc (.cells #[.int .i64 n, .int .i64 fine, .int .i64 ahead, .int .i64 behind] 46)).drewN nq)) := below_drewN ((Below.refl _ w).alloc (Nat.le_refl _) _) _
  generalize (w.alloc (.cells #[.int .i64 n, .int .i64 fine, .int .i64 ahead, .int .i64 behind] 46)).drewN nq = W at *
  by_cases h0 : fine < 0
  · go_wp2_with fail
    refine (awake10_any _ (HT.out.below HB.out (Nat.le_refl _))).mono ?_
    rintro e w' ⟨rfl, h⟩
    go_wp2_with fail
    go_ret
    exact ⟨rfl, HB.out.trans (h.mono HB.out.size)⟩
  by_cases h1 : fine > 9
  · go_wp2_with fail
    refine (awake10_any _ (HT.out.below HB.out (Nat.le_refl _))).mono ?_
    rintro e w' ⟨rfl, h⟩
    go_wp2_with fail
    go_ret
    exact ⟨rfl, HB.out.trans (h.mono HB.out.size)⟩
  by_cases h2 : n < 0
  · go_wp2_with fail
    refine (awake10_any _ (HT.out.below HB.out (Nat.le_refl _))).mono ?_
    rintro e w' ⟨rfl, h⟩
    go_wp2_with fail
    go_ret
    exact ⟨rfl, HB.out.trans (h.mono HB.out.size)⟩
  by_cases h3 : n > 1099511627775
  · go_wp2_with fail
    refine (awake10_any _ (HT.out.below HB.out (Nat.le_refl _))).mono ?_
    rintro e w' ⟨rfl, h⟩
    go_wp2_with fail
    go_ret
    exact ⟨rfl, HB.out.trans (h.mono HB.out.size)⟩
  by_cases h4 : ahead < 0
  · go_wp2_with fail
    refine (awake10_any _ (HT.out.below HB.out (Nat.le_refl _))).mono ?_
    rintro e w' ⟨rfl, h⟩
    go_wp2_with fail
    go_ret
    exact ⟨rfl, HB.out.trans (h.mono HB.out.size)⟩
  by_cases h5 : ahead > 500
  · go_wp2_with fail
    refine (awake10_any _ (HT.out.below HB.out (Nat.le_refl _))).mono ?_
    rintro e w' ⟨rfl, h⟩
    go_wp2_with fail
    go_ret
    exact ⟨rfl, HB.out.trans (h.mono HB.out.size)⟩
  by_cases h6 : behind < 0
  · go_wp2_with fail
    refine (awake10_any _ (HT.out.below HB.out (Nat.le_refl _))).mono ?_
    rintro e w' ⟨rfl, h⟩
    go_wp2_with fail
    go_ret
    exact ⟨rfl, HB.out.trans (h.mono HB.out.size)⟩
  by_cases h7 : behind > 500
  · go_wp2_with fail
    refine (awake10_any _ (HT.out.below HB.out (Nat.le_refl _))).mono ?_
    rintro e w' ⟨rfl, h⟩
    go_wp2_with fail
    go_ret
    exact ⟨rfl, HB.out.trans (h.mono HB.out.size)⟩
  have g0 : 0 ≤ fine := by omega
  have g1 : fine ≤ 9 := by omega
  have g2 : 0 ≤ n := by omega
  have g3 : n ≤ 1099511627775 := by omega
  obtain ⟨x, rfl⟩ : ∃ x : Nat, ahead = x := ⟨ahead.toNat, by omega⟩
  obtain ⟨y, rfl⟩ : ∃ y : Nat, behind = y := ⟨behind.toNat, by omega⟩
  have gx : x ≤ 500 := by omega
  have gy : y ≤ 500 := by omega
  have HL := Lib.hid (Dc.long_plain n fine g0 g1 g2 g3 x y gx gy)
  have hlen := nodot_size n fine g0 g1 g2 g3
  go_wp2_with fail
  refine (text_any10 n fine _ (HT.out.below HB.out (Nat.le_refl _)) (by omega) (by omega)).mono ?_
  rintro e w1 ⟨s, rfl, Hs, hb1⟩
  have HB1 := Lib.hid (HB.out.trans (hb1.mono HB.out.size))
  clear hb1 HB
  rw [← Hs.out, ← Lib.size_eq] at hlen
  go_wp2_with fail
  go_loop [8, 58] (fun d i => ∃ k : Nat, k ≤ s.size ∧ i = .int .i64 k ∧ d = .bool ((s.data.toList.take k).contains 46)) (fun _ i => s.size - (RowKit.intOf i).toNat)
  case atStart => exact ⟨0, Nat.zero_le _, rfl, rfl⟩
  case round =>
    obtain ⟨k, hk, rfl, rfl⟩ := hrel
    by_cases hlt : k < s.size
    · have Hk := Lib.hid (any_take s k hlt)
      generalize (s.data.toList.take k).contains 46 = d at *
      cases d
      · go_wp2_with fail
        go_round
        case rel => exact ⟨k + 1, by omega, by go_num, by rw [Hk.out]; rfl⟩
        case measure => simp [RowKit.intOf]; omega
      · go_wp2_with fail
        go_round
        case rel => exact ⟨k + 1, by omega, by go_num, by rw [Hk.out]; rfl⟩
        case measure => simp [RowKit.intOf]; omega
    · obtain rfl : k = s.size := by omega
      rw [take_full]
      rw [Hs.out]
      have hsl : s.size ≤ 100 := hlen
      cases hdot : (Dc.textP n fine).contains 46
      · have ht : (s ++ (⟨#[46]⟩ : ByteArray)).size ≤ 101 := by rw [ByteArray.size_append]; show s.size + 1 ≤ 101; omega
        have HTt : Hid ((s ++ (⟨#[46]⟩ : ByteArray)).data.toList = if (Dc.textP n fine).contains 46 then Dc.textP n fine else Dc.textP n fine ++ [46]) := by
          unfold Hid; rw [hdot, if_neg (by decide), ← Hs.out]; simp
        clear hdot
        go_wp2_with fail
        generalize s ++ (⟨#[46]⟩ : ByteArray) = t at *
        obtain ⟨hts, HTL⟩ : t.size ≤ 101 ∧ Hid (t.data.toList = if (Dc.textP n fine).contains 46 then Dc.textP n fine else Dc.textP n fine ++ [46]) := ⟨ht, HTt⟩
        clear ht HTt
        go_wp2_with fail
        go_loop [7, 74] (fun v i => ∃ (k : Nat) (r : ByteArray), k ≤ x ∧ i = .int .i64 k ∧ v = .string r ∧ r.size = t.size + k ∧ Hid (r.data.toList = List.replicate k 48 ++ t.data.toList)) (fun _ i => x - (RowKit.intOf i).toNat)
        case atStart => exact ⟨0, t, Nat.zero_le _, rfl, rfl, rfl, rfl⟩
        case round =>
          obtain ⟨k, r, hk, rfl, rfl, hr, Hr⟩ := hrel
          by_cases hlt : k < x
          · have hcs : ((⟨#[48]⟩ : ByteArray) ++ r).size = r.size + 1 := by rw [ByteArray.size_append, Nat.add_comm]; rfl
            have HC : Hid (((⟨#[48]⟩ : ByteArray) ++ r).data.toList = List.replicate (k + 1) 48 ++ t.data.toList) := by
              unfold Hid; rw [List.replicate_succ, List.cons_append, ← Hr.out]; simp
            go_wp2_with fail
            go_round
            case rel => exact ⟨k + 1, _, by omega, by go_num, rfl, by omega, HC⟩
            case measure => simp [RowKit.intOf]; omega
          · obtain rfl : k = x := by omega
            clear hlt hk
            go_wp2_with fail
            go_loop [7, 80] (fun v i => ∃ (j : Nat) (q : ByteArray), j ≤ y ∧ i = .int .i64 j ∧ v = .string q ∧ q.size = r.size + j ∧ Hid (q.data.toList = r.data.toList ++ List.replicate j 48)) (fun _ i => y - (RowKit.intOf i).toNat)
            case atStart => exact ⟨0, r, Nat.zero_le _, rfl, rfl, rfl, by unfold Hid; simp⟩
            case round =>
              obtain ⟨j, q, hj, rfl, rfl, hq, Hq⟩ := hrel
              by_cases hlt : j < y
              · have hcs : (q ++ (⟨#[48]⟩ : ByteArray)).size = q.size + 1 := by rw [ByteArray.size_append]; rfl
                have HC : Hid ((q ++ (⟨#[48]⟩ : ByteArray)).data.toList = r.data.toList ++ List.replicate (j + 1) 48) := by
                  unfold Hid; rw [List.replicate_succ', ← List.append_assoc, ← Hq.out]; simp
                go_wp2_with fail
                go_round
                case rel => exact ⟨j + 1, _, by omega, by go_num, rfl, by omega, HC⟩
                case measure => simp [RowKit.intOf]; omega
              · obtain rfl : j = y := by omega
                clear hlt hj
                have HQ : Hid (q.data.toList = List.replicate k 48 ++ ((if (Dc.textP n fine).contains 46 then Dc.textP n fine else Dc.textP n fine ++ [46]) ++ List.replicate j 48)) := by
                  unfold Hid; rw [Hq.out, Hr.out, HTL.out, List.append_assoc]
                obtain ⟨e1, e2⟩ := HL.out q.data.toList HQ.out
                have E1 := Lib.hid e1
                have E2 := Lib.hid e2
                clear e1 e2
                go_wp2_with fail
                refine (scale_any q fine _ (HT.out.below HB1.out (Nat.le_refl _)) (by omega) (by omega) (by omega)).mono ?_
                rintro e w2 ⟨he, hb2⟩
                rw [E1.out] at he
                subst he
                have HB2 := Lib.hid (HB1.out.trans (hb2.mono HB1.out.size))
                clear hb2
                have HM : Hid ((((⟨#[45]⟩ : ByteArray) ++ q) ++ (⟨#[101, 48]⟩ : ByteArray)).data.toList = 45 :: (q.data.toList ++ [101, 48])) := by unfold Hid; simp
                have hms : (((⟨#[45]⟩ : ByteArray) ++ q) ++ (⟨#[101, 48]⟩ : ByteArray)).size = q.size + 3 := by rw [ByteArray.size_append, ByteArray.size_append]; show 1 + q.size + 2 = _; omega
                go_wp2_with fail
                refine (scale_any _ fine _ (HT.out.below HB2.out (Nat.le_refl _)) (by omega) (by omega) (by omega)).mono ?_
                rintro e w3 ⟨he, hb3⟩
                rw [HM.out, E2.out] at he
                subst he
                have HB3 := Lib.hid (HB2.out.trans (hb3.mono HB2.out.size))
                clear hb3
                go_wp2_with fail
                refine (awake10_any _ (HT.out.below HB3.out (Nat.le_refl _))).mono ?_
                rintro e w4 ⟨rfl, hb4⟩
                have HB4 := Lib.hid (HB3.out.trans (hb4.mono HB3.out.size))
                clear hb4
                go_wp2_with fail
                go_ret
                exact ⟨rfl, HB4.out⟩
      · have ht : s.size ≤ 101 := by omega
        have HTt : Hid (s.data.toList = if (Dc.textP n fine).contains 46 then Dc.textP n fine else Dc.textP n fine ++ [46]) := by
          unfold Hid; rw [hdot, if_pos rfl, ← Hs.out]
        clear hdot
        obtain ⟨hts, HTL⟩ : s.size ≤ 101 ∧ Hid (s.data.toList = if (Dc.textP n fine).contains 46 then Dc.textP n fine else Dc.textP n fine ++ [46]) := ⟨ht, HTt⟩
        clear ht HTt
        go_wp2_with fail
        go_loop [7, 74] (fun v i => ∃ (k : Nat) (r : ByteArray), k ≤ x ∧ i = .int .i64 k ∧ v = .string r ∧ r.size = s.size + k ∧ Hid (r.data.toList = List.replicate k 48 ++ s.data.toList)) (fun _ i => x - (RowKit.intOf i).toNat)
        case atStart => exact ⟨0, s, Nat.zero_le _, rfl, rfl, rfl, rfl⟩
        case round =>
          obtain ⟨k, r, hk, rfl, rfl, hr, Hr⟩ := hrel
          by_cases hlt : k < x
          · have hcs : ((⟨#[48]⟩ : ByteArray) ++ r).size = r.size + 1 := by rw [ByteArray.size_append, Nat.add_comm]; rfl
            have HC : Hid (((⟨#[48]⟩ : ByteArray) ++ r).data.toList = List.replicate (k + 1) 48 ++ s.data.toList) := by
              unfold Hid; rw [List.replicate_succ, List.cons_append, ← Hr.out]; simp
            go_wp2_with fail
            go_round
            case rel => exact ⟨k + 1, _, by omega, by go_num, rfl, by omega, HC⟩
            case measure => simp [RowKit.intOf]; omega
          · obtain rfl : k = x := by omega
            clear hlt hk
            go_wp2_with fail
            go_loop [7, 80] (fun v i => ∃ (j : Nat) (q : ByteArray), j ≤ y ∧ i = .int .i64 j ∧ v = .string q ∧ q.size = r.size + j ∧ Hid (q.data.toList = r.data.toList ++ List.replicate j 48)) (fun _ i => y - (RowKit.intOf i).toNat)
            case atStart => exact ⟨0, r, Nat.zero_le _, rfl, rfl, rfl, by unfold Hid; simp⟩
            case round =>
              obtain ⟨j, q, hj, rfl, rfl, hq, Hq⟩ := hrel
              by_cases hlt : j < y
              · have hcs : (q ++ (⟨#[48]⟩ : ByteArray)).size = q.size + 1 := by rw [ByteArray.size_append]; rfl
                have HC : Hid ((q ++ (⟨#[48]⟩ : ByteArray)).data.toList = r.data.toList ++ List.replicate (j + 1) 48) := by
                  unfold Hid; rw [List.replicate_succ', ← List.append_assoc, ← Hq.out]; simp
                go_wp2_with fail
                go_round
                case rel => exact ⟨j + 1, _, by omega, by go_num, rfl, by omega, HC⟩
                case measure => simp [RowKit.intOf]; omega
              · obtain rfl : j = y := by omega
                clear hlt hj
                have HQ : Hid (q.data.toList = List.replicate k 48 ++ ((if (Dc.textP n fine).contains 46 then Dc.textP n fine else Dc.textP n fine ++ [46]) ++ List.replicate j 48)) := by
                  unfold Hid; rw [Hq.out, Hr.out, HTL.out, List.append_assoc]
                obtain ⟨e1, e2⟩ := HL.out q.data.toList HQ.out
                have E1 := Lib.hid e1
                have E2 := Lib.hid e2
                clear e1 e2
                go_wp2_with fail
                refine (scale_any q fine _ (HT.out.below HB1.out (Nat.le_refl _)) (by omega) (by omega) (by omega)).mono ?_
                rintro e w2 ⟨he, hb2⟩
                rw [E1.out] at he
                subst he
                have HB2 := Lib.hid (HB1.out.trans (hb2.mono HB1.out.size))
                clear hb2
                have HM : Hid ((((⟨#[45]⟩ : ByteArray) ++ q) ++ (⟨#[101, 48]⟩ : ByteArray)).data.toList = 45 :: (q.data.toList ++ [101, 48])) := by unfold Hid; simp
                have hms : (((⟨#[45]⟩ : ByteArray) ++ q) ++ (⟨#[101, 48]⟩ : ByteArray)).size = q.size + 3 := by rw [ByteArray.size_append, ByteArray.size_append]; show 1 + q.size + 2 = _; omega
                go_wp2_with fail
                refine (scale_any _ fine _ (HT.out.below HB2.out (Nat.le_refl _)) (by omega) (by omega) (by omega)).mono ?_
                rintro e w3 ⟨he, hb3⟩
                rw [HM.out, E2.out] at he
                subst he
                have HB3 := Lib.hid (HB2.out.trans (hb3.mono HB2.out.size))
                clear hb3
                go_wp2_with fail
                refine (awake10_any _ (HT.out.below HB3.out (Nat.le_refl _))).mono ?_
                rintro e w4 ⟨rfl, hb4⟩
                have HB4 := Lib.hid (HB3.out.trans (hb4.mono HB3.out.size))
                clear hb4
                go_wp2_with fail
                go_ret
                exact ⟨rfl, HB4.out⟩
end Go.Proofs.YtkhpfdgkmnifcaaDoor
