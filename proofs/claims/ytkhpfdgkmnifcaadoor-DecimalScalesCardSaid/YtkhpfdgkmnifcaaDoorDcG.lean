/- gromalaw10.plain, walked. -/
import Derived.Test.YtkhpfdgkmnifcaaDoorDcF
import Derived.Test.YtkhpfdgkmnifcaaDoorDcW
set_option linter.unusedVariables false
set_option linter.unusedSimpArgs false
namespace Go.Proofs.YtkhpfdgkmnifcaaDoor
open Go.RowKit Go.Lib

theorem plain_step (s : ByteArray) (k : Nat) (h : k < s.size) : Dc.pfold (s.data.toList.take (k + 1)) = Dc.plst (Dc.pfold (s.data.toList.take k)) s[k] := by
  rw [take_snoc s k h, Dc.pfold_snoc]
theorem plain_any (s : ByteArray) (w : World) (hs : s.size ≤ 100000) :
    Calls Tryd.prog 10 #[.string s] w fun e w' => e = .returned (.bool (Dc.plainP s.data.toList)) ∧ w = w' := by
  by_cases h60 : s.size > 60
  · have HR : Dc.plainP s.data.toList = false := by unfold Dc.plainP; rw [← Lib.size_eq, decide_eq_false (by omega)]; rfl
    rw [HR]
    clear HR
    go_enter Tryd.func10, Tryd.ntmps10
    go_wp2
    go_ret
    exact ⟨rfl, rfl⟩
  · have HR : Hid (Dc.plainP s.data.toList = decide (((Dc.pfold s.data.toList).2 : Int) ≤ 2)) := by
      unfold Hid Dc.plainP
      rw [← Lib.size_eq, decide_eq_true (by omega), Bool.true_and]
      by_cases h : (Dc.pfold s.data.toList).2 ≤ 2
      · rw [decide_eq_true h, decide_eq_true (by omega)]
      · rw [decide_eq_false h, decide_eq_false (by omega)]
    generalize Dc.plainP s.data.toList = R at *
    go_enter Tryd.func10, Tryd.ntmps10
    go_wp2_with fail
    go_loop [3, 4, 11] (fun m d i => ∃ (k mm : Nat) (dd : Bool), k ≤ s.size ∧ i = .int .i64 k ∧ m = .int .i64 mm ∧ d = .bool dd ∧ mm ≤ k ∧ Hid (Dc.pfold (s.data.toList.take k) = (dd, mm))) (fun _ _ i => s.size - (RowKit.intOf i).toNat)
    case atStart => exact ⟨0, 0, false, Nat.zero_le _, rfl, rfl, rfl, Nat.le_refl _, rfl⟩
    case round =>
      obtain ⟨k, mm, dd, hk, rfl, rfl, rfl, hmk, HP⟩ := hrel
      by_cases hlt : k < s.size
      · have hst := plain_step s k hlt
        rw [HP.out] at hst
        by_cases he : s[k] = 101 ∨ s[k] = 69
        · have hst2 : Hid (Dc.pfold (s.data.toList.take (k + 1)) = (true, mm)) := by unfold Hid; rw [hst, Dc.plst, if_pos he]
          have he2 : (s[k].toNat : Int) = 101 ∨ (s[k].toNat : Int) = 69 := by
            rcases he with h | h
            · left; rw [h]; rfl
            · right; rw [h]; rfl
          clear he hst HP
          rcases he2 with h | h
          · go_wp2
            go_round
            case rel => exact ⟨k + 1, mm, true, by omega, by go_num, rfl, rfl, by omega, hst2⟩
            case measure => simp [RowKit.intOf]; omega
          · go_wp2
            go_round
            case rel => exact ⟨k + 1, mm, true, by omega, by go_num, rfl, rfl, by omega, hst2⟩
            case measure => simp [RowKit.intOf]; omega
        · have n1 : ((s[k].toNat : Int) == 101) = false := by rw [beq_eq_false_iff_ne]; exact fun h => he (.inl (by rw [← UInt8.toNat_inj]; simp; omega))
          have n2 : ((s[k].toNat : Int) == 69) = false := by rw [beq_eq_false_iff_ne]; exact fun h => he (.inr (by rw [← UInt8.toNat_inj]; simp; omega))
          by_cases hd : dd = true ∧ Lx.digit s[k] = true
          · obtain ⟨rfl, hd⟩ := hd
            have hst2 : Hid (Dc.pfold (s.data.toList.take (k + 1)) = (true, mm + 1)) := by unfold Hid; rw [hst, Dc.plst, if_neg he, if_pos ⟨rfl, hd⟩]
            obtain ⟨d1, d2⟩ := (Lx.digit_iff _).1 hd
            clear he hst HP hd
            go_wp2
            go_round
            case rel => exact ⟨k + 1, mm + 1, true, by omega, by go_num, by go_num, rfl, by omega, hst2⟩
            case measure => simp [RowKit.intOf]; omega
          · have hst2 : Hid (Dc.pfold (s.data.toList.take (k + 1)) = (dd, mm)) := by unfold Hid; rw [hst, Dc.plst, if_neg he, if_neg hd]
            have hd2 : dd = false ∨ (s[k].toNat : Int) < 48 ∨ 57 < (s[k].toNat : Int) := by
              cases dd
              · exact .inl rfl
              · right
                have : ¬ Lx.digit s[k] = true := fun h => hd ⟨rfl, h⟩
                rw [Lx.digit_iff] at this
                omega
            clear he hst HP hd
            rcases hd2 with rfl | h | h
            · go_wp2
              go_round
              case rel => exact ⟨k + 1, mm, false, by omega, by go_num, rfl, rfl, by omega, hst2⟩
              case measure => simp [RowKit.intOf]; omega
            · have hn : ¬ (48 ≤ (s[k].toNat : Int)) := by omega
              cases dd
              · go_wp2
                go_round
                case rel => exact ⟨k + 1, mm, _, by omega, by go_num, rfl, rfl, by omega, hst2⟩
                case measure => simp [RowKit.intOf]; omega
              · go_wp2
                go_round
                case rel => exact ⟨k + 1, mm, _, by omega, by go_num, rfl, rfl, by omega, hst2⟩
                case measure => simp [RowKit.intOf]; omega
            · have hn : ¬ ((s[k].toNat : Int) ≤ 57) := by omega
              have hn2 : 48 ≤ (s[k].toNat : Int) := by omega
              cases dd
              · go_wp2
                go_round
                case rel => exact ⟨k + 1, mm, _, by omega, by go_num, rfl, rfl, by omega, hst2⟩
                case measure => simp [RowKit.intOf]; omega
              · go_wp2
                go_round
                case rel => exact ⟨k + 1, mm, _, by omega, by go_num, rfl, rfl, by omega, hst2⟩
                case measure => simp [RowKit.intOf]; omega
      · obtain rfl : k = s.size := by omega
        rw [take_full] at HP
        rw [HP.out] at HR
        clear HP
        have HR2 : Hid (R = decide ((mm : Int) ≤ 2)) := HR.out
        clear HR
        go_wp2
        go_ret
        rw [HR2.out]
        exact ⟨rfl, rfl⟩
end Go.Proofs.YtkhpfdgkmnifcaaDoor
