import Derived.Test.YtkhpfdgkmnifcaaDoorLexB
import Derived.Test.YtkhpfdgkmnifcaaDoorPureR
set_option linter.unusedVariables false
set_option linter.unusedSimpArgs false
namespace Go.Proofs.YtkhpfdgkmnifcaaDoor
open Go.RowKit

theorem rdigit_any (c : UInt8) (w : World) :
    Calls Tryd.prog 44 #[.int .u8 (c.toNat : Int)] w fun e w' => e = .returned (.bool (Lx.digit c)) ∧ w = w' := by
  go_enter Tryd.func44, Tryd.ntmps44
  go_wp2
  all_goals go_ret
  all_goals exact ⟨bool_eq (by rw [Bool.eq_iff_iff]; simp [Lx.digit]; try omega), rfl⟩

theorem rstate_any (a : Int) (c : UInt8) (w : World) :
    Calls Tryd.prog 23 #[.int .i64 a, .int .u8 (c.toNat : Int)] w fun e w' => e = .returned (.int .i64 (Lx.dstate a c)) ∧ w = w' := by
  cases h : Lx.digit c
  · have hd := (not_congr (Lx.digit_iff c)).1 (by rw [h]; simp)
    go_enter Tryd.func23, Tryd.ntmps23
    go_wp2_with (go_at_call 44; refine (rdigit_any _ _).mono ?_; rintro e w' ⟨rfl, rfl⟩)
    all_goals go_ret
    all_goals refine ⟨int_eq ?_, rfl⟩
    all_goals (try simp only [beq_iff_eq, beq_eq_false_iff_ne, ne_eq] at *)
    all_goals (unfold Lx.dstate; repeat' split)
    all_goals omega
  · have hd := (Lx.digit_iff c).1 h
    go_enter Tryd.func23, Tryd.ntmps23
    go_wp2_with (go_at_call 44; refine (rdigit_any _ _).mono ?_; rintro e w' ⟨rfl, rfl⟩)
    all_goals go_ret
    all_goals refine ⟨int_eq ?_, rfl⟩
    all_goals (try simp only [beq_iff_eq, beq_eq_false_iff_ne, ne_eq] at *)
    all_goals (unfold Lx.dstate; repeat' split)
    all_goals omega

theorem rright_any (s : ByteArray) (w : World) (hs : s.size ≤ maxLen) :
    Calls Tryd.prog 9 #[.string s] w fun e w' => e = .returned (.bool (Lx.right s.data.toList)) ∧ w = w' := by
  unfold maxLen at hs
  go_enter Tryd.func9, Tryd.ntmps9
  go_wp2
  go_loop [3, 4] (fun a i => ∃ k : Nat, k ≤ s.size ∧ i = .int .i64 k ∧ a = .int .i64 (Lx.dfold 0 (s.data.toList.take k))) (fun _ i => s.size - (intOf i).toNat)
  case atStart => exact ⟨0, Nat.zero_le _, rfl, rfl⟩
  case round =>
    obtain ⟨k, hk, rfl, rfl⟩ := hrel
    by_cases hlt : k < s.size
    · have H := Lib.hid (Lx.dfold_take s 0 k hlt)
      go_wp2_with (go_at_call 23; refine (rstate_any _ _ _).mono ?_; rintro e w' ⟨rfl, rfl⟩)
      go_round
      case rel => exact ⟨k + 1, by omega, by go_num, by rw [H.out]⟩
      case measure => simp [intOf]; omega
    · obtain rfl : k = s.size := by omega
      have H := Lib.hid (Lx.dfold_all s 0)
      have H2 := Lib.hid (Lx.right_drun s.data.toList)
      have hr := Lx.dfold_range 0 (s.data.toList.take s.size) ⟨by omega, by omega⟩
      generalize hd : Lx.dfold 0 (s.data.toList.take s.size) = d at *
      have Hd := Lib.hid hd
      clear hd
      go_wp2
      all_goals go_ret
      all_goals refine ⟨bool_eq ?_, rfl⟩
      all_goals rw [H2.out, Lx.drun, ← H.out]
      all_goals (try simp only [beq_iff_eq, beq_eq_false_iff_ne, ne_eq] at *)
      all_goals (first | (simp [Lx.dacc, *]; done) | (simp [Lx.dacc, Bool.or_assoc, *]; done))

end Go.Proofs.YtkhpfdgkmnifcaaDoor
