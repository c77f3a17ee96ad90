import Derived.Test.YtfbdkjonjpanfaaGreatDoorLexA
set_option linter.unusedVariables false
set_option linter.unusedSimpArgs false
namespace Go.Proofs.YtfbdkjonjpanfaaGreatDoor
open Go.RowKit

theorem great_any (c : UInt8) (w : World) :
    Calls Tryz.prog 106 #[.int .u8 (c.toNat : Int)] w fun e w' => e = .returned (.bool (Lx.great c)) ∧ w = w' := by
  go_enter Tryz.func106, Tryz.ntmps106
  go_wp2
  all_goals go_ret
  all_goals exact ⟨bool_eq (by rw [Bool.eq_iff_iff]; simp [Lx.great]; try omega), rfl⟩

theorem letter_any (c : UInt8) (w : World) :
    Calls Tryz.prog 79 #[.int .u8 (c.toNat : Int)] w fun e w' => e = .returned (.bool (Lx.letter c)) ∧ w = w' := by
  go_enter Tryz.func79, Tryz.ntmps79
  go_wp2_with (first | (go_at_call 82; refine (small_any _ _).mono ?_; rintro e w' ⟨rfl, rfl⟩) | (go_at_call 106; refine (great_any _ _).mono ?_; rintro e w' ⟨rfl, rfl⟩))
  all_goals go_ret
  all_goals exact ⟨bool_eq (by simp_all [Lx.letter]), rfl⟩

theorem inNumber_any (c : UInt8) (w : World) :
    Calls Tryz.prog 81 #[.int .u8 (c.toNat : Int)] w fun e w' => e = .returned (.bool (Lx.inNumber c)) ∧ w = w' := by
  go_enter Tryz.func81, Tryz.ntmps81
  go_wp2_with (first | (go_at_call 47; refine (one_any _ _ _).mono ?_; rintro e w' ⟨rfl, rfl⟩) | (go_at_call 86; refine (digit_any _ _).mono ?_; rintro e w' ⟨rfl, rfl⟩))
  all_goals go_ret
  all_goals exact ⟨bool_eq (by simp_all [Lx.inNumber]), rfl⟩

theorem enter_letter (args : Array Value) (w : World) : (callFunc 79 args).run Tryz.prog w = .ok (.enter 79 args) w := enters_of Tryz.func79 (by kernel_rfl) rfl args w

theorem enter_inNumber (args : Array Value) (w : World) : (callFunc 81 args).run Tryz.prog w = .ok (.enter 81 args) w := enters_of Tryz.func81 (by kernel_rfl) rfl args w

theorem run_letter (s : ByteArray) (w : World) (hs : s.size ≤ maxLen) :
    Calls Tryz.prog 80 #[.string s, .func (.func 79) #[] #[]] w fun e w' => ∃ n : Nat, e = .returned (.int .i64 n) ∧ n ≤ s.size ∧ Hid (n = Lx.runLen Lx.letter s.data.toList) ∧ w = w' := run_any _ _ enter_letter letter_any s w hs

theorem run_inNumber (s : ByteArray) (w : World) (hs : s.size ≤ maxLen) :
    Calls Tryz.prog 80 #[.string s, .func (.func 81) #[] #[]] w fun e w' => ∃ n : Nat, e = .returned (.int .i64 n) ∧ n ≤ s.size ∧ Hid (n = Lx.runLen Lx.inNumber s.data.toList) ∧ w = w' := run_any _ _ enter_inNumber inNumber_any s w hs

end Go.Proofs.YtfbdkjonjpanfaaGreatDoor
