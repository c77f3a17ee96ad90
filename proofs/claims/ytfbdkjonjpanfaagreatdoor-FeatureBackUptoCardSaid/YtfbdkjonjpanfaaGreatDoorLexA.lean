import Derived.Test.YtfbdkjonjpanfaaGreatDoorRows
import Derived.Test.YtfbdkjonjpanfaaGreatDoorShelf
import Derived.Test.YtfbdkjonjpanfaaGreatDoorPure
import Derived.WalkKit
import Derived.WalkSpells
import Derived.WalkLawsBesides
import Derived.Lib.Hide
set_option linter.unusedVariables false
set_option linter.unusedSimpArgs false
namespace Go.Proofs.YtfbdkjonjpanfaaGreatDoor
open Go.RowKit

theorem u8_cast (c : UInt8) : ((c.toNat : Int)).toNat.toUInt8 = c := by simp

theorem u8_lt (c : UInt8) : (c.toNat : Int) ≤ 255 := by have := c.toNat_lt; omega

theorem bool_eq {a b : Bool} (h : a = b) : Ending.returned (.bool a) = .returned (.bool b) := by rw [h]
theorem int_eq {a b : Int} (h : a = b) : Ending.returned (.int .i64 a) = .returned (.int .i64 b) := by rw [h]
theorem str_eq {a b : ByteArray} (h : a = b) : Ending.returned (.string a) = .returned (.string b) := by rw [h]

theorem small_any (c : UInt8) (w : World) :
    Calls Tryz.prog 82 #[.int .u8 (c.toNat : Int)] w fun e w' => e = .returned (.bool (Lx.small c)) ∧ w = w' := by
  go_enter Tryz.func82, Tryz.ntmps82
  go_wp2
  all_goals go_ret
  all_goals exact ⟨bool_eq (by rw [Bool.eq_iff_iff]; simp [Lx.small]; try omega), rfl⟩


theorem one_any (c : UInt8) (s : ByteArray) (w : World) :
    Calls Tryz.prog 47 #[.int .u8 (c.toNat : Int), .string s] w fun e w' => e = .returned (.bool (Lx.one c s.data.toList)) ∧ w = w' := by
  go_enter Tryz.func47, Tryz.ntmps47
  go_wp2_with (go_at_call 78; refine (Tryz.strings_IndexByte _ _ _).mono ?_; rintro e w' ⟨rfl, rfl⟩)
  go_ret
  exact ⟨by rw [← Lx.indexByte_one]; simp, rfl⟩

theorem digit_any (c : UInt8) (w : World) :
    Calls Tryz.prog 86 #[.int .u8 (c.toNat : Int)] w fun e w' => e = .returned (.bool (Lx.digit c)) ∧ w = w' := by
  go_enter Tryz.func86, Tryz.ntmps86
  go_wp2_with (go_at_call 47; refine (one_any _ _ _).mono ?_; rintro e w' ⟨rfl, rfl⟩)
  go_ret
  exact ⟨bool_eq (Lx.digit_one c), rfl⟩



theorem signed_raw (s : ByteArray) (w : World) (hs : s.size ≤ maxLen) :
    Calls Tryz.prog 85 #[.string s] w fun e w' => e = .returned (.string ⟨(Lx.signed s.data.toList).toArray⟩) ∧ w = w' := by
  unfold maxLen at hs
  have he := Lx.isEmpty_of_size s
  by_cases h0 : s.size = 0
  · have hn := Lx.nil_of_size s h0
    simp only [h0, decide_true] at he
    go_enter Tryz.func85, Tryz.ntmps85
    go_wp2
    go_ret
    have : s = ⟨[].toArray⟩ := by rw [← Lib.mk_data s, hn]
    exact ⟨str_eq (by rw [hn]; exact this), rfl⟩
  · have hlt : 0 < s.size := by omega
    have hsg := Lib.hid (Lx.signed_of s hlt)
    simp only [h0, decide_false] at he
    clear h0
    go_enter Tryz.func85, Tryz.ntmps85
    go_wp2_with (first | (go_at_call 47; refine (one_any _ _ _).mono ?_; rintro e w' ⟨rfl, rfl⟩))
    all_goals go_ret
    · exact ⟨str_eq (by rw [hsg.out, if_pos ‹_›, Lx.extract_end]), rfl⟩
    · exact ⟨str_eq (by rw [hsg.out, if_neg (by simp_all), Lib.mk_data]), rfl⟩

theorem run_raw (p : UInt8 → Bool) (f : Nat) (hen : ∀ args w, (callFunc f args).run Tryz.prog w = .ok (.enter f args) w) (hf : ∀ (c : UInt8) (w : World), Calls Tryz.prog f #[.int .u8 (c.toNat : Int)] w fun e w' => e = .returned (.bool (p c)) ∧ w = w')
    (s : ByteArray) (w : World) (hs : s.size ≤ maxLen) :
    Calls Tryz.prog 80 #[.string s, .func (.func f) #[] #[]] w fun e w' => e = .returned (.int .i64 (Lx.runLen p s.data.toList)) ∧ w = w' := by
  unfold maxLen at hs
  have Hf := Lib.hid hf; clear hf
  go_enter Tryz.func80, Tryz.ntmps80
  go_wp2
  go_loop [8] (fun i => ∃ k : Nat, k ≤ s.size ∧ i = .int .i64 k ∧ k ≤ Lx.runLen p s.data.toList) (fun i => s.size - (intOf i).toNat)
  case atStart => exact ⟨0, Nat.zero_le _, rfl, Nat.zero_le _⟩
  case round =>
    obtain ⟨k, hk, rfl, hle⟩ := hrel
    by_cases hlt : k < s.size
    · cases hp : p s[k]
      · have Hs := Lib.hid (Lx.runLen_stop p s k hlt hle hp)
        go_wp2_with (with_reducible refine (Hf.out _ _).mono ?_; rintro e w' ⟨rfl, rfl⟩)
        go_ret
        exact ⟨int_eq (by rw [Hs.out]), rfl⟩
      · have Hs := Lib.hid (Lx.runLen_go p s k hlt hle hp)
        go_wp2_with (with_reducible refine (Hf.out _ _).mono ?_; rintro e w' ⟨rfl, rfl⟩)
        go_round
        case rel => exact ⟨k + 1, by omega, by go_num, Hs.out⟩
        case measure => simp [intOf]; omega
    · have hl := Lx.runLen_le p s.data.toList
      rw [← Lib.size_eq] at hl
      have Hs : Hid (Lx.runLen p s.data.toList = s.size) := by unfold Hid; omega
      go_wp2
      go_ret
      exact ⟨int_eq (by rw [Hs.out]), rfl⟩

theorem signed_any (s : ByteArray) (w : World) (hs : s.size ≤ maxLen) :
    Calls Tryz.prog 85 #[.string s] w fun e w' => ∃ t : ByteArray, e = .returned (.string t) ∧ t.size ≤ s.size ∧ Hid (t.data.toList = Lx.signed s.data.toList) ∧ w = w' :=
  (signed_raw s w hs).mono fun e w' ⟨he, hw⟩ => ⟨_, he, by have := Lx.signed_le s.data.toList; rw [← Lib.size_eq] at this; rw [Lib.size_eq]; exact this, rfl, hw⟩

theorem run_any (p : UInt8 → Bool) (f : Nat) (hen : ∀ args w, (callFunc f args).run Tryz.prog w = .ok (.enter f args) w) (hf : ∀ (c : UInt8) (w : World), Calls Tryz.prog f #[.int .u8 (c.toNat : Int)] w fun e w' => e = .returned (.bool (p c)) ∧ w = w')
    (s : ByteArray) (w : World) (hs : s.size ≤ maxLen) :
    Calls Tryz.prog 80 #[.string s, .func (.func f) #[] #[]] w fun e w' => ∃ n : Nat, e = .returned (.int .i64 n) ∧ n ≤ s.size ∧ Hid (n = Lx.runLen p s.data.toList) ∧ w = w' :=
  (run_raw p f hen hf s w hs).mono fun e w' ⟨he, hw⟩ => ⟨_, he, by have := Lx.runLen_le p s.data.toList; rwa [← Lib.size_eq] at this, rfl, hw⟩

theorem enter_digit (args : Array Value) (w : World) : (callFunc 86 args).run Tryz.prog w = .ok (.enter 86 args) w := enters_of Tryz.func86 (by kernel_rfl) rfl args w

theorem run_digit (s : ByteArray) (w : World) (hs : s.size ≤ maxLen) :
    Calls Tryz.prog 80 #[.string s, .func (.func 86) #[] #[]] w fun e w' => ∃ n : Nat, e = .returned (.int .i64 n) ∧ n ≤ s.size ∧ Hid (n = Lx.runLen Lx.digit s.data.toList) ∧ w = w' := run_any _ _ enter_digit digit_any s w hs

theorem cutPrefix_any (s p : ByteArray) (w : World) :
    Calls Tryz.prog 72 #[.string s, .string p] w fun e w' => ∃ (t : ByteArray) (b : Bool), e = .returned (.tuple #[.string t, .bool b]) ∧ t.size ≤ s.size ∧ Hid (t.data.toList = Lib.trimPrefix s.data.toList p.data.toList) ∧ Hid (b = Lib.hasPrefix s.data.toList p.data.toList) ∧ w = w' :=
  (Tryz.strings_CutPrefix s p w).mono fun e w' ⟨he, hw⟩ => ⟨_, _, he, by
    rw [Lib.size_eq, Lib.size_eq]; unfold Lib.trimPrefix; split <;> simp, rfl, rfl, hw.symm⟩

end Go.Proofs.YtfbdkjonjpanfaaGreatDoor
