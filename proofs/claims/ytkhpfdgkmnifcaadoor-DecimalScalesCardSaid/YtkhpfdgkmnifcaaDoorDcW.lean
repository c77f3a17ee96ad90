/- decimal's functions, walked: each tells what the plain law says. -/
import Derived.Test.YtkhpfdgkmnifcaaDoorDcL
import Derived.Test.YtkhpfdgkmnifcaaDoorDcD
set_option linter.unusedVariables false
set_option linter.unusedSimpArgs false
namespace Go.Proofs.YtkhpfdgkmnifcaaDoor
open Go.RowKit Go.Lib

theorem clamped_any (n : Int) (w : World) :
    Calls Tryd.prog 38 #[.int .i64 n] w fun e w' => e = .returned (.int .i64 (Dc.clampI n)) ∧ w = w' := by
  go_enter Tryd.func38, Tryd.ntmps38
  go_wp2
  all_goals go_ret
  all_goals exact ⟨rfl, rfl⟩

theorem take_snoc (r : ByteArray) (k : Nat) (h : k < r.size) : r.data.toList.take (k + 1) = r.data.toList.take k ++ [r[k]] := by
  rw [List.take_add_one]
  have : r.data.toList[k]? = some r[k] := by
    rw [List.getElem?_eq_getElem (by rw [← Lib.size_eq]; exact h)]; rfl
  rw [this]; rfl
theorem take_full (r : ByteArray) : r.data.toList.take r.size = r.data.toList := by rw [List.take_of_length_le]; rw [← Lib.size_eq]; exact Nat.le_refl _
theorem digit_at (r : ByteArray) (hd : r.data.toList.all Lx.digit = true) (k : Nat) (h : k < r.size) : 48 ≤ (r[k].toNat : Int) ∧ (r[k].toNat : Int) ≤ 57 := by
  rw [List.all_eq_true] at hd
  have hm : r[k] ∈ r.data.toList := by
    have : r.data.toList[k]? = some r[k] := by
      rw [List.getElem?_eq_getElem (by rw [← Lib.size_eq]; exact h)]; rfl
    exact List.mem_of_getElem? this
  exact (Lx.digit_iff _).1 (hd _ hm)
theorem take_digits (r : ByteArray) (hd : r.data.toList.all Lx.digit = true) (k : Nat) : (r.data.toList.take k).all Lx.digit = true := by
  rw [List.all_eq_true] at *
  exact fun x hx => hd x (List.mem_of_mem_take hx)

theorem power_any (s : ByteArray) (w : World) (hs : s.size ≤ 100000) (hd : (Lib.trimLeftS s.data.toList [43, 45]).all Lx.digit = true) :
    Calls Tryd.prog 37 #[.string s] w fun e w' => e = .returned (.int .i64 (Dc.powerP s.data.toList)) ∧ Below w.heap.size w w' := by
  go_enter Tryd.func37, Tryd.ntmps37
  go_wp2_with (go_at_call 33; refine (hasPrefix_any _ _ _).mono ?_; rintro e w' ⟨rfl, rfl⟩)
  refine (trimSign_any _ _).mono ?_
  rintro e w1 ⟨r, rfl, Hr, hrs, hb⟩
  rw [← Hr.out] at hd
  have Hd := Lib.hid hd
  clear hd
  go_wp2
  go_loopw [4] (fun n wr => ∃ k : Nat, k ≤ r.size ∧ n = .int .i64 (Dc.powN (r.data.toList.take k)) ∧ wr = w1.iter r k) (fun n wr => r.size - (wr.iterPos w1.heap.size))
  case atStart => exact ⟨0, Nat.zero_le _, rfl, rfl⟩
  case round =>
    obtain ⟨k, hk, rfl, rfl⟩ := hrel
    by_cases hlt : k < r.size
    · obtain ⟨h48, h57⟩ := digit_at r Hd.out k hlt
      obtain ⟨hn0, hn1⟩ := Dc.powN_range _ (take_digits r Hd.out k)
      have Hn := Lib.hid (Dc.powN_snoc (r.data.toList.take k) r[k])
      rw [← take_snoc r k hlt] at Hn
      have hnx := fun ty => run_next_ascii (P := Tryd.prog) w1 r k ty hlt (by omega)
      generalize Dc.powN (r.data.toList.take k) = n at *
      generalize (r[k].toNat : Int) = c at *
      go_wp2
      go_roundw
      case rel => exact ⟨k + 1, by omega, by rw [Hn.out], rfl⟩
      case measure => simp; omega
    · obtain rfl : k = r.size := by omega
      have hnx := fun ty => run_next_end (P := Tryd.prog) w1 r r.size ty (by omega)
      have Hn := Lib.hid (congrArg Dc.powN (take_full r))
      have hb2 : Below w.heap.size w (w1.iter r r.size) := hb.alloc hb.size _
      obtain ⟨hn0, hn1⟩ := Dc.powN_range _ (take_digits r Hd.out r.size)
      generalize hn : Dc.powN (r.data.toList.take r.size) = n at *
      clear hn
      go_wp2
      all_goals go_ret
      all_goals refine ⟨int_eq ?_, hb2⟩
      all_goals unfold Dc.powerP
      all_goals rw [← Hr.out, ← Hn.out]
      all_goals simp [*]
end Go.Proofs.YtkhpfdgkmnifcaaDoor
