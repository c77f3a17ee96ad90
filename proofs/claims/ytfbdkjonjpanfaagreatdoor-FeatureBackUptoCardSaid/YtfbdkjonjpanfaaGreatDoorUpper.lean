import Derived.Test.YtfbdkjonjpanfaaGreatDoorLexB
import Derived.Test.YtfbdkjonjpanfaaGreatDoorMem
import Derived.Test.YtfbdkjonjpanfaaGreatDoorApp
set_option linter.unusedVariables false
set_option linter.unusedSimpArgs false
namespace Go.Proofs.YtfbdkjonjpanfaaGreatDoor
open Go.RowKit Go.Rg

/-- the text, its first k bytes in great letters -/
def upTo (l : List UInt8) (k : Nat) : List UInt8 := (l.take k).map Lx.up ++ l.drop k

theorem upTo_zero (l : List UInt8) : upTo l 0 = l := by simp [upTo]
theorem upTo_all (l : List UInt8) (k : Nat) (h : l.length ≤ k) : upTo l k = Lx.upper l := by simp [upTo, Lx.upper, List.take_of_length_le h, List.drop_of_length_le h]
theorem upTo_at (s : ByteArray) (k : Nat) (h : k < s.size) : (upTo s.data.toList k)[k]? = some s[k] := by
  have hl : k < s.data.toList.length := by rw [← Lib.size_eq]; exact h
  unfold upTo
  rw [List.getElem?_append_right (by simp; omega), List.getElem?_drop]
  simp only [List.length_map, List.length_take, Nat.min_eq_left (Nat.le_of_lt hl), Nat.sub_self, Nat.add_zero]
  rw [List.getElem?_eq_getElem hl]; rfl
theorem upTo_succ (s : ByteArray) (k : Nat) (h : k < s.size) : upTo s.data.toList (k + 1) = (upTo s.data.toList k).set k (Lx.up s[k]) := by
  have hl : k < s.data.toList.length := by rw [← Lib.size_eq]; exact h
  unfold upTo
  have hm : ((s.data.toList.take k).map Lx.up).length = k := by rw [List.length_map, List.length_take]; omega
  rw [List.set_append_right _ _ (by omega), hm, Nat.sub_self, Lx.drop_cons s k h, List.set_cons_zero, List.take_succ_eq_append_getElem hl, List.map_append]
  simp
  rfl
theorem upTo_skip (s : ByteArray) (k : Nat) (h : k < s.size) (hs : Lx.small s[k] = false) : upTo s.data.toList (k + 1) = upTo s.data.toList k := by
  rw [upTo_succ s k h]
  have : Lx.up s[k] = s[k] := by unfold Lx.up; rw [if_neg (by rw [hs]; simp)]
  obtain ⟨hlt, he⟩ := List.getElem?_eq_some_iff.1 (upTo_at s k h)
  rw [this, ← he]
  exact List.set_getElem_self hlt

theorem upper_any (s : ByteArray) (w : World) (hs : s.size ≤ maxLen) :
    Calls Tryz.prog 51 #[.string s] w fun e w' => ∃ r : ByteArray, e = .returned (.string r) ∧ Hid (r.data.toList = Lx.upper s.data.toList) ∧ Below w.heap.size w w' := by
  have hm := hs
  unfold maxLen at hs
  obtain ⟨cap, w1, hcv, hB, hb, hlt1⟩ := run_string_bytes (P := Tryz.prog) w 9 131 5 s Tryz.underlying9 Tryz.underlying131 Tryz.underlying5
  go_enter Tryz.func51, Tryz.ntmps51
  go_wp2
  go_loopw [10] (fun i wr => ∃ k : Nat, k ≤ s.size ∧ i = .int .i64 k ∧ BytesAt wr w.heap.size (upTo s.data.toList k) ∧ Below w.heap.size w wr) (fun i _ => s.size - (intOf i).toNat)
  case atStart => exact ⟨0, Nat.zero_le _, rfl, by rw [upTo_zero]; exact hB, hb⟩
  case round =>
    obtain ⟨k, hk, rfl, hB, hb⟩ := hrel
    clear hcv
    by_cases hlt : k < s.size
    · obtain ⟨hc, hf⟩ := hB k _ (upTo_at s k hlt)
      cases hsm : Lx.small s[k]
      · have HB : Hid (BytesAt wr w.heap.size (upTo s.data.toList (k + 1))) := by unfold Hid; rw [upTo_skip s k hlt hsm]; exact hB
        clear hB
        go_wp2_with (go_at_call 82; refine (small_any _ _).mono ?_; rintro e w' ⟨rfl, rfl⟩)
        go_roundw
        case rel => exact ⟨k + 1, by omega, by go_num, HB.out, hb⟩
        case measure => simp [intOf]; omega
      · have HB := Lib.hid (hB.set k (Lx.up s[k]))
        have Hu := Lib.hid (upTo_succ s k hlt)
        have h97 : 97 ≤ (s[k].toNat : Int) ∧ (s[k].toNat : Int) ≤ 122 := by
          have := hsm; unfold Lx.small at this; simp at this; omega
        obtain ⟨h97, h122⟩ := h97
        have hup : Hid (((Lx.up s[k]).toNat : Int) = (s[k].toNat : Int) - 97 + 65) := by
          unfold Hid Lx.up
          rw [if_pos hsm, UInt8.toNat_sub_of_le _ _ (by rw [UInt8.le_iff_toNat_le]; simp; omega)]
          simp; omega
        clear hB
        go_wp2_with (go_at_call 82; refine (small_any _ _).mono ?_; rintro e w' ⟨rfl, rfl⟩)
        go_roundw
        case rel =>
          refine ⟨k + 1, by omega, by go_num, ?_, hb.setCell (p := ⟨w.heap.size, k, none⟩) (Nat.le_refl _) _⟩
          rw [Hu.out, ← hup.out]; exact HB.out
        case measure => simp [intOf]; omega
    · obtain rfl : k = s.size := by omega
      rw [upTo_all _ _ (by rw [← Lib.size_eq]; exact Nat.le_refl _)] at hB
      have hcv := run_bytesAt_string (P := Tryz.prog) wr 131 9 5 Tryz.underlying131 Tryz.underlying5 Tryz.underlying9 (cap := cap) hB (n := s.size) (by unfold Lx.upper; rw [List.length_map, ← Lib.size_eq])
      clear hB
      go_wp2_with fail
      go_ret
      exact ⟨_, rfl, rfl, hb⟩
end Go.Proofs.YtfbdkjonjpanfaaGreatDoor
