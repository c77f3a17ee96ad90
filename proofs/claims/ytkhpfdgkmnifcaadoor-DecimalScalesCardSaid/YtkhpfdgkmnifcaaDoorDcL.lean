/- The library's functions that decimal calls, in the walks' own words; what the walks ask of the package's variables. -/
import Derived.Test.YtkhpfdgkmnifcaaDoorUpper
import Derived.Test.YtkhpfdgkmnifcaaDoorDcC
import Derived.Shelf.Strings.SlTrimAscii
import Derived.Laws.RangeString
import Derived.Lib.LaidTab
import Derived.Lib.AppendIntMem
set_option linter.unusedVariables false
set_option linter.unusedSimpArgs false
namespace Go.Proofs.YtkhpfdgkmnifcaaDoor
open Go.RowKit Go.Lib

/-- what the library's functions read of the package's variables -/
def Tabs (w : World) : Prop := (∃ m : Int, w.cell? ⟨0, 0, none⟩ = some (.int .i64 m)) ∧ Lib.TabIs Tryd.prog w "internal/strconv.uint64pow10" .u64 Lib.pow10Tab

theorem hasPrefix_any (s p : ByteArray) (w : World) :
    Calls Tryd.prog 33 #[.string s, .string p] w fun e w' => e = .returned (.bool (Lib.hasPrefix s.data.toList p.data.toList)) ∧ w = w' :=
  (Tryd.strings_HasPrefix s p w).mono fun e w' ⟨he, hw⟩ => ⟨he, hw.symm⟩
theorem trimSign_any (s : ByteArray) (w : World) :
    Calls Tryd.prog 36 #[.string s, .string ⟨#[43, 45]⟩] w fun e w' => ∃ r : ByteArray, e = .returned (.string r) ∧ Hid (r.data.toList = Lib.trimLeftS s.data.toList [43, 45]) ∧ r.size ≤ s.size ∧ Below w.heap.size w w' := by
  have hcon := Any.strings_TrimLeft_laid Tryd.lays161 (by kernel_rfl) s ⟨#[43, 45]⟩ w (by decide) (ascii_of_all (by decide))
  change Calls Tryd.prog 36 _ _ (fun e w' => e = .returned (.string ⟨(Lib.trimLeftS s.data.toList [43, 45]).toArray⟩) ∧ Below w.heap.size w w') at hcon
  exact hcon.mono fun e w' ⟨he, hw⟩ => ⟨_, he, rfl, by rw [Lib.size_mk, Lib.size_eq]; exact (List.dropWhile_sublist _).length_le, hw⟩
theorem trimLeft_any (s : ByteArray) (w : World) :
    Calls Tryd.prog 36 #[.string s, .string ⟨#[48]⟩] w fun e w' => ∃ r : ByteArray, e = .returned (.string r) ∧ Hid (r.data.toList = Lib.trimLeftB s.data.toList 48) ∧ r.size ≤ s.size ∧ w = w' :=
  (Tryd.strings_TrimLeft_one s 48 (by decide) w).mono fun e w' ⟨he, hw⟩ => ⟨_, he, rfl, by rw [Lib.size_mk, Lib.size_eq]; exact Dc.trimLeft_le _ _, hw.symm⟩
theorem trimRight_any (s : ByteArray) (w : World) (hs : s.size ≤ maxLen) :
    Calls Tryd.prog 31 #[.string s, .string ⟨#[48]⟩] w fun e w' => ∃ r : ByteArray, e = .returned (.string r) ∧ Hid (r.data.toList = Lib.trimRightB s.data.toList 48) ∧ r.size ≤ s.size ∧ w = w' :=
  (Tryd.strings_TrimRight_one s 48 (by decide) w (by unfold maxLen at hs; omega)).mono fun e w' ⟨he, hw⟩ => ⟨_, he, rfl, by rw [Lib.size_mk, Lib.size_eq]; exact Dc.trimRight_le _ _, hw.symm⟩
theorem cut_any (s sep : ByteArray) (w : World) (ht : Tabs w) (hs : s.size ≤ 1000000) :
    Calls Tryd.prog 34 #[.string s, .string sep] w fun e w' => ∃ (a b : ByteArray) (c : Bool), e = .returned (.tuple #[.string a, .string b, .bool c]) ∧ Hid (a.data.toList = (Lib.cut s.data.toList sep.data.toList).1) ∧ Hid (b.data.toList = (Lib.cut s.data.toList sep.data.toList).2.1) ∧ Hid (c = (Lib.cut s.data.toList sep.data.toList).2.2) ∧ a.size ≤ s.size ∧ b.size ≤ s.size ∧ Below w.heap.size w w' := by
  obtain ⟨⟨m, hm⟩, _⟩ := ht
  refine (Tryd.strings_Cut s sep m w (by omega) hm).mono fun e w' ⟨he, n, hw⟩ => ⟨_, _, _, he, rfl, rfl, rfl, ?_, ?_, ?_⟩
  · rw [Lib.size_mk, Lib.size_eq]; unfold Lib.cut; split <;> simp; omega
  · rw [Lib.size_mk, Lib.size_eq]; unfold Lib.cut; split <;> simp
  · rw [hw]; exact below_drewN (Below.refl _ _) n
theorem repeat_any (s : ByteArray) (c : Nat) (w : World) (hc : c ≤ 1000) (hs : s.size ≤ 1000) :
    Calls Tryd.prog 22 #[.string s, .int .i64 c] w fun e w' => ∃ r : ByteArray, e = .returned (.string r) ∧ Hid (r.data.toList = Lib.repeatL s.data.toList c) ∧ r.size = c * s.size ∧ Below w.heap.size w w' :=
  (Tryd.strings_Repeat s c w (by omega) (by have : s.size * c ≤ 1000 * 1000 := Nat.mul_le_mul hs hc; omega)).mono fun e w' ⟨he, hw⟩ => ⟨_, he, rfl, by rw [Lib.size_mk, Lib.size_eq, Lib.repeatL_length], hw⟩
theorem itoa_any (n : Int) (w : World) (ht : Tabs w) (h0 : -9223372036854775808 ≤ n) (h1 : n ≤ 9223372036854775807) :
    Calls Tryd.prog 29 #[.int .i64 n] w fun e w' => ∃ r : ByteArray, e = .returned (.string r) ∧ Hid (r.data.toList = Lib.itoa n) ∧ Below w.heap.size w w' := by
  refine (Tryd.strconv_Itoa n h0 h1 w ht.2).mono fun e w' ⟨he, k, os, hw⟩ => ⟨_, he, rfl, ?_⟩
  rw [hw]
  exact Lib.below_grow _ _ (Nat.le_refl _) k os
theorem Tabs.below {w w' : World} {b : Nat} (h : Tabs w) (hb : Below b w w') (hle : w.heap.size ≤ b) : Tabs w' := by
  obtain ⟨⟨m, hm⟩, ht⟩ := h
  refine ⟨⟨m, (hb.cell (Nat.lt_of_lt_of_le (World.block_lt_of_cell? _ _ hm) hle)).trans hm⟩, ?_⟩
  unfold Lib.TabIs World.var? at *
  cases hg : Tryd.prog.globalNamed "internal/strconv.uint64pow10" with
  | none => rw [hg] at ht; cases ht
  | some g =>
    rw [hg] at ht
    simp only [Option.bind_some] at ht ⊢
    have hlt : g < w.heap.size := by
      rcases Nat.lt_or_ge g w.heap.size with h | h
      · exact h
      · rw [Array.getElem?_eq_none h] at ht; cases ht
    rw [hb.block g (by omega)]
    exact ht
end Go.Proofs.YtkhpfdgkmnifcaaDoor
