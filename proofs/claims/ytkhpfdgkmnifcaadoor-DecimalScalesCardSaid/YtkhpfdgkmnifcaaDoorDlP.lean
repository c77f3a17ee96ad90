/- What the laws on decimal numbers ask of boxes and bytes. -/
import Derived.Test.YtkhpfdgkmnifcaaDoorDiv
import Derived.Test.YtkhpfdgkmnifcaaDoorDcG
set_option linter.unusedVariables false
set_option linter.unusedSimpArgs false
namespace Go.Proofs.YtkhpfdgkmnifcaaDoor
open Go.RowKit Go.Rg Go.Lib Bg

theorem Dc.plain_of {l sg a dt b ex sp q : List UInt8} (h : Dc.Parts l sg a dt b ex sp q) (hp : Dc.plainP l = true) : l.length ≤ 60 ∧ q.length ≤ 2 := by
  unfold Dc.plainP at hp
  rw [Bool.and_eq_true, decide_eq_true_iff, decide_eq_true_iff, Dc.pfold_parts h] at hp
  exact hp
theorem at_byte (s : ByteArray) (k : Nat) (c : UInt8) (h : s.data.toList[k]? = some c) : ∃ h : k < s.size, s[k] = c := by
  obtain ⟨hlt, he⟩ := List.getElem?_eq_some_iff.1 h
  exact ⟨by rw [Lib.size_eq]; exact hlt, he⟩
theorem byte_at (s : ByteArray) (k : Nat) (h : k < s.size) : s.data.toList[k]? = some s[k] := List.getElem?_eq_getElem (by rw [← Lib.size_eq]; exact h)
theorem byte_ne (s : ByteArray) (k : Nat) (h : k < s.size) (c : UInt8) (hc : s.data.toList[k]? ≠ some c) : ((s[k].toNat : Int) == (c.toNat : Int)) = false := by
  rw [beq_eq_false_iff_ne]
  intro e
  apply hc
  rw [byte_at s k h]
  congr 1
  rw [← UInt8.toNat_inj]; omega
theorem byte_eq (s : ByteArray) (k : Nat) (h : k < s.size) (c : UInt8) (hc : s.data.toList[k]? = some c) : (s[k].toNat : Int) = (c.toNat : Int) := by
  rw [byte_at s k h] at hc
  cases hc; rfl
theorem first_law (s : ByteArray) (j : Nat) (hj : j < s.size) (h : s.data.toList[j]? = some 48 → s.data.toList.length > j + 1 → s.data.toList[j + 1]? = some 46) :
    ((s[j].toNat : Int) == 48) = false ∨ (((s[j].toNat : Int) == 48) = true ∧ s.size ≤ j + 1) ∨ (((s[j].toNat : Int) == 48) = true ∧ ∃ h2 : j + 1 < s.size, ((s[j + 1].toNat : Int) != 46) = false) := by
  by_cases h0 : s.data.toList[j]? = some 48
  · right
    have e : ((s[j].toNat : Int) == 48) = true := by rw [beq_iff_eq]; exact byte_eq s j hj 48 h0
    by_cases h1 : s.size ≤ j + 1
    · exact .inl ⟨e, h1⟩
    · have h2 : j + 1 < s.size := by omega
      refine .inr ⟨e, h2, ?_⟩
      have := byte_eq s (j + 1) h2 46 (h h0 (by rw [← Lib.size_eq]; exact h2))
      rw [this]; rfl
  · exact .inl (byte_ne s j hj 48 h0)
theorem str_of (s : ByteArray) (l : List UInt8) (h : s.data.toList = l) : s = ⟨l.toArray⟩ := by
  subst h
  cases s; simp

end Go.Proofs.YtkhpfdgkmnifcaaDoor
