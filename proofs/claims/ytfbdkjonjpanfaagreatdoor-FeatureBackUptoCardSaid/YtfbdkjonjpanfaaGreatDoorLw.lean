/- Bounds of tokens, and how a slice of tokens reads. -/
import Derived.Test.YtfbdkjonjpanfaaGreatDoorTokens
import Derived.Test.YtfbdkjonjpanfaaGreatDoorKitB
import Derived.Test.YtfbdkjonjpanfaaGreatDoorUpper
import Derived.Deep.QuietTactic
import Derived.BigQuiet
import Derived.Deep.RegionHeld3
set_option linter.unusedVariables false
set_option linter.unusedSimpArgs false
namespace Go.Proofs.YtfbdkjonjpanfaaGreatDoor
open Go.RowKit Go.Rg

theorem bytes_eq {r : ByteArray} {l : List UInt8} (h : r.data.toList = l) : r = ⟨l.toArray⟩ := by rw [← h, Lib.mk_data]
theorem ba_ext {a b : ByteArray} (h : a.data.toList = b.data.toList) : a = b := by rw [← Lib.mk_data a, h, Lib.mk_data]
theorem reads_form {w : World} {B : Nat} {v : Value} {n : Nat} {xs : List Value} (h : Reads w B v n xs) : ∃ a cap, v = .slice a n cap ∧ n ≤ maxLen ∧ (xs ≠ [] → ∃ g off, a = some ⟨g, off, none⟩ ∧ g < B ∧ ∀ j x, xs[j]? = some x → w.cell? ⟨g, off + j, none⟩ = some x) := by
  rcases h with ⟨rfl, rfl, rfl⟩ | ⟨g, off, cap, h1, h2, h3, h4, h5⟩
  · exact ⟨none, 0, rfl, Nat.zero_le _, fun h => absurd rfl h⟩
  · exact ⟨_, cap, h1, Nat.le_trans h3 h4, fun _ => ⟨g, off, rfl, h2, h5⟩⟩

theorem flatT_at (l : List Lx.Tok) (i : Nat) (t : Lx.Tok) (h : l[i]? = some t) : (flatT l)[i * 3]? = some (.int .i64 t.kind) ∧ (flatT l)[i * 3 + 1]? = some (.int .i64 t.fr) ∧ (flatT l)[i * 3 + 2]? = some (.int .i64 t.to) := by
  induction l generalizing i with
  | nil => simp at h
  | cons u l ih =>
    cases i with
    | zero =>
      simp only [List.getElem?_cons_zero, Option.some.injEq] at h
      subst h
      exact ⟨rfl, rfl, rfl⟩
    | succ i =>
      obtain ⟨h1, h2, h3⟩ := ih i (by simpa using h)
      have e : flatT (u :: l) = tokC u ++ flatT l := rfl
      rw [e, show (i + 1) * 3 = i * 3 + 3 from by omega]
      refine ⟨?_, ?_, ?_⟩
      · rw [List.getElem?_append_right (by simp [tokC])]; simpa [tokC] using h1
      · rw [List.getElem?_append_right (by simp [tokC])]; simpa [tokC] using h2
      · rw [List.getElem?_append_right (by simp [tokC])]; simpa [tokC] using h3

theorem next_fr (l : List UInt8) (k : Nat) : (Lx.next l k).fr = k := by
  unfold Lx.next; simp only []; repeat' split
  all_goals rfl
theorem rest_bounds (s : ByteArray) : ∀ n k, s.size - k ≤ n → ∀ t ∈ Lx.rest s k, t.fr ≤ t.to ∧ t.to ≤ s.size := by
  intro n
  induction n with
  | zero => intro k h t ht; rw [Lx.rest_end s k (by omega)] at ht; cases ht
  | succ n ih =>
    intro k h t ht
    by_cases hk : k < s.size
    · cases hb : Lx.one s[k] [32, 9, 13, 10]
      · rw [Lx.rest_tok s k hk hb] at ht
        have hto := Lx.next_to s k hk
        rcases List.mem_cons.1 ht with rfl | ht
        · rw [next_fr]; exact ⟨Nat.le_of_lt hto.1, hto.2⟩
        · split at ht
          · cases ht
          · exact ih _ (by omega) t ht
      · rw [Lx.rest_blank s k hk hb] at ht
        exact ih (k + 1) (by omega) t ht
    · rw [Lx.rest_end s k (by omega)] at ht; cases ht
theorem scan_bounds (s : ByteArray) (t : Lx.Tok) (h : t ∈ Lx.scan s.data.toList) : t.fr ≤ t.to ∧ t.to ≤ s.size := by
  rw [← Lx.rest_zero] at h; exact rest_bounds s s.size 0 (by omega) t h

end Go.Proofs.YtfbdkjonjpanfaaGreatDoor
