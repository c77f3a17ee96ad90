/- A text's beginning, up to the place at which no token begins, has just the tokens ahead of it. No program in sight. -/
import Derived.Test.YtfbdkjonjpanfaaGreatDoorPure

set_option linter.unusedVariables false
set_option linter.unusedSimpArgs false
namespace Go.Proofs.YtfbdkjonjpanfaaGreatDoor.Lx
open Go

theorem runLen_take (p : UInt8 → Bool) (l : Str) (m : Nat) : runLen p (l.take m) = min (runLen p l) m := by
  unfold runLen
  induction l generalizing m with
  | nil => simp
  | cons c l ih =>
    cases m with
    | zero => simp
    | succ m =>
      simp only [List.take_succ_cons, List.takeWhile_cons]
      cases p c
      · simp
      · simp only [if_true, List.length_cons, ih]; omega

theorem next_fr (l : Str) (k : Nat) : (next l k).fr = k := by
  unfold next; simp only []; repeat' split
  all_goals rfl

theorem head_take (l : Str) (m : Nat) (h : 0 < m) : (l.take m).headD 0 = l.headD 0 := by
  cases l with
  | nil => simp
  | cons c l => cases m with
    | zero => omega
    | succ m => rfl

theorem next_prefix (l : Str) (k p : Nat) (hp : p < k) (hto : (next l p).to ≤ k) : next (l.take k) p = next l p := by
  have hd : (l.take k).drop p = (l.drop p).take (k - p) := by rw [List.drop_take]
  unfold next at hto ⊢
  simp only [hd, head_take _ _ (by omega : 0 < k - p)] at hto ⊢
  split
  · rfl
  · rename_i h1
    rw [if_neg h1] at hto
    split
    · rename_i h2
      rw [if_pos h2] at hto
      simp only at hto
      rw [runLen_take, Nat.min_eq_left (by omega)]
    · rename_i h2
      rw [if_neg h2] at hto
      split
      · rename_i h3
        rw [if_pos h3] at hto
        simp only at hto
        rw [runLen_take, Nat.min_eq_left (by omega), List.take_take, Nat.min_eq_left (by omega)]
      · rfl

theorem rest_fr (s : ByteArray) : ∀ n k, s.size - k ≤ n → ∀ t ∈ rest s k, k ≤ t.fr := by
  intro n
  induction n with
  | zero => intro k h t ht; rw [rest_end s k (by omega)] at ht; cases ht
  | succ n ih =>
    intro k h t ht
    by_cases hk : k < s.size
    · cases hb : one s[k] [32, 9, 13, 10]
      · rw [rest_tok s k hk hb] at ht
        have hto := next_to s k hk
        rcases List.mem_cons.1 ht with rfl | ht
        · rw [next_fr]; exact Nat.le_refl _
        · split at ht
          · cases ht
          · have := ih _ (by omega) t ht; omega
      · rw [rest_blank s k hk hb] at ht
        have := ih (k + 1) (by omega) t ht; omega
    · rw [rest_end s k (by omega)] at ht; cases ht

theorem get_take (s t : ByteArray) (k : Nat) (hk : k ≤ s.size) (ht : t.data.toList = s.data.toList.take k) : t.size = k ∧ ∀ p (h : p < k) (h1 : p < t.size) (h2 : p < s.size), t[p] = s[p] := by
  have hs : t.size = k := by rw [Lib.size_eq, ht, List.length_take, ← Lib.size_eq]; omega
  refine ⟨hs, fun p h h1 h2 => ?_⟩
  have e1 := head_drop t p h1
  have e2 := head_drop s p h2
  rw [ht, List.drop_take, head_take _ _ (by omega)] at e1
  rw [← e1, ← e2]

theorem rest_prefix (s t : ByteArray) (k : Nat) (hk : k ≤ s.size) (ht : t.data.toList = s.data.toList.take k) : ∀ n p, s.size - p ≤ n → p ≤ k → ∀ A bad, rest s p = A ++ [bad] → (∀ u ∈ A, u.kind ≠ 0) → bad.kind = 0 → bad.fr = k → rest t p = A := by
  obtain ⟨hts, hg⟩ := get_take s t k hk ht
  intro n
  induction n with
  | zero =>
    intro p h hp A bad hr hA hz hf
    rw [rest_end s p (by omega)] at hr
    cases A <;> simp at hr
  | succ n ih =>
    intro p h hp A bad hr hA hz hf
    by_cases hps : p < s.size
    · cases hb : one s[p] [32, 9, 13, 10]
      · rw [rest_tok s p hps hb] at hr
        cases A with
        | nil =>
          simp only [List.nil_append, List.cons.injEq] at hr
          have hfr : p = k := by rw [← hf, ← hr.1, next_fr]
          exact rest_end t p (by omega)
        | cons a A =>
          simp only [List.cons_append, List.cons.injEq] at hr
          obtain ⟨rfl, hr⟩ := hr
          have hnz : (next s.data.toList p).kind ≠ 0 := hA _ (by simp)
          rw [if_neg hnz] at hr
          have hto := next_to s p hps
          have hle := rest_fr s _ _ (Nat.le_refl _) bad (by rw [hr]; simp)
          rw [hf] at hle
          have hpk : p < k := by omega
          have hpt : p < t.size := by omega
          have hbt : one t[p] [32, 9, 13, 10] = false := by rw [hg p hpk hpt hps]; exact hb
          have hn : next t.data.toList p = next s.data.toList p := by rw [ht]; exact next_prefix _ _ _ hpk hle
          rw [rest_tok t p hpt hbt, hn, if_neg hnz, ih _ (by omega) hle A bad hr (fun u hu => hA u (by simp [hu])) hz hf]
      · rw [rest_blank s p hps hb] at hr
        have hpk : p < k := by
          have := rest_fr s _ _ (Nat.le_refl _) bad (by rw [hr]; simp)
          omega
        have hpt : p < t.size := by omega
        rw [rest_blank t p hpt (by rw [hg p hpk hpt hps]; exact hb)]
        exact ih (p + 1) (by omega) (by omega) A bad hr hA hz hf
    · rw [rest_end s p (by omega)] at hr
      cases A <;> simp at hr

/-- in a text's tokens the kind 0 stands last, if anywhere -/
theorem rest_last (s : ByteArray) : ∀ n p, s.size - p ≤ n → (∀ u ∈ rest s p, u.kind ≠ 0) ∨ ∃ A bad, rest s p = A ++ [bad] ∧ (∀ u ∈ A, u.kind ≠ 0) ∧ bad.kind = 0 ∧ bad.fr ≤ s.size := by
  intro n
  induction n with
  | zero => intro p h; left; rw [rest_end s p (by omega)]; intro u hu; cases hu
  | succ n ih =>
    intro p h
    by_cases hps : p < s.size
    · cases hb : one s[p] [32, 9, 13, 10]
      · rw [rest_tok s p hps hb]
        have hto := next_to s p hps
        by_cases hz : (next s.data.toList p).kind = 0
        · right
          rw [if_pos hz]
          exact ⟨[], _, rfl, (by simp), hz, by rw [next_fr]; omega⟩
        · rw [if_neg hz]
          rcases ih (next s.data.toList p).to (by omega) with h1 | ⟨A, bad, h1, h2, h3, h4⟩
          · left
            intro u hu
            rcases List.mem_cons.1 hu with rfl | hu
            · exact hz
            · exact h1 u hu
          · right
            refine ⟨_ :: A, bad, by rw [h1]; rfl, fun u hu => ?_, h3, h4⟩
            rcases List.mem_cons.1 hu with rfl | hu
            · exact hz
            · exact h2 u hu
      · rw [rest_blank s p hps hb]
        exact ih (p + 1) (by omega)
    · left; rw [rest_end s p (by omega)]; intro u hu; cases hu

/-- THE LAW: either all tokens are good, or the text ahead of the bad place has just the good ones -/
theorem scan_split (s : ByteArray) : ((∀ u ∈ scan s.data.toList, u.kind ≠ 0) ∧ badAt (scan s.data.toList) = none) ∨
    ∃ A bad, scan s.data.toList = A ++ [bad] ∧ (∀ u ∈ A, u.kind ≠ 0) ∧ bad.kind = 0 ∧ bad.fr ≤ s.size ∧ badAt (scan s.data.toList) = some bad.fr ∧ ∀ t : ByteArray, t.data.toList = s.data.toList.take bad.fr → scan t.data.toList = A := by
  rcases rest_last s s.size 0 (by omega) with h | ⟨A, bad, h1, h2, h3, h4⟩
  · rw [rest_zero] at h
    exact .inl ⟨h, badAt_none h⟩
  · right
    have hs := h1
    rw [rest_zero] at hs
    refine ⟨A, bad, hs, h2, h3, h4, ?_, fun t ht => ?_⟩
    · rw [hs]
      exact badAt_of (j := A.length) (by simp) h3 (by simpa using h2)
    · rw [← rest_zero]
      exact rest_prefix s t bad.fr h4 ht s.size 0 (by omega) (Nat.zero_le _) A bad h1 h2 h3 rfl

end Go.Proofs.YtfbdkjonjpanfaaGreatDoor.Lx
