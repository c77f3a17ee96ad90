/- Plain laws on the document's answer for texts: state by state, and byte by byte. No program in sight. -/
import Derived.Test.YtfbdkjonjpanfaaGreatDoorPure
set_option linter.unusedVariables false
set_option linter.unusedSimpArgs false
namespace Go.Proofs.YtfbdkjonjpanfaaGreatDoor.Lx
open Go

/-- the next state -/
def dstate (a : Int) (c : UInt8) : Int :=
  if 48 ≤ (c.toNat : Int) ∧ (c.toNat : Int) ≤ 57 then
    if a ≤ 2 ∧ a ≥ 0 then 2 else if a = 3 ∨ a = 4 then 4 else if a ≥ 5 then 7 else -1
  else if (c.toNat : Int) = 43 ∨ (c.toNat : Int) = 45 then
    if a = 0 then 1 else if a = 5 then 6 else -1
  else if (c.toNat : Int) = 46 then
    if a = 0 ∨ a = 1 then 3 else if a = 2 then 4 else -1
  else if ((c.toNat : Int) = 101 ∨ (c.toNat : Int) = 69) ∧ (a = 2 ∨ a = 4) then 5 else -1

def dfold (a : Int) (l : Str) : Int := l.foldl dstate a
def dacc (a : Int) : Bool := a == 2 || (a == 4 || a == 7)
def drun (a : Int) (l : Str) : Bool := dacc (dfold a l)

theorem dstate_range (a : Int) (c : UInt8) : -1 ≤ dstate a c ∧ dstate a c ≤ 7 := by
  unfold dstate; repeat' split
  all_goals omega
theorem dfold_range (a : Int) (l : Str) (h : -1 ≤ a ∧ a ≤ 7) : -1 ≤ dfold a l ∧ dfold a l ≤ 7 := by
  induction l generalizing a with
  | nil => exact h
  | cons c l ih => exact ih _ (dstate_range a c)
theorem dfold_take (s : ByteArray) (a : Int) (k : Nat) (h : k < s.size) : dfold a (s.data.toList.take (k + 1)) = dstate (dfold a (s.data.toList.take k)) s[k] := by
  unfold dfold
  rw [List.take_succ_eq_append_getElem (by rw [← Lib.size_eq]; exact h), List.foldl_append]
  rfl
theorem dfold_all (s : ByteArray) (a : Int) : dfold a (s.data.toList.take s.size) = dfold a s.data.toList := by
  rw [List.take_of_length_le (by rw [Lib.size_eq]; exact Nat.le_refl _)]

theorem digit_iff (c : UInt8) : digit c = true ↔ 48 ≤ (c.toNat : Int) ∧ (c.toNat : Int) ≤ 57 := by unfold digit; simp; omega
theorem sign_iff (c : UInt8) : one c [43, 45] = true ↔ (c.toNat : Int) = 43 ∨ (c.toNat : Int) = 45 := by
  simp only [one, List.contains_cons, List.contains_nil, Bool.or_eq_true, beq_iff_eq, ← UInt8.toNat_inj]; simp; omega
theorem pow_iff (c : UInt8) : one c [101, 69] = true ↔ (c.toNat : Int) = 101 ∨ (c.toNat : Int) = 69 := by
  simp only [one, List.contains_cons, List.contains_nil, Bool.or_eq_true, beq_iff_eq, ← UInt8.toNat_inj]; simp; omega
theorem dot_iff (c : UInt8) : c = 46 ↔ (c.toNat : Int) = 46 := by
  rw [← UInt8.toNat_inj]; simp; omega

theorem drun_bad (l : Str) : drun (-1) l = false := by
  induction l with
  | nil => rfl
  | cons c l ih =>
    have : dstate (-1) c = -1 := by unfold dstate; repeat' split
                                    all_goals omega
    unfold drun dfold at *
    rw [List.foldl_cons, this]
    exact ih
theorem drun_cons (a : Int) (c : UInt8) (l : Str) : drun a (c :: l) = drun (dstate a c) l := rfl
/-- the states 0 to 7, by what stands first -/
theorem dstate_digit (a : Int) (c : UInt8) (h : digit c = true) : dstate a c = if a ≤ 2 ∧ a ≥ 0 then 2 else if a = 3 ∨ a = 4 then 4 else if a ≥ 5 then 7 else -1 := by
  unfold dstate; rw [if_pos ((digit_iff c).1 h)]
theorem drun7 (l : Str) : drun 7 l = l.all digit := by
  induction l with
  | nil => rfl
  | cons c l ih =>
    rw [drun_cons, List.all_cons]
    cases h : digit c
    · have : dstate 7 c = -1 := by
        have := (not_congr (digit_iff c)).1 (by rw [h]; simp)
        unfold dstate; repeat' split
        all_goals omega
      rw [this, drun_bad]; rfl
    · have : dstate 7 c = 7 := by rw [dstate_digit _ _ h]; rfl
      rw [this, ih]; rfl
theorem drun6 (l : Str) : drun 6 l = (l != [] && l.all digit) := by
  cases l with
  | nil => rfl
  | cons c l =>
    rw [drun_cons, List.all_cons]
    cases h : digit c
    · have : dstate 6 c = -1 := by
        have := (not_congr (digit_iff c)).1 (by rw [h]; simp)
        unfold dstate; repeat' split
        all_goals omega
      rw [this, drun_bad]; rfl
    · have : dstate 6 c = 7 := by rw [dstate_digit _ _ h]; rfl
      rw [this, drun7]; rfl
theorem signed_no (c : UInt8) (l : Str) (h : one c [43, 45] = false) : signed (c :: l) = c :: l := by simp [signed, h]
theorem signed_yes (c : UInt8) (l : Str) (h : one c [43, 45] = true) : signed (c :: l) = l := by simp [signed, h]
theorem drun5 (l : Str) : drun 5 l = (signed l != [] && (signed l).all digit) := by
  cases l with
  | nil => rfl
  | cons c l =>
    rw [drun_cons]
    cases hs : one c [43, 45]
    · have hn := (not_congr (sign_iff c)).1 (by rw [hs]; simp)
      rw [signed_no c l hs, List.all_cons]
      cases h : digit c
      · have : dstate 5 c = -1 := by
          have := (not_congr (digit_iff c)).1 (by rw [h]; simp)
          unfold dstate; repeat' split
          all_goals omega
        rw [this, drun_bad]; rfl
      · have : dstate 5 c = 7 := by rw [dstate_digit _ _ h]; rfl
        rw [this, drun7]; rfl
    · have hn := (sign_iff c).1 hs
      have : dstate 5 c = 6 := by
        unfold dstate; repeat' split
        all_goals omega
      rw [this, drun6, signed_yes c l hs]
/-- behind the digits: the end, or a power -/
def powTail (r : Str) : Bool := r == [] || (one (r.headD 0) [101, 69] && drun 5 (r.drop 1))
theorem drun4 (l : Str) : drun 4 l = powTail (l.dropWhile digit) := by
  induction l with
  | nil => rfl
  | cons c l ih =>
    rw [drun_cons, List.dropWhile_cons]
    cases h : digit c
    · have hd := (not_congr (digit_iff c)).1 (by rw [h]; simp)
      simp only [Bool.false_eq_true, if_false]
      cases hp : one c [101, 69]
      · have hq := (not_congr (pow_iff c)).1 (by rw [hp]; simp)
        have : dstate 4 c = -1 := by
          unfold dstate; repeat' split
          all_goals omega
        rw [this, drun_bad]; simp [powTail, hp]
      · have hq := (pow_iff c).1 hp
        have : dstate 4 c = 5 := by
          unfold dstate; repeat' split
          all_goals omega
        rw [this]; simp [powTail, hp]
    · have : dstate 4 c = 4 := by rw [dstate_digit _ _ h]; rfl
      rw [this, ih]; rfl
theorem drun3 (l : Str) : drun 3 l = (digit (l.headD 0) && powTail (l.dropWhile digit)) := by
  cases l with
  | nil => rfl
  | cons c l =>
    rw [drun_cons, List.dropWhile_cons]
    cases h : digit c
    · have hd := (not_congr (digit_iff c)).1 (by rw [h]; simp)
      have : dstate 3 c = -1 := by
          unfold dstate; repeat' split
          all_goals omega
      rw [this, drun_bad]; simp [h]
    · have : dstate 3 c = 4 := by rw [dstate_digit _ _ h]; rfl
      rw [this, drun4]; simp [h]
/-- behind the first digits: the end, a point and digits, a power -/
def dotTail (r : Str) : Bool := if r.head? = some 46 then powTail ((r.drop 1).dropWhile digit) else powTail r
theorem drun2 (l : Str) : drun 2 l = dotTail (l.dropWhile digit) := by
  induction l with
  | nil => rfl
  | cons c l ih =>
    rw [drun_cons, List.dropWhile_cons]
    cases h : digit c
    · have hd := (not_congr (digit_iff c)).1 (by rw [h]; simp)
      simp only [Bool.false_eq_true, if_false]
      by_cases hdot : c = 46
      · have he := (dot_iff c).1 hdot
        have : dstate 2 c = 4 := by
          unfold dstate; repeat' split
          all_goals omega
        rw [this, drun4]; simp [dotTail, hdot]
      · have he := (not_congr (dot_iff c)).1 hdot
        cases hp : one c [101, 69]
        · have hq := (not_congr (pow_iff c)).1 (by rw [hp]; simp)
          have : dstate 2 c = -1 := by
            unfold dstate; repeat' split
            all_goals omega
          rw [this, drun_bad]; simp [dotTail, hdot, powTail, hp]
        · have hq := (pow_iff c).1 hp
          have : dstate 2 c = 5 := by
            unfold dstate; repeat' split
            all_goals omega
          rw [this]; simp [dotTail, hdot, powTail, hp]
    · have : dstate 2 c = 2 := by rw [dstate_digit _ _ h]; rfl
      rw [this, ih]; rfl
theorem drun1 (l : Str) (a : Int) (ha : a = 0 ∨ a = 1) (hs : ∀ c, l.head? = some c → one c [43, 45] = false ∨ a = 1) :
    drun a l = if digit (l.headD 0) then dotTail (l.dropWhile digit) else if l.head? = some 46 then digit ((l.drop 1).headD 0) && powTail ((l.drop 1).dropWhile digit) else false := by
  cases l with
  | nil => rcases ha with rfl | rfl <;> rfl
  | cons c l =>
    rw [drun_cons]
    simp only [List.headD_cons, List.head?_cons, List.drop_succ_cons, List.drop_zero]
    cases h : digit c
    · have hd := (not_congr (digit_iff c)).1 (by rw [h]; simp)
      simp only [Bool.false_eq_true, if_false]
      by_cases hdot : c = 46
      · have he := (dot_iff c).1 hdot
        have : dstate a c = 3 := by
          unfold dstate; repeat' split
          all_goals omega
        rw [this, drun3]; simp [hdot]
      · have he := (not_congr (dot_iff c)).1 hdot
        have : dstate a c = -1 := by
          rcases hs c rfl with hs | hs
          · have hq := (not_congr (sign_iff c)).1 (by rw [hs]; simp)
            unfold dstate; repeat' split
            all_goals omega
          · unfold dstate; repeat' split
            all_goals omega
        rw [this, drun_bad]; simp [hdot]
    · have : dstate a c = 2 := by rw [dstate_digit _ _ h]; rcases ha with rfl | rfl <;> rfl
      rw [this, drun2]; simp [List.dropWhile_cons, h]
theorem drun0 (l : Str) : drun 0 l = if digit ((signed l).headD 0) then dotTail ((signed l).dropWhile digit) else if (signed l).head? = some 46 then digit (((signed l).drop 1).headD 0) && powTail (((signed l).drop 1).dropWhile digit) else false := by
  cases l with
  | nil => rfl
  | cons c l =>
    cases hs : one c [43, 45]
    · rw [signed_no c l hs]
      exact drun1 _ 0 (.inl rfl) (fun d hd => by simp at hd; subst hd; exact .inl hs)
    · rw [signed_yes c l hs]
      have hq := (sign_iff c).1 hs
      have : dstate 0 c = 1 := by
        unfold dstate; repeat' split
        all_goals omega
      rw [drun_cons, this]
      exact drun1 _ 1 (.inr rfl) (fun d hd => .inr rfl)

theorem drop_runLen (p : UInt8 → Bool) (l : Str) : l.drop (runLen p l) = l.dropWhile p := by
  unfold runLen
  conv => lhs; rw [← List.takeWhile_append_dropWhile (p := p) (l := l)]
  rw [List.takeWhile_append_dropWhile]
  have : l = l.takeWhile p ++ l.dropWhile p := (List.takeWhile_append_dropWhile).symm
  conv => lhs; arg 2; rw [this]
  exact List.drop_left
theorem runLen_zero (p : UInt8 → Bool) (l : Str) (h0 : p 0 = false) : runLen p l = 0 ↔ p (l.headD 0) = false := by
  cases l with
  | nil => simp [runLen, h0]
  | cons c l => cases h : p c <;> simp [runLen, h]
theorem all_runLen (p : UInt8 → Bool) (l : Str) : (runLen p l == l.length) = l.all p := by
  induction l with
  | nil => rfl
  | cons c l ih =>
    cases h : p c
    · simp [runLen, h]
    · simp only [runLen, List.takeWhile_cons, h, if_true, List.length_cons, List.all_cons, Bool.true_and]
      rw [← ih]; unfold runLen
      rw [Bool.eq_iff_iff]; simp
theorem hasDot (l : Str) : Lib.hasPrefix l [46] = decide (l.head? = some 46) := by
  cases l with
  | nil => rfl
  | cons c l =>
    by_cases h : c = 46
    · subst h; simp [Lib.hasPrefix, List.isPrefixOf]
    · have h2 : ¬ 46 = c := fun e => h e.symm
      simp [Lib.hasPrefix, List.isPrefixOf, h, h2]
theorem tail_pow (k : Nat) (r : Str) (hk : k ≠ 0) : rightTail k r = powTail r := by
  unfold rightTail powTail
  rw [if_neg hk]
  by_cases hr : r = []
  · simp [hr]
  · rw [if_neg hr]
    cases h : one (r.headD 0) [101, 69]
    · simp [hr]
    · simp only [drun5, all_runLen, Bool.not_true, Bool.false_eq_true, if_false, Bool.true_and]
      have : (r == []) = false := by simpa using hr
      rw [this, Bool.false_or]

/-- THE LAW: both ask the same -/
theorem right_drun (l : Str) : right l = drun 0 l := by
  rw [drun0]
  unfold right
  simp only []
  generalize signed l = s
  rw [hasDot, drop_runLen]
  have h0 : digit 0 = false := by decide
  cases hd : digit (s.headD 0)
  · have hz := (runLen_zero digit s h0).2 hd
    have hs : s.dropWhile digit = s := by rw [← drop_runLen, hz]; rfl
    rw [hs, hz]
    simp only [Bool.false_eq_true, if_false, Nat.zero_add, decide_eq_true_eq]
    by_cases hdot : s.head? = some 46
    · rw [if_pos hdot, if_pos hdot, drop_runLen]
      cases h2 : digit ((s.drop 1).headD 0)
      · rw [(runLen_zero digit _ h0).2 h2, tail_none]; rfl
      · rw [tail_pow _ _ (fun e => by rw [(runLen_zero digit _ h0).1 e] at h2; cases h2)]; rfl
    · rw [if_neg hdot, if_neg hdot, tail_none]
  · have hnz : runLen digit s ≠ 0 := fun e => by rw [(runLen_zero digit _ h0).1 e] at hd; cases hd
    simp only [if_true, decide_eq_true_eq]
    unfold dotTail
    by_cases hdot : (s.dropWhile digit).head? = some 46
    · rw [if_pos hdot, if_pos hdot, drop_runLen, tail_pow _ _ (by omega)]
    · rw [if_neg hdot, if_neg hdot, tail_pow _ _ hnz]

/-! the classes of a byte, as the document asks for them -/
theorem blank_iff (c : UInt8) : one c [32, 9, 13, 10] = true ↔ (c.toNat : Int) = 32 ∨ (c.toNat : Int) = 9 ∨ (c.toNat : Int) = 13 ∨ (c.toNat : Int) = 10 := by
  simp only [one, List.contains_cons, List.contains_nil, Bool.or_eq_true, beq_iff_eq, ← UInt8.toNat_inj]; simp; omega
theorem single_iff (c : UInt8) : one c [40, 41, 44] = true ↔ (c.toNat : Int) = 40 ∨ (c.toNat : Int) = 41 ∨ (c.toNat : Int) = 44 := by
  simp only [one, List.contains_cons, List.contains_nil, Bool.or_eq_true, beq_iff_eq, ← UInt8.toNat_inj]; simp; omega
theorem letter_iff (c : UInt8) : letter c = true ↔ (97 ≤ (c.toNat : Int) ∧ (c.toNat : Int) ≤ 122) ∨ (65 ≤ (c.toNat : Int) ∧ (c.toNat : Int) ≤ 90) := by
  unfold letter small great; simp; omega
theorem num_iff (c : UInt8) : inNumber c = true ↔ (48 ≤ (c.toNat : Int) ∧ (c.toNat : Int) ≤ 57) ∨ (c.toNat : Int) = 43 ∨ (c.toNat : Int) = 45 ∨ (c.toNat : Int) = 46 ∨ (c.toNat : Int) = 101 ∨ (c.toNat : Int) = 69 := by
  unfold inNumber
  simp only [Bool.or_eq_true, digit_iff, sign_iff, pow_iff]
  simp only [one, List.contains_cons, List.contains_nil, Bool.or_eq_true, beq_iff_eq, ← UInt8.toNat_inj]
  simp; omega
theorem single_kind (c : UInt8) : ((c.toNat : Int) = 40 → (Lib.indexByte [40, 41, 44] c).toNat = 0) ∧ ((c.toNat : Int) = 41 → (Lib.indexByte [40, 41, 44] c).toNat = 1) ∧ ((c.toNat : Int) = 44 → (Lib.indexByte [40, 41, 44] c).toNat = 2) := by
  refine ⟨fun h => ?_, fun h => ?_, fun h => ?_⟩
  · have : c = 40 := by rw [← UInt8.toNat_inj]; simp; omega
    subst this; decide
  · have : c = 41 := by rw [← UInt8.toNat_inj]; simp; omega
    subst this; decide
  · have : c = 44 := by rw [← UInt8.toNat_inj]; simp; omega
    subst this; decide

theorem drop_at (s : ByteArray) (k j : Nat) (hkj : k ≤ j) (h : j < s.size) : ∃ r : ByteArray, r.data.toList = s.data.toList.drop k ∧ r.size = s.size - k ∧ ∃ h2 : j - k < r.size, r[j - k] = s[j] := by
  have hl := Lib.size_eq s
  have hjl : j < s.data.toList.length := by omega
  have h2 : j - k < ((s.data.toList.drop k).toArray).size := by simp only [List.size_toArray, List.length_drop]; omega
  refine ⟨⟨(s.data.toList.drop k).toArray⟩, rfl, ?_, h2, ?_⟩
  · rw [Lib.size_eq, Lib.size_eq]; simp
  · show (s.data.toList.drop k).toArray[j - k]'h2 = s.data[j]
    simp only [List.getElem_toArray, List.getElem_drop]
    have : k + (j - k) = j := by omega
    simp [this]
theorem run_stop (p : UInt8 → Bool) (s : ByteArray) (k j : Nat) (hkj : k ≤ j) (h : j < s.size) (hle : j - k ≤ runLen p (s.data.toList.drop k)) (hp : p s[j] = false) : runLen p (s.data.toList.drop k) = j - k := by
  obtain ⟨r, hr, hrs, h2, he⟩ := drop_at s k j hkj h
  rw [← hr] at hle ⊢
  exact runLen_stop p r (j - k) h2 hle (by rw [he]; exact hp)
theorem run_go (p : UInt8 → Bool) (s : ByteArray) (k j : Nat) (hkj : k ≤ j) (h : j < s.size) (hle : j - k ≤ runLen p (s.data.toList.drop k)) (hp : p s[j] = true) : j + 1 - k ≤ runLen p (s.data.toList.drop k) := by
  obtain ⟨r, hr, hrs, h2, he⟩ := drop_at s k j hkj h
  rw [← hr] at hle ⊢
  have := runLen_go p r (j - k) h2 hle (by rw [he]; exact hp)
  omega
theorem run_full (p : UInt8 → Bool) (s : ByteArray) (k : Nat) (hle : s.size - k ≤ runLen p (s.data.toList.drop k)) : runLen p (s.data.toList.drop k) = s.size - k := by
  have := runLen_le p (s.data.toList.drop k)
  rw [List.length_drop, ← Lib.size_eq] at this
  omega
theorem run_one (p : UInt8 → Bool) (s : ByteArray) (k : Nat) (h : k < s.size) (hp : p s[k] = true) : k + 1 - k ≤ runLen p (s.data.toList.drop k) :=
  run_go p s k k (Nat.le_refl _) h (by omega) hp

end Go.Proofs.YtfbdkjonjpanfaaGreatDoor.Lx
