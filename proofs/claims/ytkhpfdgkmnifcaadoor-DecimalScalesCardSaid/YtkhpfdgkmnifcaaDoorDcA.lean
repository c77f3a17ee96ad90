/- Plain laws on decimal numbers: what decimal computes of a text, digit by digit. No program in sight. -/
import Derived.Test.YtkhpfdgkmnifcaaDoorPureR
import Derived.Lib.TrimByte
import Derived.Lib.SlTrimSet
import Derived.Lib.IndexMore
import Derived.Lib.Repeat
import Derived.Lib.ItoaNum
set_option linter.unusedVariables false
set_option linter.unusedSimpArgs false
namespace Go.Proofs.YtkhpfdgkmnifcaaDoor.Dc
open Go Lx

/-- the number of some digits -/
def dval (l : Str) : Nat := l.foldl (fun n c => n * 10 + (c.toNat - 48)) 0

theorem dval_from (l : Str) (n : Nat) : l.foldl (fun n c => n * 10 + (c.toNat - 48)) n = n * 10 ^ l.length + dval l := by
  induction l generalizing n with
  | nil => simp [dval]
  | cons c l ih =>
    unfold dval
    rw [List.foldl_cons, List.foldl_cons, ih, ih (0 * 10 + (c.toNat - 48))]
    simp only [List.length_cons, Nat.pow_succ, Nat.zero_mul, Nat.zero_add, Nat.add_mul]
    rw [Nat.mul_assoc, Nat.mul_comm 10, Nat.add_assoc]
theorem dval_append (a b : Str) : dval (a ++ b) = dval a * 10 ^ b.length + dval b := by
  unfold dval; rw [List.foldl_append, dval_from]; rfl
theorem dval_cons (c : UInt8) (l : Str) : dval (c :: l) = (c.toNat - 48) * 10 ^ l.length + dval l := by
  have := dval_append [c] l
  simpa [dval] using this
theorem dval_snoc (l : Str) (c : UInt8) : dval (l ++ [c]) = dval l * 10 + (c.toNat - 48) := by
  rw [dval_append]; simp [dval]
theorem digit_le (c : UInt8) (h : digit c = true) : c.toNat - 48 ≤ 9 := by
  unfold digit at h; simp at h; omega
theorem digit_zero (c : UInt8) (h : digit c = true) : c.toNat - 48 = 0 ↔ c = 48 := by
  unfold digit at h; simp at h
  rw [← UInt8.toNat_inj]; simp; omega
theorem dval_lt (l : Str) (h : l.all digit = true) : dval l < 10 ^ l.length := by
  induction l with
  | nil => simp [dval]
  | cons c l ih =>
    simp only [List.all_cons, Bool.and_eq_true] at h
    have h1 := ih h.2
    have h2 := digit_le c h.1
    rw [dval_cons, List.length_cons, Nat.pow_succ]
    have : (c.toNat - 48) * 10 ^ l.length ≤ 9 * 10 ^ l.length := Nat.mul_le_mul_right _ h2
    omega
theorem dval_ge (c : UInt8) (l : Str) (h : digit c = true) (hc : c ≠ 48) : 10 ^ l.length ≤ dval (c :: l) := by
  have : c.toNat - 48 ≠ 0 := fun e => hc ((digit_zero c h).1 e)
  rw [dval_cons]
  have : 1 * 10 ^ l.length ≤ (c.toNat - 48) * 10 ^ l.length := Nat.mul_le_mul_right _ (by omega)
  omega
theorem dval_trimLeft (l : Str) : dval (Lib.trimLeftB l 48) = dval l := by
  unfold Lib.trimLeftB
  induction l with
  | nil => rfl
  | cons c l ih =>
    rw [List.dropWhile_cons]
    split
    · rename_i h
      have : c = 48 := by simpa using h
      rw [ih, dval_cons, this]; simp
    · rfl
theorem dval_zeros (k : Nat) (l : Str) : dval (l ++ List.replicate k 48) = dval l * 10 ^ k := by
  induction k with
  | zero => simp
  | succ k ih =>
    rw [List.replicate_succ', ← List.append_assoc, dval_snoc, ih, Nat.pow_succ, Nat.mul_assoc]; simp
theorem dval_ahead (k : Nat) (l : Str) : dval (List.replicate k 48 ++ l) = dval l := by
  have : dval (List.replicate k 48) = 0 := by have := dval_zeros k []; simpa [dval] using this
  rw [dval_append, this]; simp
theorem repeatL_one (c : UInt8) (k : Nat) : Lib.repeatL [c] k = List.replicate k c := by
  induction k with
  | zero => rfl
  | succ k ih => rw [Lib.repeatL, ih]; rfl
theorem takeWhile_eq (l : Str) (c : UInt8) : l.takeWhile (· == c) = List.replicate (l.takeWhile (· == c)).length c := by
  induction l with
  | nil => rfl
  | cons b l ih =>
    rw [List.takeWhile_cons]
    split
    · rename_i h
      have : b = c := by simpa using h
      rw [List.length_cons, List.replicate_succ, ← ih, this]
    · rfl
/-- what is cut off behind are noughts -/
theorem trimRight_split (l : Str) (c : UInt8) : l = Lib.trimRightB l c ++ List.replicate (l.length - (Lib.trimRightB l c).length) c := by
  have h : l.reverse = l.reverse.takeWhile (· == c) ++ l.reverse.dropWhile (· == c) := (List.takeWhile_append_dropWhile).symm
  have h2 : l = (l.reverse.dropWhile (· == c)).reverse ++ (l.reverse.takeWhile (· == c)).reverse := by
    have := congrArg List.reverse h
    rwa [List.reverse_reverse, List.reverse_append] at this
  have h3 : l.length = (Lib.trimRightB l c).length + (l.reverse.takeWhile (· == c)).length := by
    have := congrArg List.length h2
    simpa [Lib.trimRightB] using this
  have h4 : (l.reverse.takeWhile (· == c)).reverse = List.replicate (l.length - (Lib.trimRightB l c).length) c := by
    rw [takeWhile_eq, List.reverse_replicate]
    congr 1
    omega
  rw [← h4]
  exact h2
theorem trimRight_le (l : Str) (c : UInt8) : (Lib.trimRightB l c).length ≤ l.length := by
  have := congrArg List.length (trimRight_split l c)
  simp at this; omega
theorem trimLeft_split (l : Str) (c : UInt8) : l = List.replicate (l.length - (Lib.trimLeftB l c).length) c ++ Lib.trimLeftB l c := by
  have h : l = l.takeWhile (· == c) ++ l.dropWhile (· == c) := (List.takeWhile_append_dropWhile).symm
  have h3 : l.length = (l.takeWhile (· == c)).length + (Lib.trimLeftB l c).length := by
    have := congrArg List.length h
    rw [List.length_append] at this
    exact this
  have h4 : l.takeWhile (· == c) = List.replicate (l.length - (Lib.trimLeftB l c).length) c := by
    rw [takeWhile_eq]; congr 1; omega
  rw [← h4]; exact h
theorem trimLeft_le (l : Str) (c : UInt8) : (Lib.trimLeftB l c).length ≤ l.length := by
  have := congrArg List.length (trimLeft_split l c)
  simp at this; omega
theorem dval_trimRight (l : Str) : dval l = dval (Lib.trimRightB l 48) * 10 ^ (l.length - (Lib.trimRightB l 48).length) := by
  rw [← dval_zeros, ← trimRight_split]
theorem trimRight_last (l : Str) (c : UInt8) : (Lib.trimRightB l c).getLast? ≠ some c := by
  unfold Lib.trimRightB
  rw [List.getLast?_reverse]
  intro h
  have := List.head?_dropWhile_not (· == c) l.reverse
  rw [h] at this
  simp at this
theorem trimLeft_head (l : Str) (c : UInt8) : (Lib.trimLeftB l c).head? ≠ some c := by
  unfold Lib.trimLeftB
  intro h
  have := List.head?_dropWhile_not (· == c) l
  rw [h] at this
  simp at this
theorem all_of_sub {a b : Str} (p : UInt8 → Bool) (h : ∀ x ∈ a, x ∈ b) (hb : b.all p = true) : a.all p = true := by
  rw [List.all_eq_true] at *; exact fun x hx => hb x (h x hx)
theorem trimRight_all (l : Str) (c : UInt8) (p : UInt8 → Bool) (h : l.all p = true) : (Lib.trimRightB l c).all p = true := by
  rw [trimRight_split l c, List.all_append] at h; simp only [Bool.and_eq_true] at h; exact h.1
theorem trimLeft_all (l : Str) (c : UInt8) (p : UInt8 → Bool) (h : l.all p = true) : (Lib.trimLeftB l c).all p = true := by
  rw [trimLeft_split l c, List.all_append] at h; simp only [Bool.and_eq_true] at h; exact h.2
theorem last_mod (l : Str) (h : l.all digit = true) (hn : l ≠ []) (hl : l.getLast? ≠ some 48) : dval l % 10 ≠ 0 := by
  have e := List.dropLast_concat_getLast hn
  rw [List.getLast?_eq_some_getLast hn] at hl
  have hd : digit (l.getLast hn) = true := by rw [List.all_eq_true] at h; exact h _ (List.getLast_mem hn)
  have h1 := digit_le _ hd
  have h2 : (l.getLast hn).toNat - 48 ≠ 0 := fun e => hl (by rw [(digit_zero _ hd).1 e])
  rw [← e, dval_snoc]
  omega
theorem head_ge (l : Str) (h : l.all digit = true) (hn : l ≠ []) (hh : l.head? ≠ some 48) : 10 ^ (l.length - 1) ≤ dval l := by
  cases l with
  | nil => exact absurd rfl hn
  | cons c l =>
    simp only [List.all_cons, Bool.and_eq_true] at h
    have := dval_ge c l h.1 (fun e => hh (by rw [e]; rfl))
    simpa using this

/-- the digits without noughts ahead and behind -/
def short (D : Str) : Str := Lib.trimRightB (Lib.trimLeftB D 48) 48
theorem short_head (D : Str) : (short D).head? ≠ some 48 := by
  intro h
  have h1 := trimRight_split (Lib.trimLeftB D 48) 48
  have h2 : (Lib.trimLeftB D 48).head? = some 48 := by
    rw [h1]
    unfold short at h
    cases hs : Lib.trimRightB (Lib.trimLeftB D 48) 48 with
    | nil => rw [hs] at h; cases h
    | cons c l => rw [hs] at h; simpa using h
  exact trimLeft_head D 48 h2
theorem short_zero (D : Str) (h : D.all digit = true) : short D = [] ↔ dval D = 0 := by
  have h1 := dval_trimRight (Lib.trimLeftB D 48)
  rw [dval_trimLeft] at h1
  constructor
  · intro e
    unfold short at e
    rw [h1, e]; simp [dval]
  · intro e
    apply Classical.byContradiction
    intro hn
    have := head_ge (short D) (trimRight_all _ _ _ (trimLeft_all _ _ _ h)) hn (short_head D)
    have hp : 0 < 10 ^ ((short D).length - 1) := Nat.pow_pos (by decide)
    have hp2 : 0 < 10 ^ ((Lib.trimLeftB D 48).length - (Lib.trimRightB (Lib.trimLeftB D 48) 48).length) := Nat.pow_pos (by decide)
    unfold short at this hp
    have := Nat.mul_pos (Nat.lt_of_lt_of_le hp this) hp2
    omega
theorem short_val (D : Str) : dval D = dval (short D) * 10 ^ ((Lib.trimLeftB D 48).length - (short D).length) := by
  have h1 := dval_trimRight (Lib.trimLeftB D 48)
  rw [dval_trimLeft] at h1
  exact h1
theorem short_all (D : Str) (h : D.all digit = true) : (short D).all digit = true := trimRight_all _ _ _ (trimLeft_all _ _ _ h)

end Go.Proofs.YtkhpfdgkmnifcaaDoor.Dc
