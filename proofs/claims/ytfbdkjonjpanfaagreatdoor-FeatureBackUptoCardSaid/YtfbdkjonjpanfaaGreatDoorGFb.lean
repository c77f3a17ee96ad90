/- Plain laws on decimal numbers: what decimal computes of a text, digit by digit. No program in sight. -/
import Derived.Test.YtfbdkjonjpanfaaGreatDoorPureR
import Derived.Lib.TrimByte
import Derived.Lib.SlTrimSet
import Derived.Lib.IndexMore
import Derived.Lib.Repeat
import Derived.Lib.ItoaNum

set_option linter.unusedVariables false
set_option linter.unusedSimpArgs false
namespace Go.Proofs.YtfbdkjonjpanfaaGreatDoor.Dc
open Go Lx

/-- the number of some digits -/
def dval (l : Str) : Nat := l.foldl (fun n c => n * 10 + (c.toNat - 48)) 0

theorem dval_from (l : Str) (n : Nat) : l.foldl (fun n c => n * 10 + (c.toNat - 48)) n = n * 10 ^ l.length + dval l := by
  induction l generalizing n with
  | nil => simp [dval]
  | cons c l ih =>
    unfold dval
    rw [List.foldl_cons, List.foldl_cons, ih, ih (0 * 10 + (c.toNat - 48))]
    simp only [List.length_cons, Nat.pow_succ, Nat.zero_mul, Nat.zero_add, Nat.add_mul]
    rw [Nat.mul_assoc, Nat.mul_comm 10, Nat.add_assoc]
theorem dval_append (a b : Str) : dval (a ++ b) = dval a * 10 ^ b.length + dval b := by
  unfold dval; rw [List.foldl_append, dval_from]; rfl
theorem dval_cons (c : UInt8) (l : Str) : dval (c :: l) = (c.toNat - 48) * 10 ^ l.length + dval l := by
  have := dval_append [c] l
  simpa [dval] using this
theorem dval_snoc (l : Str) (c : UInt8) : dval (l ++ [c]) = dval l * 10 + (c.toNat - 48) := by
  rw [dval_append]; simp [dval]
theorem digit_le (c : UInt8) (h : digit c = true) : c.toNat - 48 ≤ 9 := by
  unfold digit at h; simp at h; omega
theorem digit_zero (c : UInt8) (h : digit c = true) : c.toNat - 48 = 0 ↔ c = 48 := by
  unfold digit at h; simp at h
  rw [← UInt8.toNat_inj]; simp; omega
theorem dval_lt (l : Str) (h : l.all digit = true) : dval l < 10 ^ l.length := by
  induction l with
  | nil => simp [dval]
  | cons c l ih =>
    simp only [List.all_cons, Bool.and_eq_true] at h
    have h1 := ih h.2
    have h2 := digit_le c h.1
    rw [dval_cons, List.length_cons, Nat.pow_succ]
    have : (c.toNat - 48) * 10 ^ l.length ≤ 9 * 10 ^ l.length := Nat.mul_le_mul_right _ h2
    omega
theorem dval_ge (c : UInt8) (l : Str) (h : digit c = true) (hc : c ≠ 48) : 10 ^ l.length ≤ dval (c :: l) := by
  have : c.toNat - 48 ≠ 0 := fun e => hc ((digit_zero c h).1 e)
  rw [dval_cons]
  have : 1 * 10 ^ l.length ≤ (c.toNat - 48) * 10 ^ l.length := Nat.mul_le_mul_right _ (by omega)
  omega
theorem dval_trimLeft (l : Str) : dval (Lib.trimLeftB l 48) = dval l := by
  unfold Lib.trimLeftB
  induction l with
  | nil => rfl
  | cons c l ih =>
    rw [List.dropWhile_cons]
    split
    · rename_i h
      have : c = 48 := by simpa using h
      rw [ih, dval_cons, this]; simp
    · rfl
theorem dval_zeros (k : Nat) (l : Str) : dval (l ++ List.replicate k 48) = dval l * 10 ^ k := by
  induction k with
  | zero => simp
  | succ k ih =>
    rw [List.replicate_succ', ← List.append_assoc, dval_snoc, ih, Nat.pow_succ, Nat.mul_assoc]; simp
theorem dval_ahead (k : Nat) (l : Str) : dval (List.replicate k 48 ++ l) = dval l := by
  have : dval (List.replicate k 48) = 0 := by have := dval_zeros k []; simpa [dval] using this
  rw [dval_append, this]; simp
theorem repeatL_one (c : UInt8) (k : Nat) : Lib.repeatL [c] k = List.replicate k c := by
  induction k with
  | zero => rfl
  | succ k ih => rw [Lib.repeatL, ih]; rfl
theorem takeWhile_eq (l : Str) (c : UInt8) : l.takeWhile (· == c) = List.replicate (l.takeWhile (· == c)).length c := by
  induction l with
  | nil => rfl
  | cons b l ih =>
    rw [List.takeWhile_cons]
    split
    · rename_i h
      have : b = c := by simpa using h
      rw [List.length_cons, List.replicate_succ, ← ih, this]
    · rfl
/-- what is cut off behind are noughts -/
theorem trimRight_split (l : Str) (c : UInt8) : l = Lib.trimRightB l c ++ List.replicate (l.length - (Lib.trimRightB l c).length) c := by
  have h : l.reverse = l.reverse.takeWhile (· == c) ++ l.reverse.dropWhile (· == c) := (List.takeWhile_append_dropWhile).symm
  have h2 : l = (l.reverse.dropWhile (· == c)).reverse ++ (l.reverse.takeWhile (· == c)).reverse := by
    have := congrArg List.reverse h
    rwa [List.reverse_reverse, List.reverse_append] at this
  have h3 : l.length = (Lib.trimRightB l c).length + (l.reverse.takeWhile (· == c)).length := by
    have := congrArg List.length h2
    simpa [Lib.trimRightB] using this
  have h4 : (l.reverse.takeWhile (· == c)).reverse = List.replicate (l.length - (Lib.trimRightB l c).length) c := by
    rw [takeWhile_eq, List.reverse_replicate]
    congr 1
    omega
  rw [← h4]
  exact h2
theorem trimRight_le (l : Str) (c : UInt8) : (Lib.trimRightB l c).length ≤ l.length := by
  have := congrArg List.length (trimRight_split l c)
  simp at this; omega
theorem trimLeft_split (l : Str) (c : UInt8) : l = List.replicate (l.length - (Lib.trimLeftB l c).length) c ++ Lib.trimLeftB l c := by
  have h : l = l.takeWhile (· == c) ++ l.dropWhile (· == c) := (List.takeWhile_append_dropWhile).symm
  have h3 : l.length = (l.takeWhile (· == c)).length + (Lib.trimLeftB l c).length := by
    have := congrArg List.length h
    rw [List.length_append] at this
    exact this
  have h4 : l.takeWhile (· == c) = List.replicate (l.length - (Lib.trimLeftB l c).length) c := by
    rw [takeWhile_eq]; congr 1; omega
  rw [← h4]; exact h
theorem trimLeft_le (l : Str) (c : UInt8) : (Lib.trimLeftB l c).length ≤ l.length := by
  have := congrArg List.length (trimLeft_split l c)
  simp at this; omega
theorem dval_trimRight (l : Str) : dval l = dval (Lib.trimRightB l 48) * 10 ^ (l.length - (Lib.trimRightB l 48).length) := by
  rw [← dval_zeros, ← trimRight_split]
theorem trimRight_last (l : Str) (c : UInt8) : (Lib.trimRightB l c).getLast? ≠ some c := by
  unfold Lib.trimRightB
  rw [List.getLast?_reverse]
  intro h
  have := List.head?_dropWhile_not (· == c) l.reverse
  rw [h] at this
  simp at this
theorem trimLeft_head (l : Str) (c : UInt8) : (Lib.trimLeftB l c).head? ≠ some c := by
  unfold Lib.trimLeftB
  intro h
  have := List.head?_dropWhile_not (· == c) l
  rw [h] at this
  simp at this
theorem all_of_sub {a b : Str} (p : UInt8 → Bool) (h : ∀ x ∈ a, x ∈ b) (hb : b.all p = true) : a.all p = true := by
  rw [List.all_eq_true] at *; exact fun x hx => hb x (h x hx)
theorem trimRight_all (l : Str) (c : UInt8) (p : UInt8 → Bool) (h : l.all p = true) : (Lib.trimRightB l c).all p = true := by
  rw [trimRight_split l c, List.all_append] at h; simp only [Bool.and_eq_true] at h; exact h.1
theorem trimLeft_all (l : Str) (c : UInt8) (p : UInt8 → Bool) (h : l.all p = true) : (Lib.trimLeftB l c).all p = true := by
  rw [trimLeft_split l c, List.all_append] at h; simp only [Bool.and_eq_true] at h; exact h.2
theorem last_mod (l : Str) (h : l.all digit = true) (hn : l ≠ []) (hl : l.getLast? ≠ some 48) : dval l % 10 ≠ 0 := by
  have e := List.dropLast_concat_getLast hn
  rw [List.getLast?_eq_some_getLast hn] at hl
  have hd : digit (l.getLast hn) = true := by rw [List.all_eq_true] at h; exact h _ (List.getLast_mem hn)
  have h1 := digit_le _ hd
  have h2 : (l.getLast hn).toNat - 48 ≠ 0 := fun e => hl (by rw [(digit_zero _ hd).1 e])
  rw [← e, dval_snoc]
  omega
theorem head_ge (l : Str) (h : l.all digit = true) (hn : l ≠ []) (hh : l.head? ≠ some 48) : 10 ^ (l.length - 1) ≤ dval l := by
  cases l with
  | nil => exact absurd rfl hn
  | cons c l =>
    simp only [List.all_cons, Bool.and_eq_true] at h
    have := dval_ge c l h.1 (fun e => hh (by rw [e]; rfl))
    simpa using this

/-- the digits without noughts ahead and behind -/
def short (D : Str) : Str := Lib.trimRightB (Lib.trimLeftB D 48) 48
theorem short_head (D : Str) : (short D).head? ≠ some 48 := by
  intro h
  have h1 := trimRight_split (Lib.trimLeftB D 48) 48
  have h2 : (Lib.trimLeftB D 48).head? = some 48 := by
    rw [h1]
    unfold short at h
    cases hs : Lib.trimRightB (Lib.trimLeftB D 48) 48 with
    | nil => rw [hs] at h; cases h
    | cons c l => rw [hs] at h; simpa using h
  exact trimLeft_head D 48 h2
theorem short_zero (D : Str) (h : D.all digit = true) : short D = [] ↔ dval D = 0 := by
  have h1 := dval_trimRight (Lib.trimLeftB D 48)
  rw [dval_trimLeft] at h1
  constructor
  · intro e
    unfold short at e
    rw [h1, e]; simp [dval]
  · intro e
    apply Classical.byContradiction
    intro hn
    have := head_ge (short D) (trimRight_all _ _ _ (trimLeft_all _ _ _ h)) hn (short_head D)
    have hp : 0 < 10 ^ ((short D).length - 1) := Nat.pow_pos (by decide)
    have hp2 : 0 < 10 ^ ((Lib.trimLeftB D 48).length - (Lib.trimRightB (Lib.trimLeftB D 48) 48).length) := Nat.pow_pos (by decide)
    unfold short at this hp
    have := Nat.mul_pos (Nat.lt_of_lt_of_le hp this) hp2
    omega
theorem short_val (D : Str) : dval D = dval (short D) * 10 ^ ((Lib.trimLeftB D 48).length - (short D).length) := by
  have h1 := dval_trimRight (Lib.trimLeftB D 48)
  rw [dval_trimLeft] at h1
  exact h1
theorem short_all (D : Str) (h : D.all digit = true) : (short D).all digit = true := trimRight_all _ _ _ (trimLeft_all _ _ _ h)

end Go.Proofs.YtfbdkjonjpanfaaGreatDoor.Dc

set_option linter.unusedVariables false
set_option linter.unusedSimpArgs false
namespace Go.Proofs.YtfbdkjonjpanfaaGreatDoor.Dc
open Go Lx

/-- a sign, or none -/
def isSign (l : Str) : Prop := l = [] ∨ l = [43] ∨ l = [45]
/-- the parts of a right text: its sign, the digits, the point, the digits behind it, the power's letter, its sign, its digits -/
structure Parts (l sg a dt b ex sp q : Str) : Prop where
  eq : l = sg ++ (a ++ (dt ++ (b ++ (ex ++ (sp ++ q)))))
  hsg : isSign sg
  ha : a.all digit = true
  hb : b.all digit = true
  hd : (dt = [] ∧ b = []) ∨ dt = [46]
  hn : a ++ b ≠ []
  he : (ex = [] ∧ sp = [] ∧ q = []) ∨ ((ex = [101] ∨ ex = [69]) ∧ isSign sp ∧ q.all digit = true ∧ q ≠ [])

theorem signed_sign (sg r : Str) (hs : isSign sg) (hr : ∀ c, r.head? = some c → one c [43, 45] = false) : signed (sg ++ r) = r := by
  rcases hs with rfl | rfl | rfl
  · cases r with
    | nil => rfl
    | cons c r => exact signed_no c r (hr c rfl)
  · rfl
  · rfl
theorem signed_split (l : Str) : ∃ sg, isSign sg ∧ l = sg ++ signed l := by
  cases l with
  | nil => exact ⟨[], .inl rfl, rfl⟩
  | cons c r =>
    cases h : one c [43, 45]
    · exact ⟨[], .inl rfl, by rw [signed_no c r h]; rfl⟩
    · refine ⟨[c], ?_, by rw [signed_yes c r h]; rfl⟩
      have := (sign_iff c).1 h
      rcases this with h | h
      · exact .inr (.inl (by rw [List.cons.injEq]; exact ⟨by rw [← UInt8.toNat_inj]; simp; omega, rfl⟩))
      · exact .inr (.inr (by rw [List.cons.injEq]; exact ⟨by rw [← UInt8.toNat_inj]; simp; omega, rfl⟩))
theorem digit_nosign (c : UInt8) (h : digit c = true) : one c [43, 45] = false := by
  have h1 := (digit_iff c).1 h
  cases hs : one c [43, 45]
  · rfl
  · have := (sign_iff c).1 hs; omega
theorem dropWhile_all (a r : Str) (ha : a.all digit = true) (hr : ∀ c, r.head? = some c → digit c = false) : (a ++ r).dropWhile digit = r := by
  induction a with
  | nil =>
    cases r with
    | nil => rfl
    | cons c r => simp [hr c rfl]
  | cons c a ih =>
    simp only [List.all_cons, Bool.and_eq_true] at ha
    simp [ha.1, ih ha.2]
theorem pow_tail (ex sp q : Str) (he : (ex = [] ∧ sp = [] ∧ q = []) ∨ ((ex = [101] ∨ ex = [69]) ∧ isSign sp ∧ q.all digit = true ∧ q ≠ [])) : powTail (ex ++ (sp ++ q)) = true := by
  rcases he with ⟨rfl, rfl, rfl⟩ | ⟨h1, h2, h3, h4⟩
  · rfl
  · have hq : signed (sp ++ q) = q := by
      apply signed_sign _ _ h2
      intro c hc
      cases q with
      | nil => cases hc
      | cons d q =>
        simp only [List.head?_cons, Option.some.injEq] at hc
        subst hc
        simp only [List.all_cons, Bool.and_eq_true] at h3
        exact digit_nosign _ h3.1
    have hne : (q != []) = true := by simpa using h4
    rcases h1 with rfl | rfl <;> simp [powTail, drun5, hq, h3, hne, one] <;> exact h4
theorem tail_pow' (r : Str) (h : powTail r = true) : ∃ ex sp q, r = ex ++ (sp ++ q) ∧ ((ex = [] ∧ sp = [] ∧ q = []) ∨ ((ex = [101] ∨ ex = [69]) ∧ isSign sp ∧ q.all digit = true ∧ q ≠ [])) := by
  cases r with
  | nil => exact ⟨[], [], [], rfl, .inl ⟨rfl, rfl, rfl⟩⟩
  | cons c r =>
    simp [powTail, drun5] at h
    obtain ⟨h1, h2, h3⟩ := h
    obtain ⟨sp, hs, he⟩ := signed_split r
    refine ⟨[c], sp, signed r, by rw [← he]; rfl, .inr ⟨?_, hs, by simpa using h3, h2⟩⟩
    have := (pow_iff c).1 h1
    rcases this with h | h
    · exact .inl (by rw [List.cons.injEq]; exact ⟨by rw [← UInt8.toNat_inj]; simp; omega, rfl⟩)
    · exact .inr (by rw [List.cons.injEq]; exact ⟨by rw [← UInt8.toNat_inj]; simp; omega, rfl⟩)
theorem exp_head (ex sp q : Str) (he : (ex = [] ∧ sp = [] ∧ q = []) ∨ ((ex = [101] ∨ ex = [69]) ∧ isSign sp ∧ q.all digit = true ∧ q ≠ [])) (c : UInt8) (h : (ex ++ (sp ++ q)).head? = some c) : c = 101 ∨ c = 69 := by
  rcases he with ⟨rfl, rfl, rfl⟩ | ⟨h1 | h1, _⟩
  · cases h
  · subst h1; simp at h; exact .inl h.symm
  · subst h1; simp at h; exact .inr h.symm
theorem takeWhile_all (l : Str) : (l.takeWhile digit).all digit = true := by
  induction l with
  | nil => rfl
  | cons c l ih =>
    rw [List.takeWhile_cons]
    split
    · rename_i h; simp only [List.all_cons, ih, h, Bool.and_self]
    · rfl
theorem parts_of_right (l : Str) (h : right l = true) : ∃ sg a dt b ex sp q, Parts l sg a dt b ex sp q := by
  rw [right_drun, drun0] at h
  obtain ⟨sg, hsg, he⟩ := signed_split l
  have hs : signed l = (signed l).takeWhile digit ++ (signed l).dropWhile digit := (List.takeWhile_append_dropWhile).symm
  split at h
  · rename_i hd
    have hne : (signed l).takeWhile digit ≠ [] := by
      cases hh : signed l with
      | nil => rw [hh] at hd; cases hd
      | cons c r => rw [hh] at hd; simp at hd; simp [hd]
    unfold dotTail at h
    split at h
    · rename_i hdot
      obtain ⟨ex, sp, q, hq, hx⟩ := tail_pow' _ h
      have hr : (signed l).dropWhile digit = [46] ++ ((signed l).dropWhile digit).drop 1 := by
        cases hh : (signed l).dropWhile digit with
        | nil => rw [hh] at hdot; cases hdot
        | cons c r => rw [hh] at hdot; simp at hdot; simp [hdot]
      have hb : ((signed l).dropWhile digit).drop 1 = (((signed l).dropWhile digit).drop 1).takeWhile digit ++ (((signed l).dropWhile digit).drop 1).dropWhile digit := (List.takeWhile_append_dropWhile).symm
      refine ⟨sg, (signed l).takeWhile digit, [46], (((signed l).dropWhile digit).drop 1).takeWhile digit, ex, sp, q, ?_, hsg, takeWhile_all _, takeWhile_all _, .inr rfl, by simp [hne], hx⟩
      rw [← hq, ← hb, ← hr, ← hs, ← he]
    · obtain ⟨ex, sp, q, hq, hx⟩ := tail_pow' _ h
      refine ⟨sg, (signed l).takeWhile digit, [], [], ex, sp, q, ?_, hsg, takeWhile_all _, rfl, .inl ⟨rfl, rfl⟩, by simpa using hne, hx⟩
      rw [List.nil_append, List.nil_append, ← hq, ← hs, ← he]
  · rename_i hd
    split at h
    · rename_i hdot
      simp only [Bool.and_eq_true] at h
      obtain ⟨ex, sp, q, hq, hx⟩ := tail_pow' _ h.2
      have hr : signed l = [46] ++ (signed l).drop 1 := by
        cases hh : signed l with
        | nil => rw [hh] at hdot; cases hdot
        | cons c r => rw [hh] at hdot; simp at hdot; simp [hdot]
      have hb : (signed l).drop 1 = ((signed l).drop 1).takeWhile digit ++ ((signed l).drop 1).dropWhile digit := (List.takeWhile_append_dropWhile).symm
      have hne : ((signed l).drop 1).takeWhile digit ≠ [] := by
        cases hh : (signed l).drop 1 with
        | nil => rw [hh] at h; have := h.1; simp [digit] at this
        | cons c r => rw [hh] at h; have := h.1; simp at this; simp [this]
      refine ⟨sg, [], [46], ((signed l).drop 1).takeWhile digit, ex, sp, q, ?_, hsg, rfl, takeWhile_all _, .inr rfl, by simpa using hne, hx⟩
      rw [← hq, ← hb, List.nil_append, ← hr, ← he]
    · cases h
theorem right_of_parts (l sg a dt b ex sp q : Str) (h : Parts l sg a dt b ex sp q) : right l = true := by
  obtain ⟨eq, hsg, ha, hb, hd, hn, he⟩ := h
  have hp := pow_tail ex sp q he
  have hx := exp_head ex sp q he
  have hbx : (b ++ (ex ++ (sp ++ q))).dropWhile digit = ex ++ (sp ++ q) := by
    apply dropWhile_all _ _ hb
    intro c hc
    rcases hx c hc with rfl | rfl <;> rfl
  have hs : signed l = a ++ (dt ++ (b ++ (ex ++ (sp ++ q)))) := by
    rw [eq]
    apply signed_sign _ _ hsg
    intro c hc
    cases a with
    | cons d a =>
      simp only [List.cons_append, List.head?_cons, Option.some.injEq] at hc
      subst hc
      simp only [List.all_cons, Bool.and_eq_true] at ha
      exact digit_nosign _ ha.1
    | nil =>
      rcases hd with ⟨rfl, rfl⟩ | rfl
      · exact absurd rfl hn
      · simp at hc; subst hc; rfl
  rw [right_drun, drun0, hs]
  cases a with
  | cons d a =>
    have hd1 : digit d = true := by simp only [List.all_cons, Bool.and_eq_true] at ha; exact ha.1
    have hdw : (d :: a ++ (dt ++ (b ++ (ex ++ (sp ++ q))))).dropWhile digit = dt ++ (b ++ (ex ++ (sp ++ q))) := by
      apply dropWhile_all _ _ ha
      intro c hc
      rcases hd with ⟨rfl, rfl⟩ | rfl
      · rcases hx c (by simpa using hc) with rfl | rfl <;> rfl
      · simp at hc; subst hc; rfl
    rw [if_pos (by simpa using hd1), hdw]
    unfold dotTail
    rcases hd with ⟨rfl, rfl⟩ | rfl
    · rw [if_neg]
      · simpa using hp
      · intro hc
        rcases hx 46 (by simpa using hc) with h | h <;> cases h
    · rw [if_pos (by simp)]
      simp only [List.cons_append, List.nil_append, List.drop_succ_cons, List.drop_zero]
      rw [hbx]; exact hp
  | nil =>
    rcases hd with ⟨rfl, rfl⟩ | rfl
    · exact absurd rfl hn
    · cases b with
      | nil => exact absurd rfl hn
      | cons d b =>
        have hd1 : digit d = true := by simp only [List.all_cons, Bool.and_eq_true] at hb; exact hb.1
        rw [if_neg (by simp [digit]), if_pos (by simp)]
        simp only [List.cons_append, List.nil_append, List.drop_succ_cons, List.drop_zero, List.headD_cons, hd1, Bool.true_and]
        simp only [List.cons_append] at hbx
        rw [hbx]; exact hp
end Go.Proofs.YtfbdkjonjpanfaaGreatDoor.Dc

set_option linter.unusedVariables false
set_option linter.unusedSimpArgs false
namespace Go.Proofs.YtfbdkjonjpanfaaGreatDoor.Dc
open Go Lx

/-! ### Cut at one letter -/
theorem index_at (a r : Str) (c : UInt8) (h : c ∉ a) : Lib.index (a ++ c :: r) [c] = a.length := by
  induction a with
  | nil => simp [Lib.index]
  | cons b a ih =>
    simp only [List.mem_cons, not_or] at h
    have h1 := ih h.2
    have h2 : ([c].isPrefixOf (b :: (a ++ c :: r))) = false := by
      simp only [List.isPrefixOf, Bool.and_true, beq_eq_false_iff_ne]; exact h.1
    rw [List.cons_append, Lib.index, h2, h1]
    simp
theorem index_no (l : Str) (c : UInt8) (h : c ∉ l) : Lib.index l [c] = -1 := by
  induction l with
  | nil => rfl
  | cons b l ih =>
    simp only [List.mem_cons, not_or] at h
    have h2 : ([c].isPrefixOf (b :: l)) = false := by
      simp only [List.isPrefixOf, Bool.and_true, beq_eq_false_iff_ne]; exact h.1
    rw [Lib.index, h2, ih h.2]; simp
theorem cut_at (a r : Str) (c : UInt8) (h : c ∉ a) : Lib.cut (a ++ c :: r) [c] = (a, r, true) := by
  unfold Lib.cut
  rw [index_at a r c h, if_pos (by omega)]
  simp
theorem cut_no (l : Str) (c : UInt8) (h : c ∉ l) : Lib.cut l [c] = (l, [], false) := by
  unfold Lib.cut
  rw [index_no l c h, if_neg (by omega)]

/-! ### The power behind the e -/
def powN (q : Str) : Int := q.foldl (fun (n : Int) c => min (n * 10 + ((c.toNat : Int) - 48)) 1125899906842624) 0
theorem powN_snoc (q : Str) (c : UInt8) : powN (q ++ [c]) = min (powN q * 10 + ((c.toNat : Int) - 48)) 1125899906842624 := by
  unfold powN; rw [List.foldl_append]; rfl
theorem snoc_ind {p : Str → Prop} (h0 : p []) (h1 : ∀ l c, p l → p (l ++ [c])) (l : Str) : p l := by
  have : ∀ m : Str, p m.reverse := by
    intro m
    induction m with
    | nil => exact h0
    | cons c m ih => rw [List.reverse_cons]; exact h1 _ _ ih
  have := this l.reverse
  rwa [List.reverse_reverse] at this
theorem powN_eq (q : Str) (h : q.all digit = true) : powN q = min (dval q : Int) 1125899906842624 := by
  induction q using snoc_ind with
  | h0 => rfl
  | h1 q c ih =>
    rw [List.all_append] at h
    simp only [List.all_cons, List.all_nil, Bool.and_true, Bool.and_eq_true] at h
    have h2 := (digit_iff c).1 h.2
    rw [powN_snoc, ih h.1, dval_snoc]
    omega
theorem powN_range (q : Str) (h : q.all digit = true) : 0 ≤ powN q ∧ powN q ≤ 1125899906842624 := by
  rw [powN_eq q h]; omega
def powerP (s : Str) : Int := if Lib.hasPrefix s [45] then -(powN (Lib.trimLeftS s [43, 45])) else powN (Lib.trimLeftS s [43, 45])
def expo (sp q : Str) : Int := if sp = [45] then -(min (dval q : Int) 1125899906842624) else min (dval q : Int) 1125899906842624
theorem trimS_sign (sg r : Str) (hs : isSign sg) (hr : ∀ c, r.head? = some c → one c [43, 45] = false) : Lib.trimLeftS (sg ++ r) [43, 45] = r := by
  have hr' : Lib.trimLeftS r [43, 45] = r := by
    unfold Lib.trimLeftS
    cases r with
    | nil => rfl
    | cons c r =>
      have := hr c rfl
      unfold one at this
      rw [List.dropWhile_cons, this]; rfl
  rcases hs with rfl | rfl | rfl
  · exact hr'
  · unfold Lib.trimLeftS at *; rw [List.cons_append, List.dropWhile_cons]; exact hr'
  · unfold Lib.trimLeftS at *; rw [List.cons_append, List.dropWhile_cons]; exact hr'
theorem digits_head (q : Str) (h : q.all digit = true) (c : UInt8) (hc : q.head? = some c) : one c [43, 45] = false := by
  cases q with
  | nil => cases hc
  | cons d q =>
    simp only [List.head?_cons, Option.some.injEq] at hc
    subst hc
    simp only [List.all_cons, Bool.and_eq_true] at h
    exact digit_nosign _ h.1
theorem minus_head (sp r : Str) (hs : isSign sp) (hr : ∀ c, r.head? = some c → one c [43, 45] = false) : Lib.hasPrefix (sp ++ r) [45] = (sp == [45]) := by
  unfold Lib.hasPrefix
  rcases hs with rfl | rfl | rfl
  · cases r with
    | nil => rfl
    | cons c r =>
      have h := hr c rfl
      simp [one] at h
      have h2 : ¬ (45 : UInt8) = c := fun e => h.2 e.symm
      simp [List.isPrefixOf, h2]
  · rfl
  · simp [List.isPrefixOf]
theorem powerP_parts (sp q : Str) (hs : isSign sp) (hq : q.all digit = true) : powerP (sp ++ q) = expo sp q := by
  unfold powerP expo
  rw [trimS_sign sp q hs (digits_head q hq), minus_head sp q hs (digits_head q hq), powN_eq q hq]
  simp only [beq_iff_eq]

/-! ### The digits and the power -/
def clampI (n : Int) : Int := min (max n (-1099511627776)) 1099511627776
def digitsP (l : Str) : Str × Int × Bool × Bool :=
  if right l then
    let mt := Lib.cut (upper (Lib.trimLeftS l [43, 45])) [69]
    let wp := Lib.cut mt.1 [46]
    let D := wp.1 ++ wp.2.1
    if short D = [] then ([], 0, false, true)
    else (short D, clampI ((if mt.2.2 then powerP mt.2.1 else 0) - wp.2.1.length + (Lib.trimLeftB D 48).length - (short D).length), Lib.hasPrefix l [45], true)
  else ([], 0, false, false)
theorem up_digit (c : UInt8) (h : digit c = true) : up c = c := by
  have h1 := (digit_iff c).1 h
  unfold up
  rw [if_neg]
  unfold small
  simp
  omega
theorem upper_digits (l : Str) (h : l.all digit = true) : upper l = l := by
  induction l with
  | nil => rfl
  | cons c l ih =>
    simp only [List.all_cons, Bool.and_eq_true] at h
    unfold upper at *
    rw [List.map_cons, up_digit c h.1, ih h.2]
theorem upper_append (a b : Str) : upper (a ++ b) = upper a ++ upper b := by unfold upper; rw [List.map_append]
theorem upper_sign (sp : Str) (h : isSign sp) : upper sp = sp := by rcases h with rfl | rfl | rfl <;> decide
theorem mem_digits (l : Str) (h : l.all digit = true) (c : UInt8) (hc : digit c = false) : c ∉ l := by
  intro hm
  rw [List.all_eq_true] at h
  rw [h c hm] at hc; cases hc
theorem Parts.head {l sg a dt b ex sp q : Str} (h : Parts l sg a dt b ex sp q) (c : UInt8) (hc : (a ++ (dt ++ (b ++ (ex ++ (sp ++ q))))).head? = some c) : one c [43, 45] = false := by
  cases a with
  | cons d a => exact digits_head (d :: a) h.ha c (by simpa using hc)
  | nil =>
    rcases h.hd with ⟨hdt, hb⟩ | hdt
    · exact absurd (by rw [hb]; rfl) h.hn
    · subst hdt
      simp at hc; subst hc; rfl
theorem Parts.cuts {l sg a dt b ex sp q : Str} (h : Parts l sg a dt b ex sp q) :
    (Lib.cut (upper (Lib.trimLeftS l [43, 45])) [69]).1 = a ++ (dt ++ b) ∧ (if (Lib.cut (upper (Lib.trimLeftS l [43, 45])) [69]).2.2 then powerP (Lib.cut (upper (Lib.trimLeftS l [43, 45])) [69]).2.1 else 0) = expo sp q := by
  have h1 : Lib.trimLeftS l [43, 45] = a ++ (dt ++ (b ++ (ex ++ (sp ++ q)))) := by rw [h.eq]; exact trimS_sign _ _ h.hsg h.head
  have hdt : upper dt = dt := by rcases h.hd with ⟨e, _⟩ | e <;> subst e <;> decide
  have hno : (69 : UInt8) ∉ a ++ (dt ++ b) := by
    have h2 := mem_digits a h.ha 69 rfl
    have h3 := mem_digits b h.hb 69 rfl
    have h4 : (69 : UInt8) ∉ dt := by rcases h.hd with ⟨e, _⟩ | e <;> subst e <;> decide
    simp only [List.mem_append, not_or]
    exact ⟨h2, h4, h3⟩
  rw [h1]
  simp only [upper_append, upper_digits a h.ha, upper_digits b h.hb, hdt]
  rcases h.he with ⟨e1, e2, e3⟩ | ⟨e1, e2, e3, e4⟩
  · subst e1; subst e2; subst e3
    have : a ++ (dt ++ (b ++ (upper [] ++ (upper [] ++ upper [])))) = a ++ (dt ++ b) := by simp [upper]
    rw [this, cut_no _ _ hno]
    exact ⟨rfl, rfl⟩
  · have : a ++ (dt ++ (b ++ (upper ex ++ (upper sp ++ upper q)))) = (a ++ (dt ++ b)) ++ 69 :: (sp ++ q) := by
      rw [upper_sign sp e2, upper_digits q e3]
      rcases e1 with e | e <;> subst e <;> simp [upper, up, small]
    rw [this, cut_at _ _ _ hno]
    exact ⟨rfl, by simp only [if_true]; exact powerP_parts sp q e2 e3⟩
theorem Parts.tail {l sg a dt b ex sp q : Str} (h : Parts l sg a dt b ex sp q) (hf : (Lib.cut (upper (Lib.trimLeftS l [43, 45])) [69]).2.2 = true) :
    (Lib.trimLeftS (Lib.cut (upper (Lib.trimLeftS l [43, 45])) [69]).2.1 [43, 45]).all digit = true := by
  have h1 : Lib.trimLeftS l [43, 45] = a ++ (dt ++ (b ++ (ex ++ (sp ++ q)))) := by rw [h.eq]; exact trimS_sign _ _ h.hsg h.head
  have hdt : upper dt = dt := by rcases h.hd with ⟨e, _⟩ | e <;> subst e <;> decide
  have hno : (69 : UInt8) ∉ a ++ (dt ++ b) := by
    have h2 := mem_digits a h.ha 69 rfl
    have h3 := mem_digits b h.hb 69 rfl
    have h4 : (69 : UInt8) ∉ dt := by rcases h.hd with ⟨e, _⟩ | e <;> subst e <;> decide
    simp only [List.mem_append, not_or]
    exact ⟨h2, h4, h3⟩
  rw [h1] at hf ⊢
  simp only [upper_append, upper_digits a h.ha, upper_digits b h.hb, hdt] at hf ⊢
  rcases h.he with ⟨e1, e2, e3⟩ | ⟨e1, e2, e3, e4⟩
  · subst e1; subst e2; subst e3
    have : a ++ (dt ++ (b ++ (upper [] ++ (upper [] ++ upper [])))) = a ++ (dt ++ b) := by simp [upper]
    rw [this, cut_no _ _ hno] at hf
    cases hf
  · have : a ++ (dt ++ (b ++ (upper ex ++ (upper sp ++ upper q)))) = (a ++ (dt ++ b)) ++ 69 :: (sp ++ q) := by
      rw [upper_sign sp e2, upper_digits q e3]
      rcases e1 with e | e <;> subst e <;> simp [upper, up, small]
    rw [this, cut_at _ _ _ hno]
    show (Lib.trimLeftS (sp ++ q) [43, 45]).all digit = true
    rw [trimS_sign sp q e2 (digits_head q e3)]
    exact e3
theorem Parts.point {l sg a dt b ex sp q : Str} (h : Parts l sg a dt b ex sp q) : (Lib.cut (a ++ (dt ++ b)) [46]).1 = a ∧ (Lib.cut (a ++ (dt ++ b)) [46]).2.1 = b := by
  have h2 := mem_digits a h.ha 46 rfl
  rcases h.hd with ⟨e1, e2⟩ | e
  · subst e1; subst e2
    simp only [List.append_nil]
    rw [cut_no _ _ h2]; exact ⟨rfl, rfl⟩
  · subst e
    rw [List.cons_append, List.nil_append, cut_at _ _ _ h2]; exact ⟨rfl, rfl⟩
theorem digits_parts {l sg a dt b ex sp q : Str} (h : Parts l sg a dt b ex sp q) :
    digitsP l = if short (a ++ b) = [] then ([], 0, false, true) else (short (a ++ b), clampI (expo sp q - b.length + (Lib.trimLeftB (a ++ b) 48).length - (short (a ++ b)).length), sg == [45], true) := by
  have hm : Lib.hasPrefix l [45] = (sg == [45]) := by
    rw [h.eq]
    exact minus_head sg _ h.hsg h.head
  unfold digitsP
  rw [if_pos (right_of_parts l sg a dt b ex sp q h)]
  simp only [h.cuts.1, h.cuts.2, h.point.1, h.point.2, hm]
theorem digits_wrong (l : Str) (h : right l = false) : digitsP l = ([], 0, false, false) := by
  unfold digitsP; rw [h]; rfl

/-! ### The units -/
def unit (neg : Bool) (d : Str) (p fine : Int) : Int × Int :=
  if d = [] then (0, 0) else if p + fine < 0 then (0, 22) else if (d.length : Int) + p + fine > 13 then (0, 23)
  else if (dval (d ++ Lib.repeatL [48] (p + fine).toNat) : Int) > 1099511627775 then (0, 23)
  else if neg then (-(dval (d ++ Lib.repeatL [48] (p + fine).toNat) : Int), 0) else ((dval (d ++ Lib.repeatL [48] (p + fine).toNat) : Int), 0)
def scaleP (l : Str) (fine : Int) : Int × Int :=
  if (digitsP l).2.2.2 = false ∨ fine < 0 ∨ fine > 9 then (0, 10) else unit (digitsP l).2.2.1 (digitsP l).1 (digitsP l).2.1 fine
theorem unit_ok (neg : Bool) (d : Str) (p fine : Int) (k n : Nat) (hd : d.all digit = true) (hne : d ≠ []) (hh : d.head? ≠ some 48) (hk : p + fine = k) (hv : dval d * 10 ^ k = n) (hn : n ≤ 1099511627775) :
    unit neg d p fine = (if neg then -(n : Int) else n, 0) := by
  have h1 := head_ge d hd hne hh
  have h2 : 10 ^ (d.length - 1 + k) ≤ n := by rw [Nat.pow_add, ← hv]; exact Nat.mul_le_mul_right _ h1
  have h3 : d.length - 1 + k < 13 := by
    apply Classical.byContradiction
    intro h
    have : 10 ^ 13 ≤ 10 ^ (d.length - 1 + k) := Nat.pow_le_pow_right (by decide) (by omega)
    omega
  have h4 : 0 < d.length := List.length_pos_iff.2 hne
  have h5 : dval (d ++ Lib.repeatL [48] (p + fine).toNat) = n := by rw [repeatL_one, dval_zeros, hk, Int.toNat_natCast, hv]
  unfold unit
  rw [if_neg hne, if_neg (by omega), if_neg (by omega), h5, if_neg (by omega)]
  cases neg <;> rfl

/-! ### The text of some units -/
def textP (n fine : Int) : Str :=
  if fine < 0 ∨ fine > 9 then [] else
    let s := Lib.trimPrefix (Lib.itoa n) [45]
    let t := if (s.length : Int) ≤ fine then Lib.repeatL [48] (fine - s.length + 1).toNat ++ s else s
    let part := Lib.trimRightB (t.drop (t.length - fine.toNat)) 48
    (if Lib.hasPrefix (Lib.itoa n) [45] then [45] else []) ++ (t.take (t.length - fine.toNat) ++ (if part = [] then [] else 46 :: part))

theorem dec_digits (u : Nat) : (Lib.decDigits u).all digit = true ∧ dval (Lib.decDigits u) = u ∧ Lib.decDigits u ≠ [] ∧ (u ≠ 0 → (Lib.decDigits u).head? ≠ some 48) := by
  induction u using Nat.strongRecOn with
  | _ u ih =>
    rw [Lib.decDigits]
    have hd : ∀ k, k < 10 → digit (UInt8.ofNat (48 + k)) = true ∧ (UInt8.ofNat (48 + k)).toNat = 48 + k := by
      intro k hk
      have : (UInt8.ofNat (48 + k)).toNat = 48 + k := by rw [UInt8.toNat_ofNat']; omega
      exact ⟨(digit_iff _).2 (by omega), this⟩
    split
    · rename_i h
      have := hd u h
      refine ⟨by simp only [List.all_cons, List.all_nil, Bool.and_true]; exact this.1, ?_, by simp, fun hu => ?_⟩
      · show 0 * 10 + ((UInt8.ofNat (48 + u)).toNat - 48) = u
        rw [this.2]; omega
      simp only [List.head?_cons, ne_eq, Option.some.injEq]
      intro e
      have e2 := congrArg UInt8.toNat e
      rw [this.2] at e2
      simp at e2
      omega
    · rename_i h
      obtain ⟨h1, h2, h3, h4⟩ := ih (u / 10) (by omega)
      have := hd (u % 10) (by omega)
      refine ⟨by rw [List.all_append, h1]; simp only [List.all_cons, List.all_nil, Bool.and_true, Bool.true_and]; exact this.1, ?_, by simp, fun hu => ?_⟩
      · rw [dval_snoc, h2, this.2]; omega
      · rw [List.head?_append]
        cases hh : (Lib.decDigits (u / 10)).head? with
        | none => exact absurd (List.head?_eq_none_iff.1 hh) h3
        | some c =>
          rw [Option.some_or, ← hh]
          exact h4 (by omega)
theorem itoa_abs (n : Int) : Lib.trimPrefix (Lib.itoa n) [45] = Lib.decDigits n.natAbs ∧ Lib.hasPrefix (Lib.itoa n) [45] = decide (n < 0) := by
  unfold Lib.itoa
  split
  · rename_i h
    have : Lib.hasPrefix (45 :: Lib.decDigits n.natAbs) [45] = true := by simp [Lib.hasPrefix, List.isPrefixOf]
    unfold Lib.trimPrefix
    rw [this]
    exact ⟨by simp, by simp [h]⟩
  · rename_i h
    have : Lib.hasPrefix (Lib.decDigits n.toNat) [45] = false := by
      have h1 := (dec_digits n.toNat).1
      unfold Lib.hasPrefix
      cases hh : Lib.decDigits n.toNat with
      | nil => rfl
      | cons c l =>
        rw [hh] at h1
        simp only [List.all_cons, Bool.and_eq_true] at h1
        have h2 := (digit_iff c).1 h1.1
        simp only [List.isPrefixOf, Bool.and_true, beq_eq_false_iff_ne]
        intro e
        have := congrArg UInt8.toNat e
        simp at this
        omega
    unfold Lib.trimPrefix
    rw [this]
    have e : n.toNat = n.natAbs := by omega
    exact ⟨by rw [e]; rfl, by simp [h]⟩
/-- THE TEXT OF SOME UNITS: its sign, its digits, the digits behind the point -/
theorem text_parts (n fine : Int) (h0 : 0 ≤ fine) (h9 : fine ≤ 9) : ∃ sg whole part, textP n fine = sg ++ (whole ++ (if part = [] then [] else 46 :: part)) ∧ sg = (if n < 0 then [45] else []) ∧ whole.all digit = true ∧ whole ≠ [] ∧ part.all digit = true ∧
    part.getLast? ≠ some 48 ∧ (part.length : Int) ≤ fine ∧ dval (whole ++ part) * 10 ^ (fine.toNat - part.length) = n.natAbs ∧ (whole.head? = some 48 → whole.length = 1) ∧ (n = 0 → whole = [48] ∧ part = []) := by
  obtain ⟨h1, h2⟩ := itoa_abs n
  obtain ⟨d1, d2, d3, d4⟩ := dec_digits n.natAbs
  have hf : ¬ (fine < 0 ∨ fine > 9) := by omega
  unfold textP
  rw [if_neg hf]
  simp only [h1, h2]
  obtain ⟨f, rfl⟩ : ∃ f : Nat, fine = f := ⟨fine.toNat, by omega⟩
  simp only [Int.toNat_natCast]
  generalize hs : Lib.decDigits n.natAbs = s at *
  -- the digits, at least one more than there are places
  have ht : ∃ t, (if (s.length : Int) ≤ (f : Int) then Lib.repeatL [48] ((f : Int) - s.length + 1).toNat ++ s else s) = t ∧ t.all digit = true ∧ dval t = n.natAbs ∧ f + 1 ≤ t.length ∧ (t.head? = some 48 → t.length = f + 1) ∧ (n = 0 → t = List.replicate (f + 1) 48) := by
    split
    · rename_i hl
      refine ⟨_, rfl, ?_, ?_, ?_, ?_, ?_⟩
      · rw [repeatL_one, List.all_append, d1]; simp [digit]
      · rw [repeatL_one, dval_ahead, d2]
      · rw [repeatL_one]; simp; omega
      · intro _; rw [repeatL_one]; simp; omega
      · intro hn
        subst hn
        have : s = [48] := by rw [← hs]; simp [Lib.decDigits]
        subst this
        rw [repeatL_one]
        simp only [List.length_cons, List.length_nil] at hl ⊢
        have : ((f : Int) - ((0 + 1 : Nat) : Int) + 1).toNat = f := by omega
        rw [this, List.replicate_succ']
    · rename_i hl
      have hn0 : n.natAbs ≠ 0 ∨ f = 0 := by
        by_cases h : n.natAbs = 0
        · right
          have : s = [48] := by rw [← hs, h]; simp [Lib.decDigits]
          rw [this] at hl; simp at hl; omega
        · exact .inl h
      refine ⟨_, rfl, d1, d2, by omega, ?_, ?_⟩
      · intro hh
        rcases hn0 with h | h
        · exact absurd hh (d4 h)
        · by_cases h3 : n.natAbs = 0
          · have : s = [48] := by rw [← hs, h3]; simp [Lib.decDigits]
            rw [this, h]; rfl
          · exact absurd hh (d4 h3)
      · intro hn
        subst hn
        have : s = [48] := by rw [← hs]; simp [Lib.decDigits]
        rw [this] at hl ⊢
        simp at hl
        have : f = 0 := by omega
        rw [this]; rfl
  obtain ⟨t, et, t1, t2, t3, t4, t5⟩ := ht
  rw [et]
  have hsplit : t.take (t.length - f) ++ t.drop (t.length - f) = t := List.take_append_drop _ _
  have hall := t1
  rw [← hsplit, List.all_append, Bool.and_eq_true] at hall
  have hlen : (t.drop (t.length - f)).length = f := by rw [List.length_drop]; omega
  have hr := trimRight_split (t.drop (t.length - f)) 48
  have hle := trimRight_le (t.drop (t.length - f)) 48
  rw [hlen] at hle
  rw [hlen] at hr
  refine ⟨_, _, _, rfl, ?_, hall.1, ?_, trimRight_all _ _ _ hall.2, trimRight_last _ _, by omega, ?_, ?_, ?_⟩
  · by_cases h : n < 0 <;> simp [h]
  · intro e
    have := congrArg List.length e
    rw [List.length_take] at this
    simp at this
    omega
  · rw [← dval_zeros, List.append_assoc, ← hr, hsplit, t2]
  · intro hh
    have h3 : t.head? = some 48 := by
      rw [← hsplit, List.head?_append, hh]; rfl
    have := t4 h3
    rw [List.length_take]; omega
  · intro hn
    have := t5 hn
    subst this
    rw [List.length_replicate, List.take_replicate, List.drop_replicate]
    refine ⟨?_, ?_⟩
    · have : min (f + 1 - f) (f + 1) = 1 := by omega
      rw [this]; rfl
    · unfold Lib.trimRightB
      rw [List.reverse_replicate]
      have : ∀ k, (List.replicate k (48 : UInt8)).dropWhile (· == 48) = [] := by
        intro k; induction k with
        | zero => rfl
        | succ k ih => rw [List.replicate_succ, List.dropWhile_cons]; simp [ih]
      rw [this]; rfl
end Go.Proofs.YtfbdkjonjpanfaaGreatDoor.Dc

set_option linter.unusedVariables false
set_option linter.unusedSimpArgs false
namespace Go.Proofs.YtfbdkjonjpanfaaGreatDoor.Dc
open Go Lx

theorem clamp_id (n : Int) (h : -1099511627776 ≤ n) (h2 : n ≤ 1099511627776) : clampI n = n := by unfold clampI; omega
theorem trimmed_le (D : Str) : (short D).length ≤ (Lib.trimLeftB D 48).length ∧ (Lib.trimLeftB D 48).length ≤ D.length := ⟨trimRight_le _ _, trimLeft_le _ _⟩
theorem Parts.all {l sg a dt b ex sp q : Str} (h : Parts l sg a dt b ex sp q) : (a ++ b).all digit = true := by rw [List.all_append, h.ha, h.hb]; rfl
theorem digits_facts (l : Str) : -1099511627776 ≤ (digitsP l).2.1 ∧ (digitsP l).2.1 ≤ 1099511627776 ∧ (digitsP l).1.all digit = true ∧ (digitsP l).1.length ≤ l.length ∧ (digitsP l).1.head? ≠ some 48 ∧ (digitsP l).1.getLast? ≠ some 48 := by
  cases hr : right l
  · rw [digits_wrong l hr]
    exact ⟨by decide, by decide, rfl, Nat.zero_le _, by decide, by decide⟩
  · obtain ⟨sg, a, dt, b, ex, sp, q, h⟩ := parts_of_right l hr
    rw [digits_parts h]
    split
    · exact ⟨by decide, by decide, rfl, Nat.zero_le _, by decide, by decide⟩
    · refine ⟨?_, ?_, short_all _ h.all, ?_, short_head _, trimRight_last _ _⟩
      · simp only [clampI]; omega
      · simp only [clampI]; omega
      · obtain ⟨l1, l2⟩ := trimmed_le (a ++ b)
        have e := congrArg List.length h.eq
        simp only [List.length_append] at e l1 l2 ⊢
        omega
/-- a text whose number, without a power, is so many units: that is what is told -/
theorem scale_num {l sg a dt b ex sp q : Str} (h : Parts l sg a dt b ex sp q) (f n : Nat) (hf : f ≤ 9) (hn : n ≤ 1099511627775) (he : expo sp q = 0) (hl : (a ++ b).length ≤ 100000)
    (hv : dval (a ++ b) * 10 ^ f = n * 10 ^ b.length) : scaleP l f = (if sg == [45] then -(n : Int) else n, 0) := by
  unfold scaleP
  rw [digits_parts h]
  have hz := short_zero (a ++ b) h.all
  by_cases hs : short (a ++ b) = []
  · rw [if_pos hs]
    have h0 := hz.1 hs
    rw [h0, Nat.zero_mul] at hv
    have : n = 0 := by
      have hp : 0 < 10 ^ b.length := Nat.pow_pos (by decide)
      rcases Nat.eq_zero_or_pos n with h | h
      · exact h
      · have := Nat.mul_pos h hp; omega
    subst this
    rw [if_neg (by simp; omega)]
    unfold unit
    cases (sg == [45]) <;> simp
  · rw [if_neg hs]
    simp only []
    rw [if_neg (by simp; omega)]
    have hval := short_val (a ++ b)
    obtain ⟨l1, l2⟩ := trimmed_le (a ++ b)
    have hbl : b.length ≤ (a ++ b).length := by simp
    have hm := last_mod (short (a ++ b)) (short_all _ h.all) hs (trimRight_last _ _)
    have hh := short_head (a ++ b)
    have hd := short_all _ h.all
    generalize (a ++ b).length = L at *
    generalize ht : (Lib.trimLeftB (a ++ b) 48).length - (short (a ++ b)).length = t at *
    generalize hS : (Lib.trimLeftB (a ++ b) 48).length = T at *
    generalize short (a ++ b) = s at *
    have hcl : clampI (expo sp q - b.length + T - s.length) = (t : Int) - b.length := by
      rw [he, clamp_id] <;> omega
    rw [hcl]
    rw [hval, Nat.mul_assoc, ← Nat.pow_add] at hv
    have hle : b.length ≤ t + f := by
      apply Classical.byContradiction
      intro hc
      have h1 : n * 10 ^ b.length = n * 10 ^ (b.length - (t + f)) * 10 ^ (t + f) := by
        rw [Nat.mul_assoc, ← Nat.pow_add]; congr 2; omega
      rw [h1] at hv
      have h2 := Nat.eq_of_mul_eq_mul_right (Nat.pow_pos (by decide)) hv
      have h3 : b.length - (t + f) = (b.length - (t + f) - 1) + 1 := by omega
      rw [h3, Nat.pow_succ, ← Nat.mul_assoc] at h2
      omega
    have hk : dval s * 10 ^ (t + f - b.length) = n := by
      have h1 : dval s * 10 ^ (t + f) = dval s * 10 ^ (t + f - b.length) * 10 ^ b.length := by
        rw [Nat.mul_assoc, ← Nat.pow_add]; congr 2; omega
      rw [h1] at hv
      exact Nat.eq_of_mul_eq_mul_right (Nat.pow_pos (by decide)) hv
    exact unit_ok _ s _ _ (t + f - b.length) n hd hs hh (by omega) hk hn

/-- NOUGHTS AHEAD AND BEHIND: the text of some units, with a point, so many noughts ahead and behind, a sign and a power of nought -/
theorem long_plain (n fine : Int) (h0 : 0 ≤ fine) (h9 : fine ≤ 9) (hn : 0 ≤ n) (hn2 : n ≤ 1099511627775) (x y : Nat) (hx : x ≤ 500) (hy : y ≤ 500) (s : Str)
    (hs : s = List.replicate x 48 ++ ((if (textP n fine).contains 46 then textP n fine else textP n fine ++ [46]) ++ List.replicate y 48)) :
    scaleP s fine = (n, 0) ∧ scaleP (45 :: (s ++ [101, 48])) fine = (-n, 0) := by
  obtain ⟨sg, whole, part, e, hsg, hw, hwn, hp, _, hpl, hv, hone, hz⟩ := text_parts n fine h0 h9
  rw [if_neg (by omega)] at hsg
  subst hsg
  obtain ⟨f, rfl⟩ : ∃ f : Nat, fine = f := ⟨fine.toNat, by omega⟩
  obtain ⟨m, rfl⟩ : ∃ m : Nat, n = m := ⟨n.toNat, by omega⟩
  simp only [Int.toNat_natCast, Int.natAbs_natCast] at hv
  have hno : ∀ r : Str, r.all digit = true → r.contains 46 = false := by
    intro r hr
    have := mem_digits r hr 46 rfl
    simpa using this
  have hs2 : s = (List.replicate x 48 ++ whole) ++ ([46] ++ (part ++ List.replicate y 48)) := by
    rw [hs, e]
    by_cases h : part = []
    · subst h
      simp only [if_true, List.append_nil, List.nil_append]
      rw [hno whole hw]
      simp
    · simp only [h, if_false, List.nil_append]
      have : (whole ++ 46 :: part).contains 46 = true := by simp
      rw [this]
      simp
  have hrep : ∀ k, (List.replicate k (48 : UInt8)).all digit = true := by intro k; simp [digit]
  have hlen : (textP m f).length ≤ 100 := by
    have h1 : whole.length ≤ 20 := by
      rcases Nat.lt_or_ge 20 whole.length with h | h
      · exfalso
        have hh : whole.head? ≠ some 48 := by
          intro hh
          have := hone hh
          omega
        have h2 := head_ge whole hw hwn hh
        have h3 : 10 ^ 20 ≤ 10 ^ (whole.length - 1) := Nat.pow_le_pow_right (by decide) (by omega)
        rw [dval_append] at hv
        have h4 : dval whole ≤ m := by
          have hp1 : 1 ≤ 10 ^ part.length := Nat.one_le_pow _ _ (by decide)
          have hp2 : 1 ≤ 10 ^ (f - part.length) := Nat.one_le_pow _ _ (by decide)
          have a1 : dval whole * 1 ≤ dval whole * 10 ^ part.length := Nat.mul_le_mul_left _ hp1
          have a2 : (dval whole * 10 ^ part.length + dval part) * 1 ≤ (dval whole * 10 ^ part.length + dval part) * 10 ^ (f - part.length) := Nat.mul_le_mul_left _ hp2
          omega
        omega
      · exact h
    rw [e]
    simp only [List.nil_append, List.length_append]
    split
    · simp; omega
    · simp; omega
  have hl2 : whole.length + part.length ≤ 100 := by
    rw [e] at hlen
    by_cases h : part = []
    · subst h; simp at hlen ⊢; omega
    · simp [h] at hlen; omega
  have hval : dval ((List.replicate x 48 ++ whole) ++ (part ++ List.replicate y 48)) * 10 ^ f = m * 10 ^ (part ++ List.replicate y (48 : UInt8)).length := by
    rw [List.append_assoc, dval_ahead, ← List.append_assoc, dval_zeros, ← hv, List.length_append, List.length_replicate, Nat.mul_assoc, Nat.mul_assoc, ← Nat.pow_add, ← Nat.pow_add]
    congr 2; omega
  have hpar : ∀ sg ex q, isSign sg → ((ex = [] ∧ ([] : Str) = [] ∧ q = []) ∨ ((ex = [101] ∨ ex = [69]) ∧ isSign [] ∧ q.all digit = true ∧ q ≠ [])) →
      Parts (sg ++ ((List.replicate x 48 ++ whole) ++ ([46] ++ ((part ++ List.replicate y 48) ++ (ex ++ ([] ++ q)))))) sg (List.replicate x 48 ++ whole) [46] (part ++ List.replicate y 48) ex [] q := by
    intro sg ex q hsg hx
    refine ⟨rfl, hsg, ?_, ?_, .inr rfl, ?_, hx⟩
    · rw [List.all_append, hrep, hw]; rfl
    · rw [List.all_append, hrep, hp]; rfl
    · simp [hwn]
  have hL : ((List.replicate x 48 ++ whole) ++ (part ++ List.replicate y 48)).length ≤ 100000 := by simp; omega
  refine ⟨?_, ?_⟩
  · have := scale_num (hpar [] [] [] (.inl rfl) (.inl ⟨rfl, rfl, rfl⟩)) f m (by omega) (by omega) rfl hL hval
    simp only [List.nil_append, List.append_nil] at this
    rw [hs2]
    exact this
  · have := scale_num (hpar [45] [101] [48] (.inr (.inr rfl)) (.inr ⟨.inl rfl, .inl rfl, rfl, by simp⟩)) f m (by omega) (by omega) (by decide) hL hval
    rw [hs2]
    have e2 : (45 : UInt8) :: ((List.replicate x 48 ++ whole) ++ ([46] ++ (part ++ List.replicate y 48)) ++ [101, 48]) = [45] ++ ((List.replicate x 48 ++ whole) ++ ([46] ++ ((part ++ List.replicate y 48) ++ ([101] ++ ([] ++ [48]))))) := by simp
    rw [e2]
    exact this
end Go.Proofs.YtfbdkjonjpanfaaGreatDoor.Dc

set_option linter.unusedVariables false
set_option linter.unusedSimpArgs false
namespace Go.Proofs.YtfbdkjonjpanfaaGreatDoor.Dc
open Go Lx

/-- the number, the digits behind the point, was there a point? -/
def nst (z : Nat × Nat × Bool) (c : UInt8) : Nat × Nat × Bool := if c = 46 then (z.1, z.2.1, true) else (z.1 * 10 + (c.toNat - 48), if z.2.2 then z.2.1 + 1 else z.2.1, z.2.2)
def nfold (l : Str) : Nat × Nat × Bool := l.foldl nst (0, 0, false)
theorem nfold_snoc (l : Str) (c : UInt8) : nfold (l ++ [c]) = nst (nfold l) c := by unfold nfold; rw [List.foldl_append]; rfl
theorem digit_nodot (c : UInt8) (h : digit c = true) : c ≠ 46 := by rintro rfl; cases h
theorem nfold_digits (l b : Str) (h : b.all digit = true) : nfold (l ++ b) = ((nfold l).1 * 10 ^ b.length + dval b, if (nfold l).2.2 then (nfold l).2.1 + b.length else (nfold l).2.1, (nfold l).2.2) := by
  induction b using snoc_ind with
  | h0 => simp [dval]
  | h1 b c ih =>
    rw [List.all_append, Bool.and_eq_true] at h
    have hc : digit c = true := by simpa using h.2
    rw [← List.append_assoc, nfold_snoc, ih h.1, nst, if_neg (digit_nodot c hc), dval_snoc]
    have e : (nfold l).1 * 10 ^ b.length * 10 = (nfold l).1 * 10 ^ (b.length + 1) := by rw [Nat.pow_succ, Nat.mul_assoc]
    simp only [List.length_append, List.length_cons, List.length_nil, Nat.zero_add]
    rw [← e]
    cases (nfold l).2.2
    · simp; omega
    · simp; omega
theorem nfold_parts {a dt b : Str} (ha : a.all digit = true) (hb : b.all digit = true) (hd : (dt = [] ∧ b = []) ∨ dt = [46]) : (nfold (a ++ (dt ++ b))).1 = dval (a ++ b) ∧ (nfold (a ++ (dt ++ b))).2.1 = b.length := by
  have h1 : nfold a = (dval a, 0, false) := by
    have := nfold_digits [] a ha
    simpa [nfold] using this
  rcases hd with ⟨rfl, rfl⟩ | rfl
  · simp [h1]
  · have h2 : nfold (a ++ [46]) = (dval a, 0, true) := by rw [nfold_snoc, h1]; rfl
    rw [← List.append_assoc, nfold_digits _ b hb, h2, dval_append]
    simp
/-- of the digits and the point -/
def mant (l : Str) : Prop := ∀ c ∈ l, digit c = true ∨ c = 46
theorem nfold_lt (l : Str) (h : mant l) : (nfold l).1 < 10 ^ l.length ∧ (nfold l).2.1 ≤ l.length := by
  induction l using snoc_ind with
  | h0 => exact ⟨by decide, by decide⟩
  | h1 l c ih =>
    obtain ⟨h1, h2⟩ := ih (fun x hx => h x (by simp [hx]))
    rw [nfold_snoc, nst, List.length_append, List.length_singleton, Nat.pow_succ]
    rcases h c (by simp) with hc | hc
    · rw [if_neg (digit_nodot c hc)]
      have := digit_le c hc
      refine ⟨?_, ?_⟩
      · simp only; omega
      · simp only; split <;> omega
    · rw [if_pos hc]
      exact ⟨by simp only; omega, by simp only; omega⟩
theorem mant_take {l : Str} (h : mant l) (k : Nat) : mant (l.take k) := fun c hc => h c (List.mem_of_mem_take hc)
theorem Parts.mant {l sg a dt b ex sp q : Str} (h : Parts l sg a dt b ex sp q) : mant (a ++ (dt ++ b)) := by
  have ha := h.ha
  have hb := h.hb
  rw [List.all_eq_true] at ha hb
  intro c hc
  rcases List.mem_append.1 hc with h1 | h1
  · exact .inl (ha c h1)
  · rcases List.mem_append.1 h1 with h2 | h2
    · rcases h.hd with ⟨e, _⟩ | e
      · rw [e] at h2; cases h2
      · rw [e, List.mem_singleton] at h2; exact .inr h2
    · exact .inl (hb c h2)
/-- the sign of a text's number; its power -/
def numV (sg a b : Str) : Int := if sg = [45] then -(dval (a ++ b) : Int) else (dval (a ++ b) : Int)
def numE (b sp q : Str) : Int := -(b.length : Int) + (if sp = [45] then -(dval q : Int) else (dval q : Int))
end Go.Proofs.YtfbdkjonjpanfaaGreatDoor.Dc

set_option linter.unusedVariables false
set_option linter.unusedSimpArgs false
namespace Go.Proofs.YtfbdkjonjpanfaaGreatDoor.Dc
open Go Lx

theorem expo_small {sp q : Str} (hq : q.length ≤ 15) (h : q.all digit = true) : expo sp q = (if sp = [45] then -(dval q : Int) else (dval q : Int)) ∧ dval q < 1000000000000000 := by
  have h1 := dval_lt q h
  have h2 : 10 ^ q.length ≤ 10 ^ 15 := Nat.pow_le_pow_right (by decide) hq
  have h3 : (dval q : Int) ≤ 1125899906842624 := by omega
  refine ⟨?_, by omega⟩
  unfold expo
  rw [Int.min_eq_left h3]
theorem Parts.q_all {l sg a dt b ex sp q : Str} (h : Parts l sg a dt b ex sp q) : q.all digit = true := by
  rcases h.he with ⟨_, _, rfl⟩ | ⟨_, _, h, _⟩
  · rfl
  · exact h
theorem dval_two {q : Str} (hq : q.length ≤ 2) (h : q.all digit = true) : dval q < 100 := by
  have h1 := dval_lt q h
  have h2 : 10 ^ q.length ≤ 10 ^ 2 := Nat.pow_le_pow_right (by decide) hq
  omega
/-- the digits and the power of a plain text -/
theorem digits_plain {l sg a dt b ex sp q : Str} (h : Parts l sg a dt b ex sp q) (hl : l.length ≤ 100) (hq : q.length ≤ 2) :
    (dval (a ++ b) = 0 ∧ digitsP l = ([], 0, false, true)) ∨
    ∃ (d : Str) (t : Nat), digitsP l = (d, numE b sp q + t, sg == [45], true) ∧ d ≠ [] ∧ d.all digit = true ∧ d.head? ≠ some 48 ∧ dval d % 10 ≠ 0 ∧ dval (a ++ b) = dval d * 10 ^ t ∧ t ≤ 100 ∧ d.length ≤ 100 := by
  have hz := short_zero (a ++ b) h.all
  have hab : (a ++ b).length ≤ 100 := by
    have e := congrArg List.length h.eq
    simp only [List.length_append] at e ⊢
    omega
  have hbl : b.length ≤ (a ++ b).length := by simp
  rw [digits_parts h]
  by_cases hs : short (a ++ b) = []
  · exact .inl ⟨hz.1 hs, by rw [if_pos hs]⟩
  · right
    rw [if_neg hs]
    obtain ⟨l1, l2⟩ := trimmed_le (a ++ b)
    have hm := last_mod (short (a ++ b)) (short_all _ h.all) hs (trimRight_last _ _)
    obtain ⟨e1, e2⟩ := expo_small (sp := sp) (q := q) (by omega) h.q_all
    have e3 := dval_two hq h.q_all
    refine ⟨_, (Lib.trimLeftB (a ++ b) 48).length - (short (a ++ b)).length, ?_, hs, short_all _ h.all, short_head _, hm, short_val _, by omega, by omega⟩
    rw [clamp_id]
    · rw [e1]; unfold numE
      congr 2
      split <;> omega
    · rw [e1]; split <;> omega
    · rw [e1]; split <;> omega

theorem numV_abs (sg a b : Str) : (numV sg a b).natAbs = dval (a ++ b) := by unfold numV; split <;> omega
theorem numV_sgn (sg a b : Str) : numV sg a b = if sg == [45] then -(dval (a ++ b) : Int) else (dval (a ++ b) : Int) := by
  unfold numV
  by_cases h : sg = [45]
  · rw [if_pos h, if_pos (by simpa using h)]
  · rw [if_neg h, if_neg (by simpa using h)]

/-- THE SCALE OF A PLAIN TEXT: x over y is its number in units -/
theorem scale_law {l sg a dt b ex sp q : Str} (h : Parts l sg a dt b ex sp q) (hl : l.length ≤ 100) (hq : q.length ≤ 2) (f : Nat) (hf : f ≤ 9) (z : Int) (hz : z = numE b sp q + f) (x : Int) (y : Nat)
    (hx : x = if 0 ≤ z then numV sg a b * 10 ^ z.toNat else numV sg a b) (hy : y = if 0 ≤ z then 1 else 10 ^ (-z).toNat) :
    (∃ n : Int, scaleP l f = (n, 0) ∧ -1099511627775 ≤ n ∧ n ≤ 1099511627775 ∧ n * y = x) ∨ (scaleP l f = (0, 22) ∧ x.natAbs % y ≠ 0) ∨ (scaleP l f = (0, 23) ∧ x.natAbs % y = 0 ∧ 1099511627775 * y < x.natAbs) := by
  have hfb : ¬ ((true = false) ∨ (f : Int) < 0 ∨ (f : Int) > 9) := by simp; omega
  rcases digits_plain h hl hq with ⟨h0, hd⟩ | ⟨d, t, hd, hne, hall, hhd, hm, hv, ht, hdl⟩
  · left
    refine ⟨0, ?_, by decide, by decide, ?_⟩
    · unfold scaleP; rw [hd, if_neg hfb]; rfl
    · have hn : numV sg a b = 0 := by have := numV_abs sg a b; omega
      rw [hx, hn]; simp
  · have hs : scaleP l f = unit (sg == [45]) d (numE b sp q + t) f := by unfold scaleP; rw [hd, if_neg hfb]
    rw [hs]
    have hp10 : ∀ k, 0 < 10 ^ k := fun k => Nat.pow_pos (by decide)
    have hxa : x.natAbs = if 0 ≤ z then dval d * 10 ^ t * 10 ^ z.toNat else dval d * 10 ^ t := by
      rw [hx]
      split
      · rw [Int.natAbs_mul, numV_abs, hv]
        first | (congr 1; done) | (congr 1; rw [Int.natAbs_pow]; done) | (congr 1; rw [Int.natAbs_pow]; rfl)
      · rw [numV_abs, hv]
    have hpos := hp10 t
    have hdpos : 0 < dval d := by omega
    by_cases hk : z + t < 0
    · right; left
      refine ⟨?_, ?_⟩
      · unfold unit; rw [if_neg hne, if_pos (by omega)]
      · have hz0 : ¬ 0 ≤ z := by omega
        rw [if_neg hz0] at hxa hy
        obtain ⟨j, hj⟩ : ∃ j : Nat, (-z).toNat = (j + 1) + t := ⟨(-z).toNat - t - 1, by omega⟩
        rw [hxa, hy, hj, Nat.pow_add, Nat.mul_comm (10 ^ (j + 1)), Nat.mul_comm (dval d)]
        rw [Nat.mul_mod_mul_left]
        intro h0
        have h1 : dval d % 10 ^ (j + 1) = 0 := by
          rcases Nat.mul_eq_zero.1 h0 with h | h
          · omega
          · exact h
        have h2 : 10 ∣ dval d := Nat.dvd_trans ⟨10 ^ j, by rw [Nat.pow_succ, Nat.mul_comm]⟩ (Nat.dvd_of_mod_eq_zero h1)
        omega
    · obtain ⟨k, hk⟩ : ∃ k : Nat, z + t = k := ⟨(z + t).toNat, by omega⟩
      have hkf : numE b sp q + (t : Int) + (f : Int) = k := by omega
      have hX : x.natAbs = dval d * 10 ^ k * y := by
        rw [hxa, hy]
        split
        · rename_i h0
          rw [Nat.mul_one, Nat.mul_assoc, ← Nat.pow_add]; congr 2; omega
        · rename_i h0
          rw [Nat.mul_assoc, ← Nat.pow_add]; congr 2; omega
      have hy0 : 0 < y := by rw [hy]; split <;> first | decide | exact hp10 _
      have hmod : x.natAbs % y = 0 := by rw [hX]; exact Nat.mul_mod_left _ _
      have hN : dval (d ++ Lib.repeatL [48] (numE b sp q + t + f).toNat) = dval d * 10 ^ k := by rw [repeatL_one, dval_zeros, hkf, Int.toNat_natCast]
      have big : 1099511627775 < dval d * 10 ^ k → 1099511627775 * y < x.natAbs := by
        intro h; rw [hX]; exact Nat.mul_lt_mul_of_pos_right h hy0
      unfold unit
      rw [if_neg hne, if_neg (by omega), hN]
      by_cases h13 : (d.length : Int) + (numE b sp q + t) + f > 13
      · rw [if_pos h13]
        right; right
        refine ⟨rfl, hmod, big ?_⟩
        have h1 := head_ge d hall hne hhd
        have h2 : 10 ^ (d.length - 1 + k) ≤ dval d * 10 ^ k := by rw [Nat.pow_add]; exact Nat.mul_le_mul_right _ h1
        have h4 : 0 < d.length := List.length_pos_iff.2 hne
        have h3 : 10 ^ 13 ≤ 10 ^ (d.length - 1 + k) := Nat.pow_le_pow_right (by decide) (by omega)
        omega
      · rw [if_neg h13]
        by_cases hb : ((dval d * 10 ^ k : Nat) : Int) > 1099511627775
        · rw [if_pos hb]
          exact .inr (.inr ⟨rfl, hmod, big (by omega)⟩)
        · rw [if_neg hb]
          left
          have hxs : x = if sg == [45] then -(x.natAbs : Int) else (x.natAbs : Int) := by
            have e1 : (0 : Int) < 10 ^ z.toNat := Int.pow_pos (by decide)
            rw [hx, numV_sgn]
            by_cases hsg : (sg == [45]) = true
            · simp only [hsg, if_true]
              split
              · rw [Int.neg_mul, Int.natAbs_neg, Int.natAbs_of_nonneg (Int.mul_nonneg (by omega) (by omega))]
              · omega
            · simp only [hsg]
              split
              · simp only [Bool.false_eq_true, if_false]
                rw [Int.natAbs_of_nonneg (Int.mul_nonneg (by omega) (by omega))]
              · simp
          rw [hxs, hX]
          cases (sg == [45])
          · exact ⟨_, rfl, by omega, by omega, by simp⟩
          · exact ⟨_, rfl, by omega, by omega, by simp [Int.neg_mul]⟩
/-- any text's scale: told, or why not -/
theorem scale_kinds (l : Str) (f : Int) (hr : right l = true) (h0 : 0 ≤ f) (h9 : f ≤ 9) : (scaleP l f).2 = 0 ∨ ((scaleP l f).1 = 0 ∧ ((scaleP l f).2 = 22 ∨ (scaleP l f).2 = 23)) := by
  obtain ⟨sg, a, dt, b, ex, sp, q, h⟩ := parts_of_right l hr
  have hok : (digitsP l).2.2.2 = true := by rw [digits_parts h]; split <;> rfl
  unfold scaleP
  rw [hok, if_neg (by simp; omega)]
  unfold unit
  repeat' split
  all_goals simp
theorem scale_bad (l : Str) (f : Int) (h : right l = false ∨ f < 0 ∨ f > 9) : scaleP l f = (0, 10) := by
  unfold scaleP
  rw [if_pos]
  rcases h with h | h
  · left; rw [digits_wrong l h]
  · right; exact h

/-- THE TEXT OF SOME UNITS: its parts, and what stands in it -/
theorem text_law (n : Int) (f : Nat) (hf : f ≤ 9) : ∃ sg a dt b, Parts (textP n f) sg a dt b [] [] [] ∧ b.length ≤ f ∧ numV sg a b * 10 ^ (f - b.length) = n ∧ (textP n f).head? ≠ some 43 ∧ (textP n f).head? ≠ some 46 ∧
    ((textP n f).head? = some 45 ↔ n < 0) ∧ sg.length = (if n < 0 then 1 else 0) ∧ sg.length < (textP n f).length ∧
    ((textP n f)[sg.length]? = some 48 → (textP n f).length > sg.length + 1 → (textP n f)[sg.length + 1]? = some 46) ∧ (b ≠ [] → (textP n f).getLast? ≠ some 48) ∧ (textP n f).getLast? ≠ some 46 ∧ (n = 0 → textP n f = [48]) := by
  obtain ⟨sg, whole, part, e, hsg, hw, hwn, hp, hpl, hplen, hv, hone, hz⟩ := text_parts n f (by omega) (by omega)
  rw [Int.toNat_natCast] at hv
  have hs : isSign sg := by rw [hsg]; split <;> simp [isSign]
  obtain ⟨c, wl, hwc⟩ : ∃ c wl, whole = c :: wl := by cases whole with
    | nil => exact absurd rfl hwn
    | cons c wl => exact ⟨c, wl, rfl⟩
  have hcd : digit c = true := by rw [hwc] at hw; simp only [List.all_cons, Bool.and_eq_true] at hw; exact hw.1
  have hc := (digit_iff c).1 hcd
  have c43 : c ≠ 43 := by rintro rfl; cases hcd
  have c45 : c ≠ 45 := by rintro rfl; cases hcd
  have c46 : c ≠ 46 := by rintro rfl; cases hcd
  have hsgl : sg.length = (if n < 0 then 1 else 0) := by rw [hsg]; split <;> rfl
  have hh : (textP n f).head? = if n < 0 then some 45 else some c := by
    rw [e, hwc, hsg]; split <;> rfl
  have hdrop : ∀ i, (textP n f)[sg.length + i]? = (whole ++ (if part = [] then [] else 46 :: part))[i]? := by
    intro i; rw [e, List.getElem?_append_right (by omega)]; congr 1; omega
  have hlast : (textP n f).getLast? = if part = [] then whole.getLast? else part.getLast? := by
    rw [e, ← List.append_assoc, List.getLast?_append]
    by_cases hpn : part = []
    · rw [if_pos hpn, if_pos hpn, List.getLast?_append]
      simp [List.getLast?_eq_some_getLast hwn]
    · rw [if_neg hpn, if_neg hpn]
      simp [List.getLast?_cons, List.getLast?_eq_some_getLast hpn]
  have hnd : ∀ l : Str, l.all digit = true → l.getLast? ≠ some 46 := by
    intro l hl h
    rw [List.all_eq_true] at hl
    have := hl 46 (List.mem_of_getLast? h)
    cases this
  refine ⟨sg, whole, if part = [] then [] else [46], part, ⟨?_, hs, hw, hp, ?_, by simp [hwn], .inl ⟨rfl, rfl, rfl⟩⟩, by omega, ?_, ?_, ?_, ?_, hsgl, ?_, ?_, ?_, ?_, ?_⟩
  · rw [e]; split
    · rename_i h; rw [h]; rfl
    · simp
  · by_cases hpn : part = []
    · exact .inl ⟨if_pos hpn, hpn⟩
    · exact .inr (if_neg hpn)
  · have h1 : (dval (whole ++ part) : Int) * 10 ^ (f - part.length) = (n.natAbs : Int) := by rw [← hv]; simp
    unfold numV
    by_cases h0 : n < 0
    · rw [if_pos (by rw [hsg, if_pos h0]), Int.neg_mul, h1]; omega
    · rw [if_neg (by rw [hsg, if_neg h0]; simp), h1]; omega
  · rw [hh]; split
    · decide
    · simpa using c43
  · rw [hh]; split
    · decide
    · simpa using c46
  · rw [hh]; split
    · simp; assumption
    · simp only [Option.some.injEq]; exact ⟨fun h => absurd h c45, fun h => absurd h (by assumption)⟩
  · rw [e, hwc]; simp
  · intro h0 hlen
    have h1 := hdrop 0
    have h2 := hdrop 1
    rw [Nat.add_zero] at h1
    rw [h1, hwc] at h0
    simp at h0
    have hl1 := hone (by rw [hwc, h0]; rfl)
    rw [h2]
    have hwl : wl = [] := by rw [hwc] at hl1; simpa using hl1
    rw [hwc, hwl]
    by_cases hpn : part = []
    · exfalso
      rw [e, hwc, hwl, hpn] at hlen
      simp at hlen
    · simp [hpn]
  · intro hb; rw [hlast, if_neg hb]; exact hpl
  · rw [hlast]; split
    · exact hnd _ hw
    · exact hnd _ hp
  · intro h0
    obtain ⟨e1, e2⟩ := hz h0
    rw [e, hsg, e1, e2, if_neg (by omega)]; rfl

theorem text_size (n : Int) (f : Nat) (hf : f ≤ 9) (h1 : -9223372036854775808 ≤ n) (h2 : n ≤ 9223372036854775807) : (textP n f).length ≤ 60 := by
  obtain ⟨sg, whole, part, e, hsg, hw, hwn, hp, hpl, hplen, hv, hone, hz⟩ := text_parts n f (by omega) (by omega)
  have hwl : whole.length ≤ 20 := by
    rcases Nat.lt_or_ge 20 whole.length with h | h
    · exfalso
      have hh : whole.head? ≠ some 48 := by
        intro hh
        have := hone hh
        omega
      have h3 := head_ge whole hw hwn hh
      have h4 : 10 ^ 20 ≤ 10 ^ (whole.length - 1) := Nat.pow_le_pow_right (by decide) (by omega)
      rw [dval_append] at hv
      have h5 : dval whole ≤ n.natAbs := by
        have hp1 : 1 ≤ 10 ^ part.length := Nat.one_le_pow _ _ (by decide)
        have hp2 : 1 ≤ 10 ^ ((f : Int).toNat - part.length) := Nat.one_le_pow _ _ (by decide)
        have a1 : dval whole * 1 ≤ dval whole * 10 ^ part.length := Nat.mul_le_mul_left _ hp1
        have a2 : (dval whole * 10 ^ part.length + dval part) * 1 ≤ (dval whole * 10 ^ part.length + dval part) * 10 ^ ((f : Int).toNat - part.length) := Nat.mul_le_mul_left _ hp2
        omega
      omega
    · exact h
  have h2 : sg.length ≤ 1 := by rw [hsg]; split <;> simp
  rw [e]
  simp only [List.length_append]
  split
  · simp; omega
  · simp; omega

/-! ### Plain? -/
/-- is there a power, how many digits has it? -/
def plst (z : Bool × Nat) (c : UInt8) : Bool × Nat := if c = 101 ∨ c = 69 then (true, z.2) else if z.1 = true ∧ digit c = true then (z.1, z.2 + 1) else z
def pfold (l : Str) : Bool × Nat := l.foldl plst (false, 0)
theorem pfold_snoc (l : Str) (c : UInt8) : pfold (l ++ [c]) = plst (pfold l) c := by unfold pfold; rw [List.foldl_append]; rfl
def plainP (l : Str) : Bool := decide (l.length ≤ 60) && decide ((pfold l).2 ≤ 2)
theorem pl_no (l : Str) (z : Bool × Nat) (hz : z.1 = false) (h : ∀ c ∈ l, c ≠ 101 ∧ c ≠ 69) : l.foldl plst z = z := by
  induction l with
  | nil => rfl
  | cons c l ih =>
    have h1 := h c (by simp)
    rw [List.foldl_cons, plst, if_neg (by simp [h1.1, h1.2]), if_neg (by simp [hz])]
    exact ih (fun x hx => h x (by simp [hx]))
theorem pl_digits (q : Str) (k : Nat) (h : q.all digit = true) : q.foldl plst (true, k) = (true, k + q.length) := by
  induction q generalizing k with
  | nil => rfl
  | cons c q ih =>
    simp only [List.all_cons, Bool.and_eq_true] at h
    have h1 : ¬ (c = 101 ∨ c = 69) := by rintro (rfl | rfl) <;> cases h.1
    rw [List.foldl_cons, plst, if_neg h1, if_pos ⟨rfl, h.1⟩, ih _ h.2, List.length_cons]
    congr 1; omega
theorem pfold_parts {l sg a dt b ex sp q : Str} (h : Parts l sg a dt b ex sp q) : (pfold l).2 = q.length := by
  have hno : ∀ c ∈ sg ++ (a ++ (dt ++ b)), c ≠ 101 ∧ c ≠ 69 := by
    intro c hc
    rcases List.mem_append.1 hc with h1 | h1
    · rcases h.hsg with e | e | e
      · rw [e] at h1; cases h1
      · rw [e, List.mem_singleton] at h1; subst h1; decide
      · rw [e, List.mem_singleton] at h1; subst h1; decide
    · rcases h.mant c h1 with h2 | h2
      · constructor <;> (rintro rfl; cases h2)
      · subst h2; decide
  have e : l = (sg ++ (a ++ (dt ++ b))) ++ (ex ++ (sp ++ q)) := by rw [h.eq]; simp
  unfold pfold
  rw [e, List.foldl_append, pl_no _ _ rfl hno]
  rcases h.he with ⟨rfl, rfl, rfl⟩ | ⟨h1, h2, h3, h4⟩
  · rfl
  · have hx : ex.foldl plst (false, 0) = (true, 0) := by rcases h1 with rfl | rfl <;> rfl
    have hsp : sp.foldl plst (true, 0) = (true, 0) := by rcases h2 with rfl | rfl | rfl <;> rfl
    rw [List.foldl_append, List.foldl_append, hx, hsp, pl_digits q 0 h3]; simp
end Go.Proofs.YtfbdkjonjpanfaaGreatDoor.Dc
