/- Plain laws on decimal numbers: a right text's parts; the units of a text, and the text of some units. No program in sight. -/
import Derived.Test.YtkhpfdgkmnifcaaDoorDcA
set_option linter.unusedVariables false
set_option linter.unusedSimpArgs false
namespace Go.Proofs.YtkhpfdgkmnifcaaDoor.Dc
open Go Lx

/-- a sign, or none -/
def isSign (l : Str) : Prop := l = [] ∨ l = [43] ∨ l = [45]
/-- the parts of a right text: its sign, the digits, the point, the digits behind it, the power's letter, its sign, its digits -/
structure Parts (l sg a dt b ex sp q : Str) : Prop where
  eq : l = sg ++ (a ++ (dt ++ (b ++ (ex ++ (sp ++ q)))))
  hsg : isSign sg
  ha : a.all digit = true
  hb : b.all digit = true
  hd : (dt = [] ∧ b = []) ∨ dt = [46]
  hn : a ++ b ≠ []
  he : (ex = [] ∧ sp = [] ∧ q = []) ∨ ((ex = [101] ∨ ex = [69]) ∧ isSign sp ∧ q.all digit = true ∧ q ≠ [])

theorem signed_sign (sg r : Str) (hs : isSign sg) (hr : ∀ c, r.head? = some c → one c [43, 45] = false) : signed (sg ++ r) = r := by
  rcases hs with rfl | rfl | rfl
  · cases r with
    | nil => rfl
    | cons c r => exact signed_no c r (hr c rfl)
  · rfl
  · rfl
theorem signed_split (l : Str) : ∃ sg, isSign sg ∧ l = sg ++ signed l := by
  cases l with
  | nil => exact ⟨[], .inl rfl, rfl⟩
  | cons c r =>
    cases h : one c [43, 45]
    · exact ⟨[], .inl rfl, by rw [signed_no c r h]; rfl⟩
    · refine ⟨[c], ?_, by rw [signed_yes c r h]; rfl⟩
      have := (sign_iff c).1 h
      rcases this with h | h
      · exact .inr (.inl (by rw [List.cons.injEq]; exact ⟨by rw [← UInt8.toNat_inj]; simp; omega, rfl⟩))
      · exact .inr (.inr (by rw [List.cons.injEq]; exact ⟨by rw [← UInt8.toNat_inj]; simp; omega, rfl⟩))
theorem digit_nosign (c : UInt8) (h : digit c = true) : one c [43, 45] = false := by
  have h1 := (digit_iff c).1 h
  cases hs : one c [43, 45]
  · rfl
  · have := (sign_iff c).1 hs; omega
theorem dropWhile_all (a r : Str) (ha : a.all digit = true) (hr : ∀ c, r.head? = some c → digit c = false) : (a ++ r).dropWhile digit = r := by
  induction a with
  | nil =>
    cases r with
    | nil => rfl
    | cons c r => simp [hr c rfl]
  | cons c a ih =>
    simp only [List.all_cons, Bool.and_eq_true] at ha
    simp [ha.1, ih ha.2]
theorem pow_tail (ex sp q : Str) (he : (ex = [] ∧ sp = [] ∧ q = []) ∨ ((ex = [101] ∨ ex = [69]) ∧ isSign sp ∧ q.all digit = true ∧ q ≠ [])) : powTail (ex ++ (sp ++ q)) = true := by
  rcases he with ⟨rfl, rfl, rfl⟩ | ⟨h1, h2, h3, h4⟩
  · rfl
  · have hq : signed (sp ++ q) = q := by
      apply signed_sign _ _ h2
      intro c hc
      cases q with
      | nil => cases hc
      | cons d q =>
        simp only [List.head?_cons, Option.some.injEq] at hc
        subst hc
        simp only [List.all_cons, Bool.and_eq_true] at h3
        exact digit_nosign _ h3.1
    have hne : (q != []) = true := by simpa using h4
    rcases h1 with rfl | rfl <;> simp [powTail, drun5, hq, h3, hne, one] <;> exact h4
theorem tail_pow' (r : Str) (h : powTail r = true) : ∃ ex sp q, r = ex ++ (sp ++ q) ∧ ((ex = [] ∧ sp = [] ∧ q = []) ∨ ((ex = [101] ∨ ex = [69]) ∧ isSign sp ∧ q.all digit = true ∧ q ≠ [])) := by
  cases r with
  | nil => exact ⟨[], [], [], rfl, .inl ⟨rfl, rfl, rfl⟩⟩
  | cons c r =>
    simp [powTail, drun5] at h
    obtain ⟨h1, h2, h3⟩ := h
    obtain ⟨sp, hs, he⟩ := signed_split r
    refine ⟨[c], sp, signed r, by rw [← he]; rfl, .inr ⟨?_, hs, by simpa using h3, h2⟩⟩
    have := (pow_iff c).1 h1
    rcases this with h | h
    · exact .inl (by rw [List.cons.injEq]; exact ⟨by rw [← UInt8.toNat_inj]; simp; omega, rfl⟩)
    · exact .inr (by rw [List.cons.injEq]; exact ⟨by rw [← UInt8.toNat_inj]; simp; omega, rfl⟩)
theorem exp_head (ex sp q : Str) (he : (ex = [] ∧ sp = [] ∧ q = []) ∨ ((ex = [101] ∨ ex = [69]) ∧ isSign sp ∧ q.all digit = true ∧ q ≠ [])) (c : UInt8) (h : (ex ++ (sp ++ q)).head? = some c) : c = 101 ∨ c = 69 := by
  rcases he with ⟨rfl, rfl, rfl⟩ | ⟨h1 | h1, _⟩
  · cases h
  · subst h1; simp at h; exact .inl h.symm
  · subst h1; simp at h; exact .inr h.symm
theorem takeWhile_all (l : Str) : (l.takeWhile digit).all digit = true := by
  induction l with
  | nil => rfl
  | cons c l ih =>
    rw [List.takeWhile_cons]
    split
    · rename_i h; simp only [List.all_cons, ih, h, Bool.and_self]
    · rfl
theorem parts_of_right (l : Str) (h : right l = true) : ∃ sg a dt b ex sp q, Parts l sg a dt b ex sp q := by
  rw [right_drun, drun0] at h
  obtain ⟨sg, hsg, he⟩ := signed_split l
  have hs : signed l = (signed l).takeWhile digit ++ (signed l).dropWhile digit := (List.takeWhile_append_dropWhile).symm
  split at h
  · rename_i hd
    have hne : (signed l).takeWhile digit ≠ [] := by
      cases hh : signed l with
      | nil => rw [hh] at hd; cases hd
      | cons c r => rw [hh] at hd; simp at hd; simp [hd]
    unfold dotTail at h
    split at h
    · rename_i hdot
      obtain ⟨ex, sp, q, hq, hx⟩ := tail_pow' _ h
      have hr : (signed l).dropWhile digit = [46] ++ ((signed l).dropWhile digit).drop 1 := by
        cases hh : (signed l).dropWhile digit with
        | nil => rw [hh] at hdot; cases hdot
        | cons c r => rw [hh] at hdot; simp at hdot; simp [hdot]
      have hb : ((signed l).dropWhile digit).drop 1 = (((signed l).dropWhile digit).drop 1).takeWhile digit ++ (((signed l).dropWhile digit).drop 1).dropWhile digit := (List.takeWhile_append_dropWhile).symm
      refine ⟨sg, (signed l).takeWhile digit, [46], (((signed l).dropWhile digit).drop 1).takeWhile digit, ex, sp, q, ?_, hsg, takeWhile_all _, takeWhile_all _, .inr rfl, by simp [hne], hx⟩
      rw [← hq, ← hb, ← hr, ← hs, ← he]
    · obtain ⟨ex, sp, q, hq, hx⟩ := tail_pow' _ h
      refine ⟨sg, (signed l).takeWhile digit, [], [], ex, sp, q, ?_, hsg, takeWhile_all _, rfl, .inl ⟨rfl, rfl⟩, by simpa using hne, hx⟩
      rw [List.nil_append, List.nil_append, ← hq, ← hs, ← he]
  · rename_i hd
    split at h
    · rename_i hdot
      simp only [Bool.and_eq_true] at h
      obtain ⟨ex, sp, q, hq, hx⟩ := tail_pow' _ h.2
      have hr : signed l = [46] ++ (signed l).drop 1 := by
        cases hh : signed l with
        | nil => rw [hh] at hdot; cases hdot
        | cons c r => rw [hh] at hdot; simp at hdot; simp [hdot]
      have hb : (signed l).drop 1 = ((signed l).drop 1).takeWhile digit ++ ((signed l).drop 1).dropWhile digit := (List.takeWhile_append_dropWhile).symm
      have hne : ((signed l).drop 1).takeWhile digit ≠ [] := by
        cases hh : (signed l).drop 1 with
        | nil => rw [hh] at h; have := h.1; simp [digit] at this
        | cons c r => rw [hh] at h; have := h.1; simp at this; simp [this]
      refine ⟨sg, [], [46], ((signed l).drop 1).takeWhile digit, ex, sp, q, ?_, hsg, rfl, takeWhile_all _, .inr rfl, by simpa using hne, hx⟩
      rw [← hq, ← hb, List.nil_append, ← hr, ← he]
    · cases h
theorem right_of_parts (l sg a dt b ex sp q : Str) (h : Parts l sg a dt b ex sp q) : right l = true := by
  obtain ⟨eq, hsg, ha, hb, hd, hn, he⟩ := h
  have hp := pow_tail ex sp q he
  have hx := exp_head ex sp q he
  have hbx : (b ++ (ex ++ (sp ++ q))).dropWhile digit = ex ++ (sp ++ q) := by
    apply dropWhile_all _ _ hb
    intro c hc
    rcases hx c hc with rfl | rfl <;> rfl
  have hs : signed l = a ++ (dt ++ (b ++ (ex ++ (sp ++ q)))) := by
    rw [eq]
    apply signed_sign _ _ hsg
    intro c hc
    cases a with
    | cons d a =>
      simp only [List.cons_append, List.head?_cons, Option.some.injEq] at hc
      subst hc
      simp only [List.all_cons, Bool.and_eq_true] at ha
      exact digit_nosign _ ha.1
    | nil =>
      rcases hd with ⟨rfl, rfl⟩ | rfl
      · exact absurd rfl hn
      · simp at hc; subst hc; rfl
  rw [right_drun, drun0, hs]
  cases a with
  | cons d a =>
    have hd1 : digit d = true := by simp only [List.all_cons, Bool.and_eq_true] at ha; exact ha.1
    have hdw : (d :: a ++ (dt ++ (b ++ (ex ++ (sp ++ q))))).dropWhile digit = dt ++ (b ++ (ex ++ (sp ++ q))) := by
      apply dropWhile_all _ _ ha
      intro c hc
      rcases hd with ⟨rfl, rfl⟩ | rfl
      · rcases hx c (by simpa using hc) with rfl | rfl <;> rfl
      · simp at hc; subst hc; rfl
    rw [if_pos (by simpa using hd1), hdw]
    unfold dotTail
    rcases hd with ⟨rfl, rfl⟩ | rfl
    · rw [if_neg]
      · simpa using hp
      · intro hc
        rcases hx 46 (by simpa using hc) with h | h <;> cases h
    · rw [if_pos (by simp)]
      simp only [List.cons_append, List.nil_append, List.drop_succ_cons, List.drop_zero]
      rw [hbx]; exact hp
  | nil =>
    rcases hd with ⟨rfl, rfl⟩ | rfl
    · exact absurd rfl hn
    · cases b with
      | nil => exact absurd rfl hn
      | cons d b =>
        have hd1 : digit d = true := by simp only [List.all_cons, Bool.and_eq_true] at hb; exact hb.1
        rw [if_neg (by simp [digit]), if_pos (by simp)]
        simp only [List.cons_append, List.nil_append, List.drop_succ_cons, List.drop_zero, List.headD_cons, hd1, Bool.true_and]
        simp only [List.cons_append] at hbx
        rw [hbx]; exact hp
end Go.Proofs.YtkhpfdgkmnifcaaDoor.Dc
