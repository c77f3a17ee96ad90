/- Plain laws on decimal numbers: the units of a text whose number is known; noughts ahead and behind. No program in sight. -/
import Derived.Test.YtkhpfdgkmnifcaaDoorDcC
set_option linter.unusedVariables false
set_option linter.unusedSimpArgs false
namespace Go.Proofs.YtkhpfdgkmnifcaaDoor.Dc
open Go Lx

theorem clamp_id (n : Int) (h : -1099511627776 ≤ n) (h2 : n ≤ 1099511627776) : clampI n = n := by unfold clampI; omega
theorem trimmed_le (D : Str) : (short D).length ≤ (Lib.trimLeftB D 48).length ∧ (Lib.trimLeftB D 48).length ≤ D.length := ⟨trimRight_le _ _, trimLeft_le _ _⟩
theorem Parts.all {l sg a dt b ex sp q : Str} (h : Parts l sg a dt b ex sp q) : (a ++ b).all digit = true := by rw [List.all_append, h.ha, h.hb]; rfl
theorem digits_facts (l : Str) : -1099511627776 ≤ (digitsP l).2.1 ∧ (digitsP l).2.1 ≤ 1099511627776 ∧ (digitsP l).1.all digit = true ∧ (digitsP l).1.length ≤ l.length ∧ (digitsP l).1.head? ≠ some 48 ∧ (digitsP l).1.getLast? ≠ some 48 := by
  cases hr : right l
  · rw [digits_wrong l hr]
    exact ⟨by decide, by decide, rfl, Nat.zero_le _, by decide, by decide⟩
  · obtain ⟨sg, a, dt, b, ex, sp, q, h⟩ := parts_of_right l hr
    rw [digits_parts h]
    split
    · exact ⟨by decide, by decide, rfl, Nat.zero_le _, by decide, by decide⟩
    · refine ⟨?_, ?_, short_all _ h.all, ?_, short_head _, trimRight_last _ _⟩
      · simp only [clampI]; omega
      · simp only [clampI]; omega
      · obtain ⟨l1, l2⟩ := trimmed_le (a ++ b)
        have e := congrArg List.length h.eq
        simp only [List.length_append] at e l1 l2 ⊢
        omega
/-- a text whose number, without a power, is so many units: that is what is told -/
theorem scale_num {l sg a dt b ex sp q : Str} (h : Parts l sg a dt b ex sp q) (f n : Nat) (hf : f ≤ 9) (hn : n ≤ 1099511627775) (he : expo sp q = 0) (hl : (a ++ b).length ≤ 100000)
    (hv : dval (a ++ b) * 10 ^ f = n * 10 ^ b.length) : scaleP l f = (if sg == [45] then -(n : Int) else n, 0) := by
  unfold scaleP
  rw [digits_parts h]
  have hz := short_zero (a ++ b) h.all
  by_cases hs : short (a ++ b) = []
  · rw [if_pos hs]
    have h0 := hz.1 hs
    rw [h0, Nat.zero_mul] at hv
    have : n = 0 := by
      have hp : 0 < 10 ^ b.length := Nat.pow_pos (by decide)
      rcases Nat.eq_zero_or_pos n with h | h
      · exact h
      · have := Nat.mul_pos h hp; omega
    subst this
    rw [if_neg (by simp; omega)]
    unfold unit
    cases (sg == [45]) <;> simp
  · rw [if_neg hs]
    simp only []
    rw [if_neg (by simp; omega)]
    have hval := short_val (a ++ b)
    obtain ⟨l1, l2⟩ := trimmed_le (a ++ b)
    have hbl : b.length ≤ (a ++ b).length := by simp
    have hm := last_mod (short (a ++ b)) (short_all _ h.all) hs (trimRight_last _ _)
    have hh := short_head (a ++ b)
    have hd := short_all _ h.all
    generalize (a ++ b).length = L at *
    generalize ht : (Lib.trimLeftB (a ++ b) 48).length - (short (a ++ b)).length = t at *
    generalize hS : (Lib.trimLeftB (a ++ b) 48).length = T at *
    generalize short (a ++ b) = s at *
    have hcl : clampI (expo sp q - b.length + T - s.length) = (t : Int) - b.length := by
      rw [he, clamp_id] <;> omega
    rw [hcl]
    rw [hval, Nat.mul_assoc, ← Nat.pow_add] at hv
    have hle : b.length ≤ t + f := by
      apply Classical.byContradiction
      intro hc
      have h1 : n * 10 ^ b.length = n * 10 ^ (b.length - (t + f)) * 10 ^ (t + f) := by
        rw [Nat.mul_assoc, ← Nat.pow_add]; congr 2; omega
      rw [h1] at hv
      have h2 := Nat.eq_of_mul_eq_mul_right (Nat.pow_pos (by decide)) hv
      have h3 : b.length - (t + f) = (b.length - (t + f) - 1) + 1 := by omega
      rw [h3, Nat.pow_succ, ← Nat.mul_assoc] at h2
      omega
    have hk : dval s * 10 ^ (t + f - b.length) = n := by
      have h1 : dval s * 10 ^ (t + f) = dval s * 10 ^ (t + f - b.length) * 10 ^ b.length := by
        rw [Nat.mul_assoc, ← Nat.pow_add]; congr 2; omega
      rw [h1] at hv
      exact Nat.eq_of_mul_eq_mul_right (Nat.pow_pos (by decide)) hv
    exact unit_ok _ s _ _ (t + f - b.length) n hd hs hh (by omega) hk hn

/-- NOUGHTS AHEAD AND BEHIND: the text of some units, with a point, so many noughts ahead and behind, a sign and a power of nought -/
theorem long_plain (n fine : Int) (h0 : 0 ≤ fine) (h9 : fine ≤ 9) (hn : 0 ≤ n) (hn2 : n ≤ 1099511627775) (x y : Nat) (hx : x ≤ 500) (hy : y ≤ 500) (s : Str)
    (hs : s = List.replicate x 48 ++ ((if (textP n fine).contains 46 then textP n fine else textP n fine ++ [46]) ++ List.replicate y 48)) :
    scaleP s fine = (n, 0) ∧ scaleP (45 :: (s ++ [101, 48])) fine = (-n, 0) := by
  obtain ⟨sg, whole, part, e, hsg, hw, hwn, hp, _, hpl, hv, hone, hz⟩ := text_parts n fine h0 h9
  rw [if_neg (by omega)] at hsg
  subst hsg
  obtain ⟨f, rfl⟩ : ∃ f : Nat, fine = f := ⟨fine.toNat, by omega⟩
  obtain ⟨m, rfl⟩ : ∃ m : Nat, n = m := ⟨n.toNat, by omega⟩
  simp only [Int.toNat_natCast, Int.natAbs_natCast] at hv
  have hno : ∀ r : Str, r.all digit = true → r.contains 46 = false := by
    intro r hr
    have := mem_digits r hr 46 rfl
    simpa using this
  have hs2 : s = (List.replicate x 48 ++ whole) ++ ([46] ++ (part ++ List.replicate y 48)) := by
    rw [hs, e]
    by_cases h : part = []
    · subst h
      simp only [if_true, List.append_nil, List.nil_append]
      rw [hno whole hw]
      simp
    · simp only [h, if_false, List.nil_append]
      have : (whole ++ 46 :: part).contains 46 = true := by simp
      rw [this]
      simp
  have hrep : ∀ k, (List.replicate k (48 : UInt8)).all digit = true := by intro k; simp [digit]
  have hlen : (textP m f).length ≤ 100 := by
    have h1 : whole.length ≤ 20 := by
      rcases Nat.lt_or_ge 20 whole.length with h | h
      · exfalso
        have hh : whole.head? ≠ some 48 := by
          intro hh
          have := hone hh
          omega
        have h2 := head_ge whole hw hwn hh
        have h3 : 10 ^ 20 ≤ 10 ^ (whole.length - 1) := Nat.pow_le_pow_right (by decide) (by omega)
        rw [dval_append] at hv
        have h4 : dval whole ≤ m := by
          have hp1 : 1 ≤ 10 ^ part.length := Nat.one_le_pow _ _ (by decide)
          have hp2 : 1 ≤ 10 ^ (f - part.length) := Nat.one_le_pow _ _ (by decide)
          have a1 : dval whole * 1 ≤ dval whole * 10 ^ part.length := Nat.mul_le_mul_left _ hp1
          have a2 : (dval whole * 10 ^ part.length + dval part) * 1 ≤ (dval whole * 10 ^ part.length + dval part) * 10 ^ (f - part.length) := Nat.mul_le_mul_left _ hp2
          omega
        omega
      · exact h
    rw [e]
    simp only [List.nil_append, List.length_append]
    split
    · simp; omega
    · simp; omega
  have hl2 : whole.length + part.length ≤ 100 := by
    rw [e] at hlen
    by_cases h : part = []
    · subst h; simp at hlen ⊢; omega
    · simp [h] at hlen; omega
  have hval : dval ((List.replicate x 48 ++ whole) ++ (part ++ List.replicate y 48)) * 10 ^ f = m * 10 ^ (part ++ List.replicate y (48 : UInt8)).length := by
    rw [List.append_assoc, dval_ahead, ← List.append_assoc, dval_zeros, ← hv, List.length_append, List.length_replicate, Nat.mul_assoc, Nat.mul_assoc, ← Nat.pow_add, ← Nat.pow_add]
    congr 2; omega
  have hpar : ∀ sg ex q, isSign sg → ((ex = [] ∧ ([] : Str) = [] ∧ q = []) ∨ ((ex = [101] ∨ ex = [69]) ∧ isSign [] ∧ q.all digit = true ∧ q ≠ [])) →
      Parts (sg ++ ((List.replicate x 48 ++ whole) ++ ([46] ++ ((part ++ List.replicate y 48) ++ (ex ++ ([] ++ q)))))) sg (List.replicate x 48 ++ whole) [46] (part ++ List.replicate y 48) ex [] q := by
    intro sg ex q hsg hx
    refine ⟨rfl, hsg, ?_, ?_, .inr rfl, ?_, hx⟩
    · rw [List.all_append, hrep, hw]; rfl
    · rw [List.all_append, hrep, hp]; rfl
    · simp [hwn]
  have hL : ((List.replicate x 48 ++ whole) ++ (part ++ List.replicate y 48)).length ≤ 100000 := by simp; omega
  refine ⟨?_, ?_⟩
  · have := scale_num (hpar [] [] [] (.inl rfl) (.inl ⟨rfl, rfl, rfl⟩)) f m (by omega) (by omega) rfl hL hval
    simp only [List.nil_append, List.append_nil] at this
    rw [hs2]
    exact this
  · have := scale_num (hpar [45] [101] [48] (.inr (.inr rfl)) (.inr ⟨.inl rfl, .inl rfl, rfl, by simp⟩)) f m (by omega) (by omega) (by decide) hL hval
    rw [hs2]
    have e2 : (45 : UInt8) :: ((List.replicate x 48 ++ whole) ++ ([46] ++ (part ++ List.replicate y 48)) ++ [101, 48]) = [45] ++ ((List.replicate x 48 ++ whole) ++ ([46] ++ ((part ++ List.replicate y 48) ++ ([101] ++ ([] ++ [48]))))) := by simp
    rw [e2]
    exact this
end Go.Proofs.YtkhpfdgkmnifcaaDoor.Dc
