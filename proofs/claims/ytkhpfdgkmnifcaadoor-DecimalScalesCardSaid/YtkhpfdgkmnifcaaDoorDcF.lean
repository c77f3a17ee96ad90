/- Plain laws on decimal numbers: what the scale of a text tells of its number, by definition. No program in sight. -/
import Derived.Test.YtkhpfdgkmnifcaaDoorDcE
set_option linter.unusedVariables false
set_option linter.unusedSimpArgs false
namespace Go.Proofs.YtkhpfdgkmnifcaaDoor.Dc
open Go Lx

theorem expo_small {sp q : Str} (hq : q.length ≤ 15) (h : q.all digit = true) : expo sp q = (if sp = [45] then -(dval q : Int) else (dval q : Int)) ∧ dval q < 1000000000000000 := by
  have h1 := dval_lt q h
  have h2 : 10 ^ q.length ≤ 10 ^ 15 := Nat.pow_le_pow_right (by decide) hq
  have h3 : (dval q : Int) ≤ 1125899906842624 := by omega
  refine ⟨?_, by omega⟩
  unfold expo
  rw [Int.min_eq_left h3]
theorem Parts.q_all {l sg a dt b ex sp q : Str} (h : Parts l sg a dt b ex sp q) : q.all digit = true := by
  rcases h.he with ⟨_, _, rfl⟩ | ⟨_, _, h, _⟩
  · rfl
  · exact h
theorem dval_two {q : Str} (hq : q.length ≤ 2) (h : q.all digit = true) : dval q < 100 := by
  have h1 := dval_lt q h
  have h2 : 10 ^ q.length ≤ 10 ^ 2 := Nat.pow_le_pow_right (by decide) hq
  omega
/-- the digits and the power of a plain text -/
theorem digits_plain {l sg a dt b ex sp q : Str} (h : Parts l sg a dt b ex sp q) (hl : l.length ≤ 100) (hq : q.length ≤ 2) :
    (dval (a ++ b) = 0 ∧ digitsP l = ([], 0, false, true)) ∨
    ∃ (d : Str) (t : Nat), digitsP l = (d, numE b sp q + t, sg == [45], true) ∧ d ≠ [] ∧ d.all digit = true ∧ d.head? ≠ some 48 ∧ dval d % 10 ≠ 0 ∧ dval (a ++ b) = dval d * 10 ^ t ∧ t ≤ 100 ∧ d.length ≤ 100 := by
  have hz := short_zero (a ++ b) h.all
  have hab : (a ++ b).length ≤ 100 := by
    have e := congrArg List.length h.eq
    simp only [List.length_append] at e ⊢
    omega
  have hbl : b.length ≤ (a ++ b).length := by simp
  rw [digits_parts h]
  by_cases hs : short (a ++ b) = []
  · exact .inl ⟨hz.1 hs, by rw [if_pos hs]⟩
  · right
    rw [if_neg hs]
    obtain ⟨l1, l2⟩ := trimmed_le (a ++ b)
    have hm := last_mod (short (a ++ b)) (short_all _ h.all) hs (trimRight_last _ _)
    obtain ⟨e1, e2⟩ := expo_small (sp := sp) (q := q) (by omega) h.q_all
    have e3 := dval_two hq h.q_all
    refine ⟨_, (Lib.trimLeftB (a ++ b) 48).length - (short (a ++ b)).length, ?_, hs, short_all _ h.all, short_head _, hm, short_val _, by omega, by omega⟩
    rw [clamp_id]
    · rw [e1]; unfold numE
      congr 2
      split <;> omega
    · rw [e1]; split <;> omega
    · rw [e1]; split <;> omega

theorem numV_abs (sg a b : Str) : (numV sg a b).natAbs = dval (a ++ b) := by unfold numV; split <;> omega
theorem numV_sgn (sg a b : Str) : numV sg a b = if sg == [45] then -(dval (a ++ b) : Int) else (dval (a ++ b) : Int) := by
  unfold numV
  by_cases h : sg = [45]
  · rw [if_pos h, if_pos (by simpa using h)]
  · rw [if_neg h, if_neg (by simpa using h)]

/-- THE SCALE OF A PLAIN TEXT: x over y is its number in units -/
theorem scale_law {l sg a dt b ex sp q : Str} (h : Parts l sg a dt b ex sp q) (hl : l.length ≤ 100) (hq : q.length ≤ 2) (f : Nat) (hf : f ≤ 9) (z : Int) (hz : z = numE b sp q + f) (x : Int) (y : Nat)
    (hx : x = if 0 ≤ z then numV sg a b * 10 ^ z.toNat else numV sg a b) (hy : y = if 0 ≤ z then 1 else 10 ^ (-z).toNat) :
    (∃ n : Int, scaleP l f = (n, 0) ∧ -1099511627775 ≤ n ∧ n ≤ 1099511627775 ∧ n * y = x) ∨ (scaleP l f = (0, 22) ∧ x.natAbs % y ≠ 0) ∨ (scaleP l f = (0, 23) ∧ x.natAbs % y = 0 ∧ 1099511627775 * y < x.natAbs) := by
  have hfb : ¬ ((true = false) ∨ (f : Int) < 0 ∨ (f : Int) > 9) := by simp; omega
  rcases digits_plain h hl hq with ⟨h0, hd⟩ | ⟨d, t, hd, hne, hall, hhd, hm, hv, ht, hdl⟩
  · left
    refine ⟨0, ?_, by decide, by decide, ?_⟩
    · unfold scaleP; rw [hd, if_neg hfb]; rfl
    · have hn : numV sg a b = 0 := by have := numV_abs sg a b; omega
      rw [hx, hn]; simp
  · have hs : scaleP l f = unit (sg == [45]) d (numE b sp q + t) f := by unfold scaleP; rw [hd, if_neg hfb]
    rw [hs]
    have hp10 : ∀ k, 0 < 10 ^ k := fun k => Nat.pow_pos (by decide)
    have hxa : x.natAbs = if 0 ≤ z then dval d * 10 ^ t * 10 ^ z.toNat else dval d * 10 ^ t := by
      rw [hx]
      split
      · rw [Int.natAbs_mul, numV_abs, hv]
        first | (congr 1; done) | (congr 1; rw [Int.natAbs_pow]; done) | (congr 1; rw [Int.natAbs_pow]; rfl)
      · rw [numV_abs, hv]
    have hpos := hp10 t
    have hdpos : 0 < dval d := by omega
    by_cases hk : z + t < 0
    · right; left
      refine ⟨?_, ?_⟩
      · unfold unit; rw [if_neg hne, if_pos (by omega)]
      · have hz0 : ¬ 0 ≤ z := by omega
        rw [if_neg hz0] at hxa hy
        obtain ⟨j, hj⟩ : ∃ j : Nat, (-z).toNat = (j + 1) + t := ⟨(-z).toNat - t - 1, by omega⟩
        rw [hxa, hy, hj, Nat.pow_add, Nat.mul_comm (10 ^ (j + 1)), Nat.mul_comm (dval d)]
        rw [Nat.mul_mod_mul_left]
        intro h0
        have h1 : dval d % 10 ^ (j + 1) = 0 := by
          rcases Nat.mul_eq_zero.1 h0 with h | h
          · omega
          · exact h
        have h2 : 10 ∣ dval d := Nat.dvd_trans ⟨10 ^ j, by rw [Nat.pow_succ, Nat.mul_comm]⟩ (Nat.dvd_of_mod_eq_zero h1)
        omega
    · obtain ⟨k, hk⟩ : ∃ k : Nat, z + t = k := ⟨(z + t).toNat, by omega⟩
      have hkf : numE b sp q + (t : Int) + (f : Int) = k := by omega
      have hX : x.natAbs = dval d * 10 ^ k * y := by
        rw [hxa, hy]
        split
        · rename_i h0
          rw [Nat.mul_one, Nat.mul_assoc, ← Nat.pow_add]; congr 2; omega
        · rename_i h0
          rw [Nat.mul_assoc, ← Nat.pow_add]; congr 2; omega
      have hy0 : 0 < y := by rw [hy]; split <;> first | decide | exact hp10 _
      have hmod : x.natAbs % y = 0 := by rw [hX]; exact Nat.mul_mod_left _ _
      have hN : dval (d ++ Lib.repeatL [48] (numE b sp q + t + f).toNat) = dval d * 10 ^ k := by rw [repeatL_one, dval_zeros, hkf, Int.toNat_natCast]
      have big : 1099511627775 < dval d * 10 ^ k → 1099511627775 * y < x.natAbs := by
        intro h; rw [hX]; exact Nat.mul_lt_mul_of_pos_right h hy0
      unfold unit
      rw [if_neg hne, if_neg (by omega), hN]
      by_cases h13 : (d.length : Int) + (numE b sp q + t) + f > 13
      · rw [if_pos h13]
        right; right
        refine ⟨rfl, hmod, big ?_⟩
        have h1 := head_ge d hall hne hhd
        have h2 : 10 ^ (d.length - 1 + k) ≤ dval d * 10 ^ k := by rw [Nat.pow_add]; exact Nat.mul_le_mul_right _ h1
        have h4 : 0 < d.length := List.length_pos_iff.2 hne
        have h3 : 10 ^ 13 ≤ 10 ^ (d.length - 1 + k) := Nat.pow_le_pow_right (by decide) (by omega)
        omega
      · rw [if_neg h13]
        by_cases hb : ((dval d * 10 ^ k : Nat) : Int) > 1099511627775
        · rw [if_pos hb]
          exact .inr (.inr ⟨rfl, hmod, big (by omega)⟩)
        · rw [if_neg hb]
          left
          have hxs : x = if sg == [45] then -(x.natAbs : Int) else (x.natAbs : Int) := by
            have e1 : (0 : Int) < 10 ^ z.toNat := Int.pow_pos (by decide)
            rw [hx, numV_sgn]
            by_cases hsg : (sg == [45]) = true
            · simp only [hsg, if_true]
              split
              · rw [Int.neg_mul, Int.natAbs_neg, Int.natAbs_of_nonneg (Int.mul_nonneg (by omega) (by omega))]
              · omega
            · simp only [hsg]
              split
              · simp only [Bool.false_eq_true, if_false]
                rw [Int.natAbs_of_nonneg (Int.mul_nonneg (by omega) (by omega))]
              · simp
          rw [hxs, hX]
          cases (sg == [45])
          · exact ⟨_, rfl, by omega, by omega, by simp⟩
          · exact ⟨_, rfl, by omega, by omega, by simp [Int.neg_mul]⟩
/-- any text's scale: told, or why not -/
theorem scale_kinds (l : Str) (f : Int) (hr : right l = true) (h0 : 0 ≤ f) (h9 : f ≤ 9) : (scaleP l f).2 = 0 ∨ ((scaleP l f).1 = 0 ∧ ((scaleP l f).2 = 22 ∨ (scaleP l f).2 = 23)) := by
  obtain ⟨sg, a, dt, b, ex, sp, q, h⟩ := parts_of_right l hr
  have hok : (digitsP l).2.2.2 = true := by rw [digits_parts h]; split <;> rfl
  unfold scaleP
  rw [hok, if_neg (by simp; omega)]
  unfold unit
  repeat' split
  all_goals simp
theorem scale_bad (l : Str) (f : Int) (h : right l = false ∨ f < 0 ∨ f > 9) : scaleP l f = (0, 10) := by
  unfold scaleP
  rw [if_pos]
  rcases h with h | h
  · left; rw [digits_wrong l h]
  · right; exact h

/-- THE TEXT OF SOME UNITS: its parts, and what stands in it -/
theorem text_law (n : Int) (f : Nat) (hf : f ≤ 9) : ∃ sg a dt b, Parts (textP n f) sg a dt b [] [] [] ∧ b.length ≤ f ∧ numV sg a b * 10 ^ (f - b.length) = n ∧ (textP n f).head? ≠ some 43 ∧ (textP n f).head? ≠ some 46 ∧
    ((textP n f).head? = some 45 ↔ n < 0) ∧ sg.length = (if n < 0 then 1 else 0) ∧ sg.length < (textP n f).length ∧
    ((textP n f)[sg.length]? = some 48 → (textP n f).length > sg.length + 1 → (textP n f)[sg.length + 1]? = some 46) ∧ (b ≠ [] → (textP n f).getLast? ≠ some 48) ∧ (textP n f).getLast? ≠ some 46 ∧ (n = 0 → textP n f = [48]) := by
  obtain ⟨sg, whole, part, e, hsg, hw, hwn, hp, hpl, hplen, hv, hone, hz⟩ := text_parts n f (by omega) (by omega)
  rw [Int.toNat_natCast] at hv
  have hs : isSign sg := by rw [hsg]; split <;> simp [isSign]
  obtain ⟨c, wl, hwc⟩ : ∃ c wl, whole = c :: wl := by cases whole with
    | nil => exact absurd rfl hwn
    | cons c wl => exact ⟨c, wl, rfl⟩
  have hcd : digit c = true := by rw [hwc] at hw; simp only [List.all_cons, Bool.and_eq_true] at hw; exact hw.1
  have hc := (digit_iff c).1 hcd
  have c43 : c ≠ 43 := by rintro rfl; cases hcd
  have c45 : c ≠ 45 := by rintro rfl; cases hcd
  have c46 : c ≠ 46 := by rintro rfl; cases hcd
  have hsgl : sg.length = (if n < 0 then 1 else 0) := by rw [hsg]; split <;> rfl
  have hh : (textP n f).head? = if n < 0 then some 45 else some c := by
    rw [e, hwc, hsg]; split <;> rfl
  have hdrop : ∀ i, (textP n f)[sg.length + i]? = (whole ++ (if part = [] then [] else 46 :: part))[i]? := by
    intro i; rw [e, List.getElem?_append_right (by omega)]; congr 1; omega
  have hlast : (textP n f).getLast? = if part = [] then whole.getLast? else part.getLast? := by
    rw [e, ← List.append_assoc, List.getLast?_append]
    by_cases hpn : part = []
    · rw [if_pos hpn, if_pos hpn, List.getLast?_append]
      simp [List.getLast?_eq_some_getLast hwn]
    · rw [if_neg hpn, if_neg hpn]
      simp [List.getLast?_cons, List.getLast?_eq_some_getLast hpn]
  have hnd : ∀ l : Str, l.all digit = true → l.getLast? ≠ some 46 := by
    intro l hl h
    rw [List.all_eq_true] at hl
    have := hl 46 (List.mem_of_getLast? h)
    cases this
  refine ⟨sg, whole, if part = [] then [] else [46], part, ⟨?_, hs, hw, hp, ?_, by simp [hwn], .inl ⟨rfl, rfl, rfl⟩⟩, by omega, ?_, ?_, ?_, ?_, hsgl, ?_, ?_, ?_, ?_, ?_⟩
  · rw [e]; split
    · rename_i h; rw [h]; rfl
    · simp
  · by_cases hpn : part = []
    · exact .inl ⟨if_pos hpn, hpn⟩
    · exact .inr (if_neg hpn)
  · have h1 : (dval (whole ++ part) : Int) * 10 ^ (f - part.length) = (n.natAbs : Int) := by rw [← hv]; simp
    unfold numV
    by_cases h0 : n < 0
    · rw [if_pos (by rw [hsg, if_pos h0]), Int.neg_mul, h1]; omega
    · rw [if_neg (by rw [hsg, if_neg h0]; simp), h1]; omega
  · rw [hh]; split
    · decide
    · simpa using c43
  · rw [hh]; split
    · decide
    · simpa using c46
  · rw [hh]; split
    · simp; assumption
    · simp only [Option.some.injEq]; exact ⟨fun h => absurd h c45, fun h => absurd h (by assumption)⟩
  · rw [e, hwc]; simp
  · intro h0 hlen
    have h1 := hdrop 0
    have h2 := hdrop 1
    rw [Nat.add_zero] at h1
    rw [h1, hwc] at h0
    simp at h0
    have hl1 := hone (by rw [hwc, h0]; rfl)
    rw [h2]
    have hwl : wl = [] := by rw [hwc] at hl1; simpa using hl1
    rw [hwc, hwl]
    by_cases hpn : part = []
    · exfalso
      rw [e, hwc, hwl, hpn] at hlen
      simp at hlen
    · simp [hpn]
  · intro hb; rw [hlast, if_neg hb]; exact hpl
  · rw [hlast]; split
    · exact hnd _ hw
    · exact hnd _ hp
  · intro h0
    obtain ⟨e1, e2⟩ := hz h0
    rw [e, hsg, e1, e2, if_neg (by omega)]; rfl

theorem text_size (n : Int) (f : Nat) (hf : f ≤ 9) (h1 : -9223372036854775808 ≤ n) (h2 : n ≤ 9223372036854775807) : (textP n f).length ≤ 60 := by
  obtain ⟨sg, whole, part, e, hsg, hw, hwn, hp, hpl, hplen, hv, hone, hz⟩ := text_parts n f (by omega) (by omega)
  have hwl : whole.length ≤ 20 := by
    rcases Nat.lt_or_ge 20 whole.length with h | h
    · exfalso
      have hh : whole.head? ≠ some 48 := by
        intro hh
        have := hone hh
        omega
      have h3 := head_ge whole hw hwn hh
      have h4 : 10 ^ 20 ≤ 10 ^ (whole.length - 1) := Nat.pow_le_pow_right (by decide) (by omega)
      rw [dval_append] at hv
      have h5 : dval whole ≤ n.natAbs := by
        have hp1 : 1 ≤ 10 ^ part.length := Nat.one_le_pow _ _ (by decide)
        have hp2 : 1 ≤ 10 ^ ((f : Int).toNat - part.length) := Nat.one_le_pow _ _ (by decide)
        have a1 : dval whole * 1 ≤ dval whole * 10 ^ part.length := Nat.mul_le_mul_left _ hp1
        have a2 : (dval whole * 10 ^ part.length + dval part) * 1 ≤ (dval whole * 10 ^ part.length + dval part) * 10 ^ ((f : Int).toNat - part.length) := Nat.mul_le_mul_left _ hp2
        omega
      omega
    · exact h
  have h2 : sg.length ≤ 1 := by rw [hsg]; split <;> simp
  rw [e]
  simp only [List.length_append]
  split
  · simp; omega
  · simp; omega

/-! ### Plain? -/
/-- is there a power, how many digits has it? -/
def plst (z : Bool × Nat) (c : UInt8) : Bool × Nat := if c = 101 ∨ c = 69 then (true, z.2) else if z.1 = true ∧ digit c = true then (z.1, z.2 + 1) else z
def pfold (l : Str) : Bool × Nat := l.foldl plst (false, 0)
theorem pfold_snoc (l : Str) (c : UInt8) : pfold (l ++ [c]) = plst (pfold l) c := by unfold pfold; rw [List.foldl_append]; rfl
def plainP (l : Str) : Bool := decide (l.length ≤ 60) && decide ((pfold l).2 ≤ 2)
theorem pl_no (l : Str) (z : Bool × Nat) (hz : z.1 = false) (h : ∀ c ∈ l, c ≠ 101 ∧ c ≠ 69) : l.foldl plst z = z := by
  induction l with
  | nil => rfl
  | cons c l ih =>
    have h1 := h c (by simp)
    rw [List.foldl_cons, plst, if_neg (by simp [h1.1, h1.2]), if_neg (by simp [hz])]
    exact ih (fun x hx => h x (by simp [hx]))
theorem pl_digits (q : Str) (k : Nat) (h : q.all digit = true) : q.foldl plst (true, k) = (true, k + q.length) := by
  induction q generalizing k with
  | nil => rfl
  | cons c q ih =>
    simp only [List.all_cons, Bool.and_eq_true] at h
    have h1 : ¬ (c = 101 ∨ c = 69) := by rintro (rfl | rfl) <;> cases h.1
    rw [List.foldl_cons, plst, if_neg h1, if_pos ⟨rfl, h.1⟩, ih _ h.2, List.length_cons]
    congr 1; omega
theorem pfold_parts {l sg a dt b ex sp q : Str} (h : Parts l sg a dt b ex sp q) : (pfold l).2 = q.length := by
  have hno : ∀ c ∈ sg ++ (a ++ (dt ++ b)), c ≠ 101 ∧ c ≠ 69 := by
    intro c hc
    rcases List.mem_append.1 hc with h1 | h1
    · rcases h.hsg with e | e | e
      · rw [e] at h1; cases h1
      · rw [e, List.mem_singleton] at h1; subst h1; decide
      · rw [e, List.mem_singleton] at h1; subst h1; decide
    · rcases h.mant c h1 with h2 | h2
      · constructor <;> (rintro rfl; cases h2)
      · subst h2; decide
  have e : l = (sg ++ (a ++ (dt ++ b))) ++ (ex ++ (sp ++ q)) := by rw [h.eq]; simp
  unfold pfold
  rw [e, List.foldl_append, pl_no _ _ rfl hno]
  rcases h.he with ⟨rfl, rfl, rfl⟩ | ⟨h1, h2, h3, h4⟩
  · rfl
  · have hx : ex.foldl plst (false, 0) = (true, 0) := by rcases h1 with rfl | rfl <;> rfl
    have hsp : sp.foldl plst (true, 0) = (true, 0) := by rcases h2 with rfl | rfl | rfl <;> rfl
    rw [List.foldl_append, List.foldl_append, hx, hsp, pl_digits q 0 h3]; simp
end Go.Proofs.YtkhpfdgkmnifcaaDoor.Dc
