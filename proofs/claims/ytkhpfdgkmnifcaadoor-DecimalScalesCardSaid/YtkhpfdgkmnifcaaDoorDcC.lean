/- Plain laws on decimal numbers: what the program's functions tell, in plain words; of a right text, part by part; the text of some units. No program in sight. -/
import Derived.Test.YtkhpfdgkmnifcaaDoorDcB
set_option linter.unusedVariables false
set_option linter.unusedSimpArgs false
namespace Go.Proofs.YtkhpfdgkmnifcaaDoor.Dc
open Go Lx

/-! ### Cut at one letter -/
theorem index_at (a r : Str) (c : UInt8) (h : c ∉ a) : Lib.index (a ++ c :: r) [c] = a.length := by
  induction a with
  | nil => simp [Lib.index]
  | cons b a ih =>
    simp only [List.mem_cons, not_or] at h
    have h1 := ih h.2
    have h2 : ([c].isPrefixOf (b :: (a ++ c :: r))) = false := by
      simp only [List.isPrefixOf, Bool.and_true, beq_eq_false_iff_ne]; exact h.1
    rw [List.cons_append, Lib.index, h2, h1]
    simp
theorem index_no (l : Str) (c : UInt8) (h : c ∉ l) : Lib.index l [c] = -1 := by
  induction l with
  | nil => rfl
  | cons b l ih =>
    simp only [List.mem_cons, not_or] at h
    have h2 : ([c].isPrefixOf (b :: l)) = false := by
      simp only [List.isPrefixOf, Bool.and_true, beq_eq_false_iff_ne]; exact h.1
    rw [Lib.index, h2, ih h.2]; simp
theorem cut_at (a r : Str) (c : UInt8) (h : c ∉ a) : Lib.cut (a ++ c :: r) [c] = (a, r, true) := by
  unfold Lib.cut
  rw [index_at a r c h, if_pos (by omega)]
  simp
theorem cut_no (l : Str) (c : UInt8) (h : c ∉ l) : Lib.cut l [c] = (l, [], false) := by
  unfold Lib.cut
  rw [index_no l c h, if_neg (by omega)]

/-! ### The power behind the e -/
def powN (q : Str) : Int := q.foldl (fun (n : Int) c => min (n * 10 + ((c.toNat : Int) - 48)) 1125899906842624) 0
theorem powN_snoc (q : Str) (c : UInt8) : powN (q ++ [c]) = min (powN q * 10 + ((c.toNat : Int) - 48)) 1125899906842624 := by
  unfold powN; rw [List.foldl_append]; rfl
theorem snoc_ind {p : Str → Prop} (h0 : p []) (h1 : ∀ l c, p l → p (l ++ [c])) (l : Str) : p l := by
  have : ∀ m : Str, p m.reverse := by
    intro m
    induction m with
    | nil => exact h0
    | cons c m ih => rw [List.reverse_cons]; exact h1 _ _ ih
  have := this l.reverse
  rwa [List.reverse_reverse] at this
theorem powN_eq (q : Str) (h : q.all digit = true) : powN q = min (dval q : Int) 1125899906842624 := by
  induction q using snoc_ind with
  | h0 => rfl
  | h1 q c ih =>
    rw [List.all_append] at h
    simp only [List.all_cons, List.all_nil, Bool.and_true, Bool.and_eq_true] at h
    have h2 := (digit_iff c).1 h.2
    rw [powN_snoc, ih h.1, dval_snoc]
    omega
theorem powN_range (q : Str) (h : q.all digit = true) : 0 ≤ powN q ∧ powN q ≤ 1125899906842624 := by
  rw [powN_eq q h]; omega
def powerP (s : Str) : Int := if Lib.hasPrefix s [45] then -(powN (Lib.trimLeftS s [43, 45])) else powN (Lib.trimLeftS s [43, 45])
def expo (sp q : Str) : Int := if sp = [45] then -(min (dval q : Int) 1125899906842624) else min (dval q : Int) 1125899906842624
theorem trimS_sign (sg r : Str) (hs : isSign sg) (hr : ∀ c, r.head? = some c → one c [43, 45] = false) : Lib.trimLeftS (sg ++ r) [43, 45] = r := by
  have hr' : Lib.trimLeftS r [43, 45] = r := by
    unfold Lib.trimLeftS
    cases r with
    | nil => rfl
    | cons c r =>
      have := hr c rfl
      unfold one at this
      rw [List.dropWhile_cons, this]; rfl
  rcases hs with rfl | rfl | rfl
  · exact hr'
  · unfold Lib.trimLeftS at *; rw [List.cons_append, List.dropWhile_cons]; exact hr'
  · unfold Lib.trimLeftS at *; rw [List.cons_append, List.dropWhile_cons]; exact hr'
theorem digits_head (q : Str) (h : q.all digit = true) (c : UInt8) (hc : q.head? = some c) : one c [43, 45] = false := by
  cases q with
  | nil => cases hc
  | cons d q =>
    simp only [List.head?_cons, Option.some.injEq] at hc
    subst hc
    simp only [List.all_cons, Bool.and_eq_true] at h
    exact digit_nosign _ h.1
theorem minus_head (sp r : Str) (hs : isSign sp) (hr : ∀ c, r.head? = some c → one c [43, 45] = false) : Lib.hasPrefix (sp ++ r) [45] = (sp == [45]) := by
  unfold Lib.hasPrefix
  rcases hs with rfl | rfl | rfl
  · cases r with
    | nil => rfl
    | cons c r =>
      have h := hr c rfl
      simp [one] at h
      have h2 : ¬ (45 : UInt8) = c := fun e => h.2 e.symm
      simp [List.isPrefixOf, h2]
  · rfl
  · simp [List.isPrefixOf]
theorem powerP_parts (sp q : Str) (hs : isSign sp) (hq : q.all digit = true) : powerP (sp ++ q) = expo sp q := by
  unfold powerP expo
  rw [trimS_sign sp q hs (digits_head q hq), minus_head sp q hs (digits_head q hq), powN_eq q hq]
  simp only [beq_iff_eq]

/-! ### The digits and the power -/
def clampI (n : Int) : Int := min (max n (-1099511627776)) 1099511627776
def digitsP (l : Str) : Str × Int × Bool × Bool :=
  if right l then
    let mt := Lib.cut (upper (Lib.trimLeftS l [43, 45])) [69]
    let wp := Lib.cut mt.1 [46]
    let D := wp.1 ++ wp.2.1
    if short D = [] then ([], 0, false, true)
    else (short D, clampI ((if mt.2.2 then powerP mt.2.1 else 0) - wp.2.1.length + (Lib.trimLeftB D 48).length - (short D).length), Lib.hasPrefix l [45], true)
  else ([], 0, false, false)
theorem up_digit (c : UInt8) (h : digit c = true) : up c = c := by
  have h1 := (digit_iff c).1 h
  unfold up
  rw [if_neg]
  unfold small
  simp
  omega
theorem upper_digits (l : Str) (h : l.all digit = true) : upper l = l := by
  induction l with
  | nil => rfl
  | cons c l ih =>
    simp only [List.all_cons, Bool.and_eq_true] at h
    unfold upper at *
    rw [List.map_cons, up_digit c h.1, ih h.2]
theorem upper_append (a b : Str) : upper (a ++ b) = upper a ++ upper b := by unfold upper; rw [List.map_append]
theorem upper_sign (sp : Str) (h : isSign sp) : upper sp = sp := by rcases h with rfl | rfl | rfl <;> decide
theorem mem_digits (l : Str) (h : l.all digit = true) (c : UInt8) (hc : digit c = false) : c ∉ l := by
  intro hm
  rw [List.all_eq_true] at h
  rw [h c hm] at hc; cases hc
theorem Parts.head {l sg a dt b ex sp q : Str} (h : Parts l sg a dt b ex sp q) (c : UInt8) (hc : (a ++ (dt ++ (b ++ (ex ++ (sp ++ q))))).head? = some c) : one c [43, 45] = false := by
  cases a with
  | cons d a => exact digits_head (d :: a) h.ha c (by simpa using hc)
  | nil =>
    rcases h.hd with ⟨hdt, hb⟩ | hdt
    · exact absurd (by rw [hb]; rfl) h.hn
    · subst hdt
      simp at hc; subst hc; rfl
theorem Parts.cuts {l sg a dt b ex sp q : Str} (h : Parts l sg a dt b ex sp q) :
    (Lib.cut (upper (Lib.trimLeftS l [43, 45])) [69]).1 = a ++ (dt ++ b) ∧ (if (Lib.cut (upper (Lib.trimLeftS l [43, 45])) [69]).2.2 then powerP (Lib.cut (upper (Lib.trimLeftS l [43, 45])) [69]).2.1 else 0) = expo sp q := by
  have h1 : Lib.trimLeftS l [43, 45] = a ++ (dt ++ (b ++ (ex ++ (sp ++ q)))) := by rw [h.eq]; exact trimS_sign _ _ h.hsg h.head
  have hdt : upper dt = dt := by rcases h.hd with ⟨e, _⟩ | e <;> subst e <;> decide
  have hno : (69 : UInt8) ∉ a ++ (dt ++ b) := by
    have h2 := mem_digits a h.ha 69 rfl
    have h3 := mem_digits b h.hb 69 rfl
    have h4 : (69 : UInt8) ∉ dt := by rcases h.hd with ⟨e, _⟩ | e <;> subst e <;> decide
    simp only [List.mem_append, not_or]
    exact ⟨h2, h4, h3⟩
  rw [h1]
  simp only [upper_append, upper_digits a h.ha, upper_digits b h.hb, hdt]
  rcases h.he with ⟨e1, e2, e3⟩ | ⟨e1, e2, e3, e4⟩
  · subst e1; subst e2; subst e3
    have : a ++ (dt ++ (b ++ (upper [] ++ (upper [] ++ upper [])))) = a ++ (dt ++ b) := by simp [upper]
    rw [this, cut_no _ _ hno]
    exact ⟨rfl, rfl⟩
  · have : a ++ (dt ++ (b ++ (upper ex ++ (upper sp ++ upper q)))) = (a ++ (dt ++ b)) ++ 69 :: (sp ++ q) := by
      rw [upper_sign sp e2, upper_digits q e3]
      rcases e1 with e | e <;> subst e <;> simp [upper, up, small]
    rw [this, cut_at _ _ _ hno]
    exact ⟨rfl, by simp only [if_true]; exact powerP_parts sp q e2 e3⟩
theorem Parts.tail {l sg a dt b ex sp q : Str} (h : Parts l sg a dt b ex sp q) (hf : (Lib.cut (upper (Lib.trimLeftS l [43, 45])) [69]).2.2 = true) :
    (Lib.trimLeftS (Lib.cut (upper (Lib.trimLeftS l [43, 45])) [69]).2.1 [43, 45]).all digit = true := by
  have h1 : Lib.trimLeftS l [43, 45] = a ++ (dt ++ (b ++ (ex ++ (sp ++ q)))) := by rw [h.eq]; exact trimS_sign _ _ h.hsg h.head
  have hdt : upper dt = dt := by rcases h.hd with ⟨e, _⟩ | e <;> subst e <;> decide
  have hno : (69 : UInt8) ∉ a ++ (dt ++ b) := by
    have h2 := mem_digits a h.ha 69 rfl
    have h3 := mem_digits b h.hb 69 rfl
    have h4 : (69 : UInt8) ∉ dt := by rcases h.hd with ⟨e, _⟩ | e <;> subst e <;> decide
    simp only [List.mem_append, not_or]
    exact ⟨h2, h4, h3⟩
  rw [h1] at hf ⊢
  simp only [upper_append, upper_digits a h.ha, upper_digits b h.hb, hdt] at hf ⊢
  rcases h.he with ⟨e1, e2, e3⟩ | ⟨e1, e2, e3, e4⟩
  · subst e1; subst e2; subst e3
    have : a ++ (dt ++ (b ++ (upper [] ++ (upper [] ++ upper [])))) = a ++ (dt ++ b) := by simp [upper]
    rw [this, cut_no _ _ hno] at hf
    cases hf
  · have : a ++ (dt ++ (b ++ (upper ex ++ (upper sp ++ upper q)))) = (a ++ (dt ++ b)) ++ 69 :: (sp ++ q) := by
      rw [upper_sign sp e2, upper_digits q e3]
      rcases e1 with e | e <;> subst e <;> simp [upper, up, small]
    rw [this, cut_at _ _ _ hno]
    show (Lib.trimLeftS (sp ++ q) [43, 45]).all digit = true
    rw [trimS_sign sp q e2 (digits_head q e3)]
    exact e3
theorem Parts.point {l sg a dt b ex sp q : Str} (h : Parts l sg a dt b ex sp q) : (Lib.cut (a ++ (dt ++ b)) [46]).1 = a ∧ (Lib.cut (a ++ (dt ++ b)) [46]).2.1 = b := by
  have h2 := mem_digits a h.ha 46 rfl
  rcases h.hd with ⟨e1, e2⟩ | e
  · subst e1; subst e2
    simp only [List.append_nil]
    rw [cut_no _ _ h2]; exact ⟨rfl, rfl⟩
  · subst e
    rw [List.cons_append, List.nil_append, cut_at _ _ _ h2]; exact ⟨rfl, rfl⟩
theorem digits_parts {l sg a dt b ex sp q : Str} (h : Parts l sg a dt b ex sp q) :
    digitsP l = if short (a ++ b) = [] then ([], 0, false, true) else (short (a ++ b), clampI (expo sp q - b.length + (Lib.trimLeftB (a ++ b) 48).length - (short (a ++ b)).length), sg == [45], true) := by
  have hm : Lib.hasPrefix l [45] = (sg == [45]) := by
    rw [h.eq]
    exact minus_head sg _ h.hsg h.head
  unfold digitsP
  rw [if_pos (right_of_parts l sg a dt b ex sp q h)]
  simp only [h.cuts.1, h.cuts.2, h.point.1, h.point.2, hm]
theorem digits_wrong (l : Str) (h : right l = false) : digitsP l = ([], 0, false, false) := by
  unfold digitsP; rw [h]; rfl

/-! ### The units -/
def unit (neg : Bool) (d : Str) (p fine : Int) : Int × Int :=
  if d = [] then (0, 0) else if p + fine < 0 then (0, 22) else if (d.length : Int) + p + fine > 13 then (0, 23)
  else if (dval (d ++ Lib.repeatL [48] (p + fine).toNat) : Int) > 1099511627775 then (0, 23)
  else if neg then (-(dval (d ++ Lib.repeatL [48] (p + fine).toNat) : Int), 0) else ((dval (d ++ Lib.repeatL [48] (p + fine).toNat) : Int), 0)
def scaleP (l : Str) (fine : Int) : Int × Int :=
  if (digitsP l).2.2.2 = false ∨ fine < 0 ∨ fine > 9 then (0, 10) else unit (digitsP l).2.2.1 (digitsP l).1 (digitsP l).2.1 fine
theorem unit_ok (neg : Bool) (d : Str) (p fine : Int) (k n : Nat) (hd : d.all digit = true) (hne : d ≠ []) (hh : d.head? ≠ some 48) (hk : p + fine = k) (hv : dval d * 10 ^ k = n) (hn : n ≤ 1099511627775) :
    unit neg d p fine = (if neg then -(n : Int) else n, 0) := by
  have h1 := head_ge d hd hne hh
  have h2 : 10 ^ (d.length - 1 + k) ≤ n := by rw [Nat.pow_add, ← hv]; exact Nat.mul_le_mul_right _ h1
  have h3 : d.length - 1 + k < 13 := by
    apply Classical.byContradiction
    intro h
    have : 10 ^ 13 ≤ 10 ^ (d.length - 1 + k) := Nat.pow_le_pow_right (by decide) (by omega)
    omega
  have h4 : 0 < d.length := List.length_pos_iff.2 hne
  have h5 : dval (d ++ Lib.repeatL [48] (p + fine).toNat) = n := by rw [repeatL_one, dval_zeros, hk, Int.toNat_natCast, hv]
  unfold unit
  rw [if_neg hne, if_neg (by omega), if_neg (by omega), h5, if_neg (by omega)]
  cases neg <;> rfl

/-! ### The text of some units -/
def textP (n fine : Int) : Str :=
  if fine < 0 ∨ fine > 9 then [] else
    let s := Lib.trimPrefix (Lib.itoa n) [45]
    let t := if (s.length : Int) ≤ fine then Lib.repeatL [48] (fine - s.length + 1).toNat ++ s else s
    let part := Lib.trimRightB (t.drop (t.length - fine.toNat)) 48
    (if Lib.hasPrefix (Lib.itoa n) [45] then [45] else []) ++ (t.take (t.length - fine.toNat) ++ (if part = [] then [] else 46 :: part))

theorem dec_digits (u : Nat) : (Lib.decDigits u).all digit = true ∧ dval (Lib.decDigits u) = u ∧ Lib.decDigits u ≠ [] ∧ (u ≠ 0 → (Lib.decDigits u).head? ≠ some 48) := by
  induction u using Nat.strongRecOn with
  | _ u ih =>
    rw [Lib.decDigits]
    have hd : ∀ k, k < 10 → digit (UInt8.ofNat (48 + k)) = true ∧ (UInt8.ofNat (48 + k)).toNat = 48 + k := by
      intro k hk
      have : (UInt8.ofNat (48 + k)).toNat = 48 + k := by rw [UInt8.toNat_ofNat']; omega
      exact ⟨(digit_iff _).2 (by omega), this⟩
    split
    · rename_i h
      have := hd u h
      refine ⟨by simp only [List.all_cons, List.all_nil, Bool.and_true]; exact this.1, ?_, by simp, fun hu => ?_⟩
      · show 0 * 10 + ((UInt8.ofNat (48 + u)).toNat - 48) = u
        rw [this.2]; omega
      simp only [List.head?_cons, ne_eq, Option.some.injEq]
      intro e
      have e2 := congrArg UInt8.toNat e
      rw [this.2] at e2
      simp at e2
      omega
    · rename_i h
      obtain ⟨h1, h2, h3, h4⟩ := ih (u / 10) (by omega)
      have := hd (u % 10) (by omega)
      refine ⟨by rw [List.all_append, h1]; simp only [List.all_cons, List.all_nil, Bool.and_true, Bool.true_and]; exact this.1, ?_, by simp, fun hu => ?_⟩
      · rw [dval_snoc, h2, this.2]; omega
      · rw [List.head?_append]
        cases hh : (Lib.decDigits (u / 10)).head? with
        | none => exact absurd (List.head?_eq_none_iff.1 hh) h3
        | some c =>
          rw [Option.some_or, ← hh]
          exact h4 (by omega)
theorem itoa_abs (n : Int) : Lib.trimPrefix (Lib.itoa n) [45] = Lib.decDigits n.natAbs ∧ Lib.hasPrefix (Lib.itoa n) [45] = decide (n < 0) := by
  unfold Lib.itoa
  split
  · rename_i h
    have : Lib.hasPrefix (45 :: Lib.decDigits n.natAbs) [45] = true := by simp [Lib.hasPrefix, List.isPrefixOf]
    unfold Lib.trimPrefix
    rw [this]
    exact ⟨by simp, by simp [h]⟩
  · rename_i h
    have : Lib.hasPrefix (Lib.decDigits n.toNat) [45] = false := by
      have h1 := (dec_digits n.toNat).1
      unfold Lib.hasPrefix
      cases hh : Lib.decDigits n.toNat with
      | nil => rfl
      | cons c l =>
        rw [hh] at h1
        simp only [List.all_cons, Bool.and_eq_true] at h1
        have h2 := (digit_iff c).1 h1.1
        simp only [List.isPrefixOf, Bool.and_true, beq_eq_false_iff_ne]
        intro e
        have := congrArg UInt8.toNat e
        simp at this
        omega
    unfold Lib.trimPrefix
    rw [this]
    have e : n.toNat = n.natAbs := by omega
    exact ⟨by rw [e]; rfl, by simp [h]⟩
/-- THE TEXT OF SOME UNITS: its sign, its digits, the digits behind the point -/
theorem text_parts (n fine : Int) (h0 : 0 ≤ fine) (h9 : fine ≤ 9) : ∃ sg whole part, textP n fine = sg ++ (whole ++ (if part = [] then [] else 46 :: part)) ∧ sg = (if n < 0 then [45] else []) ∧ whole.all digit = true ∧ whole ≠ [] ∧ part.all digit = true ∧
    part.getLast? ≠ some 48 ∧ (part.length : Int) ≤ fine ∧ dval (whole ++ part) * 10 ^ (fine.toNat - part.length) = n.natAbs ∧ (whole.head? = some 48 → whole.length = 1) ∧ (n = 0 → whole = [48] ∧ part = []) := by
  obtain ⟨h1, h2⟩ := itoa_abs n
  obtain ⟨d1, d2, d3, d4⟩ := dec_digits n.natAbs
  have hf : ¬ (fine < 0 ∨ fine > 9) := by omega
  unfold textP
  rw [if_neg hf]
  simp only [h1, h2]
  obtain ⟨f, rfl⟩ : ∃ f : Nat, fine = f := ⟨fine.toNat, by omega⟩
  simp only [Int.toNat_natCast]
  generalize hs : Lib.decDigits n.natAbs = s at *
  -- the digits, at least one more than there are places
  have ht : ∃ t, (if (s.length : Int) ≤ (f : Int) then Lib.repeatL [48] ((f : Int) - s.length + 1).toNat ++ s else s) = t ∧ t.all digit = true ∧ dval t = n.natAbs ∧ f + 1 ≤ t.length ∧ (t.head? = some 48 → t.length = f + 1) ∧ (n = 0 → t = List.replicate (f + 1) 48) := by
    split
    · rename_i hl
      refine ⟨_, rfl, ?_, ?_, ?_, ?_, ?_⟩
      · rw [repeatL_one, List.all_append, d1]; simp [digit]
      · rw [repeatL_one, dval_ahead, d2]
      · rw [repeatL_one]; simp; omega
      · intro _; rw [repeatL_one]; simp; omega
      · intro hn
        subst hn
        have : s = [48] := by rw [← hs]; simp [Lib.decDigits]
        subst this
        rw [repeatL_one]
        simp only [List.length_cons, List.length_nil] at hl ⊢
        have : ((f : Int) - ((0 + 1 : Nat) : Int) + 1).toNat = f := by omega
        rw [this, List.replicate_succ']
    · rename_i hl
      have hn0 : n.natAbs ≠ 0 ∨ f = 0 := by
        by_cases h : n.natAbs = 0
        · right
          have : s = [48] := by rw [← hs, h]; simp [Lib.decDigits]
          rw [this] at hl; simp at hl; omega
        · exact .inl h
      refine ⟨_, rfl, d1, d2, by omega, ?_, ?_⟩
      · intro hh
        rcases hn0 with h | h
        · exact absurd hh (d4 h)
        · by_cases h3 : n.natAbs = 0
          · have : s = [48] := by rw [← hs, h3]; simp [Lib.decDigits]
            rw [this, h]; rfl
          · exact absurd hh (d4 h3)
      · intro hn
        subst hn
        have : s = [48] := by rw [← hs]; simp [Lib.decDigits]
        rw [this] at hl ⊢
        simp at hl
        have : f = 0 := by omega
        rw [this]; rfl
  obtain ⟨t, et, t1, t2, t3, t4, t5⟩ := ht
  rw [et]
  have hsplit : t.take (t.length - f) ++ t.drop (t.length - f) = t := List.take_append_drop _ _
  have hall := t1
  rw [← hsplit, List.all_append, Bool.and_eq_true] at hall
  have hlen : (t.drop (t.length - f)).length = f := by rw [List.length_drop]; omega
  have hr := trimRight_split (t.drop (t.length - f)) 48
  have hle := trimRight_le (t.drop (t.length - f)) 48
  rw [hlen] at hle
  rw [hlen] at hr
  refine ⟨_, _, _, rfl, ?_, hall.1, ?_, trimRight_all _ _ _ hall.2, trimRight_last _ _, by omega, ?_, ?_, ?_⟩
  · by_cases h : n < 0 <;> simp [h]
  · intro e
    have := congrArg List.length e
    rw [List.length_take] at this
    simp at this
    omega
  · rw [← dval_zeros, List.append_assoc, ← hr, hsplit, t2]
  · intro hh
    have h3 : t.head? = some 48 := by
      rw [← hsplit, List.head?_append, hh]; rfl
    have := t4 h3
    rw [List.length_take]; omega
  · intro hn
    have := t5 hn
    subst this
    rw [List.length_replicate, List.take_replicate, List.drop_replicate]
    refine ⟨?_, ?_⟩
    · have : min (f + 1 - f) (f + 1) = 1 := by omega
      rw [this]; rfl
    · unfold Lib.trimRightB
      rw [List.reverse_replicate]
      have : ∀ k, (List.replicate k (48 : UInt8)).dropWhile (· == 48) = [] := by
        intro k; induction k with
        | zero => rfl
        | succ k ih => rw [List.replicate_succ, List.dropWhile_cons]; simp [ih]
      rw [this]; rfl
end Go.Proofs.YtkhpfdgkmnifcaaDoor.Dc
