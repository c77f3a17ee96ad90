/- Plain laws on texts and bytes: what lex computes. No program in sight. -/
import Derived.Lib.Strings
import Derived.Lib.Bytealg
set_option linter.unusedVariables false
set_option linter.unusedSimpArgs false
namespace Go.Proofs.YtfbdkjonjpanfaaGreatDoor.Lx
open Go

abbrev Str := List UInt8

def digit (c : UInt8) : Bool := decide (48 ≤ c.toNat) && decide (c.toNat ≤ 57)
def small (c : UInt8) : Bool := decide (97 ≤ c.toNat) && decide (c.toNat ≤ 122)
def great (c : UInt8) : Bool := decide (65 ≤ c.toNat) && decide (c.toNat ≤ 90)
def letter (c : UInt8) : Bool := small c || great c
def one (c : UInt8) (l : Str) : Bool := l.contains c
def inNumber (c : UInt8) : Bool := digit c || one c [43, 45] || one c [46] || one c [101, 69]
def runLen (p : UInt8 → Bool) (l : Str) : Nat := (l.takeWhile p).length
def signed (l : Str) : Str := match l with | [] => [] | c :: r => if one c [43, 45] then r else c :: r

theorem indexByte_one (l : Str) (c : UInt8) : decide (0 ≤ Lib.indexByte l c) = one c l := by
  induction l with
  | nil => rfl
  | cons b l ih =>
    have hg := Lib.indexByte_ge l c
    unfold Lib.indexByte one
    simp only [one] at ih
    by_cases h : b == c
    · have : c = b := by simpa using (beq_iff_eq.1 h).symm
      subst this
      simp
    · have hne : (c == b) = false := by
        rw [beq_eq_false_iff_ne]; intro e; apply h; rw [e]; exact beq_self_eq_true _
      simp only [h, if_false, List.contains_cons, hne, Bool.false_or, Bool.false_eq_true]
      rw [← ih]
      by_cases h2 : Lib.indexByte l c = -1
      · simp [h2]
      · have h3 : (Lib.indexByte l c == -1) = false := by simpa using h2
        simp only [h3, Bool.false_eq_true, if_false]
        have : 0 ≤ Lib.indexByte l c := by omega
        simp [this]; omega

theorem digit_one (c : UInt8) : one c [48, 49, 50, 51, 52, 53, 54, 55, 56, 57] = digit c := by
  rw [Bool.eq_iff_iff]
  simp only [one, digit, List.contains_cons, List.contains_nil, Bool.or_eq_true, beq_iff_eq, ← UInt8.toNat_inj, Bool.and_eq_true, decide_eq_true_eq]
  simp
  omega

theorem drop_cons (s : ByteArray) (k : Nat) (h : k < s.size) : s.data.toList.drop k = s[k] :: s.data.toList.drop (k + 1) := by
  rw [List.drop_eq_getElem_cons (by rw [← Lib.size_eq]; exact h)]; rfl
theorem head_cons (s : ByteArray) (h : 0 < s.size) : s.data.toList = s[0] :: s.data.toList.drop 1 := by
  have := drop_cons s 0 h; simpa using this
theorem extract_end (s : ByteArray) (k : Nat) : s.extract k s.size = ⟨(s.data.toList.drop k).toArray⟩ := by
  rw [Lib.extract_eq, List.take_of_length_le]
  rw [List.length_drop, ← Lib.size_eq]; omega
theorem nil_of_size (s : ByteArray) (h : s.size = 0) : s.data.toList = [] := by
  rw [Lib.size_eq] at h; exact List.length_eq_zero_iff.1 h
theorem isEmpty_of_size (s : ByteArray) : s.toList.isEmpty = decide (s.size = 0) := by
  rw [Lib.toList_data, Lib.size_eq]; cases s.data.toList <;> simp

theorem signed_of (s : ByteArray) (h : 0 < s.size) : signed s.data.toList = if one s[0] [43, 45] then s.data.toList.drop 1 else s.data.toList := by
  rw [head_cons s h]; simp only [signed, List.drop_succ_cons, List.drop_zero]
theorem signed_le (l : Str) : (signed l).length ≤ l.length := by
  unfold signed; split
  · exact Nat.le_refl _
  · split <;> simp

theorem runLen_le (p : UInt8 → Bool) (l : Str) : runLen p l ≤ l.length := by
  unfold runLen; exact (List.takeWhile_sublist p).length_le
theorem runLen_stop (p : UInt8 → Bool) (s : ByteArray) (k : Nat) (h : k < s.size) (hle : k ≤ runLen p s.data.toList) (hp : p s[k] = false) : runLen p s.data.toList = k := by
  unfold runLen at *
  have e : s.data.toList = s.data.toList.take k ++ s.data.toList.drop k := (List.take_append_drop k _).symm
  have h1 : (s.data.toList.takeWhile p).length ≤ k := by
    rw [drop_cons s k h] at e
    rw [e]
    by_cases hall : (s.data.toList.take k).all p
    · rw [List.takeWhile_append_of_pos (by simpa using hall)]
      simp [hp]; omega
    · rw [List.takeWhile_append, if_neg]
      · have := (List.takeWhile_sublist p (l := s.data.toList.take k)).length_le
        have := List.length_take_le k s.data.toList; omega
      · intro hl
        apply hall
        have := List.IsPrefix.eq_of_length (List.takeWhile_prefix p (l := s.data.toList.take k)) hl
        rw [← this]; simp
  omega
theorem runLen_go (p : UInt8 → Bool) (s : ByteArray) (k : Nat) (h : k < s.size) (hle : k ≤ runLen p s.data.toList) (hp : p s[k] = true) : k + 1 ≤ runLen p s.data.toList := by
  rcases Nat.lt_or_ge k (runLen p s.data.toList) with h1 | h1
  · exact h1
  · exfalso
    have he : runLen p s.data.toList = k := by omega
    unfold runLen at *
    have e : s.data.toList = s.data.toList.takeWhile p ++ s.data.toList.dropWhile p := (List.takeWhile_append_dropWhile).symm
    have hd : s.data.toList.drop k = s.data.toList.dropWhile p := by
      conv => lhs; rw [e]
      rw [List.drop_append_of_le_length (by omega), List.drop_of_length_le (by omega)]; simp
    rw [drop_cons s k h] at hd
    have := List.head?_dropWhile_not p s.data.toList
    rw [← hd] at this
    simp [hp] at this

/-- what stands behind the digits and the point: so many digits, and the rest -/
def rightTail (k : Nat) (r : Str) : Bool :=
  if k = 0 then false else if r = [] then true
  else if !(one (r.headD 0) [101, 69]) then false
  else
    let power := signed (r.drop 1)
    power != [] && runLen digit power == power.length
/-- is it a number? as the program asks it -/
def right (l : Str) : Bool :=
  let s := signed l
  let whole := runLen digit s
  let rest := s.drop whole
  if Lib.hasPrefix rest [46] then
    let after := rest.drop 1
    rightTail (whole + runLen digit after) (after.drop (runLen digit after))
  else rightTail whole rest

theorem right_dot (l : Str) (s1 r t : Str) (n m : Nat) (h1 : s1 = signed l) (hn : n = runLen digit s1) (hr : r = s1.drop n) (hb : true = Lib.hasPrefix r [46]) (ht : t = Lib.trimPrefix r [46]) (hm : m = runLen digit t) :
    right l = rightTail (n + m) (t.drop m) := by
  have ht' : t = r.drop 1 := by rw [ht]; unfold Lib.trimPrefix; rw [← hb]; rfl
  unfold right
  simp only [← h1, ← hn, ← hr, ← hb, if_true, ← ht', ← hm]
theorem right_nodot (l : Str) (s1 r : Str) (n : Nat) (h1 : s1 = signed l) (hn : n = runLen digit s1) (hr : r = s1.drop n) (hb : false = Lib.hasPrefix r [46]) :
    right l = rightTail n r := by
  unfold right
  simp only [← h1, ← hn, ← hr, ← hb, Bool.false_eq_true, if_false]
theorem tail_none (r : Str) : rightTail 0 r = false := by simp [rightTail]
theorem tail_end (k : Nat) (h : k ≠ 0) : rightTail k [] = true := by simp [rightTail, h]
theorem tail_bad (k : Nat) (h : k ≠ 0) (r : ByteArray) (hs : 0 < r.size) (h1 : one r[0] [101, 69] = false) : rightTail k r.data.toList = false := by
  rw [head_cons r hs]; simp [rightTail, h, h1]
theorem tail_power (k : Nat) (h : k ≠ 0) (r : ByteArray) (hs : 0 < r.size) (h1 : one r[0] [101, 69] = true) (q : ByteArray) (hq : q.data.toList = signed (r.data.toList.drop 1)) :
    rightTail k r.data.toList = (q.data.toList != [] && runLen digit q.data.toList == q.data.toList.length) := by
  rw [hq, head_cons r hs]; simp [rightTail, h, h1]
theorem tail_power0 (k : Nat) (h : k ≠ 0) (r : ByteArray) (hs : 0 < r.size) (h1 : one r[0] [101, 69] = true) (q : ByteArray) (hq : q.data.toList = signed (r.data.toList.drop 1)) (h0 : q.size = 0) :
    rightTail k r.data.toList = false := by
  rw [tail_power k h r hs h1 q hq, nil_of_size q h0]; rfl
theorem tail_power1 (k : Nat) (h : k ≠ 0) (r : ByteArray) (hs : 0 < r.size) (h1 : one r[0] [101, 69] = true) (q : ByteArray) (hq : q.data.toList = signed (r.data.toList.drop 1)) (h0 : q.size ≠ 0) (n : Nat) (hn : n = runLen digit q.data.toList) :
    rightTail k r.data.toList = ((n : Int) == (q.size : Int)) := by
  rw [tail_power k h r hs h1 q hq, ← hn]
  have : q.data.toList ≠ [] := by intro e; apply h0; rw [Lib.size_eq, e]; rfl
  rw [Lib.size_eq, Bool.eq_iff_iff]
  simp [this]
  omega

/-- a token: its kind, where it begins, where it ends -/
structure Tok where
  kind : Nat
  fr : Nat
  to : Nat
  deriving DecidableEq

def text (kind fr to : Int) (s : Str) : Str := if fr < 0 ∨ fr > to ∨ to > s.length then [] else (s.drop fr.toNat).take (to - fr).toNat
def up (c : UInt8) : UInt8 := if small c then c - 32 else c
def upper (s : Str) : Str := s.map up

/-- the token with which the text at a place begins -/
def next (s : Str) (k : Nat) : Tok :=
  let c := (s.drop k).headD 0
  if one c [40, 41, 44] then ⟨3 + (Lib.indexByte [40, 41, 44] c).toNat, k, k + 1⟩
  else if letter c then ⟨1, k, k + runLen letter (s.drop k)⟩
  else if inNumber c then ⟨if right ((s.drop k).take (runLen inNumber (s.drop k))) then 2 else 0, k, k + runLen inNumber (s.drop k)⟩
  else ⟨0, k, k + 1⟩

theorem indexByte_lt (l : Str) (c : UInt8) (h : one c l = true) : ∃ j : Nat, Lib.indexByte l c = (j : Int) ∧ j < l.length := by
  induction l with
  | nil => simp [one] at h
  | cons b l ih =>
    unfold Lib.indexByte
    by_cases hb : b == c
    · exact ⟨0, by simp [hb], by simp⟩
    · have hl : one c l = true := by
        simp only [one, List.contains_cons, Bool.or_eq_true] at h ⊢
        rcases h with h | h
        · exfalso; apply hb; rw [beq_iff_eq] at h ⊢; exact h.symm
        · exact h
      obtain ⟨j, hj, hlt⟩ := ih hl
      refine ⟨j + 1, ?_, by simp; omega⟩
      have hne : ((j : Int) == -1) = false := by rw [beq_eq_false_iff_ne]; omega
      simp only [hb, Bool.false_eq_true, if_false, hj, hne]
      rfl
theorem head_drop (s : ByteArray) (k : Nat) (h : k < s.size) : (s.data.toList.drop k).headD 0 = s[k] := by rw [drop_cons s k h]; rfl
theorem next_single (s : ByteArray) (k j : Nat) (h : k < s.size) (h1 : one s[k] [40, 41, 44] = true) (hj : Lib.indexByte [40, 41, 44] s[k] = (j : Int)) : (⟨3 + j, k, k + 1⟩ : Tok) = next s.data.toList k := by
  unfold next; simp only [head_drop s k h, h1, if_true, hj]; rfl
theorem next_word (s : ByteArray) (k n : Nat) (h : k < s.size) (h1 : one s[k] [40, 41, 44] = false) (h2 : letter s[k] = true) (hn : n = runLen letter (s.data.toList.drop k)) : (⟨1, k, k + n⟩ : Tok) = next s.data.toList k := by
  unfold next; simp only [head_drop s k h, h1, h2, hn, Bool.false_eq_true, if_false, if_true]
theorem next_none (s : ByteArray) (k : Nat) (h : k < s.size) (h1 : one s[k] [40, 41, 44] = false) (h2 : letter s[k] = false) (h3 : inNumber s[k] = false) : (⟨0, k, k + 1⟩ : Tok) = next s.data.toList k := by
  unfold next; simp only [head_drop s k h, h1, h2, h3, Bool.false_eq_true, if_false]
theorem next_number (s : ByteArray) (k n : Nat) (r : Str) (b : Bool) (h : k < s.size) (h1 : one s[k] [40, 41, 44] = false) (h2 : letter s[k] = false) (h3 : inNumber s[k] = true) (hn : n = runLen inNumber (s.data.toList.drop k))
    (hr : r = (s.data.toList.drop k).take n) (hb : right r = b) : (⟨if b then 2 else 0, k, k + n⟩ : Tok) = next s.data.toList k := by
  unfold next; simp only [head_drop s k h, h1, h2, h3, ← hn, ← hr, hb, Bool.false_eq_true, if_false, if_true]

def scanF : Nat → Str → Nat → List Tok
  | 0, _, _ => []
  | n + 1, s, k =>
    if k < s.length then
      if one ((s.drop k).headD 0) [32, 9, 13, 10] then scanF n s (k + 1)
      else
        let t := next s k
        t :: if t.kind = 0 then [] else scanF n s t.to
    else []
def scan (s : Str) : List Tok := scanF s.length s 0

theorem next_to (s : ByteArray) (k : Nat) (h : k < s.size) : k < (next s.data.toList k).to ∧ (next s.data.toList k).to ≤ s.size := by
  have hd := drop_cons s k h
  have hl : s.data.toList.length = s.size := (Lib.size_eq s).symm
  unfold next
  simp only [head_drop s k h]
  split
  · exact ⟨by simp, h⟩
  · split
    · rename_i h2
      have := runLen_le letter (s.data.toList.drop k)
      rw [List.length_drop] at this
      refine ⟨?_, by simp only; omega⟩
      rw [hd]; simp [runLen, h2]
    · split
      · rename_i h2
        have := runLen_le inNumber (s.data.toList.drop k)
        rw [List.length_drop] at this
        refine ⟨?_, by simp only; omega⟩
        simp only
        rw [hd]; simp [runLen, h2]
      · exact ⟨by simp, h⟩

theorem scanF_end (n : Nat) (l : Str) (k : Nat) (h : l.length ≤ k) : scanF n l k = [] := by
  cases n with
  | zero => rfl
  | succ n => rw [scanF, if_neg (by omega)]
theorem scanF_more (n m : Nat) (s : ByteArray) (k : Nat) (hn : s.size - k ≤ n) (hm : s.size - k ≤ m) : scanF n s.data.toList k = scanF m s.data.toList k := by
  have hl : s.data.toList.length = s.size := (Lib.size_eq s).symm
  induction n generalizing m k with
  | zero => rw [scanF_end _ _ _ (by omega), scanF_end _ _ _ (by omega)]
  | succ n ih =>
    cases m with
    | zero => rw [scanF_end _ _ _ (by omega), scanF_end _ _ _ (by omega)]
    | succ m =>
      rw [scanF, scanF]
      by_cases hk : k < s.size
      · have := next_to s k hk
        have h2 := ih m (next s.data.toList k).to (by omega) (by omega)
        rw [ih m (k + 1) (by omega) (by omega)]
        simp only [h2]
      · rw [if_neg (by omega), if_neg (by omega)]
def rest (s : ByteArray) (k : Nat) : List Tok := scanF (s.size - k) s.data.toList k
theorem rest_zero (s : ByteArray) : rest s 0 = scan s.data.toList := by unfold rest scan; rw [Lib.size_eq]; rfl
theorem rest_end (s : ByteArray) (k : Nat) (h : s.size ≤ k) : rest s k = [] := scanF_end _ _ _ (by rw [← Lib.size_eq]; exact h)
theorem rest_blank (s : ByteArray) (k : Nat) (h : k < s.size) (hb : one s[k] [32, 9, 13, 10] = true) : rest s k = rest s (k + 1) := by
  unfold rest
  obtain ⟨n, hn⟩ : ∃ n, s.size - k = n + 1 := ⟨s.size - k - 1, by omega⟩
  rw [hn, scanF, if_pos (by rw [← Lib.size_eq]; exact h), head_drop s k h, if_pos hb]
  exact scanF_more _ _ _ _ (by omega) (by omega)
theorem rest_tok (s : ByteArray) (k : Nat) (h : k < s.size) (hb : one s[k] [32, 9, 13, 10] = false) :
    rest s k = next s.data.toList k :: if (next s.data.toList k).kind = 0 then [] else rest s (next s.data.toList k).to := by
  have ht := next_to s k h
  unfold rest
  obtain ⟨n, hn⟩ : ∃ n, s.size - k = n + 1 := ⟨s.size - k - 1, by omega⟩
  rw [hn, scanF, if_pos (by rw [← Lib.size_eq]; exact h), head_drop s k h, if_neg (by rw [hb]; simp)]
  simp only
  rw [scanF_more n (s.size - (next s.data.toList k).to) s _ (by omega) (by omega)]

/-- the place at which no token begins, if there is one -/
def badAt (l : List Tok) : Option Nat := (l.find? (fun t => t.kind == 0)).map Tok.fr

theorem rest_len (s : ByteArray) : ∀ n k, s.size - k ≤ n → (rest s k).length ≤ n := by
  intro n
  induction n with
  | zero => intro k h; rw [rest_end s k (by omega)]; simp
  | succ n ih =>
    intro k h
    by_cases hk : k < s.size
    · cases hb : one s[k] [32, 9, 13, 10]
      · rw [rest_tok s k hk hb]
        have := next_to s k hk
        split
        · simp
        · have := ih (next s.data.toList k).to (by omega)
          simp; omega
      · rw [rest_blank s k hk hb]
        exact Nat.le_succ_of_le (ih (k + 1) (by omega))
    · rw [rest_end s k (by omega)]; simp
theorem scan_len (s : ByteArray) : (scan s.data.toList).length ≤ s.size := by
  rw [← rest_zero]; exact rest_len s s.size 0 (by omega)

theorem badAt_of {l : List Tok} {j : Nat} {t : Tok} (h : l[j]? = some t) (hz : t.kind = 0) (hp : ∀ u ∈ l.take j, u.kind ≠ 0) : badAt l = some t.fr := by
  have e : l = l.take j ++ t :: l.drop (j + 1) := by
    obtain ⟨hlt, hj⟩ := List.getElem?_eq_some_iff.1 h
    conv => lhs; rw [← List.take_append_drop j l, List.drop_eq_getElem_cons hlt, hj]
  unfold badAt
  rw [e, List.find?_append, List.find?_eq_none.2 (fun u hu => by have := hp u hu; simpa using this)]
  simp [List.find?_cons, hz]
theorem badAt_none {l : List Tok} (hp : ∀ u ∈ l, u.kind ≠ 0) : badAt l = none := by
  unfold badAt
  rw [List.find?_eq_none.2 (fun u hu => by have := hp u hu; simpa using this)]
  rfl

end Go.Proofs.YtfbdkjonjpanfaaGreatDoor.Lx
