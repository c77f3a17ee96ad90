/- wkt's reader, in plain words: on the tokens that are left, and whether one was wrong. No program in sight. -/
import Derived.Test.YtfbdkjonjpanfaaGreatDoorPureR
set_option linter.unusedVariables false
set_option linter.unusedSimpArgs false
namespace Go.Proofs.YtfbdkjonjpanfaaGreatDoor.Wk
open Go Lx

/-- the tokens that are left; one was wrong -/
structure St where
  l : List Tok
  bad : Bool

def txt (s : Str) (t : Tok) : Str := Lx.text t.kind t.fr t.to s
def peek (z : St) (k : Nat) : Bool := match z.l with | [] => false | t :: _ => t.kind == k
def fail (z : St) : St := { z with bad := true }
def stop (z : St) (k : Nat) : Bool := z.bad || !peek z k
def take (s : Str) (z : St) (k : Nat) : St × Str := if stop z k then (fail z, []) else match z.l with | [] => (z, []) | t :: r => (⟨r, z.bad⟩, txt s t)
def word (s : Str) (z : St) : Str := if stop z 1 then [] else match z.l with | [] => [] | t :: _ => upper (txt s t)
def emptyWord : Str := [69, 77, 80, 84, 89]
def none (s : Str) (z : St) : St × Bool := if word s z == emptyWord then ((take s z 1).1, true) else (z, false)
abbrev Pr := Str × Str
def pair (s : Str) (z : St) : St × Pr := ((take s (take s z 2).1 2).1, ((take s z 2).2, (take s (take s z 2).1 2).2))
def one (s : Str) (z : St) : St × List Pr :=
  if (none s z).2 then ((none s z).1, []) else
  ((take s (pair s (take s (none s z).1 3).1).1 4).1, [(pair s (take s (none s z).1 3).1).2])

/-- rounds of what stands in brackets, parted by commas -/
def eachF {A : Type} (s : Str) (f : St → St × A) : Nat → St → St × List A
  | 0, z => (z, [])
  | n + 1, z => if z.bad then (z, []) else
    if peek (f z).1 5 then ((eachF s f n (take s (f z).1 5).1).1, (f z).2 :: (eachF s f n (take s (f z).1 5).1).2)
    else ((take s (f z).1 4).1, [(f z).2])
def each {A : Type} (s : Str) (f : St → St × A) (z : St) : St × List A := eachF s f ((take s z 3).1.l.length + 1) (take s z 3).1
def list (s : Str) (z : St) : St × List Pr := if (none s z).2 then ((none s z).1, []) else each s (pair s) (none s z).1
def lists (s : Str) (f : St → St × List Pr) (z : St) : St × List (List Pr) := each s f z
def poly (s : Str) (z : St) : St × List (List Pr) := if (none s z).2 then ((none s z).1, []) else lists s (list s) (none s z).1
def body (s : Str) (k : Nat) (z : St) : St × (List (List Pr) × List Nat) :=
  if k = 1 then ((one s z).1, ([(one s z).2], []))
  else if k = 2 then ((list s z).1, ([(list s z).2], []))
  else if k = 3 ∨ k = 5 then ((lists s (list s) z).1, ((lists s (list s) z).2, []))
  else if k = 4 then ((lists s (one s) z).1, ((lists s (one s) z).2, []))
  else ((each s (poly s) z).1, ((each s (poly s) z).2.flatten, (each s (poly s) z).2.map List.length))

structure Geo where
  kind : Nat
  level : Nat
  lists : List (List Pr)
  sizes : List Nat

def closing (s : Str) : Nat → St → St × Nat × Bool
  | 0, z => (z, 0, false)
  | n + 1, z => if z.bad then (z, n + 1, false) else if peek z 5 then ((take s z 5).1, n + 1, true) else closing s n (take s z 4).1

def names : List Str := [[], [80, 79, 73, 78, 84], [76, 73, 78, 69, 83, 84, 82, 73, 78, 71], [80, 79, 76, 89, 71, 79, 78], [77, 85, 76, 84, 73, 80, 79, 73, 78, 84],
  [77, 85, 76, 84, 73, 76, 73, 78, 69, 83, 84, 82, 73, 78, 71], [77, 85, 76, 84, 73, 80, 79, 76, 89, 71, 79, 78], [71, 69, 79, 77, 69, 84, 82, 89, 67, 79, 76, 76, 69, 67, 84, 73, 79, 78]]
/-- a word's kind; 0: none -/
def kind (u : Str) : Nat := if names.idxOf (upper u) < 8 then names.idxOf (upper u) else 0

def geosF (s : Str) : Nat → St → Nat → St × List Geo
  | 0, z, _ => (z, [])
  | n + 1, z, lev =>
    if z.bad then (z, []) else
    let k := kind (word s z)
    if k = 0 ∨ (k = 7 ∧ 32 ≤ lev) then (fail z, []) else
    let e := none s (take s z 1).1
    if e.2 = false ∧ k = 7 then
      let r := geosF s n (take s e.1 3).1 (lev + 1)
      (r.1, ⟨k, lev, [], []⟩ :: r.2)
    else
      let b := if e.2 then (e.1, ([], [])) else body s k e.1
      let g : Geo := ⟨k, lev, b.2.1, b.2.2⟩
      let c := closing s lev b.1
      if c.2.2 then let r := geosF s n c.1 c.2.1; (r.1, g :: r.2) else (c.1, [g])
def geos (s : Str) (z : St) : St × List Geo := geosF s (z.l.length + 1) z 0

/-! how many tokens are left -/
theorem take_len (s : Str) (z : St) (k : Nat) : (take s z k).1.l.length ≤ z.l.length := by
  unfold take; split
  · exact Nat.le_refl _
  · split <;> rename_i h <;> simp [h]
theorem take_bad (s : Str) (z : St) (k : Nat) (h : z.bad = true) : take s z k = (z, []) := by
  unfold take stop fail
  rw [h]; simp [← h]
theorem take_yes (s : Str) (z : St) (k : Nat) (h : stop z k = false) : ∃ t r, z.l = t :: r ∧ t.kind = k ∧ z.bad = false ∧ take s z k = (⟨r, false⟩, txt s t) := by
  unfold take
  rw [h]
  unfold stop peek at h
  cases hl : z.l with
  | nil => rw [hl] at h; simp at h
  | cons t r =>
    rw [hl] at h
    simp at h
    exact ⟨t, r, rfl, h.2, h.1, by simp [h.1]⟩
theorem take_lt (s : Str) (z : St) (k : Nat) (h : (take s z k).1.bad = false) : (take s z k).1.l.length < z.l.length := by
  by_cases hs : stop z k = true
  · unfold take at h; rw [if_pos hs] at h; simp [fail] at h
  · obtain ⟨t, r, hl, _, _, he⟩ := take_yes s z k (by simpa using hs)
    rw [he, hl]; simp
theorem take_notbad (s : Str) (z : St) (k : Nat) (h : (take s z k).1.bad = false) : z.bad = false := by
  cases hb : z.bad with
  | false => rfl
  | true => rw [take_bad s z k hb] at h; exact absurd h (by rw [hb]; simp)
theorem none_len (s : Str) (z : St) : (none s z).1.l.length ≤ z.l.length := by
  unfold none; split
  · exact take_len _ _ _
  · exact Nat.le_refl _
theorem pair_len (s : Str) (z : St) : (pair s z).1.l.length ≤ z.l.length := Nat.le_trans (take_len _ _ _) (take_len _ _ _)
theorem one_len (s : Str) (z : St) : (one s z).1.l.length ≤ z.l.length := by
  unfold one; split
  · exact none_len _ _
  · exact Nat.le_trans (take_len _ _ _) (Nat.le_trans (pair_len _ _) (Nat.le_trans (take_len _ _ _) (none_len _ _)))
theorem eachF_len {A : Type} (s : Str) (f : St → St × A) (hf : ∀ z, (f z).1.l.length ≤ z.l.length) : ∀ n z, (eachF s f n z).1.l.length ≤ z.l.length := by
  intro n
  induction n with
  | zero => intro z; exact Nat.le_refl _
  | succ n ih =>
    intro z
    unfold eachF
    split
    · exact Nat.le_refl _
    · split
      · exact Nat.le_trans (ih _) (Nat.le_trans (take_len _ _ _) (hf z))
      · exact Nat.le_trans (take_len _ _ _) (hf z)
theorem each_len {A : Type} (s : Str) (f : St → St × A) (hf : ∀ z, (f z).1.l.length ≤ z.l.length) (z : St) : (each s f z).1.l.length ≤ z.l.length := Nat.le_trans (eachF_len s f hf _ _) (take_len _ _ _)
theorem list_len (s : Str) (z : St) : (list s z).1.l.length ≤ z.l.length := by
  unfold list; split
  · exact none_len _ _
  · exact Nat.le_trans (each_len _ _ (pair_len s) _) (none_len _ _)
theorem lists_len (s : Str) (f : St → St × List Pr) (hf : ∀ z, (f z).1.l.length ≤ z.l.length) (z : St) : (lists s f z).1.l.length ≤ z.l.length := each_len s f hf z
theorem poly_len (s : Str) (z : St) : (poly s z).1.l.length ≤ z.l.length := by
  unfold poly; split
  · exact none_len _ _
  · exact Nat.le_trans (lists_len _ _ (list_len s) _) (none_len _ _)
theorem body_len (s : Str) (k : Nat) (z : St) : (body s k z).1.l.length ≤ z.l.length := by
  unfold body
  split
  · exact one_len _ _
  · split
    · exact list_len _ _
    · split
      · exact lists_len _ _ (list_len s) _
      · split
        · exact lists_len _ _ (one_len s) _
        · exact each_len _ _ (poly_len s) _

/-! how many rounds there are at most: as many as tokens, and one -/
theorem eachF_size {A : Type} (s : Str) (f : St → St × A) (hf : ∀ z, (f z).1.l.length ≤ z.l.length) : ∀ n z, (eachF s f n z).2.length ≤ z.l.length + 1 := by
  intro n
  induction n with
  | zero => intro z; exact Nat.zero_le _
  | succ n ih =>
    intro z
    unfold eachF
    split
    · exact Nat.zero_le _
    · split
      · rename_i hp
        have h1 := hf z
        simp only [List.length_cons]
        by_cases hb : (take s (f z).1 5).1.bad = true
        · have : ∀ m, (eachF s f m (take s (f z).1 5).1).2 = [] := by
            intro m; cases m with
            | zero => rfl
            | succ m => unfold eachF; rw [if_pos hb]
          rw [this]; simp
        · have := take_lt s (f z).1 5 (by simpa using hb)
          have := ih (take s (f z).1 5).1
          omega
      · simp
end Go.Proofs.YtfbdkjonjpanfaaGreatDoor.Wk
