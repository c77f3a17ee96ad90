/- How slices read, whatever their blocks; lists of pairs, geometries. -/
import Derived.Test.YtfbdkjonjpanfaaGreatDoorSpA
import Derived.Test.YtfbdkjonjpanfaaGreatDoorSpB
import Derived.Test.YtfbdkjonjpanfaaGreatDoorBase
import Derived.Test.YtfbdkjonjpanfaaGreatDoorKitA
import Derived.Deep.LoopGhost
import Derived.BigQuiet
set_option linter.unusedVariables false
set_option linter.unusedSimpArgs false
namespace Go.Proofs.YtfbdkjonjpanfaaGreatDoor
open Go.RowKit Go.Rg

/-- the slice v reads as these cells -/
def RdC (w : World) (v : Value) (n : Nat) (xs : List Value) : Prop :=
  ∃ a c, v = .slice a n c ∧ n ≤ maxLen ∧ (xs ≠ [] → ∃ g off, a = some ⟨g, off, none⟩ ∧ n ≤ c ∧ c ≤ maxLen ∧ g < w.heap.size ∧ ∀ j x, xs[j]? = some x → w.cell? ⟨g, off + j, none⟩ = some x)
theorem RdC.of {T : TypeId} {w : World} {v : Value} {n : Nat} {xs : List Value} (h : RdT T w v n xs) : RdC w v n xs := rdT_base2 h
theorem RdC.call {w w' : World} {v : Value} {n : Nat} {xs : List Value} (h : RdC w v n xs) (hb : Below w.heap.size w w') : RdC w' v n xs := by
  obtain ⟨a, c, e, hm, ho⟩ := h
  refine ⟨a, c, e, hm, fun hx => ?_⟩
  obtain ⟨g, off, h1, h2, h3, h4, h5⟩ := ho hx
  exact ⟨g, off, h1, h2, h3, Nat.lt_of_lt_of_le h4 hb.size, fun j x hj => (hb.cell (p := ⟨g, off + j, none⟩) h4).trans (h5 j x hj)⟩
theorem RdC.own {e : TypeId} {w : World} {base size n : Nat} {v : Value} {xs : List Value} (h : w.ownsRow base e size v n xs) : RdC w v n xs := .of (.of_own h)
theorem RdC.le {w : World} {v : Value} {n : Nat} {xs : List Value} (h : RdC w v n xs) : n ≤ maxLen := h.choose_spec.choose_spec.2.1

abbrev str (l : Lx.Str) : Value := .string ⟨l.toArray⟩
theorem retS {b : ByteArray} {l : Lx.Str} (h : b.data.toList = l) : Ending.returned (.string b) = Ending.returned (str l) := by rw [bytes_eq h]
theorem Wk.mem_join : ∀ (xs : List Lx.Str) (x : Lx.Str), x ∈ xs → x.length ≤ (Wk.join xs).length
  | [], x, h => by cases h
  | [y], x, h => by rw [List.mem_singleton] at h; subst h; exact Nat.le_refl _
  | y :: z :: r, x, h => by
    unfold Wk.join
    rcases List.mem_cons.1 h with rfl | h
    · simp
    · have := Wk.mem_join (z :: r) x h
      simp; omega
def ptsT (l : List Wk.Pr) (i : Nat) : List Value := strs ((l.take i).map Wk.pairT)
theorem reads_new2 (W : World) (cs : List Value) (t : TypeId) (n c b : Nat) (hb : b = W.heap.size) (hn : n ≤ c) (hc : c ≤ maxLen) : Reads (W.alloc (.cells cs.toArray t)) (W.heap.size + 1) (.slice (some ⟨b, 0, none⟩) n c) n cs := hb ▸ reads_new W cs t n c hn hc
theorem strs_at (l : List Lx.Str) (j : Nat) (x : Lx.Str) (h : l[j]? = some x) : (strs l)[j]? = some (str x) := by unfold strs; rw [List.getElem?_map, h]; rfl

/-- these values read as those lists of pairs -/
def LsC (w : World) (vs : List Value) (ls : List (List Wk.Pr)) : Prop := ∀ (i : Nat) (l : List Wk.Pr), ls[i]? = some l → ∃ v, vs[i]? = some v ∧ RdC w v l.length (flatP l)
theorem LsC.call {w w' : World} {vs : List Value} {ls : List (List Wk.Pr)} (h : LsC w vs ls) (hb : Below w.heap.size w w') : LsC w' vs ls := fun i l hl => by
  obtain ⟨v, h1, h2⟩ := h i l hl; exact ⟨v, h1, h2.call hb⟩
theorem LsC.of {R : Nat} {w : World} {vs : List Value} {ls : List (List Wk.Pr)} (h : rdsL R w vs ls) : LsC w vs ls := fun i l hl => by
  obtain ⟨v, h1, h2⟩ := rdsL_at2 h hl; exact ⟨v, h1, .of h2.1⟩
theorem LsC.take {w : World} {vs : List Value} {ls : List (List Wk.Pr)} (h : LsC w vs ls) (n : Nat) : LsC w (vs.take n) (ls.take n) := fun i l hl => by
  rw [List.getElem?_take] at hl ⊢
  split at hl
  · rename_i hi; rw [if_pos hi]; exact h i l hl
  · cases hl
theorem LsC.drop {w : World} {vs : List Value} {ls : List (List Wk.Pr)} (h : LsC w vs ls) (n : Nat) : LsC w (vs.drop n) (ls.drop n) := fun i l hl => by
  rw [List.getElem?_drop] at hl ⊢; exact h _ l hl

def ltsT (ls : List (List Wk.Pr)) (i : Nat) : List Value := strs ((ls.take i).map Wk.pairsT)
theorem Wk.joined_le (xs : List Lx.Str) : (Wk.join xs).length ≤ (Wk.joined xs).length := by
  unfold Wk.joined; split
  · rename_i h; subst h; exact Nat.zero_le _
  · unfold Wk.bracket; simp; omega
theorem Wk.mem_joined (xs : List Lx.Str) (x : Lx.Str) (h : x ∈ xs) : x.length ≤ (Wk.joined xs).length := Nat.le_trans (Wk.mem_join xs x h) (Wk.joined_le xs)
theorem Wk.joined_cons {A : Type} (f : A → Lx.Str) (l : List A) (h : l ≠ []) : Wk.joined (l.map f) = Wk.bracket (l.map f) := by unfold Wk.joined; rw [if_neg (by simpa using h)]
theorem Wk.pairs_len (l : List Wk.Pr) : l.length ≤ (Wk.pairsT l).length := by
  cases l with
  | nil => exact Nat.zero_le _
  | cons p l =>
    have : ∀ (xs : List Lx.Str), (∀ x ∈ xs, 1 ≤ x.length) → xs.length ≤ (Wk.join xs).length := by
      intro xs
      induction xs with
      | nil => intro _; exact Nat.zero_le _
      | cons x xs ih =>
        intro h
        cases xs with
        | nil => have := h x (List.mem_cons_self ..); simpa [Wk.join] using this
        | cons y r => have h1 := ih (fun z hz => h z (List.mem_cons_of_mem _ hz)); have h2 := h x (List.mem_cons_self ..); rw [Wk.join_cons x (y :: r) (by simp)]; simp only [List.length_append, List.length_cons] at h1 ⊢; omega
    have h1 := this ((p :: l).map Wk.pairT) (fun x hx => by obtain ⟨q, _, rfl⟩ := List.mem_map.1 hx; unfold Wk.pairT; simp; omega)
    have h2 := Wk.joined_le ((p :: l).map Wk.pairT)
    rw [List.length_map] at h1
    unfold Wk.pairsT; omega

/-- the slices lv and zv read as g's lists and sizes -/
def BdC (w : World) (lv zv : Value) (g : Wk.Geo) : Prop := ∃ vs, vs.length = g.lists.length ∧ RdC w lv g.lists.length vs ∧ LsC w vs g.lists ∧ RdC w zv g.sizes.length (intsN g.sizes)
theorem BdC.call {w w' : World} {lv zv : Value} {g : Wk.Geo} (h : BdC w lv zv g) (hb : Below w.heap.size w w') : BdC w' lv zv g := by
  obtain ⟨vs, h0, h1, h2, h3⟩ := h; exact ⟨vs, h0, h1.call hb, h2.call hb, h3.call hb⟩
theorem RdC.form {w : World} {v : Value} {n : Nat} {xs : List Value} (h : RdC w v n xs) : ∃ a c, v = .slice a n c ∧ n ≤ maxLen := by
  obtain ⟨a, c, h1, h2, _⟩ := h; exact ⟨a, c, h1, h2⟩
theorem RdC.drop {w : World} {a : Option Addr} {n c : Nat} {xs : List Value} (h : RdC w (.slice a n c) n xs) (hn : xs.length = n) (k : Nat) (hk : k ≤ n) : RdC w (.slice (if c = k then a else a.map (·.add k)) (n - k) (c - k)) (n - k) (xs.drop k) := by
  obtain ⟨a', c', e, hm, ho⟩ := h
  cases e
  refine ⟨_, _, rfl, by omega, fun hx => ?_⟩
  have hlt : k < n := by
    rcases Nat.lt_or_ge k n with h | h
    · exact h
    · exact absurd (List.drop_eq_nil_of_le (by omega)) hx
  obtain ⟨g, off, rfl, h1, h2, h3, h4⟩ := ho (fun e => by rw [e] at hn; simp at hn; omega)
  refine ⟨g, off + k, ?_, by omega, by omega, h3, fun j x hj => ?_⟩
  · rw [if_neg (by omega)]
    unfold Addr.add
    cases k with
    | zero => rfl
    | succ k => rfl
  · rw [List.getElem?_drop] at hj
    have := h4 _ _ hj
    rw [Nat.add_assoc]; exact this
theorem RdC.take {w : World} {a : Option Addr} {n c : Nat} {xs : List Value} (h : RdC w (.slice a n c) n xs) (hn : xs.length = n) (k : Nat) (hk : k ≤ n) : RdC w (.slice a k c) k (xs.take k) := by
  obtain ⟨a', c', e, hm, ho⟩ := h
  cases e
  refine ⟨_, _, rfl, by omega, fun hx => ?_⟩
  obtain ⟨g, off, rfl, h1, h2, h3, h4⟩ := ho (fun e => by rw [e] at hx; simp at hx)
  refine ⟨g, off, rfl, by omega, h2, h3, fun j x hj => ?_⟩
  rw [List.getElem?_take] at hj
  split at hj
  · exact h4 _ _ hj
  · cases hj

def ptT (ss : List Nat) (ls : List (List Wk.Pr)) (i : Nat) : List Value := strs (((Wk.parts ss ls).take i).map Wk.listsT)
theorem Wk.parts_len {A : Type} : ∀ (ss : List Nat) (ls : List A), (Wk.parts ss ls).length = ss.length
  | [], _ => rfl
  | n :: r, ls => by unfold Wk.parts; simp [Wk.parts_len r]
theorem Wk.parts_at {A : Type} : ∀ (ss : List Nat) (ls : List A) (i n : Nat), ss[i]? = some n → (Wk.parts ss ls)[i]? = some ((ls.drop (ss.take i).sum).take n)
  | [], _, i, n, h => by cases h
  | m :: r, ls, 0, n, h => by cases h; simp [Wk.parts]
  | m :: r, ls, i + 1, n, h => by
    unfold Wk.parts
    have := Wk.parts_at r (ls.drop m) i n h
    simp only [List.getElem?_cons_succ, List.take_succ_cons, List.sum_cons]
    rw [this, List.drop_drop]
theorem take_sum (ss : List Nat) (i n : Nat) (h : ss[i]? = some n) : (ss.take (i + 1)).sum = (ss.take i).sum + n := by
  rw [List.take_add_one, h, Wk.sum_append]; simp
theorem take_sum_le (ss : List Nat) (i : Nat) : (ss.take i).sum ≤ ss.sum := by
  conv => rhs; rw [← List.take_append_drop i ss]
  rw [Wk.sum_append]; omega

end Go.Proofs.YtfbdkjonjpanfaaGreatDoor
