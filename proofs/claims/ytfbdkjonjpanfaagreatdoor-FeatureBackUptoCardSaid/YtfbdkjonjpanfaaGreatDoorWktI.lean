import Derived.Test.YtfbdkjonjpanfaaGreatDoorWktH
import Derived.Test.YtfbdkjonjpanfaaGreatDoorShelf
set_option linter.unusedVariables false
set_option linter.unusedSimpArgs false
namespace Go.Proofs.YtfbdkjonjpanfaaGreatDoor
open Go.RowKit Go.Rg
attribute [local go_sem] Oper.semAt_some

theorem idxFromS_map (x : ByteArray) : ∀ (l : List Lx.Str) (i : Nat), Lib.idxFromS (l.map fun s => (⟨s.toArray⟩ : ByteArray)) x i = if l.idxOf x.data.toList < l.length then ((i + l.idxOf x.data.toList : Nat) : Int) else -1
  | [], i => by simp [Lib.idxFromS]
  | s :: l, i => by
    simp only [List.map_cons, Lib.idxFromS, List.idxOf_cons, List.length_cons]
    by_cases h : s = x.data.toList
    · have h1 : (⟨s.toArray⟩ : ByteArray) = x := by rw [h]
      simp [h1, h]
    · have h1 : (⟨s.toArray⟩ : ByteArray) ≠ x := fun e => h (by rw [← e])
      have h2 : (s == x.data.toList) = false := by simpa using h
      simp only [h1, h2, if_false, cond_false, idxFromS_map x l (i + 1)]
      split <;> rename_i h3
      · rw [if_pos (by omega)]; simp; omega
      · rw [if_neg (by omega)]

theorem names_any (w : World) :
    Calls Tryz.prog 50 #[] w fun e w' => e = .returned (.slice (some ⟨w.heap.size, 0, none⟩) 8 8) ∧ w.alloc (.cells (Wk.names.map fun s => Value.string ⟨s.toArray⟩).toArray 9) = w' := by
  go_enter Tryz.func50, Tryz.ntmps50
  go_wp2
  go_ret
  exact ⟨rfl, rfl⟩

theorem kind_any (u : ByteArray) (w : World) (hs : u.size ≤ maxLen) :
    Calls Tryz.prog 31 #[.string u] w fun e w' => e = .returned (.tuple #[.int .i64 (Wk.kind u.data.toList : Nat), .bool (!(Wk.kind u.data.toList == 0))]) ∧ Below w.heap.size w w' := by
  obtain ⟨i, hi⟩ : ∃ i, i = Wk.names.idxOf (Lx.upper u.data.toList) := ⟨_, rfl⟩
  obtain ⟨kk, hkk⟩ : ∃ kk, kk = Wk.kind u.data.toList := ⟨_, rfl⟩
  have hk : kk = if i < 8 then i else 0 := by rw [hkk, hi]; rfl
  rw [← hkk]
  have Hi := Lib.hid hi
  have Hk := Lib.hid hk
  clear hi hk hkk
  go_enter Tryz.func31, Tryz.ntmps31
  go_wp2_with fail
  refine (names_any w).mono ?_
  rintro e w1 ⟨rfl, hw1⟩
  have hb1 : Below w.heap.size w w1 := hw1 ▸ (Below.refl _ w).alloc (Nat.le_refl _) _
  have hB : Blk w1 w.heap.size (Wk.names.map fun s => Value.string ⟨s.toArray⟩) 9 := hw1 ▸ Blk.new w _ _
  clear hw1
  go_wp2_with fail
  refine (upper_any u w1 hs).mono ?_
  rintro e w2 ⟨r, rfl, Hr, hb2⟩
  have hB2 := hB.call hb2
  have hb : Below w.heap.size w w2 := hb1.trans (hb2.mono hb1.size)
  go_wp2_with fail
  refine (Tryz.slices_Index_string w.heap.size 0 8 8 (Wk.names.map fun s => (⟨s.toArray⟩ : ByteArray)) r w2 (by simp [Wk.names]) (by decide) ?cells).mono ?_
  case cells =>
    intro j hj
    refine hB2.cell ?_
    rw [List.getElem?_map]
    rw [List.length_map] at hj
    rw [Nat.zero_add, List.getElem?_eq_getElem hj]
    simp [List.getD_eq_getElem?_getD, List.getElem?_map, List.getElem?_eq_getElem hj]
  rintro e w3 ⟨rfl, rfl⟩
  have hx : Lib.idxOfS ((Wk.names.map fun s => (⟨s.toArray⟩ : ByteArray)).take 8) r = if Wk.names.idxOf (Lx.upper u.data.toList) < 8 then ((Wk.names.idxOf (Lx.upper u.data.toList) : Nat) : Int) else -1 := by
    rw [List.take_of_length_le (by simp [Wk.names])]
    unfold Lib.idxOfS
    rw [idxFromS_map, Hr.out, show Wk.names.length = 8 from rfl, Nat.zero_add]
  rw [hx, ← Hi.out]
  clear hx hB hB2 hb1 hb2
  by_cases h8 : i < 8
  · have hki : kk = i := by rw [Hk.out, if_pos h8]
    subst hki
    rw [if_pos h8]
    by_cases h0 : kk = 0
    · subst h0
      go_wp2_with fail
      go_ret2
      exact ⟨rfl, hb⟩
    · have h1 : ((kk : Int) < 1) = False := by simp; omega
      have h2 : (kk == 0) = false := by simpa using h0
      clear h0
      go_wp2_with fail
      go_ret2
      exact ⟨by rw [h2]; rfl, hb⟩
  · have hki : kk = 0 := by rw [Hk.out, if_neg h8]
    subst hki
    rw [if_neg h8]
    go_wp2_with fail
    go_ret2
    exact ⟨rfl, hb⟩

/-- a kind's word; nothing: no kind -/
def Wk.name (n : Int) : Lx.Str := if 1 ≤ n ∧ n ≤ 7 then Wk.names.getD n.toNat [] else []

end Go.Proofs.YtfbdkjonjpanfaaGreatDoor
