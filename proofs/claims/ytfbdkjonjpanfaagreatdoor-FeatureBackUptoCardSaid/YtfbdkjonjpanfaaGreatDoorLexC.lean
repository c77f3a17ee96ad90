import Derived.Test.YtfbdkjonjpanfaaGreatDoorLexB
import Derived.Test.YtfbdkjonjpanfaaGreatDoorLexA2
import Derived.Test.YtfbdkjonjpanfaaGreatDoorMem
set_option linter.unusedVariables false
set_option linter.unusedSimpArgs false
namespace Go.Proofs.YtfbdkjonjpanfaaGreatDoor
open Go.RowKit

def tokV (k f t : Int) : Value := .agg #[.int .i64 k, .int .i64 f, .int .i64 t]

theorem text_raw (k f t : Int) (s : ByteArray) (w : World) (hs : s.size ≤ maxLen) :
    Calls Tryz.prog 52 #[.agg #[.int .i64 k, .int .i64 f, .int .i64 t], .string s] w fun e w' => ∃ r : ByteArray, e = .returned (.string r) ∧ Hid (r.data.toList = Lx.text k f t s.data.toList) ∧ Below w.heap.size w w' := by
  unfold maxLen at hs
  have hb : ∀ o, Below w.heap.size w (w.alloc o) := fun o => (Below.refl _ w).alloc (Nat.le_refl _) o
  by_cases h1 : f < 0
  · have hfin : Hid (([] : List UInt8) = Lx.text k f t s.data.toList) := by unfold Hid Lx.text; rw [if_pos (.inl h1)]
    go_enter Tryz.func52, Tryz.ntmps52
    go_wp2
    go_ret
    exact ⟨_, rfl, hfin, hb _⟩
  · by_cases h2 : t < f
    · have hfin : Hid (([] : List UInt8) = Lx.text k f t s.data.toList) := by unfold Hid Lx.text; rw [if_pos (.inr (.inl h2))]
      go_enter Tryz.func52, Tryz.ntmps52
      go_wp2
      go_ret
      exact ⟨_, rfl, hfin, hb _⟩
    · by_cases h3 : (s.size : Int) < t
      · have hfin : Hid (([] : List UInt8) = Lx.text k f t s.data.toList) := by unfold Hid Lx.text; rw [if_pos (.inr (.inr (by rw [← Lib.size_eq]; omega)))]
        go_enter Tryz.func52, Tryz.ntmps52
        go_wp2
        go_ret
        exact ⟨_, rfl, hfin, hb _⟩
      · obtain ⟨f, rfl⟩ := Int.eq_ofNat_of_zero_le (by omega : 0 ≤ f)
        obtain ⟨t, rfl⟩ := Int.eq_ofNat_of_zero_le (by omega : 0 ≤ t)
        have hft : f ≤ t := by omega
        have hts : t ≤ s.size := by omega
        have hfin : Hid ((s.extract f t).data.toList = Lx.text k f t s.data.toList) := by
          unfold Hid Lx.text; rw [if_neg (by rw [← Lib.size_eq]; omega), Lib.extract_data]; congr 1; omega
        clear h1 h2 h3
        go_enter Tryz.func52, Tryz.ntmps52
        go_wp2
        go_ret
        exact ⟨_, rfl, hfin, hb _⟩

theorem text_any (k f t : Int) (s : ByteArray) (w : World) (hs : s.size ≤ maxLen) :
    Calls Tryz.prog 52 #[.agg #[.int .i64 k, .int .i64 f, .int .i64 t], .string s] w fun e w' => ∃ r : ByteArray, e = .returned (.string r) ∧ Hid (r.data.toList = Lx.text k f t s.data.toList) ∧ r.size ≤ s.size ∧ Below w.heap.size w w' :=
  (text_raw k f t s w hs).mono fun e w' ⟨r, he, hr, hb⟩ => ⟨r, he, hr, by rw [Lib.size_eq, Lib.size_eq, hr.out]; unfold Lx.text; split <;> simp; omega, hb⟩


/-- two new blocks of three cells, in a later world -/
theorem cells2 {w w1 : World} {a0 a1 a2 b0 b1 b2 : Value} {t u : Nat} (h : Below (w.heap.size + 1 + 1) ((w.alloc (.cells #[a0, a1, a2] t)).alloc (.cells #[b0, b1, b2] u)) w1) :
    w1.cell? ⟨w.heap.size, 0, none⟩ = some a0 ∧ w1.cell? ⟨w.heap.size, 1, none⟩ = some a1 ∧ w1.cell? ⟨w.heap.size, 2, none⟩ = some a2 ∧
    w1.cell? ⟨w.heap.size + 1, 0, none⟩ = some b0 ∧ w1.cell? ⟨w.heap.size + 1, 1, none⟩ = some b1 ∧ w1.cell? ⟨w.heap.size + 1, 2, none⟩ = some b2 ∧
    (∀ o, w1.frozen? ⟨w.heap.size, o, none⟩ = false) ∧ (∀ o, w1.frozen? ⟨w.heap.size + 1, o, none⟩ = false) := by
  have hA : Rg.Blk w1 w.heap.size [a0, a1, a2] t := ((Rg.Blk.new w [a0, a1, a2] t).alloc _).below h (by omega)
  have hB : Rg.Blk w1 (w.heap.size + 1) [b0, b1, b2] u := by
    have := Rg.Blk.new (w.alloc (.cells #[a0, a1, a2] t)) [b0, b1, b2] u
    rw [World.size_alloc] at this
    exact this.below h (by omega)
  exact ⟨hA.cell rfl, hA.cell rfl, hA.cell rfl, hB.cell rfl, hB.cell rfl, hB.cell rfl, hA.frozen, hB.frozen⟩

/-- the token with which a text begins at a place -/
theorem next_any (s : ByteArray) (k : Nat) (w : World) (hs : s.size ≤ maxLen) (hk : k < s.size) :
    Calls Tryz.prog 48 #[.string s, .int .i64 (k : Int)] w fun e w' => ∃ t : Lx.Tok, e = .returned (.agg #[.int .i64 t.kind, .int .i64 t.fr, .int .i64 t.to]) ∧ Hid (t = Lx.next s.data.toList k) ∧ Below w.heap.size w w' := by
  have hm := hs
  unfold maxLen at hs
  have hb : ∀ o o', Below w.heap.size w ((w.alloc o).alloc o') := fun o o' => ((Below.refl _ w).alloc (Nat.le_refl _) o).alloc (by simp) o'
  go_enter Tryz.func48, Tryz.ntmps48
  go_wp2_with fail
  refine (one_any _ _ _).mono ?_
  rintro e w' ⟨rfl, rfl⟩
  cases h1 : Lx.one s[k] [40, 41, 44]
  · go_wp2_with fail
    refine (letter_any _ _).mono ?_
    rintro e w' ⟨rfl, rfl⟩
    cases h2 : Lx.letter s[k]
    · go_wp2_with fail
      refine (inNumber_any _ _).mono ?_
      rintro e w' ⟨rfl, rfl⟩
      cases h3 : Lx.inNumber s[k]
      · have H := Lib.hid (Lx.next_none s k hk h1 h2 h3)
        go_wp2_with fail
        exact bodyPost_ret (v := .agg #[.int .i64 0, .int .i64 k, .int .i64 (k + 1)]) (by simp [results, Tryz.results48, go_sem]) rfl ⟨_, rfl, H, hb _ _⟩
      · go_wp2_with fail
        obtain ⟨r, hr, hrs, Hr⟩ := rest_of s k (by omega)
        rw [hr]
        clear hr
        refine (run_inNumber _ _ (by unfold maxLen; omega)).mono ?_
        rintro e w' ⟨n, rfl, hn, Hn, rfl⟩
        have hns : k + n ≤ s.size := by omega
        clear hrs hn
        go_wp2_with fail
        refine (text_any 0 (k : Int) ((k : Int) + (n : Int)) s _ hm).mono ?_
        rintro e w1 ⟨q, rfl, Hq, hq, hb1⟩
        simp only [World.size_alloc] at hb1
        have hsz : w.heap.size + 1 < w1.heap.size := by have := hb1.size; simp at this; omega
        have hbb := (hb _ _).trans (hb1.mono (by omega))
        obtain ⟨c0, c1, c2, d0, d1, d2, f0, f1⟩ := cells2 hb1
        clear hb1
        go_wp2_with fail
        refine (right_any _ _ (by unfold maxLen; omega)).mono ?_
        rintro e w2 ⟨rfl, rfl⟩
        cases h4 : Lx.right q.data.toList
        · have H := Lib.hid (Lx.next_number s k n q.data.toList false hk h1 h2 h3 (by rw [Hn.out, Hr.out]) (by rw [Hq.out, Lx.text, if_neg (by rw [← Lib.size_eq]; omega)]; congr 1; omega) h4)
          go_wp2_with fail
          refine bodyPost_ret (v := .agg #[.int .i64 0, .int .i64 k, .int .i64 (k + n)]) (by simp [results, Tryz.results48, go_sem, *]) rfl ⟨_, rfl, H, ?_⟩
          repeat' (first | exact hbb | refine Below.setCell ?_ ?_ _)
          all_goals (first | exact Nat.le_refl _ | exact Nat.le_succ _)
        · have H := Lib.hid (Lx.next_number s k n q.data.toList true hk h1 h2 h3 (by rw [Hn.out, Hr.out]) (by rw [Hq.out, Lx.text, if_neg (by rw [← Lib.size_eq]; omega)]; congr 1; omega) h4)
          go_wp2_with fail
          refine bodyPost_ret (v := .agg #[.int .i64 2, .int .i64 k, .int .i64 (k + n)]) (by simp [results, Tryz.results48, go_sem, *]) rfl ⟨_, rfl, H, ?_⟩
          repeat' (first | exact hbb | refine Below.setCell ?_ ?_ _)
          all_goals (first | exact Nat.le_refl _ | exact Nat.le_succ _)
    · have H0 := Lib.hid (Lx.next_word s k)
      go_wp2_with fail
      obtain ⟨r, hr, hrs, Hr⟩ := rest_of s k (by omega)
      rw [hr]
      clear hr
      refine (run_letter _ _ (by unfold maxLen; omega)).mono ?_
      rintro e w' ⟨n, rfl, hn, Hn, rfl⟩
      have H := Lib.hid (H0.out n hk h1 h2 (by rw [Hn.out, Hr.out]))
      have hns : k + n ≤ s.size := by omega
      clear hrs H0
      go_wp2_with fail
      exact bodyPost_ret (v := .agg #[.int .i64 1, .int .i64 k, .int .i64 (k + n)]) (by simp [results, Tryz.results48, go_sem]) rfl ⟨_, rfl, H, hb _ _⟩
  · obtain ⟨j, hj, hj3⟩ := Lx.indexByte_lt _ _ h1
    have H := Lib.hid (Lx.next_single s k j hk h1 hj)
    have Hj := Lib.hid hj
    simp only [List.length_cons, List.length_nil] at hj3
    clear hj
    go_wp2_with fail
    refine (Tryz.strings_IndexByte _ _ _).mono ?_
    rintro e w' ⟨rfl, rfl⟩
    simp only [u8_cast]
    rw [Hj.out]
    go_wp2_with fail
    exact bodyPost_ret (v := .agg #[.int .i64 (3 + j), .int .i64 k, .int .i64 (k + 1)]) (by simp [results, Tryz.results48, go_sem]) rfl ⟨_, rfl, H, hb _ _⟩
end Go.Proofs.YtfbdkjonjpanfaaGreatDoor
