/- decimal.Scale, walked. -/
import Derived.Test.YtkhpfdgkmnifcaaDoorDcX
set_option linter.unusedVariables false
set_option linter.unusedSimpArgs false
namespace Go.Proofs.YtkhpfdgkmnifcaaDoor
open Go.RowKit Go.Lib

theorem scale_any (s : ByteArray) (fine : Int) (w : World) (ht : Tabs w) (hs : s.size ≤ 100000) (hf1 : -9223372036854775808 ≤ fine) (hf2 : fine ≤ 9223372036854775807) :
    Calls Tryd.prog 8 #[.string s, .int .i64 fine] w fun e w' => e = .returned (.tuple #[.int .i64 (Dc.scaleP s.data.toList fine).1, .int .i64 (Dc.scaleP s.data.toList fine).2]) ∧ Below w.heap.size w w' := by
  have HK : Hid (Dc.scaleP s.data.toList fine = if (Dc.digitsP s.data.toList).2.2.2 = false ∨ fine < 0 ∨ fine > 9 then (0, 10) else Dc.unit (Dc.digitsP s.data.toList).2.2.1 (Dc.digitsP s.data.toList).1 (Dc.digitsP s.data.toList).2.1 fine) := rfl
  generalize Dc.scaleP s.data.toList fine = R at *
  go_enter Tryd.func8, Tryd.ntmps8
  go_wp2_with fail
  refine (digits_any _ _ ht hs).mono ?_
  rintro e w1 ⟨d, p, below, ok, rfl, Hd, hb⟩
  obtain ⟨hp1, hp2, hda, hdl, _, _⟩ := Dc.digits_facts s.data.toList
  rw [Hd.out] at HK hp1 hp2 hda hdl
  simp only at HK hp1 hp2 hda hdl
  rw [← Lib.size_eq, ← Lib.size_eq] at hdl
  have Hda := Lib.hid hda
  clear hda ht
  have no : ∀ e : Int, R = (0, e) → Ending.returned (.tuple #[.int .i64 0, .int .i64 e]) = .returned (.tuple #[.int .i64 R.1, .int .i64 R.2]) := by
    rintro e rfl; rfl
  have No := Lib.hid no
  clear no
  by_cases hbad : ok = false ∨ fine < 0 ∨ fine > 9
  · have HR : Hid (R = (0, 10)) := by unfold Hid; rw [HK.out, if_pos hbad]
    clear HK Hd
    cases ok
    · go_wp2_with fail
      go_returns
      exact ⟨No.out _ HR.out, hb⟩
    · by_cases h : fine < 0
      · clear hbad
        go_wp2_with fail
        go_returns
        exact ⟨No.out _ HR.out, hb⟩
      · have h9 : fine > 9 := by rcases hbad with h | h | h <;> first | cases h | omega
        clear hbad
        go_wp2_with fail
        go_returns
        exact ⟨No.out _ HR.out, hb⟩
  · obtain ⟨rfl, h0, h9⟩ : ok = true ∧ 0 ≤ fine ∧ fine ≤ 9 := by
      refine ⟨?_, ?_, ?_⟩
      · cases ok
        · exact absurd (.inl rfl) hbad
        · rfl
      · apply Classical.byContradiction
        intro h
        exact hbad (.inr (.inl (by omega)))
      · apply Classical.byContradiction
        intro h
        exact hbad (.inr (.inr (by omega)))
    have HR : Hid (R = Dc.unit below d.data.toList p fine) := by unfold Hid; rw [HK.out, if_neg hbad]
    clear HK Hd hbad hf1 hf2
    by_cases he0 : d.size = 0
    · have he := empty_yes he0
      have HR2 : Hid (R = (0, 0)) := by unfold Hid; rw [HR.out, Dc.unit, if_pos ((empty_iff d).2 he0)]
      go_wp2_with fail
      go_returns
      exact ⟨No.out _ HR2.out, hb⟩
    have he := empty_no (Nat.pos_of_ne_zero he0)
    have hne : ¬ d.data.toList = [] := fun e => he0 ((empty_iff d).1 e)
    by_cases hn : p + fine < 0
    · have HR2 : Hid (R = (0, 22)) := by unfold Hid; rw [HR.out, Dc.unit, if_neg hne, if_pos hn]
      go_wp2_with fail
      go_returns
      exact ⟨No.out _ HR2.out, hb⟩
    by_cases hm : (d.size : Int) + p + fine > 13
    · have HR2 : Hid (R = (0, 23)) := by unfold Hid; rw [HR.out, Dc.unit, if_neg hne, if_neg hn, if_pos (by rw [← Lib.size_eq]; exact hm)]
      clear hne
      go_wp2_with fail
      go_returns
      exact ⟨No.out _ HR2.out, hb⟩
    obtain ⟨k, hk⟩ : ∃ k : Nat, p + fine = k := ⟨(p + fine).toNat, by omega⟩
    have HR2 : Hid (R = if (Dc.dval (d.data.toList ++ Lib.repeatL [48] k) : Int) > 1099511627775 then (0, 23) else if below then (-(Dc.dval (d.data.toList ++ Lib.repeatL [48] k) : Int), 0) else ((Dc.dval (d.data.toList ++ Lib.repeatL [48] k) : Int), 0)) := by
      unfold Hid; rw [HR.out, Dc.unit, if_neg hne, if_neg hn, if_neg (by rw [← Lib.size_eq]; exact hm), hk]; rfl
    clear HR hne
    have hsum : (d.size : Int) + p + fine = d.size + k := by omega
    go_wp2_with fail
    refine (repeat_any _ _ _ (by omega) (by show 1 ≤ 1000; omega)).mono ?_
    rintro e w2 ⟨z, rfl, Hz, hz, hb2⟩
    have hb2' := hb.trans (hb2.mono hb.size)
    clear hb hb2
    have hz1 : z.size = k := by rw [hz]; show k * 1 = k; omega
    have Hc : Hid ((d ++ z).data.toList = d.data.toList ++ Lib.repeatL [48] k) := by
      unfold Hid; rw [← (show z.data.toList = Lib.repeatL [48] k from Hz.out)]; simp
    have hc : (d ++ z).size = d.size + z.size := ByteArray.size_append
    go_wp2_with fail
    generalize d ++ z = c at *
    have Ha : Hid (c.data.toList.all Lx.digit = true) := by
      unfold Hid; rw [Hc.out, List.all_append, Hda.out, Dc.repeatL_one]; simp [Lx.digit]
    have hv : ∀ j, j ≤ c.size → Dc.dval (c.data.toList.take j) < 10000000000000 := by
      intro j hj
      have h1 := Dc.dval_lt _ (take_digits c Ha.out j)
      have h2 : (c.data.toList.take j).length ≤ 13 := by rw [List.length_take]; omega
      have h3 : 10 ^ (c.data.toList.take j).length ≤ 10 ^ 13 := Nat.pow_le_pow_right (by decide) h2
      omega
    have Hv := Lib.hid hv
    rw [← Hc.out] at HR2
    clear hv hz hc hk hsum
    go_loopw [10] (fun n wr => ∃ j : Nat, j ≤ c.size ∧ n = .int .i64 (Dc.dval (c.data.toList.take j)) ∧ wr = w2.iter c j) (fun n wr => c.size - (wr.iterPos w2.heap.size))
    case atStart => exact ⟨0, Nat.zero_le _, rfl, rfl⟩
    case round =>
      obtain ⟨j, hj, rfl, rfl⟩ := hrel
      by_cases hlt : j < c.size
      · obtain ⟨h48, h57⟩ := digit_at c Ha.out j hlt
        have hv1 := Hv.out j hj
        have Hn := Lib.hid (Dc.dval_snoc (c.data.toList.take j) c[j])
        rw [← take_snoc c j hlt] at Hn
        have Hn2 : Hid (((Dc.dval (c.data.toList.take (j + 1)) : Nat) : Int) = (Dc.dval (c.data.toList.take j) : Int) * 10 + ((c[j].toNat : Int) - 48)) := by
          unfold Hid; rw [Hn.out]; omega
        have hnx := fun ty => run_next_ascii (P := Tryd.prog) w2 c j ty hlt (by omega)
        clear Hn
        generalize Dc.dval (c.data.toList.take j) = n at *
        generalize (c[j].toNat : Int) = x at *
        go_wp2
        go_roundw
        case rel => exact ⟨j + 1, by omega, by rw [Hn2.out], rfl⟩
        case measure => simp; omega
      · obtain rfl : j = c.size := by omega
        have hnx := fun ty => run_next_end (P := Tryd.prog) w2 c c.size ty (by omega)
        have hb3 : Below w.heap.size w (w2.iter c c.size) := hb2'.alloc hb2'.size _
        have hv1 := Hv.out c.size (Nat.le_refl _)
        rw [take_full] at hv1 ⊢
        generalize Dc.dval c.data.toList = n at *
        by_cases hx : (n : Int) > 1099511627775
        · have HR3 : Hid (R = (0, 23)) := by unfold Hid; rw [HR2.out, if_pos hx]
          clear HR2
          go_wp2_with fail
          go_returns
          exact ⟨No.out _ HR3.out, hb3⟩
        · cases below
          · have HR3 : Hid (R = ((n : Int), 0)) := by unfold Hid; rw [HR2.out, if_neg hx]; rfl
            clear HR2
            go_wp2_with fail
            go_returns
            exact ⟨by rw [HR3.out]; rfl, hb3⟩
          · have HR3 : Hid (R = (-(n : Int), 0)) := by unfold Hid; rw [HR2.out, if_neg hx]; rfl
            clear HR2
            go_wp2_with fail
            go_returns
            exact ⟨by rw [HR3.out]; rfl, hb3⟩
end Go.Proofs.YtkhpfdgkmnifcaaDoor
