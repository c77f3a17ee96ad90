import Derived.Test.YtkhceimlheginaaLexLaw
import Derived.Deep.QuietTactic
import Derived.BigQuiet
import Derived.Deep.RegionHeld3

set_option linter.unusedVariables false
set_option linter.unusedSimpArgs false
namespace Go.Proofs.Ytkhceimlheginaa
open Go.RowKit Go.Rg

theorem ba_ext {a b : ByteArray} (h : a.data.toList = b.data.toList) : a = b := by rw [← Lib.mk_data a, h, Lib.mk_data]

/-- any token's text of any text is told, or nothing; any text is told in great letters -/
theorem lawTexts (s : ByteArray) (hs : s.size ≤ maxLen) (k f t : Int) (w : World) : Calls Try.prog 5 #[.string s, .agg #[.int .i64 k, .int .i64 f, .int .i64 t]] w fun e w' => e = .returned (.bool true) ∧ Below w.heap.size w w' := by
  have hm := hs
  unfold maxLen at hs
  have hb0 : ∀ o, Below w.heap.size w (w.alloc o) := fun o => (Below.refl _ w).alloc (Nat.le_refl _) o
  by_cases h : s.size ≤ 2000
  · have H1 : Hid (f < 0 ∨ t < f ∨ (s.size : Int) < t → Lx.text k f t s.data.toList = []) := by
      intro h; unfold Lx.text; rw [if_pos (by rw [← Lib.size_eq]; omega)]
    by_cases h1 : 0 ≤ f ∧ t ≤ s.size ∧ f ≤ t
    · obtain ⟨f, rfl⟩ := Int.eq_ofNat_of_zero_le h1.1
      obtain ⟨t, rfl⟩ := Int.eq_ofNat_of_zero_le (by omega : 0 ≤ t)
      have hft : f ≤ t := by omega
      have hts : t ≤ s.size := by omega
      have hT : Hid (Lx.text k f t s.data.toList = (s.extract f t).data.toList) := by
        unfold Hid Lx.text; rw [if_neg (by rw [← Lib.size_eq]; omega), Lib.extract_data]; congr 1; omega
      clear h1 H1
      go_enter Try.func5, Try.ntmps5
      go_wp2_with fail
      refine (text_any _ _ _ _ _ hm).mono ?_
      rintro e w1 ⟨r, rfl, Hr, hr, hb1⟩
      have hb := (hb0 _).trans (hb1.mono (by simp))
      obtain rfl : r = s.extract f t := ba_ext (Hr.out.trans hT.out)
      clear hb1 Hr hr
      go_wp2_with fail
      refine (upper_any _ _ hm).mono ?_
      rintro e w2 ⟨r1, rfl, H1, hb1⟩
      obtain rfl := bytes_eq H1.out
      have hb := hb.trans (hb1.mono hb.size)
      clear hb1 H1
      go_wp2_with fail
      refine (rupper_any _ _ (by omega)).mono ?_
      rintro e w3 ⟨r2, rfl, H1, hb1⟩
      obtain rfl := bytes_eq H1.out
      have hb := hb.trans (hb1.mono hb.size)
      clear hb1 H1
      go_wp2_with fail
      refine (awake_any _).mono ?_
      rintro e w4 ⟨rfl, hb1⟩
      have hb := hb.trans (hb1.mono hb.size)
      clear hb1
      go_wp2_with fail
      go_ret
      exact ⟨rfl, hb⟩
    · have hT := Lib.hid (H1.out (by omega))
      clear H1
      by_cases h1a : 0 ≤ f
      · by_cases h1b : t ≤ s.size
        · have h1c : t < f := by omega
          clear h1
          go_enter Try.func5, Try.ntmps5
          go_wp2_with fail
          refine (text_any _ _ _ _ _ hm).mono ?_
          rintro e w1 ⟨r, rfl, Hr, hr, hb1⟩
          have hb := (hb0 _).trans (hb1.mono (by simp))
          obtain rfl := bytes_eq (Hr.out.trans hT.out)
          clear hb1 Hr hr
          go_wp2_with fail
          refine (upper_any _ _ hm).mono ?_
          rintro e w2 ⟨r1, rfl, H1, hb1⟩
          obtain rfl := bytes_eq H1.out
          have hb := hb.trans (hb1.mono hb.size)
          clear hb1 H1
          go_wp2_with fail
          refine (rupper_any _ _ (by omega)).mono ?_
          rintro e w3 ⟨r2, rfl, H1, hb1⟩
          obtain rfl := bytes_eq H1.out
          have hb := hb.trans (hb1.mono hb.size)
          clear hb1 H1
          go_wp2_with fail
          refine (awake_any _).mono ?_
          rintro e w4 ⟨rfl, hb1⟩
          have hb := hb.trans (hb1.mono hb.size)
          clear hb1
          go_wp2_with fail
          go_ret
          exact ⟨rfl, hb⟩
        · clear h1
          go_enter Try.func5, Try.ntmps5
          go_wp2_with fail
          refine (text_any _ _ _ _ _ hm).mono ?_
          rintro e w1 ⟨r, rfl, Hr, hr, hb1⟩
          have hb := (hb0 _).trans (hb1.mono (by simp))
          obtain rfl := bytes_eq (Hr.out.trans hT.out)
          clear hb1 Hr hr
          go_wp2_with fail
          refine (upper_any _ _ hm).mono ?_
          rintro e w2 ⟨r1, rfl, H1, hb1⟩
          obtain rfl := bytes_eq H1.out
          have hb := hb.trans (hb1.mono hb.size)
          clear hb1 H1
          go_wp2_with fail
          refine (rupper_any _ _ (by omega)).mono ?_
          rintro e w3 ⟨r2, rfl, H1, hb1⟩
          obtain rfl := bytes_eq H1.out
          have hb := hb.trans (hb1.mono hb.size)
          clear hb1 H1
          go_wp2_with fail
          refine (awake_any _).mono ?_
          rintro e w4 ⟨rfl, hb1⟩
          have hb := hb.trans (hb1.mono hb.size)
          clear hb1
          go_wp2_with fail
          go_ret
          exact ⟨rfl, hb⟩
      · clear h1
        go_enter Try.func5, Try.ntmps5
        go_wp2_with fail
        refine (text_any _ _ _ _ _ hm).mono ?_
        rintro e w1 ⟨r, rfl, Hr, hr, hb1⟩
        have hb := (hb0 _).trans (hb1.mono (by simp))
        obtain rfl := bytes_eq (Hr.out.trans hT.out)
        clear hb1 Hr hr
        go_wp2_with fail
        refine (upper_any _ _ hm).mono ?_
        rintro e w2 ⟨r1, rfl, H1, hb1⟩
        obtain rfl := bytes_eq H1.out
        have hb := hb.trans (hb1.mono hb.size)
        clear hb1 H1
        go_wp2_with fail
        refine (rupper_any _ _ (by omega)).mono ?_
        rintro e w3 ⟨r2, rfl, H1, hb1⟩
        obtain rfl := bytes_eq H1.out
        have hb := hb.trans (hb1.mono hb.size)
        clear hb1 H1
        go_wp2_with fail
        refine (awake_any _).mono ?_
        rintro e w4 ⟨rfl, hb1⟩
        have hb := hb.trans (hb1.mono hb.size)
        clear hb1
        go_wp2_with fail
        go_ret
        exact ⟨rfl, hb⟩
  · go_enter Try.func5, Try.ntmps5
    go_wp2_with (first | (go_at_call 12; refine (awake_any _).mono ?_; rintro e w1 ⟨rfl, hb⟩))
    go_ret
    exact ⟨rfl, (hb0 _).trans (hb.mono (by simp))⟩
theorem reads_form {w : World} {B : Nat} {v : Value} {n : Nat} {xs : List Value} (h : Reads w B v n xs) : ∃ a cap, v = .slice a n cap ∧ n ≤ maxLen ∧ (xs ≠ [] → ∃ g off, a = some ⟨g, off, none⟩ ∧ g < B ∧ ∀ j x, xs[j]? = some x → w.cell? ⟨g, off + j, none⟩ = some x) := by
  rcases h with ⟨rfl, rfl, rfl⟩ | ⟨g, off, cap, h1, h2, h3, h4, h5⟩
  · exact ⟨none, 0, rfl, Nat.zero_le _, fun h => absurd rfl h⟩
  · exact ⟨_, cap, h1, Nat.le_trans h3 h4, fun _ => ⟨g, off, rfl, h2, h5⟩⟩

theorem flatT_at (l : List Lx.Tok) (i : Nat) (t : Lx.Tok) (h : l[i]? = some t) : (flatT l)[i * 3]? = some (.int .i64 t.kind) ∧ (flatT l)[i * 3 + 1]? = some (.int .i64 t.fr) ∧ (flatT l)[i * 3 + 2]? = some (.int .i64 t.to) := by
  induction l generalizing i with
  | nil => simp at h
  | cons u l ih =>
    cases i with
    | zero =>
      simp only [List.getElem?_cons_zero, Option.some.injEq] at h
      subst h
      exact ⟨rfl, rfl, rfl⟩
    | succ i =>
      obtain ⟨h1, h2, h3⟩ := ih i (by simpa using h)
      have e : flatT (u :: l) = tokC u ++ flatT l := rfl
      rw [e, show (i + 1) * 3 = i * 3 + 3 from by omega]
      refine ⟨?_, ?_, ?_⟩
      · rw [List.getElem?_append_right (by simp [tokC])]; simpa [tokC] using h1
      · rw [List.getElem?_append_right (by simp [tokC])]; simpa [tokC] using h2
      · rw [List.getElem?_append_right (by simp [tokC])]; simpa [tokC] using h3

theorem next_fr (l : List UInt8) (k : Nat) : (Lx.next l k).fr = k := by
  unfold Lx.next; simp only []; repeat' split
  all_goals rfl
theorem rest_bounds (s : ByteArray) : ∀ n k, s.size - k ≤ n → ∀ t ∈ Lx.rest s k, t.fr ≤ t.to ∧ t.to ≤ s.size := by
  intro n
  induction n with
  | zero => intro k h t ht; rw [Lx.rest_end s k (by omega)] at ht; cases ht
  | succ n ih =>
    intro k h t ht
    by_cases hk : k < s.size
    · cases hb : Lx.one s[k] [32, 9, 13, 10]
      · rw [Lx.rest_tok s k hk hb] at ht
        have hto := Lx.next_to s k hk
        rcases List.mem_cons.1 ht with rfl | ht
        · rw [next_fr]; exact ⟨Nat.le_of_lt hto.1, hto.2⟩
        · split at ht
          · cases ht
          · exact ih _ (by omega) t ht
      · rw [Lx.rest_blank s k hk hb] at ht
        exact ih (k + 1) (by omega) t ht
    · rw [Lx.rest_end s k (by omega)] at ht; cases ht
theorem scan_bounds (s : ByteArray) (t : Lx.Tok) (h : t ∈ Lx.scan s.data.toList) : t.fr ≤ t.to ∧ t.to ≤ s.size := by
  rw [← Lx.rest_zero] at h; exact rest_bounds s s.size 0 (by omega) t h

theorem lawTokens (s : ByteArray) (hs : s.size ≤ maxLen) (w : World) : Calls Try.prog 3 #[.string s] w fun e w' => e = .returned (.bool true) ∧ Below w.heap.size w w' := by
  have hm := hs
  unfold maxLen at hs
  by_cases h : s.size ≤ 3000
  · go_enter Try.func3, Try.ntmps3
    go_wp2_with fail
    refine (tokens_any s w (by omega)).mono ?_
    rintro e w1 ⟨v1, at1, er1, rfl, h1, hb1⟩
    have H1 := Lib.hid h1
    clear h1
    go_wp2_with fail
    refine (rtokens_any s w1 (by omega)).mono ?_
    rintro e w2 ⟨v2, at2, rfl, h2, hb2⟩
    have h1 := H1.out
    have hb := hb1.trans (hb2.mono hb1.size)
    unfold tokensRes at h1
    unfold rtokRes at h2
    cases hbad : Lx.badAt (Lx.scan s.data.toList) with
    | some k =>
      simp only [hbad] at h1 h2
      obtain ⟨rfl, rfl, rfl⟩ := h1
      obtain ⟨rfl, rfl⟩ := h2
      have hk0 : ((k : Int) == (k : Int)) = true := by simp
      clear hbad H1
      go_wp2_with (first | (go_at_call 12; refine (awake_any _).mono ?_; rintro e w3 ⟨rfl, hb3⟩))
      go_ret
      exact ⟨rfl, hb.trans (hb3.mono hb.size)⟩
    | none =>
      simp only [hbad] at h1 h2
      obtain ⟨h1, rfl, rfl⟩ := h1
      obtain ⟨h2, rfl⟩ := h2
      obtain ⟨a1, cap1, rfl, hn1, hc1⟩ := reads_form h1
      obtain ⟨a2, cap2, rfl, hn2, hc2⟩ := reads_form h2
      have Hc1 : Hid (∀ i t, (Lx.scan s.data.toList)[i]? = some t → ∃ g off, a1 = some ⟨g, off, none⟩ ∧ g < w2.heap.size ∧ w2.cell? ⟨g, off + i * 3, none⟩ = some (.int .i64 t.kind) ∧ w2.cell? ⟨g, off + i * 3 + 1, none⟩ = some (.int .i64 t.fr) ∧ w2.cell? ⟨g, off + i * 3 + 2, none⟩ = some (.int .i64 t.to)) := by
        intro i t ht
        obtain ⟨e1, e2, e3⟩ := flatT_at _ _ _ ht
        obtain ⟨g, off, ha, hg, hc⟩ := hc1 (by intro e; rw [e] at e1; simp at e1)
        exact ⟨g, off, ha, Nat.lt_of_lt_of_le hg hb2.size, (hb2.cell (p := ⟨g, _, none⟩) hg).trans (hc _ _ e1), (hb2.cell (p := ⟨g, _, none⟩) hg).trans (hc _ _ e2), (hb2.cell (p := ⟨g, _, none⟩) hg).trans (hc _ _ e3)⟩
      have Hc2 : Hid (∀ i t, (Lx.scan s.data.toList)[i]? = some t → ∃ g off, a2 = some ⟨g, off, none⟩ ∧ g < w2.heap.size ∧ w2.cell? ⟨g, off + i * 3, none⟩ = some (.int .i64 t.kind) ∧ w2.cell? ⟨g, off + i * 3 + 1, none⟩ = some (.int .i64 t.fr) ∧ w2.cell? ⟨g, off + i * 3 + 2, none⟩ = some (.int .i64 t.to)) := by
        intro i t ht
        obtain ⟨e1, e2, e3⟩ := flatT_at _ _ _ ht
        obtain ⟨g, off, ha, hg, hc⟩ := hc2 (by intro e; rw [e] at e1; simp at e1)
        exact ⟨g, off, ha, hg, hc _ _ e1, hc _ _ e2, hc _ _ e3⟩
      clear hc1 hc2 h1 h2 H1 hbad
      unfold maxLen at hn1
      clear hn2
      go_wp2_with fail
      go_loopw [57] (fun p wr => ∃ i : Nat, p = .int .i64 i ∧ i ≤ (Lx.scan s.data.toList).length ∧ Below w2.heap.size w2 wr) (fun p _ => (Lx.scan s.data.toList).length - (intOf p).toNat)
      case atStart => exact ⟨0, rfl, Nat.zero_le _, Below.refl _ _⟩
      case round =>
        obtain ⟨i, rfl, hi, hbr⟩ := hrel
        by_cases hlt : i < (Lx.scan s.data.toList).length
        · obtain ⟨t, ht⟩ : ∃ t, (Lx.scan s.data.toList)[i]? = some t := ⟨_, List.getElem?_eq_getElem hlt⟩
          obtain ⟨g1, o1, rfl, hg1, p0, p1, p2⟩ := Hc1.out i t ht
          obtain ⟨g2, o2, rfl, hg2, q0, q1, q2⟩ := Hc2.out i t ht
          have Ht := Lib.hid ht
          clear ht
          have P0 := (hbr.cell (p := ⟨g1, o1 + i * 3, none⟩) hg1).trans p0
          have P1 := (hbr.cell (p := ⟨g1, o1 + i * 3 + 1, none⟩) hg1).trans p1
          have P2 := (hbr.cell (p := ⟨g1, o1 + i * 3 + 2, none⟩) hg1).trans p2
          have Q0 := (hbr.cell (p := ⟨g2, o2 + i * 3, none⟩) hg2).trans q0
          have Q1 := (hbr.cell (p := ⟨g2, o2 + i * 3 + 1, none⟩) hg2).trans q1
          have Q2 := (hbr.cell (p := ⟨g2, o2 + i * 3 + 2, none⟩) hg2).trans q2
          obtain ⟨hft, hts⟩ := scan_bounds s t (List.mem_of_getElem? Ht.out)
          have HT : Hid (Lx.text t.kind t.fr t.to s.data.toList = (s.extract t.fr t.to).data.toList) := by
            unfold Hid Lx.text; rw [if_neg (by rw [← Lib.size_eq]; omega), Lib.extract_data]; congr 1; omega
          clear p0 p1 p2 q0 q1 q2
          go_wp2_with fail
          have hBx := Blk.new wr [.int .i64 t.kind, .int .i64 t.fr, .int .i64 t.to] 31
          have hbW : Below wr.heap.size wr (wr.alloc (.cells #[.int .i64 t.kind, .int .i64 t.fr, .int .i64 t.to] 31)) := (Below.refl _ _).alloc (Nat.le_refl _) _
          have hszW : wr.heap.size < (wr.alloc (.cells #[.int .i64 t.kind, .int .i64 t.fr, .int .i64 t.to] 31)).heap.size := by simp
          have hg2' : g2 < wr.heap.size := by have := hbr.size; omega
          have R0 := (hbW.cell (p := ⟨g2, o2 + i * 3, none⟩) hg2').trans Q0
          have R1 := (hbW.cell (p := ⟨g2, o2 + i * 3 + 1, none⟩) hg2').trans Q1
          have R2 := (hbW.cell (p := ⟨g2, o2 + i * 3 + 2, none⟩) hg2').trans Q2
          revert hBx hbW hszW R0 R1 R2
          generalize wr.alloc (.cells #[.int .i64 t.kind, .int .i64 t.fr, .int .i64 t.to] 31) = W
          intro hBx hbW hszW R0 R1 R2
          have B0 := hBx.cell (j := 0) rfl
          have B1 := hBx.cell (j := 1) rfl
          have B2 := hBx.cell (j := 2) rfl
          clear P0 P1 P2 Q0 Q1 Q2 hBx
          go_region_held3 (fun w' => w'.cell? ⟨wr.heap.size, 0, none⟩ = some (.int .i64 t.kind) ∧ w'.cell? ⟨wr.heap.size, 1, none⟩ = some (.int .i64 t.fr) ∧ w'.cell? ⟨wr.heap.size, 2, none⟩ = some (.int .i64 t.to) ∧
              w'.cell? ⟨g2, o2 + i * 3, none⟩ = some (.int .i64 t.kind) ∧ w'.cell? ⟨g2, o2 + i * 3 + 1, none⟩ = some (.int .i64 t.fr) ∧ w'.cell? ⟨g2, o2 + i * 3 + 2, none⟩ = some (.int .i64 t.to))
            (first
              | go_keep
              | (go_split_ands
                 refine ⟨?_, ?_, ?_, ?_, ?_, ?_⟩
                 · (rw [hb5.cell (by show _ < _; simp; omega)]; assumption)
                 · (rw [hb5.cell (by show _ < _; simp; omega)]; assumption)
                 · (rw [hb5.cell (by show _ < _; simp; omega)]; assumption)
                 · (rw [hb5.cell (by show _ < _; simp; omega)]; assumption)
                 · (rw [hb5.cell (by show _ < _; simp; omega)]; assumption)
                 · (rw [hb5.cell (by show _ < _; simp; omega)]; assumption)))
            ((go_at_call 15; refine (text_any _ _ _ _ _ hm).mono ?_; rintro e w5 ⟨r, rfl, Hr, hr, hb5⟩; obtain rfl : r = s.extract t.fr t.to := ba_ext (Hr.out.trans HT.out); clear Hr hr))
          have hb5' : Below wr.heap.size W w5 := ((Below.refl W.heap.size W).drew.trans hb5).mono (by omega)
          have hb6 : Below w2.heap.size w2 w5 := hbr.trans ((hbW.trans hb5').mono hbr.size)
          go_wp2_with fail
          go_roundw
          case rel => exact ⟨i + 1, by go_num, by omega, hb6⟩
          case measure => simp [intOf]; omega
        · go_wp2_with (first | (go_at_call 12; refine (awake_any _).mono ?_; rintro e w3 ⟨rfl, hb3⟩))
          go_ret
          exact ⟨rfl, (hb.trans (hbr.mono hb.size)).trans (hb3.mono (by have := hb.size; have := hbr.size; omega))⟩
  · go_enter Try.func3, Try.ntmps3
    go_wp2_with (first | (go_at_call 12; refine (awake_any _).mono ?_; rintro e w1 ⟨rfl, hb⟩))
    go_ret
    exact ⟨rfl, hb⟩
end Go.Proofs.Ytkhceimlheginaa
