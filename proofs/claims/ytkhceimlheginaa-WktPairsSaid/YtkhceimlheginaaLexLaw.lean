import Derived.Test.YtkhceimlheginaaRefB
import Derived.Test.YtkhceimlheginaaUpper
set_option linter.unusedVariables false
set_option linter.unusedSimpArgs false
namespace Go.Proofs.Ytkhceimlheginaa
open Go.RowKit Go.Rg

theorem scan_one : Lx.scan [80, 111, 105, 110, 116, 40, 49, 32, 45, 50, 46, 53, 101, 51, 41] = [⟨1, 0, 5⟩, ⟨3, 5, 6⟩, ⟨2, 6, 7⟩, ⟨2, 8, 14⟩, ⟨4, 14, 15⟩] := by decide +kernel
theorem scan_two : Lx.scan [97, 32, 49, 101] = [⟨1, 0, 1⟩, ⟨0, 2, 4⟩] := by decide +kernel

theorem bytes_eq {r : ByteArray} {l : List UInt8} (h : r.data.toList = l) : r = ⟨l.toArray⟩ := by rw [← h, Lib.mk_data]

set_option maxRecDepth 100000 in
theorem awake_any (w : World) : Calls Try.prog 12 #[] w fun e w' => e = .returned (.bool true) ∧ Below w.heap.size w w' := by
  go_enter Try.func12, Try.ntmps12
  go_wp2_with fail
  refine (tokens_any _ _ (by decide)).mono ?_
  rintro e w1 ⟨v1, at1, er1, rfl, h1, hb1⟩
  go_wp2_with fail
  refine (tokens_any _ _ (by decide)).mono ?_
  rintro e w2 ⟨v2, at2, er2, rfl, h2, hb2⟩
  unfold tokensRes at h1 h2
  simp only [scan_one, scan_two, Lx.badAt, List.find?, List.length_cons, List.length_nil] at h1 h2
  obtain ⟨hr, rfl, rfl⟩ := h1
  obtain ⟨rfl, rfl, rfl⟩ := h2
  rcases hr with ⟨_, h, _⟩ | ⟨g, off, cap, rfl, hg, _, _, hc⟩
  · cases h
  have c0 := (hb2.cell (p := ⟨g, off + 9, none⟩) hg).trans (hc 9 _ rfl)
  have c1 := (hb2.cell (p := ⟨g, off + 10, none⟩) hg).trans (hc 10 _ rfl)
  have c2 := (hb2.cell (p := ⟨g, off + 11, none⟩) hg).trans (hc 11 _ rfl)
  have hb := hb1.trans (hb2.mono hb1.size)
  clear hc hb1 hb2
  go_wp2_with fail
  refine (upper_any _ _ (by decide)).mono ?_
  rintro e w3 ⟨r, rfl, Hr, hb3⟩
  obtain rfl := bytes_eq Hr.out
  have hb := hb.trans (hb3.mono hb.size)
  have hup : Lx.upper [97, 90, 49] = [65, 90, 49] := by decide +kernel
  simp only [hup]
  clear hup hb3 Hr
  go_wp2_with fail
  refine (right_any _ _ (by decide)).mono ?_
  rintro e w4 ⟨rfl, rfl⟩
  have h3 : Lx.right [46, 53] = true := by decide +kernel
  simp only [h3]
  clear h3
  go_wp2_with fail
  refine (right_any _ _ (by decide)).mono ?_
  rintro e w4 ⟨rfl, rfl⟩
  have h3 : Lx.right [46] = false := by decide +kernel
  simp only [h3]
  clear h3
  go_wp2_with fail
  go_ret
  exact ⟨rfl, hb⟩

/-- any text is a number just if the document says so -/
theorem lawNumbersW (s : ByteArray) (hs : s.size ≤ maxLen) (w : World) : Calls Try.prog 4 #[.string s] w fun e w' => e = .returned (.bool true) ∧ Below w.heap.size w w' := by
  have hm := hs
  unfold maxLen at hs
  by_cases h : s.size ≤ 2000
  · go_enter Try.func4, Try.ntmps4
    go_wp2_with (first | (go_at_call 16; refine (right_any _ _ hm).mono ?_; rintro e w' ⟨rfl, rfl⟩) | (go_at_call 17; refine (rright_any _ _ hm).mono ?_; rintro e w' ⟨rfl, rfl⟩) | (go_at_call 12; refine (awake_any _).mono ?_; rintro e w1 ⟨rfl, hb⟩))
    go_ret
    exact ⟨rfl, hb⟩
  · go_enter Try.func4, Try.ntmps4
    go_wp2_with (first | (go_at_call 12; refine (awake_any _).mono ?_; rintro e w1 ⟨rfl, hb⟩))
    go_ret
    exact ⟨rfl, hb⟩
end Go.Proofs.Ytkhceimlheginaa
