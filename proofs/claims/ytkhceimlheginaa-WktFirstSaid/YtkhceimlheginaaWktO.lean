import Derived.Test.YtkhceimlheginaaFirst
import Derived.Test.YtkhceimlheginaaWktL
set_option linter.unusedVariables false
set_option linter.unusedSimpArgs false
namespace Go.Proofs.Ytkhceimlheginaa
open Go.RowKit Go.Rg
attribute [local go_sem] Oper.semAt_some

set_option maxRecDepth 100000 in
set_option maxHeartbeats 4000000 in
/-- what stands behind the place that is told plays no part -/
theorem lawFirstW (s : ByteArray) (hs : s.size ≤ maxLen) (tail : ByteArray) (ht : tail.size ≤ maxLen) (w : World) : Calls Try.prog 8 #[.string s, .string tail] w fun e w' => e = .returned (.bool true) ∧ Below w.heap.size w w' := by
  unfold maxLen at hs ht
  by_cases hb : s.size ≤ 1500 ∧ tail.size ≤ 300
  · obtain ⟨hb1, hb2⟩ := hb
    go_enter Try.func8, Try.ntmps8
    go_wp2_with fail
    refine (parse_any s w (by omega)).mono ?_
    rintro e w1 ⟨v1, at1, er1, rfl, h1, hw1⟩
    unfold parseRes at h1
    cases hp : Wk.parse s.data.toList with
    | error k =>
      rw [hp] at h1
      obtain ⟨rfl, rfl, rfl⟩ := h1
      have hkl := Wk.parse_le s k hp
      by_cases hk : k = s.size
      · subst hk
        go_wp2_with fail
        refine (awake11_any w1).mono ?_
        rintro e w2 ⟨rfl, hw2⟩
        go_wp2_with fail
        go_ret
        exact ⟨rfl, hw1.trans (hw2.mono hw1.size)⟩
      · have hkb : ((k : Int) == (s.size : Int)) = false := by simpa using (show ¬ (k : Int) = s.size by omega)
        have Hp := Lib.hid hp
        have Hk := Lib.hid hk
        clear hp hk
        go_wp2_with fail
        obtain ⟨sx, hsx⟩ : ∃ sx : ByteArray, sx = s.extract 0 k ++ ⟨#[59]⟩ ++ tail := ⟨_, rfl⟩
        have hres : Wk.parse sx.data.toList = .error k := Wk.parse_wrong s sx k tail.data.toList Hp.out Hk.out (by rw [hsx]; simp)
        have hsz : sx.size ≤ 100000 := by have e1 : (⟨#[59]⟩ : ByteArray).size = 1 := rfl; rw [hsx, ByteArray.size_append, ByteArray.size_append, ByteArray.size_extract, e1]; omega
        rw [← hsx]
        have Hres := Lib.hid hres
        have Hsx := Lib.hid hsx
        clear hsx hres
        refine (parse_any sx w1 hsz).mono ?_
        rintro e w2 ⟨v2, at2, er2, rfl, h2, hw2⟩
        unfold parseRes at h2
        rw [Hres.out] at h2
        obtain ⟨rfl, rfl, rfl⟩ := h2
        have hw12 := hw1.trans (hw2.mono hw1.size)
        clear hw2
        go_wp2_with fail
        refine (awake11_any w2).mono ?_
        rintro e w3 ⟨rfl, hw3⟩
        have hw13 := hw12.trans (hw3.mono hw12.size)
        clear hw3
        go_wp2_with fail
        go_ret
        exact ⟨rfl, hw13⟩
    | ok gs =>
      rw [hp] at h1
      obtain ⟨_, rfl, rfl⟩ := h1
      have Hp := Lib.hid hp
      clear hp
      go_wp2_with fail
      obtain ⟨sx, hsx⟩ : ∃ sx : ByteArray, sx = s ++ ⟨#[32, 40]⟩ ++ tail := ⟨_, rfl⟩
      have hres : Wk.parse sx.data.toList = .error (s.size + 1) := Wk.parse_more s sx gs tail.data.toList Hp.out (by rw [hsx]; simp)
      have hsz : sx.size ≤ 100000 := by have e1 : (⟨#[32, 40]⟩ : ByteArray).size = 2 := rfl; rw [hsx, ByteArray.size_append, ByteArray.size_append, e1]; omega
      rw [← hsx]
      have Hres := Lib.hid hres
      have Hsx := Lib.hid hsx
      clear hsx hres
      refine (parse_any sx w1 hsz).mono ?_
      rintro e w2 ⟨v2, at2, er2, rfl, h2, hw2⟩
      unfold parseRes at h2
      rw [Hres.out] at h2
      obtain ⟨rfl, rfl, rfl⟩ := h2
      have hw12 := hw1.trans (hw2.mono hw1.size)
      clear hw2
      go_wp2_with fail
      refine (awake11_any w2).mono ?_
      rintro e w3 ⟨rfl, hw3⟩
      have hw13 := hw12.trans (hw3.mono hw12.size)
      clear hw3
      go_wp2_with fail
      go_ret
      exact ⟨rfl, hw13⟩
  · go_enter Try.func8, Try.ntmps8
    by_cases h1 : s.size ≤ 1500
    · have h2 : ¬ tail.size ≤ 300 := fun h => hb ⟨h1, h⟩
      go_wp2_with (first | (go_at_call 21; refine (awake11_any _).mono ?_; rintro e w1 ⟨rfl, hb⟩))
      go_ret
      exact ⟨rfl, hb⟩
    · go_wp2_with (first | (go_at_call 21; refine (awake11_any _).mono ?_; rintro e w1 ⟨rfl, hb⟩))
      go_ret
      exact ⟨rfl, hb⟩
end Go.Proofs.Ytkhceimlheginaa
