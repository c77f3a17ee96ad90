/- gromalaw10.awake: the fixed answers. -/
import Derived.Test.YtkhpfdgkmnifcaaDoorDcY
import Derived.Test.YtkhpfdgkmnifcaaDoorDcZ
set_option linter.unusedVariables false
set_option linter.unusedSimpArgs false
namespace Go.Proofs.YtkhpfdgkmnifcaaDoor
open Go.RowKit Go.Lib

theorem sc_one : Dc.scaleP [45, 49, 46, 50, 53, 101, 49] 1 = (-125, 0) := by decide +kernel
theorem sc_two : Dc.scaleP [48, 46, 48, 53] 1 = (0, 22) := by decide +kernel
theorem sc_three : Dc.scaleP [49, 101, 49, 51] 0 = (0, 23) := by decide +kernel
theorem tx_one : Dc.textP (-125) 1 = [45, 49, 50, 46, 53] := by
  have h : Lib.itoa (-125) = [45, 49, 50, 53] := by
    unfold Lib.itoa
    rw [if_pos (by decide)]
    have e : (-125 : Int).natAbs = 125 := rfl
    rw [e, Lib.decDigits, dif_neg (by decide), Lib.decDigits, dif_neg (by decide), Lib.decDigits, dif_pos (by decide)]
    rfl
  unfold Dc.textP
  rw [h]
  decide +kernel

theorem awake10_any (w : World) (ht : Tabs w) : Calls Tryd.prog 7 #[] w fun e w' => e = .returned (.bool true) ∧ Below w.heap.size w w' := by
  have HT := Lib.hid ht
  clear ht
  go_enter Tryd.func7, Tryd.ntmps7
  go_wp2_with fail
  refine (scale_any ⟨#[45, 49, 46, 50, 53, 101, 49]⟩ 1 _ HT.out (by decide) (by decide) (by decide)).mono ?_
  rintro e w1 ⟨he, h1⟩
  rw [show (⟨#[45, 49, 46, 50, 53, 101, 49]⟩ : ByteArray).data.toList = [45, 49, 46, 50, 53, 101, 49] from rfl, sc_one] at he
  subst he
  go_wp2_with fail
  refine (scale_any ⟨#[48, 46, 48, 53]⟩ 1 _ (HT.out.below h1 (Nat.le_refl _)) (by decide) (by decide) (by decide)).mono ?_
  rintro e w2 ⟨he, h2⟩
  rw [show (⟨#[48, 46, 48, 53]⟩ : ByteArray).data.toList = [48, 46, 48, 53] from rfl, sc_two] at he
  subst he
  have h2' := h1.trans (h2.mono h1.size)
  clear h1 h2
  go_wp2_with fail
  refine (scale_any ⟨#[49, 101, 49, 51]⟩ 0 _ (HT.out.below h2' (Nat.le_refl _)) (by decide) (by decide) (by decide)).mono ?_
  rintro e w3 ⟨he, h3⟩
  rw [show (⟨#[49, 101, 49, 51]⟩ : ByteArray).data.toList = [49, 101, 49, 51] from rfl, sc_three] at he
  subst he
  have h3' := h2'.trans (h3.mono h2'.size)
  clear h2' h3
  go_wp2_with fail
  refine (text_any10 (-125) 1 _ (HT.out.below h3' (Nat.le_refl _)) (by decide) (by decide)).mono ?_
  rintro e w4 ⟨r, rfl, Hr, h4⟩
  have h4' := h3'.trans (h4.mono h3'.size)
  clear h3' h4
  have hr : r.toList = [45, 49, 50, 46, 53] := by rw [Lib.toList_data, Hr.out, tx_one]
  clear Hr
  go_wp2_with fail
  go_ret
  exact ⟨rfl, h4'⟩
end Go.Proofs.YtkhpfdgkmnifcaaDoor
