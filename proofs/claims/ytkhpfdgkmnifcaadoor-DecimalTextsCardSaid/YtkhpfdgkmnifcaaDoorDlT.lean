/- gromalaw10.DecimalTexts, walked. Printed by wip/gendl.py. -/
import Derived.Test.YtkhpfdgkmnifcaaDoorDcG
import Derived.Test.YtkhpfdgkmnifcaaDoorDcAw
import Derived.Test.YtkhpfdgkmnifcaaDoorRefR
import Derived.Test.YtkhpfdgkmnifcaaDoorNum
import Derived.Test.YtkhpfdgkmnifcaaDoorDig
import Derived.Test.YtkhpfdgkmnifcaaDoorDiv
import Derived.Test.YtkhpfdgkmnifcaaDoorTkG
set_option linter.unusedVariables false
set_option linter.unusedSimpArgs false
namespace Go.Proofs.YtkhpfdgkmnifcaaDoor
open Go.RowKit Go.Rg Go.Lib Bg
attribute [local go_sem] Oper.semAt_some


theorem at_byte (s : ByteArray) (k : Nat) (c : UInt8) (h : s.data.toList[k]? = some c) : ∃ h : k < s.size, s[k] = c := by
  obtain ⟨hlt, he⟩ := List.getElem?_eq_some_iff.1 h
  exact ⟨by rw [Lib.size_eq]; exact hlt, he⟩
theorem byte_at (s : ByteArray) (k : Nat) (h : k < s.size) : s.data.toList[k]? = some s[k] := List.getElem?_eq_getElem (by rw [← Lib.size_eq]; exact h)
theorem byte_ne (s : ByteArray) (k : Nat) (h : k < s.size) (c : UInt8) (hc : s.data.toList[k]? ≠ some c) : ((s[k].toNat : Int) == (c.toNat : Int)) = false := by
  rw [beq_eq_false_iff_ne]
  intro e
  apply hc
  rw [byte_at s k h]
  congr 1
  rw [← UInt8.toNat_inj]; omega
theorem byte_eq (s : ByteArray) (k : Nat) (h : k < s.size) (c : UInt8) (hc : s.data.toList[k]? = some c) : (s[k].toNat : Int) = (c.toNat : Int) := by
  rw [byte_at s k h] at hc
  cases hc; rfl
theorem first_law (s : ByteArray) (j : Nat) (hj : j < s.size) (h : s.data.toList[j]? = some 48 → s.data.toList.length > j + 1 → s.data.toList[j + 1]? = some 46) :
    ((s[j].toNat : Int) == 48) = false ∨ (((s[j].toNat : Int) == 48) = true ∧ s.size ≤ j + 1) ∨ (((s[j].toNat : Int) == 48) = true ∧ ∃ h2 : j + 1 < s.size, ((s[j + 1].toNat : Int) != 46) = false) := by
  by_cases h0 : s.data.toList[j]? = some 48
  · right
    have e : ((s[j].toNat : Int) == 48) = true := by rw [beq_iff_eq]; exact byte_eq s j hj 48 h0
    by_cases h1 : s.size ≤ j + 1
    · exact .inl ⟨e, h1⟩
    · have h2 : j + 1 < s.size := by omega
      refine .inr ⟨e, h2, ?_⟩
      have := byte_eq s (j + 1) h2 46 (h h0 (by rw [← Lib.size_eq]; exact h2))
      rw [this]; rfl
  · exact .inl (byte_ne s j hj 48 h0)
theorem str_of (s : ByteArray) (l : List UInt8) (h : s.data.toList = l) : s = ⟨l.toArray⟩ := by
  subst h
  cases s; simp

set_option maxRecDepth 100000 in
set_option maxHeartbeats 8000000 in
theorem lawTextsW (n fine : Int) (w : World) (ht : Tabs w) (hn1 : -9223372036854775808 ≤ n) (hn2 : n ≤ 9223372036854775807) :
    Calls Tryd.prog 4 #[.int .i64 n, .int .i64 fine] w fun e w' => e = .returned (.bool true) ∧ Below w.heap.size w w' := by
  have HT := Lib.hid ht
  clear ht
  have HN1 := Lib.hid hn1
  have HN2 := Lib.hid hn2
  by_cases hbad : fine < 0 ∨ fine > 9
  · have HK : Hid (Dc.textP n fine = []) := by unfold Hid Dc.textP; rw [if_pos hbad]
    go_enter Tryd.func4, Tryd.ntmps4
    go_wp2_with fail
    refine (text_any10 n fine w HT.out hn1 hn2).mono ?_
    rintro e w1 ⟨s, rfl, Hs, hb1⟩
    have HB := Lib.hid hb1
    rw [HK.out] at Hs
    obtain rfl := str_of s [] Hs.out
    clear hb1 Hs HK hn1 hn2
    rcases hbad with h | h
    · go_wp2_with fail
      refine (awake10_any _ (HT.out.below HB.out (Nat.le_refl _))).mono ?_
      rintro e w' ⟨rfl, h⟩
      have HB := Lib.hid (HB.out.trans (h.mono HB.out.size))
      clear h
      go_wp2_with fail
      go_ret
      exact ⟨rfl, HB.out⟩
    · have h' : ¬ fine < 0 := by omega
      go_wp2_with fail
      refine (awake10_any _ (HT.out.below HB.out (Nat.le_refl _))).mono ?_
      rintro e w' ⟨rfl, h⟩
      have HB := Lib.hid (HB.out.trans (h.mono HB.out.size))
      clear h
      go_wp2_with fail
      go_ret
      exact ⟨rfl, HB.out⟩
  · obtain ⟨f, rfl⟩ : ∃ f : Nat, fine = f := ⟨fine.toNat, by omega⟩
    have hf : f ≤ 9 := by omega
    have hf0 : ¬ ((f : Int) < 0) := by omega
    have hf9 : ¬ ((f : Int) > 9) := by omega
    obtain ⟨sg, a, dt, b, hp, hbf, hnv, h43, h46, h45, hsg, hsl, h48, hb48, hl46, h0⟩ := Dc.text_law n f hf
    have HP := Lib.hid hp
    have hlen : (Dc.textP n f).length ≤ 60 := Dc.text_size n f hf hn1 hn2
    go_enter Tryd.func4, Tryd.ntmps4
    go_wp2_with fail
    refine (text_any10 n f w HT.out hn1 hn2).mono ?_
    rintro e w1 ⟨s, rfl, Hs, hb1⟩
    have HB := Lib.hid hb1
    clear hb1 hbad
    rw [← Hs.out] at HP h43 h46 h45 hsl h48 hb48 hl46 h0 hlen
    have hs0 : 0 < s.size := by rw [Lib.size_eq]; omega
    have hs60 : s.size ≤ 60 := by rw [Lib.size_eq]; exact hlen
    rw [List.head?_eq_getElem?] at h43 h46 h45
    have g43 : ((s[0].toNat : Int) == 43) = false := byte_ne s 0 hs0 43 h43
    have g46 : ((s[0].toNat : Int) == 46) = false := byte_ne s 0 hs0 46 h46
    have HR : Hid (Lx.right s.data.toList = true) := Dc.right_of_parts _ _ _ _ _ _ _ _ HP.out
    have HV := Lib.hid hnv
    obtain ⟨z, hz⟩ : ∃ z : Nat, z = f - b.length := ⟨_, rfl⟩
    have hpe : Dc.numE b [] [] = -(b.length : Int) := by unfold Dc.numE; simp [Dc.dval]
    have HNum := Lib.hid (fun X (h : Below w1.heap.size w1 X) => number_any s X sg a dt b [] [] [] HP.out (by omega) (by simp))
    rw [hpe] at HNum
    have HSc := Lib.hid (Dc.scale_law HP.out (by rw [← Lib.size_eq]; omega) (by simp) f hf (z : Int) (by rw [hpe]; omega) n 1 (by rw [if_pos (by omega), ← hnv, hz]; rfl) (by rw [if_pos (by omega)]))
    obtain ⟨m, hm⟩ : ∃ m, m = b.length := ⟨_, rfl⟩
    rw [← hm] at hbf hz HNum hpe HV
    have hb48' : m ≠ 0 → s.data.toList.getLast? ≠ some 48 := fun h => hb48 (fun e => h (by rw [hm, e]; rfl))
    obtain ⟨k, hk⟩ : ∃ k, s.size = k + 1 := ⟨s.size - 1, by omega⟩
    have hk2 : (s.size : Int) - 1 = (k : Int) := by omega
    have hkl : k < s.size := by omega
    rw [List.getLast?_eq_getElem?, ← Lib.size_eq, hk, Nat.add_sub_cancel] at hl46 hb48'
    have g4 : ((s[k].toNat : Int) == 46) = false := byte_ne s k hkl 46 hl46
    have F2 : ((-(m : Int) < 0) ∧ ((s[k].toNat : Int) == 48) = false) ∨ m = 0 := by
      by_cases h : m = 0
      · exact .inr h
      · exact .inl ⟨by omega, byte_ne s k hkl 48 (hb48' h)⟩
    have F3 : (n == 0) = false ∨ ((n == 0) = true ∧ s.toList = [48]) := by
      by_cases h : n = 0
      · exact .inr ⟨by rw [h]; rfl, by rw [Lib.toList_data]; exact h0 h⟩
      · exact .inl (by rw [beq_eq_false_iff_ne]; exact h)
    have HF2 := Lib.hid F2
    have HF3 := Lib.hid F3
    have H48 := Lib.hid h48
    have H45 := Lib.hid h45
    have Hsg := Lib.hid hsg
    have Hsl := Lib.hid hsl
    have Hhk := Lib.hid hk
    have Hhk2 := Lib.hid hk2
    have Hhkl := Lib.hid hkl
    have Hg4 := Lib.hid g4
    have hzf : -(m : Int) + (f : Int) = (z : Int) := by omega
    have hmz : ¬ (-(m : Int) > 0) := by omega
    have hmf : ¬ (-(m : Int) < -(f : Int)) := by omega
    have hz9 : z ≤ 9 := by omega
    have hm9 : m ≤ 9 := by omega
    have Hm := Lib.hid hm
    have Hzz := Lib.hid hz
    clear F2 F3 h48 h45 hsg hsl hp h43 h46 hb48 hb48' hl46 h0 hlen hnv hpe hk hk2 g4 hm hz hn1 hn2 Hs
    go_wp2_with fail
    refine (rright_any s w1 (by unfold maxLen; omega)).mono ?_
    rintro e w' ⟨rfl, rfl⟩
    rw [HR.out]
    go_wp2_with fail
    refine (HNum.out w1 (Below.refl _ _)).mono ?_
    rintro e w2 ⟨v2, rfl, H2, hb2⟩
    obtain ⟨xn, xa, xk, xc, rfl⟩ := H2.form
    have HB := Lib.hid (HB.out.trans (hb2.mono HB.out.size))
    clear hb2 HNum
    have hbn : b.length = m := Hm.out.symm
    go_wp2_with fail
    obtain ⟨W, hW⟩ : ∃ W, w2.alloc (.cells #[.bool xn, .slice xa xk xc] 29) = W := ⟨_, rfl⟩
    have hbW : Below w2.heap.size w2 W := hW ▸ (Below.refl _ w2).alloc (Nat.le_refl _) _
    have hBk : Blk W w2.heap.size [.bool xn, .slice xa xk xc] 29 := hW ▸ Blk.new w2 _ _
    have HX := Lib.hid (H2.call hbW)
    have HB := Lib.hid (HB.out.trans (hbW.mono HB.out.size))
    have x0 := hBk.cell (j := 0) rfl
    have x1 := hBk.cell (j := 1) rfl
    have hP := hBk.lt
    rw [hW]
    clear hW hbW hBk H2
    generalize w2.heap.size = P at *
    have HVz : Hid (Dc.numV sg a b * 10 ^ z = n) := by unfold Hid; rw [Hzz.out]; exact HV.out
    have HL1 : Hid ((Dc.numV sg a b).natAbs < lim) := by
      have e := congrArg Int.natAbs HVz.out
      rw [Int.natAbs_mul, Int.natAbs_pow] at e
      have h1 : 1 ≤ Int.natAbs 10 ^ z := Nat.one_le_pow _ _ (by decide)
      have h2 : (Dc.numV sg a b).natAbs * 1 ≤ (Dc.numV sg a b).natAbs * Int.natAbs 10 ^ z := Nat.mul_le_mul_left _ h1
      exact lim_small _ (by have := HN1.out; have := HN2.out; omega)
    have HL2 : Hid (((10 : Int) ^ z).natAbs < lim) := lim_ten z (by omega)
    have HL3 : Hid (n.natAbs < lim) := lim_small _ (by have := HN1.out; have := HN2.out; omega)
    have HTen := Lib.hid (fun X => ten_any (z : Int) X (by omega))
    simp only [Int.toNat_natCast] at HTen
    have HCn : cmpI n n = 0 := by unfold cmpI; simp
    obtain ⟨p, hpm⟩ : ∃ p : Int, -(m : Int) = p := ⟨_, rfl⟩
    obtain ⟨nf, hnf⟩ : ∃ nf : Int, -(f : Int) = nf := ⟨_, rfl⟩
    have q1 : decide ((0 : Int) < p) = false := by rw [decide_eq_false_iff_not]; omega
    have q2 : decide (p < nf) = false := by rw [decide_eq_false_iff_not]; omega
    have hwnf : IntKind.i64.wrap nf = nf := by rw [IntKind.wrap_i64]; omega
    have hwz : IntKind.i64.wrap (z : Int) = (z : Int) := by rw [IntKind.wrap_i64]; omega
    rw [hpm] at hzf ⊢
    have hpz : p = 0 ↔ m = 0 := by omega
    have hpn : p < 0 ↔ m ≠ 0 := by omega
    have Hpz := Lib.hid hpz
    have Hpn := Lib.hid hpn
    have Hpm := Lib.hid hpm
    clear hpm hpz hpn
    have HB := Lib.hid HB.out.drew
    have HX := Lib.hid (HX.out.call (Below.refl _ W).drew)
    refine wp_region_held_drew (S := fun w' => w'.cell? ⟨P, 0, none⟩ = some (.bool xn) ∧ w'.cell? ⟨P, 1, none⟩ = some (.slice xa xk xc)) (by kernel_rfl) ⟨x0, x1⟩ (fun hHeld => ?_)
    refine takeL 0 (v := ?_) rfl (by kernel_rfl) (by kernel_rfl) (by kernel_rfl) (fun _ _ _ h => h) (by rfl) (by assumption) ?hy0 ?_
    case hy0 => (intro w hSw; (try dsimp only at hSw); go_simp; all_goals (with_reducible rfl))
    (try simp only [Act.put, List.setIfInBounds_toArray, List.set_cons_zero, List.set_cons_succ])
    refine takeL 1 (v := ?_) rfl (by kernel_rfl) (by kernel_rfl) (by kernel_rfl) (fun _ _ _ h => h) (by rfl) (by assumption) ?hy1 ?_
    case hy1 => (intro w hSw; (try dsimp only at hSw); go_simp; all_goals (with_reducible rfl))
    (try simp only [Act.put, List.setIfInBounds_toArray, List.set_cons_zero, List.set_cons_succ])
    refine takeL 2 (v := ?_) rfl (by kernel_rfl) (by kernel_rfl) (by kernel_rfl) (fun _ _ _ h => h) (by rfl) (by assumption) ?hy2 ?_
    case hy2 => (intro w hSw; (try dsimp only at hSw); go_simp; all_goals (with_reducible rfl))
    (try simp only [Act.put, List.setIfInBounds_toArray, List.set_cons_zero, List.set_cons_succ])
    refine takeL 3 (v := ?_) rfl (by kernel_rfl) (by kernel_rfl) (by kernel_rfl) (fun _ _ _ h => h) (by rfl) (by assumption) ?hy3 ?_
    case hy3 => (intro w hSw; (try dsimp only at hSw); go_simp; all_goals (with_reducible rfl))
    (try simp only [Act.put, List.setIfInBounds_toArray, List.set_cons_zero, List.set_cons_succ])
    refine takeL 4 (v := ?_) rfl (by kernel_rfl) (by kernel_rfl) (by kernel_rfl) (fun _ _ _ h => h) (by rfl) (by assumption) ?hy4 ?_
    case hy4 => (intro w hSw; (try dsimp only at hSw); go_simp; all_goals (with_reducible rfl))
    (try simp only [Act.put, List.setIfInBounds_toArray, List.set_cons_zero, List.set_cons_succ])
    refine takeL 5 (v := ?_) rfl (by kernel_rfl) (by kernel_rfl) (by kernel_rfl) (fun _ _ _ h => h) (by rfl) (by assumption) ?hy5 ?_
    case hy5 => (intro w hSw; (try dsimp only at hSw); go_simp; all_goals (with_reducible rfl))
    (try simp only [Act.put, List.setIfInBounds_toArray, List.set_cons_zero, List.set_cons_succ])
    refine takeL 6 (v := ?_) rfl (by kernel_rfl) (by kernel_rfl) (by kernel_rfl) (fun _ _ _ h => h) (by rfl) (by assumption) ?hy6 ?_
    case hy6 => (intro w hSw; (try dsimp only at hSw); go_simp; all_goals (with_reducible rfl))
    (try simp only [Act.put, List.setIfInBounds_toArray, List.set_cons_zero, List.set_cons_succ])
    refine takeL 7 (v := ?_) rfl (by kernel_rfl) (by kernel_rfl) (by kernel_rfl) (fun _ _ _ h => h) (by rfl) (by assumption) ?hy7 ?_
    case hy7 => (intro w hSw; (try dsimp only at hSw); go_simp; all_goals (with_reducible rfl))
    (try simp only [Act.put, List.setIfInBounds_toArray, List.set_cons_zero, List.set_cons_succ])
    refine takeL 8 (v := ?_) rfl (by kernel_rfl) (by kernel_rfl) (by kernel_rfl) (fun _ _ _ h => h) (by rfl) (by assumption) ?hy8 ?_
    case hy8 => (intro w hSw; (try dsimp only at hSw); go_simp; all_goals (with_reducible rfl))
    (try simp only [Act.put, List.setIfInBounds_toArray, List.set_cons_zero, List.set_cons_succ])
    refine takeL 9 (v := ?_) rfl (by kernel_rfl) (by kernel_rfl) (by kernel_rfl) (fun _ _ _ h => h) (by rfl) (by assumption) ?hy9 ?_
    case hy9 => (intro w hSw; (try dsimp only at hSw); go_simp; all_goals (with_reducible rfl))
    (try simp only [Act.put, List.setIfInBounds_toArray, List.set_cons_zero, List.set_cons_succ])
    refine takeL 10 (v := ?_) rfl (by kernel_rfl) (by kernel_rfl) (by kernel_rfl) (fun _ _ _ h => h) (by rfl) (by assumption) ?hy10 ?_
    case hy10 => (intro w hSw; (try dsimp only at hSw); go_simp; all_goals (with_reducible rfl))
    (try simp only [Act.put, List.setIfInBounds_toArray, List.set_cons_zero, List.set_cons_succ])
    refine takeL 11 (v := ?_) rfl (by kernel_rfl) (by kernel_rfl) (by kernel_rfl) (fun _ _ _ h => h) (by rfl) (by assumption) ?hy11 ?_
    case hy11 => (intro w hSw; (try dsimp only at hSw); go_simp; all_goals (with_reducible rfl))
    (try simp only [Act.put, List.setIfInBounds_toArray, List.set_cons_zero, List.set_cons_succ])
    refine takeL 12 (v := ?_) rfl (by kernel_rfl) (by kernel_rfl) (by kernel_rfl) (fun _ _ _ h => h) (by rfl) (by assumption) ?hy12 ?_
    case hy12 => (intro w hSw; (try dsimp only at hSw); go_simp; all_goals (with_reducible rfl))
    (try simp only [Act.put, List.setIfInBounds_toArray, List.set_cons_zero, List.set_cons_succ])
    refine takeL 15 (v := ?_) rfl (by kernel_rfl) (by kernel_rfl) (by kernel_rfl) (fun _ _ _ h => h) (by rfl) (by assumption) ?hy15 ?_
    case hy15 => (intro w hSw; (try dsimp only at hSw); go_simp; all_goals (with_reducible rfl))
    (try simp only [Act.put, List.setIfInBounds_toArray, List.set_cons_zero, List.set_cons_succ])
    refine consL 13 (by kernel_rfl) rfl (by rfl) (fun K hK => ?_)
    go_simp
    go_at_call 14
    refine (HTen.out _).mono ?_
    rintro e w13 ⟨v13, rfl, H13, hb13⟩
    have x0 := keepc hb13 hP x0
    have x1 := keepc hb13 hP x1
    have hP := Nat.lt_of_lt_of_le hP hb13.size
    have HX := Lib.hid (HX.out.call hb13)
    have HB := Lib.hid (HB.out.trans (hb13.mono HB.out.size))
    clear hb13
    have H13 := Lib.hid H13
    clear hHeld
    refine hK.out _ _ ?hS13 (fun hHeld => ?_)
    case hS13 => ((try dsimp only); exact ⟨x0, x1⟩)
    clear hK K
    (try simp only [Act.put, List.setIfInBounds_toArray, List.set_cons_zero, List.set_cons_succ])
    refine consL 14 (by kernel_rfl) rfl (by rfl) (fun K hK => ?_)
    go_simp
    go_at_call 13
    refine (mul_any _ _ (Dc.numV sg a b) (10 ^ z) _ HX.out H13.out HL1.out HL2.out).mono ?_
    rintro e w14 ⟨v14, rfl, H14, hb14⟩
    have x0 := keepc hb14 hP x0
    have x1 := keepc hb14 hP x1
    have hP := Nat.lt_of_lt_of_le hP hb14.size
    have HX := Lib.hid (HX.out.call hb14)
    have H13 := Lib.hid (H13.out.call hb14)
    have HB := Lib.hid (HB.out.trans (hb14.mono HB.out.size))
    clear hb14
    rw [HVz.out] at H14
    have H14 := Lib.hid H14
    clear hHeld
    refine hK.out _ _ ?hS14 (fun hHeld => ?_)
    case hS14 => ((try dsimp only); exact ⟨x0, x1⟩)
    clear hK K
    (try simp only [Act.put, List.setIfInBounds_toArray, List.set_cons_zero, List.set_cons_succ])
    refine consL 16 (by kernel_rfl) rfl (by rfl) (fun K hK => ?_)
    go_simp
    go_at_call 12
    refine (of_any n _ HN1.out HN2.out).mono ?_
    rintro e w16 ⟨v16, rfl, H16, hb16⟩
    have x0 := keepc hb16 hP x0
    have x1 := keepc hb16 hP x1
    have hP := Nat.lt_of_lt_of_le hP hb16.size
    have HX := Lib.hid (HX.out.call hb16)
    have H13 := Lib.hid (H13.out.call hb16)
    have H14 := Lib.hid (H14.out.call hb16)
    have HB := Lib.hid (HB.out.trans (hb16.mono HB.out.size))
    clear hb16
    have H16 := Lib.hid H16
    clear hHeld
    refine hK.out _ _ ?hS16 (fun hHeld => ?_)
    case hS16 => ((try dsimp only); exact ⟨x0, x1⟩)
    clear hK K
    (try simp only [Act.put, List.setIfInBounds_toArray, List.set_cons_zero, List.set_cons_succ])
    refine consL 17 (by kernel_rfl) rfl (by rfl) (fun K hK => ?_)
    go_simp
    go_at_call 15
    refine (cmp_any _ _ n n _ H14.out H16.out HL3.out HL3.out).mono ?_
    rintro e w17 ⟨rfl, hb17⟩
    have x0 := keepc hb17 hP x0
    have x1 := keepc hb17 hP x1
    have hP := Nat.lt_of_lt_of_le hP hb17.size
    have HX := Lib.hid (HX.out.call hb17)
    have H13 := Lib.hid (H13.out.call hb17)
    have H14 := Lib.hid (H14.out.call hb17)
    have H16 := Lib.hid (H16.out.call hb17)
    have HB := Lib.hid (HB.out.trans (hb17.mono HB.out.size))
    clear hb17
    rw [HCn]
    clear hHeld
    refine hK.out _ _ ?hS17 (fun hHeld => ?_)
    case hS17 => ((try dsimp only); exact ⟨x0, x1⟩)
    clear hK K
    (try simp only [Act.put, List.setIfInBounds_toArray, List.set_cons_zero, List.set_cons_succ])
    refine takeL 18 (v := ?_) rfl (by kernel_rfl) (by kernel_rfl) (by kernel_rfl) (fun _ _ _ h => h) (by rfl) (by assumption) ?hy18 ?_
    case hy18 => (intro w hSw; (try dsimp only at hSw); go_simp; all_goals (with_reducible rfl))
    (try simp only [Act.put, List.setIfInBounds_toArray, List.set_cons_zero, List.set_cons_succ])
    refine takeL 19 (v := ?_) rfl (by kernel_rfl) (by kernel_rfl) (by kernel_rfl) (fun _ _ _ h => h) (by rfl) (by assumption) ?hy19 ?_
    case hy19 => (intro w hSw; (try dsimp only at hSw); go_simp; all_goals (with_reducible rfl))
    (try simp only [Act.put, List.setIfInBounds_toArray, List.set_cons_zero, List.set_cons_succ])
    refine wpAnyH_done (by kernel_rfl) ?_ _
    clear x0 x1 HX H13 H14 H16 HTen hP q1 q2 hHeld hzf hnf hwnf hwz
    have hk2 := Hhk2.out
    have g4 := Hg4.out
    have HSc2 : Hid ((Dc.scaleP s.data.toList f = (n, 0) ∧ -1099511627775 ≤ n ∧ n ≤ 1099511627775) ∨ (Dc.scaleP s.data.toList f = (0, 23) ∧ n < -1099511627775) ∨ (Dc.scaleP s.data.toList f = (0, 23) ∧ ¬ n < -1099511627775 ∧ n > 1099511627775)) := by
      rcases HSc.out with ⟨n', h1, h2, h3, h4⟩ | ⟨h1, h2⟩ | ⟨h1, h2, h3⟩
      · have : n' = n := by simpa using h4
        rw [this] at h1 h2 h3
        exact .inl ⟨h1, h2, h3⟩
      · exact absurd (Nat.mod_one _) h2
      · have : 1099511627775 < n.natAbs := by simpa using h3
        by_cases h4 : n < -1099511627775
        · exact .inr (.inl ⟨h1, h4⟩)
        · exact .inr (.inr ⟨h1, h4, by omega⟩)
    have HF2 : Hid ((p < 0 ∧ ((s[k].toNat : Int) == 48) = false) ∨ m = 0) := by
      rcases HF2.out with ⟨h1, h2⟩ | h
      · exact .inl ⟨by have := Hpm.out; omega, h2⟩
      · exact .inr h
    clear HSc
    by_cases hneg : n < 0
    · have hsg1 : sg.length = 1 := by rw [Hsg.out, if_pos hneg]
      have hs1 : 1 < s.size := by have := Hsl.out; rw [hsg1] at this; rw [Lib.size_eq]; exact this
      have g45 : ((s[0].toNat : Int) == 45) = true := by rw [beq_iff_eq]; exact byte_eq s 0 hs0 45 (H45.out.2 hneg)
      have HF1 := Lib.hid (first_law s 1 hs1 (by have := H48.out; rw [hsg1] at this; exact this))
      clear hsg1
      rcases HF1.out with f1 | ⟨f1, f1b⟩ | ⟨f1, f1c, f1d⟩
      · rcases HF2.out with ⟨f2, f2b⟩ | f2
        · have f2c : ¬ ((s[k].toNat : Int) = 48) := by rw [beq_eq_false_iff_ne] at f2b; exact f2b
          rcases HF3.out with f3 | ⟨f3, f3b⟩
          · go_wp2_with fail
            refine (scale_any s (f : Int) _ (HT.out.below HB.out (Nat.le_refl _)) (by omega) (by omega) (by omega)).mono ?_
            rintro e w5 ⟨he, hb5⟩
            have HB := Lib.hid (HB.out.trans (hb5.mono HB.out.size))
            clear hb5
            rcases HSc2.out with ⟨h1, h2, h3⟩ | ⟨h1, h2⟩ | ⟨h1, h2, h3⟩
            · rw [h1] at he
              subst he
              clear h1
              have h2' : ¬ n < -1099511627775 := by omega
              have h3' : ¬ n > 1099511627775 := by omega
              go_wp2_with fail
              refine (awake10_any _ (HT.out.below HB.out (Nat.le_refl _))).mono ?_
              rintro e w99 ⟨rfl, h99⟩
              have HB := Lib.hid (HB.out.trans (h99.mono HB.out.size))
              clear h99
              go_wp2_with fail
              go_ret
              exact ⟨rfl, HB.out⟩
            · rw [h1] at he
              subst he
              clear h1
              go_wp2_with fail
              refine (awake10_any _ (HT.out.below HB.out (Nat.le_refl _))).mono ?_
              rintro e w99 ⟨rfl, h99⟩
              have HB := Lib.hid (HB.out.trans (h99.mono HB.out.size))
              clear h99
              go_wp2_with fail
              go_ret
              exact ⟨rfl, HB.out⟩
            · rw [h1] at he
              subst he
              clear h1
              go_wp2_with fail
              refine (awake10_any _ (HT.out.below HB.out (Nat.le_refl _))).mono ?_
              rintro e w99 ⟨rfl, h99⟩
              have HB := Lib.hid (HB.out.trans (h99.mono HB.out.size))
              clear h99
              go_wp2_with fail
              go_ret
              exact ⟨rfl, HB.out⟩
          · exfalso
            rw [beq_iff_eq] at f3
            omega
        · have f2 : p = 0 := Hpz.out.2 f2
          rcases HF3.out with f3 | ⟨f3, f3b⟩
          · go_wp2_with fail
            refine (scale_any s (f : Int) _ (HT.out.below HB.out (Nat.le_refl _)) (by omega) (by omega) (by omega)).mono ?_
            rintro e w5 ⟨he, hb5⟩
            have HB := Lib.hid (HB.out.trans (hb5.mono HB.out.size))
            clear hb5
            rcases HSc2.out with ⟨h1, h2, h3⟩ | ⟨h1, h2⟩ | ⟨h1, h2, h3⟩
            · rw [h1] at he
              subst he
              clear h1
              have h2' : ¬ n < -1099511627775 := by omega
              have h3' : ¬ n > 1099511627775 := by omega
              go_wp2_with fail
              refine (awake10_any _ (HT.out.below HB.out (Nat.le_refl _))).mono ?_
              rintro e w99 ⟨rfl, h99⟩
              have HB := Lib.hid (HB.out.trans (h99.mono HB.out.size))
              clear h99
              go_wp2_with fail
              go_ret
              exact ⟨rfl, HB.out⟩
            · rw [h1] at he
              subst he
              clear h1
              go_wp2_with fail
              refine (awake10_any _ (HT.out.below HB.out (Nat.le_refl _))).mono ?_
              rintro e w99 ⟨rfl, h99⟩
              have HB := Lib.hid (HB.out.trans (h99.mono HB.out.size))
              clear h99
              go_wp2_with fail
              go_ret
              exact ⟨rfl, HB.out⟩
            · rw [h1] at he
              subst he
              clear h1
              go_wp2_with fail
              refine (awake10_any _ (HT.out.below HB.out (Nat.le_refl _))).mono ?_
              rintro e w99 ⟨rfl, h99⟩
              have HB := Lib.hid (HB.out.trans (h99.mono HB.out.size))
              clear h99
              go_wp2_with fail
              go_ret
              exact ⟨rfl, HB.out⟩
          · exfalso
            rw [beq_iff_eq] at f3
            omega
      · rcases HF2.out with ⟨f2, f2b⟩ | f2
        · have f2c : ¬ ((s[k].toNat : Int) = 48) := by rw [beq_eq_false_iff_ne] at f2b; exact f2b
          rcases HF3.out with f3 | ⟨f3, f3b⟩
          · go_wp2_with fail
            refine (scale_any s (f : Int) _ (HT.out.below HB.out (Nat.le_refl _)) (by omega) (by omega) (by omega)).mono ?_
            rintro e w5 ⟨he, hb5⟩
            have HB := Lib.hid (HB.out.trans (hb5.mono HB.out.size))
            clear hb5
            rcases HSc2.out with ⟨h1, h2, h3⟩ | ⟨h1, h2⟩ | ⟨h1, h2, h3⟩
            · rw [h1] at he
              subst he
              clear h1
              have h2' : ¬ n < -1099511627775 := by omega
              have h3' : ¬ n > 1099511627775 := by omega
              go_wp2_with fail
              refine (awake10_any _ (HT.out.below HB.out (Nat.le_refl _))).mono ?_
              rintro e w99 ⟨rfl, h99⟩
              have HB := Lib.hid (HB.out.trans (h99.mono HB.out.size))
              clear h99
              go_wp2_with fail
              go_ret
              exact ⟨rfl, HB.out⟩
            · rw [h1] at he
              subst he
              clear h1
              go_wp2_with fail
              refine (awake10_any _ (HT.out.below HB.out (Nat.le_refl _))).mono ?_
              rintro e w99 ⟨rfl, h99⟩
              have HB := Lib.hid (HB.out.trans (h99.mono HB.out.size))
              clear h99
              go_wp2_with fail
              go_ret
              exact ⟨rfl, HB.out⟩
            · rw [h1] at he
              subst he
              clear h1
              go_wp2_with fail
              refine (awake10_any _ (HT.out.below HB.out (Nat.le_refl _))).mono ?_
              rintro e w99 ⟨rfl, h99⟩
              have HB := Lib.hid (HB.out.trans (h99.mono HB.out.size))
              clear h99
              go_wp2_with fail
              go_ret
              exact ⟨rfl, HB.out⟩
          · exfalso
            rw [beq_iff_eq] at f3
            omega
        · have f2 : p = 0 := Hpz.out.2 f2
          rcases HF3.out with f3 | ⟨f3, f3b⟩
          · go_wp2_with fail
            refine (scale_any s (f : Int) _ (HT.out.below HB.out (Nat.le_refl _)) (by omega) (by omega) (by omega)).mono ?_
            rintro e w5 ⟨he, hb5⟩
            have HB := Lib.hid (HB.out.trans (hb5.mono HB.out.size))
            clear hb5
            rcases HSc2.out with ⟨h1, h2, h3⟩ | ⟨h1, h2⟩ | ⟨h1, h2, h3⟩
            · rw [h1] at he
              subst he
              clear h1
              have h2' : ¬ n < -1099511627775 := by omega
              have h3' : ¬ n > 1099511627775 := by omega
              go_wp2_with fail
              refine (awake10_any _ (HT.out.below HB.out (Nat.le_refl _))).mono ?_
              rintro e w99 ⟨rfl, h99⟩
              have HB := Lib.hid (HB.out.trans (h99.mono HB.out.size))
              clear h99
              go_wp2_with fail
              go_ret
              exact ⟨rfl, HB.out⟩
            · rw [h1] at he
              subst he
              clear h1
              go_wp2_with fail
              refine (awake10_any _ (HT.out.below HB.out (Nat.le_refl _))).mono ?_
              rintro e w99 ⟨rfl, h99⟩
              have HB := Lib.hid (HB.out.trans (h99.mono HB.out.size))
              clear h99
              go_wp2_with fail
              go_ret
              exact ⟨rfl, HB.out⟩
            · rw [h1] at he
              subst he
              clear h1
              go_wp2_with fail
              refine (awake10_any _ (HT.out.below HB.out (Nat.le_refl _))).mono ?_
              rintro e w99 ⟨rfl, h99⟩
              have HB := Lib.hid (HB.out.trans (h99.mono HB.out.size))
              clear h99
              go_wp2_with fail
              go_ret
              exact ⟨rfl, HB.out⟩
          · exfalso
            rw [beq_iff_eq] at f3
            omega
      · rcases HF2.out with ⟨f2, f2b⟩ | f2
        · have f2c : ¬ ((s[k].toNat : Int) = 48) := by rw [beq_eq_false_iff_ne] at f2b; exact f2b
          rcases HF3.out with f3 | ⟨f3, f3b⟩
          · go_wp2_with fail
            refine (scale_any s (f : Int) _ (HT.out.below HB.out (Nat.le_refl _)) (by omega) (by omega) (by omega)).mono ?_
            rintro e w5 ⟨he, hb5⟩
            have HB := Lib.hid (HB.out.trans (hb5.mono HB.out.size))
            clear hb5
            rcases HSc2.out with ⟨h1, h2, h3⟩ | ⟨h1, h2⟩ | ⟨h1, h2, h3⟩
            · rw [h1] at he
              subst he
              clear h1
              have h2' : ¬ n < -1099511627775 := by omega
              have h3' : ¬ n > 1099511627775 := by omega
              go_wp2_with fail
              refine (awake10_any _ (HT.out.below HB.out (Nat.le_refl _))).mono ?_
              rintro e w99 ⟨rfl, h99⟩
              have HB := Lib.hid (HB.out.trans (h99.mono HB.out.size))
              clear h99
              go_wp2_with fail
              go_ret
              exact ⟨rfl, HB.out⟩
            · rw [h1] at he
              subst he
              clear h1
              go_wp2_with fail
              refine (awake10_any _ (HT.out.below HB.out (Nat.le_refl _))).mono ?_
              rintro e w99 ⟨rfl, h99⟩
              have HB := Lib.hid (HB.out.trans (h99.mono HB.out.size))
              clear h99
              go_wp2_with fail
              go_ret
              exact ⟨rfl, HB.out⟩
            · rw [h1] at he
              subst he
              clear h1
              go_wp2_with fail
              refine (awake10_any _ (HT.out.below HB.out (Nat.le_refl _))).mono ?_
              rintro e w99 ⟨rfl, h99⟩
              have HB := Lib.hid (HB.out.trans (h99.mono HB.out.size))
              clear h99
              go_wp2_with fail
              go_ret
              exact ⟨rfl, HB.out⟩
          · exfalso
            rw [beq_iff_eq] at f3
            omega
        · have f2 : p = 0 := Hpz.out.2 f2
          rcases HF3.out with f3 | ⟨f3, f3b⟩
          · go_wp2_with fail
            refine (scale_any s (f : Int) _ (HT.out.below HB.out (Nat.le_refl _)) (by omega) (by omega) (by omega)).mono ?_
            rintro e w5 ⟨he, hb5⟩
            have HB := Lib.hid (HB.out.trans (hb5.mono HB.out.size))
            clear hb5
            rcases HSc2.out with ⟨h1, h2, h3⟩ | ⟨h1, h2⟩ | ⟨h1, h2, h3⟩
            · rw [h1] at he
              subst he
              clear h1
              have h2' : ¬ n < -1099511627775 := by omega
              have h3' : ¬ n > 1099511627775 := by omega
              go_wp2_with fail
              refine (awake10_any _ (HT.out.below HB.out (Nat.le_refl _))).mono ?_
              rintro e w99 ⟨rfl, h99⟩
              have HB := Lib.hid (HB.out.trans (h99.mono HB.out.size))
              clear h99
              go_wp2_with fail
              go_ret
              exact ⟨rfl, HB.out⟩
            · rw [h1] at he
              subst he
              clear h1
              go_wp2_with fail
              refine (awake10_any _ (HT.out.below HB.out (Nat.le_refl _))).mono ?_
              rintro e w99 ⟨rfl, h99⟩
              have HB := Lib.hid (HB.out.trans (h99.mono HB.out.size))
              clear h99
              go_wp2_with fail
              go_ret
              exact ⟨rfl, HB.out⟩
            · rw [h1] at he
              subst he
              clear h1
              go_wp2_with fail
              refine (awake10_any _ (HT.out.below HB.out (Nat.le_refl _))).mono ?_
              rintro e w99 ⟨rfl, h99⟩
              have HB := Lib.hid (HB.out.trans (h99.mono HB.out.size))
              clear h99
              go_wp2_with fail
              go_ret
              exact ⟨rfl, HB.out⟩
          · exfalso
            rw [beq_iff_eq] at f3
            omega
    · have hsg1 : sg.length = 0 := by rw [Hsg.out, if_neg hneg]
      have g45 : ((s[0].toNat : Int) == 45) = false := byte_ne s 0 hs0 45 (fun h => hneg (H45.out.1 h))
      have HF1 := Lib.hid (first_law s 0 hs0 (by have := H48.out; rw [hsg1] at this; exact this))
      clear hsg1
      rcases HF1.out with f1 | ⟨f1, f1b⟩ | ⟨f1, f1c, f1d⟩
      · rcases HF2.out with ⟨f2, f2b⟩ | f2
        · have f2c : ¬ ((s[k].toNat : Int) = 48) := by rw [beq_eq_false_iff_ne] at f2b; exact f2b
          rcases HF3.out with f3 | ⟨f3, f3b⟩
          · go_wp2_with fail
            refine (scale_any s (f : Int) _ (HT.out.below HB.out (Nat.le_refl _)) (by omega) (by omega) (by omega)).mono ?_
            rintro e w5 ⟨he, hb5⟩
            have HB := Lib.hid (HB.out.trans (hb5.mono HB.out.size))
            clear hb5
            rcases HSc2.out with ⟨h1, h2, h3⟩ | ⟨h1, h2⟩ | ⟨h1, h2, h3⟩
            · rw [h1] at he
              subst he
              clear h1
              have h2' : ¬ n < -1099511627775 := by omega
              have h3' : ¬ n > 1099511627775 := by omega
              go_wp2_with fail
              refine (awake10_any _ (HT.out.below HB.out (Nat.le_refl _))).mono ?_
              rintro e w99 ⟨rfl, h99⟩
              have HB := Lib.hid (HB.out.trans (h99.mono HB.out.size))
              clear h99
              go_wp2_with fail
              go_ret
              exact ⟨rfl, HB.out⟩
            · rw [h1] at he
              subst he
              clear h1
              go_wp2_with fail
              refine (awake10_any _ (HT.out.below HB.out (Nat.le_refl _))).mono ?_
              rintro e w99 ⟨rfl, h99⟩
              have HB := Lib.hid (HB.out.trans (h99.mono HB.out.size))
              clear h99
              go_wp2_with fail
              go_ret
              exact ⟨rfl, HB.out⟩
            · rw [h1] at he
              subst he
              clear h1
              go_wp2_with fail
              refine (awake10_any _ (HT.out.below HB.out (Nat.le_refl _))).mono ?_
              rintro e w99 ⟨rfl, h99⟩
              have HB := Lib.hid (HB.out.trans (h99.mono HB.out.size))
              clear h99
              go_wp2_with fail
              go_ret
              exact ⟨rfl, HB.out⟩
          · go_wp2_with fail
            refine (scale_any s (f : Int) _ (HT.out.below HB.out (Nat.le_refl _)) (by omega) (by omega) (by omega)).mono ?_
            rintro e w5 ⟨he, hb5⟩
            have HB := Lib.hid (HB.out.trans (hb5.mono HB.out.size))
            clear hb5
            rcases HSc2.out with ⟨h1, h2, h3⟩ | ⟨h1, h2⟩ | ⟨h1, h2, h3⟩
            · rw [h1] at he
              subst he
              clear h1
              have h2' : ¬ n < -1099511627775 := by omega
              have h3' : ¬ n > 1099511627775 := by omega
              go_wp2_with fail
              refine (awake10_any _ (HT.out.below HB.out (Nat.le_refl _))).mono ?_
              rintro e w99 ⟨rfl, h99⟩
              have HB := Lib.hid (HB.out.trans (h99.mono HB.out.size))
              clear h99
              go_wp2_with fail
              go_ret
              exact ⟨rfl, HB.out⟩
            · rw [h1] at he
              subst he
              clear h1
              go_wp2_with fail
              refine (awake10_any _ (HT.out.below HB.out (Nat.le_refl _))).mono ?_
              rintro e w99 ⟨rfl, h99⟩
              have HB := Lib.hid (HB.out.trans (h99.mono HB.out.size))
              clear h99
              go_wp2_with fail
              go_ret
              exact ⟨rfl, HB.out⟩
            · rw [h1] at he
              subst he
              clear h1
              go_wp2_with fail
              refine (awake10_any _ (HT.out.below HB.out (Nat.le_refl _))).mono ?_
              rintro e w99 ⟨rfl, h99⟩
              have HB := Lib.hid (HB.out.trans (h99.mono HB.out.size))
              clear h99
              go_wp2_with fail
              go_ret
              exact ⟨rfl, HB.out⟩
        · have f2 : p = 0 := Hpz.out.2 f2
          rcases HF3.out with f3 | ⟨f3, f3b⟩
          · go_wp2_with fail
            refine (scale_any s (f : Int) _ (HT.out.below HB.out (Nat.le_refl _)) (by omega) (by omega) (by omega)).mono ?_
            rintro e w5 ⟨he, hb5⟩
            have HB := Lib.hid (HB.out.trans (hb5.mono HB.out.size))
            clear hb5
            rcases HSc2.out with ⟨h1, h2, h3⟩ | ⟨h1, h2⟩ | ⟨h1, h2, h3⟩
            · rw [h1] at he
              subst he
              clear h1
              have h2' : ¬ n < -1099511627775 := by omega
              have h3' : ¬ n > 1099511627775 := by omega
              go_wp2_with fail
              refine (awake10_any _ (HT.out.below HB.out (Nat.le_refl _))).mono ?_
              rintro e w99 ⟨rfl, h99⟩
              have HB := Lib.hid (HB.out.trans (h99.mono HB.out.size))
              clear h99
              go_wp2_with fail
              go_ret
              exact ⟨rfl, HB.out⟩
            · rw [h1] at he
              subst he
              clear h1
              go_wp2_with fail
              refine (awake10_any _ (HT.out.below HB.out (Nat.le_refl _))).mono ?_
              rintro e w99 ⟨rfl, h99⟩
              have HB := Lib.hid (HB.out.trans (h99.mono HB.out.size))
              clear h99
              go_wp2_with fail
              go_ret
              exact ⟨rfl, HB.out⟩
            · rw [h1] at he
              subst he
              clear h1
              go_wp2_with fail
              refine (awake10_any _ (HT.out.below HB.out (Nat.le_refl _))).mono ?_
              rintro e w99 ⟨rfl, h99⟩
              have HB := Lib.hid (HB.out.trans (h99.mono HB.out.size))
              clear h99
              go_wp2_with fail
              go_ret
              exact ⟨rfl, HB.out⟩
          · go_wp2_with fail
            refine (scale_any s (f : Int) _ (HT.out.below HB.out (Nat.le_refl _)) (by omega) (by omega) (by omega)).mono ?_
            rintro e w5 ⟨he, hb5⟩
            have HB := Lib.hid (HB.out.trans (hb5.mono HB.out.size))
            clear hb5
            rcases HSc2.out with ⟨h1, h2, h3⟩ | ⟨h1, h2⟩ | ⟨h1, h2, h3⟩
            · rw [h1] at he
              subst he
              clear h1
              have h2' : ¬ n < -1099511627775 := by omega
              have h3' : ¬ n > 1099511627775 := by omega
              go_wp2_with fail
              refine (awake10_any _ (HT.out.below HB.out (Nat.le_refl _))).mono ?_
              rintro e w99 ⟨rfl, h99⟩
              have HB := Lib.hid (HB.out.trans (h99.mono HB.out.size))
              clear h99
              go_wp2_with fail
              go_ret
              exact ⟨rfl, HB.out⟩
            · rw [h1] at he
              subst he
              clear h1
              go_wp2_with fail
              refine (awake10_any _ (HT.out.below HB.out (Nat.le_refl _))).mono ?_
              rintro e w99 ⟨rfl, h99⟩
              have HB := Lib.hid (HB.out.trans (h99.mono HB.out.size))
              clear h99
              go_wp2_with fail
              go_ret
              exact ⟨rfl, HB.out⟩
            · rw [h1] at he
              subst he
              clear h1
              go_wp2_with fail
              refine (awake10_any _ (HT.out.below HB.out (Nat.le_refl _))).mono ?_
              rintro e w99 ⟨rfl, h99⟩
              have HB := Lib.hid (HB.out.trans (h99.mono HB.out.size))
              clear h99
              go_wp2_with fail
              go_ret
              exact ⟨rfl, HB.out⟩
      · rcases HF2.out with ⟨f2, f2b⟩ | f2
        · have f2c : ¬ ((s[k].toNat : Int) = 48) := by rw [beq_eq_false_iff_ne] at f2b; exact f2b
          rcases HF3.out with f3 | ⟨f3, f3b⟩
          · go_wp2_with fail
            refine (scale_any s (f : Int) _ (HT.out.below HB.out (Nat.le_refl _)) (by omega) (by omega) (by omega)).mono ?_
            rintro e w5 ⟨he, hb5⟩
            have HB := Lib.hid (HB.out.trans (hb5.mono HB.out.size))
            clear hb5
            rcases HSc2.out with ⟨h1, h2, h3⟩ | ⟨h1, h2⟩ | ⟨h1, h2, h3⟩
            · rw [h1] at he
              subst he
              clear h1
              have h2' : ¬ n < -1099511627775 := by omega
              have h3' : ¬ n > 1099511627775 := by omega
              go_wp2_with fail
              refine (awake10_any _ (HT.out.below HB.out (Nat.le_refl _))).mono ?_
              rintro e w99 ⟨rfl, h99⟩
              have HB := Lib.hid (HB.out.trans (h99.mono HB.out.size))
              clear h99
              go_wp2_with fail
              go_ret
              exact ⟨rfl, HB.out⟩
            · rw [h1] at he
              subst he
              clear h1
              go_wp2_with fail
              refine (awake10_any _ (HT.out.below HB.out (Nat.le_refl _))).mono ?_
              rintro e w99 ⟨rfl, h99⟩
              have HB := Lib.hid (HB.out.trans (h99.mono HB.out.size))
              clear h99
              go_wp2_with fail
              go_ret
              exact ⟨rfl, HB.out⟩
            · rw [h1] at he
              subst he
              clear h1
              go_wp2_with fail
              refine (awake10_any _ (HT.out.below HB.out (Nat.le_refl _))).mono ?_
              rintro e w99 ⟨rfl, h99⟩
              have HB := Lib.hid (HB.out.trans (h99.mono HB.out.size))
              clear h99
              go_wp2_with fail
              go_ret
              exact ⟨rfl, HB.out⟩
          · go_wp2_with fail
            refine (scale_any s (f : Int) _ (HT.out.below HB.out (Nat.le_refl _)) (by omega) (by omega) (by omega)).mono ?_
            rintro e w5 ⟨he, hb5⟩
            have HB := Lib.hid (HB.out.trans (hb5.mono HB.out.size))
            clear hb5
            rcases HSc2.out with ⟨h1, h2, h3⟩ | ⟨h1, h2⟩ | ⟨h1, h2, h3⟩
            · rw [h1] at he
              subst he
              clear h1
              have h2' : ¬ n < -1099511627775 := by omega
              have h3' : ¬ n > 1099511627775 := by omega
              go_wp2_with fail
              refine (awake10_any _ (HT.out.below HB.out (Nat.le_refl _))).mono ?_
              rintro e w99 ⟨rfl, h99⟩
              have HB := Lib.hid (HB.out.trans (h99.mono HB.out.size))
              clear h99
              go_wp2_with fail
              go_ret
              exact ⟨rfl, HB.out⟩
            · rw [h1] at he
              subst he
              clear h1
              go_wp2_with fail
              refine (awake10_any _ (HT.out.below HB.out (Nat.le_refl _))).mono ?_
              rintro e w99 ⟨rfl, h99⟩
              have HB := Lib.hid (HB.out.trans (h99.mono HB.out.size))
              clear h99
              go_wp2_with fail
              go_ret
              exact ⟨rfl, HB.out⟩
            · rw [h1] at he
              subst he
              clear h1
              go_wp2_with fail
              refine (awake10_any _ (HT.out.below HB.out (Nat.le_refl _))).mono ?_
              rintro e w99 ⟨rfl, h99⟩
              have HB := Lib.hid (HB.out.trans (h99.mono HB.out.size))
              clear h99
              go_wp2_with fail
              go_ret
              exact ⟨rfl, HB.out⟩
        · have f2 : p = 0 := Hpz.out.2 f2
          rcases HF3.out with f3 | ⟨f3, f3b⟩
          · go_wp2_with fail
            refine (scale_any s (f : Int) _ (HT.out.below HB.out (Nat.le_refl _)) (by omega) (by omega) (by omega)).mono ?_
            rintro e w5 ⟨he, hb5⟩
            have HB := Lib.hid (HB.out.trans (hb5.mono HB.out.size))
            clear hb5
            rcases HSc2.out with ⟨h1, h2, h3⟩ | ⟨h1, h2⟩ | ⟨h1, h2, h3⟩
            · rw [h1] at he
              subst he
              clear h1
              have h2' : ¬ n < -1099511627775 := by omega
              have h3' : ¬ n > 1099511627775 := by omega
              go_wp2_with fail
              refine (awake10_any _ (HT.out.below HB.out (Nat.le_refl _))).mono ?_
              rintro e w99 ⟨rfl, h99⟩
              have HB := Lib.hid (HB.out.trans (h99.mono HB.out.size))
              clear h99
              go_wp2_with fail
              go_ret
              exact ⟨rfl, HB.out⟩
            · rw [h1] at he
              subst he
              clear h1
              go_wp2_with fail
              refine (awake10_any _ (HT.out.below HB.out (Nat.le_refl _))).mono ?_
              rintro e w99 ⟨rfl, h99⟩
              have HB := Lib.hid (HB.out.trans (h99.mono HB.out.size))
              clear h99
              go_wp2_with fail
              go_ret
              exact ⟨rfl, HB.out⟩
            · rw [h1] at he
              subst he
              clear h1
              go_wp2_with fail
              refine (awake10_any _ (HT.out.below HB.out (Nat.le_refl _))).mono ?_
              rintro e w99 ⟨rfl, h99⟩
              have HB := Lib.hid (HB.out.trans (h99.mono HB.out.size))
              clear h99
              go_wp2_with fail
              go_ret
              exact ⟨rfl, HB.out⟩
          · go_wp2_with fail
            refine (scale_any s (f : Int) _ (HT.out.below HB.out (Nat.le_refl _)) (by omega) (by omega) (by omega)).mono ?_
            rintro e w5 ⟨he, hb5⟩
            have HB := Lib.hid (HB.out.trans (hb5.mono HB.out.size))
            clear hb5
            rcases HSc2.out with ⟨h1, h2, h3⟩ | ⟨h1, h2⟩ | ⟨h1, h2, h3⟩
            · rw [h1] at he
              subst he
              clear h1
              have h2' : ¬ n < -1099511627775 := by omega
              have h3' : ¬ n > 1099511627775 := by omega
              go_wp2_with fail
              refine (awake10_any _ (HT.out.below HB.out (Nat.le_refl _))).mono ?_
              rintro e w99 ⟨rfl, h99⟩
              have HB := Lib.hid (HB.out.trans (h99.mono HB.out.size))
              clear h99
              go_wp2_with fail
              go_ret
              exact ⟨rfl, HB.out⟩
            · rw [h1] at he
              subst he
              clear h1
              go_wp2_with fail
              refine (awake10_any _ (HT.out.below HB.out (Nat.le_refl _))).mono ?_
              rintro e w99 ⟨rfl, h99⟩
              have HB := Lib.hid (HB.out.trans (h99.mono HB.out.size))
              clear h99
              go_wp2_with fail
              go_ret
              exact ⟨rfl, HB.out⟩
            · rw [h1] at he
              subst he
              clear h1
              go_wp2_with fail
              refine (awake10_any _ (HT.out.below HB.out (Nat.le_refl _))).mono ?_
              rintro e w99 ⟨rfl, h99⟩
              have HB := Lib.hid (HB.out.trans (h99.mono HB.out.size))
              clear h99
              go_wp2_with fail
              go_ret
              exact ⟨rfl, HB.out⟩
      · rcases HF2.out with ⟨f2, f2b⟩ | f2
        · have f2c : ¬ ((s[k].toNat : Int) = 48) := by rw [beq_eq_false_iff_ne] at f2b; exact f2b
          rcases HF3.out with f3 | ⟨f3, f3b⟩
          · go_wp2_with fail
            refine (scale_any s (f : Int) _ (HT.out.below HB.out (Nat.le_refl _)) (by omega) (by omega) (by omega)).mono ?_
            rintro e w5 ⟨he, hb5⟩
            have HB := Lib.hid (HB.out.trans (hb5.mono HB.out.size))
            clear hb5
            rcases HSc2.out with ⟨h1, h2, h3⟩ | ⟨h1, h2⟩ | ⟨h1, h2, h3⟩
            · rw [h1] at he
              subst he
              clear h1
              have h2' : ¬ n < -1099511627775 := by omega
              have h3' : ¬ n > 1099511627775 := by omega
              go_wp2_with fail
              refine (awake10_any _ (HT.out.below HB.out (Nat.le_refl _))).mono ?_
              rintro e w99 ⟨rfl, h99⟩
              have HB := Lib.hid (HB.out.trans (h99.mono HB.out.size))
              clear h99
              go_wp2_with fail
              go_ret
              exact ⟨rfl, HB.out⟩
            · rw [h1] at he
              subst he
              clear h1
              go_wp2_with fail
              refine (awake10_any _ (HT.out.below HB.out (Nat.le_refl _))).mono ?_
              rintro e w99 ⟨rfl, h99⟩
              have HB := Lib.hid (HB.out.trans (h99.mono HB.out.size))
              clear h99
              go_wp2_with fail
              go_ret
              exact ⟨rfl, HB.out⟩
            · rw [h1] at he
              subst he
              clear h1
              go_wp2_with fail
              refine (awake10_any _ (HT.out.below HB.out (Nat.le_refl _))).mono ?_
              rintro e w99 ⟨rfl, h99⟩
              have HB := Lib.hid (HB.out.trans (h99.mono HB.out.size))
              clear h99
              go_wp2_with fail
              go_ret
              exact ⟨rfl, HB.out⟩
          · go_wp2_with fail
            refine (scale_any s (f : Int) _ (HT.out.below HB.out (Nat.le_refl _)) (by omega) (by omega) (by omega)).mono ?_
            rintro e w5 ⟨he, hb5⟩
            have HB := Lib.hid (HB.out.trans (hb5.mono HB.out.size))
            clear hb5
            rcases HSc2.out with ⟨h1, h2, h3⟩ | ⟨h1, h2⟩ | ⟨h1, h2, h3⟩
            · rw [h1] at he
              subst he
              clear h1
              have h2' : ¬ n < -1099511627775 := by omega
              have h3' : ¬ n > 1099511627775 := by omega
              go_wp2_with fail
              refine (awake10_any _ (HT.out.below HB.out (Nat.le_refl _))).mono ?_
              rintro e w99 ⟨rfl, h99⟩
              have HB := Lib.hid (HB.out.trans (h99.mono HB.out.size))
              clear h99
              go_wp2_with fail
              go_ret
              exact ⟨rfl, HB.out⟩
            · rw [h1] at he
              subst he
              clear h1
              go_wp2_with fail
              refine (awake10_any _ (HT.out.below HB.out (Nat.le_refl _))).mono ?_
              rintro e w99 ⟨rfl, h99⟩
              have HB := Lib.hid (HB.out.trans (h99.mono HB.out.size))
              clear h99
              go_wp2_with fail
              go_ret
              exact ⟨rfl, HB.out⟩
            · rw [h1] at he
              subst he
              clear h1
              go_wp2_with fail
              refine (awake10_any _ (HT.out.below HB.out (Nat.le_refl _))).mono ?_
              rintro e w99 ⟨rfl, h99⟩
              have HB := Lib.hid (HB.out.trans (h99.mono HB.out.size))
              clear h99
              go_wp2_with fail
              go_ret
              exact ⟨rfl, HB.out⟩
        · have f2 : p = 0 := Hpz.out.2 f2
          rcases HF3.out with f3 | ⟨f3, f3b⟩
          · go_wp2_with fail
            refine (scale_any s (f : Int) _ (HT.out.below HB.out (Nat.le_refl _)) (by omega) (by omega) (by omega)).mono ?_
            rintro e w5 ⟨he, hb5⟩
            have HB := Lib.hid (HB.out.trans (hb5.mono HB.out.size))
            clear hb5
            rcases HSc2.out with ⟨h1, h2, h3⟩ | ⟨h1, h2⟩ | ⟨h1, h2, h3⟩
            · rw [h1] at he
              subst he
              clear h1
              have h2' : ¬ n < -1099511627775 := by omega
              have h3' : ¬ n > 1099511627775 := by omega
              go_wp2_with fail
              refine (awake10_any _ (HT.out.below HB.out (Nat.le_refl _))).mono ?_
              rintro e w99 ⟨rfl, h99⟩
              have HB := Lib.hid (HB.out.trans (h99.mono HB.out.size))
              clear h99
              go_wp2_with fail
              go_ret
              exact ⟨rfl, HB.out⟩
            · rw [h1] at he
              subst he
              clear h1
              go_wp2_with fail
              refine (awake10_any _ (HT.out.below HB.out (Nat.le_refl _))).mono ?_
              rintro e w99 ⟨rfl, h99⟩
              have HB := Lib.hid (HB.out.trans (h99.mono HB.out.size))
              clear h99
              go_wp2_with fail
              go_ret
              exact ⟨rfl, HB.out⟩
            · rw [h1] at he
              subst he
              clear h1
              go_wp2_with fail
              refine (awake10_any _ (HT.out.below HB.out (Nat.le_refl _))).mono ?_
              rintro e w99 ⟨rfl, h99⟩
              have HB := Lib.hid (HB.out.trans (h99.mono HB.out.size))
              clear h99
              go_wp2_with fail
              go_ret
              exact ⟨rfl, HB.out⟩
          · go_wp2_with fail
            refine (scale_any s (f : Int) _ (HT.out.below HB.out (Nat.le_refl _)) (by omega) (by omega) (by omega)).mono ?_
            rintro e w5 ⟨he, hb5⟩
            have HB := Lib.hid (HB.out.trans (hb5.mono HB.out.size))
            clear hb5
            rcases HSc2.out with ⟨h1, h2, h3⟩ | ⟨h1, h2⟩ | ⟨h1, h2, h3⟩
            · rw [h1] at he
              subst he
              clear h1
              have h2' : ¬ n < -1099511627775 := by omega
              have h3' : ¬ n > 1099511627775 := by omega
              go_wp2_with fail
              refine (awake10_any _ (HT.out.below HB.out (Nat.le_refl _))).mono ?_
              rintro e w99 ⟨rfl, h99⟩
              have HB := Lib.hid (HB.out.trans (h99.mono HB.out.size))
              clear h99
              go_wp2_with fail
              go_ret
              exact ⟨rfl, HB.out⟩
            · rw [h1] at he
              subst he
              clear h1
              go_wp2_with fail
              refine (awake10_any _ (HT.out.below HB.out (Nat.le_refl _))).mono ?_
              rintro e w99 ⟨rfl, h99⟩
              have HB := Lib.hid (HB.out.trans (h99.mono HB.out.size))
              clear h99
              go_wp2_with fail
              go_ret
              exact ⟨rfl, HB.out⟩
            · rw [h1] at he
              subst he
              clear h1
              go_wp2_with fail
              refine (awake10_any _ (HT.out.below HB.out (Nat.le_refl _))).mono ?_
              rintro e w99 ⟨rfl, h99⟩
              have HB := Lib.hid (HB.out.trans (h99.mono HB.out.size))
              clear h99
              go_wp2_with fail
              go_ret
              exact ⟨rfl, HB.out⟩
end Go.Proofs.YtkhpfdgkmnifcaaDoor
