/- gromalaw10.DecimalDigits, walked. Printed by wip/gendl.py. -/
import Derived.Test.YtkhpfdgkmnifcaaDoorDcG
import Derived.Test.YtkhpfdgkmnifcaaDoorDcAw
import Derived.Test.YtkhpfdgkmnifcaaDoorRefR
import Derived.Test.YtkhpfdgkmnifcaaDoorNum
import Derived.Test.YtkhpfdgkmnifcaaDoorDig
import Derived.Test.YtkhpfdgkmnifcaaDoorDlP
import Derived.Test.YtkhpfdgkmnifcaaDoorTkG
set_option linter.unusedVariables false
set_option linter.unusedSimpArgs false
namespace Go.Proofs.YtkhpfdgkmnifcaaDoor
open Go.RowKit Go.Rg Go.Lib Bg
attribute [local go_sem] Oper.semAt_some


set_option maxRecDepth 100000 in
set_option maxHeartbeats 8000000 in
theorem lawDigitsW (s : ByteArray) (hsm : s.size ≤ maxLen) (w : World) (ht : Tabs w) :
    Calls Tryd.prog 5 #[.string s] w fun e w' => e = .returned (.bool true) ∧ Below w.heap.size w w' := by
  have HT := Lib.hid ht
  unfold maxLen at hsm
  have HB := Lib.hid (Below.refl w.heap.size w)
  clear ht
  by_cases hbig : s.size > 3000
  · go_enter Tryd.func5, Tryd.ntmps5
    go_wp2_with fail
    refine (awake10_any _ (HT.out.below HB.out (Nat.le_refl _))).mono ?_
    rintro e w99 ⟨rfl, h99⟩
    have HB := Lib.hid (HB.out.trans (h99.mono HB.out.size))
    clear h99
    go_wp2_with fail
    go_ret
    exact ⟨rfl, HB.out⟩
  · have hs3 : s.size ≤ 3000 := by omega
    go_enter Tryd.func5, Tryd.ntmps5
    go_wp2_with fail
    refine (digits_any s w HT.out (by omega)).mono ?_
    rintro e w1 ⟨d, p, b, ok, rfl, Hd, hb1⟩
    have HB := Lib.hid hb1
    clear hb1
    cases hr : Lx.right s.data.toList
    · have HR := Lib.hid hr
      rw [Dc.digits_wrong _ hr] at Hd
      have h1 := Hd.out
      simp only [Prod.mk.injEq] at h1
      obtain ⟨h1, h2, h3, h4⟩ := h1
      obtain rfl := str_of d [] h1.symm
      subst h2
      subst h3
      subst h4
      clear hr h1 Hd
      go_wp2_with fail
      refine (rright_any s w1 (by unfold maxLen; omega)).mono ?_
      rintro e w' ⟨rfl, rfl⟩
      rw [HR.out]
      go_wp2_with fail
      refine (awake10_any _ (HT.out.below HB.out (Nat.le_refl _))).mono ?_
      rintro e w99 ⟨rfl, h99⟩
      have HB := Lib.hid (HB.out.trans (h99.mono HB.out.size))
      clear h99
      go_wp2_with fail
      go_ret
      exact ⟨rfl, HB.out⟩
    · obtain ⟨sg, a, dt, bb, ex, sp, q, hp⟩ := Dc.parts_of_right _ hr
      have HR := Lib.hid hr
      have HP := Lib.hid hp
      obtain ⟨f1, f2, f3, f4, f5, f6⟩ := Dc.digits_facts s.data.toList
      have hok : ok = true ∧ (d.data.toList = [] → p = 0 ∧ b = false) := by
        have h1 := Dc.digits_parts hp
        rw [Hd.out] at h1
        split at h1
        · simp only [Prod.mk.injEq] at h1
          exact ⟨h1.2.2.2, fun _ => ⟨h1.2.1, h1.2.2.1⟩⟩
        · rename_i hne
          simp only [Prod.mk.injEq] at h1
          exact ⟨h1.2.2.2, fun h => absurd (h1.1.symm.trans h) hne⟩
      obtain ⟨rfl, hz⟩ := hok
      rw [Hd.out] at f1 f2 f3 f4 f5 f6
      simp only at f1 f2 f3 f4 f5 f6
      have HA := Lib.hid f3
      have g1 : ¬ p < -1099511627776 := by omega
      have g2 : ¬ p > 1099511627776 := by omega
      have HN := Lib.hid (fun X (h : Below w1.heap.size w1 X) (hq : q.length ≤ 15) (h2 : s.size ≤ 200) => number_any s X sg a dt bb ex sp q hp h2 hq)
      have HPl := Lib.hid (fun X => plain_any s X (by omega))
      by_cases hd0 : d.data.toList = []
      · obtain ⟨rfl, rfl⟩ := hz hd0
        obtain rfl := str_of d [] hd0
        clear hz hd0 f1 f2 f3 f4 f5 f6 hr hp
        cases hpl : Dc.plainP s.data.toList
        · have HPP := Lib.hid hpl
          clear hpl
          go_wp2_with fail
          refine (rright_any s w1 (by unfold maxLen; omega)).mono ?_
          rintro e w' ⟨rfl, rfl⟩
          rw [HR.out]
          go_wp2_with fail
          refine (HPl.out w1).mono ?_
          rintro e w' ⟨rfl, rfl⟩
          rw [HPP.out]
          go_wp2_with fail
          refine (awake10_any _ (HT.out.below HB.out (Nat.le_refl _))).mono ?_
          rintro e w99 ⟨rfl, h99⟩
          have HB := Lib.hid (HB.out.trans (h99.mono HB.out.size))
          clear h99
          go_wp2_with fail
          go_ret
          exact ⟨rfl, HB.out⟩
        · have HPP := Lib.hid hpl
          obtain ⟨hl60, hq2⟩ := Dc.plain_of HP.out hpl
          have HQ := Lib.hid hq2
          have HS60 : s.size ≤ 60 := by rw [Lib.size_eq]; exact hl60
          have HV : Hid (Dc.numV sg a bb = 0) := by
            unfold Hid
            rcases Dc.digits_plain HP.out (by omega) hq2 with ⟨h0, _⟩ | ⟨d', t, h1, h2, _⟩
            · have := Dc.numV_abs sg a bb; omega
            · rw [Hd.out] at h1
              simp only [Prod.mk.injEq] at h1
              exact absurd h1.1.symm h2
          clear hpl hl60 hq2 Hd
          go_wp2_with fail
          refine (rright_any s w1 (by unfold maxLen; omega)).mono ?_
          rintro e w' ⟨rfl, rfl⟩
          rw [HR.out]
          go_wp2_with fail
          refine (HPl.out w1).mono ?_
          rintro e w' ⟨rfl, rfl⟩
          rw [HPP.out]
          go_wp2_with fail
          refine (HN.out w1 (Below.refl _ _) (by have := HQ.out; omega) (by omega)).mono ?_
          rintro e w2 ⟨v2, rfl, H2, hb2⟩
          rw [HV.out] at H2
          obtain ⟨xn, xa, xk, xc, rfl⟩ := H2.form
          have HB := Lib.hid (HB.out.trans (hb2.mono HB.out.size))
          clear hb2 HN
          go_wp2_with fail
          obtain ⟨W, hW⟩ : ∃ W, w2.alloc (.cells #[.bool xn, .slice xa xk xc] 29) = W := ⟨_, rfl⟩
          have hbW : Below w2.heap.size w2 W := hW ▸ (Below.refl _ w2).alloc (Nat.le_refl _) _
          have HX := Lib.hid (H2.call hbW)
          have HB := Lib.hid (HB.out.trans (hbW.mono HB.out.size))
          rw [hW]
          clear hW hbW H2
          refine (sign_any _ 0 _ HX.out (by unfold lim; exact Nat.pow_pos (by decide))).mono ?_
          rintro e w3 ⟨rfl, hb3⟩
          have HB := Lib.hid (HB.out.trans (hb3.mono HB.out.size))
          rw [show cmpI 0 0 = 0 from rfl]
          clear hb3
          go_wp2_with fail
          refine (awake10_any _ (HT.out.below HB.out (Nat.le_refl _))).mono ?_
          rintro e w99 ⟨rfl, h99⟩
          have HB := Lib.hid (HB.out.trans (h99.mono HB.out.size))
          clear h99
          go_wp2_with fail
          go_ret
          exact ⟨rfl, HB.out⟩
      · have hd1 : 0 < d.size := by
          rcases Nat.eq_zero_or_pos d.size with h | h
          · exact absurd ((empty_iff d).2 h) hd0
          · exact h
        have he := empty_no hd1
        rw [List.head?_eq_getElem?] at f5
        have g48 : ((d[0].toNat : Int) == 48) = false := byte_ne d 0 hd1 48 f5
        have g48' : ¬ ((d[0].toNat : Int) = 48) := by rw [beq_eq_false_iff_ne] at g48; exact g48
        obtain ⟨k, hk⟩ : ∃ k, d.size = k + 1 := ⟨d.size - 1, by omega⟩
        have hk2 : (d.size : Int) - 1 = (k : Int) := by omega
        have hkl : k < d.size := by omega
        have HH := Lib.hid f5
        rw [List.getLast?_eq_getElem?, ← Lib.size_eq, hk, Nat.add_sub_cancel] at f6
        have g4 : ((d[k].toNat : Int) == 48) = false := byte_ne d k hkl 48 f6
        have g4' : ¬ ((d[k].toNat : Int) = 48) := by rw [beq_eq_false_iff_ne] at g4; exact g4
        rw [← Lib.size_eq, ← Lib.size_eq] at f4
        clear hz hd0 f1 f2 f3 f5 f6 hr hp hk
        cases hpl : Dc.plainP s.data.toList
        · have HPP := Lib.hid hpl
          clear hpl
          go_wp2_with fail
          refine (rright_any s w1 (by unfold maxLen; omega)).mono ?_
          rintro e w' ⟨rfl, rfl⟩
          rw [HR.out]
          go_wp2_with fail
          refine (HPl.out w1).mono ?_
          rintro e w' ⟨rfl, rfl⟩
          rw [HPP.out]
          go_wp2_with fail
          refine (awake10_any _ (HT.out.below HB.out (Nat.le_refl _))).mono ?_
          rintro e w99 ⟨rfl, h99⟩
          have HB := Lib.hid (HB.out.trans (h99.mono HB.out.size))
          clear h99
          go_wp2_with fail
          go_ret
          exact ⟨rfl, HB.out⟩
        · have HPP := Lib.hid hpl
          obtain ⟨hl60, hq2⟩ := Dc.plain_of HP.out hpl
          have HQ := Lib.hid hq2
          have HS60 : s.size ≤ 60 := by rw [Lib.size_eq]; exact hl60
          obtain ⟨t, hpt, hbs, hvt, ht100, hdl⟩ : ∃ t : Nat, p = Dc.numE bb sp q + t ∧ b = (sg == [45]) ∧ Dc.dval (a ++ bb) = Dc.dval d.data.toList * 10 ^ t ∧ t ≤ 100 ∧ d.size ≤ 100 := by
            rcases Dc.digits_plain HP.out (by omega) hq2 with ⟨_, h1⟩ | ⟨d', t, h1, h2, h3, h4, h5, h6, h7, h8⟩
            · rw [Hd.out] at h1
              simp only [Prod.mk.injEq] at h1
              exact absurd ((empty_iff d).1 h1.1) (by omega)
            · rw [Hd.out] at h1
              simp only [Prod.mk.injEq] at h1
              obtain ⟨e1, e2, e3, _⟩ := h1
              subst e1
              exact ⟨t, e2, e3, h6, h7, by rw [Lib.size_eq]; exact h8⟩
          have hlt := Dc.dval_lt d.data.toList HA.out
          rw [← Lib.size_eq] at hlt
          obtain ⟨X, hX⟩ : ∃ X, X = Dc.numV sg a bb := ⟨_, rfl⟩
          have hXa : X.natAbs < 10 ^ 60 := by
            rw [hX, Dc.numV_abs]
            have h1 := Dc.dval_lt (a ++ bb) HP.out.all
            have h2 : (a ++ bb).length ≤ 60 := by
              have e := congrArg List.length HP.out.eq
              simp only [List.length_append] at e ⊢
              omega
            exact Nat.lt_of_lt_of_le h1 (Nat.pow_le_pow_right (by decide) h2)
          have HL3 : Hid (X.natAbs < lim) := Nat.lt_trans hXa (by unfold lim; decide +kernel)
          have HL0 : Hid (((Dc.dval d.data.toList : Nat) : Int).natAbs < lim) := lim_nat _ d.size hlt (by omega)
          have HL2 : Hid (((10 : Int) ^ t).natAbs < lim) := lim_ten t (by omega)
          obtain ⟨Y, hY⟩ : ∃ Y, Y = if b then -(Dc.dval d.data.toList : Int) else (Dc.dval d.data.toList : Int) := ⟨_, rfl⟩
          have HYX : Hid (Y * 10 ^ t = X) := by
            unfold Hid
            rw [hX, Dc.numV_sgn, ← hbs, hvt, hY]
            cases b
            · simp
            · simp [Int.neg_mul]
          have HL1 : Hid (Y.natAbs < lim) := by
            have := HL0.out
            unfold Hid
            rw [hY]
            cases b <;> simp at this ⊢ <;> exact this
          obtain ⟨Q, hQ⟩ : ∃ Q, Q = Dc.numE bb sp q := ⟨_, rfl⟩
          rw [← hQ] at hpt
          rw [← hX, ← hQ] at HN
          have HYe := Lib.hid hY
          have Hpq := Lib.hid hpt
          have HPt := Lib.hid hbs
          clear hpl hl60 hq2 Hd hpt hbs hvt hlt hX hXa hY hQ
          go_wp2_with fail
          refine (rright_any s w1 (by unfold maxLen; omega)).mono ?_
          rintro e w' ⟨rfl, rfl⟩
          rw [HR.out]
          go_wp2_with fail
          refine (HPl.out w1).mono ?_
          rintro e w' ⟨rfl, rfl⟩
          rw [HPP.out]
          go_wp2_with fail
          refine (HN.out w1 (Below.refl _ _) (by have := HQ.out; omega) (by omega)).mono ?_
          rintro e w2 ⟨v2, rfl, H2, hb2⟩
          obtain ⟨xn, xa, xk, xc, rfl⟩ := H2.form
          have HB := Lib.hid (HB.out.trans (hb2.mono HB.out.size))
          clear hb2 HN
          go_wp2_with fail
          obtain ⟨W2, hW⟩ : ∃ W, w2.alloc (.cells #[.bool xn, .slice xa xk xc] 29) = W := ⟨_, rfl⟩
          have hbW : Below w2.heap.size w2 W2 := hW ▸ (Below.refl _ w2).alloc (Nat.le_refl _) _
          have HXB : Hid (Bx W2 w2.heap.size (xn, xa, xk, xc) X) := ⟨hW ▸ Blk.new w2 _ _, H2.call hbW⟩
          have HB := Lib.hid (HB.out.trans (hbW.mono HB.out.size))
          rw [hW]
          clear hW hbW H2
          obtain ⟨PX, hPX⟩ : ∃ P, P = w2.heap.size := ⟨_, rfl⟩
          rw [← hPX] at HXB ⊢
          clear hPX
          refine (bigDigits_any d W2 HA.out (by rw [List.head?_eq_getElem?]; exact HH.out) hd1 (by omega)).mono ?_
          rintro e w3 ⟨v3, rfl, H3, hb3⟩
          obtain ⟨yn, ya, yk, yc, rfl⟩ := H3.form
          have HXB := Lib.hid (HXB.out.call hb3)
          have HB := Lib.hid (HB.out.trans (hb3.mono HB.out.size))
          clear hb3
          have hpx : PX < w3.heap.size := HXB.out.blk.lt
          have hw3 : w.heap.size ≤ w3.heap.size := HB.out.size
          cases b
          · have HY0 : Hid ((Dc.dval d.data.toList : Int) = Y) := HYe.out.symm
            rw [HY0.out] at H3
            go_wp2_with fail
            obtain ⟨W, hW⟩ : ∃ W, w3.alloc (.cells #[.bool yn, .slice ya yk yc] 29) = W := ⟨_, rfl⟩
            have hbW : Below w3.heap.size w3 W := hW ▸ (Below.refl _ w3).alloc (Nat.le_refl _) _
            have HYB : Hid (Bx W w3.heap.size (yn, ya, yk, yc) Y) := ⟨hW ▸ Blk.new w3 _ _, H3.call hbW⟩
            have HXB := Lib.hid (HXB.out.call hbW)
            have HB := Lib.hid (HB.out.trans (hbW.mono HB.out.size))
            have y0 := HYB.out.blk.cell (j := 0) rfl
            have y1 := HYB.out.blk.cell (j := 1) rfl
            have x0 := HXB.out.blk.cell (j := 0) rfl
            have x1 := HXB.out.blk.cell (j := 1) rfl
            have hPY := HYB.out.blk.lt
            have hPX := HXB.out.blk.lt
            have HX := Lib.hid HXB.out.big
            have HY := Lib.hid HYB.out.big
            rw [hW]
            clear hW hbW H3 HXB HYB hpx
            obtain ⟨PY, hPYe⟩ : ∃ P, P = w3.heap.size := ⟨_, rfl⟩
            rw [← hPYe] at hPY y0 y1 ⊢
            clear hPYe
            have q1 : decide (Q ≤ p) = true := by rw [decide_eq_true_iff]; have := Hpq.out; omega
            have hpq : p - Q = (t : Int) := by have := Hpq.out; omega
            have hwt : IntKind.i64.wrap (t : Int) = (t : Int) := by rw [IntKind.wrap_i64]; omega
            have HTen := Lib.hid (fun X => ten_any (t : Int) X (by omega))
            simp only [Int.toNat_natCast] at HTen
            have HCX : cmpI X X = 0 := by unfold cmpI; simp
            go_wp2_with fail
            have HB := Lib.hid HB.out.drew
            have HY := Lib.hid (HY.out.call (Below.refl _ W).drew)
            have HX := Lib.hid (HX.out.call (Below.refl _ W).drew)
            refine wp_region_held_drew (S := fun w' => w'.cell? ⟨PY, 0, none⟩ = some (.bool yn) ∧ w'.cell? ⟨PY, 1, none⟩ = some (.slice ya yk yc) ∧ w'.cell? ⟨PX, 0, none⟩ = some (.bool xn) ∧ w'.cell? ⟨PX, 1, none⟩ = some (.slice xa xk xc)) (by kernel_rfl) ⟨y0, y1, x0, x1⟩ (fun hHeld => ?_)
            refine takeL 0 (v := ?_) rfl (by kernel_rfl) (by kernel_rfl) (by kernel_rfl) (fun _ _ _ h => h) (by rfl) (by assumption) ?hy0 ?_
            case hy0 => (intro w hSw; (try dsimp only at hSw); go_simp; all_goals (with_reducible rfl))
            (try simp only [Act.put, List.setIfInBounds_toArray, List.set_cons_zero, List.set_cons_succ])
            refine takeL 1 (v := ?_) rfl (by kernel_rfl) (by kernel_rfl) (by kernel_rfl) (fun _ _ _ h => h) (by rfl) (by assumption) ?hy1 ?_
            case hy1 => (intro w hSw; (try dsimp only at hSw); go_simp; all_goals (with_reducible rfl))
            (try simp only [Act.put, List.setIfInBounds_toArray, List.set_cons_zero, List.set_cons_succ])
            refine takeL 2 (v := ?_) rfl (by kernel_rfl) (by kernel_rfl) (by kernel_rfl) (fun _ _ _ h => h) (by rfl) (by assumption) ?hy2 ?_
            case hy2 => (intro w hSw; (try dsimp only at hSw); go_simp; all_goals (with_reducible rfl))
            (try simp only [Act.put, List.setIfInBounds_toArray, List.set_cons_zero, List.set_cons_succ])
            refine takeL 3 (v := ?_) rfl (by kernel_rfl) (by kernel_rfl) (by kernel_rfl) (fun _ _ _ h => h) (by rfl) (by assumption) ?hy3 ?_
            case hy3 => (intro w hSw; (try dsimp only at hSw); go_simp; all_goals (with_reducible rfl))
            (try simp only [Act.put, List.setIfInBounds_toArray, List.set_cons_zero, List.set_cons_succ])
            refine takeL 4 (v := ?_) rfl (by kernel_rfl) (by kernel_rfl) (by kernel_rfl) (fun _ _ _ h => h) (by rfl) (by assumption) ?hy4 ?_
            case hy4 => (intro w hSw; (try dsimp only at hSw); go_simp; all_goals (with_reducible rfl))
            (try simp only [Act.put, List.setIfInBounds_toArray, List.set_cons_zero, List.set_cons_succ])
            refine takeL 5 (v := ?_) rfl (by kernel_rfl) (by kernel_rfl) (by kernel_rfl) (fun _ _ _ h => h) (by rfl) (by assumption) ?hy5 ?_
            case hy5 => (intro w hSw; (try dsimp only at hSw); go_simp; all_goals (with_reducible rfl))
            (try simp only [Act.put, List.setIfInBounds_toArray, List.set_cons_zero, List.set_cons_succ])
            refine takeL 6 (v := ?_) rfl (by kernel_rfl) (by kernel_rfl) (by kernel_rfl) (fun _ _ _ h => h) (by rfl) (by assumption) ?hy6 ?_
            case hy6 => (intro w hSw; (try dsimp only at hSw); go_simp; all_goals (with_reducible rfl))
            (try simp only [Act.put, List.setIfInBounds_toArray, List.set_cons_zero, List.set_cons_succ])
            refine takeL 7 (v := ?_) rfl (by kernel_rfl) (by kernel_rfl) (by kernel_rfl) (fun _ _ _ h => h) (by rfl) (by assumption) ?hy7 ?_
            case hy7 => (intro w hSw; (try dsimp only at hSw); go_simp; all_goals (with_reducible rfl))
            (try simp only [Act.put, List.setIfInBounds_toArray, List.set_cons_zero, List.set_cons_succ])
            refine takeL 8 (v := ?_) rfl (by kernel_rfl) (by kernel_rfl) (by kernel_rfl) (fun _ _ _ h => h) (by rfl) (by assumption) ?hy8 ?_
            case hy8 => (intro w hSw; (try dsimp only at hSw); go_simp; all_goals (with_reducible rfl))
            (try simp only [Act.put, List.setIfInBounds_toArray, List.set_cons_zero, List.set_cons_succ])
            refine takeL 9 (v := ?_) rfl (by kernel_rfl) (by kernel_rfl) (by kernel_rfl) (fun _ _ _ h => h) (by rfl) (by assumption) ?hy9 ?_
            case hy9 => (intro w hSw; (try dsimp only at hSw); go_simp; all_goals (with_reducible rfl))
            (try simp only [Act.put, List.setIfInBounds_toArray, List.set_cons_zero, List.set_cons_succ])
            refine takeL 10 (v := ?_) rfl (by kernel_rfl) (by kernel_rfl) (by kernel_rfl) (fun _ _ _ h => h) (by rfl) (by assumption) ?hy10 ?_
            case hy10 => (intro w hSw; (try dsimp only at hSw); go_simp; all_goals (with_reducible rfl))
            (try simp only [Act.put, List.setIfInBounds_toArray, List.set_cons_zero, List.set_cons_succ])
            refine takeL 13 (v := ?_) rfl (by kernel_rfl) (by kernel_rfl) (by kernel_rfl) (fun _ _ _ h => h) (by rfl) (by assumption) ?hy13 ?_
            case hy13 => (intro w hSw; (try dsimp only at hSw); go_simp; all_goals (with_reducible rfl))
            (try simp only [Act.put, List.setIfInBounds_toArray, List.set_cons_zero, List.set_cons_succ])
            refine consL 11 (by kernel_rfl) rfl (by rfl) (fun K hK => ?_)
            go_simp
            go_at_call 14
            refine (HTen.out _).mono ?_
            rintro e w11 ⟨v11, rfl, H11, hb11⟩
            have y0 := keepc hb11 hPY y0
            have y1 := keepc hb11 hPY y1
            have x0 := keepc hb11 hPX x0
            have x1 := keepc hb11 hPX x1
            have hPX := Nat.lt_of_lt_of_le hPX hb11.size
            have hPY := Nat.lt_of_lt_of_le hPY hb11.size
            have HY := Lib.hid (HY.out.call hb11)
            have HX := Lib.hid (HX.out.call hb11)
            have HB := Lib.hid (HB.out.trans (hb11.mono HB.out.size))
            clear hb11
            have H11 := Lib.hid H11
            clear hHeld
            refine hK.out _ _ ?hS11 (fun hHeld => ?_)
            case hS11 => ((try dsimp only); exact ⟨y0, y1, x0, x1⟩)
            clear hK K
            (try simp only [Act.put, List.setIfInBounds_toArray, List.set_cons_zero, List.set_cons_succ])
            refine consL 12 (by kernel_rfl) rfl (by rfl) (fun K hK => ?_)
            go_simp
            go_at_call 13
            refine (mul_any _ _ Y (10 ^ t) _ HY.out H11.out HL1.out HL2.out).mono ?_
            rintro e w12 ⟨v12, rfl, H12, hb12⟩
            have y0 := keepc hb12 hPY y0
            have y1 := keepc hb12 hPY y1
            have x0 := keepc hb12 hPX x0
            have x1 := keepc hb12 hPX x1
            have hPX := Nat.lt_of_lt_of_le hPX hb12.size
            have hPY := Nat.lt_of_lt_of_le hPY hb12.size
            have HY := Lib.hid (HY.out.call hb12)
            have HX := Lib.hid (HX.out.call hb12)
            have H11 := Lib.hid (H11.out.call hb12)
            have HB := Lib.hid (HB.out.trans (hb12.mono HB.out.size))
            clear hb12
            rw [HYX.out] at H12
            have H12 := Lib.hid H12
            clear hHeld
            refine hK.out _ _ ?hS12 (fun hHeld => ?_)
            case hS12 => ((try dsimp only); exact ⟨y0, y1, x0, x1⟩)
            clear hK K
            (try simp only [Act.put, List.setIfInBounds_toArray, List.set_cons_zero, List.set_cons_succ])
            refine consL 14 (by kernel_rfl) rfl (by rfl) (fun K hK => ?_)
            go_simp
            go_at_call 15
            refine (cmp_any _ _ X X _ H12.out HX.out HL3.out HL3.out).mono ?_
            rintro e w14 ⟨rfl, hb14⟩
            have y0 := keepc hb14 hPY y0
            have y1 := keepc hb14 hPY y1
            have x0 := keepc hb14 hPX x0
            have x1 := keepc hb14 hPX x1
            have hPX := Nat.lt_of_lt_of_le hPX hb14.size
            have hPY := Nat.lt_of_lt_of_le hPY hb14.size
            have HY := Lib.hid (HY.out.call hb14)
            have HX := Lib.hid (HX.out.call hb14)
            have H11 := Lib.hid (H11.out.call hb14)
            have H12 := Lib.hid (H12.out.call hb14)
            have HB := Lib.hid (HB.out.trans (hb14.mono HB.out.size))
            clear hb14
            rw [HCX]
            clear hHeld
            refine hK.out _ _ ?hS14 (fun hHeld => ?_)
            case hS14 => ((try dsimp only); exact ⟨y0, y1, x0, x1⟩)
            clear hK K
            (try simp only [Act.put, List.setIfInBounds_toArray, List.set_cons_zero, List.set_cons_succ])
            refine takeL 15 (v := ?_) rfl (by kernel_rfl) (by kernel_rfl) (by kernel_rfl) (fun _ _ _ h => h) (by rfl) (by assumption) ?hy15 ?_
            case hy15 => (intro w hSw; (try dsimp only at hSw); go_simp; all_goals (with_reducible rfl))
            (try simp only [Act.put, List.setIfInBounds_toArray, List.set_cons_zero, List.set_cons_succ])
            refine takeL 16 (v := ?_) rfl (by kernel_rfl) (by kernel_rfl) (by kernel_rfl) (fun _ _ _ h => h) (by rfl) (by assumption) ?hy16 ?_
            case hy16 => (intro w hSw; (try dsimp only at hSw); go_simp; all_goals (with_reducible rfl))
            (try simp only [Act.put, List.setIfInBounds_toArray, List.set_cons_zero, List.set_cons_succ])
            refine takeL 17 (v := ?_) rfl (by kernel_rfl) (by kernel_rfl) (by kernel_rfl) (fun _ _ _ h => h) (by rfl) (by assumption) ?hy17 ?_
            case hy17 => (intro w hSw; (try dsimp only at hSw); go_simp; all_goals (with_reducible rfl))
            (try simp only [Act.put, List.setIfInBounds_toArray, List.set_cons_zero, List.set_cons_succ])
            refine consL 18 (by kernel_rfl) rfl (by rfl) (fun K hK => ?_)
            go_simp
            go_at_call 7
            refine (awake10_any _ (HT.out.below HB.out (Nat.le_refl _))).mono ?_
            rintro e w18 ⟨rfl, hb18⟩
            have y0 := keepc hb18 hPY y0
            have y1 := keepc hb18 hPY y1
            have x0 := keepc hb18 hPX x0
            have x1 := keepc hb18 hPX x1
            have hPX := Nat.lt_of_lt_of_le hPX hb18.size
            have hPY := Nat.lt_of_lt_of_le hPY hb18.size
            have HY := Lib.hid (HY.out.call hb18)
            have HX := Lib.hid (HX.out.call hb18)
            have H11 := Lib.hid (H11.out.call hb18)
            have H12 := Lib.hid (H12.out.call hb18)
            have HB := Lib.hid (HB.out.trans (hb18.mono HB.out.size))
            clear hb18
            clear hHeld
            refine hK.out _ _ ?hS18 (fun hHeld => ?_)
            case hS18 => ((try dsimp only); exact ⟨y0, y1, x0, x1⟩)
            clear hK K
            (try simp only [Act.put, List.setIfInBounds_toArray, List.set_cons_zero, List.set_cons_succ])
            refine takeL 19 (v := ?_) rfl (by kernel_rfl) (by kernel_rfl) (by kernel_rfl) (fun _ _ _ h => h) (by rfl) (by assumption) ?hy19 ?_
            case hy19 => (intro w hSw; (try dsimp only at hSw); go_simp; all_goals (with_reducible rfl))
            (try simp only [Act.put, List.setIfInBounds_toArray, List.set_cons_zero, List.set_cons_succ])
            refine takeL 20 (v := ?_) rfl (by kernel_rfl) (by kernel_rfl) (by kernel_rfl) (fun _ _ _ h => h) (by rfl) (by assumption) ?hy20 ?_
            case hy20 => (intro w hSw; (try dsimp only at hSw); go_simp; all_goals (with_reducible rfl))
            (try simp only [Act.put, List.setIfInBounds_toArray, List.set_cons_zero, List.set_cons_succ])
            refine wpAnyH_done (by kernel_rfl) ?_ _
            clear y0 y1 x0 x1 HX HY H11 H12 HTen hPX hPY q1 hpq hwt hHeld
            go_wp2_with fail
            go_ret
            exact ⟨rfl, HB.out⟩
          · have HY0 : Hid (-(Dc.dval d.data.toList : Int) = Y) := HYe.out.symm
            go_wp2_with fail
            obtain ⟨W4, hW⟩ : ∃ W, w3.alloc (.cells #[.bool yn, .slice ya yk yc] 29) = W := ⟨_, rfl⟩
            have hbW : Below w3.heap.size w3 W4 := hW ▸ (Below.refl _ w3).alloc (Nat.le_refl _) _
            have HYB : Hid (Bx W4 w3.heap.size (yn, ya, yk, yc) (Dc.dval d.data.toList : Int)) := ⟨hW ▸ Blk.new w3 _ _, H3.call hbW⟩
            have HXB := Lib.hid (HXB.out.call hbW)
            have HB := Lib.hid (HB.out.trans (hbW.mono HB.out.size))
            rw [hW]
            clear hW hbW H3
            obtain ⟨PY, hPYe⟩ : ∃ P, P = w3.heap.size := ⟨_, rfl⟩
            rw [← hPYe] at HYB hpx ⊢
            have hwPY : w.heap.size ≤ PY := by rw [hPYe]; exact hw3
            clear hPYe
            refine (minus_any _ _ _ HYB.out.big).mono ?_
            rintro e w5 ⟨v5, rfl, H5, hb5⟩
            rw [HY0.out] at H5
            obtain ⟨zn, za, zk, zc, rfl⟩ := H5.form
            have HYB := Lib.hid (HYB.out.call hb5)
            have HXB := Lib.hid (HXB.out.call hb5)
            have HB := Lib.hid (HB.out.trans (hb5.mono HB.out.size))
            have o0 := HYB.out.blk.cell (j := 0) rfl
            have o1 := HYB.out.blk.cell (j := 1) rfl
            have yf := HYB.out.blk.frozen
            obtain ⟨W, hW⟩ : ∃ W, (w5.setCell ⟨PY, 0, none⟩ (.bool zn)).setCell ⟨PY, 1, none⟩ (.slice za zk zc) = W := ⟨_, rfl⟩
            have HYC : Hid (Bx W PY (zn, za, zk, zc) Y) := hW ▸ ⟨put2 HYB.out.blk, H5.keep (keep_put HYB.out.blk _ _)⟩
            have HXC : Hid (Bx W PX (xn, xa, xk, xc) X) := hW ▸ HXB.out.put HYB.out (by omega) _ _
            have HBC : Hid (Below w.heap.size w W) := hW ▸ put2_below HB.out hwPY
            clear hb5 H5 HYB HXB HB
            have HB := HBC
            clear HBC
            have HX := Lib.hid HXC.out.big
            have HY := Lib.hid HYC.out.big
            have y0 := HYC.out.blk.cell (j := 0) rfl
            have y1 := HYC.out.blk.cell (j := 1) rfl
            have x0 := HXC.out.blk.cell (j := 0) rfl
            have x1 := HXC.out.blk.cell (j := 1) rfl
            have hPY := HYC.out.blk.lt
            have hPX := HXC.out.blk.lt
            clear HXC HYC
            have q1 : decide (Q ≤ p) = true := by rw [decide_eq_true_iff]; have := Hpq.out; omega
            have hpq : p - Q = (t : Int) := by have := Hpq.out; omega
            have hwt : IntKind.i64.wrap (t : Int) = (t : Int) := by rw [IntKind.wrap_i64]; omega
            have HTen := Lib.hid (fun X => ten_any (t : Int) X (by omega))
            simp only [Int.toNat_natCast] at HTen
            have HCX : cmpI X X = 0 := by unfold cmpI; simp
            go_wp2_with fail
            clear hW o0 o1 yf
            have HB := Lib.hid HB.out.drew
            have HY := Lib.hid (HY.out.call (Below.refl _ W).drew)
            have HX := Lib.hid (HX.out.call (Below.refl _ W).drew)
            refine wp_region_held_drew (S := fun w' => w'.cell? ⟨PY, 0, none⟩ = some (.bool zn) ∧ w'.cell? ⟨PY, 1, none⟩ = some (.slice za zk zc) ∧ w'.cell? ⟨PX, 0, none⟩ = some (.bool xn) ∧ w'.cell? ⟨PX, 1, none⟩ = some (.slice xa xk xc)) (by kernel_rfl) ⟨y0, y1, x0, x1⟩ (fun hHeld => ?_)
            refine takeL 0 (v := ?_) rfl (by kernel_rfl) (by kernel_rfl) (by kernel_rfl) (fun _ _ _ h => h) (by rfl) (by assumption) ?hy0 ?_
            case hy0 => (intro w hSw; (try dsimp only at hSw); go_simp; all_goals (with_reducible rfl))
            (try simp only [Act.put, List.setIfInBounds_toArray, List.set_cons_zero, List.set_cons_succ])
            refine takeL 1 (v := ?_) rfl (by kernel_rfl) (by kernel_rfl) (by kernel_rfl) (fun _ _ _ h => h) (by rfl) (by assumption) ?hy1 ?_
            case hy1 => (intro w hSw; (try dsimp only at hSw); go_simp; all_goals (with_reducible rfl))
            (try simp only [Act.put, List.setIfInBounds_toArray, List.set_cons_zero, List.set_cons_succ])
            refine takeL 2 (v := ?_) rfl (by kernel_rfl) (by kernel_rfl) (by kernel_rfl) (fun _ _ _ h => h) (by rfl) (by assumption) ?hy2 ?_
            case hy2 => (intro w hSw; (try dsimp only at hSw); go_simp; all_goals (with_reducible rfl))
            (try simp only [Act.put, List.setIfInBounds_toArray, List.set_cons_zero, List.set_cons_succ])
            refine takeL 3 (v := ?_) rfl (by kernel_rfl) (by kernel_rfl) (by kernel_rfl) (fun _ _ _ h => h) (by rfl) (by assumption) ?hy3 ?_
            case hy3 => (intro w hSw; (try dsimp only at hSw); go_simp; all_goals (with_reducible rfl))
            (try simp only [Act.put, List.setIfInBounds_toArray, List.set_cons_zero, List.set_cons_succ])
            refine takeL 4 (v := ?_) rfl (by kernel_rfl) (by kernel_rfl) (by kernel_rfl) (fun _ _ _ h => h) (by rfl) (by assumption) ?hy4 ?_
            case hy4 => (intro w hSw; (try dsimp only at hSw); go_simp; all_goals (with_reducible rfl))
            (try simp only [Act.put, List.setIfInBounds_toArray, List.set_cons_zero, List.set_cons_succ])
            refine takeL 5 (v := ?_) rfl (by kernel_rfl) (by kernel_rfl) (by kernel_rfl) (fun _ _ _ h => h) (by rfl) (by assumption) ?hy5 ?_
            case hy5 => (intro w hSw; (try dsimp only at hSw); go_simp; all_goals (with_reducible rfl))
            (try simp only [Act.put, List.setIfInBounds_toArray, List.set_cons_zero, List.set_cons_succ])
            refine takeL 6 (v := ?_) rfl (by kernel_rfl) (by kernel_rfl) (by kernel_rfl) (fun _ _ _ h => h) (by rfl) (by assumption) ?hy6 ?_
            case hy6 => (intro w hSw; (try dsimp only at hSw); go_simp; all_goals (with_reducible rfl))
            (try simp only [Act.put, List.setIfInBounds_toArray, List.set_cons_zero, List.set_cons_succ])
            refine takeL 7 (v := ?_) rfl (by kernel_rfl) (by kernel_rfl) (by kernel_rfl) (fun _ _ _ h => h) (by rfl) (by assumption) ?hy7 ?_
            case hy7 => (intro w hSw; (try dsimp only at hSw); go_simp; all_goals (with_reducible rfl))
            (try simp only [Act.put, List.setIfInBounds_toArray, List.set_cons_zero, List.set_cons_succ])
            refine takeL 8 (v := ?_) rfl (by kernel_rfl) (by kernel_rfl) (by kernel_rfl) (fun _ _ _ h => h) (by rfl) (by assumption) ?hy8 ?_
            case hy8 => (intro w hSw; (try dsimp only at hSw); go_simp; all_goals (with_reducible rfl))
            (try simp only [Act.put, List.setIfInBounds_toArray, List.set_cons_zero, List.set_cons_succ])
            refine takeL 9 (v := ?_) rfl (by kernel_rfl) (by kernel_rfl) (by kernel_rfl) (fun _ _ _ h => h) (by rfl) (by assumption) ?hy9 ?_
            case hy9 => (intro w hSw; (try dsimp only at hSw); go_simp; all_goals (with_reducible rfl))
            (try simp only [Act.put, List.setIfInBounds_toArray, List.set_cons_zero, List.set_cons_succ])
            refine takeL 10 (v := ?_) rfl (by kernel_rfl) (by kernel_rfl) (by kernel_rfl) (fun _ _ _ h => h) (by rfl) (by assumption) ?hy10 ?_
            case hy10 => (intro w hSw; (try dsimp only at hSw); go_simp; all_goals (with_reducible rfl))
            (try simp only [Act.put, List.setIfInBounds_toArray, List.set_cons_zero, List.set_cons_succ])
            refine takeL 13 (v := ?_) rfl (by kernel_rfl) (by kernel_rfl) (by kernel_rfl) (fun _ _ _ h => h) (by rfl) (by assumption) ?hy13 ?_
            case hy13 => (intro w hSw; (try dsimp only at hSw); go_simp; all_goals (with_reducible rfl))
            (try simp only [Act.put, List.setIfInBounds_toArray, List.set_cons_zero, List.set_cons_succ])
            refine consL 11 (by kernel_rfl) rfl (by rfl) (fun K hK => ?_)
            go_simp
            go_at_call 14
            refine (HTen.out _).mono ?_
            rintro e w11 ⟨v11, rfl, H11, hb11⟩
            have y0 := keepc hb11 hPY y0
            have y1 := keepc hb11 hPY y1
            have x0 := keepc hb11 hPX x0
            have x1 := keepc hb11 hPX x1
            have hPX := Nat.lt_of_lt_of_le hPX hb11.size
            have hPY := Nat.lt_of_lt_of_le hPY hb11.size
            have HY := Lib.hid (HY.out.call hb11)
            have HX := Lib.hid (HX.out.call hb11)
            have HB := Lib.hid (HB.out.trans (hb11.mono HB.out.size))
            clear hb11
            have H11 := Lib.hid H11
            clear hHeld
            refine hK.out _ _ ?hS11 (fun hHeld => ?_)
            case hS11 => ((try dsimp only); exact ⟨y0, y1, x0, x1⟩)
            clear hK K
            (try simp only [Act.put, List.setIfInBounds_toArray, List.set_cons_zero, List.set_cons_succ])
            refine consL 12 (by kernel_rfl) rfl (by rfl) (fun K hK => ?_)
            go_simp
            go_at_call 13
            refine (mul_any _ _ Y (10 ^ t) _ HY.out H11.out HL1.out HL2.out).mono ?_
            rintro e w12 ⟨v12, rfl, H12, hb12⟩
            have y0 := keepc hb12 hPY y0
            have y1 := keepc hb12 hPY y1
            have x0 := keepc hb12 hPX x0
            have x1 := keepc hb12 hPX x1
            have hPX := Nat.lt_of_lt_of_le hPX hb12.size
            have hPY := Nat.lt_of_lt_of_le hPY hb12.size
            have HY := Lib.hid (HY.out.call hb12)
            have HX := Lib.hid (HX.out.call hb12)
            have H11 := Lib.hid (H11.out.call hb12)
            have HB := Lib.hid (HB.out.trans (hb12.mono HB.out.size))
            clear hb12
            rw [HYX.out] at H12
            have H12 := Lib.hid H12
            clear hHeld
            refine hK.out _ _ ?hS12 (fun hHeld => ?_)
            case hS12 => ((try dsimp only); exact ⟨y0, y1, x0, x1⟩)
            clear hK K
            (try simp only [Act.put, List.setIfInBounds_toArray, List.set_cons_zero, List.set_cons_succ])
            refine consL 14 (by kernel_rfl) rfl (by rfl) (fun K hK => ?_)
            go_simp
            go_at_call 15
            refine (cmp_any _ _ X X _ H12.out HX.out HL3.out HL3.out).mono ?_
            rintro e w14 ⟨rfl, hb14⟩
            have y0 := keepc hb14 hPY y0
            have y1 := keepc hb14 hPY y1
            have x0 := keepc hb14 hPX x0
            have x1 := keepc hb14 hPX x1
            have hPX := Nat.lt_of_lt_of_le hPX hb14.size
            have hPY := Nat.lt_of_lt_of_le hPY hb14.size
            have HY := Lib.hid (HY.out.call hb14)
            have HX := Lib.hid (HX.out.call hb14)
            have H11 := Lib.hid (H11.out.call hb14)
            have H12 := Lib.hid (H12.out.call hb14)
            have HB := Lib.hid (HB.out.trans (hb14.mono HB.out.size))
            clear hb14
            rw [HCX]
            clear hHeld
            refine hK.out _ _ ?hS14 (fun hHeld => ?_)
            case hS14 => ((try dsimp only); exact ⟨y0, y1, x0, x1⟩)
            clear hK K
            (try simp only [Act.put, List.setIfInBounds_toArray, List.set_cons_zero, List.set_cons_succ])
            refine takeL 15 (v := ?_) rfl (by kernel_rfl) (by kernel_rfl) (by kernel_rfl) (fun _ _ _ h => h) (by rfl) (by assumption) ?hy15 ?_
            case hy15 => (intro w hSw; (try dsimp only at hSw); go_simp; all_goals (with_reducible rfl))
            (try simp only [Act.put, List.setIfInBounds_toArray, List.set_cons_zero, List.set_cons_succ])
            refine takeL 16 (v := ?_) rfl (by kernel_rfl) (by kernel_rfl) (by kernel_rfl) (fun _ _ _ h => h) (by rfl) (by assumption) ?hy16 ?_
            case hy16 => (intro w hSw; (try dsimp only at hSw); go_simp; all_goals (with_reducible rfl))
            (try simp only [Act.put, List.setIfInBounds_toArray, List.set_cons_zero, List.set_cons_succ])
            refine takeL 17 (v := ?_) rfl (by kernel_rfl) (by kernel_rfl) (by kernel_rfl) (fun _ _ _ h => h) (by rfl) (by assumption) ?hy17 ?_
            case hy17 => (intro w hSw; (try dsimp only at hSw); go_simp; all_goals (with_reducible rfl))
            (try simp only [Act.put, List.setIfInBounds_toArray, List.set_cons_zero, List.set_cons_succ])
            refine consL 18 (by kernel_rfl) rfl (by rfl) (fun K hK => ?_)
            go_simp
            go_at_call 7
            refine (awake10_any _ (HT.out.below HB.out (Nat.le_refl _))).mono ?_
            rintro e w18 ⟨rfl, hb18⟩
            have y0 := keepc hb18 hPY y0
            have y1 := keepc hb18 hPY y1
            have x0 := keepc hb18 hPX x0
            have x1 := keepc hb18 hPX x1
            have hPX := Nat.lt_of_lt_of_le hPX hb18.size
            have hPY := Nat.lt_of_lt_of_le hPY hb18.size
            have HY := Lib.hid (HY.out.call hb18)
            have HX := Lib.hid (HX.out.call hb18)
            have H11 := Lib.hid (H11.out.call hb18)
            have H12 := Lib.hid (H12.out.call hb18)
            have HB := Lib.hid (HB.out.trans (hb18.mono HB.out.size))
            clear hb18
            clear hHeld
            refine hK.out _ _ ?hS18 (fun hHeld => ?_)
            case hS18 => ((try dsimp only); exact ⟨y0, y1, x0, x1⟩)
            clear hK K
            (try simp only [Act.put, List.setIfInBounds_toArray, List.set_cons_zero, List.set_cons_succ])
            refine takeL 19 (v := ?_) rfl (by kernel_rfl) (by kernel_rfl) (by kernel_rfl) (fun _ _ _ h => h) (by rfl) (by assumption) ?hy19 ?_
            case hy19 => (intro w hSw; (try dsimp only at hSw); go_simp; all_goals (with_reducible rfl))
            (try simp only [Act.put, List.setIfInBounds_toArray, List.set_cons_zero, List.set_cons_succ])
            refine takeL 20 (v := ?_) rfl (by kernel_rfl) (by kernel_rfl) (by kernel_rfl) (fun _ _ _ h => h) (by rfl) (by assumption) ?hy20 ?_
            case hy20 => (intro w hSw; (try dsimp only at hSw); go_simp; all_goals (with_reducible rfl))
            (try simp only [Act.put, List.setIfInBounds_toArray, List.set_cons_zero, List.set_cons_succ])
            refine wpAnyH_done (by kernel_rfl) ?_ _
            clear y0 y1 x0 x1 HX HY H11 H12 HTen hPX hPY q1 hpq hwt hHeld
            go_wp2_with fail
            go_ret
            exact ⟨rfl, HB.out⟩
end Go.Proofs.YtkhpfdgkmnifcaaDoor
