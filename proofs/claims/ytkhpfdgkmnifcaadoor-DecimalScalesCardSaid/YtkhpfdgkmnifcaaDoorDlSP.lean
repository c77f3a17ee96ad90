/- gromalaw10.DecimalScales, walked, power from 0 on. Printed by wip/gends.py. -/
import Derived.Test.YtkhpfdgkmnifcaaDoorDcAw
import Derived.Test.YtkhpfdgkmnifcaaDoorRefR
import Derived.Test.YtkhpfdgkmnifcaaDoorNum
import Derived.Test.YtkhpfdgkmnifcaaDoorDlP
import Derived.Test.YtkhpfdgkmnifcaaDoorTkG
set_option linter.unusedVariables false
set_option linter.unusedSimpArgs false
namespace Go.Proofs.YtkhpfdgkmnifcaaDoor
open Go.RowKit Go.Rg Go.Lib Bg
attribute [local go_sem] Oper.semAt_some

set_option maxRecDepth 100000 in
set_option maxHeartbeats 8000000 in
theorem scalePA (s : ByteArray) (f : Nat) (hf : f ≤ 9) (w : World) (ht : Tabs w) (sg a dt bb ex sp q : List UInt8) (hp : Dc.Parts s.data.toList sg a dt bb ex sp q) (hpl : Dc.plainP s.data.toList = true) (z : Int) (hz : z = Dc.numE bb sp q + f) (hz0 : 0 ≤ z) (X : Int) (Y : Nat) (hX : X = Dc.numV sg a bb * 10 ^ z.toNat) (hY : Y = 1)
    (n : Int) (hsc : Dc.scaleP s.data.toList f = (n, 0)) (hn1 : -1099511627775 ≤ n) (hn2 : n ≤ 1099511627775) (hnx : n * (Y : Int) = X) :
    Calls Tryd.prog 3 #[.string s, .int .i64 f] w fun e w' => e = .returned (.bool true) ∧ Below w.heap.size w w' := by
  have HT := Lib.hid ht
  have HR : Hid (Lx.right s.data.toList = true) := Dc.right_of_parts _ _ _ _ _ _ _ _ hp
  have HPP := Lib.hid hpl
  obtain ⟨hl60, hq2⟩ := Dc.plain_of hp hpl
  have hs60 : s.size ≤ 60 := by rw [Lib.size_eq]; exact hl60
  have HN := Lib.hid (fun X => number_any s X sg a dt bb ex sp q hp (by omega) (by omega))
  have hab : (a ++ bb).length ≤ 60 := by
    have e := congrArg List.length hp.eq
    simp only [List.length_append] at e ⊢
    omega
  have hbl : bb.length ≤ 60 := by rw [List.length_append] at hab; omega
  have hV60 : (Dc.numV sg a bb).natAbs < 10 ^ 60 := by
    rw [Dc.numV_abs]
    exact Nat.lt_of_lt_of_le (Dc.dval_lt _ hp.all) (Nat.pow_le_pow_right (by decide) hab)
  have hqv := Dc.dval_two hq2 hp.q_all
  have hzr : -160 ≤ z ∧ z ≤ 110 := by
    rw [hz]; unfold Dc.numE
    split <;> omega
  have hlim : 2 * (1099511627775 * 10 ^ 170) < lim := by unfold lim; decide +kernel
  obtain ⟨V, hV⟩ : ∃ V, V = Dc.numV sg a bb := ⟨_, rfl⟩
  rw [← hV] at HN hV60 hX
  obtain ⟨j, rfl⟩ : ∃ j : Nat, z = j := ⟨z.toNat, by omega⟩
  rw [Int.toNat_natCast] at hX
  have hXl : X.natAbs < 10 ^ 170 := by
    rw [hX, Int.natAbs_mul, Int.natAbs_pow]
    have h1 : Int.natAbs 10 ^ j ≤ 10 ^ 110 := Nat.pow_le_pow_right (by decide) (by omega)
    have h2 : V.natAbs * Int.natAbs 10 ^ j ≤ V.natAbs * 10 ^ 110 := Nat.mul_le_mul_left _ h1
    have h3 : V.natAbs * 10 ^ 110 < 10 ^ 60 * 10 ^ 110 := Nat.mul_lt_mul_of_pos_right hV60 (Nat.pow_pos (by decide))
    rw [← Nat.pow_add] at h3
    exact Nat.lt_of_le_of_lt h2 h3
  have hYl : Y ≤ 10 ^ 170 := by rw [hY]; exact Nat.one_le_pow _ _ (by decide)
  have hY1 : 0 < Y := by rw [hY]; decide
  have HTen := Lib.hid (fun X => ten_any (j : Int) X (by omega))
  simp only [Int.toNat_natCast] at HTen
  generalize (10 ^ 170 : Nat) = T at hXl hYl hlim
  have HLX2 : Hid (2 * X.natAbs < lim) := by unfold Hid; omega
  have HLX : Hid (X.natAbs < lim) := by unfold Hid; omega
  have HLY : Hid (((Y : Nat) : Int).natAbs < lim) := by unfold Hid; rw [Int.natAbs_natCast]; omega
  have HLM : Hid ((1099511627775 * (Y : Int)).natAbs < lim) := by unfold Hid; rw [Int.natAbs_mul, Int.natAbs_natCast]; show 1099511627775 * Y < lim; omega
  have HLV : Hid (V.natAbs < lim) := Nat.lt_trans hV60 (by unfold lim; decide +kernel)
  have HLj : Hid (((10 : Int) ^ j).natAbs < lim) := lim_ten j (by omega)
  have HY0 : Hid (0 < (Y : Int)) := by unfold Hid; omega
  obtain ⟨Q, hQ⟩ : ∃ Q, Q = Dc.numE bb sp q := ⟨_, rfl⟩
  rw [← hQ] at HN hz
  have hQf : Q + (f : Int) = (j : Int) := by omega
  have hQr : -200 ≤ Q ∧ Q ≤ 200 := by omega
  obtain ⟨hQ1, hQ2⟩ := hQr
  have hf0 : ¬ ((f : Int) < 0) := by omega
  have hf9 : ¬ ((f : Int) > 9) := by omega
  have HXe := Lib.hid hX
  have HYe := Lib.hid hY
  have HSc := Lib.hid hsc
  have Hn1 := Lib.hid hn1
  have Hn2 := Lib.hid hn2
  have Hnx := Lib.hid hnx
  clear hn1 hn2 hnx
  clear ht hp hpl hl60 hq2 hab hbl hV60 hqv hlim hXl hYl hY1 hV hX hY hQ hsc hz
  go_enter Tryd.func3, Tryd.ntmps3
  go_wp2_with fail
  refine (scale_any s (f : Int) w HT.out (by omega) (by omega) (by omega)).mono ?_
  rintro e w1 ⟨he, hb1⟩
  rw [HSc.out] at he
  subst he
  have HB := Lib.hid hb1
  clear hb1
  go_wp2_with fail
  refine (rright_any s w1 (by unfold maxLen; omega)).mono ?_
  rintro e w' ⟨rfl, rfl⟩
  rw [HR.out]
  go_wp2_with fail
  refine (plain_any s w1 (by omega)).mono ?_
  rintro e w' ⟨rfl, rfl⟩
  rw [HPP.out]
  go_wp2_with fail
  refine (HN.out w1).mono ?_
  rintro e w2 ⟨v2, rfl, H2, hb2⟩
  obtain ⟨un, ua, uk, uc, rfl⟩ := H2.form
  have HB := Lib.hid (HB.out.trans (hb2.mono HB.out.size))
  clear hb2 HN
  go_wp2_with fail
  obtain ⟨W2, hW⟩ : ∃ W, w2.alloc (.cells #[.bool un, .slice ua uk uc] 29) = W := ⟨_, rfl⟩
  have hbW : Below w2.heap.size w2 W2 := hW ▸ (Below.refl _ w2).alloc (Nat.le_refl _) _
  obtain ⟨PX, hPXe⟩ : ∃ P, P = w2.heap.size := ⟨_, rfl⟩
  have HXB : Hid (Bx W2 PX (un, ua, uk, uc) V) := hPXe ▸ ⟨hW ▸ Blk.new w2 _ _, H2.call hbW⟩
  have hwx : w.heap.size ≤ PX := by rw [hPXe]; exact HB.out.size
  have HB := Lib.hid (HB.out.trans (hbW.mono HB.out.size))
  rw [hW, ← hPXe]
  clear hW hbW H2 hPXe
  refine (of_any 1 W2 (by decide) (by decide)).mono ?_
  rintro e w3 ⟨v3, rfl, H3, hb3⟩
  obtain ⟨yn, ya, yk, yc, rfl⟩ := H3.form
  have HXB := Lib.hid (HXB.out.call hb3)
  have HB := Lib.hid (HB.out.trans (hb3.mono HB.out.size))
  clear hb3
  go_wp2_with fail
  obtain ⟨W4, hW⟩ : ∃ W, w3.alloc (.cells #[.bool yn, .slice ya yk yc] 29) = W := ⟨_, rfl⟩
  have hbW : Below w3.heap.size w3 W4 := hW ▸ (Below.refl _ w3).alloc (Nat.le_refl _) _
  obtain ⟨PY, hPYe⟩ : ∃ P, P = w3.heap.size := ⟨_, rfl⟩
  have HYB : Hid (Bx W4 PY (yn, ya, yk, yc) 1) := hPYe ▸ ⟨hW ▸ Blk.new w3 _ _, H3.call hbW⟩
  have hxy : PX < PY := by rw [hPYe]; exact HXB.out.blk.lt
  have hwy : w.heap.size ≤ PY := by rw [hPYe]; exact HB.out.size
  have HXB := Lib.hid (HXB.out.call hbW)
  have HB := Lib.hid (HB.out.trans (hbW.mono HB.out.size))
  rw [hW, ← hPYe]
  clear hW hbW H3 hPYe
  have u0 := HXB.out.blk.cell (j := 0) rfl
  have u1 := HXB.out.blk.cell (j := 1) rfl
  have hPU := HXB.out.blk.lt
  have hwj : IntKind.i64.wrap (j : Int) = (j : Int) := by rw [IntKind.wrap_i64]; omega
  have HY1 : Hid ((1 : Int) = (Y : Int)) := by unfold Hid; rw [HYe.out]; rfl
  rw [HY1.out] at HYB
  have HB := Lib.hid HB.out.drew
  have HXB := Lib.hid (HXB.out.call (Below.refl _ W4).drew)
  have HYB := Lib.hid (HYB.out.call (Below.refl _ W4).drew)
  refine heldG_go (S := fun w' => w'.cell? ⟨PX, 0, none⟩ = some (.bool un) ∧ w'.cell? ⟨PX, 1, none⟩ = some (.slice ua uk uc)) (late := fun j => j == 6) (by kernel_rfl) ⟨u0, u1⟩ (fun hHeld => ?_)
  refine takeG 0 (v := ?_) [0, 5, 6] rfl (by kernel_rfl) (by kernel_rfl) (by kernel_rfl) (by kernel_rfl) (by kernel_rfl) (fun _ _ _ h => h) (by rfl) (by assumption) ?hy0 ?_
  case hy0 => (intro w hSw; (try dsimp only at hSw); go_simp; all_goals (with_reducible rfl))
  (try simp only [Act.put, List.setIfInBounds_toArray, List.set_cons_zero, List.set_cons_succ])
  refine takeG 1 (v := ?_) [1, 3, 4, 5, 6] rfl (by kernel_rfl) (by kernel_rfl) (by kernel_rfl) (by kernel_rfl) (by kernel_rfl) (fun _ _ _ h => h) (by rfl) (by assumption) ?hy1 ?_
  case hy1 => (intro w hSw; (try dsimp only at hSw); go_simp; all_goals (with_reducible rfl))
  (try simp only [Act.put, List.setIfInBounds_toArray, List.set_cons_zero, List.set_cons_succ])
  refine takeG 2 (v := ?_) [2, 3, 4, 5, 6] rfl (by kernel_rfl) (by kernel_rfl) (by kernel_rfl) (by kernel_rfl) (by kernel_rfl) (fun _ _ _ h => h) (by rfl) (by assumption) ?hy2 ?_
  case hy2 => (intro w hSw; (try dsimp only at hSw); go_simp; all_goals (with_reducible rfl))
  (try simp only [Act.put, List.setIfInBounds_toArray, List.set_cons_zero, List.set_cons_succ])
  refine takeG 3 (v := ?_) [3, 4, 5, 6] rfl (by kernel_rfl) (by kernel_rfl) (by kernel_rfl) (by kernel_rfl) (by kernel_rfl) (fun _ _ _ h => h) (by rfl) (by assumption) ?hy3 ?_
  case hy3 => (intro w hSw; (try dsimp only at hSw); go_simp; all_goals (with_reducible rfl))
  (try simp only [Act.put, List.setIfInBounds_toArray, List.set_cons_zero, List.set_cons_succ])
  refine consG 4 (by kernel_rfl) rfl (by rfl) (fun K hK => ?_)
  go_simp
  go_at_call 14
  refine (HTen.out _).mono ?_
  rintro e w4 ⟨v4, rfl, H4, hb4⟩
  have u0 := keepc hb4 hPU u0
  have u1 := keepc hb4 hPU u1
  have hPU := Nat.lt_of_lt_of_le hPU hb4.size
  have HXB := Lib.hid (HXB.out.call hb4)
  have HYB := Lib.hid (HYB.out.call hb4)
  have HB := Lib.hid (HB.out.trans (hb4.mono HB.out.size))
  clear hb4
  have H4 := Lib.hid H4
  clear hHeld
  refine hK.out _ _ ?hS4 (fun hHeld => ?_)
  case hS4 => (intro _; (try dsimp only); exact ⟨u0, u1⟩)
  have hHeld := hHeld rfl
  clear hK K
  (try simp only [Act.put, List.setIfInBounds_toArray, List.set_cons_zero, List.set_cons_succ])
  refine consG 5 (by kernel_rfl) rfl (by rfl) (fun K hK => ?_)
  go_simp
  go_at_call 13
  refine (mul_any _ _ V (10 ^ j) _ HXB.out.big H4.out HLV.out HLj.out).mono ?_
  rintro e w5 ⟨v5, rfl, H5, hb5⟩
  have u0 := keepc hb5 hPU u0
  have u1 := keepc hb5 hPU u1
  have hPU := Nat.lt_of_lt_of_le hPU hb5.size
  have HXB := Lib.hid (HXB.out.call hb5)
  have HYB := Lib.hid (HYB.out.call hb5)
  have H4 := Lib.hid (H4.out.call hb5)
  have HB := Lib.hid (HB.out.trans (hb5.mono HB.out.size))
  clear hb5
  rw [← HXe.out] at H5
  obtain ⟨xn, xa, xk, xc, rfl⟩ := H5.form
  have uf := HXB.out.blk.frozen
  clear hHeld
  refine hK.out _ _ ?hS5 (fun hHeld => ?_)
  case hS5 => (intro _; (try dsimp only); exact ⟨u0, u1⟩)
  have hHeld := hHeld rfl
  clear hK K
  (try simp only [Act.put, List.setIfInBounds_toArray, List.set_cons_zero, List.set_cons_succ])
  refine consG 6 (by kernel_rfl) rfl (by rfl) (fun K hK => ?_)
  go_simp
  clear hHeld
  refine hK.out _ _ (fun h => by cases h) (fun hHeld => ?_)
  clear hK K
  (try simp only [Act.put, List.setIfInBounds_toArray, List.set_cons_zero, List.set_cons_succ])
  refine wpAnyG_done (by kernel_rfl) ?_ _
  obtain ⟨W, hW⟩ : ∃ W, (w5.setCell ⟨PX, 0, none⟩ (.bool xn)).setCell ⟨PX, 1, none⟩ (.slice xa xk xc) = W := ⟨_, rfl⟩
  have HX : Hid (Bx W PX (xn, xa, xk, xc) X) := hW ▸ ⟨put2 HXB.out.blk, H5.keep (keep_put HXB.out.blk _ _)⟩
  have HY : Hid (Bx W PY (yn, ya, yk, yc) (Y : Int)) := hW ▸ HYB.out.put HXB.out (by omega) _ _
  have HBC : Hid (Below w.heap.size w W) := hW ▸ put2_below HB.out hwx
  rw [hW]
  clear hW H4 H5 HXB HYB HB u0 u1 uf hPU hwj hHeld HTen
  have HB := HBC
  clear HBC
  have x0 := HX.out.blk.cell (j := 0) rfl
  have x1 := HX.out.blk.cell (j := 1) rfl
  have y0 := HY.out.blk.cell (j := 0) rfl
  have y1 := HY.out.blk.cell (j := 1) rfl
  have hPX := HX.out.blk.lt
  have hPY := HY.out.blk.lt
  have HLn : Hid (n.natAbs < lim) := lim_small _ (by have := Hn1.out; have := Hn2.out; omega)
  have HCX : cmpI X X = 0 := by unfold cmpI; simp
  have q1 : decide (-1099511627775 ≤ n) = true := by rw [decide_eq_true_iff]; exact Hn1.out
  have q2 : decide (n ≤ 1099511627775) = true := by rw [decide_eq_true_iff]; exact Hn2.out
  go_wp2_with fail
  have HB := Lib.hid HB.out.drew
  have HX := Lib.hid (HX.out.call (Below.refl _ W).drew)
  have HY := Lib.hid (HY.out.call (Below.refl _ W).drew)
  refine wp_region_held_drew (S := fun w' => w'.cell? ⟨PY, 0, none⟩ = some (.bool yn) ∧ w'.cell? ⟨PY, 1, none⟩ = some (.slice ya yk yc) ∧ w'.cell? ⟨PX, 0, none⟩ = some (.bool xn) ∧ w'.cell? ⟨PX, 1, none⟩ = some (.slice xa xk xc)) (by kernel_rfl) ⟨y0, y1, x0, x1⟩ (fun hHeld => ?_)
  refine takeL 0 (v := ?_) rfl (by kernel_rfl) (by kernel_rfl) (by kernel_rfl) (fun _ _ _ h => h) (by rfl) (by assumption) ?hy0 ?_
  case hy0 => (intro w hSw; (try dsimp only at hSw); go_simp; all_goals (with_reducible rfl))
  (try simp only [Act.put, List.setIfInBounds_toArray, List.set_cons_zero, List.set_cons_succ])
  refine takeL 1 (v := ?_) rfl (by kernel_rfl) (by kernel_rfl) (by kernel_rfl) (fun _ _ _ h => h) (by rfl) (by assumption) ?hy1 ?_
  case hy1 => (intro w hSw; (try dsimp only at hSw); go_simp; all_goals (with_reducible rfl))
  (try simp only [Act.put, List.setIfInBounds_toArray, List.set_cons_zero, List.set_cons_succ])
  refine takeL 2 (v := ?_) rfl (by kernel_rfl) (by kernel_rfl) (by kernel_rfl) (fun _ _ _ h => h) (by rfl) (by assumption) ?hy2 ?_
  case hy2 => (intro w hSw; (try dsimp only at hSw); go_simp; all_goals (with_reducible rfl))
  (try simp only [Act.put, List.setIfInBounds_toArray, List.set_cons_zero, List.set_cons_succ])
  refine takeL 3 (v := ?_) rfl (by kernel_rfl) (by kernel_rfl) (by kernel_rfl) (fun _ _ _ h => h) (by rfl) (by assumption) ?hy3 ?_
  case hy3 => (intro w hSw; (try dsimp only at hSw); go_simp; all_goals (with_reducible rfl))
  (try simp only [Act.put, List.setIfInBounds_toArray, List.set_cons_zero, List.set_cons_succ])
  refine takeL 4 (v := ?_) rfl (by kernel_rfl) (by kernel_rfl) (by kernel_rfl) (fun _ _ _ h => h) (by rfl) (by assumption) ?hy4 ?_
  case hy4 => (intro w hSw; (try dsimp only at hSw); go_simp; all_goals (with_reducible rfl))
  (try simp only [Act.put, List.setIfInBounds_toArray, List.set_cons_zero, List.set_cons_succ])
  refine takeL 5 (v := ?_) rfl (by kernel_rfl) (by kernel_rfl) (by kernel_rfl) (fun _ _ _ h => h) (by rfl) (by assumption) ?hy5 ?_
  case hy5 => (intro w hSw; (try dsimp only at hSw); go_simp; all_goals (with_reducible rfl))
  (try simp only [Act.put, List.setIfInBounds_toArray, List.set_cons_zero, List.set_cons_succ])
  refine takeL 6 (v := ?_) rfl (by kernel_rfl) (by kernel_rfl) (by kernel_rfl) (fun _ _ _ h => h) (by rfl) (by assumption) ?hy6 ?_
  case hy6 => (intro w hSw; (try dsimp only at hSw); go_simp; all_goals (with_reducible rfl))
  (try simp only [Act.put, List.setIfInBounds_toArray, List.set_cons_zero, List.set_cons_succ])
  refine takeL 7 (v := ?_) rfl (by kernel_rfl) (by kernel_rfl) (by kernel_rfl) (fun _ _ _ h => h) (by rfl) (by assumption) ?hy7 ?_
  case hy7 => (intro w hSw; (try dsimp only at hSw); go_simp; all_goals (with_reducible rfl))
  (try simp only [Act.put, List.setIfInBounds_toArray, List.set_cons_zero, List.set_cons_succ])
  refine takeL 9 (v := ?_) rfl (by kernel_rfl) (by kernel_rfl) (by kernel_rfl) (fun _ _ _ h => h) (by rfl) (by assumption) ?hy9 ?_
  case hy9 => (intro w hSw; (try dsimp only at hSw); go_simp; all_goals (with_reducible rfl))
  (try simp only [Act.put, List.setIfInBounds_toArray, List.set_cons_zero, List.set_cons_succ])
  refine takeL 11 (v := ?_) rfl (by kernel_rfl) (by kernel_rfl) (by kernel_rfl) (fun _ _ _ h => h) (by rfl) (by assumption) ?hy11 ?_
  case hy11 => (intro w hSw; (try dsimp only at hSw); go_simp; all_goals (with_reducible rfl))
  (try simp only [Act.put, List.setIfInBounds_toArray, List.set_cons_zero, List.set_cons_succ])
  refine consL 8 (by kernel_rfl) rfl (by rfl) (fun K hK => ?_)
  go_simp
  go_at_call 12
  refine (of_any n _ (by have := Hn1.out; omega) (by have := Hn2.out; omega)).mono ?_
  rintro e w8 ⟨v8, rfl, H8, hb8⟩
  have y0 := keepc hb8 hPY y0
  have y1 := keepc hb8 hPY y1
  have x0 := keepc hb8 hPX x0
  have x1 := keepc hb8 hPX x1
  have hPX := Nat.lt_of_lt_of_le hPX hb8.size
  have hPY := Nat.lt_of_lt_of_le hPY hb8.size
  have HX := Lib.hid (HX.out.call hb8)
  have HY := Lib.hid (HY.out.call hb8)
  have HB := Lib.hid (HB.out.trans (hb8.mono HB.out.size))
  clear hb8
  have H8 := Lib.hid H8
  clear hHeld
  refine hK.out _ _ ?hS8 (fun hHeld => ?_)
  case hS8 => ((try dsimp only); exact ⟨y0, y1, x0, x1⟩)
  clear hK K
  (try simp only [Act.put, List.setIfInBounds_toArray, List.set_cons_zero, List.set_cons_succ])
  refine consL 10 (by kernel_rfl) rfl (by rfl) (fun K hK => ?_)
  go_simp
  go_at_call 13
  refine (mul_any _ _ n (Y : Int) _ H8.out HY.out.big HLn.out HLY.out).mono ?_
  rintro e w10 ⟨v10, rfl, H10, hb10⟩
  have y0 := keepc hb10 hPY y0
  have y1 := keepc hb10 hPY y1
  have x0 := keepc hb10 hPX x0
  have x1 := keepc hb10 hPX x1
  have hPX := Nat.lt_of_lt_of_le hPX hb10.size
  have hPY := Nat.lt_of_lt_of_le hPY hb10.size
  have HX := Lib.hid (HX.out.call hb10)
  have HY := Lib.hid (HY.out.call hb10)
  have H8 := Lib.hid (H8.out.call hb10)
  have HB := Lib.hid (HB.out.trans (hb10.mono HB.out.size))
  clear hb10
  rw [Hnx.out] at H10
  have H10 := Lib.hid H10
  clear hHeld
  refine hK.out _ _ ?hS10 (fun hHeld => ?_)
  case hS10 => ((try dsimp only); exact ⟨y0, y1, x0, x1⟩)
  clear hK K
  (try simp only [Act.put, List.setIfInBounds_toArray, List.set_cons_zero, List.set_cons_succ])
  refine consL 12 (by kernel_rfl) rfl (by rfl) (fun K hK => ?_)
  go_simp
  go_at_call 15
  refine (cmp_any _ _ X X _ H10.out HX.out.big HLX.out HLX.out).mono ?_
  rintro e w12 ⟨rfl, hb12⟩
  have y0 := keepc hb12 hPY y0
  have y1 := keepc hb12 hPY y1
  have x0 := keepc hb12 hPX x0
  have x1 := keepc hb12 hPX x1
  have hPX := Nat.lt_of_lt_of_le hPX hb12.size
  have hPY := Nat.lt_of_lt_of_le hPY hb12.size
  have HX := Lib.hid (HX.out.call hb12)
  have HY := Lib.hid (HY.out.call hb12)
  have H8 := Lib.hid (H8.out.call hb12)
  have H10 := Lib.hid (H10.out.call hb12)
  have HB := Lib.hid (HB.out.trans (hb12.mono HB.out.size))
  clear hb12
  rw [HCX]
  clear hHeld
  refine hK.out _ _ ?hS12 (fun hHeld => ?_)
  case hS12 => ((try dsimp only); exact ⟨y0, y1, x0, x1⟩)
  clear hK K
  (try simp only [Act.put, List.setIfInBounds_toArray, List.set_cons_zero, List.set_cons_succ])
  refine takeL 13 (v := ?_) rfl (by kernel_rfl) (by kernel_rfl) (by kernel_rfl) (fun _ _ _ h => h) (by rfl) (by assumption) ?hy13 ?_
  case hy13 => (intro w hSw; (try dsimp only at hSw); go_simp; all_goals (with_reducible rfl))
  (try simp only [Act.put, List.setIfInBounds_toArray, List.set_cons_zero, List.set_cons_succ])
  refine takeL 14 (v := ?_) rfl (by kernel_rfl) (by kernel_rfl) (by kernel_rfl) (fun _ _ _ h => h) (by rfl) (by assumption) ?hy14 ?_
  case hy14 => (intro w hSw; (try dsimp only at hSw); go_simp; all_goals (with_reducible rfl))
  (try simp only [Act.put, List.setIfInBounds_toArray, List.set_cons_zero, List.set_cons_succ])
  refine takeL 15 (v := ?_) rfl (by kernel_rfl) (by kernel_rfl) (by kernel_rfl) (fun _ _ _ h => h) (by rfl) (by assumption) ?hy15 ?_
  case hy15 => (intro w hSw; (try dsimp only at hSw); go_simp; all_goals (with_reducible rfl))
  (try simp only [Act.put, List.setIfInBounds_toArray, List.set_cons_zero, List.set_cons_succ])
  refine consL 16 (by kernel_rfl) rfl (by rfl) (fun K hK => ?_)
  go_simp
  go_at_call 7
  refine (awake10_any _ (HT.out.below HB.out (Nat.le_refl _))).mono ?_
  rintro e w16 ⟨rfl, hb16⟩
  have y0 := keepc hb16 hPY y0
  have y1 := keepc hb16 hPY y1
  have x0 := keepc hb16 hPX x0
  have x1 := keepc hb16 hPX x1
  have hPX := Nat.lt_of_lt_of_le hPX hb16.size
  have hPY := Nat.lt_of_lt_of_le hPY hb16.size
  have HX := Lib.hid (HX.out.call hb16)
  have HY := Lib.hid (HY.out.call hb16)
  have H8 := Lib.hid (H8.out.call hb16)
  have H10 := Lib.hid (H10.out.call hb16)
  have HB := Lib.hid (HB.out.trans (hb16.mono HB.out.size))
  clear hb16
  clear hHeld
  refine hK.out _ _ ?hS16 (fun hHeld => ?_)
  case hS16 => ((try dsimp only); exact ⟨y0, y1, x0, x1⟩)
  clear hK K
  (try simp only [Act.put, List.setIfInBounds_toArray, List.set_cons_zero, List.set_cons_succ])
  refine takeL 17 (v := ?_) rfl (by kernel_rfl) (by kernel_rfl) (by kernel_rfl) (fun _ _ _ h => h) (by rfl) (by assumption) ?hy17 ?_
  case hy17 => (intro w hSw; (try dsimp only at hSw); go_simp; all_goals (with_reducible rfl))
  (try simp only [Act.put, List.setIfInBounds_toArray, List.set_cons_zero, List.set_cons_succ])
  refine takeL 18 (v := ?_) rfl (by kernel_rfl) (by kernel_rfl) (by kernel_rfl) (fun _ _ _ h => h) (by rfl) (by assumption) ?hy18 ?_
  case hy18 => (intro w hSw; (try dsimp only at hSw); go_simp; all_goals (with_reducible rfl))
  (try simp only [Act.put, List.setIfInBounds_toArray, List.set_cons_zero, List.set_cons_succ])
  refine wpAnyH_done (by kernel_rfl) ?_ _
  clear y0 y1 x0 x1 HX HY H8 H10 hPX hPY q1 q2 hHeld
  go_wp2_with fail
  go_ret
  exact ⟨rfl, HB.out⟩

set_option maxRecDepth 100000 in
set_option maxHeartbeats 8000000 in
theorem scalePB (s : ByteArray) (f : Nat) (hf : f ≤ 9) (w : World) (ht : Tabs w) (sg a dt bb ex sp q : List UInt8) (hp : Dc.Parts s.data.toList sg a dt bb ex sp q) (hpl : Dc.plainP s.data.toList = true) (z : Int) (hz : z = Dc.numE bb sp q + f) (hz0 : 0 ≤ z) (X : Int) (Y : Nat) (hX : X = Dc.numV sg a bb * 10 ^ z.toNat) (hY : Y = 1)
    (hsc : Dc.scaleP s.data.toList f = (0, 22)) (hmod : X.natAbs % Y ≠ 0) :
    Calls Tryd.prog 3 #[.string s, .int .i64 f] w fun e w' => e = .returned (.bool true) ∧ Below w.heap.size w w' := by
  have HT := Lib.hid ht
  have HR : Hid (Lx.right s.data.toList = true) := Dc.right_of_parts _ _ _ _ _ _ _ _ hp
  have HPP := Lib.hid hpl
  obtain ⟨hl60, hq2⟩ := Dc.plain_of hp hpl
  have hs60 : s.size ≤ 60 := by rw [Lib.size_eq]; exact hl60
  have HN := Lib.hid (fun X => number_any s X sg a dt bb ex sp q hp (by omega) (by omega))
  have hab : (a ++ bb).length ≤ 60 := by
    have e := congrArg List.length hp.eq
    simp only [List.length_append] at e ⊢
    omega
  have hbl : bb.length ≤ 60 := by rw [List.length_append] at hab; omega
  have hV60 : (Dc.numV sg a bb).natAbs < 10 ^ 60 := by
    rw [Dc.numV_abs]
    exact Nat.lt_of_lt_of_le (Dc.dval_lt _ hp.all) (Nat.pow_le_pow_right (by decide) hab)
  have hqv := Dc.dval_two hq2 hp.q_all
  have hzr : -160 ≤ z ∧ z ≤ 110 := by
    rw [hz]; unfold Dc.numE
    split <;> omega
  have hlim : 2 * (1099511627775 * 10 ^ 170) < lim := by unfold lim; decide +kernel
  obtain ⟨V, hV⟩ : ∃ V, V = Dc.numV sg a bb := ⟨_, rfl⟩
  rw [← hV] at HN hV60 hX
  obtain ⟨j, rfl⟩ : ∃ j : Nat, z = j := ⟨z.toNat, by omega⟩
  rw [Int.toNat_natCast] at hX
  have hXl : X.natAbs < 10 ^ 170 := by
    rw [hX, Int.natAbs_mul, Int.natAbs_pow]
    have h1 : Int.natAbs 10 ^ j ≤ 10 ^ 110 := Nat.pow_le_pow_right (by decide) (by omega)
    have h2 : V.natAbs * Int.natAbs 10 ^ j ≤ V.natAbs * 10 ^ 110 := Nat.mul_le_mul_left _ h1
    have h3 : V.natAbs * 10 ^ 110 < 10 ^ 60 * 10 ^ 110 := Nat.mul_lt_mul_of_pos_right hV60 (Nat.pow_pos (by decide))
    rw [← Nat.pow_add] at h3
    exact Nat.lt_of_le_of_lt h2 h3
  have hYl : Y ≤ 10 ^ 170 := by rw [hY]; exact Nat.one_le_pow _ _ (by decide)
  have hY1 : 0 < Y := by rw [hY]; decide
  have HTen := Lib.hid (fun X => ten_any (j : Int) X (by omega))
  simp only [Int.toNat_natCast] at HTen
  generalize (10 ^ 170 : Nat) = T at hXl hYl hlim
  have HLX2 : Hid (2 * X.natAbs < lim) := by unfold Hid; omega
  have HLX : Hid (X.natAbs < lim) := by unfold Hid; omega
  have HLY : Hid (((Y : Nat) : Int).natAbs < lim) := by unfold Hid; rw [Int.natAbs_natCast]; omega
  have HLM : Hid ((1099511627775 * (Y : Int)).natAbs < lim) := by unfold Hid; rw [Int.natAbs_mul, Int.natAbs_natCast]; show 1099511627775 * Y < lim; omega
  have HLV : Hid (V.natAbs < lim) := Nat.lt_trans hV60 (by unfold lim; decide +kernel)
  have HLj : Hid (((10 : Int) ^ j).natAbs < lim) := lim_ten j (by omega)
  have HY0 : Hid (0 < (Y : Int)) := by unfold Hid; omega
  obtain ⟨Q, hQ⟩ : ∃ Q, Q = Dc.numE bb sp q := ⟨_, rfl⟩
  rw [← hQ] at HN hz
  have hQf : Q + (f : Int) = (j : Int) := by omega
  have hQr : -200 ≤ Q ∧ Q ≤ 200 := by omega
  obtain ⟨hQ1, hQ2⟩ := hQr
  have hf0 : ¬ ((f : Int) < 0) := by omega
  have hf9 : ¬ ((f : Int) > 9) := by omega
  have HXe := Lib.hid hX
  have HYe := Lib.hid hY
  have HSc := Lib.hid hsc
  have Hmod := Lib.hid hmod
  clear hmod
  clear ht hp hpl hl60 hq2 hab hbl hV60 hqv hlim hXl hYl hY1 hV hX hY hQ hsc hz
  go_enter Tryd.func3, Tryd.ntmps3
  go_wp2_with fail
  refine (scale_any s (f : Int) w HT.out (by omega) (by omega) (by omega)).mono ?_
  rintro e w1 ⟨he, hb1⟩
  rw [HSc.out] at he
  subst he
  have HB := Lib.hid hb1
  clear hb1
  go_wp2_with fail
  refine (rright_any s w1 (by unfold maxLen; omega)).mono ?_
  rintro e w' ⟨rfl, rfl⟩
  rw [HR.out]
  go_wp2_with fail
  refine (plain_any s w1 (by omega)).mono ?_
  rintro e w' ⟨rfl, rfl⟩
  rw [HPP.out]
  go_wp2_with fail
  refine (HN.out w1).mono ?_
  rintro e w2 ⟨v2, rfl, H2, hb2⟩
  obtain ⟨un, ua, uk, uc, rfl⟩ := H2.form
  have HB := Lib.hid (HB.out.trans (hb2.mono HB.out.size))
  clear hb2 HN
  go_wp2_with fail
  obtain ⟨W2, hW⟩ : ∃ W, w2.alloc (.cells #[.bool un, .slice ua uk uc] 29) = W := ⟨_, rfl⟩
  have hbW : Below w2.heap.size w2 W2 := hW ▸ (Below.refl _ w2).alloc (Nat.le_refl _) _
  obtain ⟨PX, hPXe⟩ : ∃ P, P = w2.heap.size := ⟨_, rfl⟩
  have HXB : Hid (Bx W2 PX (un, ua, uk, uc) V) := hPXe ▸ ⟨hW ▸ Blk.new w2 _ _, H2.call hbW⟩
  have hwx : w.heap.size ≤ PX := by rw [hPXe]; exact HB.out.size
  have HB := Lib.hid (HB.out.trans (hbW.mono HB.out.size))
  rw [hW, ← hPXe]
  clear hW hbW H2 hPXe
  refine (of_any 1 W2 (by decide) (by decide)).mono ?_
  rintro e w3 ⟨v3, rfl, H3, hb3⟩
  obtain ⟨yn, ya, yk, yc, rfl⟩ := H3.form
  have HXB := Lib.hid (HXB.out.call hb3)
  have HB := Lib.hid (HB.out.trans (hb3.mono HB.out.size))
  clear hb3
  go_wp2_with fail
  obtain ⟨W4, hW⟩ : ∃ W, w3.alloc (.cells #[.bool yn, .slice ya yk yc] 29) = W := ⟨_, rfl⟩
  have hbW : Below w3.heap.size w3 W4 := hW ▸ (Below.refl _ w3).alloc (Nat.le_refl _) _
  obtain ⟨PY, hPYe⟩ : ∃ P, P = w3.heap.size := ⟨_, rfl⟩
  have HYB : Hid (Bx W4 PY (yn, ya, yk, yc) 1) := hPYe ▸ ⟨hW ▸ Blk.new w3 _ _, H3.call hbW⟩
  have hxy : PX < PY := by rw [hPYe]; exact HXB.out.blk.lt
  have hwy : w.heap.size ≤ PY := by rw [hPYe]; exact HB.out.size
  have HXB := Lib.hid (HXB.out.call hbW)
  have HB := Lib.hid (HB.out.trans (hbW.mono HB.out.size))
  rw [hW, ← hPYe]
  clear hW hbW H3 hPYe
  have u0 := HXB.out.blk.cell (j := 0) rfl
  have u1 := HXB.out.blk.cell (j := 1) rfl
  have hPU := HXB.out.blk.lt
  have hwj : IntKind.i64.wrap (j : Int) = (j : Int) := by rw [IntKind.wrap_i64]; omega
  have HY1 : Hid ((1 : Int) = (Y : Int)) := by unfold Hid; rw [HYe.out]; rfl
  rw [HY1.out] at HYB
  have HB := Lib.hid HB.out.drew
  have HXB := Lib.hid (HXB.out.call (Below.refl _ W4).drew)
  have HYB := Lib.hid (HYB.out.call (Below.refl _ W4).drew)
  refine heldG_go (S := fun w' => w'.cell? ⟨PX, 0, none⟩ = some (.bool un) ∧ w'.cell? ⟨PX, 1, none⟩ = some (.slice ua uk uc)) (late := fun j => j == 6) (by kernel_rfl) ⟨u0, u1⟩ (fun hHeld => ?_)
  refine takeG 0 (v := ?_) [0, 5, 6] rfl (by kernel_rfl) (by kernel_rfl) (by kernel_rfl) (by kernel_rfl) (by kernel_rfl) (fun _ _ _ h => h) (by rfl) (by assumption) ?hy0 ?_
  case hy0 => (intro w hSw; (try dsimp only at hSw); go_simp; all_goals (with_reducible rfl))
  (try simp only [Act.put, List.setIfInBounds_toArray, List.set_cons_zero, List.set_cons_succ])
  refine takeG 1 (v := ?_) [1, 3, 4, 5, 6] rfl (by kernel_rfl) (by kernel_rfl) (by kernel_rfl) (by kernel_rfl) (by kernel_rfl) (fun _ _ _ h => h) (by rfl) (by assumption) ?hy1 ?_
  case hy1 => (intro w hSw; (try dsimp only at hSw); go_simp; all_goals (with_reducible rfl))
  (try simp only [Act.put, List.setIfInBounds_toArray, List.set_cons_zero, List.set_cons_succ])
  refine takeG 2 (v := ?_) [2, 3, 4, 5, 6] rfl (by kernel_rfl) (by kernel_rfl) (by kernel_rfl) (by kernel_rfl) (by kernel_rfl) (fun _ _ _ h => h) (by rfl) (by assumption) ?hy2 ?_
  case hy2 => (intro w hSw; (try dsimp only at hSw); go_simp; all_goals (with_reducible rfl))
  (try simp only [Act.put, List.setIfInBounds_toArray, List.set_cons_zero, List.set_cons_succ])
  refine takeG 3 (v := ?_) [3, 4, 5, 6] rfl (by kernel_rfl) (by kernel_rfl) (by kernel_rfl) (by kernel_rfl) (by kernel_rfl) (fun _ _ _ h => h) (by rfl) (by assumption) ?hy3 ?_
  case hy3 => (intro w hSw; (try dsimp only at hSw); go_simp; all_goals (with_reducible rfl))
  (try simp only [Act.put, List.setIfInBounds_toArray, List.set_cons_zero, List.set_cons_succ])
  refine consG 4 (by kernel_rfl) rfl (by rfl) (fun K hK => ?_)
  go_simp
  go_at_call 14
  refine (HTen.out _).mono ?_
  rintro e w4 ⟨v4, rfl, H4, hb4⟩
  have u0 := keepc hb4 hPU u0
  have u1 := keepc hb4 hPU u1
  have hPU := Nat.lt_of_lt_of_le hPU hb4.size
  have HXB := Lib.hid (HXB.out.call hb4)
  have HYB := Lib.hid (HYB.out.call hb4)
  have HB := Lib.hid (HB.out.trans (hb4.mono HB.out.size))
  clear hb4
  have H4 := Lib.hid H4
  clear hHeld
  refine hK.out _ _ ?hS4 (fun hHeld => ?_)
  case hS4 => (intro _; (try dsimp only); exact ⟨u0, u1⟩)
  have hHeld := hHeld rfl
  clear hK K
  (try simp only [Act.put, List.setIfInBounds_toArray, List.set_cons_zero, List.set_cons_succ])
  refine consG 5 (by kernel_rfl) rfl (by rfl) (fun K hK => ?_)
  go_simp
  go_at_call 13
  refine (mul_any _ _ V (10 ^ j) _ HXB.out.big H4.out HLV.out HLj.out).mono ?_
  rintro e w5 ⟨v5, rfl, H5, hb5⟩
  have u0 := keepc hb5 hPU u0
  have u1 := keepc hb5 hPU u1
  have hPU := Nat.lt_of_lt_of_le hPU hb5.size
  have HXB := Lib.hid (HXB.out.call hb5)
  have HYB := Lib.hid (HYB.out.call hb5)
  have H4 := Lib.hid (H4.out.call hb5)
  have HB := Lib.hid (HB.out.trans (hb5.mono HB.out.size))
  clear hb5
  rw [← HXe.out] at H5
  obtain ⟨xn, xa, xk, xc, rfl⟩ := H5.form
  have uf := HXB.out.blk.frozen
  clear hHeld
  refine hK.out _ _ ?hS5 (fun hHeld => ?_)
  case hS5 => (intro _; (try dsimp only); exact ⟨u0, u1⟩)
  have hHeld := hHeld rfl
  clear hK K
  (try simp only [Act.put, List.setIfInBounds_toArray, List.set_cons_zero, List.set_cons_succ])
  refine consG 6 (by kernel_rfl) rfl (by rfl) (fun K hK => ?_)
  go_simp
  clear hHeld
  refine hK.out _ _ (fun h => by cases h) (fun hHeld => ?_)
  clear hK K
  (try simp only [Act.put, List.setIfInBounds_toArray, List.set_cons_zero, List.set_cons_succ])
  refine wpAnyG_done (by kernel_rfl) ?_ _
  obtain ⟨W, hW⟩ : ∃ W, (w5.setCell ⟨PX, 0, none⟩ (.bool xn)).setCell ⟨PX, 1, none⟩ (.slice xa xk xc) = W := ⟨_, rfl⟩
  have HX : Hid (Bx W PX (xn, xa, xk, xc) X) := hW ▸ ⟨put2 HXB.out.blk, H5.keep (keep_put HXB.out.blk _ _)⟩
  have HY : Hid (Bx W PY (yn, ya, yk, yc) (Y : Int)) := hW ▸ HYB.out.put HXB.out (by omega) _ _
  have HBC : Hid (Below w.heap.size w W) := hW ▸ put2_below HB.out hwx
  rw [hW]
  clear hW H4 H5 HXB HYB HB u0 u1 uf hPU hwj hHeld HTen
  have HB := HBC
  clear HBC
  have x0 := HX.out.blk.cell (j := 0) rfl
  have x1 := HX.out.blk.cell (j := 1) rfl
  have y0 := HY.out.blk.cell (j := 0) rfl
  have y1 := HY.out.blk.cell (j := 1) rfl
  have hPX := HX.out.blk.lt
  have hPY := HY.out.blk.lt
  have Hdv : Hid (decide (X.natAbs % Y = 0) = false) := decide_eq_false Hmod.out
  go_wp2_with fail
  refine (divides_any _ _ X (Y : Int) W HX.out.big HY.out.big HY0.out HLX2.out HLY.out).mono ?_
  rintro e w17 ⟨rfl, hb17⟩
  rw [Int.natAbs_natCast, Hdv.out]
  have HX := Lib.hid (HX.out.call hb17)
  have HY := Lib.hid (HY.out.call hb17)
  have HB := Lib.hid (HB.out.trans (hb17.mono HB.out.size))
  clear hb17 x0 x1 y0 y1 hPX hPY
  go_wp2_with fail
  refine (awake10_any _ (HT.out.below HB.out (Nat.le_refl _))).mono ?_
  rintro e w99 ⟨rfl, h99⟩
  have HB := Lib.hid (HB.out.trans (h99.mono HB.out.size))
  clear h99
  go_wp2_with fail
  go_ret
  exact ⟨rfl, HB.out⟩

set_option maxRecDepth 100000 in
set_option maxHeartbeats 8000000 in
theorem scalePC (s : ByteArray) (f : Nat) (hf : f ≤ 9) (w : World) (ht : Tabs w) (sg a dt bb ex sp q : List UInt8) (hp : Dc.Parts s.data.toList sg a dt bb ex sp q) (hpl : Dc.plainP s.data.toList = true) (z : Int) (hz : z = Dc.numE bb sp q + f) (hz0 : 0 ≤ z) (X : Int) (Y : Nat) (hX : X = Dc.numV sg a bb * 10 ^ z.toNat) (hY : Y = 1)
    (hsc : Dc.scaleP s.data.toList f = (0, 23)) (hmod : X.natAbs % Y = 0) (hgt : 1099511627775 * Y < X.natAbs) :
    Calls Tryd.prog 3 #[.string s, .int .i64 f] w fun e w' => e = .returned (.bool true) ∧ Below w.heap.size w w' := by
  have HT := Lib.hid ht
  have HR : Hid (Lx.right s.data.toList = true) := Dc.right_of_parts _ _ _ _ _ _ _ _ hp
  have HPP := Lib.hid hpl
  obtain ⟨hl60, hq2⟩ := Dc.plain_of hp hpl
  have hs60 : s.size ≤ 60 := by rw [Lib.size_eq]; exact hl60
  have HN := Lib.hid (fun X => number_any s X sg a dt bb ex sp q hp (by omega) (by omega))
  have hab : (a ++ bb).length ≤ 60 := by
    have e := congrArg List.length hp.eq
    simp only [List.length_append] at e ⊢
    omega
  have hbl : bb.length ≤ 60 := by rw [List.length_append] at hab; omega
  have hV60 : (Dc.numV sg a bb).natAbs < 10 ^ 60 := by
    rw [Dc.numV_abs]
    exact Nat.lt_of_lt_of_le (Dc.dval_lt _ hp.all) (Nat.pow_le_pow_right (by decide) hab)
  have hqv := Dc.dval_two hq2 hp.q_all
  have hzr : -160 ≤ z ∧ z ≤ 110 := by
    rw [hz]; unfold Dc.numE
    split <;> omega
  have hlim : 2 * (1099511627775 * 10 ^ 170) < lim := by unfold lim; decide +kernel
  obtain ⟨V, hV⟩ : ∃ V, V = Dc.numV sg a bb := ⟨_, rfl⟩
  rw [← hV] at HN hV60 hX
  obtain ⟨j, rfl⟩ : ∃ j : Nat, z = j := ⟨z.toNat, by omega⟩
  rw [Int.toNat_natCast] at hX
  have hXl : X.natAbs < 10 ^ 170 := by
    rw [hX, Int.natAbs_mul, Int.natAbs_pow]
    have h1 : Int.natAbs 10 ^ j ≤ 10 ^ 110 := Nat.pow_le_pow_right (by decide) (by omega)
    have h2 : V.natAbs * Int.natAbs 10 ^ j ≤ V.natAbs * 10 ^ 110 := Nat.mul_le_mul_left _ h1
    have h3 : V.natAbs * 10 ^ 110 < 10 ^ 60 * 10 ^ 110 := Nat.mul_lt_mul_of_pos_right hV60 (Nat.pow_pos (by decide))
    rw [← Nat.pow_add] at h3
    exact Nat.lt_of_le_of_lt h2 h3
  have hYl : Y ≤ 10 ^ 170 := by rw [hY]; exact Nat.one_le_pow _ _ (by decide)
  have hY1 : 0 < Y := by rw [hY]; decide
  have HTen := Lib.hid (fun X => ten_any (j : Int) X (by omega))
  simp only [Int.toNat_natCast] at HTen
  generalize (10 ^ 170 : Nat) = T at hXl hYl hlim
  have HLX2 : Hid (2 * X.natAbs < lim) := by unfold Hid; omega
  have HLX : Hid (X.natAbs < lim) := by unfold Hid; omega
  have HLY : Hid (((Y : Nat) : Int).natAbs < lim) := by unfold Hid; rw [Int.natAbs_natCast]; omega
  have HLM : Hid ((1099511627775 * (Y : Int)).natAbs < lim) := by unfold Hid; rw [Int.natAbs_mul, Int.natAbs_natCast]; show 1099511627775 * Y < lim; omega
  have HLV : Hid (V.natAbs < lim) := Nat.lt_trans hV60 (by unfold lim; decide +kernel)
  have HLj : Hid (((10 : Int) ^ j).natAbs < lim) := lim_ten j (by omega)
  have HY0 : Hid (0 < (Y : Int)) := by unfold Hid; omega
  obtain ⟨Q, hQ⟩ : ∃ Q, Q = Dc.numE bb sp q := ⟨_, rfl⟩
  rw [← hQ] at HN hz
  have hQf : Q + (f : Int) = (j : Int) := by omega
  have hQr : -200 ≤ Q ∧ Q ≤ 200 := by omega
  obtain ⟨hQ1, hQ2⟩ := hQr
  have hf0 : ¬ ((f : Int) < 0) := by omega
  have hf9 : ¬ ((f : Int) > 9) := by omega
  have HXe := Lib.hid hX
  have HYe := Lib.hid hY
  have HSc := Lib.hid hsc
  have Hmod := Lib.hid hmod
  have Hgt := Lib.hid hgt
  clear hmod hgt
  clear ht hp hpl hl60 hq2 hab hbl hV60 hqv hlim hXl hYl hY1 hV hX hY hQ hsc hz
  go_enter Tryd.func3, Tryd.ntmps3
  go_wp2_with fail
  refine (scale_any s (f : Int) w HT.out (by omega) (by omega) (by omega)).mono ?_
  rintro e w1 ⟨he, hb1⟩
  rw [HSc.out] at he
  subst he
  have HB := Lib.hid hb1
  clear hb1
  go_wp2_with fail
  refine (rright_any s w1 (by unfold maxLen; omega)).mono ?_
  rintro e w' ⟨rfl, rfl⟩
  rw [HR.out]
  go_wp2_with fail
  refine (plain_any s w1 (by omega)).mono ?_
  rintro e w' ⟨rfl, rfl⟩
  rw [HPP.out]
  go_wp2_with fail
  refine (HN.out w1).mono ?_
  rintro e w2 ⟨v2, rfl, H2, hb2⟩
  obtain ⟨un, ua, uk, uc, rfl⟩ := H2.form
  have HB := Lib.hid (HB.out.trans (hb2.mono HB.out.size))
  clear hb2 HN
  go_wp2_with fail
  obtain ⟨W2, hW⟩ : ∃ W, w2.alloc (.cells #[.bool un, .slice ua uk uc] 29) = W := ⟨_, rfl⟩
  have hbW : Below w2.heap.size w2 W2 := hW ▸ (Below.refl _ w2).alloc (Nat.le_refl _) _
  obtain ⟨PX, hPXe⟩ : ∃ P, P = w2.heap.size := ⟨_, rfl⟩
  have HXB : Hid (Bx W2 PX (un, ua, uk, uc) V) := hPXe ▸ ⟨hW ▸ Blk.new w2 _ _, H2.call hbW⟩
  have hwx : w.heap.size ≤ PX := by rw [hPXe]; exact HB.out.size
  have HB := Lib.hid (HB.out.trans (hbW.mono HB.out.size))
  rw [hW, ← hPXe]
  clear hW hbW H2 hPXe
  refine (of_any 1 W2 (by decide) (by decide)).mono ?_
  rintro e w3 ⟨v3, rfl, H3, hb3⟩
  obtain ⟨yn, ya, yk, yc, rfl⟩ := H3.form
  have HXB := Lib.hid (HXB.out.call hb3)
  have HB := Lib.hid (HB.out.trans (hb3.mono HB.out.size))
  clear hb3
  go_wp2_with fail
  obtain ⟨W4, hW⟩ : ∃ W, w3.alloc (.cells #[.bool yn, .slice ya yk yc] 29) = W := ⟨_, rfl⟩
  have hbW : Below w3.heap.size w3 W4 := hW ▸ (Below.refl _ w3).alloc (Nat.le_refl _) _
  obtain ⟨PY, hPYe⟩ : ∃ P, P = w3.heap.size := ⟨_, rfl⟩
  have HYB : Hid (Bx W4 PY (yn, ya, yk, yc) 1) := hPYe ▸ ⟨hW ▸ Blk.new w3 _ _, H3.call hbW⟩
  have hxy : PX < PY := by rw [hPYe]; exact HXB.out.blk.lt
  have hwy : w.heap.size ≤ PY := by rw [hPYe]; exact HB.out.size
  have HXB := Lib.hid (HXB.out.call hbW)
  have HB := Lib.hid (HB.out.trans (hbW.mono HB.out.size))
  rw [hW, ← hPYe]
  clear hW hbW H3 hPYe
  have u0 := HXB.out.blk.cell (j := 0) rfl
  have u1 := HXB.out.blk.cell (j := 1) rfl
  have hPU := HXB.out.blk.lt
  have hwj : IntKind.i64.wrap (j : Int) = (j : Int) := by rw [IntKind.wrap_i64]; omega
  have HY1 : Hid ((1 : Int) = (Y : Int)) := by unfold Hid; rw [HYe.out]; rfl
  rw [HY1.out] at HYB
  have HB := Lib.hid HB.out.drew
  have HXB := Lib.hid (HXB.out.call (Below.refl _ W4).drew)
  have HYB := Lib.hid (HYB.out.call (Below.refl _ W4).drew)
  refine heldG_go (S := fun w' => w'.cell? ⟨PX, 0, none⟩ = some (.bool un) ∧ w'.cell? ⟨PX, 1, none⟩ = some (.slice ua uk uc)) (late := fun j => j == 6) (by kernel_rfl) ⟨u0, u1⟩ (fun hHeld => ?_)
  refine takeG 0 (v := ?_) [0, 5, 6] rfl (by kernel_rfl) (by kernel_rfl) (by kernel_rfl) (by kernel_rfl) (by kernel_rfl) (fun _ _ _ h => h) (by rfl) (by assumption) ?hy0 ?_
  case hy0 => (intro w hSw; (try dsimp only at hSw); go_simp; all_goals (with_reducible rfl))
  (try simp only [Act.put, List.setIfInBounds_toArray, List.set_cons_zero, List.set_cons_succ])
  refine takeG 1 (v := ?_) [1, 3, 4, 5, 6] rfl (by kernel_rfl) (by kernel_rfl) (by kernel_rfl) (by kernel_rfl) (by kernel_rfl) (fun _ _ _ h => h) (by rfl) (by assumption) ?hy1 ?_
  case hy1 => (intro w hSw; (try dsimp only at hSw); go_simp; all_goals (with_reducible rfl))
  (try simp only [Act.put, List.setIfInBounds_toArray, List.set_cons_zero, List.set_cons_succ])
  refine takeG 2 (v := ?_) [2, 3, 4, 5, 6] rfl (by kernel_rfl) (by kernel_rfl) (by kernel_rfl) (by kernel_rfl) (by kernel_rfl) (fun _ _ _ h => h) (by rfl) (by assumption) ?hy2 ?_
  case hy2 => (intro w hSw; (try dsimp only at hSw); go_simp; all_goals (with_reducible rfl))
  (try simp only [Act.put, List.setIfInBounds_toArray, List.set_cons_zero, List.set_cons_succ])
  refine takeG 3 (v := ?_) [3, 4, 5, 6] rfl (by kernel_rfl) (by kernel_rfl) (by kernel_rfl) (by kernel_rfl) (by kernel_rfl) (fun _ _ _ h => h) (by rfl) (by assumption) ?hy3 ?_
  case hy3 => (intro w hSw; (try dsimp only at hSw); go_simp; all_goals (with_reducible rfl))
  (try simp only [Act.put, List.setIfInBounds_toArray, List.set_cons_zero, List.set_cons_succ])
  refine consG 4 (by kernel_rfl) rfl (by rfl) (fun K hK => ?_)
  go_simp
  go_at_call 14
  refine (HTen.out _).mono ?_
  rintro e w4 ⟨v4, rfl, H4, hb4⟩
  have u0 := keepc hb4 hPU u0
  have u1 := keepc hb4 hPU u1
  have hPU := Nat.lt_of_lt_of_le hPU hb4.size
  have HXB := Lib.hid (HXB.out.call hb4)
  have HYB := Lib.hid (HYB.out.call hb4)
  have HB := Lib.hid (HB.out.trans (hb4.mono HB.out.size))
  clear hb4
  have H4 := Lib.hid H4
  clear hHeld
  refine hK.out _ _ ?hS4 (fun hHeld => ?_)
  case hS4 => (intro _; (try dsimp only); exact ⟨u0, u1⟩)
  have hHeld := hHeld rfl
  clear hK K
  (try simp only [Act.put, List.setIfInBounds_toArray, List.set_cons_zero, List.set_cons_succ])
  refine consG 5 (by kernel_rfl) rfl (by rfl) (fun K hK => ?_)
  go_simp
  go_at_call 13
  refine (mul_any _ _ V (10 ^ j) _ HXB.out.big H4.out HLV.out HLj.out).mono ?_
  rintro e w5 ⟨v5, rfl, H5, hb5⟩
  have u0 := keepc hb5 hPU u0
  have u1 := keepc hb5 hPU u1
  have hPU := Nat.lt_of_lt_of_le hPU hb5.size
  have HXB := Lib.hid (HXB.out.call hb5)
  have HYB := Lib.hid (HYB.out.call hb5)
  have H4 := Lib.hid (H4.out.call hb5)
  have HB := Lib.hid (HB.out.trans (hb5.mono HB.out.size))
  clear hb5
  rw [← HXe.out] at H5
  obtain ⟨xn, xa, xk, xc, rfl⟩ := H5.form
  have uf := HXB.out.blk.frozen
  clear hHeld
  refine hK.out _ _ ?hS5 (fun hHeld => ?_)
  case hS5 => (intro _; (try dsimp only); exact ⟨u0, u1⟩)
  have hHeld := hHeld rfl
  clear hK K
  (try simp only [Act.put, List.setIfInBounds_toArray, List.set_cons_zero, List.set_cons_succ])
  refine consG 6 (by kernel_rfl) rfl (by rfl) (fun K hK => ?_)
  go_simp
  clear hHeld
  refine hK.out _ _ (fun h => by cases h) (fun hHeld => ?_)
  clear hK K
  (try simp only [Act.put, List.setIfInBounds_toArray, List.set_cons_zero, List.set_cons_succ])
  refine wpAnyG_done (by kernel_rfl) ?_ _
  obtain ⟨W, hW⟩ : ∃ W, (w5.setCell ⟨PX, 0, none⟩ (.bool xn)).setCell ⟨PX, 1, none⟩ (.slice xa xk xc) = W := ⟨_, rfl⟩
  have HX : Hid (Bx W PX (xn, xa, xk, xc) X) := hW ▸ ⟨put2 HXB.out.blk, H5.keep (keep_put HXB.out.blk _ _)⟩
  have HY : Hid (Bx W PY (yn, ya, yk, yc) (Y : Int)) := hW ▸ HYB.out.put HXB.out (by omega) _ _
  have HBC : Hid (Below w.heap.size w W) := hW ▸ put2_below HB.out hwx
  rw [hW]
  clear hW H4 H5 HXB HYB HB u0 u1 uf hPU hwj hHeld HTen
  have HB := HBC
  clear HBC
  have x0 := HX.out.blk.cell (j := 0) rfl
  have x1 := HX.out.blk.cell (j := 1) rfl
  have y0 := HY.out.blk.cell (j := 0) rfl
  have y1 := HY.out.blk.cell (j := 1) rfl
  have hPX := HX.out.blk.lt
  have hPY := HY.out.blk.lt
  have Hdv : Hid (decide (X.natAbs % Y = 0) = true) := decide_eq_true Hmod.out
  have Hside : Hid (1099511627775 * (Y : Int) < X ∨ X < -(1099511627775 * (Y : Int))) := by
    have := Hgt.out
    unfold Hid
    omega
  have HLc : Hid ((1099511627775 : Int).natAbs < lim) := lim_small _ (by decide)
  have HYn : 0 ≤ 1099511627775 * (Y : Int) := by omega
  go_wp2_with fail
  refine (divides_any _ _ X (Y : Int) W HX.out.big HY.out.big HY0.out HLX2.out HLY.out).mono ?_
  rintro e w17 ⟨rfl, hb17⟩
  rw [Int.natAbs_natCast, Hdv.out]
  have HX := Lib.hid (HX.out.call hb17)
  have HY := Lib.hid (HY.out.call hb17)
  have HB := Lib.hid (HB.out.trans (hb17.mono HB.out.size))
  clear hb17 x0 x1 y0 y1 hPX hPY
  have y0 := HY.out.blk.cell (j := 0) rfl
  have y1 := HY.out.blk.cell (j := 1) rfl
  have hPY := HY.out.blk.lt
  go_wp2_with fail
  have HB := Lib.hid HB.out.drew
  have HX := Lib.hid (HX.out.call (Below.refl _ w17).drew)
  have HY := Lib.hid (HY.out.call (Below.refl _ w17).drew)
  refine wp_region_held_drew (S := fun w' => w'.cell? ⟨PY, 0, none⟩ = some (.bool yn) ∧ w'.cell? ⟨PY, 1, none⟩ = some (.slice ya yk yc)) (by kernel_rfl) ⟨y0, y1⟩ (fun hHeld => ?_)
  refine takeL 1 (v := ?_) rfl (by kernel_rfl) (by kernel_rfl) (by kernel_rfl) (fun _ _ _ h => h) (by rfl) (by assumption) ?hy1 ?_
  case hy1 => (intro w hSw; (try dsimp only at hSw); go_simp; all_goals (with_reducible rfl))
  (try simp only [Act.put, List.setIfInBounds_toArray, List.set_cons_zero, List.set_cons_succ])
  refine consL2 0 3 (by kernel_rfl) rfl rfl (by rfl) (by rfl) (fun K hK => ?_) (fun K hK => ?_)
  · go_simp
    go_at_call 12
    refine (of_any 1099511627775 _ (by decide) (by decide)).mono ?_
    rintro e w0 ⟨v0, rfl, H0, hb0⟩
    have y0 := keepc hb0 hPY y0
    have y1 := keepc hb0 hPY y1
    have hPY := Nat.lt_of_lt_of_le hPY hb0.size
    have HX := Lib.hid (HX.out.call hb0)
    have HY := Lib.hid (HY.out.call hb0)
    have HB := Lib.hid (HB.out.trans (hb0.mono HB.out.size))
    clear hb0
    have H0 := Lib.hid H0
    have hpx := HX.out.blk.lt
    clear hHeld
    refine hK.out _ _ ?hS0 (fun hHeld => ?_)
    case hS0 => ((try dsimp only); exact ⟨y0, y1⟩)
    clear hK K
    (try simp only [Act.put, List.setIfInBounds_toArray, List.set_cons_zero, List.set_cons_succ])
    refine consL2 2 3 (by kernel_rfl) rfl rfl (by rfl) (by rfl) (fun K hK => ?_) (fun K hK => ?_)
    · go_simp
      go_at_call 13
      refine (mul_any _ _ 1099511627775 (Y : Int) _ H0.out HY.out.big HLc.out HLY.out).mono ?_
      rintro e w2 ⟨v2, rfl, H2m, hb2⟩
      have y0 := keepc hb2 hPY y0
      have y1 := keepc hb2 hPY y1
      have hPY := Nat.lt_of_lt_of_le hPY hb2.size
      have HX := Lib.hid (HX.out.call hb2)
      have HY := Lib.hid (HY.out.call hb2)
      have H0 := Lib.hid (H0.out.call hb2)
      have HB := Lib.hid (HB.out.trans (hb2.mono HB.out.size))
      clear hb2
      obtain ⟨mn, ma, mk, mc, rfl⟩ := H2m.form
      have H2m := Lib.hid H2m
      have hpx := HX.out.blk.lt
      clear hHeld
      refine hK.out _ _ ?hS2 (fun hHeld => ?_)
      case hS2 => ((try dsimp only); exact ⟨y0, y1⟩)
      clear hK K
      (try simp only [Act.put, List.setIfInBounds_toArray, List.set_cons_zero, List.set_cons_succ])
      refine consL 3 (by kernel_rfl) rfl (by rfl) (fun K hK => ?_)
      go_simp
      obtain ⟨wa, hwa⟩ : ∃ wa, World.alloc w2 (.cells #[.bool false, .slice none 0 0] 29) = wa := ⟨_, rfl⟩
      have hba : Below w2.heap.size w2 wa := hwa ▸ (show Below _ w2 (World.alloc w2 (.cells #[.bool false, .slice none 0 0] 29)) from (Below.refl _ w2).alloc (Nat.le_refl _) _)
      obtain ⟨PM, hPMe⟩ : ∃ P, P = w2.heap.size := ⟨_, rfl⟩
      have HMB : Hid (Blk wa PM [.bool false, .slice none 0 0] 29) := hPMe ▸ hwa ▸ (show Blk (World.alloc w2 (.cells #[.bool false, .slice none 0 0] 29)) w2.heap.size [.bool false, .slice none 0 0] 29 from Blk.new w2 _ _)
      have hxm : PX < PM := by rw [hPMe]; exact HX.out.blk.lt
      have hym : PY < PM := by rw [hPMe]; exact HY.out.blk.lt
      have hwm : w.heap.size ≤ PM := by rw [hPMe]; exact HB.out.size
      try rw [hwa]
      try rw [← hPMe]
      clear hwa hPMe
      have y0 := keepc hba hPY y0
      have y1 := keepc hba hPY y1
      have hPY := Nat.lt_of_lt_of_le hPY hba.size
      have HX := Lib.hid (HX.out.call hba)
      have HY := Lib.hid (HY.out.call hba)
      have H0 := Lib.hid (H0.out.call hba)
      have H2m := Lib.hid (H2m.out.call hba)
      have HB := Lib.hid (HB.out.trans (hba.mono HB.out.size))
      clear hba
      clear hHeld
      refine hK.out _ _ ?hS3 (fun hHeld => ?_)
      case hS3 => ((try dsimp only); exact ⟨y0, y1⟩)
      clear hK K
      (try simp only [Act.put, List.setIfInBounds_toArray, List.set_cons_zero, List.set_cons_succ])
      refine consL 4 (by kernel_rfl) rfl (by rfl) (fun K hK => ?_)
      have m0 := HMB.out.cell (j := 0) rfl
      have m1 := HMB.out.cell (j := 1) rfl
      have mf := HMB.out.frozen
      go_simp
      clear hHeld
      refine hK.out _ _ ?hS4 (fun hHeld => ?_)
      case hS4 => ((try dsimp only); exact ⟨keeps2 (by omega) y0, keeps2 (by omega) y1⟩)
      clear hK K
      (try simp only [Act.put, List.setIfInBounds_toArray, List.set_cons_zero, List.set_cons_succ])
      refine wpAnyH_done (by kernel_rfl) ?_ _
      obtain ⟨W5, hW5⟩ : ∃ W, (wa.setCell ⟨PM, 0, none⟩ (.bool mn)).setCell ⟨PM, 1, none⟩ (.slice ma mk mc) = W := ⟨_, rfl⟩
      have HBo : Hid (Bx wa PM (false, none, 0, 0) 0) := ⟨HMB.out, big_zero _⟩
      have HMC : Hid (Bx W5 PM (mn, ma, mk, mc) (1099511627775 * (Y : Int))) := hW5 ▸ ⟨put2 HMB.out, H2m.out.keep (keep_put HMB.out _ _)⟩
      have HXC : Hid (Bx W5 PX (xn, xa, xk, xc) X) := hW5 ▸ HX.out.put HBo.out (by omega) _ _
      have HBC : Hid (Below w.heap.size w W5) := hW5 ▸ put2_below HB.out hwm
      try rw [hW5]
      clear hW5 HBo HMB H2m H0 HX HY HB y0 y1 m0 m1 mf hHeld hPY
      have HX := HXC
      have HMB := HMC
      have HB := HBC
      clear HXC HMC HBC
      have x0 := HX.out.blk.cell (j := 0) rfl
      have x1 := HX.out.blk.cell (j := 1) rfl
      have m0 := HMB.out.blk.cell (j := 0) rfl
      have m1 := HMB.out.blk.cell (j := 1) rfl
      have hPX := HX.out.blk.lt
      have hPM := HMB.out.blk.lt
      go_wp2_with fail
      rcases Hside.out with hs1 | hs1
      · have HC1 : cmpI X (1099511627775 * (Y : Int)) = 1 := by unfold cmpI; rw [if_neg (by omega), if_pos (by omega)]
        have HB := Lib.hid HB.out.drew
        have HX := Lib.hid (HX.out.call (Below.refl _ W5).drew)
        have HMB := Lib.hid (HMB.out.call (Below.refl _ W5).drew)
        refine wp_region_held_drew (S := fun w' => w'.cell? ⟨PX, 0, none⟩ = some (.bool xn) ∧ w'.cell? ⟨PX, 1, none⟩ = some (.slice xa xk xc) ∧ w'.cell? ⟨PM, 0, none⟩ = some (.bool mn) ∧ w'.cell? ⟨PM, 1, none⟩ = some (.slice ma mk mc)) (by kernel_rfl) ⟨x0, x1, m0, m1⟩ (fun hHeld => ?_)
        refine takeL 0 (v := ?_) rfl (by kernel_rfl) (by kernel_rfl) (by kernel_rfl) (fun _ _ _ h => h) (by rfl) (by assumption) ?hy0 ?_
        case hy0 => (intro w hSw; (try dsimp only at hSw); go_simp; all_goals (with_reducible rfl))
        (try simp only [Act.put, List.setIfInBounds_toArray, List.set_cons_zero, List.set_cons_succ])
        refine takeL 1 (v := ?_) rfl (by kernel_rfl) (by kernel_rfl) (by kernel_rfl) (fun _ _ _ h => h) (by rfl) (by assumption) ?hy1 ?_
        case hy1 => (intro w hSw; (try dsimp only at hSw); go_simp; all_goals (with_reducible rfl))
        (try simp only [Act.put, List.setIfInBounds_toArray, List.set_cons_zero, List.set_cons_succ])
        refine takeL 2 (v := ?_) rfl (by kernel_rfl) (by kernel_rfl) (by kernel_rfl) (fun _ _ _ h => h) (by rfl) (by assumption) ?hy2 ?_
        case hy2 => (intro w hSw; (try dsimp only at hSw); go_simp; all_goals (with_reducible rfl))
        (try simp only [Act.put, List.setIfInBounds_toArray, List.set_cons_zero, List.set_cons_succ])
        refine takeL 3 (v := ?_) rfl (by kernel_rfl) (by kernel_rfl) (by kernel_rfl) (fun _ _ _ h => h) (by rfl) (by assumption) ?hy3 ?_
        case hy3 => (intro w hSw; (try dsimp only at hSw); go_simp; all_goals (with_reducible rfl))
        (try simp only [Act.put, List.setIfInBounds_toArray, List.set_cons_zero, List.set_cons_succ])
        refine takeL 4 (v := ?_) rfl (by kernel_rfl) (by kernel_rfl) (by kernel_rfl) (fun _ _ _ h => h) (by rfl) (by assumption) ?hy4 ?_
        case hy4 => (intro w hSw; (try dsimp only at hSw); go_simp; all_goals (with_reducible rfl))
        (try simp only [Act.put, List.setIfInBounds_toArray, List.set_cons_zero, List.set_cons_succ])
        refine takeL 5 (v := ?_) rfl (by kernel_rfl) (by kernel_rfl) (by kernel_rfl) (fun _ _ _ h => h) (by rfl) (by assumption) ?hy5 ?_
        case hy5 => (intro w hSw; (try dsimp only at hSw); go_simp; all_goals (with_reducible rfl))
        (try simp only [Act.put, List.setIfInBounds_toArray, List.set_cons_zero, List.set_cons_succ])
        refine takeL 6 (v := ?_) rfl (by kernel_rfl) (by kernel_rfl) (by kernel_rfl) (fun _ _ _ h => h) (by rfl) (by assumption) ?hy6 ?_
        case hy6 => (intro w hSw; (try dsimp only at hSw); go_simp; all_goals (with_reducible rfl))
        (try simp only [Act.put, List.setIfInBounds_toArray, List.set_cons_zero, List.set_cons_succ])
        refine takeL 7 (v := ?_) rfl (by kernel_rfl) (by kernel_rfl) (by kernel_rfl) (fun _ _ _ h => h) (by rfl) (by assumption) ?hy7 ?_
        case hy7 => (intro w hSw; (try dsimp only at hSw); go_simp; all_goals (with_reducible rfl))
        (try simp only [Act.put, List.setIfInBounds_toArray, List.set_cons_zero, List.set_cons_succ])
        refine consL 8 (by kernel_rfl) rfl (by rfl) (fun K hK => ?_)
        go_simp
        go_at_call 15
        refine (cmp_any _ _ X (1099511627775 * (Y : Int)) _ HX.out.big HMB.out.big HLX.out HLM.out).mono ?_
        rintro e w8 ⟨rfl, hb8⟩
        have x0 := keepc hb8 hPX x0
        have x1 := keepc hb8 hPX x1
        have m0 := keepc hb8 hPM m0
        have m1 := keepc hb8 hPM m1
        have hPM := Nat.lt_of_lt_of_le hPM hb8.size
        have hPX := Nat.lt_of_lt_of_le hPX hb8.size
        have HX := Lib.hid (HX.out.call hb8)
        have HMB := Lib.hid (HMB.out.call hb8)
        have HB := Lib.hid (HB.out.trans (hb8.mono HB.out.size))
        clear hb8
        rw [HC1]
        clear hHeld
        refine hK.out _ _ ?hS8 (fun hHeld => ?_)
        case hS8 => ((try dsimp only); exact ⟨x0, x1, m0, m1⟩)
        clear hK K
        (try simp only [Act.put, List.setIfInBounds_toArray, List.set_cons_zero, List.set_cons_succ])
        refine takeL 9 (v := ?_) rfl (by kernel_rfl) (by kernel_rfl) (by kernel_rfl) (fun _ _ _ h => h) (by rfl) (by assumption) ?hy9 ?_
        case hy9 => (intro w hSw; (try dsimp only at hSw); go_simp; all_goals (with_reducible rfl))
        (try simp only [Act.put, List.setIfInBounds_toArray, List.set_cons_zero, List.set_cons_succ])
        refine takeL 10 (v := ?_) rfl (by kernel_rfl) (by kernel_rfl) (by kernel_rfl) (fun _ _ _ h => h) (by rfl) (by assumption) ?hy10 ?_
        case hy10 => (intro w hSw; (try dsimp only at hSw); go_simp; all_goals (with_reducible rfl))
        (try simp only [Act.put, List.setIfInBounds_toArray, List.set_cons_zero, List.set_cons_succ])
        refine skipL 11 rfl (by kernel_rfl) (by kernel_rfl) (by kernel_rfl) (fun _ _ _ h => h) (by rfl) (by assumption) ?_
        (try simp only [Act.put, List.setIfInBounds_toArray, List.set_cons_zero, List.set_cons_succ])
        refine skipL 12 rfl (by kernel_rfl) (by kernel_rfl) (by kernel_rfl) (fun _ _ _ h => h) (by rfl) (by assumption) ?_
        (try simp only [Act.put, List.setIfInBounds_toArray, List.set_cons_zero, List.set_cons_succ])
        refine skipL 13 rfl (by kernel_rfl) (by kernel_rfl) (by kernel_rfl) (fun _ _ _ h => h) (by rfl) (by assumption) ?_
        (try simp only [Act.put, List.setIfInBounds_toArray, List.set_cons_zero, List.set_cons_succ])
        refine skipL 14 rfl (by kernel_rfl) (by kernel_rfl) (by kernel_rfl) (fun _ _ _ h => h) (by rfl) (by assumption) ?_
        (try simp only [Act.put, List.setIfInBounds_toArray, List.set_cons_zero, List.set_cons_succ])
        refine skipL 15 rfl (by kernel_rfl) (by kernel_rfl) (by kernel_rfl) (fun _ _ _ h => h) (by rfl) (by assumption) ?_
        (try simp only [Act.put, List.setIfInBounds_toArray, List.set_cons_zero, List.set_cons_succ])
        refine takeL 16 (v := ?_) rfl (by kernel_rfl) (by kernel_rfl) (by kernel_rfl) (fun _ _ _ h => h) (by rfl) (by assumption) ?hy16 ?_
        case hy16 => (intro w hSw; (try dsimp only at hSw); go_simp; all_goals (with_reducible rfl))
        (try simp only [Act.put, List.setIfInBounds_toArray, List.set_cons_zero, List.set_cons_succ])
        refine takeL 17 (v := ?_) rfl (by kernel_rfl) (by kernel_rfl) (by kernel_rfl) (fun _ _ _ h => h) (by rfl) (by assumption) ?hy17 ?_
        case hy17 => (intro w hSw; (try dsimp only at hSw); go_simp; all_goals (with_reducible rfl))
        (try simp only [Act.put, List.setIfInBounds_toArray, List.set_cons_zero, List.set_cons_succ])
        refine takeL 18 (v := ?_) rfl (by kernel_rfl) (by kernel_rfl) (by kernel_rfl) (fun _ _ _ h => h) (by rfl) (by assumption) ?hy18 ?_
        case hy18 => (intro w hSw; (try dsimp only at hSw); go_simp; all_goals (with_reducible rfl))
        (try simp only [Act.put, List.setIfInBounds_toArray, List.set_cons_zero, List.set_cons_succ])
        refine consL 19 (by kernel_rfl) rfl (by rfl) (fun K hK => ?_)
        go_simp
        go_at_call 7
        refine (awake10_any _ (HT.out.below HB.out (Nat.le_refl _))).mono ?_
        rintro e w19 ⟨rfl, hb19⟩
        have x0 := keepc hb19 hPX x0
        have x1 := keepc hb19 hPX x1
        have m0 := keepc hb19 hPM m0
        have m1 := keepc hb19 hPM m1
        have hPM := Nat.lt_of_lt_of_le hPM hb19.size
        have hPX := Nat.lt_of_lt_of_le hPX hb19.size
        have HX := Lib.hid (HX.out.call hb19)
        have HMB := Lib.hid (HMB.out.call hb19)
        have HB := Lib.hid (HB.out.trans (hb19.mono HB.out.size))
        clear hb19
        clear hHeld
        refine hK.out _ _ ?hS19 (fun hHeld => ?_)
        case hS19 => ((try dsimp only); exact ⟨x0, x1, m0, m1⟩)
        clear hK K
        (try simp only [Act.put, List.setIfInBounds_toArray, List.set_cons_zero, List.set_cons_succ])
        refine takeL 20 (v := ?_) rfl (by kernel_rfl) (by kernel_rfl) (by kernel_rfl) (fun _ _ _ h => h) (by rfl) (by assumption) ?hy20 ?_
        case hy20 => (intro w hSw; (try dsimp only at hSw); go_simp; all_goals (with_reducible rfl))
        (try simp only [Act.put, List.setIfInBounds_toArray, List.set_cons_zero, List.set_cons_succ])
        refine takeL 21 (v := ?_) rfl (by kernel_rfl) (by kernel_rfl) (by kernel_rfl) (fun _ _ _ h => h) (by rfl) (by assumption) ?hy21 ?_
        case hy21 => (intro w hSw; (try dsimp only at hSw); go_simp; all_goals (with_reducible rfl))
        (try simp only [Act.put, List.setIfInBounds_toArray, List.set_cons_zero, List.set_cons_succ])
        refine wpAnyH_done (by kernel_rfl) ?_ _
        clear x0 x1 m0 m1 HX HMB hPX hPM hHeld
        go_wp2_with fail
        go_ret
        exact ⟨rfl, HB.out⟩
      · have HC1 : cmpI X (1099511627775 * (Y : Int)) = -1 := by unfold cmpI; rw [if_pos (by omega)]
        have HC2 : cmpI X (-(1099511627775 * (Y : Int))) = -1 := by unfold cmpI; rw [if_pos (by omega)]
        have HB := Lib.hid HB.out.drew
        have HX := Lib.hid (HX.out.call (Below.refl _ W5).drew)
        have HMB := Lib.hid (HMB.out.call (Below.refl _ W5).drew)
        refine wp_region_held_drew (S := fun w' => w'.cell? ⟨PX, 0, none⟩ = some (.bool xn) ∧ w'.cell? ⟨PX, 1, none⟩ = some (.slice xa xk xc) ∧ w'.cell? ⟨PM, 0, none⟩ = some (.bool mn) ∧ w'.cell? ⟨PM, 1, none⟩ = some (.slice ma mk mc)) (by kernel_rfl) ⟨x0, x1, m0, m1⟩ (fun hHeld => ?_)
        refine takeL 0 (v := ?_) rfl (by kernel_rfl) (by kernel_rfl) (by kernel_rfl) (fun _ _ _ h => h) (by rfl) (by assumption) ?hy0 ?_
        case hy0 => (intro w hSw; (try dsimp only at hSw); go_simp; all_goals (with_reducible rfl))
        (try simp only [Act.put, List.setIfInBounds_toArray, List.set_cons_zero, List.set_cons_succ])
        refine takeL 1 (v := ?_) rfl (by kernel_rfl) (by kernel_rfl) (by kernel_rfl) (fun _ _ _ h => h) (by rfl) (by assumption) ?hy1 ?_
        case hy1 => (intro w hSw; (try dsimp only at hSw); go_simp; all_goals (with_reducible rfl))
        (try simp only [Act.put, List.setIfInBounds_toArray, List.set_cons_zero, List.set_cons_succ])
        refine takeL 2 (v := ?_) rfl (by kernel_rfl) (by kernel_rfl) (by kernel_rfl) (fun _ _ _ h => h) (by rfl) (by assumption) ?hy2 ?_
        case hy2 => (intro w hSw; (try dsimp only at hSw); go_simp; all_goals (with_reducible rfl))
        (try simp only [Act.put, List.setIfInBounds_toArray, List.set_cons_zero, List.set_cons_succ])
        refine takeL 3 (v := ?_) rfl (by kernel_rfl) (by kernel_rfl) (by kernel_rfl) (fun _ _ _ h => h) (by rfl) (by assumption) ?hy3 ?_
        case hy3 => (intro w hSw; (try dsimp only at hSw); go_simp; all_goals (with_reducible rfl))
        (try simp only [Act.put, List.setIfInBounds_toArray, List.set_cons_zero, List.set_cons_succ])
        refine takeL 4 (v := ?_) rfl (by kernel_rfl) (by kernel_rfl) (by kernel_rfl) (fun _ _ _ h => h) (by rfl) (by assumption) ?hy4 ?_
        case hy4 => (intro w hSw; (try dsimp only at hSw); go_simp; all_goals (with_reducible rfl))
        (try simp only [Act.put, List.setIfInBounds_toArray, List.set_cons_zero, List.set_cons_succ])
        refine takeL 5 (v := ?_) rfl (by kernel_rfl) (by kernel_rfl) (by kernel_rfl) (fun _ _ _ h => h) (by rfl) (by assumption) ?hy5 ?_
        case hy5 => (intro w hSw; (try dsimp only at hSw); go_simp; all_goals (with_reducible rfl))
        (try simp only [Act.put, List.setIfInBounds_toArray, List.set_cons_zero, List.set_cons_succ])
        refine takeL 6 (v := ?_) rfl (by kernel_rfl) (by kernel_rfl) (by kernel_rfl) (fun _ _ _ h => h) (by rfl) (by assumption) ?hy6 ?_
        case hy6 => (intro w hSw; (try dsimp only at hSw); go_simp; all_goals (with_reducible rfl))
        (try simp only [Act.put, List.setIfInBounds_toArray, List.set_cons_zero, List.set_cons_succ])
        refine takeL 7 (v := ?_) rfl (by kernel_rfl) (by kernel_rfl) (by kernel_rfl) (fun _ _ _ h => h) (by rfl) (by assumption) ?hy7 ?_
        case hy7 => (intro w hSw; (try dsimp only at hSw); go_simp; all_goals (with_reducible rfl))
        (try simp only [Act.put, List.setIfInBounds_toArray, List.set_cons_zero, List.set_cons_succ])
        refine consL 8 (by kernel_rfl) rfl (by rfl) (fun K hK => ?_)
        go_simp
        go_at_call 15
        refine (cmp_any _ _ X (1099511627775 * (Y : Int)) _ HX.out.big HMB.out.big HLX.out HLM.out).mono ?_
        rintro e w8 ⟨rfl, hb8⟩
        have x0 := keepc hb8 hPX x0
        have x1 := keepc hb8 hPX x1
        have m0 := keepc hb8 hPM m0
        have m1 := keepc hb8 hPM m1
        have hPM := Nat.lt_of_lt_of_le hPM hb8.size
        have hPX := Nat.lt_of_lt_of_le hPX hb8.size
        have HX := Lib.hid (HX.out.call hb8)
        have HMB := Lib.hid (HMB.out.call hb8)
        have HB := Lib.hid (HB.out.trans (hb8.mono HB.out.size))
        clear hb8
        rw [HC1]
        clear hHeld
        refine hK.out _ _ ?hS8 (fun hHeld => ?_)
        case hS8 => ((try dsimp only); exact ⟨x0, x1, m0, m1⟩)
        clear hK K
        (try simp only [Act.put, List.setIfInBounds_toArray, List.set_cons_zero, List.set_cons_succ])
        refine takeL 9 (v := ?_) rfl (by kernel_rfl) (by kernel_rfl) (by kernel_rfl) (fun _ _ _ h => h) (by rfl) (by assumption) ?hy9 ?_
        case hy9 => (intro w hSw; (try dsimp only at hSw); go_simp; all_goals (with_reducible rfl))
        (try simp only [Act.put, List.setIfInBounds_toArray, List.set_cons_zero, List.set_cons_succ])
        refine takeL 10 (v := ?_) rfl (by kernel_rfl) (by kernel_rfl) (by kernel_rfl) (fun _ _ _ h => h) (by rfl) (by assumption) ?hy10 ?_
        case hy10 => (intro w hSw; (try dsimp only at hSw); go_simp; all_goals (with_reducible rfl))
        (try simp only [Act.put, List.setIfInBounds_toArray, List.set_cons_zero, List.set_cons_succ])
        refine takeL 11 (v := ?_) rfl (by kernel_rfl) (by kernel_rfl) (by kernel_rfl) (fun _ _ _ h => h) (by rfl) (by assumption) ?hy11 ?_
        case hy11 => (intro w hSw; (try dsimp only at hSw); go_simp; all_goals (with_reducible rfl))
        (try simp only [Act.put, List.setIfInBounds_toArray, List.set_cons_zero, List.set_cons_succ])
        refine takeL 12 (v := ?_) rfl (by kernel_rfl) (by kernel_rfl) (by kernel_rfl) (fun _ _ _ h => h) (by rfl) (by assumption) ?hy12 ?_
        case hy12 => (intro w hSw; (try dsimp only at hSw); go_simp; all_goals (with_reducible rfl))
        (try simp only [Act.put, List.setIfInBounds_toArray, List.set_cons_zero, List.set_cons_succ])
        refine consL 13 (by kernel_rfl) rfl (by rfl) (fun K hK => ?_)
        go_simp
        go_at_call 17
        refine (minus_any _ _ _ HMB.out.big).mono ?_
        rintro e w13 ⟨v13, rfl, H13, hb13⟩
        have x0 := keepc hb13 hPX x0
        have x1 := keepc hb13 hPX x1
        have m0 := keepc hb13 hPM m0
        have m1 := keepc hb13 hPM m1
        have hPM := Nat.lt_of_lt_of_le hPM hb13.size
        have hPX := Nat.lt_of_lt_of_le hPX hb13.size
        have HX := Lib.hid (HX.out.call hb13)
        have HMB := Lib.hid (HMB.out.call hb13)
        have HB := Lib.hid (HB.out.trans (hb13.mono HB.out.size))
        clear hb13
        have H13 := Lib.hid H13
        clear hHeld
        refine hK.out _ _ ?hS13 (fun hHeld => ?_)
        case hS13 => ((try dsimp only); exact ⟨x0, x1, m0, m1⟩)
        clear hK K
        (try simp only [Act.put, List.setIfInBounds_toArray, List.set_cons_zero, List.set_cons_succ])
        refine consL 14 (by kernel_rfl) rfl (by rfl) (fun K hK => ?_)
        go_simp
        go_at_call 15
        refine (cmp_any _ _ X (-(1099511627775 * (Y : Int))) _ HX.out.big H13.out HLX.out (by rw [Int.natAbs_neg]; exact HLM.out)).mono ?_
        rintro e w14 ⟨rfl, hb14⟩
        have x0 := keepc hb14 hPX x0
        have x1 := keepc hb14 hPX x1
        have m0 := keepc hb14 hPM m0
        have m1 := keepc hb14 hPM m1
        have hPM := Nat.lt_of_lt_of_le hPM hb14.size
        have hPX := Nat.lt_of_lt_of_le hPX hb14.size
        have HX := Lib.hid (HX.out.call hb14)
        have HMB := Lib.hid (HMB.out.call hb14)
        have H13 := Lib.hid (H13.out.call hb14)
        have HB := Lib.hid (HB.out.trans (hb14.mono HB.out.size))
        clear hb14
        rw [HC2]
        clear hHeld
        refine hK.out _ _ ?hS14 (fun hHeld => ?_)
        case hS14 => ((try dsimp only); exact ⟨x0, x1, m0, m1⟩)
        clear hK K
        (try simp only [Act.put, List.setIfInBounds_toArray, List.set_cons_zero, List.set_cons_succ])
        refine takeL 15 (v := ?_) rfl (by kernel_rfl) (by kernel_rfl) (by kernel_rfl) (fun _ _ _ h => h) (by rfl) (by assumption) ?hy15 ?_
        case hy15 => (intro w hSw; (try dsimp only at hSw); go_simp; all_goals (with_reducible rfl))
        (try simp only [Act.put, List.setIfInBounds_toArray, List.set_cons_zero, List.set_cons_succ])
        refine takeL 16 (v := ?_) rfl (by kernel_rfl) (by kernel_rfl) (by kernel_rfl) (fun _ _ _ h => h) (by rfl) (by assumption) ?hy16 ?_
        case hy16 => (intro w hSw; (try dsimp only at hSw); go_simp; all_goals (with_reducible rfl))
        (try simp only [Act.put, List.setIfInBounds_toArray, List.set_cons_zero, List.set_cons_succ])
        refine takeL 17 (v := ?_) rfl (by kernel_rfl) (by kernel_rfl) (by kernel_rfl) (fun _ _ _ h => h) (by rfl) (by assumption) ?hy17 ?_
        case hy17 => (intro w hSw; (try dsimp only at hSw); go_simp; all_goals (with_reducible rfl))
        (try simp only [Act.put, List.setIfInBounds_toArray, List.set_cons_zero, List.set_cons_succ])
        refine takeL 18 (v := ?_) rfl (by kernel_rfl) (by kernel_rfl) (by kernel_rfl) (fun _ _ _ h => h) (by rfl) (by assumption) ?hy18 ?_
        case hy18 => (intro w hSw; (try dsimp only at hSw); go_simp; all_goals (with_reducible rfl))
        (try simp only [Act.put, List.setIfInBounds_toArray, List.set_cons_zero, List.set_cons_succ])
        refine consL 19 (by kernel_rfl) rfl (by rfl) (fun K hK => ?_)
        go_simp
        go_at_call 7
        refine (awake10_any _ (HT.out.below HB.out (Nat.le_refl _))).mono ?_
        rintro e w19 ⟨rfl, hb19⟩
        have x0 := keepc hb19 hPX x0
        have x1 := keepc hb19 hPX x1
        have m0 := keepc hb19 hPM m0
        have m1 := keepc hb19 hPM m1
        have hPM := Nat.lt_of_lt_of_le hPM hb19.size
        have hPX := Nat.lt_of_lt_of_le hPX hb19.size
        have HX := Lib.hid (HX.out.call hb19)
        have HMB := Lib.hid (HMB.out.call hb19)
        have H13 := Lib.hid (H13.out.call hb19)
        have HB := Lib.hid (HB.out.trans (hb19.mono HB.out.size))
        clear hb19
        clear hHeld
        refine hK.out _ _ ?hS19 (fun hHeld => ?_)
        case hS19 => ((try dsimp only); exact ⟨x0, x1, m0, m1⟩)
        clear hK K
        (try simp only [Act.put, List.setIfInBounds_toArray, List.set_cons_zero, List.set_cons_succ])
        refine takeL 20 (v := ?_) rfl (by kernel_rfl) (by kernel_rfl) (by kernel_rfl) (fun _ _ _ h => h) (by rfl) (by assumption) ?hy20 ?_
        case hy20 => (intro w hSw; (try dsimp only at hSw); go_simp; all_goals (with_reducible rfl))
        (try simp only [Act.put, List.setIfInBounds_toArray, List.set_cons_zero, List.set_cons_succ])
        refine takeL 21 (v := ?_) rfl (by kernel_rfl) (by kernel_rfl) (by kernel_rfl) (fun _ _ _ h => h) (by rfl) (by assumption) ?hy21 ?_
        case hy21 => (intro w hSw; (try dsimp only at hSw); go_simp; all_goals (with_reducible rfl))
        (try simp only [Act.put, List.setIfInBounds_toArray, List.set_cons_zero, List.set_cons_succ])
        refine wpAnyH_done (by kernel_rfl) ?_ _
        clear x0 x1 m0 m1 HX HMB hPX hPM hHeld
        go_wp2_with fail
        go_ret
        exact ⟨rfl, HB.out⟩
    · go_simp
      obtain ⟨wa, hwa⟩ : ∃ wa, World.alloc w0 (.cells #[.bool false, .slice none 0 0] 29) = wa := ⟨_, rfl⟩
      have hba : Below w0.heap.size w0 wa := hwa ▸ (show Below _ w0 (World.alloc w0 (.cells #[.bool false, .slice none 0 0] 29)) from (Below.refl _ w0).alloc (Nat.le_refl _) _)
      obtain ⟨PM, hPMe⟩ : ∃ P, P = w0.heap.size := ⟨_, rfl⟩
      have HMB : Hid (Blk wa PM [.bool false, .slice none 0 0] 29) := hPMe ▸ hwa ▸ (show Blk (World.alloc w0 (.cells #[.bool false, .slice none 0 0] 29)) w0.heap.size [.bool false, .slice none 0 0] 29 from Blk.new w0 _ _)
      have hxm : PX < PM := by rw [hPMe]; exact HX.out.blk.lt
      have hym : PY < PM := by rw [hPMe]; exact HY.out.blk.lt
      have hwm : w.heap.size ≤ PM := by rw [hPMe]; exact HB.out.size
      try rw [hwa]
      try rw [← hPMe]
      clear hwa hPMe
      have y0 := keepc hba hPY y0
      have y1 := keepc hba hPY y1
      have hPY := Nat.lt_of_lt_of_le hPY hba.size
      have HX := Lib.hid (HX.out.call hba)
      have HY := Lib.hid (HY.out.call hba)
      have H0 := Lib.hid (H0.out.call hba)
      have HB := Lib.hid (HB.out.trans (hba.mono HB.out.size))
      clear hba
      clear hHeld
      refine hK.out _ _ ?hS3 (fun hHeld => ?_)
      case hS3 => ((try dsimp only); exact ⟨y0, y1⟩)
      clear hK K
      (try simp only [Act.put, List.setIfInBounds_toArray, List.set_cons_zero, List.set_cons_succ])
      refine consL 2 (by kernel_rfl) rfl (by rfl) (fun K hK => ?_)
      go_simp
      go_at_call 13
      refine (mul_any _ _ 1099511627775 (Y : Int) _ H0.out HY.out.big HLc.out HLY.out).mono ?_
      rintro e w2 ⟨v2, rfl, H2m, hb2⟩
      have y0 := keepc hb2 hPY y0
      have y1 := keepc hb2 hPY y1
      have hPY := Nat.lt_of_lt_of_le hPY hb2.size
      have HX := Lib.hid (HX.out.call hb2)
      have HY := Lib.hid (HY.out.call hb2)
      have H0 := Lib.hid (H0.out.call hb2)
      have HMB := Lib.hid (HMB.out.call hb2)
      have HB := Lib.hid (HB.out.trans (hb2.mono HB.out.size))
      clear hb2
      obtain ⟨mn, ma, mk, mc, rfl⟩ := H2m.form
      have H2m := Lib.hid H2m
      have hpx := HX.out.blk.lt
      clear hHeld
      refine hK.out _ _ ?hS2 (fun hHeld => ?_)
      case hS2 => ((try dsimp only); exact ⟨y0, y1⟩)
      clear hK K
      (try simp only [Act.put, List.setIfInBounds_toArray, List.set_cons_zero, List.set_cons_succ])
      refine consL 4 (by kernel_rfl) rfl (by rfl) (fun K hK => ?_)
      have m0 := HMB.out.cell (j := 0) rfl
      have m1 := HMB.out.cell (j := 1) rfl
      have mf := HMB.out.frozen
      go_simp
      clear hHeld
      refine hK.out _ _ ?hS4 (fun hHeld => ?_)
      case hS4 => ((try dsimp only); exact ⟨keeps2 (by omega) y0, keeps2 (by omega) y1⟩)
      clear hK K
      (try simp only [Act.put, List.setIfInBounds_toArray, List.set_cons_zero, List.set_cons_succ])
      refine wpAnyH_done (by kernel_rfl) ?_ _
      obtain ⟨W5, hW5⟩ : ∃ W, (w2.setCell ⟨PM, 0, none⟩ (.bool mn)).setCell ⟨PM, 1, none⟩ (.slice ma mk mc) = W := ⟨_, rfl⟩
      have HBo : Hid (Bx w2 PM (false, none, 0, 0) 0) := ⟨HMB.out, big_zero _⟩
      have HMC : Hid (Bx W5 PM (mn, ma, mk, mc) (1099511627775 * (Y : Int))) := hW5 ▸ ⟨put2 HMB.out, H2m.out.keep (keep_put HMB.out _ _)⟩
      have HXC : Hid (Bx W5 PX (xn, xa, xk, xc) X) := hW5 ▸ HX.out.put HBo.out (by omega) _ _
      have HBC : Hid (Below w.heap.size w W5) := hW5 ▸ put2_below HB.out hwm
      try rw [hW5]
      clear hW5 HBo HMB H2m H0 HX HY HB y0 y1 m0 m1 mf hHeld hPY
      have HX := HXC
      have HMB := HMC
      have HB := HBC
      clear HXC HMC HBC
      have x0 := HX.out.blk.cell (j := 0) rfl
      have x1 := HX.out.blk.cell (j := 1) rfl
      have m0 := HMB.out.blk.cell (j := 0) rfl
      have m1 := HMB.out.blk.cell (j := 1) rfl
      have hPX := HX.out.blk.lt
      have hPM := HMB.out.blk.lt
      go_wp2_with fail
      rcases Hside.out with hs1 | hs1
      · have HC1 : cmpI X (1099511627775 * (Y : Int)) = 1 := by unfold cmpI; rw [if_neg (by omega), if_pos (by omega)]
        have HB := Lib.hid HB.out.drew
        have HX := Lib.hid (HX.out.call (Below.refl _ W5).drew)
        have HMB := Lib.hid (HMB.out.call (Below.refl _ W5).drew)
        refine wp_region_held_drew (S := fun w' => w'.cell? ⟨PX, 0, none⟩ = some (.bool xn) ∧ w'.cell? ⟨PX, 1, none⟩ = some (.slice xa xk xc) ∧ w'.cell? ⟨PM, 0, none⟩ = some (.bool mn) ∧ w'.cell? ⟨PM, 1, none⟩ = some (.slice ma mk mc)) (by kernel_rfl) ⟨x0, x1, m0, m1⟩ (fun hHeld => ?_)
        refine takeL 0 (v := ?_) rfl (by kernel_rfl) (by kernel_rfl) (by kernel_rfl) (fun _ _ _ h => h) (by rfl) (by assumption) ?hy0 ?_
        case hy0 => (intro w hSw; (try dsimp only at hSw); go_simp; all_goals (with_reducible rfl))
        (try simp only [Act.put, List.setIfInBounds_toArray, List.set_cons_zero, List.set_cons_succ])
        refine takeL 1 (v := ?_) rfl (by kernel_rfl) (by kernel_rfl) (by kernel_rfl) (fun _ _ _ h => h) (by rfl) (by assumption) ?hy1 ?_
        case hy1 => (intro w hSw; (try dsimp only at hSw); go_simp; all_goals (with_reducible rfl))
        (try simp only [Act.put, List.setIfInBounds_toArray, List.set_cons_zero, List.set_cons_succ])
        refine takeL 2 (v := ?_) rfl (by kernel_rfl) (by kernel_rfl) (by kernel_rfl) (fun _ _ _ h => h) (by rfl) (by assumption) ?hy2 ?_
        case hy2 => (intro w hSw; (try dsimp only at hSw); go_simp; all_goals (with_reducible rfl))
        (try simp only [Act.put, List.setIfInBounds_toArray, List.set_cons_zero, List.set_cons_succ])
        refine takeL 3 (v := ?_) rfl (by kernel_rfl) (by kernel_rfl) (by kernel_rfl) (fun _ _ _ h => h) (by rfl) (by assumption) ?hy3 ?_
        case hy3 => (intro w hSw; (try dsimp only at hSw); go_simp; all_goals (with_reducible rfl))
        (try simp only [Act.put, List.setIfInBounds_toArray, List.set_cons_zero, List.set_cons_succ])
        refine takeL 4 (v := ?_) rfl (by kernel_rfl) (by kernel_rfl) (by kernel_rfl) (fun _ _ _ h => h) (by rfl) (by assumption) ?hy4 ?_
        case hy4 => (intro w hSw; (try dsimp only at hSw); go_simp; all_goals (with_reducible rfl))
        (try simp only [Act.put, List.setIfInBounds_toArray, List.set_cons_zero, List.set_cons_succ])
        refine takeL 5 (v := ?_) rfl (by kernel_rfl) (by kernel_rfl) (by kernel_rfl) (fun _ _ _ h => h) (by rfl) (by assumption) ?hy5 ?_
        case hy5 => (intro w hSw; (try dsimp only at hSw); go_simp; all_goals (with_reducible rfl))
        (try simp only [Act.put, List.setIfInBounds_toArray, List.set_cons_zero, List.set_cons_succ])
        refine takeL 6 (v := ?_) rfl (by kernel_rfl) (by kernel_rfl) (by kernel_rfl) (fun _ _ _ h => h) (by rfl) (by assumption) ?hy6 ?_
        case hy6 => (intro w hSw; (try dsimp only at hSw); go_simp; all_goals (with_reducible rfl))
        (try simp only [Act.put, List.setIfInBounds_toArray, List.set_cons_zero, List.set_cons_succ])
        refine takeL 7 (v := ?_) rfl (by kernel_rfl) (by kernel_rfl) (by kernel_rfl) (fun _ _ _ h => h) (by rfl) (by assumption) ?hy7 ?_
        case hy7 => (intro w hSw; (try dsimp only at hSw); go_simp; all_goals (with_reducible rfl))
        (try simp only [Act.put, List.setIfInBounds_toArray, List.set_cons_zero, List.set_cons_succ])
        refine consL 8 (by kernel_rfl) rfl (by rfl) (fun K hK => ?_)
        go_simp
        go_at_call 15
        refine (cmp_any _ _ X (1099511627775 * (Y : Int)) _ HX.out.big HMB.out.big HLX.out HLM.out).mono ?_
        rintro e w8 ⟨rfl, hb8⟩
        have x0 := keepc hb8 hPX x0
        have x1 := keepc hb8 hPX x1
        have m0 := keepc hb8 hPM m0
        have m1 := keepc hb8 hPM m1
        have hPM := Nat.lt_of_lt_of_le hPM hb8.size
        have hPX := Nat.lt_of_lt_of_le hPX hb8.size
        have HX := Lib.hid (HX.out.call hb8)
        have HMB := Lib.hid (HMB.out.call hb8)
        have HB := Lib.hid (HB.out.trans (hb8.mono HB.out.size))
        clear hb8
        rw [HC1]
        clear hHeld
        refine hK.out _ _ ?hS8 (fun hHeld => ?_)
        case hS8 => ((try dsimp only); exact ⟨x0, x1, m0, m1⟩)
        clear hK K
        (try simp only [Act.put, List.setIfInBounds_toArray, List.set_cons_zero, List.set_cons_succ])
        refine takeL 9 (v := ?_) rfl (by kernel_rfl) (by kernel_rfl) (by kernel_rfl) (fun _ _ _ h => h) (by rfl) (by assumption) ?hy9 ?_
        case hy9 => (intro w hSw; (try dsimp only at hSw); go_simp; all_goals (with_reducible rfl))
        (try simp only [Act.put, List.setIfInBounds_toArray, List.set_cons_zero, List.set_cons_succ])
        refine takeL 10 (v := ?_) rfl (by kernel_rfl) (by kernel_rfl) (by kernel_rfl) (fun _ _ _ h => h) (by rfl) (by assumption) ?hy10 ?_
        case hy10 => (intro w hSw; (try dsimp only at hSw); go_simp; all_goals (with_reducible rfl))
        (try simp only [Act.put, List.setIfInBounds_toArray, List.set_cons_zero, List.set_cons_succ])
        refine skipL 11 rfl (by kernel_rfl) (by kernel_rfl) (by kernel_rfl) (fun _ _ _ h => h) (by rfl) (by assumption) ?_
        (try simp only [Act.put, List.setIfInBounds_toArray, List.set_cons_zero, List.set_cons_succ])
        refine skipL 12 rfl (by kernel_rfl) (by kernel_rfl) (by kernel_rfl) (fun _ _ _ h => h) (by rfl) (by assumption) ?_
        (try simp only [Act.put, List.setIfInBounds_toArray, List.set_cons_zero, List.set_cons_succ])
        refine skipL 13 rfl (by kernel_rfl) (by kernel_rfl) (by kernel_rfl) (fun _ _ _ h => h) (by rfl) (by assumption) ?_
        (try simp only [Act.put, List.setIfInBounds_toArray, List.set_cons_zero, List.set_cons_succ])
        refine skipL 14 rfl (by kernel_rfl) (by kernel_rfl) (by kernel_rfl) (fun _ _ _ h => h) (by rfl) (by assumption) ?_
        (try simp only [Act.put, List.setIfInBounds_toArray, List.set_cons_zero, List.set_cons_succ])
        refine skipL 15 rfl (by kernel_rfl) (by kernel_rfl) (by kernel_rfl) (fun _ _ _ h => h) (by rfl) (by assumption) ?_
        (try simp only [Act.put, List.setIfInBounds_toArray, List.set_cons_zero, List.set_cons_succ])
        refine takeL 16 (v := ?_) rfl (by kernel_rfl) (by kernel_rfl) (by kernel_rfl) (fun _ _ _ h => h) (by rfl) (by assumption) ?hy16 ?_
        case hy16 => (intro w hSw; (try dsimp only at hSw); go_simp; all_goals (with_reducible rfl))
        (try simp only [Act.put, List.setIfInBounds_toArray, List.set_cons_zero, List.set_cons_succ])
        refine takeL 17 (v := ?_) rfl (by kernel_rfl) (by kernel_rfl) (by kernel_rfl) (fun _ _ _ h => h) (by rfl) (by assumption) ?hy17 ?_
        case hy17 => (intro w hSw; (try dsimp only at hSw); go_simp; all_goals (with_reducible rfl))
        (try simp only [Act.put, List.setIfInBounds_toArray, List.set_cons_zero, List.set_cons_succ])
        refine takeL 18 (v := ?_) rfl (by kernel_rfl) (by kernel_rfl) (by kernel_rfl) (fun _ _ _ h => h) (by rfl) (by assumption) ?hy18 ?_
        case hy18 => (intro w hSw; (try dsimp only at hSw); go_simp; all_goals (with_reducible rfl))
        (try simp only [Act.put, List.setIfInBounds_toArray, List.set_cons_zero, List.set_cons_succ])
        refine consL 19 (by kernel_rfl) rfl (by rfl) (fun K hK => ?_)
        go_simp
        go_at_call 7
        refine (awake10_any _ (HT.out.below HB.out (Nat.le_refl _))).mono ?_
        rintro e w19 ⟨rfl, hb19⟩
        have x0 := keepc hb19 hPX x0
        have x1 := keepc hb19 hPX x1
        have m0 := keepc hb19 hPM m0
        have m1 := keepc hb19 hPM m1
        have hPM := Nat.lt_of_lt_of_le hPM hb19.size
        have hPX := Nat.lt_of_lt_of_le hPX hb19.size
        have HX := Lib.hid (HX.out.call hb19)
        have HMB := Lib.hid (HMB.out.call hb19)
        have HB := Lib.hid (HB.out.trans (hb19.mono HB.out.size))
        clear hb19
        clear hHeld
        refine hK.out _ _ ?hS19 (fun hHeld => ?_)
        case hS19 => ((try dsimp only); exact ⟨x0, x1, m0, m1⟩)
        clear hK K
        (try simp only [Act.put, List.setIfInBounds_toArray, List.set_cons_zero, List.set_cons_succ])
        refine takeL 20 (v := ?_) rfl (by kernel_rfl) (by kernel_rfl) (by kernel_rfl) (fun _ _ _ h => h) (by rfl) (by assumption) ?hy20 ?_
        case hy20 => (intro w hSw; (try dsimp only at hSw); go_simp; all_goals (with_reducible rfl))
        (try simp only [Act.put, List.setIfInBounds_toArray, List.set_cons_zero, List.set_cons_succ])
        refine takeL 21 (v := ?_) rfl (by kernel_rfl) (by kernel_rfl) (by kernel_rfl) (fun _ _ _ h => h) (by rfl) (by assumption) ?hy21 ?_
        case hy21 => (intro w hSw; (try dsimp only at hSw); go_simp; all_goals (with_reducible rfl))
        (try simp only [Act.put, List.setIfInBounds_toArray, List.set_cons_zero, List.set_cons_succ])
        refine wpAnyH_done (by kernel_rfl) ?_ _
        clear x0 x1 m0 m1 HX HMB hPX hPM hHeld
        go_wp2_with fail
        go_ret
        exact ⟨rfl, HB.out⟩
      · have HC1 : cmpI X (1099511627775 * (Y : Int)) = -1 := by unfold cmpI; rw [if_pos (by omega)]
        have HC2 : cmpI X (-(1099511627775 * (Y : Int))) = -1 := by unfold cmpI; rw [if_pos (by omega)]
        have HB := Lib.hid HB.out.drew
        have HX := Lib.hid (HX.out.call (Below.refl _ W5).drew)
        have HMB := Lib.hid (HMB.out.call (Below.refl _ W5).drew)
        refine wp_region_held_drew (S := fun w' => w'.cell? ⟨PX, 0, none⟩ = some (.bool xn) ∧ w'.cell? ⟨PX, 1, none⟩ = some (.slice xa xk xc) ∧ w'.cell? ⟨PM, 0, none⟩ = some (.bool mn) ∧ w'.cell? ⟨PM, 1, none⟩ = some (.slice ma mk mc)) (by kernel_rfl) ⟨x0, x1, m0, m1⟩ (fun hHeld => ?_)
        refine takeL 0 (v := ?_) rfl (by kernel_rfl) (by kernel_rfl) (by kernel_rfl) (fun _ _ _ h => h) (by rfl) (by assumption) ?hy0 ?_
        case hy0 => (intro w hSw; (try dsimp only at hSw); go_simp; all_goals (with_reducible rfl))
        (try simp only [Act.put, List.setIfInBounds_toArray, List.set_cons_zero, List.set_cons_succ])
        refine takeL 1 (v := ?_) rfl (by kernel_rfl) (by kernel_rfl) (by kernel_rfl) (fun _ _ _ h => h) (by rfl) (by assumption) ?hy1 ?_
        case hy1 => (intro w hSw; (try dsimp only at hSw); go_simp; all_goals (with_reducible rfl))
        (try simp only [Act.put, List.setIfInBounds_toArray, List.set_cons_zero, List.set_cons_succ])
        refine takeL 2 (v := ?_) rfl (by kernel_rfl) (by kernel_rfl) (by kernel_rfl) (fun _ _ _ h => h) (by rfl) (by assumption) ?hy2 ?_
        case hy2 => (intro w hSw; (try dsimp only at hSw); go_simp; all_goals (with_reducible rfl))
        (try simp only [Act.put, List.setIfInBounds_toArray, List.set_cons_zero, List.set_cons_succ])
        refine takeL 3 (v := ?_) rfl (by kernel_rfl) (by kernel_rfl) (by kernel_rfl) (fun _ _ _ h => h) (by rfl) (by assumption) ?hy3 ?_
        case hy3 => (intro w hSw; (try dsimp only at hSw); go_simp; all_goals (with_reducible rfl))
        (try simp only [Act.put, List.setIfInBounds_toArray, List.set_cons_zero, List.set_cons_succ])
        refine takeL 4 (v := ?_) rfl (by kernel_rfl) (by kernel_rfl) (by kernel_rfl) (fun _ _ _ h => h) (by rfl) (by assumption) ?hy4 ?_
        case hy4 => (intro w hSw; (try dsimp only at hSw); go_simp; all_goals (with_reducible rfl))
        (try simp only [Act.put, List.setIfInBounds_toArray, List.set_cons_zero, List.set_cons_succ])
        refine takeL 5 (v := ?_) rfl (by kernel_rfl) (by kernel_rfl) (by kernel_rfl) (fun _ _ _ h => h) (by rfl) (by assumption) ?hy5 ?_
        case hy5 => (intro w hSw; (try dsimp only at hSw); go_simp; all_goals (with_reducible rfl))
        (try simp only [Act.put, List.setIfInBounds_toArray, List.set_cons_zero, List.set_cons_succ])
        refine takeL 6 (v := ?_) rfl (by kernel_rfl) (by kernel_rfl) (by kernel_rfl) (fun _ _ _ h => h) (by rfl) (by assumption) ?hy6 ?_
        case hy6 => (intro w hSw; (try dsimp only at hSw); go_simp; all_goals (with_reducible rfl))
        (try simp only [Act.put, List.setIfInBounds_toArray, List.set_cons_zero, List.set_cons_succ])
        refine takeL 7 (v := ?_) rfl (by kernel_rfl) (by kernel_rfl) (by kernel_rfl) (fun _ _ _ h => h) (by rfl) (by assumption) ?hy7 ?_
        case hy7 => (intro w hSw; (try dsimp only at hSw); go_simp; all_goals (with_reducible rfl))
        (try simp only [Act.put, List.setIfInBounds_toArray, List.set_cons_zero, List.set_cons_succ])
        refine consL 8 (by kernel_rfl) rfl (by rfl) (fun K hK => ?_)
        go_simp
        go_at_call 15
        refine (cmp_any _ _ X (1099511627775 * (Y : Int)) _ HX.out.big HMB.out.big HLX.out HLM.out).mono ?_
        rintro e w8 ⟨rfl, hb8⟩
        have x0 := keepc hb8 hPX x0
        have x1 := keepc hb8 hPX x1
        have m0 := keepc hb8 hPM m0
        have m1 := keepc hb8 hPM m1
        have hPM := Nat.lt_of_lt_of_le hPM hb8.size
        have hPX := Nat.lt_of_lt_of_le hPX hb8.size
        have HX := Lib.hid (HX.out.call hb8)
        have HMB := Lib.hid (HMB.out.call hb8)
        have HB := Lib.hid (HB.out.trans (hb8.mono HB.out.size))
        clear hb8
        rw [HC1]
        clear hHeld
        refine hK.out _ _ ?hS8 (fun hHeld => ?_)
        case hS8 => ((try dsimp only); exact ⟨x0, x1, m0, m1⟩)
        clear hK K
        (try simp only [Act.put, List.setIfInBounds_toArray, List.set_cons_zero, List.set_cons_succ])
        refine takeL 9 (v := ?_) rfl (by kernel_rfl) (by kernel_rfl) (by kernel_rfl) (fun _ _ _ h => h) (by rfl) (by assumption) ?hy9 ?_
        case hy9 => (intro w hSw; (try dsimp only at hSw); go_simp; all_goals (with_reducible rfl))
        (try simp only [Act.put, List.setIfInBounds_toArray, List.set_cons_zero, List.set_cons_succ])
        refine takeL 10 (v := ?_) rfl (by kernel_rfl) (by kernel_rfl) (by kernel_rfl) (fun _ _ _ h => h) (by rfl) (by assumption) ?hy10 ?_
        case hy10 => (intro w hSw; (try dsimp only at hSw); go_simp; all_goals (with_reducible rfl))
        (try simp only [Act.put, List.setIfInBounds_toArray, List.set_cons_zero, List.set_cons_succ])
        refine takeL 11 (v := ?_) rfl (by kernel_rfl) (by kernel_rfl) (by kernel_rfl) (fun _ _ _ h => h) (by rfl) (by assumption) ?hy11 ?_
        case hy11 => (intro w hSw; (try dsimp only at hSw); go_simp; all_goals (with_reducible rfl))
        (try simp only [Act.put, List.setIfInBounds_toArray, List.set_cons_zero, List.set_cons_succ])
        refine takeL 12 (v := ?_) rfl (by kernel_rfl) (by kernel_rfl) (by kernel_rfl) (fun _ _ _ h => h) (by rfl) (by assumption) ?hy12 ?_
        case hy12 => (intro w hSw; (try dsimp only at hSw); go_simp; all_goals (with_reducible rfl))
        (try simp only [Act.put, List.setIfInBounds_toArray, List.set_cons_zero, List.set_cons_succ])
        refine consL 13 (by kernel_rfl) rfl (by rfl) (fun K hK => ?_)
        go_simp
        go_at_call 17
        refine (minus_any _ _ _ HMB.out.big).mono ?_
        rintro e w13 ⟨v13, rfl, H13, hb13⟩
        have x0 := keepc hb13 hPX x0
        have x1 := keepc hb13 hPX x1
        have m0 := keepc hb13 hPM m0
        have m1 := keepc hb13 hPM m1
        have hPM := Nat.lt_of_lt_of_le hPM hb13.size
        have hPX := Nat.lt_of_lt_of_le hPX hb13.size
        have HX := Lib.hid (HX.out.call hb13)
        have HMB := Lib.hid (HMB.out.call hb13)
        have HB := Lib.hid (HB.out.trans (hb13.mono HB.out.size))
        clear hb13
        have H13 := Lib.hid H13
        clear hHeld
        refine hK.out _ _ ?hS13 (fun hHeld => ?_)
        case hS13 => ((try dsimp only); exact ⟨x0, x1, m0, m1⟩)
        clear hK K
        (try simp only [Act.put, List.setIfInBounds_toArray, List.set_cons_zero, List.set_cons_succ])
        refine consL 14 (by kernel_rfl) rfl (by rfl) (fun K hK => ?_)
        go_simp
        go_at_call 15
        refine (cmp_any _ _ X (-(1099511627775 * (Y : Int))) _ HX.out.big H13.out HLX.out (by rw [Int.natAbs_neg]; exact HLM.out)).mono ?_
        rintro e w14 ⟨rfl, hb14⟩
        have x0 := keepc hb14 hPX x0
        have x1 := keepc hb14 hPX x1
        have m0 := keepc hb14 hPM m0
        have m1 := keepc hb14 hPM m1
        have hPM := Nat.lt_of_lt_of_le hPM hb14.size
        have hPX := Nat.lt_of_lt_of_le hPX hb14.size
        have HX := Lib.hid (HX.out.call hb14)
        have HMB := Lib.hid (HMB.out.call hb14)
        have H13 := Lib.hid (H13.out.call hb14)
        have HB := Lib.hid (HB.out.trans (hb14.mono HB.out.size))
        clear hb14
        rw [HC2]
        clear hHeld
        refine hK.out _ _ ?hS14 (fun hHeld => ?_)
        case hS14 => ((try dsimp only); exact ⟨x0, x1, m0, m1⟩)
        clear hK K
        (try simp only [Act.put, List.setIfInBounds_toArray, List.set_cons_zero, List.set_cons_succ])
        refine takeL 15 (v := ?_) rfl (by kernel_rfl) (by kernel_rfl) (by kernel_rfl) (fun _ _ _ h => h) (by rfl) (by assumption) ?hy15 ?_
        case hy15 => (intro w hSw; (try dsimp only at hSw); go_simp; all_goals (with_reducible rfl))
        (try simp only [Act.put, List.setIfInBounds_toArray, List.set_cons_zero, List.set_cons_succ])
        refine takeL 16 (v := ?_) rfl (by kernel_rfl) (by kernel_rfl) (by kernel_rfl) (fun _ _ _ h => h) (by rfl) (by assumption) ?hy16 ?_
        case hy16 => (intro w hSw; (try dsimp only at hSw); go_simp; all_goals (with_reducible rfl))
        (try simp only [Act.put, List.setIfInBounds_toArray, List.set_cons_zero, List.set_cons_succ])
        refine takeL 17 (v := ?_) rfl (by kernel_rfl) (by kernel_rfl) (by kernel_rfl) (fun _ _ _ h => h) (by rfl) (by assumption) ?hy17 ?_
        case hy17 => (intro w hSw; (try dsimp only at hSw); go_simp; all_goals (with_reducible rfl))
        (try simp only [Act.put, List.setIfInBounds_toArray, List.set_cons_zero, List.set_cons_succ])
        refine takeL 18 (v := ?_) rfl (by kernel_rfl) (by kernel_rfl) (by kernel_rfl) (fun _ _ _ h => h) (by rfl) (by assumption) ?hy18 ?_
        case hy18 => (intro w hSw; (try dsimp only at hSw); go_simp; all_goals (with_reducible rfl))
        (try simp only [Act.put, List.setIfInBounds_toArray, List.set_cons_zero, List.set_cons_succ])
        refine consL 19 (by kernel_rfl) rfl (by rfl) (fun K hK => ?_)
        go_simp
        go_at_call 7
        refine (awake10_any _ (HT.out.below HB.out (Nat.le_refl _))).mono ?_
        rintro e w19 ⟨rfl, hb19⟩
        have x0 := keepc hb19 hPX x0
        have x1 := keepc hb19 hPX x1
        have m0 := keepc hb19 hPM m0
        have m1 := keepc hb19 hPM m1
        have hPM := Nat.lt_of_lt_of_le hPM hb19.size
        have hPX := Nat.lt_of_lt_of_le hPX hb19.size
        have HX := Lib.hid (HX.out.call hb19)
        have HMB := Lib.hid (HMB.out.call hb19)
        have H13 := Lib.hid (H13.out.call hb19)
        have HB := Lib.hid (HB.out.trans (hb19.mono HB.out.size))
        clear hb19
        clear hHeld
        refine hK.out _ _ ?hS19 (fun hHeld => ?_)
        case hS19 => ((try dsimp only); exact ⟨x0, x1, m0, m1⟩)
        clear hK K
        (try simp only [Act.put, List.setIfInBounds_toArray, List.set_cons_zero, List.set_cons_succ])
        refine takeL 20 (v := ?_) rfl (by kernel_rfl) (by kernel_rfl) (by kernel_rfl) (fun _ _ _ h => h) (by rfl) (by assumption) ?hy20 ?_
        case hy20 => (intro w hSw; (try dsimp only at hSw); go_simp; all_goals (with_reducible rfl))
        (try simp only [Act.put, List.setIfInBounds_toArray, List.set_cons_zero, List.set_cons_succ])
        refine takeL 21 (v := ?_) rfl (by kernel_rfl) (by kernel_rfl) (by kernel_rfl) (fun _ _ _ h => h) (by rfl) (by assumption) ?hy21 ?_
        case hy21 => (intro w hSw; (try dsimp only at hSw); go_simp; all_goals (with_reducible rfl))
        (try simp only [Act.put, List.setIfInBounds_toArray, List.set_cons_zero, List.set_cons_succ])
        refine wpAnyH_done (by kernel_rfl) ?_ _
        clear x0 x1 m0 m1 HX HMB hPX hPM hHeld
        go_wp2_with fail
        go_ret
        exact ⟨rfl, HB.out⟩
  · go_simp
    obtain ⟨wa, hwa⟩ : ∃ wa, (World.alloc w17 (.cells #[.bool false, .slice none 0 0] 29)).drew = wa := ⟨_, rfl⟩
    have hba : Below w17.drew.heap.size w17.drew wa := hwa ▸ (show Below _ w17.drew ((World.alloc w17 (.cells #[.bool false, .slice none 0 0] 29)).drew) from (Below.refl _ w17.drew).alloc (Nat.le_refl _) _)
    obtain ⟨PM, hPMe⟩ : ∃ P, P = w17.heap.size := ⟨_, rfl⟩
    have HMB : Hid (Blk wa PM [.bool false, .slice none 0 0] 29) := hPMe ▸ hwa ▸ (show Blk ((World.alloc w17 (.cells #[.bool false, .slice none 0 0] 29)).drew) w17.heap.size [.bool false, .slice none 0 0] 29 from Blk.new w17 _ _)
    have hxm : PX < PM := by rw [hPMe]; exact HX.out.blk.lt
    have hym : PY < PM := by rw [hPMe]; exact HY.out.blk.lt
    have hwm : w.heap.size ≤ PM := by rw [hPMe]; exact HB.out.size
    try rw [hwa]
    try rw [← hPMe]
    clear hwa hPMe
    have y0 := keepc hba hPY y0
    have y1 := keepc hba hPY y1
    have hPY := Nat.lt_of_lt_of_le hPY hba.size
    have HX := Lib.hid (HX.out.call hba)
    have HY := Lib.hid (HY.out.call hba)
    have HB := Lib.hid (HB.out.trans (hba.mono HB.out.size))
    clear hba
    clear hHeld
    refine hK.out _ _ ?hS3 (fun hHeld => ?_)
    case hS3 => ((try dsimp only); exact ⟨y0, y1⟩)
    clear hK K
    (try simp only [Act.put, List.setIfInBounds_toArray, List.set_cons_zero, List.set_cons_succ])
    refine consL 0 (by kernel_rfl) rfl (by rfl) (fun K hK => ?_)
    go_simp
    go_at_call 12
    refine (of_any 1099511627775 _ (by decide) (by decide)).mono ?_
    rintro e w0 ⟨v0, rfl, H0, hb0⟩
    have y0 := keepc hb0 hPY y0
    have y1 := keepc hb0 hPY y1
    have hPY := Nat.lt_of_lt_of_le hPY hb0.size
    have HX := Lib.hid (HX.out.call hb0)
    have HY := Lib.hid (HY.out.call hb0)
    have HMB := Lib.hid (HMB.out.call hb0)
    have HB := Lib.hid (HB.out.trans (hb0.mono HB.out.size))
    clear hb0
    have H0 := Lib.hid H0
    have hpx := HX.out.blk.lt
    clear hHeld
    refine hK.out _ _ ?hS0 (fun hHeld => ?_)
    case hS0 => ((try dsimp only); exact ⟨y0, y1⟩)
    clear hK K
    (try simp only [Act.put, List.setIfInBounds_toArray, List.set_cons_zero, List.set_cons_succ])
    refine consL 2 (by kernel_rfl) rfl (by rfl) (fun K hK => ?_)
    go_simp
    go_at_call 13
    refine (mul_any _ _ 1099511627775 (Y : Int) _ H0.out HY.out.big HLc.out HLY.out).mono ?_
    rintro e w2 ⟨v2, rfl, H2m, hb2⟩
    have y0 := keepc hb2 hPY y0
    have y1 := keepc hb2 hPY y1
    have hPY := Nat.lt_of_lt_of_le hPY hb2.size
    have HX := Lib.hid (HX.out.call hb2)
    have HY := Lib.hid (HY.out.call hb2)
    have HMB := Lib.hid (HMB.out.call hb2)
    have H0 := Lib.hid (H0.out.call hb2)
    have HB := Lib.hid (HB.out.trans (hb2.mono HB.out.size))
    clear hb2
    obtain ⟨mn, ma, mk, mc, rfl⟩ := H2m.form
    have H2m := Lib.hid H2m
    have hpx := HX.out.blk.lt
    clear hHeld
    refine hK.out _ _ ?hS2 (fun hHeld => ?_)
    case hS2 => ((try dsimp only); exact ⟨y0, y1⟩)
    clear hK K
    (try simp only [Act.put, List.setIfInBounds_toArray, List.set_cons_zero, List.set_cons_succ])
    refine consL 4 (by kernel_rfl) rfl (by rfl) (fun K hK => ?_)
    have m0 := HMB.out.cell (j := 0) rfl
    have m1 := HMB.out.cell (j := 1) rfl
    have mf := HMB.out.frozen
    go_simp
    clear hHeld
    refine hK.out _ _ ?hS4 (fun hHeld => ?_)
    case hS4 => ((try dsimp only); exact ⟨keeps2 (by omega) y0, keeps2 (by omega) y1⟩)
    clear hK K
    (try simp only [Act.put, List.setIfInBounds_toArray, List.set_cons_zero, List.set_cons_succ])
    refine wpAnyH_done (by kernel_rfl) ?_ _
    obtain ⟨W5, hW5⟩ : ∃ W, (w2.setCell ⟨PM, 0, none⟩ (.bool mn)).setCell ⟨PM, 1, none⟩ (.slice ma mk mc) = W := ⟨_, rfl⟩
    have HBo : Hid (Bx w2 PM (false, none, 0, 0) 0) := ⟨HMB.out, big_zero _⟩
    have HMC : Hid (Bx W5 PM (mn, ma, mk, mc) (1099511627775 * (Y : Int))) := hW5 ▸ ⟨put2 HMB.out, H2m.out.keep (keep_put HMB.out _ _)⟩
    have HXC : Hid (Bx W5 PX (xn, xa, xk, xc) X) := hW5 ▸ HX.out.put HBo.out (by omega) _ _
    have HBC : Hid (Below w.heap.size w W5) := hW5 ▸ put2_below HB.out hwm
    try rw [hW5]
    clear hW5 HBo HMB H2m H0 HX HY HB y0 y1 m0 m1 mf hHeld hPY
    have HX := HXC
    have HMB := HMC
    have HB := HBC
    clear HXC HMC HBC
    have x0 := HX.out.blk.cell (j := 0) rfl
    have x1 := HX.out.blk.cell (j := 1) rfl
    have m0 := HMB.out.blk.cell (j := 0) rfl
    have m1 := HMB.out.blk.cell (j := 1) rfl
    have hPX := HX.out.blk.lt
    have hPM := HMB.out.blk.lt
    go_wp2_with fail
    rcases Hside.out with hs1 | hs1
    · have HC1 : cmpI X (1099511627775 * (Y : Int)) = 1 := by unfold cmpI; rw [if_neg (by omega), if_pos (by omega)]
      have HB := Lib.hid HB.out.drew
      have HX := Lib.hid (HX.out.call (Below.refl _ W5).drew)
      have HMB := Lib.hid (HMB.out.call (Below.refl _ W5).drew)
      refine wp_region_held_drew (S := fun w' => w'.cell? ⟨PX, 0, none⟩ = some (.bool xn) ∧ w'.cell? ⟨PX, 1, none⟩ = some (.slice xa xk xc) ∧ w'.cell? ⟨PM, 0, none⟩ = some (.bool mn) ∧ w'.cell? ⟨PM, 1, none⟩ = some (.slice ma mk mc)) (by kernel_rfl) ⟨x0, x1, m0, m1⟩ (fun hHeld => ?_)
      refine takeL 0 (v := ?_) rfl (by kernel_rfl) (by kernel_rfl) (by kernel_rfl) (fun _ _ _ h => h) (by rfl) (by assumption) ?hy0 ?_
      case hy0 => (intro w hSw; (try dsimp only at hSw); go_simp; all_goals (with_reducible rfl))
      (try simp only [Act.put, List.setIfInBounds_toArray, List.set_cons_zero, List.set_cons_succ])
      refine takeL 1 (v := ?_) rfl (by kernel_rfl) (by kernel_rfl) (by kernel_rfl) (fun _ _ _ h => h) (by rfl) (by assumption) ?hy1 ?_
      case hy1 => (intro w hSw; (try dsimp only at hSw); go_simp; all_goals (with_reducible rfl))
      (try simp only [Act.put, List.setIfInBounds_toArray, List.set_cons_zero, List.set_cons_succ])
      refine takeL 2 (v := ?_) rfl (by kernel_rfl) (by kernel_rfl) (by kernel_rfl) (fun _ _ _ h => h) (by rfl) (by assumption) ?hy2 ?_
      case hy2 => (intro w hSw; (try dsimp only at hSw); go_simp; all_goals (with_reducible rfl))
      (try simp only [Act.put, List.setIfInBounds_toArray, List.set_cons_zero, List.set_cons_succ])
      refine takeL 3 (v := ?_) rfl (by kernel_rfl) (by kernel_rfl) (by kernel_rfl) (fun _ _ _ h => h) (by rfl) (by assumption) ?hy3 ?_
      case hy3 => (intro w hSw; (try dsimp only at hSw); go_simp; all_goals (with_reducible rfl))
      (try simp only [Act.put, List.setIfInBounds_toArray, List.set_cons_zero, List.set_cons_succ])
      refine takeL 4 (v := ?_) rfl (by kernel_rfl) (by kernel_rfl) (by kernel_rfl) (fun _ _ _ h => h) (by rfl) (by assumption) ?hy4 ?_
      case hy4 => (intro w hSw; (try dsimp only at hSw); go_simp; all_goals (with_reducible rfl))
      (try simp only [Act.put, List.setIfInBounds_toArray, List.set_cons_zero, List.set_cons_succ])
      refine takeL 5 (v := ?_) rfl (by kernel_rfl) (by kernel_rfl) (by kernel_rfl) (fun _ _ _ h => h) (by rfl) (by assumption) ?hy5 ?_
      case hy5 => (intro w hSw; (try dsimp only at hSw); go_simp; all_goals (with_reducible rfl))
      (try simp only [Act.put, List.setIfInBounds_toArray, List.set_cons_zero, List.set_cons_succ])
      refine takeL 6 (v := ?_) rfl (by kernel_rfl) (by kernel_rfl) (by kernel_rfl) (fun _ _ _ h => h) (by rfl) (by assumption) ?hy6 ?_
      case hy6 => (intro w hSw; (try dsimp only at hSw); go_simp; all_goals (with_reducible rfl))
      (try simp only [Act.put, List.setIfInBounds_toArray, List.set_cons_zero, List.set_cons_succ])
      refine takeL 7 (v := ?_) rfl (by kernel_rfl) (by kernel_rfl) (by kernel_rfl) (fun _ _ _ h => h) (by rfl) (by assumption) ?hy7 ?_
      case hy7 => (intro w hSw; (try dsimp only at hSw); go_simp; all_goals (with_reducible rfl))
      (try simp only [Act.put, List.setIfInBounds_toArray, List.set_cons_zero, List.set_cons_succ])
      refine consL 8 (by kernel_rfl) rfl (by rfl) (fun K hK => ?_)
      go_simp
      go_at_call 15
      refine (cmp_any _ _ X (1099511627775 * (Y : Int)) _ HX.out.big HMB.out.big HLX.out HLM.out).mono ?_
      rintro e w8 ⟨rfl, hb8⟩
      have x0 := keepc hb8 hPX x0
      have x1 := keepc hb8 hPX x1
      have m0 := keepc hb8 hPM m0
      have m1 := keepc hb8 hPM m1
      have hPM := Nat.lt_of_lt_of_le hPM hb8.size
      have hPX := Nat.lt_of_lt_of_le hPX hb8.size
      have HX := Lib.hid (HX.out.call hb8)
      have HMB := Lib.hid (HMB.out.call hb8)
      have HB := Lib.hid (HB.out.trans (hb8.mono HB.out.size))
      clear hb8
      rw [HC1]
      clear hHeld
      refine hK.out _ _ ?hS8 (fun hHeld => ?_)
      case hS8 => ((try dsimp only); exact ⟨x0, x1, m0, m1⟩)
      clear hK K
      (try simp only [Act.put, List.setIfInBounds_toArray, List.set_cons_zero, List.set_cons_succ])
      refine takeL 9 (v := ?_) rfl (by kernel_rfl) (by kernel_rfl) (by kernel_rfl) (fun _ _ _ h => h) (by rfl) (by assumption) ?hy9 ?_
      case hy9 => (intro w hSw; (try dsimp only at hSw); go_simp; all_goals (with_reducible rfl))
      (try simp only [Act.put, List.setIfInBounds_toArray, List.set_cons_zero, List.set_cons_succ])
      refine takeL 10 (v := ?_) rfl (by kernel_rfl) (by kernel_rfl) (by kernel_rfl) (fun _ _ _ h => h) (by rfl) (by assumption) ?hy10 ?_
      case hy10 => (intro w hSw; (try dsimp only at hSw); go_simp; all_goals (with_reducible rfl))
      (try simp only [Act.put, List.setIfInBounds_toArray, List.set_cons_zero, List.set_cons_succ])
      refine skipL 11 rfl (by kernel_rfl) (by kernel_rfl) (by kernel_rfl) (fun _ _ _ h => h) (by rfl) (by assumption) ?_
      (try simp only [Act.put, List.setIfInBounds_toArray, List.set_cons_zero, List.set_cons_succ])
      refine skipL 12 rfl (by kernel_rfl) (by kernel_rfl) (by kernel_rfl) (fun _ _ _ h => h) (by rfl) (by assumption) ?_
      (try simp only [Act.put, List.setIfInBounds_toArray, List.set_cons_zero, List.set_cons_succ])
      refine skipL 13 rfl (by kernel_rfl) (by kernel_rfl) (by kernel_rfl) (fun _ _ _ h => h) (by rfl) (by assumption) ?_
      (try simp only [Act.put, List.setIfInBounds_toArray, List.set_cons_zero, List.set_cons_succ])
      refine skipL 14 rfl (by kernel_rfl) (by kernel_rfl) (by kernel_rfl) (fun _ _ _ h => h) (by rfl) (by assumption) ?_
      (try simp only [Act.put, List.setIfInBounds_toArray, List.set_cons_zero, List.set_cons_succ])
      refine skipL 15 rfl (by kernel_rfl) (by kernel_rfl) (by kernel_rfl) (fun _ _ _ h => h) (by rfl) (by assumption) ?_
      (try simp only [Act.put, List.setIfInBounds_toArray, List.set_cons_zero, List.set_cons_succ])
      refine takeL 16 (v := ?_) rfl (by kernel_rfl) (by kernel_rfl) (by kernel_rfl) (fun _ _ _ h => h) (by rfl) (by assumption) ?hy16 ?_
      case hy16 => (intro w hSw; (try dsimp only at hSw); go_simp; all_goals (with_reducible rfl))
      (try simp only [Act.put, List.setIfInBounds_toArray, List.set_cons_zero, List.set_cons_succ])
      refine takeL 17 (v := ?_) rfl (by kernel_rfl) (by kernel_rfl) (by kernel_rfl) (fun _ _ _ h => h) (by rfl) (by assumption) ?hy17 ?_
      case hy17 => (intro w hSw; (try dsimp only at hSw); go_simp; all_goals (with_reducible rfl))
      (try simp only [Act.put, List.setIfInBounds_toArray, List.set_cons_zero, List.set_cons_succ])
      refine takeL 18 (v := ?_) rfl (by kernel_rfl) (by kernel_rfl) (by kernel_rfl) (fun _ _ _ h => h) (by rfl) (by assumption) ?hy18 ?_
      case hy18 => (intro w hSw; (try dsimp only at hSw); go_simp; all_goals (with_reducible rfl))
      (try simp only [Act.put, List.setIfInBounds_toArray, List.set_cons_zero, List.set_cons_succ])
      refine consL 19 (by kernel_rfl) rfl (by rfl) (fun K hK => ?_)
      go_simp
      go_at_call 7
      refine (awake10_any _ (HT.out.below HB.out (Nat.le_refl _))).mono ?_
      rintro e w19 ⟨rfl, hb19⟩
      have x0 := keepc hb19 hPX x0
      have x1 := keepc hb19 hPX x1
      have m0 := keepc hb19 hPM m0
      have m1 := keepc hb19 hPM m1
      have hPM := Nat.lt_of_lt_of_le hPM hb19.size
      have hPX := Nat.lt_of_lt_of_le hPX hb19.size
      have HX := Lib.hid (HX.out.call hb19)
      have HMB := Lib.hid (HMB.out.call hb19)
      have HB := Lib.hid (HB.out.trans (hb19.mono HB.out.size))
      clear hb19
      clear hHeld
      refine hK.out _ _ ?hS19 (fun hHeld => ?_)
      case hS19 => ((try dsimp only); exact ⟨x0, x1, m0, m1⟩)
      clear hK K
      (try simp only [Act.put, List.setIfInBounds_toArray, List.set_cons_zero, List.set_cons_succ])
      refine takeL 20 (v := ?_) rfl (by kernel_rfl) (by kernel_rfl) (by kernel_rfl) (fun _ _ _ h => h) (by rfl) (by assumption) ?hy20 ?_
      case hy20 => (intro w hSw; (try dsimp only at hSw); go_simp; all_goals (with_reducible rfl))
      (try simp only [Act.put, List.setIfInBounds_toArray, List.set_cons_zero, List.set_cons_succ])
      refine takeL 21 (v := ?_) rfl (by kernel_rfl) (by kernel_rfl) (by kernel_rfl) (fun _ _ _ h => h) (by rfl) (by assumption) ?hy21 ?_
      case hy21 => (intro w hSw; (try dsimp only at hSw); go_simp; all_goals (with_reducible rfl))
      (try simp only [Act.put, List.setIfInBounds_toArray, List.set_cons_zero, List.set_cons_succ])
      refine wpAnyH_done (by kernel_rfl) ?_ _
      clear x0 x1 m0 m1 HX HMB hPX hPM hHeld
      go_wp2_with fail
      go_ret
      exact ⟨rfl, HB.out⟩
    · have HC1 : cmpI X (1099511627775 * (Y : Int)) = -1 := by unfold cmpI; rw [if_pos (by omega)]
      have HC2 : cmpI X (-(1099511627775 * (Y : Int))) = -1 := by unfold cmpI; rw [if_pos (by omega)]
      have HB := Lib.hid HB.out.drew
      have HX := Lib.hid (HX.out.call (Below.refl _ W5).drew)
      have HMB := Lib.hid (HMB.out.call (Below.refl _ W5).drew)
      refine wp_region_held_drew (S := fun w' => w'.cell? ⟨PX, 0, none⟩ = some (.bool xn) ∧ w'.cell? ⟨PX, 1, none⟩ = some (.slice xa xk xc) ∧ w'.cell? ⟨PM, 0, none⟩ = some (.bool mn) ∧ w'.cell? ⟨PM, 1, none⟩ = some (.slice ma mk mc)) (by kernel_rfl) ⟨x0, x1, m0, m1⟩ (fun hHeld => ?_)
      refine takeL 0 (v := ?_) rfl (by kernel_rfl) (by kernel_rfl) (by kernel_rfl) (fun _ _ _ h => h) (by rfl) (by assumption) ?hy0 ?_
      case hy0 => (intro w hSw; (try dsimp only at hSw); go_simp; all_goals (with_reducible rfl))
      (try simp only [Act.put, List.setIfInBounds_toArray, List.set_cons_zero, List.set_cons_succ])
      refine takeL 1 (v := ?_) rfl (by kernel_rfl) (by kernel_rfl) (by kernel_rfl) (fun _ _ _ h => h) (by rfl) (by assumption) ?hy1 ?_
      case hy1 => (intro w hSw; (try dsimp only at hSw); go_simp; all_goals (with_reducible rfl))
      (try simp only [Act.put, List.setIfInBounds_toArray, List.set_cons_zero, List.set_cons_succ])
      refine takeL 2 (v := ?_) rfl (by kernel_rfl) (by kernel_rfl) (by kernel_rfl) (fun _ _ _ h => h) (by rfl) (by assumption) ?hy2 ?_
      case hy2 => (intro w hSw; (try dsimp only at hSw); go_simp; all_goals (with_reducible rfl))
      (try simp only [Act.put, List.setIfInBounds_toArray, List.set_cons_zero, List.set_cons_succ])
      refine takeL 3 (v := ?_) rfl (by kernel_rfl) (by kernel_rfl) (by kernel_rfl) (fun _ _ _ h => h) (by rfl) (by assumption) ?hy3 ?_
      case hy3 => (intro w hSw; (try dsimp only at hSw); go_simp; all_goals (with_reducible rfl))
      (try simp only [Act.put, List.setIfInBounds_toArray, List.set_cons_zero, List.set_cons_succ])
      refine takeL 4 (v := ?_) rfl (by kernel_rfl) (by kernel_rfl) (by kernel_rfl) (fun _ _ _ h => h) (by rfl) (by assumption) ?hy4 ?_
      case hy4 => (intro w hSw; (try dsimp only at hSw); go_simp; all_goals (with_reducible rfl))
      (try simp only [Act.put, List.setIfInBounds_toArray, List.set_cons_zero, List.set_cons_succ])
      refine takeL 5 (v := ?_) rfl (by kernel_rfl) (by kernel_rfl) (by kernel_rfl) (fun _ _ _ h => h) (by rfl) (by assumption) ?hy5 ?_
      case hy5 => (intro w hSw; (try dsimp only at hSw); go_simp; all_goals (with_reducible rfl))
      (try simp only [Act.put, List.setIfInBounds_toArray, List.set_cons_zero, List.set_cons_succ])
      refine takeL 6 (v := ?_) rfl (by kernel_rfl) (by kernel_rfl) (by kernel_rfl) (fun _ _ _ h => h) (by rfl) (by assumption) ?hy6 ?_
      case hy6 => (intro w hSw; (try dsimp only at hSw); go_simp; all_goals (with_reducible rfl))
      (try simp only [Act.put, List.setIfInBounds_toArray, List.set_cons_zero, List.set_cons_succ])
      refine takeL 7 (v := ?_) rfl (by kernel_rfl) (by kernel_rfl) (by kernel_rfl) (fun _ _ _ h => h) (by rfl) (by assumption) ?hy7 ?_
      case hy7 => (intro w hSw; (try dsimp only at hSw); go_simp; all_goals (with_reducible rfl))
      (try simp only [Act.put, List.setIfInBounds_toArray, List.set_cons_zero, List.set_cons_succ])
      refine consL 8 (by kernel_rfl) rfl (by rfl) (fun K hK => ?_)
      go_simp
      go_at_call 15
      refine (cmp_any _ _ X (1099511627775 * (Y : Int)) _ HX.out.big HMB.out.big HLX.out HLM.out).mono ?_
      rintro e w8 ⟨rfl, hb8⟩
      have x0 := keepc hb8 hPX x0
      have x1 := keepc hb8 hPX x1
      have m0 := keepc hb8 hPM m0
      have m1 := keepc hb8 hPM m1
      have hPM := Nat.lt_of_lt_of_le hPM hb8.size
      have hPX := Nat.lt_of_lt_of_le hPX hb8.size
      have HX := Lib.hid (HX.out.call hb8)
      have HMB := Lib.hid (HMB.out.call hb8)
      have HB := Lib.hid (HB.out.trans (hb8.mono HB.out.size))
      clear hb8
      rw [HC1]
      clear hHeld
      refine hK.out _ _ ?hS8 (fun hHeld => ?_)
      case hS8 => ((try dsimp only); exact ⟨x0, x1, m0, m1⟩)
      clear hK K
      (try simp only [Act.put, List.setIfInBounds_toArray, List.set_cons_zero, List.set_cons_succ])
      refine takeL 9 (v := ?_) rfl (by kernel_rfl) (by kernel_rfl) (by kernel_rfl) (fun _ _ _ h => h) (by rfl) (by assumption) ?hy9 ?_
      case hy9 => (intro w hSw; (try dsimp only at hSw); go_simp; all_goals (with_reducible rfl))
      (try simp only [Act.put, List.setIfInBounds_toArray, List.set_cons_zero, List.set_cons_succ])
      refine takeL 10 (v := ?_) rfl (by kernel_rfl) (by kernel_rfl) (by kernel_rfl) (fun _ _ _ h => h) (by rfl) (by assumption) ?hy10 ?_
      case hy10 => (intro w hSw; (try dsimp only at hSw); go_simp; all_goals (with_reducible rfl))
      (try simp only [Act.put, List.setIfInBounds_toArray, List.set_cons_zero, List.set_cons_succ])
      refine takeL 11 (v := ?_) rfl (by kernel_rfl) (by kernel_rfl) (by kernel_rfl) (fun _ _ _ h => h) (by rfl) (by assumption) ?hy11 ?_
      case hy11 => (intro w hSw; (try dsimp only at hSw); go_simp; all_goals (with_reducible rfl))
      (try simp only [Act.put, List.setIfInBounds_toArray, List.set_cons_zero, List.set_cons_succ])
      refine takeL 12 (v := ?_) rfl (by kernel_rfl) (by kernel_rfl) (by kernel_rfl) (fun _ _ _ h => h) (by rfl) (by assumption) ?hy12 ?_
      case hy12 => (intro w hSw; (try dsimp only at hSw); go_simp; all_goals (with_reducible rfl))
      (try simp only [Act.put, List.setIfInBounds_toArray, List.set_cons_zero, List.set_cons_succ])
      refine consL 13 (by kernel_rfl) rfl (by rfl) (fun K hK => ?_)
      go_simp
      go_at_call 17
      refine (minus_any _ _ _ HMB.out.big).mono ?_
      rintro e w13 ⟨v13, rfl, H13, hb13⟩
      have x0 := keepc hb13 hPX x0
      have x1 := keepc hb13 hPX x1
      have m0 := keepc hb13 hPM m0
      have m1 := keepc hb13 hPM m1
      have hPM := Nat.lt_of_lt_of_le hPM hb13.size
      have hPX := Nat.lt_of_lt_of_le hPX hb13.size
      have HX := Lib.hid (HX.out.call hb13)
      have HMB := Lib.hid (HMB.out.call hb13)
      have HB := Lib.hid (HB.out.trans (hb13.mono HB.out.size))
      clear hb13
      have H13 := Lib.hid H13
      clear hHeld
      refine hK.out _ _ ?hS13 (fun hHeld => ?_)
      case hS13 => ((try dsimp only); exact ⟨x0, x1, m0, m1⟩)
      clear hK K
      (try simp only [Act.put, List.setIfInBounds_toArray, List.set_cons_zero, List.set_cons_succ])
      refine consL 14 (by kernel_rfl) rfl (by rfl) (fun K hK => ?_)
      go_simp
      go_at_call 15
      refine (cmp_any _ _ X (-(1099511627775 * (Y : Int))) _ HX.out.big H13.out HLX.out (by rw [Int.natAbs_neg]; exact HLM.out)).mono ?_
      rintro e w14 ⟨rfl, hb14⟩
      have x0 := keepc hb14 hPX x0
      have x1 := keepc hb14 hPX x1
      have m0 := keepc hb14 hPM m0
      have m1 := keepc hb14 hPM m1
      have hPM := Nat.lt_of_lt_of_le hPM hb14.size
      have hPX := Nat.lt_of_lt_of_le hPX hb14.size
      have HX := Lib.hid (HX.out.call hb14)
      have HMB := Lib.hid (HMB.out.call hb14)
      have H13 := Lib.hid (H13.out.call hb14)
      have HB := Lib.hid (HB.out.trans (hb14.mono HB.out.size))
      clear hb14
      rw [HC2]
      clear hHeld
      refine hK.out _ _ ?hS14 (fun hHeld => ?_)
      case hS14 => ((try dsimp only); exact ⟨x0, x1, m0, m1⟩)
      clear hK K
      (try simp only [Act.put, List.setIfInBounds_toArray, List.set_cons_zero, List.set_cons_succ])
      refine takeL 15 (v := ?_) rfl (by kernel_rfl) (by kernel_rfl) (by kernel_rfl) (fun _ _ _ h => h) (by rfl) (by assumption) ?hy15 ?_
      case hy15 => (intro w hSw; (try dsimp only at hSw); go_simp; all_goals (with_reducible rfl))
      (try simp only [Act.put, List.setIfInBounds_toArray, List.set_cons_zero, List.set_cons_succ])
      refine takeL 16 (v := ?_) rfl (by kernel_rfl) (by kernel_rfl) (by kernel_rfl) (fun _ _ _ h => h) (by rfl) (by assumption) ?hy16 ?_
      case hy16 => (intro w hSw; (try dsimp only at hSw); go_simp; all_goals (with_reducible rfl))
      (try simp only [Act.put, List.setIfInBounds_toArray, List.set_cons_zero, List.set_cons_succ])
      refine takeL 17 (v := ?_) rfl (by kernel_rfl) (by kernel_rfl) (by kernel_rfl) (fun _ _ _ h => h) (by rfl) (by assumption) ?hy17 ?_
      case hy17 => (intro w hSw; (try dsimp only at hSw); go_simp; all_goals (with_reducible rfl))
      (try simp only [Act.put, List.setIfInBounds_toArray, List.set_cons_zero, List.set_cons_succ])
      refine takeL 18 (v := ?_) rfl (by kernel_rfl) (by kernel_rfl) (by kernel_rfl) (fun _ _ _ h => h) (by rfl) (by assumption) ?hy18 ?_
      case hy18 => (intro w hSw; (try dsimp only at hSw); go_simp; all_goals (with_reducible rfl))
      (try simp only [Act.put, List.setIfInBounds_toArray, List.set_cons_zero, List.set_cons_succ])
      refine consL 19 (by kernel_rfl) rfl (by rfl) (fun K hK => ?_)
      go_simp
      go_at_call 7
      refine (awake10_any _ (HT.out.below HB.out (Nat.le_refl _))).mono ?_
      rintro e w19 ⟨rfl, hb19⟩
      have x0 := keepc hb19 hPX x0
      have x1 := keepc hb19 hPX x1
      have m0 := keepc hb19 hPM m0
      have m1 := keepc hb19 hPM m1
      have hPM := Nat.lt_of_lt_of_le hPM hb19.size
      have hPX := Nat.lt_of_lt_of_le hPX hb19.size
      have HX := Lib.hid (HX.out.call hb19)
      have HMB := Lib.hid (HMB.out.call hb19)
      have H13 := Lib.hid (H13.out.call hb19)
      have HB := Lib.hid (HB.out.trans (hb19.mono HB.out.size))
      clear hb19
      clear hHeld
      refine hK.out _ _ ?hS19 (fun hHeld => ?_)
      case hS19 => ((try dsimp only); exact ⟨x0, x1, m0, m1⟩)
      clear hK K
      (try simp only [Act.put, List.setIfInBounds_toArray, List.set_cons_zero, List.set_cons_succ])
      refine takeL 20 (v := ?_) rfl (by kernel_rfl) (by kernel_rfl) (by kernel_rfl) (fun _ _ _ h => h) (by rfl) (by assumption) ?hy20 ?_
      case hy20 => (intro w hSw; (try dsimp only at hSw); go_simp; all_goals (with_reducible rfl))
      (try simp only [Act.put, List.setIfInBounds_toArray, List.set_cons_zero, List.set_cons_succ])
      refine takeL 21 (v := ?_) rfl (by kernel_rfl) (by kernel_rfl) (by kernel_rfl) (fun _ _ _ h => h) (by rfl) (by assumption) ?hy21 ?_
      case hy21 => (intro w hSw; (try dsimp only at hSw); go_simp; all_goals (with_reducible rfl))
      (try simp only [Act.put, List.setIfInBounds_toArray, List.set_cons_zero, List.set_cons_succ])
      refine wpAnyH_done (by kernel_rfl) ?_ _
      clear x0 x1 m0 m1 HX HMB hPX hPM hHeld
      go_wp2_with fail
      go_ret
      exact ⟨rfl, HB.out⟩

end Go.Proofs.YtkhpfdgkmnifcaaDoor
