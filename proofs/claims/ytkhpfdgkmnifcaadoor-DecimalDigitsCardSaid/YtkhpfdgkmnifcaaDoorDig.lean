/- gromaref01.Digits. Printed by wip/genum.py. -/
import Derived.Test.YtkhpfdgkmnifcaaDoorNumP
import Derived.Test.YtkhpfdgkmnifcaaDoorDcW
set_option linter.unusedVariables false
set_option linter.unusedSimpArgs false
namespace Go.Proofs.YtkhpfdgkmnifcaaDoor
open Go.RowKit Go.Rg Bg
attribute [local go_sem] Oper.semAt_some

set_option maxHeartbeats 8000000 in
theorem bigDigits_any (s : ByteArray) (w : World) (hd : s.data.toList.all Lx.digit = true) (h0 : s.data.toList.head? ≠ some 48) (hne : 0 < s.size) (hs : s.size ≤ 200) :
    Calls Tryd.prog 21 #[.string s] w fun e w' => ∃ v, e = .returned (.tuple #[v, .bool true]) ∧ Big w' v (Dc.dval s.data.toList) ∧ Below w.heap.size w w' := by
  obtain ⟨d1, d2⟩ := digit_at s hd 0 hne
  have h48 : ((s[0].toNat : Int) == 48) = false := by
    rw [beq_eq_false_iff_ne]
    intro h
    apply h0
    rw [List.head?_eq_getElem?, List.getElem?_eq_getElem (by rw [← Lib.size_eq]; exact hne)]
    have : s.data.toList[0]'(by rw [← Lib.size_eq]; exact hne) = s[0] := rfl
    rw [this]
    congr 1
    rw [← UInt8.toNat_inj]; simp; omega
  have h45 : ((s[0].toNat : Int) == 45) = false := by rw [beq_eq_false_iff_ne]; omega
  have hz : ((s.size : Int) == 0) = false := by rw [beq_eq_false_iff_ne]; omega
  have Hd := Lib.hid hd
  obtain ⟨m, hm⟩ : ∃ m, m = s.size := ⟨_, rfl⟩
  have Hm := Lib.hid hm
  clear hd h0 hm d1 d2
  go_enter Tryd.func21, Tryd.ntmps21
  go_wp2_with fail
  obtain ⟨W, hW⟩ : ∃ W, ([.cells #[.bool false, .slice none 0 0] 29, .cells #[.bool false, .slice none 0 0] 29] : List Obj).foldl World.alloc w = W := ⟨_, rfl⟩
  have HR : Hid (Blk W (w.heap.size + 0) [.bool false, .slice none 0 0] 29) := Blk.allocs _ hW 0 rfl
  have HP : Hid (Blk W (w.heap.size + 1) [.bool false, .slice none 0 0] 29) := Blk.allocs _ hW 1 rfl
  have HW : Hid (Below w.heap.size w W) := hW ▸ allocs_below _ w
  have HH : Hid (Big W (.agg #[.bool false, .slice none 0 0]) ((0 : Nat) : Int)) := big_zero W
  simp only [List.foldl_cons, List.foldl_nil] at hW
  rw [hW]
  clear hW
  obtain ⟨P, hP⟩ : ∃ P, w.heap.size + 1 = P := ⟨_, rfl⟩
  rw [Nat.add_zero] at HR
  rw [hP] at HP ⊢
  have hnp : w.heap.size < P := by omega
  clear hP
  go_loopg [6] m (fun qq s6 wx => ∃ (i nv : Nat) (mm : Bool) (aa : Option Addr) (kk cc : Nat), i + qq = m ∧ s6 = .int .i64 (i : Int) ∧ Hid (nv = Dc.dval (s.data.toList.take i)) ∧ Hid (Blk wx P [.bool mm, .slice aa kk cc] 29) ∧ Hid (Big wx (.agg #[.bool mm, .slice aa kk cc]) (nv : Int)) ∧
    Hid (Blk wx w.heap.size [.bool false, .slice none 0 0] 29) ∧ Hid (Below w.heap.size w wx))
  case atStart => exact ⟨0, 0, false, none, 0, 0, by omega, rfl, rfl, HP, HH, HR, HW⟩
  case round =>
    clear HP HH HR HW
    obtain ⟨i, nv, mm, aa, kk, cc, htq, rfl, HN, HP, HH, HR, HW⟩ := hrel
    have x0 := HP.out.cell (j := 0) rfl
    have x1 := HP.out.cell (j := 1) rfl
    have xf := HP.out.frozen
    have hpw : P < wr.heap.size := HP.out.lt
    have hwl : w.heap.size ≤ wr.heap.size := HW.out.size
    cases gk with
    | zero =>
      have hni : ¬ ((i : Int) < (s.size : Int)) := by have := Hm.out; omega
      have HF : Hid (((Dc.dval s.data.toList : Nat) : Int) = (nv : Int)) := by unfold Hid; rw [HN.out, List.take_of_length_le (by rw [← Lib.size_eq]; omega)]
      clear htq
      obtain ⟨n6, a6, m6, c6, e6, b0, b1, bf, z0, z1, HH6, Hbp⟩ := HH.out.ends HR.out HW.out (Nat.le_refl _)
      cases e6
      go_wp2_with fail
      refine bodyPost_ret (v := .tuple #[.agg #[.bool mm, .slice aa kk cc], .bool true]) (by simp [results, Tryd.results21, go_sem, *]) rfl ⟨_, rfl, ?_, Hbp.out⟩
      rw [HF.out]; exact HH6.out
    | succ qq =>
      have hlt : i < s.size := by have := Hm.out; omega
      obtain ⟨h48', h57⟩ := digit_at s Hd.out i hlt
      obtain ⟨D, hD⟩ : ∃ D : Nat, (s[i].toNat : Int) - 48 = (D : Int) := ⟨s[i].toNat - 48, by omega⟩
      have hD2 : s[i].toNat - 48 = D := by omega
      have hw8 : IntKind.u8.wrap (D : Int) = (D : Int) := by rw [IntKind.wrap_u8]; omega
      have hw64 : IntKind.i64.wrap (D : Int) = (D : Int) := by rw [IntKind.wrap_i64]; omega
      have hD9 : D ≤ 9 := by omega
      have HN1 : Hid (nv * 10 + D = Dc.dval (s.data.toList.take (i + 1))) := by
        unfold Hid; rw [take_snoc s i hlt, Dc.dval_snoc, ← HN.out, hD2]
      have HvN : Hid (((nv * 10 + D : Nat) : Int) = (nv : Int) * 10 + (D : Int)) := by unfold Hid; omega
      have hnv : nv < 10 ^ i := by
        have := Dc.dval_lt _ (take_digits s Hd.out i)
        rw [← HN.out, List.length_take, Nat.min_eq_left (by rw [← Lib.size_eq]; omega)] at this; exact this
      have hl1 := lim_nat nv i hnv (by omega)
      have hl2 : ((nv : Int) * 10).natAbs < lim := by
        have := lim_nat (nv * 10) (i + 1) (by rw [Nat.pow_succ]; omega) (by omega)
        have e : ((nv * 10 : Nat) : Int) = (nv : Int) * 10 := by omega
        rw [← e]; exact this
      have HMul : Hid (∀ X v, Below wr.heap.size wr X → Big X v 10 → Calls Tryd.prog 13 #[.agg #[.bool mm, .slice aa kk cc], v] X fun e X' => ∃ v', e = .returned v' ∧ Big X' v' ((nv : Int) * 10) ∧ Below X.heap.size X X') := fun X v hX hv =>
        mul_any _ v _ 10 X (HH.out.call hX) hv hl1 (lim_small 10 (by decide))
      have HAdd : Hid (∀ X v v', Below wr.heap.size wr X → Big X v ((nv : Int) * 10) → Big X v' (D : Int) → Calls Tryd.prog 24 #[v, v'] X fun e X' => ∃ v', e = .returned v' ∧ Big X' v' ((nv : Int) * 10 + (D : Int)) ∧ Below X.heap.size X X') := fun X v v' hX hv hv' =>
        add_any v v' _ _ X hv hv' hl2 (lim_small _ (by omega))
      have HTQ := Lib.hid htq
      clear hl1 hl2 hD2 htq hnv
      go_wp2_with fail
      refine heldG_do (fun w' => w'.cell? ⟨P, 0, none⟩ = some (.bool mm) ∧ w'.cell? ⟨P, 1, none⟩ = some (.slice aa kk cc)) (fun j => j == 10) (by kernel_rfl) ?_
      refine wpAnyG_takeD (i := 0) (v := .agg #[.bool mm, .slice aa kk cc]) [0, 2, 9, 10] rfl (by kernel_rfl) (by kernel_rfl) (by kernel_rfl) (by kernel_rfl) (by kernel_rfl) (fun _ _ _ h => h) (Or.inl ⟨by rfl, ?y0⟩) ⟨x0, x1⟩ ?_
      case y0 => intro w' hS'; obtain ⟨S0, S1⟩ := hS'; clear x0 x1; go_simp
      simp only [Act.put, List.setIfInBounds_toArray, List.set_cons_zero, List.set_cons_succ]
      refine wpAnyG_takeD (i := 3) (v := .string s) [3, 5, 6, 7, 8, 9, 10] rfl (by kernel_rfl) (by kernel_rfl) (by kernel_rfl) (by kernel_rfl) (by kernel_rfl) (fun _ _ _ h => h) (Or.inl ⟨by rfl, ?y3⟩) ⟨x0, x1⟩ ?_
      case y3 => intro w' hS'; obtain ⟨S0, S1⟩ := hS'; clear x0 x1; go_simp
      simp only [Act.put, List.setIfInBounds_toArray, List.set_cons_zero, List.set_cons_succ]
      refine wpAnyG_takeD (i := 4) (v := .int .i64 (i : Int)) [4, 5, 6, 7, 8, 9, 10] rfl (by kernel_rfl) (by kernel_rfl) (by kernel_rfl) (by kernel_rfl) (by kernel_rfl) (fun _ _ _ h => h) (Or.inl ⟨by rfl, ?y4⟩) ⟨x0, x1⟩ ?_
      case y4 => intro w' hS'; obtain ⟨S0, S1⟩ := hS'; clear x0 x1; go_simp
      simp only [Act.put, List.setIfInBounds_toArray, List.set_cons_zero, List.set_cons_succ]
      refine wpAnyG_takeD (i := 5) (v := .int .u8 (s[i].toNat : Int)) [5, 6, 7, 8, 9, 10] rfl (by kernel_rfl) (by kernel_rfl) (by kernel_rfl) (by kernel_rfl) (by kernel_rfl) (fun _ _ _ h => h) (Or.inl ⟨by rfl, ?y5⟩) ⟨x0, x1⟩ ?_
      case y5 => intro w' hS'; obtain ⟨S0, S1⟩ := hS'; clear x0 x1; go_simp
      simp only [Act.put, List.setIfInBounds_toArray, List.set_cons_zero, List.set_cons_succ]
      refine wpAnyG_takeD (i := 6) (v := .int .u8 (D : Int)) [6, 7, 8, 9, 10] rfl (by kernel_rfl) (by kernel_rfl) (by kernel_rfl) (by kernel_rfl) (by kernel_rfl) (fun _ _ _ h => h) (Or.inl ⟨by rfl, ?y6⟩) ⟨x0, x1⟩ ?_
      case y6 => intro w' hS'; obtain ⟨S0, S1⟩ := hS'; clear x0 x1; go_simp
      simp only [Act.put, List.setIfInBounds_toArray, List.set_cons_zero, List.set_cons_succ]
      refine wpAnyG_takeD (i := 7) (v := .int .i64 (D : Int)) [7, 8, 9, 10] rfl (by kernel_rfl) (by kernel_rfl) (by kernel_rfl) (by kernel_rfl) (by kernel_rfl) (fun _ _ _ h => h) (Or.inl ⟨by rfl, ?y7⟩) ⟨x0, x1⟩ ?_
      case y7 => intro w' hS'; obtain ⟨S0, S1⟩ := hS'; clear x0 x1; go_simp
      simp only [Act.put, List.setIfInBounds_toArray, List.set_cons_zero, List.set_cons_succ]
      have X0 := x0
      have X1 := x1
      have Xw : Below wr.heap.size wr wr.drew := (Below.refl _ wr).drew
      refine wpAnyG_ready (rs := [1]) (by kernel_rfl) (by simp) ?_
      refine AllReadyG.cons rfl (fun K hK => ?_) AllReadyG.nil
      go_simp
      refine (of_any 10 _ (by decide) (by decide)).mono ?_
      rintro e w1 ⟨v1, rfl, H1, hbx⟩
      have X0 := keepc hbx (Nat.lt_of_lt_of_le hpw Xw.size) X0
      have X1 := keepc hbx (Nat.lt_of_lt_of_le hpw Xw.size) X1
      have Xw := Xw.trans (hbx.mono Xw.size)
      refine hK.out _ _ (fun _ => ⟨X0, X1⟩) ?_
      clear hK K hbx
      refine wpAnyG_ready (rs := [2]) (by kernel_rfl) (by simp) ?_
      refine AllReadyG.cons rfl (fun K hK => ?_) AllReadyG.nil
      go_simp
      refine (HMul.out _ v1 Xw H1).mono ?_
      rintro e w2h ⟨v2, rfl, H2, hbx⟩
      have H1 := H1.call hbx
      have X0 := keepc hbx (Nat.lt_of_lt_of_le hpw Xw.size) X0
      have X1 := keepc hbx (Nat.lt_of_lt_of_le hpw Xw.size) X1
      have Xw := Xw.trans (hbx.mono Xw.size)
      refine hK.out _ _ (fun _ => ⟨X0, X1⟩) ?_
      clear hK K hbx
      refine wpAnyG_ready (rs := [8]) (by kernel_rfl) (by simp) ?_
      refine AllReadyG.cons rfl (fun K hK => ?_) AllReadyG.nil
      go_simp
      refine (of_any (D : Int) _ (by omega) (by omega)).mono ?_
      rintro e w8hi ⟨v8, rfl, H8, hbx⟩
      have H1 := H1.call hbx
      have H2 := H2.call hbx
      have X0 := keepc hbx (Nat.lt_of_lt_of_le hpw Xw.size) X0
      have X1 := keepc hbx (Nat.lt_of_lt_of_le hpw Xw.size) X1
      have Xw := Xw.trans (hbx.mono Xw.size)
      refine hK.out _ _ (fun _ => ⟨X0, X1⟩) ?_
      clear hK K hbx
      refine wpAnyG_ready (rs := [9]) (by kernel_rfl) (by simp) ?_
      refine AllReadyG.cons rfl (fun K hK => ?_) AllReadyG.nil
      go_simp
      refine (HAdd.out _ v2 v8 Xw H2 H8).mono ?_
      rintro e w9hij ⟨v9, rfl, H9, hbx⟩
      have H1 := H1.call hbx
      have H2 := H2.call hbx
      have H8 := H8.call hbx
      have X0 := keepc hbx (Nat.lt_of_lt_of_le hpw Xw.size) X0
      have X1 := keepc hbx (Nat.lt_of_lt_of_le hpw Xw.size) X1
      have Xw := Xw.trans (hbx.mono Xw.size)
      refine hK.out _ _ (fun _ => ⟨X0, X1⟩) ?_
      clear hK K hbx
      obtain ⟨n7, a7, m7, c7, rfl⟩ := H9.form
      obtain ⟨W8, hW8, HP8, HH8, HR8, HW8⟩ := H9.put3 (HP.out.call Xw) (HR.out.call Xw) (by omega) (HW.out.trans (Xw.mono hwl)) (by omega)
      have YF : ∀ o, w9hij.frozen? ⟨P, o, none⟩ = false := (HP.out.call Xw).frozen
      refine wpAnyG_ready (rs := [10]) (by kernel_rfl) (by simp) ?_
      refine AllReadyG.cons rfl (fun K hK => ?_) AllReadyG.nil
      go_simp
      refine hK.out _ _ (fun h => by cases h) ?_
      clear hK K
      refine wpAnyG_done (by kernel_rfl) ?_ _
      clear hW8 H9 YF x0 x1 xf X0 X1 Xw H2 H8
      go_wp2_with fail
      go_roundg qq
      case measure => omega
      case rel => exact ⟨i + 1, nv * 10 + D, n7, a7, m7, c7, by have := HTQ.out; omega, by first | rfl | simp, HN1, HP8, by unfold Hid; rw [HvN.out]; exact HH8.out, HR8, HW8⟩
end Go.Proofs.YtkhpfdgkmnifcaaDoor
