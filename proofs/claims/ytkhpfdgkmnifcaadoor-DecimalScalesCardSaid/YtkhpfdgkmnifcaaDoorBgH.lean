/- gromaref10.Ten. -/
import Derived.Test.YtkhpfdgkmnifcaaDoorBgG
set_option linter.unusedVariables false
set_option linter.unusedSimpArgs false
namespace Go.Rg
open Go Go.RowKit
theorem heldG_do {P : Program} {id : Nat} {Q : Exit → Act → World → Prop} {a : Act} {w : World} {l : List Oper} (S : World → Prop) (late : Nat → Bool) (hm : P.follows .mixedOrders = true)
    (h : wpAnyG P .any l.toArray Q S late l.toArray.size (Array.replicate l.toArray.size false) a w.drew) : (Code.region id l.toArray true).wp P Q a w :=
  wp_region_any hm (wpAny_of_G _ _ _ _ h)
end Go.Rg
namespace Go.Proofs.YtkhpfdgkmnifcaaDoor
open Go.RowKit Go.Rg Bg
attribute [local go_sem] Oper.semAt_some

theorem lim_ten (k : Nat) (h : k ≤ 250) : ((10 : Int) ^ k).natAbs < lim := by
  have h1 : (10 : Int) ^ k = ((10 ^ k : Nat) : Int) := by simp
  rw [h1, Int.natAbs_natCast]
  have h2 : 10 ^ k ≤ 10 ^ 250 := Nat.pow_le_pow_right (by decide) h
  have h3 : 10 ^ 250 < lim := by unfold lim; decide +kernel
  omega
theorem lim_small (n : Int) (h : n.natAbs ≤ 9223372036854775808) : n.natAbs < lim := by
  have h3 : 9223372036854775808 < lim := by unfold lim; decide +kernel
  omega

/-- behind a store of a number into a box: the box, the number, another box -/
theorem Big.put3 {w W : World} {b b' : Nat} {x0 x1 : Bool} {a0 a1 : Option Addr} {n0 c0 n1 c1 : Nat} {t t' : TypeId} {n : Bool} {a : Option Addr} {k c : Nat} {x : Int} (h : Big W (.agg #[.bool n, .slice a k c]) x) (hB : Blk W b [.bool x0, .slice a0 n0 c0] t) (hB' : Blk W b' [.bool x1, .slice a1 n1 c1] t') (hne : b' ≠ b) (hb : Below w.heap.size w W) (hle : w.heap.size ≤ b) :
    ∃ W', (W.setCell ⟨b, 0, none⟩ (.bool n)).setCell ⟨b, 1, none⟩ (.slice a k c) = W' ∧ Hid (Blk W' b [.bool n, .slice a k c] t) ∧ Hid (Big W' (.agg #[.bool n, .slice a k c]) x) ∧ Hid (Blk W' b' [.bool x1, .slice a1 n1 c1] t') ∧ Hid (Below w.heap.size w W') :=
  ⟨_, rfl, put2 hB, h.put hB _ _, (hB'.other _ hne _).other _ hne _, put2_below hb hle⟩

set_option maxHeartbeats 4000000 in
theorem ten_any (n : Int) (w : World) (hn : n ≤ 250) :
    Calls Tryd.prog 14 #[.int .i64 n] w fun e w' => ∃ v, e = .returned v ∧ Big w' v ((10 : Int) ^ n.toNat) ∧ Below w.heap.size w w' := by
  obtain ⟨N, hN⟩ : ∃ N : Nat, N = n.toNat := ⟨_, rfl⟩
  rw [← hN]
  go_enter Tryd.func14, Tryd.ntmps14
  go_wp2_with fail
  obtain ⟨W, hW⟩ : ∃ W, w.alloc (.cells #[.bool false, .slice none 0 0] 29) = W := ⟨_, rfl⟩
  have hB2 : Blk W w.heap.size [.bool false, .slice none 0 0] 29 := hW ▸ Blk.new w _ _
  have hBw : Below w.heap.size w W := hW ▸ (Below.refl _ w).alloc (Nat.le_refl _) _
  rw [hW]
  clear hW
  refine (of_any 1 W (by decide) (by decide)).mono ?_
  rintro e w5 ⟨v5, rfl, H5, hb5⟩
  have hbw5 := hBw.trans (hb5.mono hBw.size)
  have hB5 := hB2.call hb5
  clear hBw hB2 hb5
  obtain ⟨n5, a5, k5, c5, rfl⟩ := H5.form
  go_wp2_with fail
  obtain ⟨W2, hW2⟩ : ∃ W, w5.alloc (.cells #[.bool n5, .slice a5 k5 c5] 29) = W := ⟨_, rfl⟩
  have hb52 : Below w5.heap.size w5 W2 := hW2 ▸ (Below.refl _ w5).alloc (Nat.le_refl _) _
  have HP : Hid (Blk W2 w5.heap.size [.bool n5, .slice a5 k5 c5] 29) := hW2 ▸ Blk.new w5 _ _
  have HH : Hid (Big W2 (.agg #[.bool n5, .slice a5 k5 c5]) ((10 : Int) ^ 0)) := H5.call hb52
  have HR := Lib.hid (hB5.call hb52)
  have HW := Lib.hid (hbw5.trans (hb52.mono hbw5.size))
  have hne : w.heap.size < w5.heap.size := hB5.lt
  rw [hW2]
  clear hW2 hb52 H5 hB5 hbw5
  obtain ⟨P, hP⟩ : ∃ P, w5.heap.size = P := ⟨_, rfl⟩
  rw [hP] at hne HP ⊢
  clear hP
  go_loopg [4] N (fun q s4 wx => ∃ (i : Nat) (m : Bool) (a : Option Addr) (k c : Nat), i + q = N ∧ s4 = .int .i64 (i : Int) ∧ Hid (Blk wx P [.bool m, .slice a k c] 29) ∧ Hid (Big wx (.agg #[.bool m, .slice a k c]) ((10 : Int) ^ i)) ∧
    Hid (Blk wx w.heap.size [.bool false, .slice none 0 0] 29) ∧ Hid (Below w.heap.size w wx))
  case atStart => exact ⟨0, n5, a5, k5, c5, by omega, rfl, HP, HH, HR, HW⟩
  case round =>
    clear HP HH HR HW
    obtain ⟨i, m, a, k, c, hiq, rfl, HP, HH, HR, HW⟩ := hrel
    have x0 := HP.out.cell (j := 0) rfl
    have x1 := HP.out.cell (j := 1) rfl
    have xf := HP.out.frozen
    cases gk with
    | zero =>
      have t1 : ¬ ((i : Int) < n) := by omega
      have hin : i = N := by omega
      subst hin
      obtain ⟨n6, a6, m6, c6, e6, b0, b1, bf, z0, z1, HH6, Hbp⟩ := HH.out.ends HR.out HW.out (Nat.le_refl _)
      cases e6
      clear hN
      go_wp2_with fail
      exact bodyPost_ret (v := .agg #[.bool m, .slice a k c]) (by simp [results, Tryd.results14, go_sem, *]) rfl ⟨_, rfl, HH6.out, Hbp.out⟩
    | succ q =>
      have t1 : (i : Int) < n := by omega
      have hi250 : i < 250 := by omega
      have HMul : Hid (∀ X v, Below wr.heap.size wr X → Big X v 10 → Calls Tryd.prog 13 #[.agg #[.bool m, .slice a k c], v] X fun e X' => ∃ v', e = .returned v' ∧ Big X' v' ((10 : Int) ^ i * 10) ∧ Below X.heap.size X X') := fun X v hX hv =>
        mul_any _ v _ 10 X (HH.out.call hX) hv (lim_ten i (by omega)) (lim_small 10 (by decide))
      have hpw : P < wr.heap.size := HP.out.lt
      have hwl : w.heap.size ≤ wr.heap.size := HW.out.size
      clear hN
      go_wp2_with fail
      refine heldG_do (fun w' => w'.cell? ⟨P, 0, none⟩ = some (.bool m) ∧ w'.cell? ⟨P, 1, none⟩ = some (.slice a k c)) (fun j => j == 3) (by kernel_rfl) ?_
      refine wpAnyG_takeD (i := 0) (v := .agg #[.bool m, .slice a k c]) [0, 2, 3] rfl (by kernel_rfl) (by kernel_rfl) (by kernel_rfl) (by kernel_rfl) (by kernel_rfl) (fun _ _ _ h => h) (Or.inl ⟨by rfl, ?y0⟩) ⟨x0, x1⟩ ?_
      case y0 => intro w' hS'; obtain ⟨S0, S1⟩ := hS'; clear x0 x1; go_simp
      simp only [Act.put, List.setIfInBounds_toArray, List.set_cons_zero, List.set_cons_succ]
      refine wpAnyG_ready (rs := [1]) (by kernel_rfl) (by simp) ?_
      refine AllReadyG.cons rfl (fun K hK => ?_) AllReadyG.nil
      go_simp
      refine (of_any 10 _ (by decide) (by decide)).mono ?_
      rintro e w6 ⟨v6, rfl, H6, hb6⟩
      have X0 := keepc hb6 hpw x0
      have X1 := keepc hb6 hpw x1
      have hb6w : Below wr.heap.size wr w6 := (Below.refl _ wr).drew.trans hb6
      refine hK.out _ _ (fun _ => ⟨X0, X1⟩) ?_
      clear hK K
      refine wpAnyG_ready (rs := [2]) (by kernel_rfl) (by simp) ?_
      refine AllReadyG.cons rfl (fun K hK => ?_) AllReadyG.nil
      go_simp
      refine (HMul.out w6 v6 hb6w H6).mono ?_
      rintro e w7 ⟨v7, rfl, H7, hb7⟩
      have Y0 := keepc hb7 (Nat.lt_of_lt_of_le hpw hb6w.size) X0
      have Y1 := keepc hb7 (Nat.lt_of_lt_of_le hpw hb6w.size) X1
      have hb7w : Below wr.heap.size wr w7 := hb6w.trans (hb7.mono hb6w.size)
      refine hK.out _ _ (fun _ => ⟨Y0, Y1⟩) ?_
      clear hK K
      obtain ⟨n7, a7, m7, c7, rfl⟩ := H7.form
      obtain ⟨W8, hW8, HP8, HH8, HR8, HW8⟩ := H7.put3 (HP.out.call hb7w) (HR.out.call hb7w) (by omega) (HW.out.trans (hb7w.mono hwl)) (by omega)
      have YF : ∀ o, w7.frozen? ⟨P, o, none⟩ = false := (HP.out.call hb7w).frozen
      refine wpAnyG_ready (rs := [3]) (by kernel_rfl) (by simp) ?_
      refine AllReadyG.cons rfl (fun K hK => ?_) AllReadyG.nil
      go_simp
      refine hK.out _ _ (fun h => by cases h) ?_
      clear hK K
      refine wpAnyG_done (by kernel_rfl) ?_ _
      clear hW8 H7 YF x0 x1 xf X0 X1 Y0 Y1 hb6 hb7 hb6w hb7w H6
      go_wp2_with fail
      go_roundg q
      case measure => omega
      case rel => exact ⟨i + 1, n7, a7, m7, c7, by omega, by first | rfl | simp, HP8, by unfold Hid; rw [Int.pow_succ]; exact HH8.out, HR8, HW8⟩
end Go.Proofs.YtkhpfdgkmnifcaaDoor
