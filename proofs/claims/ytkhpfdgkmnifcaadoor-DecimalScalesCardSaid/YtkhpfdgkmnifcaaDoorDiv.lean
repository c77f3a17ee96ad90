/- gromalaw10.divides, walked. Printed by wip/gendiv.py. -/
import Derived.Test.YtkhpfdgkmnifcaaDoorBgH
set_option linter.unusedVariables false
set_option linter.unusedSimpArgs false
namespace Go.Proofs.YtkhpfdgkmnifcaaDoor
open Go.RowKit Go.Rg Bg
attribute [local go_sem] Oper.semAt_some

theorem info_big : (Tryd.prog.info? 29).map (fun i => (i.zero, i.size, i.bytes)) = some (some (.agg #[.bool false, .slice none 0 0]), 2, 32) := by kernel_rfl
/-- numbers, as they stand in boxes -/
abbrev Box := Bool × Option Addr × Nat × Nat
def Box.v (b : Box) : Value := .agg #[.bool b.1, .slice b.2.1 b.2.2.1 b.2.2.2]
def flatB (l : List Box) : List Value := l.flatMap fun b => [.bool b.1, .slice b.2.1 b.2.2.1 b.2.2.2]
theorem flatB_len (l : List Box) : (flatB l).length = l.length * 2 := by
  induction l with
  | nil => rfl
  | cons b l ih => unfold flatB at *; rw [List.flatMap_cons, List.length_append, ih, List.length_cons]; simp; omega
theorem flatB_snoc (l : List Box) (b : Box) : flatB (l ++ [b]) = flatB l ++ [.bool b.1, .slice b.2.1 b.2.2.1 b.2.2.2] := by unfold flatB; rw [List.flatMap_append]; rfl
theorem flatB_at {l : List Box} {t : Nat} {b : Box} (h : l[t]? = some b) : (flatB l)[t * 2]? = some (.bool b.1) ∧ (flatB l)[t * 2 + 1]? = some (.slice b.2.1 b.2.2.1 b.2.2.2) := by
  induction l generalizing t with
  | nil => cases h
  | cons c l ih =>
    cases t with
    | zero => simp at h; subst h; exact ⟨rfl, rfl⟩
    | succ t =>
      have := ih (t := t) (by simpa using h)
      have e : ∀ i, (flatB (c :: l))[i + 2]? = (flatB l)[i]? := fun i => rfl
      rw [show (t + 1) * 2 = t * 2 + 2 from by omega, show t * 2 + 2 + 1 = t * 2 + 1 + 2 from rfl, e, e]
      exact this
/-- y, twice y, and so on -/
def Dbls (w : World) (l : List Box) (y : Int) (X : Int) : Prop := ∀ (t : Nat) b, l[t]? = some b → Big w b.v (y * 2 ^ t) ∧ y * 2 ^ t ≤ X
theorem Dbls.nil (w : World) (y X : Int) : Hid (Dbls w [] y X) := fun t b h => by cases h
theorem Dbls.keep {w w' : World} {l : List Box} {y X : Int} (h : Dbls w l y X) (hk : KeepT 3 w w') : Dbls w' l y X := fun t b ht => ⟨(h t b ht).1.keep hk, (h t b ht).2⟩
theorem Dbls.snoc {w : World} {l : List Box} {y X : Int} {b : Box} (h : Dbls w l y X) (hb : Big w b.v (y * 2 ^ l.length)) (hX : y * 2 ^ l.length ≤ X) : Dbls w (l ++ [b]) y X := by
  intro t c ht
  rw [List.getElem?_append] at ht
  split at ht
  · exact h t c ht
  · have : t - l.length = 0 := by
      rcases Nat.eq_zero_or_pos (t - l.length) with h | h
      · exact h
      · rw [List.getElem?_eq_none (by simp; omega)] at ht; cases ht
    rw [this] at ht
    simp at ht
    subst ht
    rw [show t = l.length from by omega]
    exact ⟨hb, hX⟩
theorem add_cell {w : World} {g j : Nat} {u : Value} (h : w.cell? ((⟨g, 0, none⟩ : Addr).add j) = some u) : w.cell? ⟨g, j, none⟩ = some u := by
  have hadd : (⟨g, 0, none⟩ : Addr).add j = ⟨g, j, none⟩ := by unfold Addr.add; split <;> simp_all
  rwa [hadd] at h
theorem keep_put {W : World} {b : Nat} {x0 y0 : Value} (h : Blk W b [x0, y0] 29) (u s : Value) : KeepT 3 W ((W.setCell ⟨b, 0, none⟩ u).setCell ⟨b, 1, none⟩ s) :=
  (KeepT.set ⟨b, 0, none⟩ h (by decide) u).trans (KeepT.set ⟨b, 1, none⟩ (h.set 0 u) (by decide) s)
/-- a box of a number -/
structure Bx (w : World) (b : Nat) (v : Box) (x : Int) : Prop where
  blk : Blk w b [.bool v.1, .slice v.2.1 v.2.2.1 v.2.2.2] 29
  big : Big w v.v x
theorem Bx.call {w w' : World} {b : Nat} {v : Box} {x : Int} (h : Bx w b v x) (hb : Below w.heap.size w w') : Bx w' b v x := ⟨h.blk.call hb, h.big.call hb⟩
theorem Bx.drew {w : World} {b : Nat} {v : Box} {x : Int} (h : Bx w b v x) : Bx w.drew b v x := ⟨h.blk, h.big.call ((Below.refl _ w).drew)⟩
theorem Bx.grown {w w' : World} {b : Nat} {v : Box} {x : Int} (h : Bx w b v x) {base n : Nat} {u : Value} {xs : List Value} (ho : w.ownsRow base 29 2 u n xs) (hg : w.grownBy w' u.ownBlock) (hne : some b ≠ u.ownBlock) : Bx w' b v x :=
  ⟨h.blk.grown hg hne, h.big.keep (KeepT.grown ho (by decide) hg)⟩
theorem Bx.put {w : World} {b c : Nat} {v u : Box} {x y : Int} (h : Bx w b v x) (hc : Bx w c u y) (hne : b ≠ c) (t s : Value) : Bx ((w.setCell ⟨c, 0, none⟩ t).setCell ⟨c, 1, none⟩ s) b v x :=
  ⟨(h.blk.other _ hne _).other _ hne _, h.big.keep (keep_put hc.blk _ _)⟩
theorem own_fresh {w : World} {base e size n : Nat} {v : Value} {xs : List Value} (h : w.ownsRow base e size v n xs) : some w.heap.size ≠ v.ownBlock := fun e => by have := (h.lt _ e.symm).2; omega
theorem own_putx {w : World} {base e n : Nat} {v : Value} {xs : List Value} {c : Nat} (h : w.ownsRow base e 2 v n xs) (hne : some c ≠ v.ownBlock) (t s : Value) : ((w.setCell ⟨c, 0, none⟩ t).setCell ⟨c, 1, none⟩ s).ownsRow base e 2 v n xs := by
  obtain ⟨hl, h⟩ := h
  refine ⟨hl, ?_⟩
  rcases h with h | ⟨g, cap, cur, rfl, hb, hg, r⟩
  · exact .inl h
  · have hn : g ≠ c := fun e => hne (by rw [e]; rfl)
    refine .inr ⟨g, cap, cur, rfl, hb, ?_, r⟩
    rw [Below.heap_setCell _ _ _ g (by simpa using hn), Below.heap_setCell _ _ _ g (by simpa using hn)]; exact hg
theorem pow_gt (k : Nat) : k < 2 ^ k := Nat.lt_two_pow_self

theorem cmpI_le (x y : Int) : cmpI x y ≤ 0 ↔ x ≤ y := by
  unfold cmpI
  repeat' split
  all_goals constructor <;> intro h <;> omega
theorem cmpI_lt (x : Int) : cmpI x 0 < 0 ↔ x < 0 := by
  unfold cmpI
  repeat' split
  all_goals constructor <;> intro h <;> omega
theorem sub_round {y : Int} {Y Z q : Nat} (hy : 0 < y) (hle : y * 2 ^ q ≤ (Y : Int)) (hlt : (Y : Int) < y * 2 ^ (q + 1)) (hZ : (Y : Int) - y * 2 ^ q = (Z : Int)) : Z % y.natAbs = Y % y.natAbs ∧ (Z : Int) < y * 2 ^ q := by
  have h1 : y * 2 ^ (q + 1) = y * 2 ^ q + y * 2 ^ q := by rw [Int.pow_succ, ← Int.mul_assoc]; omega
  refine ⟨?_, by omega⟩
  obtain ⟨m, hm⟩ : ∃ m : Nat, y = m := ⟨y.toNat, by omega⟩
  subst hm
  rw [Int.natAbs_natCast]
  have h2 : ((m * 2 ^ q : Nat) : Int) = (m : Int) * 2 ^ q := by rw [Int.natCast_mul, Int.natCast_pow]; rfl
  rw [← h2] at hZ hle
  have h3 : Y = Z + m * 2 ^ q := by omega
  rw [h3, Nat.add_mul_mod_self_left]
theorem too_high {y : Int} {X : Nat} (hy : 0 < y) (h : 2 * X < lim) : (X : Int) < y * 2 ^ 3001 := by
  have h4 : lim ≤ 2 ^ 3001 := by unfold lim; decide +kernel
  have e : ((2 ^ 3001 : Nat) : Int) = 2 ^ 3001 := Int.natCast_pow 2 3001
  rw [← e]
  clear e
  have h5 : (1 : Int) * ((2 ^ 3001 : Nat) : Int) ≤ y * ((2 ^ 3001 : Nat) : Int) := Int.mul_le_mul_of_nonneg_right (by omega) (Int.natCast_nonneg _)
  generalize (2 ^ 3001 : Nat) = Z at *
  omega

set_option maxHeartbeats 8000000 in
theorem divides_any (v1 v2 : Value) (x y : Int) (w : World) (b1 : Big w v1 x) (b2 : Big w v2 y) (hy : 0 < y) (hx : 2 * x.natAbs < lim) (hy2 : y.natAbs < lim) :
    Calls Tryd.prog 16 #[v1, v2] w fun e w' => e = .returned (.bool (decide (x.natAbs % y.natAbs = 0))) ∧ Below w.heap.size w w' := by
  obtain ⟨n1, a1, k1, c1, rfl⟩ := b1.form
  obtain ⟨yn, ya, yk, yc, rfl⟩ := b2.form
  have HY2 := Lib.hid hy2
  obtain ⟨X, hX⟩ : ∃ X, X = x.natAbs := ⟨_, rfl⟩
  have HX2 : Hid (2 * X < lim) := by rw [hX]; exact hx
  have HXl : Hid (((X : Nat) : Int).natAbs < lim) := by unfold Hid; rw [Int.natAbs_natCast]; have := HX2.out; omega
  have HXb : Hid ((X : Int) < y * 2 ^ 3001) := too_high hy HX2.out
  have HR : Hid (decide (x.natAbs % y.natAbs = 0) = decide (X % y.natAbs = 0)) := by unfold Hid; rw [hX]
  generalize decide (x.natAbs % y.natAbs = 0) = R0 at *
  have HS := Lib.hid (fun W (h : Below w.heap.size w W) => sign_any _ x W (b1.call h) (by have := HXl.out; rw [hX] at this; omega))
  have HM := Lib.hid (fun W (h : Below w.heap.size w W) => minus_any _ x W (b1.call h))
  have B1 := Lib.hid b1
  have B2 := Lib.hid b2
  have Hxx := Lib.hid hX
  clear b1 b2 hx hy2 hX
  go_enter Tryd.func16, Tryd.ntmps16
  go_wp2_with fail
  obtain ⟨W, hW⟩ : ∃ W, ([.cells #[.bool n1, .slice a1 k1 c1] 29, .cells #[.bool yn, .slice ya yk yc] 29] : List Obj).foldl World.alloc w = W := ⟨_, rfl⟩
  have hB1 : Blk W (w.heap.size + 0) [.bool n1, .slice a1 k1 c1] 29 := Blk.allocs _ hW 0 rfl
  have hB2 : Blk W (w.heap.size + 1) [.bool yn, .slice ya yk yc] 29 := Blk.allocs _ hW 1 rfl
  rw [Nat.add_zero] at hB1
  have hBw : Below w.heap.size w W := hW ▸ allocs_below _ w
  simp only [List.foldl_cons, List.foldl_nil] at hW
  rw [hW]
  clear hW
  have HB1 := Lib.hid hB1
  have HB2 := Lib.hid hB2
  have HBw := Lib.hid hBw
  clear hB1 hB2 hBw
  refine (HS.out W HBw.out).mono ?_
  rintro e W3 ⟨rfl, hb3⟩
  have b0 := (HB1.out.call hb3).cell (j := 0) rfl
  have b1 := (HB1.out.call hb3).cell (j := 1) rfl
  have bf := (HB1.out.call hb3).frozen
  have hsW : w.heap.size ≤ W.heap.size := HBw.out.size
  have HB3 := Lib.hid (HBw.out.trans (hb3.mono hsW))
  have hBX : Bx W3 w.heap.size (n1, a1, k1, c1) x := ⟨HB1.out.call hb3, B1.out.call HB3.out⟩
  have hBY : Bx W3 (w.heap.size + 1) (yn, ya, yk, yc) y := ⟨HB2.out.call hb3, B2.out.call HB3.out⟩
  have HBX := Lib.hid hBX
  have HBY := Lib.hid hBY
  clear hb3 hBX hBY HB1 HB2
  by_cases hneg : x < 0
  · have hc : cmpI x 0 < 0 := (cmpI_lt x).2 hneg
    have HMx : Hid ((X : Int) = -x) := by unfold Hid; rw [Hxx.out]; omega
    generalize cmpI x 0 = R at *
    clear hneg
    go_wp2_with fail
    refine (HM.out W3 HB3.out).mono ?_
    rintro e W5 ⟨v5, rfl, H5, hb5⟩
    rw [← HMx.out] at H5
    obtain ⟨xn, xa, xk, xc, rfl⟩ := H5.form
    have hX5 := HBX.out.call hb5
    have hY5 := HBY.out.call hb5
    have b0 := hX5.blk.cell (j := 0) rfl
    have b1 := hX5.blk.cell (j := 1) rfl
    have bf := hX5.blk.frozen
    obtain ⟨W1, hW1⟩ : ∃ W1, (W5.setCell ⟨w.heap.size, 0, none⟩ (.bool xn)).setCell ⟨w.heap.size, 1, none⟩ (.slice xa xk xc) = W1 := ⟨_, rfl⟩
    have HXn : Hid (Bx W1 w.heap.size (xn, xa, xk, xc) (X : Int)) := hW1 ▸ ⟨put2 hX5.blk, H5.keep (keep_put hX5.blk _ _)⟩
    have HYn : Hid (Bx W1 (w.heap.size + 1) (yn, ya, yk, yc) y) := hW1 ▸ hY5.put hX5 (by omega) _ _
    have HWn : Hid (Below w.heap.size w W1) := hW1 ▸ put2_below (HB3.out.trans (hb5.mono HB3.out.size)) (Nat.le_refl _)
    clear hX5 hY5 hb5 HBX HBY
    have HYs : w.heap.size + 1 < W1.heap.size := HYn.out.blk.lt
    have HX : Hid (Bx W1 w.heap.size (xn, xa, xk, xc) (X : Int)) := HXn
    have HY : Hid (Bx W1 (w.heap.size + 1) (yn, ya, yk, yc) y) := HYn
    have HW : Hid (Below w.heap.size w W1) := HWn
    have hp0 := HY.out.blk.cell (j := 0) rfl
    have hp1 := HY.out.blk.cell (j := 1) rfl
    go_wp2_with fail
    clear hW1
    obtain ⟨W2, hW2⟩ : ∃ W, W1.alloc (.cells #[.bool yn, .slice ya yk yc] 29) = W := ⟨_, rfl⟩
    have hb12 : Below W1.heap.size W1 W2 := hW2 ▸ (Below.refl _ W1).alloc (Nat.le_refl _) _
    have HD : Hid (Bx W2 W1.heap.size (yn, ya, yk, yc) (y * 2 ^ 0)) := ⟨hW2 ▸ Blk.new W1 _ _, by rw [Int.pow_zero, Int.mul_one]; exact HY.out.big.call hb12⟩
    have HX := Lib.hid (HX.out.call hb12)
    have HY := Lib.hid (HY.out.call hb12)
    have hsz1 : w.heap.size + 1 < W1.heap.size := HYs
    have HW := Lib.hid (HW.out.trans (hb12.mono (by omega)))
    rw [hW2]
    clear hW2 hb12 hp0 hp1
    have HD0 : Hid ((y * 2 ^ ([] : List Box).length).natAbs < lim) := by unfold Hid; rw [List.length_nil, Int.pow_zero, Int.mul_one]; exact HY2.out
    have HDn : Hid (some W1.heap.size ≠ (Value.slice none ([] : List Box).length 0).ownBlock) := by unfold Hid; simp [Value.ownBlock]
    go_loopg [5, 6] 3001 (fun qq s5 s6 wx => ∃ (P : Nat) (L : List Box) (av : Option Addr) (capv : Nat) (pn : Bool) (pa : Option Addr) (pk pc : Nat), L.length + qq = 3001 ∧ s5 = .slice av L.length capv ∧ s6 = .pointer (some ⟨P, 0, none⟩) ∧
      Hid (wx.ownsRow W1.heap.size 29 2 (.slice av L.length capv) L.length (flatB L)) ∧ Hid (Dbls wx L y (X : Int)) ∧ Hid (Bx wx P (pn, pa, pk, pc) (y * 2 ^ L.length)) ∧ Hid ((y * 2 ^ L.length).natAbs < lim) ∧ W1.heap.size ≤ P ∧ Hid (some P ≠ (Value.slice av L.length capv).ownBlock) ∧
      Hid (Bx wx w.heap.size (xn, xa, xk, xc) (X : Int)) ∧ Hid (Below w.heap.size w wx))
    case atStart => exact ⟨W1.heap.size, [], none, 0, yn, ya, yk, yc, rfl, rfl, rfl, World.ownsRow_nil _ _ _ _, Dbls.nil _ _ _, HD, HD0, Nat.le_refl _, HDn, HX, HW⟩
    case round =>
      clear HX HW HD
      obtain ⟨P, L, av, capv, pn, pa, pk, pc, hq, rfl, rfl, HL, HDb, HP, HPl, hP, HPn, HX, HW⟩ := hrel
      have p0 := HP.out.blk.cell (j := 0) rfl
      have p1 := HP.out.blk.cell (j := 1) rfl
      have pf := HP.out.blk.frozen
      have x0 := HX.out.blk.cell (j := 0) rfl
      have x1 := HX.out.blk.cell (j := 1) rfl
      have HC := Lib.hid (cmp_any _ _ (y * 2 ^ L.length) (X : Int) wr HP.out.big HX.out.big HPl.out HXl.out)
      simp only [Box.v] at HC
      by_cases hle : y * 2 ^ L.length ≤ (X : Int)
      · cases gk with
        | zero =>
          exfalso
          have hL : L.length = 3001 := by omega
          rw [hL] at hle
          have := HXb.out
          generalize y * 2 ^ 3001 = Z at *
          omega
        | succ qq =>
          have hc : cmpI (y * 2 ^ L.length) (X : Int) ≤ 0 := (cmpI_le _ _).2 hle
          have hAdd := add_any (.agg #[.bool pn, .slice pa pk pc]) (.agg #[.bool pn, .slice pa pk pc]) (y * 2 ^ L.length) (y * 2 ^ L.length)
          have hdd : y * 2 ^ L.length + y * 2 ^ L.length = y * 2 ^ (L.length + 1) := by rw [Int.pow_succ, ← Int.mul_assoc]; omega
          have hddl : (y * 2 ^ (L.length + 1)).natAbs < lim := by
            have h0 : 0 ≤ y * 2 ^ L.length := Int.mul_nonneg (by omega) (Int.le_of_lt (Int.pow_pos (by decide)))
            have := HX2.out
            omega
          rw [hdd] at hAdd
          have HAdd := Lib.hid hAdd
          have HDl := Lib.hid hddl
          have HLE := Lib.hid hle
          have HQ := Lib.hid hq
          obtain ⟨n, hn⟩ : ∃ n, n = L.length := ⟨_, rfl⟩
          have HN := Lib.hid hn
          have hn3 : n < 3001 := by omega
          rw [← hn] at hc HC hq HP HPl HPn HL HAdd HDl HLE ⊢
          generalize cmpI (y * 2 ^ n) (X : Int) = R at *
          clear hAdd hdd hddl hle hq hn
          go_wp2_with fail
          refine HC.out.mono ?_
          rintro e w5 ⟨rfl, hb5⟩
          have H5 := Lib.hid (HP.out.call hb5)
          have HX5 := Lib.hid (HX.out.call hb5)
          have HL5 := Lib.hid (own_call HL.out hb5)
          have HDb5 := Lib.hid (HDb.out.keep (KeepT.call hb5))
          have hsw : w.heap.size ≤ wr.heap.size := HW.out.size
          have HW5 := Lib.hid (HW.out.trans (hb5.mono hsw))
          have p0 := H5.out.blk.cell (j := 0) rfl
          have p1 := H5.out.blk.cell (j := 1) rfl
          have pf := H5.out.blk.frozen
          have h1w : W1.heap.size ≤ w5.heap.size := by have := H5.out.blk.lt; omega
          clear x0 x1 hb5 HP HX HL HDb HW HC
          have hown := HL5.out
          go_wp2_with (at_builtin; refine wpList_append2 _ rfl _ _ 54 rfl W1.heap.size 29 (.agg #[.bool false, .slice none 0 0]) 2 32 Tryd.underlying54 info_big rfl (by decide) (.slice av n capv) n _ rfl (hown.alloc _) _ _ 1 [.bool pn, .slice pa pk pc] rfl (reads_new _ _ _ 1 1 (by decide) (by decide)) rfl ?e2 ?e3 ?e4 ?e5 ?_)
          case e2 => simp [Value.oneCell']
          case e3 => unfold maxLen; omega
          case e4 => omega
          case e5 => first | omega | (simp; omega)
          intro v' w6 hown6 hgrow hmov
          obtain ⟨a6, cap6, rfl⟩ := own_form hown6
          have hown5 := hown.alloc (.cells #[.bool pn, .slice pa pk pc] 29)
          have hPn := HPn.out
          have hal : Below w5.heap.size w5 (w5.alloc (.cells #[.bool pn, .slice pa pk pc] 29)) := (Below.refl _ w5).alloc (Nat.le_refl _) _
          have hPl5 : P < w5.heap.size := H5.out.blk.lt
          have HP6 := Lib.hid ((H5.out.call hal).grown hown5 hgrow hPn)
          have HX6 := Lib.hid ((HX5.out.call hal).grown hown5 hgrow (fun e => by have := (hown5.lt _ e.symm).1; omega))
          have HDb6 := Lib.hid ((HDb5.out.keep (KeepT.call hal)).keep (KeepT.grown hown5 (by decide) hgrow))
          have HW6 : Hid (Below w.heap.size w w6) := (HW5.out.trans (hal.mono HW5.out.size)).grown hgrow (by have := HW5.out.size; have := hal.size; omega) (fun j e => by have := (hown5.lt _ e).1; omega)
          have HO6 := Lib.hid hown6
          have p0 := HP6.out.blk.cell (j := 0) rfl
          have p1 := HP6.out.blk.cell (j := 1) rfl
          have pf := HP6.out.blk.frozen
          clear hown hown5 hown6 hgrow hmov hPn hal hPl5 H5 HX5 HL5 HDb5 HW5 HPn
          go_wp2_with fail
          obtain ⟨W7, hW7⟩ : ∃ W, w6.alloc (.cells #[.bool pn, .slice pa pk pc] 29) = W := ⟨_, rfl⟩
          have hb67 : Below w6.heap.size w6 W7 := hW7 ▸ (Below.refl _ w6).alloc (Nat.le_refl _) _
          have HN7 : Hid (Bx W7 w6.heap.size (pn, pa, pk, pc) (y * 2 ^ n)) := ⟨hW7 ▸ Blk.new w6 _ _, HP6.out.big.call hb67⟩
          have HX7 := Lib.hid (HX6.out.call hb67)
          have HDb7 := Lib.hid (HDb6.out.keep (KeepT.call hb67))
          have HW7 := Lib.hid (HW6.out.trans (hb67.mono HW6.out.size))
          have HO7 := Lib.hid (own_call HO6.out hb67)
          have hf6 := own_fresh HO6.out
          have HF6 := Lib.hid hf6
          have hw61 : W1.heap.size ≤ w6.heap.size := Nat.le_of_lt (Nat.lt_of_le_of_lt hP HP6.out.blk.lt)
          rw [hW7]
          clear hW7 hb67 hf6 HP6 HX6 HDb6 HW6 HO6 p0 p1 pf
          refine (HAdd.out W7 HN7.out.big HN7.out.big HPl.out HPl.out).mono ?_
          rintro e w8 ⟨v8, rfl, H8, hb8⟩
          obtain ⟨qn, qa, qk, qc, rfl⟩ := H8.form
          have HN8 := Lib.hid (HN7.out.call hb8)
          have HX8 := Lib.hid (HX7.out.call hb8)
          have HDb8 := Lib.hid (HDb7.out.keep (KeepT.call hb8))
          have HW8 := Lib.hid (HW7.out.trans (hb8.mono HW7.out.size))
          have HO8 := Lib.hid (own_call HO7.out hb8)
          have nb0 := HN8.out.blk.cell (j := 0) rfl
          have nb1 := HN8.out.blk.cell (j := 1) rfl
          have nf := HN8.out.blk.frozen
          obtain ⟨W9, hW9⟩ : ∃ W, (w8.setCell ⟨w6.heap.size, 0, none⟩ (.bool qn)).setCell ⟨w6.heap.size, 1, none⟩ (.slice qa qk qc) = W := ⟨_, rfl⟩
          have HN9 : Hid (Bx W9 w6.heap.size (qn, qa, qk, qc) (y * 2 ^ (n + 1))) := hW9 ▸ ⟨put2 HN8.out.blk, H8.keep (keep_put HN8.out.blk _ _)⟩
          have HX9 : Hid (Bx W9 w.heap.size (xn, xa, xk, xc) (X : Int)) := hW9 ▸ HX8.out.put HN8.out (by omega) _ _
          have HDb9 : Hid (Dbls W9 (L ++ [(pn, pa, pk, pc)]) y (X : Int)) := hW9 ▸ (HDb8.out.snoc (b := (pn, pa, pk, pc)) (by rw [← HN.out]; exact HN8.out.big) (by rw [← HN.out]; exact HLE.out)).keep (keep_put HN8.out.blk _ _)
          have HO9 : Hid (W9.ownsRow W1.heap.size 29 2 (.slice a6 (n + 1) cap6) (n + 1) (flatB (L ++ [(pn, pa, pk, pc)]))) := hW9 ▸ (by unfold Hid; rw [flatB_snoc]; exact own_putx HO8.out HF6.out _ _)
          have HW9 : Hid (Below w.heap.size w W9) := hW9 ▸ put2_below HW8.out (by omega)
          have hln : (L ++ [(pn, pa, pk, pc)]).length = n + 1 := by rw [List.length_append, ← HN.out]; rfl
          clear H8 hb8 HN8 HX8 HDb8 HW8 HO8 HN7 HX7 HDb7 HW7 HO7 HAdd
          go_wp2_with fail
          clear hW9 nb0 nb1 nf
          go_roundg qq
          case measure => omega
          case rel => exact ⟨w6.heap.size, L ++ [(pn, pa, pk, pc)], a6, cap6, qn, qa, qk, qc, by rw [hln]; have := HQ.out; have := HN.out; omega, by rw [hln], rfl, by rw [hln]; exact HO9, HDb9, by rw [hln]; exact HN9, by rw [hln]; exact HDl, hw61, by rw [hln]; exact HF6, HX9, HW9⟩
      · have hc : ¬ cmpI (y * 2 ^ L.length) (X : Int) ≤ 0 := fun h => hle ((cmpI_le _ _).1 h)
        have HYt : Hid ((X : Int) < y * 2 ^ L.length) := by unfold Hid; omega
        have HQ := Lib.hid hq
        have hln : L.length ≤ 3001 := by omega
        generalize cmpI (y * 2 ^ L.length) (X : Int) = R at *
        clear hle hq
        go_wp2_with fail
        refine HC.out.mono ?_
        rintro e w5 ⟨rfl, hb5⟩
        have HX5 := Lib.hid (HX.out.call hb5)
        have HL5 := Lib.hid (own_call HL.out hb5)
        have HDb5 := Lib.hid (HDb.out.keep (KeepT.call hb5))
        have hsw : w.heap.size ≤ wr.heap.size := HW.out.size
        have HW5 := Lib.hid (HW.out.trans (hb5.mono hsw))
        clear p0 p1 pf x0 x1 hb5 HP HX HL HDb HW HC HPn HPl
        obtain ⟨n, hn⟩ : ∃ n, n = L.length := ⟨_, rfl⟩
        have HN := Lib.hid hn
        rw [← hn] at hln HL5 ⊢
        clear hn
        go_wp2_with fail
        go_loopg [7] n (fun q s7 wx => ∃ (Y : Nat) (vn : Bool) (va : Option Addr) (vk vc : Nat), q ≤ n ∧ s7 = .int .i64 ((q : Int) - 1) ∧ Hid (Bx wx w.heap.size (vn, va, vk, vc) (Y : Int)) ∧ Hid ((Y : Int) < y * 2 ^ q) ∧ Hid (Y % y.natAbs = X % y.natAbs) ∧ Hid (Y ≤ X) ∧
          Hid (wx.ownsRow W1.heap.size 29 2 (.slice av n capv) n (flatB L)) ∧ Hid (Dbls wx L y (X : Int)) ∧ Hid (Below w.heap.size w wx))
        case atStart => exact ⟨X, _, _, _, _, Nat.le_refl _, rfl, HX5, by unfold Hid; rw [HN.out]; exact HYt.out, rfl, Nat.le_refl _, HL5, HDb5, HW5⟩
        case round =>
          clear HX5 HL5 HDb5 HW5
          obtain ⟨Y, vn, va, vk, vc, hqn, rfl, HX, HYq, HYm, HYX, HL, HDb, HW⟩ := hrel
          have x0 := HX.out.blk.cell (j := 0) rfl
          have x1 := HX.out.blk.cell (j := 1) rfl
          have xf := HX.out.blk.frozen
          have hwx : w.heap.size < wr.heap.size := HX.out.blk.lt
          cases gk with
          | zero =>
            have HE : Hid (R0 = (cmpI (Y : Int) 0 == 0)) := by
              have h1 := HYq.out
              rw [Int.pow_zero, Int.mul_one] at h1
              have h2 : Y % y.natAbs = Y := Nat.mod_eq_of_lt (by omega)
              have h3 := HYm.out
              rw [h2] at h3
              unfold Hid
              rw [HR.out, ← h3]
              unfold cmpI
              by_cases h0 : Y = 0
              · subst h0; rfl
              · rw [decide_eq_false h0, if_neg (by omega), if_pos (by omega)]; rfl
            have HSg := Lib.hid (sign_any _ (Y : Int) wr HX.out.big (by have := HX2.out; have := HYX.out; rw [Int.natAbs_natCast]; omega))
            simp only [Box.v] at HSg
            generalize cmpI (Y : Int) 0 = R1 at *
            go_wp2_with fail
            refine HSg.out.mono ?_
            rintro e w9 ⟨rfl, hb9⟩
            have HW9 := Lib.hid (HW.out.trans (hb9.mono (Nat.le_of_lt hwx)))
            clear hb9
            go_wp2_with fail
            go_ret
            exact ⟨by rw [HE.out]; rfl, HW9.out⟩
          | succ q =>
            have hq0 : 0 ≤ ((q + 1 : Nat) : Int) - 1 := by omega
            have hqe : ((q + 1 : Nat) : Int) - 1 = (q : Int) := by omega
            obtain ⟨b, hb⟩ : ∃ b, L[q]? = some b := ⟨_, List.getElem?_eq_getElem (by rw [← HN.out]; omega)⟩
            obtain ⟨hbig, hbX⟩ := HDb.out q b hb
            have hqn' : q < n := by omega
            have hbl : (y * 2 ^ q).natAbs < lim := by
              have h0 : 0 ≤ y * 2 ^ q := Int.mul_nonneg (by omega) (Int.le_of_lt (Int.pow_pos (by decide)))
              have := HX2.out
              generalize y * 2 ^ q = z at *
              omega
            obtain ⟨f0, f1⟩ := flatB_at hb
            obtain ⟨bn, ba, bk, bc⟩ := b
            simp only at f0 f1
            have hown := HL.out
            obtain ⟨g, hav, e0, e1⟩ : ∃ g, av = some ⟨g, 0, none⟩ ∧ wr.cell? ⟨g, q * 2, none⟩ = some (.bool bn) ∧ wr.cell? ⟨g, q * 2 + 1, none⟩ = some (.slice ba bk bc) := by
              have hc := fun g (h : av = some ⟨g, 0, none⟩) => World.ownsRow.cells (g := g) hown (by rw [h]; simp [Value.ownBlock])
              rcases hown.2 with ⟨h, _⟩ | ⟨g, cap, cur, h, _⟩
              · cases h; omega
              · have hav : av = some ⟨g, 0, none⟩ := by cases h; rfl
                refine ⟨g, hav, ?_, ?_⟩
                · exact add_cell (hc g hav _ _ f0)
                · exact add_cell (hc g hav _ _ f1)
            subst hav
            have HC := Lib.hid (cmp_any _ _ (y * 2 ^ q) (Y : Int) wr.drew (hbig.call (Below.refl _ wr).drew) HX.out.drew.big hbl (by have := HX2.out; have := HYX.out; rw [Int.natAbs_natCast]; omega))
            simp only [Box.v] at HC
            have hnn : n ≤ 3001 := hln
            clear hq0
            have HBig := Lib.hid hbig
            have gneb : g ≠ w.heap.size := fun e => by have := (hown.lt g (by simp [Value.ownBlock])).1; omega
            have hglt : g < wr.heap.size := (hown.lt g (by simp [Value.ownBlock])).2
            have HBl := Lib.hid hbl
            clear hbig f0 f1 hb hown hbX hbl
            by_cases hle : y * 2 ^ q ≤ (Y : Int)
            · have hc : cmpI (y * 2 ^ q) (Y : Int) ≤ 0 := (cmpI_le _ _).2 hle
              have HLE := Lib.hid hle
              generalize cmpI (y * 2 ^ q) (Y : Int) = R at *
              clear hle
              go_wp2_with fail
              refine heldG_do (fun w' => w'.cell? ⟨w.heap.size, 0, none⟩ = some (.bool vn) ∧ w'.cell? ⟨w.heap.size, 1, none⟩ = some (.slice va vk vc) ∧ w'.cell? ⟨g, q * 2, none⟩ = some (.bool bn) ∧ w'.cell? ⟨g, q * 2 + 1, none⟩ = some (.slice ba bk bc)) (fun _ => false) (by kernel_rfl) ?_
              refine wpAnyG_takeD (i := 0) (v := .slice (some ⟨g, 0, none⟩) n capv) [0] rfl (by kernel_rfl) (by kernel_rfl) (by kernel_rfl) (by kernel_rfl) (by kernel_rfl) (fun _ _ _ h => h) (Or.inl ⟨by rfl, ?y0⟩) ⟨x0, x1, e0, e1⟩ ?_
              case y0 => intro w' hS'; obtain ⟨S0, S1, S2, S3⟩ := hS'; clear x0 x1 e0 e1; go_simp
              simp only [Act.put, List.setIfInBounds_toArray, List.set_cons_zero, List.set_cons_succ]
              refine wpAnyG_takeD (i := 1) (v := .int .i64 (q : Int)) [1] rfl (by kernel_rfl) (by kernel_rfl) (by kernel_rfl) (by kernel_rfl) (by kernel_rfl) (fun _ _ _ h => h) (Or.inl ⟨by rfl, ?y1⟩) ⟨x0, x1, e0, e1⟩ ?_
              case y1 => intro w' hS'; obtain ⟨S0, S1, S2, S3⟩ := hS'; clear x0 x1 e0 e1; go_simp
              simp only [Act.put, List.setIfInBounds_toArray, List.set_cons_zero, List.set_cons_succ]
              refine wpAnyG_takeD (i := 2) (v := .pointer (some ⟨g, q * 2, none⟩)) [2] rfl (by kernel_rfl) (by kernel_rfl) (by kernel_rfl) (by kernel_rfl) (by kernel_rfl) (fun _ _ _ h => h) (Or.inl ⟨by rfl, ?y2⟩) ⟨x0, x1, e0, e1⟩ ?_
              case y2 => intro w' hS'; obtain ⟨S0, S1, S2, S3⟩ := hS'; clear x0 x1 e0 e1; go_simp
              simp only [Act.put, List.setIfInBounds_toArray, List.set_cons_zero, List.set_cons_succ]
              refine wpAnyG_takeD (i := 3) (v := .agg #[.bool bn, .slice ba bk bc]) [3] rfl (by kernel_rfl) (by kernel_rfl) (by kernel_rfl) (by kernel_rfl) (by kernel_rfl) (fun _ _ _ h => h) (Or.inl ⟨by rfl, ?y3⟩) ⟨x0, x1, e0, e1⟩ ?_
              case y3 => intro w' hS'; obtain ⟨S0, S1, S2, S3⟩ := hS'; clear x0 x1 e0 e1; go_simp
              simp only [Act.put, List.setIfInBounds_toArray, List.set_cons_zero, List.set_cons_succ]
              refine wpAnyG_takeD (i := 4) (v := .agg #[.bool vn, .slice va vk vc]) [4] rfl (by kernel_rfl) (by kernel_rfl) (by kernel_rfl) (by kernel_rfl) (by kernel_rfl) (fun _ _ _ h => h) (Or.inl ⟨by rfl, ?y4⟩) ⟨x0, x1, e0, e1⟩ ?_
              case y4 => intro w' hS'; obtain ⟨S0, S1, S2, S3⟩ := hS'; clear x0 x1 e0 e1; go_simp
              simp only [Act.put, List.setIfInBounds_toArray, List.set_cons_zero, List.set_cons_succ]
              refine wpAnyG_ready (rs := [5]) (by kernel_rfl) (by simp) ?_
              refine AllReadyG.cons rfl (fun K hK => ?_) AllReadyG.nil
              go_simp
              refine HC.out.mono ?_
              rintro e w9 ⟨rfl, hbx⟩
              have X0 := (hbx.cell (p := ⟨w.heap.size, 0, none⟩) hwx).trans x0
              have X1 := (hbx.cell (p := ⟨w.heap.size, 1, none⟩) hwx).trans x1
              have E0 := (hbx.cell (p := ⟨g, q * 2, none⟩) hglt).trans e0
              have E1 := (hbx.cell (p := ⟨g, q * 2 + 1, none⟩) hglt).trans e1
              have hbw : Below wr.heap.size wr w9 := (Below.refl _ wr).drew.trans hbx
              refine hK.out _ _ (fun _ => ⟨X0, X1, E0, E1⟩) ?_
              clear hK K hbx
              refine wpAnyG_ready (rs := [6]) (by kernel_rfl) (by simp) ?_
              refine AllReadyG.cons rfl (fun K hK => ?_) AllReadyG.nil
              go_simp
              refine hK.out _ _ (fun _ => ⟨X0, X1, E0, E1⟩) ?_
              clear hK K
              refine wpAnyG_done (by kernel_rfl) ?_ _
              have HX9 := Lib.hid (HX.out.call hbw)
              have HL9 := Lib.hid (own_call HL.out hbw)
              have HDb9 := Lib.hid (HDb.out.keep (KeepT.call hbw))
              have HW9 := Lib.hid (HW.out.trans (hbw.mono (Nat.le_of_lt hwx)))
              have hbw9 := hbw.size
              have HB9 := Lib.hid (HBig.out.call hbw)
              have HSub := Lib.hid (fun X (h : Below w9.heap.size w9 X) => sub_any _ _ (Y : Int) (y * 2 ^ q) X (HX9.out.big.call h) (HB9.out.call h) (by have := HX2.out; have := HYX.out; rw [Int.natAbs_natCast]; omega) HBl.out)
              simp only [Box.v] at HSub
              have hwx9 : w.heap.size < w9.heap.size := HX9.out.blk.lt
              have hglt9 : g < w9.heap.size := by omega
              have bf9 := HX9.out.blk.frozen
              have x0 := X0
              have x1 := X1
              have e0 := E0
              have e1 := E1
              clear hbw HX HL HDb HW X0 X1 E0 E1 HC HBig xf
              go_wp2_with fail
              refine heldG_do (fun w' => w'.cell? ⟨w.heap.size, 0, none⟩ = some (.bool vn) ∧ w'.cell? ⟨w.heap.size, 1, none⟩ = some (.slice va vk vc) ∧ w'.cell? ⟨g, q * 2, none⟩ = some (.bool bn) ∧ w'.cell? ⟨g, q * 2 + 1, none⟩ = some (.slice ba bk bc)) (fun j => j == 6) (by kernel_rfl) ?_
              refine wpAnyG_takeD (i := 0) (v := .agg #[.bool vn, .slice va vk vc]) [0, 5, 6] rfl (by kernel_rfl) (by kernel_rfl) (by kernel_rfl) (by kernel_rfl) (by kernel_rfl) (fun _ _ _ h => h) (Or.inl ⟨by rfl, ?y0⟩) ⟨x0, x1, e0, e1⟩ ?_
              case y0 => intro w' hS'; obtain ⟨S0, S1, S2, S3⟩ := hS'; clear x0 x1 e0 e1; go_simp
              simp only [Act.put, List.setIfInBounds_toArray, List.set_cons_zero, List.set_cons_succ]
              refine wpAnyG_takeD (i := 1) (v := .slice (some ⟨g, 0, none⟩) n capv) [1, 3, 4, 5, 6] rfl (by kernel_rfl) (by kernel_rfl) (by kernel_rfl) (by kernel_rfl) (by kernel_rfl) (fun _ _ _ h => h) (Or.inl ⟨by rfl, ?y1⟩) ⟨x0, x1, e0, e1⟩ ?_
              case y1 => intro w' hS'; obtain ⟨S0, S1, S2, S3⟩ := hS'; clear x0 x1 e0 e1; go_simp
              simp only [Act.put, List.setIfInBounds_toArray, List.set_cons_zero, List.set_cons_succ]
              refine wpAnyG_takeD (i := 2) (v := .int .i64 (q : Int)) [2, 3, 4, 5, 6] rfl (by kernel_rfl) (by kernel_rfl) (by kernel_rfl) (by kernel_rfl) (by kernel_rfl) (fun _ _ _ h => h) (Or.inl ⟨by rfl, ?y2⟩) ⟨x0, x1, e0, e1⟩ ?_
              case y2 => intro w' hS'; obtain ⟨S0, S1, S2, S3⟩ := hS'; clear x0 x1 e0 e1; go_simp
              simp only [Act.put, List.setIfInBounds_toArray, List.set_cons_zero, List.set_cons_succ]
              refine wpAnyG_takeD (i := 3) (v := .pointer (some ⟨g, q * 2, none⟩)) [3, 4, 5, 6] rfl (by kernel_rfl) (by kernel_rfl) (by kernel_rfl) (by kernel_rfl) (by kernel_rfl) (fun _ _ _ h => h) (Or.inl ⟨by rfl, ?y3⟩) ⟨x0, x1, e0, e1⟩ ?_
              case y3 => intro w' hS'; obtain ⟨S0, S1, S2, S3⟩ := hS'; clear x0 x1 e0 e1; go_simp
              simp only [Act.put, List.setIfInBounds_toArray, List.set_cons_zero, List.set_cons_succ]
              refine wpAnyG_takeD (i := 4) (v := .agg #[.bool bn, .slice ba bk bc]) [4, 5, 6] rfl (by kernel_rfl) (by kernel_rfl) (by kernel_rfl) (by kernel_rfl) (by kernel_rfl) (fun _ _ _ h => h) (Or.inl ⟨by rfl, ?y4⟩) ⟨x0, x1, e0, e1⟩ ?_
              case y4 => intro w' hS'; obtain ⟨S0, S1, S2, S3⟩ := hS'; clear x0 x1 e0 e1; go_simp
              simp only [Act.put, List.setIfInBounds_toArray, List.set_cons_zero, List.set_cons_succ]
              refine wpAnyG_ready (rs := [5]) (by kernel_rfl) (by simp) ?_
              refine AllReadyG.cons rfl (fun K hK => ?_) AllReadyG.nil
              go_simp
              refine (HSub.out w9.drew (Below.refl _ w9).drew).mono ?_
              rintro e w10 ⟨v10, rfl, H10, hbx⟩
              obtain ⟨zn, za, zk, zc, rfl⟩ := H10.form
              have X0 := (hbx.cell (p := ⟨w.heap.size, 0, none⟩) hwx9).trans x0
              have X1 := (hbx.cell (p := ⟨w.heap.size, 1, none⟩) hwx9).trans x1
              have E0 := (hbx.cell (p := ⟨g, q * 2, none⟩) hglt9).trans e0
              have E1 := (hbx.cell (p := ⟨g, q * 2 + 1, none⟩) hglt9).trans e1
              have hbw : Below w9.heap.size w9 w10 := (Below.refl _ w9).drew.trans hbx
              refine hK.out _ _ (fun _ => ⟨X0, X1, E0, E1⟩) ?_
              clear hK K hbx x0 x1 e0 e1
              have HX10 := Lib.hid (HX9.out.call hbw)
              have bf10 := HX10.out.blk.frozen
              refine wpAnyG_ready (rs := [6]) (by kernel_rfl) (by simp) ?_
              refine AllReadyG.cons rfl (fun K hK => ?_) AllReadyG.nil
              go_simp
              refine hK.out _ _ (fun h => by cases h) ?_
              clear hK K
              refine wpAnyG_done (by kernel_rfl) ?_ _
              have HL10 := Lib.hid (own_call HL9.out hbw)
              have HDb10 := Lib.hid (HDb9.out.keep (KeepT.call hbw))
              have HW10 := Lib.hid (HW9.out.trans (hbw.mono (Nat.le_of_lt hwx9)))
              obtain ⟨Z, hZ⟩ : ∃ Z : Nat, (Y : Int) - y * 2 ^ q = (Z : Int) := ⟨((Y : Int) - y * 2 ^ q).toNat, by have := HLE.out; omega⟩
              obtain ⟨hm, hlt2⟩ := sub_round hy HLE.out HYq.out hZ
              rw [hZ] at H10
              obtain ⟨W11, hW11⟩ : ∃ W, (w10.setCell ⟨w.heap.size, 0, none⟩ (.bool zn)).setCell ⟨w.heap.size, 1, none⟩ (.slice za zk zc) = W := ⟨_, rfl⟩
              have HX11 : Hid (Bx W11 w.heap.size (zn, za, zk, zc) (Z : Int)) := hW11 ▸ ⟨put2 HX10.out.blk, H10.keep (keep_put HX10.out.blk _ _)⟩
              have HL11 : Hid (W11.ownsRow W1.heap.size 29 2 (.slice (some ⟨g, 0, none⟩) n capv) n (flatB L)) := hW11 ▸ own_putx HL10.out (by simp [Value.ownBlock]; omega) _ _
              have HDb11 : Hid (Dbls W11 L y (X : Int)) := hW11 ▸ HDb10.out.keep (keep_put HX10.out.blk _ _)
              have HW11 : Hid (Below w.heap.size w W11) := hW11 ▸ put2_below HW10.out (Nat.le_refl _)
              have HM := Lib.hid hm
              have HT := Lib.hid hlt2
              have HZ := Lib.hid hZ
              clear hm hlt2 hZ H10 X0 X1 E0 E1 bf9 bf10 HX9 HL9 HDb9 HW9 HB9 HSub hbw HX10 HL10 HDb10 HW10
              rw [hW11]
              clear hW11
              go_wp2_with fail
              go_roundg q
              case measure => omega
              case rel => exact ⟨Z, zn, za, zk, zc, by omega, by first | rfl | (congr 1; omega), HX11, HT, by unfold Hid; rw [HM.out]; exact HYm.out, by unfold Hid; have := HYX.out; have := HZ.out; have := HLE.out; have : 0 ≤ y * 2 ^ q := Int.mul_nonneg (by omega) (Int.le_of_lt (Int.pow_pos (by decide))); omega, HL11, HDb11, HW11⟩
            · have hc : ¬ cmpI (y * 2 ^ q) (Y : Int) ≤ 0 := fun h => hle ((cmpI_le _ _).1 h)
              have HLE := Lib.hid hle
              generalize cmpI (y * 2 ^ q) (Y : Int) = R at *
              clear hle
              go_wp2_with fail
              refine heldG_do (fun w' => w'.cell? ⟨w.heap.size, 0, none⟩ = some (.bool vn) ∧ w'.cell? ⟨w.heap.size, 1, none⟩ = some (.slice va vk vc) ∧ w'.cell? ⟨g, q * 2, none⟩ = some (.bool bn) ∧ w'.cell? ⟨g, q * 2 + 1, none⟩ = some (.slice ba bk bc)) (fun _ => false) (by kernel_rfl) ?_
              refine wpAnyG_takeD (i := 0) (v := .slice (some ⟨g, 0, none⟩) n capv) [0] rfl (by kernel_rfl) (by kernel_rfl) (by kernel_rfl) (by kernel_rfl) (by kernel_rfl) (fun _ _ _ h => h) (Or.inl ⟨by rfl, ?y0⟩) ⟨x0, x1, e0, e1⟩ ?_
              case y0 => intro w' hS'; obtain ⟨S0, S1, S2, S3⟩ := hS'; clear x0 x1 e0 e1; go_simp
              simp only [Act.put, List.setIfInBounds_toArray, List.set_cons_zero, List.set_cons_succ]
              refine wpAnyG_takeD (i := 1) (v := .int .i64 (q : Int)) [1] rfl (by kernel_rfl) (by kernel_rfl) (by kernel_rfl) (by kernel_rfl) (by kernel_rfl) (fun _ _ _ h => h) (Or.inl ⟨by rfl, ?y1⟩) ⟨x0, x1, e0, e1⟩ ?_
              case y1 => intro w' hS'; obtain ⟨S0, S1, S2, S3⟩ := hS'; clear x0 x1 e0 e1; go_simp
              simp only [Act.put, List.setIfInBounds_toArray, List.set_cons_zero, List.set_cons_succ]
              refine wpAnyG_takeD (i := 2) (v := .pointer (some ⟨g, q * 2, none⟩)) [2] rfl (by kernel_rfl) (by kernel_rfl) (by kernel_rfl) (by kernel_rfl) (by kernel_rfl) (fun _ _ _ h => h) (Or.inl ⟨by rfl, ?y2⟩) ⟨x0, x1, e0, e1⟩ ?_
              case y2 => intro w' hS'; obtain ⟨S0, S1, S2, S3⟩ := hS'; clear x0 x1 e0 e1; go_simp
              simp only [Act.put, List.setIfInBounds_toArray, List.set_cons_zero, List.set_cons_succ]
              refine wpAnyG_takeD (i := 3) (v := .agg #[.bool bn, .slice ba bk bc]) [3] rfl (by kernel_rfl) (by kernel_rfl) (by kernel_rfl) (by kernel_rfl) (by kernel_rfl) (fun _ _ _ h => h) (Or.inl ⟨by rfl, ?y3⟩) ⟨x0, x1, e0, e1⟩ ?_
              case y3 => intro w' hS'; obtain ⟨S0, S1, S2, S3⟩ := hS'; clear x0 x1 e0 e1; go_simp
              simp only [Act.put, List.setIfInBounds_toArray, List.set_cons_zero, List.set_cons_succ]
              refine wpAnyG_takeD (i := 4) (v := .agg #[.bool vn, .slice va vk vc]) [4] rfl (by kernel_rfl) (by kernel_rfl) (by kernel_rfl) (by kernel_rfl) (by kernel_rfl) (fun _ _ _ h => h) (Or.inl ⟨by rfl, ?y4⟩) ⟨x0, x1, e0, e1⟩ ?_
              case y4 => intro w' hS'; obtain ⟨S0, S1, S2, S3⟩ := hS'; clear x0 x1 e0 e1; go_simp
              simp only [Act.put, List.setIfInBounds_toArray, List.set_cons_zero, List.set_cons_succ]
              refine wpAnyG_ready (rs := [5]) (by kernel_rfl) (by simp) ?_
              refine AllReadyG.cons rfl (fun K hK => ?_) AllReadyG.nil
              go_simp
              refine HC.out.mono ?_
              rintro e w9 ⟨rfl, hbx⟩
              have X0 := (hbx.cell (p := ⟨w.heap.size, 0, none⟩) hwx).trans x0
              have X1 := (hbx.cell (p := ⟨w.heap.size, 1, none⟩) hwx).trans x1
              have E0 := (hbx.cell (p := ⟨g, q * 2, none⟩) hglt).trans e0
              have E1 := (hbx.cell (p := ⟨g, q * 2 + 1, none⟩) hglt).trans e1
              have hbw : Below wr.heap.size wr w9 := (Below.refl _ wr).drew.trans hbx
              refine hK.out _ _ (fun _ => ⟨X0, X1, E0, E1⟩) ?_
              clear hK K hbx
              refine wpAnyG_ready (rs := [6]) (by kernel_rfl) (by simp) ?_
              refine AllReadyG.cons rfl (fun K hK => ?_) AllReadyG.nil
              go_simp
              refine hK.out _ _ (fun _ => ⟨X0, X1, E0, E1⟩) ?_
              clear hK K
              refine wpAnyG_done (by kernel_rfl) ?_ _
              have HX9 := Lib.hid (HX.out.call hbw)
              have HL9 := Lib.hid (own_call HL.out hbw)
              have HDb9 := Lib.hid (HDb.out.keep (KeepT.call hbw))
              have HW9 := Lib.hid (HW.out.trans (hbw.mono (Nat.le_of_lt hwx)))
              have hbw9 := hbw.size
              have HB9 := Lib.hid (HBig.out.call hbw)
              clear hbw HX HL HDb HW x0 x1 e0 e1 X0 X1 E0 E1 HC
              go_wp2_with fail
              go_roundg q
              case measure => omega
              case rel => exact ⟨Y, vn, va, vk, vc, by omega, by first | rfl | (congr 1; omega), HX9, by unfold Hid; have := HLE.out; omega, HYm, HYX, HL9, HDb9, HW9⟩
  · have hc : ¬ (cmpI x 0 < 0) := fun h => hneg ((cmpI_lt x).1 h)
    have HMx : Hid (x = (X : Int)) := by unfold Hid; rw [Hxx.out]; omega
    generalize cmpI x 0 = R at *
    clear hneg
    rw [HMx.out] at HBX
    obtain ⟨W1, hW1⟩ : ∃ W1, W3 = W1 := ⟨_, rfl⟩
    subst hW1
    have HYs : w.heap.size + 1 < W3.heap.size := HBY.out.blk.lt
    have HX : Hid (Bx W3 w.heap.size (n1, a1, k1, c1) (X : Int)) := HBX
    have HY : Hid (Bx W3 (w.heap.size + 1) (yn, ya, yk, yc) y) := HBY
    have HW : Hid (Below w.heap.size w W3) := HB3
    have hp0 := HY.out.blk.cell (j := 0) rfl
    have hp1 := HY.out.blk.cell (j := 1) rfl
    go_wp2_with fail
    obtain ⟨W2, hW2⟩ : ∃ W, W3.alloc (.cells #[.bool yn, .slice ya yk yc] 29) = W := ⟨_, rfl⟩
    have hb12 : Below W3.heap.size W3 W2 := hW2 ▸ (Below.refl _ W3).alloc (Nat.le_refl _) _
    have HD : Hid (Bx W2 W3.heap.size (yn, ya, yk, yc) (y * 2 ^ 0)) := ⟨hW2 ▸ Blk.new W3 _ _, by rw [Int.pow_zero, Int.mul_one]; exact HY.out.big.call hb12⟩
    have HX := Lib.hid (HX.out.call hb12)
    have HY := Lib.hid (HY.out.call hb12)
    have hsz1 : w.heap.size + 1 < W3.heap.size := HYs
    have HW := Lib.hid (HW.out.trans (hb12.mono (by omega)))
    rw [hW2]
    clear hW2 hb12 hp0 hp1
    have HD0 : Hid ((y * 2 ^ ([] : List Box).length).natAbs < lim) := by unfold Hid; rw [List.length_nil, Int.pow_zero, Int.mul_one]; exact HY2.out
    have HDn : Hid (some W3.heap.size ≠ (Value.slice none ([] : List Box).length 0).ownBlock) := by unfold Hid; simp [Value.ownBlock]
    go_loopg [5, 6] 3001 (fun qq s5 s6 wx => ∃ (P : Nat) (L : List Box) (av : Option Addr) (capv : Nat) (pn : Bool) (pa : Option Addr) (pk pc : Nat), L.length + qq = 3001 ∧ s5 = .slice av L.length capv ∧ s6 = .pointer (some ⟨P, 0, none⟩) ∧
      Hid (wx.ownsRow W3.heap.size 29 2 (.slice av L.length capv) L.length (flatB L)) ∧ Hid (Dbls wx L y (X : Int)) ∧ Hid (Bx wx P (pn, pa, pk, pc) (y * 2 ^ L.length)) ∧ Hid ((y * 2 ^ L.length).natAbs < lim) ∧ W3.heap.size ≤ P ∧ Hid (some P ≠ (Value.slice av L.length capv).ownBlock) ∧
      Hid (Bx wx w.heap.size (n1, a1, k1, c1) (X : Int)) ∧ Hid (Below w.heap.size w wx))
    case atStart => exact ⟨W3.heap.size, [], none, 0, yn, ya, yk, yc, rfl, rfl, rfl, World.ownsRow_nil _ _ _ _, Dbls.nil _ _ _, HD, HD0, Nat.le_refl _, HDn, HX, HW⟩
    case round =>
      clear HX HW HD
      obtain ⟨P, L, av, capv, pn, pa, pk, pc, hq, rfl, rfl, HL, HDb, HP, HPl, hP, HPn, HX, HW⟩ := hrel
      have p0 := HP.out.blk.cell (j := 0) rfl
      have p1 := HP.out.blk.cell (j := 1) rfl
      have pf := HP.out.blk.frozen
      have x0 := HX.out.blk.cell (j := 0) rfl
      have x1 := HX.out.blk.cell (j := 1) rfl
      have HC := Lib.hid (cmp_any _ _ (y * 2 ^ L.length) (X : Int) wr HP.out.big HX.out.big HPl.out HXl.out)
      simp only [Box.v] at HC
      by_cases hle : y * 2 ^ L.length ≤ (X : Int)
      · cases gk with
        | zero =>
          exfalso
          have hL : L.length = 3001 := by omega
          rw [hL] at hle
          have := HXb.out
          generalize y * 2 ^ 3001 = Z at *
          omega
        | succ qq =>
          have hc : cmpI (y * 2 ^ L.length) (X : Int) ≤ 0 := (cmpI_le _ _).2 hle
          have hAdd := add_any (.agg #[.bool pn, .slice pa pk pc]) (.agg #[.bool pn, .slice pa pk pc]) (y * 2 ^ L.length) (y * 2 ^ L.length)
          have hdd : y * 2 ^ L.length + y * 2 ^ L.length = y * 2 ^ (L.length + 1) := by rw [Int.pow_succ, ← Int.mul_assoc]; omega
          have hddl : (y * 2 ^ (L.length + 1)).natAbs < lim := by
            have h0 : 0 ≤ y * 2 ^ L.length := Int.mul_nonneg (by omega) (Int.le_of_lt (Int.pow_pos (by decide)))
            have := HX2.out
            omega
          rw [hdd] at hAdd
          have HAdd := Lib.hid hAdd
          have HDl := Lib.hid hddl
          have HLE := Lib.hid hle
          have HQ := Lib.hid hq
          obtain ⟨n, hn⟩ : ∃ n, n = L.length := ⟨_, rfl⟩
          have HN := Lib.hid hn
          have hn3 : n < 3001 := by omega
          rw [← hn] at hc HC hq HP HPl HPn HL HAdd HDl HLE ⊢
          generalize cmpI (y * 2 ^ n) (X : Int) = R at *
          clear hAdd hdd hddl hle hq hn
          go_wp2_with fail
          refine HC.out.mono ?_
          rintro e w5 ⟨rfl, hb5⟩
          have H5 := Lib.hid (HP.out.call hb5)
          have HX5 := Lib.hid (HX.out.call hb5)
          have HL5 := Lib.hid (own_call HL.out hb5)
          have HDb5 := Lib.hid (HDb.out.keep (KeepT.call hb5))
          have hsw : w.heap.size ≤ wr.heap.size := HW.out.size
          have HW5 := Lib.hid (HW.out.trans (hb5.mono hsw))
          have p0 := H5.out.blk.cell (j := 0) rfl
          have p1 := H5.out.blk.cell (j := 1) rfl
          have pf := H5.out.blk.frozen
          have h1w : W3.heap.size ≤ w5.heap.size := by have := H5.out.blk.lt; omega
          clear x0 x1 hb5 HP HX HL HDb HW HC
          have hown := HL5.out
          go_wp2_with (at_builtin; refine wpList_append2 _ rfl _ _ 54 rfl W3.heap.size 29 (.agg #[.bool false, .slice none 0 0]) 2 32 Tryd.underlying54 info_big rfl (by decide) (.slice av n capv) n _ rfl (hown.alloc _) _ _ 1 [.bool pn, .slice pa pk pc] rfl (reads_new _ _ _ 1 1 (by decide) (by decide)) rfl ?e2 ?e3 ?e4 ?e5 ?_)
          case e2 => simp [Value.oneCell']
          case e3 => unfold maxLen; omega
          case e4 => omega
          case e5 => first | omega | (simp; omega)
          intro v' w6 hown6 hgrow hmov
          obtain ⟨a6, cap6, rfl⟩ := own_form hown6
          have hown5 := hown.alloc (.cells #[.bool pn, .slice pa pk pc] 29)
          have hPn := HPn.out
          have hal : Below w5.heap.size w5 (w5.alloc (.cells #[.bool pn, .slice pa pk pc] 29)) := (Below.refl _ w5).alloc (Nat.le_refl _) _
          have hPl5 : P < w5.heap.size := H5.out.blk.lt
          have HP6 := Lib.hid ((H5.out.call hal).grown hown5 hgrow hPn)
          have HX6 := Lib.hid ((HX5.out.call hal).grown hown5 hgrow (fun e => by have := (hown5.lt _ e.symm).1; omega))
          have HDb6 := Lib.hid ((HDb5.out.keep (KeepT.call hal)).keep (KeepT.grown hown5 (by decide) hgrow))
          have HW6 : Hid (Below w.heap.size w w6) := (HW5.out.trans (hal.mono HW5.out.size)).grown hgrow (by have := HW5.out.size; have := hal.size; omega) (fun j e => by have := (hown5.lt _ e).1; omega)
          have HO6 := Lib.hid hown6
          have p0 := HP6.out.blk.cell (j := 0) rfl
          have p1 := HP6.out.blk.cell (j := 1) rfl
          have pf := HP6.out.blk.frozen
          clear hown hown5 hown6 hgrow hmov hPn hal hPl5 H5 HX5 HL5 HDb5 HW5 HPn
          go_wp2_with fail
          obtain ⟨W7, hW7⟩ : ∃ W, w6.alloc (.cells #[.bool pn, .slice pa pk pc] 29) = W := ⟨_, rfl⟩
          have hb67 : Below w6.heap.size w6 W7 := hW7 ▸ (Below.refl _ w6).alloc (Nat.le_refl _) _
          have HN7 : Hid (Bx W7 w6.heap.size (pn, pa, pk, pc) (y * 2 ^ n)) := ⟨hW7 ▸ Blk.new w6 _ _, HP6.out.big.call hb67⟩
          have HX7 := Lib.hid (HX6.out.call hb67)
          have HDb7 := Lib.hid (HDb6.out.keep (KeepT.call hb67))
          have HW7 := Lib.hid (HW6.out.trans (hb67.mono HW6.out.size))
          have HO7 := Lib.hid (own_call HO6.out hb67)
          have hf6 := own_fresh HO6.out
          have HF6 := Lib.hid hf6
          have hw61 : W3.heap.size ≤ w6.heap.size := Nat.le_of_lt (Nat.lt_of_le_of_lt hP HP6.out.blk.lt)
          rw [hW7]
          clear hW7 hb67 hf6 HP6 HX6 HDb6 HW6 HO6 p0 p1 pf
          refine (HAdd.out W7 HN7.out.big HN7.out.big HPl.out HPl.out).mono ?_
          rintro e w8 ⟨v8, rfl, H8, hb8⟩
          obtain ⟨qn, qa, qk, qc, rfl⟩ := H8.form
          have HN8 := Lib.hid (HN7.out.call hb8)
          have HX8 := Lib.hid (HX7.out.call hb8)
          have HDb8 := Lib.hid (HDb7.out.keep (KeepT.call hb8))
          have HW8 := Lib.hid (HW7.out.trans (hb8.mono HW7.out.size))
          have HO8 := Lib.hid (own_call HO7.out hb8)
          have nb0 := HN8.out.blk.cell (j := 0) rfl
          have nb1 := HN8.out.blk.cell (j := 1) rfl
          have nf := HN8.out.blk.frozen
          obtain ⟨W9, hW9⟩ : ∃ W, (w8.setCell ⟨w6.heap.size, 0, none⟩ (.bool qn)).setCell ⟨w6.heap.size, 1, none⟩ (.slice qa qk qc) = W := ⟨_, rfl⟩
          have HN9 : Hid (Bx W9 w6.heap.size (qn, qa, qk, qc) (y * 2 ^ (n + 1))) := hW9 ▸ ⟨put2 HN8.out.blk, H8.keep (keep_put HN8.out.blk _ _)⟩
          have HX9 : Hid (Bx W9 w.heap.size (n1, a1, k1, c1) (X : Int)) := hW9 ▸ HX8.out.put HN8.out (by omega) _ _
          have HDb9 : Hid (Dbls W9 (L ++ [(pn, pa, pk, pc)]) y (X : Int)) := hW9 ▸ (HDb8.out.snoc (b := (pn, pa, pk, pc)) (by rw [← HN.out]; exact HN8.out.big) (by rw [← HN.out]; exact HLE.out)).keep (keep_put HN8.out.blk _ _)
          have HO9 : Hid (W9.ownsRow W3.heap.size 29 2 (.slice a6 (n + 1) cap6) (n + 1) (flatB (L ++ [(pn, pa, pk, pc)]))) := hW9 ▸ (by unfold Hid; rw [flatB_snoc]; exact own_putx HO8.out HF6.out _ _)
          have HW9 : Hid (Below w.heap.size w W9) := hW9 ▸ put2_below HW8.out (by omega)
          have hln : (L ++ [(pn, pa, pk, pc)]).length = n + 1 := by rw [List.length_append, ← HN.out]; rfl
          clear H8 hb8 HN8 HX8 HDb8 HW8 HO8 HN7 HX7 HDb7 HW7 HO7 HAdd
          go_wp2_with fail
          clear hW9 nb0 nb1 nf
          go_roundg qq
          case measure => omega
          case rel => exact ⟨w6.heap.size, L ++ [(pn, pa, pk, pc)], a6, cap6, qn, qa, qk, qc, by rw [hln]; have := HQ.out; have := HN.out; omega, by rw [hln], rfl, by rw [hln]; exact HO9, HDb9, by rw [hln]; exact HN9, by rw [hln]; exact HDl, hw61, by rw [hln]; exact HF6, HX9, HW9⟩
      · have hc : ¬ cmpI (y * 2 ^ L.length) (X : Int) ≤ 0 := fun h => hle ((cmpI_le _ _).1 h)
        have HYt : Hid ((X : Int) < y * 2 ^ L.length) := by unfold Hid; omega
        have HQ := Lib.hid hq
        have hln : L.length ≤ 3001 := by omega
        generalize cmpI (y * 2 ^ L.length) (X : Int) = R at *
        clear hle hq
        go_wp2_with fail
        refine HC.out.mono ?_
        rintro e w5 ⟨rfl, hb5⟩
        have HX5 := Lib.hid (HX.out.call hb5)
        have HL5 := Lib.hid (own_call HL.out hb5)
        have HDb5 := Lib.hid (HDb.out.keep (KeepT.call hb5))
        have hsw : w.heap.size ≤ wr.heap.size := HW.out.size
        have HW5 := Lib.hid (HW.out.trans (hb5.mono hsw))
        clear p0 p1 pf x0 x1 hb5 HP HX HL HDb HW HC HPn HPl
        obtain ⟨n, hn⟩ : ∃ n, n = L.length := ⟨_, rfl⟩
        have HN := Lib.hid hn
        rw [← hn] at hln HL5 ⊢
        clear hn
        go_wp2_with fail
        go_loopg [7] n (fun q s7 wx => ∃ (Y : Nat) (vn : Bool) (va : Option Addr) (vk vc : Nat), q ≤ n ∧ s7 = .int .i64 ((q : Int) - 1) ∧ Hid (Bx wx w.heap.size (vn, va, vk, vc) (Y : Int)) ∧ Hid ((Y : Int) < y * 2 ^ q) ∧ Hid (Y % y.natAbs = X % y.natAbs) ∧ Hid (Y ≤ X) ∧
          Hid (wx.ownsRow W3.heap.size 29 2 (.slice av n capv) n (flatB L)) ∧ Hid (Dbls wx L y (X : Int)) ∧ Hid (Below w.heap.size w wx))
        case atStart => exact ⟨X, _, _, _, _, Nat.le_refl _, rfl, HX5, by unfold Hid; rw [HN.out]; exact HYt.out, rfl, Nat.le_refl _, HL5, HDb5, HW5⟩
        case round =>
          clear HX5 HL5 HDb5 HW5
          obtain ⟨Y, vn, va, vk, vc, hqn, rfl, HX, HYq, HYm, HYX, HL, HDb, HW⟩ := hrel
          have x0 := HX.out.blk.cell (j := 0) rfl
          have x1 := HX.out.blk.cell (j := 1) rfl
          have xf := HX.out.blk.frozen
          have hwx : w.heap.size < wr.heap.size := HX.out.blk.lt
          cases gk with
          | zero =>
            have HE : Hid (R0 = (cmpI (Y : Int) 0 == 0)) := by
              have h1 := HYq.out
              rw [Int.pow_zero, Int.mul_one] at h1
              have h2 : Y % y.natAbs = Y := Nat.mod_eq_of_lt (by omega)
              have h3 := HYm.out
              rw [h2] at h3
              unfold Hid
              rw [HR.out, ← h3]
              unfold cmpI
              by_cases h0 : Y = 0
              · subst h0; rfl
              · rw [decide_eq_false h0, if_neg (by omega), if_pos (by omega)]; rfl
            have HSg := Lib.hid (sign_any _ (Y : Int) wr HX.out.big (by have := HX2.out; have := HYX.out; rw [Int.natAbs_natCast]; omega))
            simp only [Box.v] at HSg
            generalize cmpI (Y : Int) 0 = R1 at *
            go_wp2_with fail
            refine HSg.out.mono ?_
            rintro e w9 ⟨rfl, hb9⟩
            have HW9 := Lib.hid (HW.out.trans (hb9.mono (Nat.le_of_lt hwx)))
            clear hb9
            go_wp2_with fail
            go_ret
            exact ⟨by rw [HE.out]; rfl, HW9.out⟩
          | succ q =>
            have hq0 : 0 ≤ ((q + 1 : Nat) : Int) - 1 := by omega
            have hqe : ((q + 1 : Nat) : Int) - 1 = (q : Int) := by omega
            obtain ⟨b, hb⟩ : ∃ b, L[q]? = some b := ⟨_, List.getElem?_eq_getElem (by rw [← HN.out]; omega)⟩
            obtain ⟨hbig, hbX⟩ := HDb.out q b hb
            have hqn' : q < n := by omega
            have hbl : (y * 2 ^ q).natAbs < lim := by
              have h0 : 0 ≤ y * 2 ^ q := Int.mul_nonneg (by omega) (Int.le_of_lt (Int.pow_pos (by decide)))
              have := HX2.out
              generalize y * 2 ^ q = z at *
              omega
            obtain ⟨f0, f1⟩ := flatB_at hb
            obtain ⟨bn, ba, bk, bc⟩ := b
            simp only at f0 f1
            have hown := HL.out
            obtain ⟨g, hav, e0, e1⟩ : ∃ g, av = some ⟨g, 0, none⟩ ∧ wr.cell? ⟨g, q * 2, none⟩ = some (.bool bn) ∧ wr.cell? ⟨g, q * 2 + 1, none⟩ = some (.slice ba bk bc) := by
              have hc := fun g (h : av = some ⟨g, 0, none⟩) => World.ownsRow.cells (g := g) hown (by rw [h]; simp [Value.ownBlock])
              rcases hown.2 with ⟨h, _⟩ | ⟨g, cap, cur, h, _⟩
              · cases h; omega
              · have hav : av = some ⟨g, 0, none⟩ := by cases h; rfl
                refine ⟨g, hav, ?_, ?_⟩
                · exact add_cell (hc g hav _ _ f0)
                · exact add_cell (hc g hav _ _ f1)
            subst hav
            have HC := Lib.hid (cmp_any _ _ (y * 2 ^ q) (Y : Int) wr.drew (hbig.call (Below.refl _ wr).drew) HX.out.drew.big hbl (by have := HX2.out; have := HYX.out; rw [Int.natAbs_natCast]; omega))
            simp only [Box.v] at HC
            have hnn : n ≤ 3001 := hln
            clear hq0
            have HBig := Lib.hid hbig
            have gneb : g ≠ w.heap.size := fun e => by have := (hown.lt g (by simp [Value.ownBlock])).1; omega
            have hglt : g < wr.heap.size := (hown.lt g (by simp [Value.ownBlock])).2
            have HBl := Lib.hid hbl
            clear hbig f0 f1 hb hown hbX hbl
            by_cases hle : y * 2 ^ q ≤ (Y : Int)
            · have hc : cmpI (y * 2 ^ q) (Y : Int) ≤ 0 := (cmpI_le _ _).2 hle
              have HLE := Lib.hid hle
              generalize cmpI (y * 2 ^ q) (Y : Int) = R at *
              clear hle
              go_wp2_with fail
              refine heldG_do (fun w' => w'.cell? ⟨w.heap.size, 0, none⟩ = some (.bool vn) ∧ w'.cell? ⟨w.heap.size, 1, none⟩ = some (.slice va vk vc) ∧ w'.cell? ⟨g, q * 2, none⟩ = some (.bool bn) ∧ w'.cell? ⟨g, q * 2 + 1, none⟩ = some (.slice ba bk bc)) (fun _ => false) (by kernel_rfl) ?_
              refine wpAnyG_takeD (i := 0) (v := .slice (some ⟨g, 0, none⟩) n capv) [0] rfl (by kernel_rfl) (by kernel_rfl) (by kernel_rfl) (by kernel_rfl) (by kernel_rfl) (fun _ _ _ h => h) (Or.inl ⟨by rfl, ?y0⟩) ⟨x0, x1, e0, e1⟩ ?_
              case y0 => intro w' hS'; obtain ⟨S0, S1, S2, S3⟩ := hS'; clear x0 x1 e0 e1; go_simp
              simp only [Act.put, List.setIfInBounds_toArray, List.set_cons_zero, List.set_cons_succ]
              refine wpAnyG_takeD (i := 1) (v := .int .i64 (q : Int)) [1] rfl (by kernel_rfl) (by kernel_rfl) (by kernel_rfl) (by kernel_rfl) (by kernel_rfl) (fun _ _ _ h => h) (Or.inl ⟨by rfl, ?y1⟩) ⟨x0, x1, e0, e1⟩ ?_
              case y1 => intro w' hS'; obtain ⟨S0, S1, S2, S3⟩ := hS'; clear x0 x1 e0 e1; go_simp
              simp only [Act.put, List.setIfInBounds_toArray, List.set_cons_zero, List.set_cons_succ]
              refine wpAnyG_takeD (i := 2) (v := .pointer (some ⟨g, q * 2, none⟩)) [2] rfl (by kernel_rfl) (by kernel_rfl) (by kernel_rfl) (by kernel_rfl) (by kernel_rfl) (fun _ _ _ h => h) (Or.inl ⟨by rfl, ?y2⟩) ⟨x0, x1, e0, e1⟩ ?_
              case y2 => intro w' hS'; obtain ⟨S0, S1, S2, S3⟩ := hS'; clear x0 x1 e0 e1; go_simp
              simp only [Act.put, List.setIfInBounds_toArray, List.set_cons_zero, List.set_cons_succ]
              refine wpAnyG_takeD (i := 3) (v := .agg #[.bool bn, .slice ba bk bc]) [3] rfl (by kernel_rfl) (by kernel_rfl) (by kernel_rfl) (by kernel_rfl) (by kernel_rfl) (fun _ _ _ h => h) (Or.inl ⟨by rfl, ?y3⟩) ⟨x0, x1, e0, e1⟩ ?_
              case y3 => intro w' hS'; obtain ⟨S0, S1, S2, S3⟩ := hS'; clear x0 x1 e0 e1; go_simp
              simp only [Act.put, List.setIfInBounds_toArray, List.set_cons_zero, List.set_cons_succ]
              refine wpAnyG_takeD (i := 4) (v := .agg #[.bool vn, .slice va vk vc]) [4] rfl (by kernel_rfl) (by kernel_rfl) (by kernel_rfl) (by kernel_rfl) (by kernel_rfl) (fun _ _ _ h => h) (Or.inl ⟨by rfl, ?y4⟩) ⟨x0, x1, e0, e1⟩ ?_
              case y4 => intro w' hS'; obtain ⟨S0, S1, S2, S3⟩ := hS'; clear x0 x1 e0 e1; go_simp
              simp only [Act.put, List.setIfInBounds_toArray, List.set_cons_zero, List.set_cons_succ]
              refine wpAnyG_ready (rs := [5]) (by kernel_rfl) (by simp) ?_
              refine AllReadyG.cons rfl (fun K hK => ?_) AllReadyG.nil
              go_simp
              refine HC.out.mono ?_
              rintro e w9 ⟨rfl, hbx⟩
              have X0 := (hbx.cell (p := ⟨w.heap.size, 0, none⟩) hwx).trans x0
              have X1 := (hbx.cell (p := ⟨w.heap.size, 1, none⟩) hwx).trans x1
              have E0 := (hbx.cell (p := ⟨g, q * 2, none⟩) hglt).trans e0
              have E1 := (hbx.cell (p := ⟨g, q * 2 + 1, none⟩) hglt).trans e1
              have hbw : Below wr.heap.size wr w9 := (Below.refl _ wr).drew.trans hbx
              refine hK.out _ _ (fun _ => ⟨X0, X1, E0, E1⟩) ?_
              clear hK K hbx
              refine wpAnyG_ready (rs := [6]) (by kernel_rfl) (by simp) ?_
              refine AllReadyG.cons rfl (fun K hK => ?_) AllReadyG.nil
              go_simp
              refine hK.out _ _ (fun _ => ⟨X0, X1, E0, E1⟩) ?_
              clear hK K
              refine wpAnyG_done (by kernel_rfl) ?_ _
              have HX9 := Lib.hid (HX.out.call hbw)
              have HL9 := Lib.hid (own_call HL.out hbw)
              have HDb9 := Lib.hid (HDb.out.keep (KeepT.call hbw))
              have HW9 := Lib.hid (HW.out.trans (hbw.mono (Nat.le_of_lt hwx)))
              have hbw9 := hbw.size
              have HB9 := Lib.hid (HBig.out.call hbw)
              have HSub := Lib.hid (fun X (h : Below w9.heap.size w9 X) => sub_any _ _ (Y : Int) (y * 2 ^ q) X (HX9.out.big.call h) (HB9.out.call h) (by have := HX2.out; have := HYX.out; rw [Int.natAbs_natCast]; omega) HBl.out)
              simp only [Box.v] at HSub
              have hwx9 : w.heap.size < w9.heap.size := HX9.out.blk.lt
              have hglt9 : g < w9.heap.size := by omega
              have bf9 := HX9.out.blk.frozen
              have x0 := X0
              have x1 := X1
              have e0 := E0
              have e1 := E1
              clear hbw HX HL HDb HW X0 X1 E0 E1 HC HBig xf
              go_wp2_with fail
              refine heldG_do (fun w' => w'.cell? ⟨w.heap.size, 0, none⟩ = some (.bool vn) ∧ w'.cell? ⟨w.heap.size, 1, none⟩ = some (.slice va vk vc) ∧ w'.cell? ⟨g, q * 2, none⟩ = some (.bool bn) ∧ w'.cell? ⟨g, q * 2 + 1, none⟩ = some (.slice ba bk bc)) (fun j => j == 6) (by kernel_rfl) ?_
              refine wpAnyG_takeD (i := 0) (v := .agg #[.bool vn, .slice va vk vc]) [0, 5, 6] rfl (by kernel_rfl) (by kernel_rfl) (by kernel_rfl) (by kernel_rfl) (by kernel_rfl) (fun _ _ _ h => h) (Or.inl ⟨by rfl, ?y0⟩) ⟨x0, x1, e0, e1⟩ ?_
              case y0 => intro w' hS'; obtain ⟨S0, S1, S2, S3⟩ := hS'; clear x0 x1 e0 e1; go_simp
              simp only [Act.put, List.setIfInBounds_toArray, List.set_cons_zero, List.set_cons_succ]
              refine wpAnyG_takeD (i := 1) (v := .slice (some ⟨g, 0, none⟩) n capv) [1, 3, 4, 5, 6] rfl (by kernel_rfl) (by kernel_rfl) (by kernel_rfl) (by kernel_rfl) (by kernel_rfl) (fun _ _ _ h => h) (Or.inl ⟨by rfl, ?y1⟩) ⟨x0, x1, e0, e1⟩ ?_
              case y1 => intro w' hS'; obtain ⟨S0, S1, S2, S3⟩ := hS'; clear x0 x1 e0 e1; go_simp
              simp only [Act.put, List.setIfInBounds_toArray, List.set_cons_zero, List.set_cons_succ]
              refine wpAnyG_takeD (i := 2) (v := .int .i64 (q : Int)) [2, 3, 4, 5, 6] rfl (by kernel_rfl) (by kernel_rfl) (by kernel_rfl) (by kernel_rfl) (by kernel_rfl) (fun _ _ _ h => h) (Or.inl ⟨by rfl, ?y2⟩) ⟨x0, x1, e0, e1⟩ ?_
              case y2 => intro w' hS'; obtain ⟨S0, S1, S2, S3⟩ := hS'; clear x0 x1 e0 e1; go_simp
              simp only [Act.put, List.setIfInBounds_toArray, List.set_cons_zero, List.set_cons_succ]
              refine wpAnyG_takeD (i := 3) (v := .pointer (some ⟨g, q * 2, none⟩)) [3, 4, 5, 6] rfl (by kernel_rfl) (by kernel_rfl) (by kernel_rfl) (by kernel_rfl) (by kernel_rfl) (fun _ _ _ h => h) (Or.inl ⟨by rfl, ?y3⟩) ⟨x0, x1, e0, e1⟩ ?_
              case y3 => intro w' hS'; obtain ⟨S0, S1, S2, S3⟩ := hS'; clear x0 x1 e0 e1; go_simp
              simp only [Act.put, List.setIfInBounds_toArray, List.set_cons_zero, List.set_cons_succ]
              refine wpAnyG_takeD (i := 4) (v := .agg #[.bool bn, .slice ba bk bc]) [4, 5, 6] rfl (by kernel_rfl) (by kernel_rfl) (by kernel_rfl) (by kernel_rfl) (by kernel_rfl) (fun _ _ _ h => h) (Or.inl ⟨by rfl, ?y4⟩) ⟨x0, x1, e0, e1⟩ ?_
              case y4 => intro w' hS'; obtain ⟨S0, S1, S2, S3⟩ := hS'; clear x0 x1 e0 e1; go_simp
              simp only [Act.put, List.setIfInBounds_toArray, List.set_cons_zero, List.set_cons_succ]
              refine wpAnyG_ready (rs := [5]) (by kernel_rfl) (by simp) ?_
              refine AllReadyG.cons rfl (fun K hK => ?_) AllReadyG.nil
              go_simp
              refine (HSub.out w9.drew (Below.refl _ w9).drew).mono ?_
              rintro e w10 ⟨v10, rfl, H10, hbx⟩
              obtain ⟨zn, za, zk, zc, rfl⟩ := H10.form
              have X0 := (hbx.cell (p := ⟨w.heap.size, 0, none⟩) hwx9).trans x0
              have X1 := (hbx.cell (p := ⟨w.heap.size, 1, none⟩) hwx9).trans x1
              have E0 := (hbx.cell (p := ⟨g, q * 2, none⟩) hglt9).trans e0
              have E1 := (hbx.cell (p := ⟨g, q * 2 + 1, none⟩) hglt9).trans e1
              have hbw : Below w9.heap.size w9 w10 := (Below.refl _ w9).drew.trans hbx
              refine hK.out _ _ (fun _ => ⟨X0, X1, E0, E1⟩) ?_
              clear hK K hbx x0 x1 e0 e1
              have HX10 := Lib.hid (HX9.out.call hbw)
              have bf10 := HX10.out.blk.frozen
              refine wpAnyG_ready (rs := [6]) (by kernel_rfl) (by simp) ?_
              refine AllReadyG.cons rfl (fun K hK => ?_) AllReadyG.nil
              go_simp
              refine hK.out _ _ (fun h => by cases h) ?_
              clear hK K
              refine wpAnyG_done (by kernel_rfl) ?_ _
              have HL10 := Lib.hid (own_call HL9.out hbw)
              have HDb10 := Lib.hid (HDb9.out.keep (KeepT.call hbw))
              have HW30 := Lib.hid (HW9.out.trans (hbw.mono (Nat.le_of_lt hwx9)))
              obtain ⟨Z, hZ⟩ : ∃ Z : Nat, (Y : Int) - y * 2 ^ q = (Z : Int) := ⟨((Y : Int) - y * 2 ^ q).toNat, by have := HLE.out; omega⟩
              obtain ⟨hm, hlt2⟩ := sub_round hy HLE.out HYq.out hZ
              rw [hZ] at H10
              obtain ⟨W31, hW31⟩ : ∃ W, (w10.setCell ⟨w.heap.size, 0, none⟩ (.bool zn)).setCell ⟨w.heap.size, 1, none⟩ (.slice za zk zc) = W := ⟨_, rfl⟩
              have HX11 : Hid (Bx W31 w.heap.size (zn, za, zk, zc) (Z : Int)) := hW31 ▸ ⟨put2 HX10.out.blk, H10.keep (keep_put HX10.out.blk _ _)⟩
              have HL11 : Hid (W31.ownsRow W3.heap.size 29 2 (.slice (some ⟨g, 0, none⟩) n capv) n (flatB L)) := hW31 ▸ own_putx HL10.out (by simp [Value.ownBlock]; omega) _ _
              have HDb11 : Hid (Dbls W31 L y (X : Int)) := hW31 ▸ HDb10.out.keep (keep_put HX10.out.blk _ _)
              have HW31 : Hid (Below w.heap.size w W31) := hW31 ▸ put2_below HW30.out (Nat.le_refl _)
              have HM := Lib.hid hm
              have HT := Lib.hid hlt2
              have HZ := Lib.hid hZ
              clear hm hlt2 hZ H10 X0 X1 E0 E1 bf9 bf10 HX9 HL9 HDb9 HW9 HB9 HSub hbw HX10 HL10 HDb10 HW30
              rw [hW31]
              clear hW31
              go_wp2_with fail
              go_roundg q
              case measure => omega
              case rel => exact ⟨Z, zn, za, zk, zc, by omega, by first | rfl | (congr 1; omega), HX11, HT, by unfold Hid; rw [HM.out]; exact HYm.out, by unfold Hid; have := HYX.out; have := HZ.out; have := HLE.out; have : 0 ≤ y * 2 ^ q := Int.mul_nonneg (by omega) (Int.le_of_lt (Int.pow_pos (by decide))); omega, HL11, HDb11, HW31⟩
            · have hc : ¬ cmpI (y * 2 ^ q) (Y : Int) ≤ 0 := fun h => hle ((cmpI_le _ _).1 h)
              have HLE := Lib.hid hle
              generalize cmpI (y * 2 ^ q) (Y : Int) = R at *
              clear hle
              go_wp2_with fail
              refine heldG_do (fun w' => w'.cell? ⟨w.heap.size, 0, none⟩ = some (.bool vn) ∧ w'.cell? ⟨w.heap.size, 1, none⟩ = some (.slice va vk vc) ∧ w'.cell? ⟨g, q * 2, none⟩ = some (.bool bn) ∧ w'.cell? ⟨g, q * 2 + 1, none⟩ = some (.slice ba bk bc)) (fun _ => false) (by kernel_rfl) ?_
              refine wpAnyG_takeD (i := 0) (v := .slice (some ⟨g, 0, none⟩) n capv) [0] rfl (by kernel_rfl) (by kernel_rfl) (by kernel_rfl) (by kernel_rfl) (by kernel_rfl) (fun _ _ _ h => h) (Or.inl ⟨by rfl, ?y0⟩) ⟨x0, x1, e0, e1⟩ ?_
              case y0 => intro w' hS'; obtain ⟨S0, S1, S2, S3⟩ := hS'; clear x0 x1 e0 e1; go_simp
              simp only [Act.put, List.setIfInBounds_toArray, List.set_cons_zero, List.set_cons_succ]
              refine wpAnyG_takeD (i := 1) (v := .int .i64 (q : Int)) [1] rfl (by kernel_rfl) (by kernel_rfl) (by kernel_rfl) (by kernel_rfl) (by kernel_rfl) (fun _ _ _ h => h) (Or.inl ⟨by rfl, ?y1⟩) ⟨x0, x1, e0, e1⟩ ?_
              case y1 => intro w' hS'; obtain ⟨S0, S1, S2, S3⟩ := hS'; clear x0 x1 e0 e1; go_simp
              simp only [Act.put, List.setIfInBounds_toArray, List.set_cons_zero, List.set_cons_succ]
              refine wpAnyG_takeD (i := 2) (v := .pointer (some ⟨g, q * 2, none⟩)) [2] rfl (by kernel_rfl) (by kernel_rfl) (by kernel_rfl) (by kernel_rfl) (by kernel_rfl) (fun _ _ _ h => h) (Or.inl ⟨by rfl, ?y2⟩) ⟨x0, x1, e0, e1⟩ ?_
              case y2 => intro w' hS'; obtain ⟨S0, S1, S2, S3⟩ := hS'; clear x0 x1 e0 e1; go_simp
              simp only [Act.put, List.setIfInBounds_toArray, List.set_cons_zero, List.set_cons_succ]
              refine wpAnyG_takeD (i := 3) (v := .agg #[.bool bn, .slice ba bk bc]) [3] rfl (by kernel_rfl) (by kernel_rfl) (by kernel_rfl) (by kernel_rfl) (by kernel_rfl) (fun _ _ _ h => h) (Or.inl ⟨by rfl, ?y3⟩) ⟨x0, x1, e0, e1⟩ ?_
              case y3 => intro w' hS'; obtain ⟨S0, S1, S2, S3⟩ := hS'; clear x0 x1 e0 e1; go_simp
              simp only [Act.put, List.setIfInBounds_toArray, List.set_cons_zero, List.set_cons_succ]
              refine wpAnyG_takeD (i := 4) (v := .agg #[.bool vn, .slice va vk vc]) [4] rfl (by kernel_rfl) (by kernel_rfl) (by kernel_rfl) (by kernel_rfl) (by kernel_rfl) (fun _ _ _ h => h) (Or.inl ⟨by rfl, ?y4⟩) ⟨x0, x1, e0, e1⟩ ?_
              case y4 => intro w' hS'; obtain ⟨S0, S1, S2, S3⟩ := hS'; clear x0 x1 e0 e1; go_simp
              simp only [Act.put, List.setIfInBounds_toArray, List.set_cons_zero, List.set_cons_succ]
              refine wpAnyG_ready (rs := [5]) (by kernel_rfl) (by simp) ?_
              refine AllReadyG.cons rfl (fun K hK => ?_) AllReadyG.nil
              go_simp
              refine HC.out.mono ?_
              rintro e w9 ⟨rfl, hbx⟩
              have X0 := (hbx.cell (p := ⟨w.heap.size, 0, none⟩) hwx).trans x0
              have X1 := (hbx.cell (p := ⟨w.heap.size, 1, none⟩) hwx).trans x1
              have E0 := (hbx.cell (p := ⟨g, q * 2, none⟩) hglt).trans e0
              have E1 := (hbx.cell (p := ⟨g, q * 2 + 1, none⟩) hglt).trans e1
              have hbw : Below wr.heap.size wr w9 := (Below.refl _ wr).drew.trans hbx
              refine hK.out _ _ (fun _ => ⟨X0, X1, E0, E1⟩) ?_
              clear hK K hbx
              refine wpAnyG_ready (rs := [6]) (by kernel_rfl) (by simp) ?_
              refine AllReadyG.cons rfl (fun K hK => ?_) AllReadyG.nil
              go_simp
              refine hK.out _ _ (fun _ => ⟨X0, X1, E0, E1⟩) ?_
              clear hK K
              refine wpAnyG_done (by kernel_rfl) ?_ _
              have HX9 := Lib.hid (HX.out.call hbw)
              have HL9 := Lib.hid (own_call HL.out hbw)
              have HDb9 := Lib.hid (HDb.out.keep (KeepT.call hbw))
              have HW9 := Lib.hid (HW.out.trans (hbw.mono (Nat.le_of_lt hwx)))
              have hbw9 := hbw.size
              have HB9 := Lib.hid (HBig.out.call hbw)
              clear hbw HX HL HDb HW x0 x1 e0 e1 X0 X1 E0 E1 HC
              go_wp2_with fail
              go_roundg q
              case measure => omega
              case rel => exact ⟨Y, vn, va, vk, vc, by omega, by first | rfl | (congr 1; omega), HX9, by unfold Hid; have := HLE.out; omega, HYm, HYX, HL9, HDb9, HW9⟩
end Go.Proofs.YtkhpfdgkmnifcaaDoor
