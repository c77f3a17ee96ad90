/- Which of a set's cells lie between two, plain. No program in sight. -/
import Derived.Test.YthbplhglfjlngaaGreatGPg
import Derived.Test.YthbplhglfjlngaaGreatGPi
import Derived.Test.YthbplhglfjlngaaGreatGPc
import Derived.Test.YthbplhglfjlngaaGreatGPh
import Derived.WalkMore
set_option linter.unusedVariables false
set_option linter.unusedSimpArgs false
set_option maxRecDepth 100000
namespace Go.Proofs.YthbplhglfjlngaaGreat
open Go.RowKit Go.Rg Go.Wd
attribute [local go_sem] Oper.semAt_some
def rowE (rs : List (Int × Value)) : List (List Value) := rs.map fun r => [.int .i64 r.1, r.2]
theorem rowE_at {rs : List (Int × Value)} {i : Nat} {r : Int × Value} (h : rs[i]? = some r) : (rowE rs)[i]? = some [.int .i64 r.1, r.2] := by unfold rowE; rw [List.getElem?_map, h]; rfl
theorem size_row : (Tryz.prog.info? 103).map (·.size) = some 2 := by kernel_rfl
theorem byY_any (x y : Int) (s t : Value) (w : World) :
  Calls Tryz.prog 45 #[.agg #[.int .i64 x, s], .agg #[.int .i64 y, t]] w fun e w' => e = .returned (.int .i64 (cmpI x y)) ∧ Below w.heap.size w w' := by
 obtain ⟨W0, hW0⟩ : ∃ W0, [.cells #[.int .i64 x, s] 103, .cells #[.int .i64 y, t] 103].foldl World.alloc w = W0 := ⟨_, rfl⟩
 have B0 : Blk W0 (w.heap.size) ([.int .i64 x, s]) 103 := Blk.allocs _ hW0 0 rfl
 have B1 : Blk W0 (w.heap.size + 1) ([.int .i64 y, t]) 103 := Blk.allocs _ hW0 1 rfl
 have HB := aB hW0
 have hsz : w.heap.size + 2 ≤ W0.heap.size := aZ hW0
 simp only [List.foldl_cons, List.foldl_nil] at hW0
 go_enter Tryz.func45, Tryz.ntmps45
 go_upto_region 1 with (fail)
 clear hW0
 refine cP ?_
 refine cN ?_
 refine cW ?_ ?_ ?_
 refine cX ?_ ?_ (by intro wz hSw; obtain ⟨q0, q1⟩ := c2 (B0.y hSw.1); go_simp; all_goals with_reducible rfl) ?_
 refine cW ?_ ?_ ?_
 refine cX ?_ ?_ (by intro wz hSw; obtain ⟨q0, q1⟩ := c2 (B1.y hSw.1); go_simp; all_goals with_reducible rfl) ?_
 refine cC ?_ ?_ ?_ ?_ ?hc1_4 ?_
 case hc1_4 => (intro w hSw; exact compareI x y w)
 refine cW ?_ ?_ ?_
 refine calm_end ?_
 intro w1 hS
 have hS := sO hS
 have B0 := B0.y hS
 have B1 := B1.y hS
 have hz1 : W0.heap.size ≤ w1.heap.size := hS.size
 have HB := gS HB hS
 clear hS
 go_wp2_with fail
 go_ret
 exact ⟨rfl, HB⟩
set_option maxHeartbeats 1000000 in
theorem findRow_any (v : Value) (rows : List (Int × Value)) (ks : List Int) (k : Int) (t : Value) (w : World) (hks : ks = rows.map (·.1)) (hv : SlC w v 2 (rowE rows)) (hr : Rising ks) :
  Calls Tryz.prog 44 #[v, .agg #[.int .i64 k, t], .func (.func 45) #[] #[]] w fun e w' => e = .returned (.tuple #[.int .i64 (lowB ks k : Int), .bool (foundB ks k)]) ∧ Below w.heap.size w w' := by
 obtain ⟨a, c, e, hn, hcm⟩ := hv.form
 have hlen : (rowE rows).length = ks.length := by rw [hks]; unfold rowE; simp
 rw [hlen] at e hn
 subst e
 unfold maxLen at hcm
 obtain ⟨n, Hn⟩ : ∃ n, Hid (n = ks.length) := ⟨_, hH rfl⟩
 rw [← Hn.out] at hv hn ⊢
 have HV := hH hv
 have HR := hH hr
 have HK := hH hks
 obtain ⟨Lw, HL⟩ : ∃ l, Hid (l = lowB ks k) := ⟨_, hH rfl⟩
 have hL : Lw ≤ n := by rw [HL.out, Hn.out]; exact lowB_le ks k
 obtain ⟨fb, HFB⟩ : ∃ f, Hid (f = foundB ks k) := ⟨_, hH rfl⟩
 rw [← HL.out, ← HFB.out]
 clear hv hr hlen hks
 obtain ⟨W0, hW0⟩ : ∃ W0, w.alloc (.cells #[.int .i64 k, t] 103) = W0 := ⟨_, rfl⟩
 have B0 : Blk W0 w.heap.size [.int .i64 k, t] 103 := hW0 ▸ Blk.new _ _ _
 have HB0 : Below w.heap.size w W0 := hW0 ▸ (Below.refl _ w).alloc (Nat.le_refl _) _
 go_enter Tryz.func44, Tryz.ntmps44
 go_wp2_with fail
 go_loopg [8, 9] n (fun q s8 s9 wx => ∃ lo hi : Nat, lo ≤ Lw ∧ Lw ≤ hi ∧ hi ≤ n ∧ hi ≤ q + lo ∧ s8 = .int .i64 (lo : Int) ∧ s9 = .int .i64 (hi : Int) ∧ Hid (Below w.heap.size w wx) ∧ Hid (Blk wx w.heap.size [.int .i64 k, t] 103))
 case atStart => exact ⟨0, n, by omega, hL, Nat.le_refl _, by omega, rfl, rfl, HB0, B0⟩
 case round =>
  clear B0 HB0 hW0
  obtain ⟨lo, hi, h1, h2, h3, h4, rfl, rfl, HBh, G0⟩ := hrel
  have B0 := G0.out
  clear G0
  have HB := HBh.out
  have hsz := HB.size
  have HV2 := hH (HV.out.call HB)
  clear HBh
  by_cases hlt : lo < hi
  ·cases gk with
   | zero => omega
   | succ q =>
    obtain ⟨hf, Hf⟩ : ∃ h, Hid (h = (hi - lo) / 2) := ⟨_, hH rfl⟩
    have hf2 : hf < hi - lo := by rw [Hf.out]; omega
    obtain ⟨mid, Hmid⟩ : ∃ m, Hid (m = lo + hf) := ⟨_, hH rfl⟩
    have t0 : (lo : Int) < (hi : Int) := by omega
    have t1 : ((hi : Int) - (lo : Int)) / 2 = (hf : Int) := by rw [Hf.out]; omega
    have t2 : ((hi : Int) - (lo : Int)).tdiv 2 = (hf : Int) := by rw [Int.tdiv_eq_ediv_of_nonneg (by omega)]; exact t1
    have t3 : (lo : Int) + (hf : Int) = (mid : Int) := by rw [Hmid.out]; omega
    have hm1 : mid < hi := by rw [Hmid.out]; omega
    have hm2 : lo ≤ mid := by rw [Hmid.out]; omega
    obtain ⟨⟨x, rs⟩, hxr⟩ : ∃ r, rows[mid]? = some r := ⟨_, List.getElem?_eq_getElem (by have := Hn.out; rw [HK.out, List.length_map] at this; omega)⟩
    have hx : ks[mid]? = some x := by rw [HK.out, List.getElem?_map, hxr]; rfl
    obtain ⟨g, off, rfl, hgl, hrg, _⟩ := HV2.out.elem (rowE_at hxr)
    have hcm2 := lowB_lt ks k HR.out mid x hx
    rw [← HL.out] at hcm2
    by_cases hxk : x < k
    ·have HC := hH (hcm2.1 hxk)
     have i0 : cmpI x k < 0 := cmpI_lt'.2 hxk
     have d0 : decide (cmpI x k < 0) = true := by simpa using i0
     clear hcm2 hx hxk hxr
     go_upto_region 4 with (fail)
     refine cG ?_
     refine cN ?_
     refine cW ?_ ?_ ?_
     refine cW ?_ ?_ ?_
     refine cW ?_ ?_ ?_
     refine cX (.pointer (some ⟨g, off + mid * 2, none⟩)) ?_ (by intro wz hSw; exact x_index (E := 103) (sz := 2) rfl (by rfl) (by rfl) (by omega) Tryz.underlying95 size_row) ?_
     refine cX (.agg [.int .i64 x, rs].toArray) ?_ (by intro wz hSw; exact x_row rfl (by rfl) (rangeAt_below hrg (Stay.all hSw.1) hgl) Tryz.underlying103 rfl size_row) ?_
     refine cX ?_ ?_ (by intro wz hSw; obtain ⟨q0, q1⟩ := c2 (B0.y hSw.1); go_simp; all_goals with_reducible rfl) ?_
     refine cC ?_ ?_ ?_ ?_ ?hc2_6 ?_
     case hc2_6 => (intro w hSw; exact byY_any x k rs t w)
     refine cW ?_ ?_ ?_
     refine calm_end ?_
     intro w1 hS
     have hS := sO hS
     have B0 := B0.y hS
     have hz1 : wr.heap.size ≤ w1.heap.size := hS.size
     have HB := gS HB hS
     clear hS
     go_wp2_with fail
     go_roundg q
     case measure => omega
     case rel => exact ⟨mid + 1, hi, by have := HC.out; omega, h2, h3, by omega, by go_num, rfl, HB, B0⟩
    ·have HC := hH (show Lw ≤ mid from Nat.le_of_not_lt fun h => hxk (hcm2.2 h))
     have i0 : ¬ cmpI x k < 0 := fun h => hxk (cmpI_lt'.1 h)
     have d0 : decide (cmpI x k < 0) = false := by simpa using i0
     clear hcm2 hx hxk hxr
     go_upto_region 4 with (fail)
     refine cG ?_
     refine cN ?_
     refine cW ?_ ?_ ?_
     refine cW ?_ ?_ ?_
     refine cW ?_ ?_ ?_
     refine cX (.pointer (some ⟨g, off + mid * 2, none⟩)) ?_ (by intro wz hSw; exact x_index (E := 103) (sz := 2) rfl (by rfl) (by rfl) (by omega) Tryz.underlying95 size_row) ?_
     refine cX (.agg [.int .i64 x, rs].toArray) ?_ (by intro wz hSw; exact x_row rfl (by rfl) (rangeAt_below hrg (Stay.all hSw.1) hgl) Tryz.underlying103 rfl size_row) ?_
     refine cX ?_ ?_ (by intro wz hSw; obtain ⟨q0, q1⟩ := c2 (B0.y hSw.1); go_simp; all_goals with_reducible rfl) ?_
     refine cC ?_ ?_ ?_ ?_ ?hc5_6 ?_
     case hc5_6 => (intro w hSw; exact byY_any x k rs t w)
     refine cW ?_ ?_ ?_
     refine calm_end ?_
     intro w1 hS
     have hS := sO hS
     have B0 := B0.y hS
     have hz1 : wr.heap.size ≤ w1.heap.size := hS.size
     have HB := gS HB hS
     clear hS
     go_wp2_with fail
     go_roundg q
     case measure => omega
     case rel => exact ⟨lo, mid, h1, by have := HC.out; omega, by omega, by omega, rfl, rfl, HB, B0⟩
  ·have hlo : lo = Lw := by omega
   have t0 : ¬ (lo : Int) < (hi : Int) := by omega
   by_cases hln : lo < n
   ·have t5 : decide ((lo : Int) < (n : Int)) = true := by simp; omega
    obtain ⟨⟨x, rs⟩, hxr⟩ : ∃ r, rows[lo]? = some r := ⟨_, List.getElem?_eq_getElem (by have := Hn.out; rw [HK.out, List.length_map] at this; omega)⟩
    have hx : ks[lo]? = some x := by rw [HK.out, List.getElem?_map, hxr]; rfl
    obtain ⟨g, off, rfl, hgl, hrg, _⟩ := HV2.out.elem (rowE_at hxr)
    have HF : Hid (foundB ks k = (cmpI x k == 0)) := hH (by
     unfold foundB; rw [← HL.out, ← hlo, hx]
     unfold cmpI
     by_cases e1 : x < k
     ·simp [e1]; omega
     ·by_cases e2 : x = k
      ·simp [e2]
      ·simp [e1, e2])
    have Hlo := hH hlo
    clear hx hlo hxr
    go_upto_region 7 with (fail)
    refine cG ?_
    refine cN ?_
    refine cW ?_ ?_ ?_
    refine cW ?_ ?_ ?_
    refine cW ?_ ?_ ?_
    refine cW ?_ ?_ ?_
    refine cW ?_ ?_ ?_
    refine cW ?_ ?_ ?_
    refine cW ?_ ?_ ?_
    refine cW ?_ ?_ ?_
    refine cW ?_ ?_ ?_
    refine cX (.pointer (some ⟨g, off + lo * 2, none⟩)) ?_ (by intro wz hSw; exact x_index (E := 103) (sz := 2) rfl (by rfl) (by rfl) (by omega) Tryz.underlying95 size_row) ?_
    refine cX (.agg [.int .i64 x, rs].toArray) ?_ (by intro wz hSw; exact x_row rfl (by rfl) (rangeAt_below hrg (Stay.all hSw.1) hgl) Tryz.underlying103 rfl size_row) ?_
    refine cX ?_ ?_ (by intro wz hSw; obtain ⟨q0, q1⟩ := c2 (B0.y hSw.1); go_simp; all_goals with_reducible rfl) ?_
    refine cC ?_ ?_ ?_ ?_ ?hc3_12 ?_
    case hc3_12 => (intro w hSw; exact byY_any x k rs t w)
    refine cW ?_ ?_ ?_
    refine cW ?_ ?_ ?_
    refine cW ?_ ?_ ?_
    refine cW ?_ ?_ ?_
    refine calm_end ?_
    intro w1 hS
    have hS := sO hS
    have B0 := B0.y hS
    have hz1 : wr.heap.size ≤ w1.heap.size := hS.size
    have HB := gS HB hS
    clear hS
    go_wp2_with fail
    go_ret2
    exact ⟨by rw [HFB.out, HF.out, ← Hlo.out]; rfl, HB⟩
   ·have t5 : decide ((lo : Int) < (n : Int)) = false := by simp; omega
    have HF : Hid (foundB ks k = false) := hH (by
     unfold foundB; rw [← HL.out, ← hlo, List.getElem?_eq_none (by rw [← Hn.out]; omega)])
    have Hlo := hH hlo
    clear hlo
    go_upto_region 7 with (fail)
    refine cG ?_
    refine cN ?_
    refine cW ?_ ?_ ?_
    refine cW ?_ ?_ ?_
    refine cW ?_ ?_ ?_
    refine cW ?_ ?_ ?_
    refine cW ?_ ?_ ?_
    refine cW ?_ ?_ ?_
    refine cS ?_ ?_
    refine cS ?_ ?_
    refine cS ?_ ?_
    refine cS ?_ ?_
    refine cS ?_ ?_
    refine cS ?_ ?_
    refine cS ?_ ?_
    refine cS ?_ ?_
    refine cW ?_ ?_ ?_
    refine cW ?_ ?_ ?_
    refine cW ?_ ?_ ?_
    refine calm_end ?_
    intro w1 hS
    have hS := sO hS
    have B0 := B0.y hS
    have hz1 : wr.heap.size ≤ w1.heap.size := hS.size
    have HB := gS HB hS
    clear hS
    go_wp2_with fail
    go_ret2
    exact ⟨by rw [HFB.out, HF.out, ← Hlo.out]; rfl, HB⟩
end Go.Proofs.YthbplhglfjlngaaGreat
namespace Go.Proofs.YthbplhglfjlngaaGreat
open Go.RowKit Go.Rg Go.Wd Go.Mg
attribute [local go_sem] Oper.semAt_some
theorem enter_ptCmp (args : Array Value) (w : World) : (callFunc 36 args).run Tryz.prog w = .ok (.enter 36 args) w := enters_of Tryz.func36 (by kernel_rfl) rfl args w
theorem enter_byRow (args : Array Value) (w : World) : (callFunc 39 args).run Tryz.prog w = .ok (.enter 39 args) w := enters_of Tryz.func39 (by kernel_rfl) rfl args w
theorem enter_new2 (args : Array Value) (w : World) : (callFunc 40 args).run Tryz.prog w = .ok (.enter 40 args) w := enters_of Tryz.func40 (by kernel_rfl) rfl args w
def ptO (p q : Int × Int) : Int := orZ (cmpI p.1 q.1) (cmpI p.2 q.2)
def rowO (p q : Int × Int) : Int := orZ (cmpI p.2 q.2) (cmpI p.1 q.1)
def setC (ps : List (Int × Int)) : List (Int × Int) := onceB ptO ps
def setG (ps : List (Int × Int)) : List (List (Int × Int)) := grpB (fun p q => p.2 == q.2) (sortB (fun x y => !decide (rowO y x < 0)) (setC ps))
def rowOf (g : List (Int × Int)) : Int × List Int := ((g.headD (0, 0)).2, g.map (·.1))
def setR (ps : List (Int × Int)) : List (Int × List Int) := (setG ps).map rowOf
def RowsW (X : World) (rs : List (Int × Value)) (rows : List (Int × List Int)) : Prop := rs.length = rows.length ∧ ∀ (i : Nat) (r : Int × List Int), rows[i]? = some r → ∃ v : Value, rs[i]? = some (r.1, v) ∧ RdT 3 X v r.2.length (r.2.map (.int .i64))
theorem RowsW.keep {X Y : World} {rs : List (Int × Value)} {rows : List (Int × List Int)} (h : RowsW X rs rows) (k : KeepT 3 X Y) : RowsW Y rs rows :=
 ⟨h.1, fun i r hr => by obtain ⟨v, h1, h2⟩ := h.2 i r hr; exact ⟨v, h1, h2.keep k⟩⟩
def SetW (X : World) (R : Nat) (ps : List (Int × Int)) : Prop := ∃ vc vr rs, Blk X R [vc, vr] 97 ∧ SlC X vc 2 (ptE (setC ps)) ∧ SlC X vr 2 (rowE rs) ∧ RowsW X rs (setR ps)
theorem SetW.call {X Y : World} {R : Nat} {ps : List (Int × Int)} (h : SetW X R ps) (hb : Below X.heap.size X Y) : SetW Y R ps := by
 obtain ⟨vc, vr, rs, h1, h2, h3, h4⟩ := h
 exact ⟨vc, vr, rs, h1.call hb, h2.call hb, h3.call hb, h4.keep (KeepT.call hb)⟩
set_option maxHeartbeats 4000000 in
theorem new_bad (v : Value) (ps : List (Int × Int)) (w : World) (hv : SlC w v 2 (ptE ps)) (hbad : ∃ p ∈ ps, ptB p.1 p.2 = false) :
  Calls Tryz.prog 17 #[v] w fun e w' => e = .returned (.tuple #[.pointer none, .int .i64 11]) ∧ Below w.heap.size w w' := by
 have HV := hH hv
 have h0 : 0 ≤ badAt ps 0 := (badAt_iff ps 0).2 hbad
 have d0 : decide (0 ≤ badAt ps 0) = true := by simpa using h0
 clear hv
 obtain ⟨a, c, e, hn, hcm⟩ := HV.out.form
 subst e
 refine (calls_iff (r := none) (m := 0)).1 (callsIn_of_wp_marks Tryz.func17 rfl trivial ?_ rfl)
 simp only [Tryz.ntmps17, List.size_toArray, List.length_cons, List.length_nil, Nat.reduceAdd, Nat.reduceSub, Array.replicate_succ, Array.replicate_zero, List.push_toArray, List.append_toArray, List.nil_append, List.cons_append]
 gi_wp2_with fail
 refine (calls_iff.2 (contains_any _ ps w HV.out)).mono ?_
 rintro e w1 ⟨rfl, hb1⟩
 rw [d0]
 have HB := hH hb1
 clear hb1
 gi_wp2_with fail
 exact ⟨_, results_tmp2 rfl _ _ _, rfl, HB.out⟩
theorem size_rowS : (Tryz.prog.info? 103).map (fun i => (i.zero, i.size, i.bytes)) = some (some (.agg #[.int .i64 0, .slice none 0 0]), 2, 32) := by kernel_rfl
theorem size_intS : (Tryz.prog.info? 3).map (fun i => (i.zero, i.size, i.bytes)) = some (some (.int .i64 0), 1, 8) := by kernel_rfl
theorem mem_flat_le {α : Type} {g : List α} : ∀ {gs : List (List α)}, g ∈ gs → g.length ≤ gs.flatten.length
 | [], h => by cases h
 | x :: r, h => by
  rw [List.flatten_cons, List.length_append]
  rcases List.mem_cons.1 h with rfl | h
  ·omega
  ·have := mem_flat_le h; omega
theorem RowsW.nil (X : World) : RowsW X [] [] := ⟨rfl, fun i r h => by simp at h⟩
theorem RowsW.snoc {X : World} {rs : List (Int × Value)} {rows : List (Int × List Int)} (h : RowsW X rs rows) (r : Int × List Int) (v : Value) (hv : RdT 3 X v r.2.length (r.2.map (.int .i64))) : RowsW X (rs ++ [(r.1, v)]) (rows ++ [r]) := by
 refine ⟨by simp [h.1], fun i r' hr => ?_⟩
 by_cases hi : i < rows.length
 ·rw [List.getElem?_append_left hi] at hr
  obtain ⟨u, h1, h2⟩ := h.2 i r' hr
  exact ⟨u, by rw [List.getElem?_append_left (by rw [h.1]; exact hi)]; exact h1, h2⟩
 ·have hl := (List.getElem?_eq_some_iff.1 hr).1
  rw [List.length_append, List.length_cons, List.length_nil] at hl
  have : i = rows.length := by omega
  subst this
  rw [List.getElem?_append_right (Nat.le_refl _), Nat.sub_self] at hr
  cases hr
  exact ⟨v, by rw [← h.1, List.getElem?_append_right (Nat.le_refl _), Nat.sub_self]; rfl, hv⟩
set_option maxHeartbeats 4000000 in
theorem new_any (v : Value) (ps : List (Int × Int)) (w : World) (hv : SlC w v 2 (ptE ps)) (hok : ∀ p ∈ ps, ptB p.1 p.2 = true) (hb : ps.length * 32 ≤ 140737488355328 - 32) :
  Calls Tryz.prog 17 #[v] w fun e w' => ∃ R, e = .returned (.tuple #[.pointer (some ⟨R, 0, none⟩), .int .i64 0]) ∧ SetW w' R ps ∧ w.heap.size ≤ R ∧ Below w.heap.size w w' := by
 have HV := hH hv
 have h0 : ¬ 0 ≤ badAt ps 0 := fun h => by
  obtain ⟨p, h1, h2⟩ := (badAt_iff ps 0).1 h
  rw [hok p h1] at h2; cases h2
 have d0 : decide (0 ≤ badAt ps 0) = false := by simpa using h0
 clear hv hok
 obtain ⟨a, c, e, hn, hcm⟩ := HV.out.form
 subst e
 refine (calls_iff (r := none) (m := 0)).1 (callsIn_of_wp_marks Tryz.func17 rfl trivial ?_ rfl)
 simp only [Tryz.ntmps17, List.size_toArray, List.length_cons, List.length_nil, Nat.reduceAdd, Nat.reduceSub, Array.replicate_succ, Array.replicate_zero, List.push_toArray, List.append_toArray, List.nil_append, List.cons_append]
 gi_wp2_with fail
 refine (calls_iff.2 (contains_any _ ps w HV.out)).mono ?_
 rintro e w1 ⟨rfl, hb1⟩
 rw [d0]
 have HB1 := hH hb1
 clear hb1
 gi_wp2_with fail
 refine (calls_iff.2 (once_any 36 enter_ptCmp ptO (fun p q w => ptCmp_any p.1 p.2 q.1 q.2 w) _ ps w1 (HV.out.call HB1.out) (by omega))).mono ?_
 rintro e w2 ⟨v2, rfl, hs2, hb2⟩
 obtain ⟨a2, c2, e, hn2, hcm2⟩ := hs2.form
 subst e
 obtain ⟨n2, Hn2⟩ : ∃ n, Hid (n = (ptE (onceB ptO ps)).length) := ⟨_, hH rfl⟩
 rw [← Hn2.out] at hs2 hn2 ⊢
 have HB2 : Hid (Below w.heap.size w w2) := hH (HB1.out.trans (hb2.mono HB1.out.size))
 have Hs2 := hH hs2
 clear hs2 hb2
 obtain ⟨bS, hbS⟩ : ∃ b, b = w2.heap.size := ⟨_, rfl⟩
 obtain ⟨bP, hbP⟩ : ∃ b, b = w2.heap.size + 1 := ⟨_, rfl⟩
 obtain ⟨W3, hW3⟩ : ∃ W3, (w2.alloc (.cells #[.slice a2 n2 c2, .slice none 0 0] 97)).alloc (.cells #[.pointer (some ⟨w2.heap.size, 0, none⟩)] 30) = W3 := ⟨_, rfl⟩
 have hW3' : [.cells #[.slice a2 n2 c2, .slice none 0 0] 97, .cells #[.pointer (some ⟨w2.heap.size, 0, none⟩)] 30].foldl World.alloc w2 = W3 := hW3
 have B0 : Blk W3 w2.heap.size [.slice a2 n2 c2, .slice none 0 0] 97 := Blk.allocs _ hW3' 0 rfl
 have B1 : Blk W3 (w2.heap.size + 1) [.pointer (some ⟨w2.heap.size, 0, none⟩)] 30 := Blk.allocs _ hW3' 1 rfl
 have hb3 : Below w2.heap.size w2 W3 := hW3' ▸ allocs_below _ w2
 have hz3 : W3.heap.size = w2.heap.size + 2 := hW3' ▸ allocs_size _ w2
 have Hs3 := hH (Hs2.out.call hb3)
 have HB3 : Hid (Below w.heap.size w W3) := hH (HB2.out.trans (hb3.mono HB2.out.size))
 have c0 := B0.cell (j := 0) rfl
 have c1 := B1.cell (j := 0) rfl
 have hen : ∀ l : List (Int × Int), l.map (fun p : Int × Int => [Value.int .i64 p.1, .int .i64 p.2]) = ptE l := fun l => rfl
 have hlb : (onceB ptO ps).length ≤ ps.length := by unfold onceB; rw [List.length_map]; refine Nat.le_trans (grpB_len _ _) ?_; rw [sortB_len]; exact Nat.le_refl _
 gi_wp2_with fail
 (try rw [hW3])
 refine (calls_iff.2 (sortPt_any (fun p : Int × Int => [.int .i64 p.1, .int .i64 p.2]) (fun _ => rfl) (by intro x u hu; simp at hu; rcases hu with rfl | rfl <;> rfl) 39 enter_byRow rowO (fun _ => True) (fun y x _ _ w => byRow_any y.1 y.2 x.1 x.2 w) (onceB ptO ps) _ W3 Hs3.out (fun _ _ => trivial) (by omega))).mono ?_
 rintro e w4 ⟨v4, rfl, hs4, hb4⟩
 rw [hen] at hs4
 obtain ⟨srt, Hsrt⟩ : ∃ l, Hid (l = sortB (fun x y => !decide (rowO y x < 0)) (onceB ptO ps)) := ⟨_, hH rfl⟩
 have Hsl : Hid (srt.length ≤ ps.length) := hH (by rw [Hsrt.out, sortB_len]; exact hlb)
 rw [← Hsrt.out] at hs4
 obtain ⟨a4, c4, e4, hn4, hcm4⟩ := hs4.form
 subst e4
 have Hs4 := hH hs4
 obtain ⟨n4, Hn4⟩ : ∃ n, Hid (n = (ptE srt).length) := ⟨_, hH rfl⟩
 rw [← Hn4.out] at Hs4 hn4 ⊢
 have HB4 : Hid (Below w.heap.size w w4) := hH (HB3.out.trans (hb4.mono HB3.out.size))
 have B0 := B0.call hb4
 have B1 := B1.call hb4
 have Hc4 := hH (Hs3.out.call hb4)
 have hz4 := hb4.size
 clear hs4 hb4 hW3 hW3' c0 c1 hen hb3 hlb
 gi_wp2_with fail
 refine (calls_iff.2 (runsF_any a4 n4 c4 40 #[] w4)).mono ?_
 rintro e ws ⟨rfl, hws⟩
 have B2 : Blk ws w4.heap.size [.slice a4 n4 c4] 26 := Blk.allocs _ hws 0 rfl
 have B3 : Blk ws (w4.heap.size + 1) [.func (.func 40) #[] #[]] 101 := Blk.allocs _ hws 1 rfl
 have hbs : Below w4.heap.size w4 ws := hws ▸ allocs_below _ w4
 have hszs : ws.heap.size = w4.heap.size + 2 := hws ▸ allocs_size _ w4
 replace hszs : w4.heap.size + 2 ≤ ws.heap.size := Nat.le_of_eq hszs.symm
 have B0 := B0.call hbs
 have B1 := B1.call hbs
 have HBs : Hid (Below w.heap.size w ws) := hH (HB4.out.trans (hbs.mono HB4.out.size))
 have Hs5 : Hid (SlC ws (.slice a4 n4 c4) 2 (ptE srt)) := hH (Hs4.out.call hbs)
 have Hc5 := hH (Hc4.out.call hbs)
 clear hws hbs Hs4
 rw [← hbP, ← hbS] at B1
 rw [← hbS] at B0
 rw [← hbP, ← hbS]
 have hbS1 : w.heap.size ≤ bS := by rw [hbS]; exact HB2.out.size
 have hbS2 : bS < bP := by omega
 have hbP2 : bP < w4.heap.size := by omega
 obtain ⟨Sn, hSn⟩ : ∃ S : Nat → Prop, S = fun j => j < ws.heap.size ∧ j ≠ bS := ⟨_, rfl⟩
 have HSn : Hid (∀ j, Sn j → j < ws.heap.size) := hH (fun j hj => by rw [hSn] at hj; exact hj.1)
 have HSo : Hid (¬ Sn bS) := hH (by rw [hSn]; exact fun h => h.2 rfl)
 have HSi : Hid (∀ j, j < ws.heap.size → j ≠ bS → Sn j) := hH (fun j h1 h2 => by rw [hSn]; exact ⟨h1, h2⟩)
 clear hSn hbS hbP hz3 hz4
 obtain ⟨gs, Hgs⟩ : ∃ l, Hid (l = grpB (fun p q => p.2 == q.2) srt) := ⟨_, hH rfl⟩
 have HneB : Hid (∀ l : List (Int × Int), ∀ e ∈ ptE l, ∃ u ∈ e, u ∉ [Value.slice a2 n2 c2, .slice none 0 0]) := hH (fun l e he => by
  obtain ⟨p, _, rfl⟩ := List.mem_map.1 he
  exact ⟨.int .i64 p.1, by simp, by simp⟩)
 have hSeq := runs_seq w4.heap.size (w4.heap.size + 1) (.slice a4 n4 c4) srt (fun p q => p.2 == q.2) 40 enter_new2 #[] Sn ws B2 (HSi.out _ (by omega) (by omega)) B3 (HSi.out _ (by omega) (by omega)) HSn.out
  (fun W hW => Hs5.out.kept_if B0 (HneB.out _) (hW.mono (fun j hj => HSi.out j hj.1 hj.2))) (fun p q X hX => new2_any p.1 p.2 q.1 q.2 X) (by have := Hsl.out; omega)
 rw [← Hgs.out] at hSeq
 have HSeq := hH hSeq
 have Hgl : Hid (gs.length ≤ ps.length) := hH (by rw [Hgs.out]; exact Nat.le_trans (grpB_len _ _) Hsl.out)
 have Hne : Hid (∀ g ∈ gs, g ≠ []) := hH (by rw [Hgs.out]; exact grpB_ne _ _)
 have Hgm : Hid (∀ g ∈ gs, g.length ≤ ps.length) := hH (fun g hg => by
  have h1 : g.length ≤ gs.flatten.length := by
   exact mem_flat_le hg
  rw [Hgs.out, grpB_flat] at h1
  exact Nat.le_trans h1 Hsl.out)
 have Hc6 : Hid (∀ W, Kept Sn ws W → SlC W (.slice a2 n2 c2) 2 (ptE (onceB ptO ps))) := hH (fun W hW => Hc5.out.kept_if B0 (HneB.out _) (hW.mono (fun j hj => HSi.out j hj.1 hj.2)))
 have HSP : Hid (Sn bP) := hH (HSi.out _ (by omega) (by omega))
 clear hSeq B2 B3 Hc5 Hc4 Hs5
 have HB0s := hH B0
 have HB1s := hH B1
 clear B0 B1
 gi_wp2_with fail
 refine wp_rangeE (P := Tryz.prog) (gf := 66) (lb := #[.pointer (some ⟨w4.heap.size, 0, none⟩), .pointer (some ⟨w4.heap.size + 1, 0, none⟩)]) (S := Sn) (ps := #[21]) rfl enter_runs
  HSeq.out (Kept.refl _ _) HSn.out (fun k x X ⟨u, gr, _, hx, _⟩ => by rw [hx]; rfl)
  (fun k O X => (∃ rs va vc, Grw X ws.heap.size bS 97 103 2 O (fun v => [.slice a2 n2 c2, v]) (rowE rs) (.slice va k vc) ∧ RowsW X rs ((gs.take k).map rowOf)) ∧ Below w.heap.size w X) (fun _ _ _ => False)
  (fun k O O' X Y h hx hO => ⟨by obtain ⟨rs, va, vc, h1, h2⟩ := h.1; exact ⟨rs, va, vc, h1.ext hx hO, h2.keep (KeepT.ext hx)⟩, h.2.trans (hx.below.mono (by have := HBs.out.size; omega))⟩) (fun c k X Y h hx => h)
  ⟨⟨[], none, 0, ⟨HB0s.out, by omega, ⟨by simp [rowE], .inl ⟨rfl, by simp [rowE]⟩⟩, (by simp [rowE]), (fun g hg => by cases hg)⟩, RowsW.nil _⟩, HBs.out⟩ ?round ?done ?stop
 case round =>
  intro l k x O Wr hl1 hl2 hkn hE hk hO hi
  obtain ⟨u, gr, hgr, rfl, hu⟩ := hE
  obtain ⟨⟨rs, va, vc, hG, hRW⟩, hBr⟩ := hi
  have HO := hH hO
  have hgne := Hne.out gr (List.mem_of_getElem? hgr)
  have HgrL := hH (Hgm.out gr (List.mem_of_getElem? hgr))
  obtain ⟨hd, tl, rfl⟩ : ∃ hd tl, gr = hd :: tl := by
   cases gr with
   | nil => exact absurd rfl hgne
   | cons x y => exact ⟨x, y, rfl⟩
  obtain ⟨ga, gc, e, hgn, hgc⟩ := hu.form
  subst e
  obtain ⟨grp, Hgrp⟩ : ∃ g, Hid (g = hd :: tl) := ⟨_, hH rfl⟩
  obtain ⟨gn, Hgn⟩ : ∃ n, Hid (n = (ptE grp).length) := ⟨_, hH rfl⟩
  obtain ⟨gh, oh, rfl, _, _⟩ := SlC.head (e := [.int .i64 hd.1, .int .i64 hd.2]) (es := ptE tl) hu
  rw [← Hgrp.out] at hu hgn HgrL hgr ⊢
  rw [← Hgn.out] at hu hgn ⊢
  have Hgnl : Hid (gn = grp.length) := hH (by rw [Hgn.out]; unfold ptE; rw [List.length_map])
  have hgn1 : 0 < gn := by rw [Hgnl.out, Hgrp.out]; simp
  have hgnp : gn * 32 ≤ 140737488355328 - 32 := by have := Hgnl.out; have := HgrL.out; omega
  gi_wp2_with fail
  refine ⟨Eff.refl _ _ _, ?_⟩
  intro Wb hx hkb hszb hlb
  have HG0 := hG.ext hx (fun j hj => .inl hj)
  have HRW := hH (hRW.keep (KeepT.ext hx))
  have Hu := hH (hu.ext hx)
  have HRl : Hid ((rowE rs).length = rs.length) := hH (by unfold rowE; rw [List.length_map])
  have HDl : Hid (rs.length = k) := hH (by rw [hRW.1, List.length_map, List.length_take]; omega)
  have Hkb2 : Hid (rs.length * 32 ≤ 140737488355328 - 64) := hH (by rw [HDl.out]; have := Hgl.out; omega)
  have HBw : Hid (Below w.heap.size w Wb) := hH (hBr.trans (hx.below.mono (by have := HBs.out.size; omega)))
  have HszB : Hid (ws.heap.size ≤ Wb.heap.size) := hH (Nat.le_trans hk.size hx.below.size)
  have HSO : Hid (∀ j, both Sn O j → j < Wb.heap.size) := hH (fun j hj => by
   rcases hj with h | h
   ·have := HSn.out j h; omega
   ·have := (HO.out j h).2; omega)
  have HbO : Hid (¬ both Sn O bS) := hH (by
   rintro (h | h)
   ·exact HSo.out h
   ·have := (HO.out bS h).1; omega)
  have Hst : Hid ((gs.take (k + 1)).map rowOf = (gs.take k).map rowOf ++ [(hd.2, grp.map (·.1))]) := hH (by
   rw [List.take_add_one, hgr, Hgrp.out]; simp [rowOf])
  have HGo : Hid (∀ g, (Value.slice va k vc).ownBlock = some g → g < Wb.heap.size) := hH (fun g hg => (HG0.own.lt g hg).2)
  have HP : Hid (Blk Wb bP [.pointer (some ⟨bS, 0, none⟩)] 30) := hH (HB1s.out.of_same ((hkb.same bP (.inl HSP.out)).trans (hk.same bP HSP.out)))
  have HG := hH HG0
  have y1 : Wb.cell? ⟨gh, oh + 1, none⟩ = some (.int .i64 hd.2) := by
   obtain ⟨_, _, e, _, hrd, _⟩ := SlC.head (e := [.int .i64 hd.1, .int .i64 hd.2]) (es := ptE tl) (by have := Hu.out; rw [Hgrp.out] at this; exact this)
   cases e
   exact hrd 1 _ rfl
  clear hx hkb hszb hlb HG0 hu hG hO hgr hBr hgne hRW hk
  gi_wp2_with fail
  obtain ⟨wi, hwi⟩ : ∃ wi, Wb.alloc (.cells #[.int .i64 hd.2, .slice none 0 0] 103) = wi := ⟨_, rfl⟩
  have hbi : Below Wb.heap.size Wb wi := hwi ▸ (Below.refl _ Wb).alloc (Nat.le_refl _) _
  have hRi : Blk wi Wb.heap.size [.int .i64 hd.2, .slice none 0 0] 103 := hwi ▸ Blk.new _ _ _
  have hzi : Wb.heap.size < wi.heap.size := hRi.lt
  (try rw [hwi])
  gi_loopw [29] (fun p wr => ∃ (i : Nat) (xa : Option Addr) (xc : Nat), p = .int .i64 (i : Int) ∧ i ≤ gn ∧ Hid (Blk wr Wb.heap.size [.int .i64 hd.2, .slice xa i xc] 103) ∧ Hid (wr.ownsRow wi.heap.size 3 1 (.slice xa i xc) i ((grp.take i).map (fun p => .int .i64 p.1))) ∧ Hid (Below Wb.heap.size Wb wr) ∧ wi.heap.size ≤ wr.heap.size)
   (fun p _ => gn - (intOf p).toNat)
  case atStart => exact ⟨0, none, 0, by first | rfl | simp, Nat.zero_le _, hRi, ⟨by simp, .inl ⟨rfl, rfl⟩⟩, hbi, Nat.le_refl _⟩
  case round =>
   clear hRi hbi hwi
   obtain ⟨i, xa, xc, rfl, hi, HR, HO2, HB2, hwx⟩ := hrel
   by_cases hlt : i < gn
   ·obtain ⟨p, hp⟩ : ∃ p, grp[i]? = some p := ⟨_, List.getElem?_eq_getElem (by rw [← Hgnl.out]; exact hlt)⟩
    have hel : World.rangeAt wr gh (oh + i * 2) [.int .i64 p.1, .int .i64 p.2] := by
     obtain ⟨_, _, e, _, hrd, _⟩ := (Hu.out.call HB2.out).elem (ptE_at hp)
     cases e
     exact hrd
    have y2 : wr.cell? ⟨gh, oh + i * 2, none⟩ = some (.int .i64 p.1) := hel 0 _ rfl
    have y3 : wr.cell? ⟨gh, oh + i * 2 + 1, none⟩ = some (.int .i64 p.2) := hel 1 _ rfl
    have x1 := HR.out.cell (j := 1) rfl
    have hzr : Wb.heap.size < wr.heap.size := by omega
    obtain ⟨ints, Hints⟩ : ∃ l, Hid (l = (grp.take i).map (fun p : Int × Int => Value.int .i64 p.1)) := ⟨_, hH rfl⟩
    rw [← Hints.out] at HO2
    have hown := HO2.out
    have Hst2 : Hid ((grp.take (i + 1)).map (fun p : Int × Int => Value.int .i64 p.1) = (grp.take i).map (fun p => .int .i64 p.1) ++ [.int .i64 p.1]) := hH (by rw [List.take_add_one, hp]; simp)
    clear hp hel
    gi_wp2_with (gi_at_builtin; refine wpListIn_append2 _ rfl _ _ 73 rfl wi.heap.size 3 (.int .i64 0) 1 8 Tryz.underlying73 size_intS rfl (by decide) (.slice xa i xc) i _ rfl ((hown.alloc _).alloc _) _ _ 1 [.int .i64 p.1] rfl (reads_newP _ _ _ 1 1 _ (by simp) (by decide) (by decide)) rfl (by simp [Value.oneCell']) (by unfold maxLen; omega) (by omega) (by simp; omega) ?_)
    intro v' w9 hown2 hgrow hmov
    obtain ⟨xa2, xc2, rfl⟩ := own_form hown2
    have hR9 : Blk w9 Wb.heap.size [.int .i64 hd.2, .slice xa i xc] 103 := ((HR.out.alloc _).alloc _).grown hgrow (fun e => by have := (hown.lt _ e.symm).1; omega)
    have hB9 : Below Wb.heap.size Wb w9 := ((HB2.out.trans (((Below.refl _ wr).alloc (Nat.le_refl _) _).mono HB2.out.size)).trans (((Below.refl _ _).alloc (Nat.le_refl _) _).mono (by simp; have := HB2.out.size; omega))).grown hgrow (by simp; have := HB2.out.size; omega) (fun k e => by have := (hown.lt k e).1; omega)
    have hw9 : wi.heap.size ≤ w9.heap.size := by have := hgrow.size; simp at this; omega
    have x9 := hR9.cell (j := 1) rfl
    have f9 := hR9.frozen 1
    have HO9 := hH hown2
    have HR9 := hH hR9
    have HB9 := hH hB9
    clear hown hown2 hgrow hmov hR9 hB9 y2 y3 x1
    gi_wp2_with fail
    go_roundw
    case rel => exact ⟨i + 1, xa2, xc2, by first | rfl | simp, hlt, hH (HR9.out.set 1 _), hH (by rw [Hst2.out, ← Hints.out]; exact own_other HO9.out ⟨Wb.heap.size, 1, none⟩ hzi _), hH (HB9.out.setCell (p := ⟨Wb.heap.size, 1, none⟩) (Nat.le_refl _) _), by simpa using hw9⟩
    case measure => simp [intOf]; omega
   ·obtain rfl : i = gn := by omega
    have hall : grp.take i = grp := by rw [Hgnl.out, List.take_length]
    rw [hall] at HO2
    rename World => wc
    have HRc := HR.out
    have HXc : Hid (RdT 3 wc (.slice xa i xc) i (grp.map (fun p => .int .i64 p.1))) := hH (RdT.of_own HO2.out)
    have HBc := HB2
    have HGc := HG.out.call HB2.out
    have HEc : Hid (Eff ws.heap.size (both Sn O) Wb wc) := hH (Eff.of_below HB2.out HSO.out)
    have HKc : Hid (KeepT 3 Wb wc) := hH (KeepT.call HB2.out)
    have HPc := HP.out.call HB2.out
    have HBwc : Hid (Below w.heap.size w wc) := hH (HBw.out.trans (HB2.out.mono HBw.out.size))
    have HDl2 := HDl.out
    subst HDl2
    have hz0 := HPc.cell (j := 0) rfl
    have hz1 := HGc.blk.cell (j := 1) rfl
    have hz2 := HRc.cell (j := 0) rfl
    have hz3 := HRc.cell (j := 1) rfl
    clear HO2 HB2 HR hall hlt hi y1
    gi_upto_region 12 with (fail)
    refine onlyN_mono ?_
    refine heldG_round (fun w' => w'.cell? ⟨bP, 0, none⟩ = some (.pointer (some ⟨bS, 0, none⟩)) ∧ w'.cell? ⟨bS, 1, none⟩ = some (.slice va rs.length vc) ∧ w'.cell? ⟨Wb.heap.size, 0, none⟩ = some (.int .i64 hd.2) ∧ w'.cell? ⟨Wb.heap.size, 1, none⟩ = some (.slice xa i xc)) (fun j => j == 10) (by kernel_rfl) ?_ (by kernel_rfl) ?_
    ·exact fun ⟨_, _, h⟩ => h
    have hHeld : (fun w' => w'.cell? ⟨bP, 0, none⟩ = some (.pointer (some ⟨bS, 0, none⟩)) ∧ w'.cell? ⟨bS, 1, none⟩ = some (.slice va rs.length vc) ∧ w'.cell? ⟨Wb.heap.size, 0, none⟩ = some (.int .i64 hd.2) ∧ w'.cell? ⟨Wb.heap.size, 1, none⟩ = some (.slice xa i xc)) wc.drew := ⟨hz0, hz1, hz2, hz3⟩
    refine takeG 0 (v := ?_) [0, 8, 9, 10] rfl (by kernel_rfl) (by kernel_rfl) (by kernel_rfl) (by kernel_rfl) (by kernel_rfl) (fun _ _ _ h => h) (by rfl) (by assumption) ?hy0 ?_
    case hy0 => (intro w hSw; (try dsimp only at hSw); obtain ⟨z0, z1, z2, z3⟩ := hSw; go_simp; all_goals with_reducible rfl)
    (try simp only [td])
    refine takeG 1 (v := ?_) [1, 2, 3, 4, 7, 8, 9, 10] rfl (by kernel_rfl) (by kernel_rfl) (by kernel_rfl) (by kernel_rfl) (by kernel_rfl) (fun _ _ _ h => h) (by rfl) (by assumption) ?hy1 ?_
    case hy1 => (intro w hSw; (try dsimp only at hSw); obtain ⟨z0, z1, z2, z3⟩ := hSw; go_simp; all_goals with_reducible rfl)
    (try simp only [td])
    refine takeG 2 (v := ?_) [2, 3, 4, 7, 8, 9, 10] rfl (by kernel_rfl) (by kernel_rfl) (by kernel_rfl) (by kernel_rfl) (by kernel_rfl) (fun _ _ _ h => h) (by rfl) (by assumption) ?hy2 ?_
    case hy2 => (intro w hSw; (try dsimp only at hSw); obtain ⟨z0, z1, z2, z3⟩ := hSw; go_simp; all_goals with_reducible rfl)
    (try simp only [td])
    refine takeG 3 (v := ?_) [3, 4, 7, 8, 9, 10] rfl (by kernel_rfl) (by kernel_rfl) (by kernel_rfl) (by kernel_rfl) (by kernel_rfl) (fun _ _ _ h => h) (by rfl) (by assumption) ?hy3 ?_
    case hy3 => (intro w hSw; (try dsimp only at hSw); obtain ⟨z0, z1, z2, z3⟩ := hSw; go_simp; all_goals with_reducible rfl)
    (try simp only [td])
    refine takeG 4 (v := ?_) [4, 7, 8, 9, 10] rfl (by kernel_rfl) (by kernel_rfl) (by kernel_rfl) (by kernel_rfl) (by kernel_rfl) (fun _ _ _ h => h) (by rfl) (by assumption) ?hy4 ?_
    case hy4 => (intro w hSw; (try dsimp only at hSw); obtain ⟨z0, z1, z2, z3⟩ := hSw; go_simp; all_goals with_reducible rfl)
    (try simp only [td])
    refine takeG 5 (v := ?_) [5, 6, 7, 8, 9, 10] rfl (by kernel_rfl) (by kernel_rfl) (by kernel_rfl) (by kernel_rfl) (by kernel_rfl) (fun _ _ _ h => h) (by rfl) (by assumption) ?hy5 ?_
    case hy5 => (intro w hSw; (try dsimp only at hSw); obtain ⟨z0, z1, z2, z3⟩ := hSw; go_simp; all_goals with_reducible rfl)
    (try simp only [td])
    refine consG 6 (by kernel_rfl) rfl (by rfl) (fun K hK => ?_)
    --nosimp
    refine wp_buildOne _ 95 103 _ (.agg #[.int .i64 hd.2, .slice xa i xc]) (.agg #[.int .i64 0, .slice none 0 0]) [.int .i64 hd.2, .slice xa i xc] rfl Tryz.underlying95 (info_small size_rowS) (by rfl) rfl (by simp) (by simp) ?_
    obtain ⟨wa, hwa⟩ : ∃ wa, wc.drew.alloc (.cells [.int .i64 hd.2, .slice xa i xc].toArray 103) = wa := ⟨_, rfl⟩
    have hRN : ReadsE wa wa.heap.size (.slice (some ⟨wc.heap.size, 0, none⟩) 1 1) 1 [.int .i64 hd.2, .slice xa i xc] := hwa ▸ reads_one wc.drew 103 [.int .i64 hd.2, .slice xa i xc]
    have hal : Below wc.heap.size wc wa := hwa ▸ ((Below.refl _ wc).drew).alloc (Nat.le_refl _) _
    have HEa : Hid (Eff ws.heap.size (both Sn O) Wb wa) := hH (hwa ▸ (HEc.out.drew).alloc (fun j hj => by have := HSO.out j hj; have : Wb.heap.size ≤ wc.drew.heap.size := HBc.out.size; omega) _)
    have HGa := HGc.call hal
    have HBa : Hid (Below w.heap.size w wa) := hH (HBwc.out.trans (hal.mono HBwc.out.size))
    have HRa := HRc.call hal
    have HKa := hH (HKc.out.trans (KeepT.call hal))
    have HXa := hH (HXc.out.keep (KeepT.call hal))
    have HPa := HPc.call hal
    have z0 := HPa.cell (j := 0) rfl
    have z1 := HGa.blk.cell (j := 1) rfl
    have z2 := HRa.cell (j := 0) rfl
    have z3 := HRa.cell (j := 1) rfl
    have hsa : Wb.heap.size ≤ wa.heap.size := Nat.le_trans HBc.out.size hal.size
    (try rw [hwa])
    clear hwa hal
    clear hHeld
    refine hK.out _ _ ?hS6 (fun hHeld => ?_)
    case hS6 => (intro _; (try dsimp only); exact ⟨z0, z1, z2, z3⟩)
    have hHeld := hHeld rfl
    clear hK K
    (try simp only [td])
    refine consG 7 (by kernel_rfl) rfl (by rfl) (fun K hK => ?_)
    refine wp_append2E _ _ _ 95 rfl ws.heap.size 103 (.agg #[.int .i64 0, .slice none 0 0]) 2 32 Tryz.underlying95 size_rowS rfl (by decide) (.slice va rs.length vc) rs.length _ rfl (HRl.out ▸ HGa.own) _ _ 1 [.int .i64 hd.2, .slice xa i xc] rfl hRN rfl (by simp [Value.oneCell']) (by have := Hkb2.out; unfold maxLen; omega) (by have := Hkb2.out; omega) (by have := HszB.out; omega) ?_
    intro v' wb own' hgrow hmov
    obtain ⟨va2, vc2, rfl⟩ := own_form own'
    have HGb := hH (HGa.put 1 rfl (x := [.int .i64 hd.2, .slice xa i xc]) (by rw [HRl.out]; exact own') hgrow hmov rfl (fun j hj => by have := HSO.out j (.inr hj); omega))
    have HEb := hH (HGa.eff 1 HEa.out hgrow (fun j hj => by have := HSO.out j hj; omega) HbO.out (fun g hg => by
     rintro (h | h)
     ·have := HSn.out g h; have := (HGa.own.lt g hg).1; omega
     ·exact HGa.free g hg h) (.slice va2 (rs.length + 1) vc2))
    have HBb : Hid (Below w.heap.size w (wb.setCell ⟨bS, 1, none⟩ (.slice va2 (rs.length + 1) vc2))) := hH ((HBa.out.grown hgrow HBa.out.size (fun k e => by have := (HGa.own.lt k e).1; omega)).setCell (p := ⟨bS, 1, none⟩) (by show _ ≤ bS; omega) _)
    have hKb := HGa.keepT 1 (U := 3) hgrow (by decide) (by decide) (.slice va2 (rs.length + 1) vc2)
    have HKb := hH (HKa.out.trans hKb)
    have HXb := hH (HXa.out.keep hKb)
    have hgo : ∀ g, (Value.slice va rs.length vc).ownBlock = some g → g < Wb.heap.size := HGo.out
    have z0 := (HPa.grown hgrow (fun e => by have := (HGa.own.lt _ e.symm).1; omega)).cell (j := 0) rfl
    have z1 := (HGa.blk.appended HGa.own HGa.lt hgrow).cell (j := 1) rfl
    have zf := (HGa.blk.appended HGa.own HGa.lt hgrow).frozen 1
    have HRb := HRa.grown hgrow (fun e => by have := hgo _ e.symm; omega)
    have z2 := HRb.cell (j := 0) rfl
    have z3 := HRb.cell (j := 1) rfl
    clear own' hgrow hmov hgo hKb
    clear hHeld
    refine hK.out _ _ ?hS7 (fun hHeld => ?_)
    case hS7 => (intro _; (try dsimp only); exact ⟨z0, z1, z2, z3⟩)
    have hHeld := hHeld rfl
    clear hK K
    (try simp only [td])
    refine takeG 8 (v := ?_) [8, 9, 10] rfl (by kernel_rfl) (by kernel_rfl) (by kernel_rfl) (by kernel_rfl) (by kernel_rfl) (fun _ _ _ h => h) (by rfl) (by assumption) ?hy8 ?_
    case hy8 => (intro w hSw; (try dsimp only at hSw); obtain ⟨z0, z1, z2, z3⟩ := hSw; go_simp; all_goals with_reducible rfl)
    (try simp only [td])
    refine takeG 9 (v := ?_) [9, 10] rfl (by kernel_rfl) (by kernel_rfl) (by kernel_rfl) (by kernel_rfl) (by kernel_rfl) (fun _ _ _ h => h) (by rfl) (by assumption) ?hy9 ?_
    case hy9 => (intro w hSw; (try dsimp only at hSw); obtain ⟨z0, z1, z2, z3⟩ := hSw; go_simp; all_goals with_reducible rfl)
    (try simp only [td])
    refine consG 10 (by kernel_rfl) rfl (by rfl) (fun K hK => ?_)
    go_simp
    clear hHeld
    refine hK.out _ _ (fun h => by cases h) (fun hHeld => ?_)
    clear hK K
    (try simp only [td])
    refine wpAnyG_done (by kernel_rfl) ?_ _
    refine ⟨HEb.out, ⟨rs ++ [(hd.2, .slice xa i xc)], va2, vc2, ?_, ?_⟩, HBb.out⟩
    ·have e : rowE (rs ++ [(hd.2, .slice xa i xc)]) = rowE rs ++ [[.int .i64 hd.2, .slice xa i xc]] := by unfold rowE; simp
     rw [e]; exact HGb.out
    ·rw [Hst.out]
     have h1 := HXb.out
     have e1 : (grp.map (·.1)).length = i := by rw [List.length_map, Hgnl.out]
     exact (HRW.out.keep HKb.out).snoc (hd.2, grp.map (·.1)) _ (by simp only [e1, List.map_map]; exact h1)
 case done =>
  intro O Wd hk hlt hi hD
  obtain ⟨⟨rs, va, vc, hG, hRW⟩, hBd⟩ := hi
  rw [List.take_length] at hRW
  have d1 := (HB1s.out.of_same (hk.same bP HSP.out)).cell (j := 0) rfl
  have HG := hH hG
  have HD := hH hD
  have HBd := hH hBd
  have HRW := hH hRW
  have HC7 := hH (Hc6.out Wd hk)
  clear hG hD hBd hRW hk
  gi_wp2_with fail
  refine ⟨by simp, .inl ⟨_, _, rfl, run_takeDeferred HD.out, ?_⟩⟩
  have hx := Ext.putObj (Nat.le_refl _) HD.out rfl (.deferred none)
  refine ⟨_, results_tmp2 rfl _ _ _, bS, rfl, ⟨_, _, rs, HG.out.blk.ext hx, HC7.out.ext hx, HG.out.slc.ext hx, ?_⟩, hbS1, put_below HBd.out (by have := HBs.out.size; omega) HD.out rfl⟩
  have : setR ps = gs.map rowOf := by unfold setR setG setC; rw [Hgs.out, Hsrt.out]
  rw [this]
  exact HRW.out.keep (KeepT.ext hx)
 case stop => exact fun c k W _ _ _ _ h => h.elim
end Go.Proofs.YthbplhglfjlngaaGreat
namespace Go.Wd
def inR (y hx : Int) (xs : List Int) : List (Int × Int) := (xs.takeWhile fun x => decide (x ≤ hx)).map fun x => (x, y)
def rowNear (lx hx : Int) (r : Int × List Int) : List (Int × Int) := inR r.1 hx (r.2.drop (lowB r.2 lx))
def nearRest (lx hx hy : Int) (rows : List (Int × List Int)) : List (Int × Int) := (rows.takeWhile fun r => decide (r.1 ≤ hy)).flatMap (rowNear lx hx)
def nearB (rows : List (Int × List Int)) (lx ly hx hy : Int) : List (Int × Int) := nearRest lx hx hy (rows.drop (lowB (rows.map (·.1)) ly))
theorem nearRest_nil (lx hx hy : Int) : nearRest lx hx hy [] = [] := rfl
theorem nearRest_stop {lx hx hy : Int} {rows : List (Int × List Int)} {i : Nat} {r : Int × List Int} (h : rows[i]? = some r) (hr : hy < r.1) : nearRest lx hx hy (rows.drop i) = [] := by
 have hl := (List.getElem?_eq_some_iff.1 h).1
 have e : rows.drop i = r :: rows.drop (i + 1) := by rw [List.drop_eq_getElem_cons hl]; congr 1; exact (List.getElem?_eq_some_iff.1 h).2
 unfold nearRest
 rw [e, List.takeWhile_cons, if_neg (by simp; omega)]
 rfl
theorem nearRest_go {lx hx hy : Int} {rows : List (Int × List Int)} {i : Nat} {r : Int × List Int} (h : rows[i]? = some r) (hr : r.1 ≤ hy) : nearRest lx hx hy (rows.drop i) = rowNear lx hx r ++ nearRest lx hx hy (rows.drop (i + 1)) := by
 have hl := (List.getElem?_eq_some_iff.1 h).1
 have e : rows.drop i = r :: rows.drop (i + 1) := by rw [List.drop_eq_getElem_cons hl]; congr 1; exact (List.getElem?_eq_some_iff.1 h).2
 unfold nearRest
 rw [e, List.takeWhile_cons, if_pos (by simpa using hr)]
 rfl
theorem inR_stop {y hx : Int} {xs : List Int} {i : Nat} {x : Int} (h : xs[i]? = some x) (hr : hx < x) : inR y hx (xs.drop i) = [] := by
 have hl := (List.getElem?_eq_some_iff.1 h).1
 have e : xs.drop i = x :: xs.drop (i + 1) := by rw [List.drop_eq_getElem_cons hl]; congr 1; exact (List.getElem?_eq_some_iff.1 h).2
 unfold inR
 rw [e, List.takeWhile_cons, if_neg (by simp; omega)]
 rfl
theorem inR_go {y hx : Int} {xs : List Int} {i : Nat} {x : Int} (h : xs[i]? = some x) (hr : x ≤ hx) : inR y hx (xs.drop i) = (x, y) :: inR y hx (xs.drop (i + 1)) := by
 have hl := (List.getElem?_eq_some_iff.1 h).1
 have e : xs.drop i = x :: xs.drop (i + 1) := by rw [List.drop_eq_getElem_cons hl]; congr 1; exact (List.getElem?_eq_some_iff.1 h).2
 unfold inR
 rw [e, List.takeWhile_cons, if_pos (by simpa using hr)]
 rfl
theorem inR_nil {y hx : Int} {xs : List Int} {i : Nat} (h : xs.length ≤ i) : inR y hx (xs.drop i) = [] := by rw [List.drop_of_length_le h]; rfl
end Go.Wd
namespace Go.Rg
open Go Go.RowKit
section
variable {P : Program} {F : Fence} {n : Nat} {Q : Exit → Act → World → Prop} {a : Act} {w : World} {b : Frame} {k : List Item} {cs : List Frame}
theorem stepR_scope {c : Code} : step P (lone (b.atR a (.code (.scope c) :: k)) cs w) = .next (lone (b.atR a (.code c :: .inScope c :: k)) cs w) :=
 step_lone_go (by simp [stepG, stepG.exec, Frame.atR])
theorem stepR_inScope {c : Code} : step P (lone (b.atR a (.inScope c :: k)) cs w) = .next (lone (b.atR a k) cs w) :=
 step_lone_go (by simp [stepG, stepG.exec, Frame.atR])
theorem wpIn_scope {c : Code} (h : c.wpIn F n P (Exit.noGoto Q) a w) : (Code.scope c).wpIn F n P Q a w := by
 intro b k cs hro hb hr
 have h0 : (lone (b.atR a (.code (.scope c) :: k)) cs w).fenced P F := fenced_calm hb hr rfl
 obtain ⟨e, a₁, w₁, hq, harr⟩ := h b (.inScope c :: k) cs hro hb hr
 cases e with
 | normal => exact ⟨.normal, a₁, w₁, hq, .head h0 stepR_scope (StepsIn.trans harr (.one (fenced_calm hb hr rfl) stepR_inScope))⟩
 | exit id =>
  have hx : exitTo id (.inScope c :: k) = exitTo id k := by simp [exitTo]
  exact ⟨.exit id, a₁, w₁, hq, ArrivesIn.of_steps (.one h0 stepR_scope) ⟨fun k' hk => harr.1 k' (by rw [hx]; exact hk), fun hs hn => harr.2 hs (by rw [hx]; exact hn)⟩⟩
 | goto l => exact hq.elim
 | ret => exact ⟨_, a₁, w₁, hq, .of_steps (.one h0 stepR_scope) harr⟩
 | panic ch => exact ⟨_, a₁, w₁, hq, .of_steps (.one h0 stepR_scope) harr⟩
 | outgrown => exact ⟨_, a₁, w₁, hq, .of_steps (.one h0 stepR_scope) harr⟩
end
end Go.Rg
namespace Go.Proofs.YthbplhglfjlngaaGreat
open Go.RowKit Go.Rg Go.Wd Go.Mg
attribute [local go_sem] Oper.semAt_some
theorem size_int1 : (Tryz.prog.info? 3).map (·.size) = some 1 := by kernel_rfl
set_option maxHeartbeats 4000000 in
theorem near_seq (b1 b2 b3 R : Nat) (lx ly hx hy : Int) (vc vr : Value) (rs : List (Int × Value)) (rows : List (Int × List Int)) (S : Nat → Prop) (w : World)
  (hB1 : Blk w b1 [.pointer (some ⟨R, 0, none⟩)] 30) (hS1 : S b1) (hB2 : Blk w b2 [.int .i64 lx, .int .i64 ly] 23) (hS2 : S b2) (hB3 : Blk w b3 [.int .i64 hx, .int .i64 hy] 23) (hS3 : S b3) (hR : Blk w R [vc, vr] 97) (hSR : S R)
  (hS : ∀ k, S k → k < w.heap.size) (hv : ∀ W, Kept S w W → SlC W vr 2 (rowE rs)) (hl : rs.length = rows.length)
  (hrs : ∀ W, Kept S w W → ∀ (i : Nat) (r : Int × List Int), rows[i]? = some r → ∃ v, rs[i]? = some (r.1, v) ∧ SlC W v 1 (intE r.2)) (hry : Rising (rows.map (·.1))) (hrx : ∀ r ∈ rows, Rising r.2) :
  SeqI Tryz.prog 43 #[.pointer (some ⟨b1, 0, none⟩), .pointer (some ⟨b2, 0, none⟩), .pointer (some ⟨b3, 0, none⟩)] ((nearB rows lx ly hx hy).map fun p => #[pV p.1 p.2]) S w := by
 intro l J Jx W hW hJ hJx hY h0
 have hfst : rs.map (·.1) = rows.map (·.1) := by
  apply List.ext_getElem?
  intro i
  rw [List.getElem?_map, List.getElem?_map]
  cases hr : rows[i]? with
  | none => rw [List.getElem?_eq_none (by have := List.getElem?_eq_none_iff.1 hr; omega)]; rfl
  | some r =>
   obtain ⟨v, h1, _⟩ := hrs w (Kept.refl _ _) i r hr
   rw [h1]; rfl
 obtain ⟨ar, cr, rfl, hn, hcm⟩ := (hv w (Kept.refl _ _)).form
 have hlen : (rowE rs).length = rs.length := by unfold rowE; simp
 rw [hlen] at hn hR hv
 unfold maxLen at hcm
 obtain ⟨n, Hn⟩ : ∃ n, Hid (n = rs.length) := ⟨_, hH rfl⟩
 rw [← Hn.out] at hn hR hv
 obtain ⟨al, Hal⟩ : ∃ l, Hid (l = nearB rows lx ly hx hy) := ⟨_, hH rfl⟩
 rw [← Hal.out] at hY ⊢
 have HLr : Hid (rs.length = rows.length) := hH hl
 have HRs := hH hrs
 have HFst := hH hfst
 have HRy : Hid (Rising (rs.map (·.1))) := hH (hfst ▸ hry)
 have HRx := hH hrx
 have HV := hH hv
 have HY := hH hY
 have HJ := hH hJ
 have HJx := hH hJx
 have H0 := hH h0
 have HK0 := hH hW
 have HS := hH hS
 have HSW : Hid (∀ j, S j → j < W.heap.size) := hH (fun j hj => by have := hS j hj; have := hW.size; omega)
 have HB1 := hH hB1
 have HB2 := hH hB2
 have HB3 := hH hB3
 have HBR := hH hR
 clear hv hY hJ hJx h0 hS hB1 hB2 hB3 hR hlen hl hrs hfst hry hrx
 have B1 := HB1.out.of_same (hW.same b1 hS1)
 have B2 := HB2.out.of_same (hW.same b2 hS2)
 have BR := HBR.out.of_same (hW.same R hSR)
 have HB := Below.refl W.heap.size W
 clear hW
 refine callsIn_of_wp Tryz.func43 rfl trivial ?_ rfl
 simp only [Tryz.ntmps43, List.size_toArray, List.length_cons, List.length_nil, Nat.reduceAdd, Nat.reduceSub, Array.replicate_succ, Array.replicate_zero, List.push_toArray, List.append_toArray, List.nil_append, List.cons_append]
 refine wpIn_scope ?_
 gi_upto_region 0 with (fail)
 refine calm_in (by kernel_rfl) (by rintro ⟨_, _, h⟩; obtain ⟨⟨v, e⟩, _⟩ := h; cases e) (by kernel_rfl) ?_
 refine cN ?_
 refine cX ?_ ?_ (by intro wz hSw; have q0 := c1 (B1.y hSw.1); go_simp; all_goals with_reducible rfl) ?_
 refine cW ?_ ?_ ?_
 refine cW ?_ ?_ ?_
 refine cX ?_ ?_ (by intro wz hSw; obtain ⟨q0, q1⟩ := c2 (BR.y hSw.1); go_simp; all_goals with_reducible rfl) ?_
 refine cW ?_ ?_ ?_
 refine cX ?_ ?_ (by intro wz hSw; obtain ⟨q0, q1⟩ := c2 (B2.y hSw.1); go_simp; all_goals with_reducible rfl) ?_
 refine cW ?_ ?_ ?_
 refine cC ?_ ?_ ?_ ?_ ?hc1_7 ?_
 case hc1_7 => (intro w hSw; exact findRow_any _ rs (rs.map (·.1)) ly (.slice none 0 0) w rfl (HV.out w (HK0.out.trans ((Kept.of_below (Stay.all hSw.1)).mono (fun j hj => HSW.out j hj)))) HRy.out)
 refine cW ?_ ?_ ?_
 refine cW ?_ ?_ ?_
 refine cW ?_ ?_ ?_
 refine cW ?_ ?_ ?_
 refine cW ?_ ?_ ?_
 refine calm_end ?_
 intro w1 hS
 have hS := sO hS
 have B1 := B1.y hS
 have B2 := B2.y hS
 have BR := BR.y hS
 have hz1 : W.heap.size ≤ w1.heap.size := hS.size
 have HB := gS HB hS
 have HE := hH hS.all
 clear hS
 obtain ⟨fr, Hfr⟩ : ∃ f, Hid (f = lowB (rs.map (·.1)) ly) := ⟨_, hH rfl⟩
 obtain ⟨fb, Hfb⟩ : ∃ f, Hid (f = foundB (rs.map (·.1)) ly) := ⟨_, hH rfl⟩
 rw [← Hfr.out, ← Hfb.out]
 have hfrn : fr ≤ n := by rw [Hfr.out, Hn.out]; have := lowB_le (rs.map (·.1)) ly; rwa [List.length_map] at this
 obtain ⟨adr, HA1⟩ : ∃ q : Option Addr, Hid (q = if cr = fr then ar else ar.map (·.add (fr * 2))) := ⟨_, hH rfl⟩
 obtain ⟨m, Hm⟩ : ∃ q, Hid (q = n - fr) := ⟨_, hH rfl⟩
 obtain ⟨cm, Hcm⟩ : ∃ q, Hid (q = cr - fr) := ⟨_, hH rfl⟩
 have HTl : Hid (∀ X, Kept S w X → SlC X (.slice adr m cm) 2 (rowE (rs.drop fr))) := hH (fun X hX => by
  have hl : (rowE rs).length = n := by unfold rowE; rw [List.length_map, Hn.out]
  have := (HV.out X hX).sub fr n hfrn (Nat.le_of_eq hl.symm)
  rw [← HA1.out, ← Hm.out, ← Hcm.out, List.take_of_length_le (Nat.le_of_eq hl)] at this
  unfold rowE at this ⊢
  rwa [List.map_drop])
 have HK1 : Hid (Kept S W w1) := hH ((Kept.of_below HE.out).mono (fun j hj => HSW.out j hj))
 have HJ1 : Hid (J 0 (fun _ => False) w1) := hH (HJ.out _ _ _ _ _ H0.out (Ext.of_below HE.out) (fun _ h => h.elim))
 have HmR : Hid (m = (rows.drop fr).length) := hH (by rw [List.length_drop, ← HLr.out, ← Hn.out, Hm.out])
 have HAl : Hid (al = nearRest lx hx hy (rows.drop fr)) := hH (by rw [Hal.out]; unfold nearB; rw [Hfr.out, HFst.out])
 clear HV
 gi_wp2_with fail
 refine wpIn_label ?_
 gi_upto_region 1 with (fail)
 refine pl_startIn (by rintro ⟨_, _, h⟩; obtain ⟨⟨v, e⟩, _⟩ := h; cases e) (by kernel_rfl) ?_
 refine pl_val (v := ?_) (by rfl) ?hy2_0 ?_
 case hy2_0 => (have q0 := c1 (B1); go_simp; all_goals with_reducible rfl)
 (try simp only [td])
 refine pl_val (v := ?_) (by rfl) ?hy2_1 ?_
 case hy2_1 => (go_simp; all_goals with_reducible rfl)
 (try simp only [td])
 refine pl_val (v := ?_) (by rfl) ?hy2_2 ?_
 case hy2_2 => (go_simp; all_goals with_reducible rfl)
 (try simp only [td])
 refine pl_val (v := ?_) (by rfl) ?hy2_3 ?_
 case hy2_3 => (obtain ⟨q0, q1⟩ := c2 (BR); go_simp; all_goals with_reducible rfl)
 (try simp only [td])
 refine pl_val (v := ?_) (by rfl) ?hy2_4 ?_
 case hy2_4 => (go_simp; all_goals with_reducible rfl)
 (try simp only [td])
 refine pl_val (v := .slice adr m cm) (by rfl) (by rw [HA1.out, Hm.out, Hcm.out]; exact x_tail (k := fr) (E := 103) (sz := 2) rfl (by rfl) (by rfl) hfrn Tryz.underlying95 size_row) ?_
 (try simp only [td])
 refine pl_val (v := ?_) (by rfl) ?hy2_6 ?_
 case hy2_6 => (go_simp; all_goals with_reducible rfl)
 (try simp only [td])
 refine pl_val (v := ?_) (by rfl) ?hy2_7 ?_
 case hy2_7 => (go_simp; all_goals with_reducible rfl)
 (try simp only [td])
 refine pl_end ?_
 have hmb : m ≤ 9223372036854775807 := by rw [Hm.out]; omega
 clear B1 B2 BR HB HA1 Hcm
 gi_wp2_with fail
 gi_loopw [31] (fun p wr => ∃ (i k : Nat) (dn : List (Int × Int)), p = .int .i64 (i : Int) ∧ i ≤ m ∧ Hid (al = dn ++ nearRest lx hx hy ((rows.drop fr).drop i)) ∧ Hid (k = dn.length) ∧ Hid (J k (fun _ => False) wr) ∧ Hid (Kept S W wr))
  (fun p _ => m - (intOf p).toNat)
 case atStart => exact ⟨0, 0, [], by first | rfl | simp, Nat.zero_le _, hH (by rw [HAl.out]; rfl), hH rfl, HJ1, HK1⟩
 case round =>
  obtain ⟨i, k, dn, rfl, him, HD, Hk, Hj, HkW⟩ := hrel
  by_cases hlt : i < m
  ·have t0 : (i : Int) < (m : Int) := by omega
   obtain ⟨r, hr⟩ : ∃ r, (rows.drop fr)[i]? = some r := ⟨_, List.getElem?_eq_getElem (by rw [← HmR.out]; exact hlt)⟩
   have hr' : rows[fr + i]? = some r := by rwa [List.getElem?_drop] at hr
   have HrM := hH (List.mem_of_getElem? hr')
   obtain ⟨xv, hrv, hxv⟩ := HRs.out w (Kept.refl _ _) (fr + i) r hr'
   have HXs : Hid (∀ X, Kept S w X → SlC X xv 1 (intE r.2)) := hH (fun X hX => by
    obtain ⟨v', h1, h2⟩ := HRs.out X hX (fr + i) r hr'
    rw [hrv] at h1; cases h1; exact h2)
   obtain ⟨xa, xc, e, hxn, hxcm⟩ := hxv.form
   subst e
   obtain ⟨xn, Hxn⟩ : ∃ q, Hid (q = (intE r.2).length) := ⟨_, hH rfl⟩
   rw [← Hxn.out] at HXs hxn hrv
   unfold maxLen at hxcm
   have Hxl : Hid (xn = r.2.length) := hH (by rw [Hxn.out]; unfold intE; simp)
   have hrd : (rs.drop fr)[i]? = some (r.1, .slice xa xn xc) := by rw [List.getElem?_drop]; exact hrv
   obtain ⟨g, og, rfl⟩ : ∃ g og, adr = some ⟨g, og, none⟩ := by
    obtain ⟨g, off, e, _⟩ := (HTl.out w (Kept.refl _ _)).elem (rowE_at hrd)
    exact ⟨g, off, e⟩
   have HKw : Hid (Kept S w wr) := hH (HK0.out.trans HkW.out)
   have hel : World.rangeAt wr g (og + i * 2) [.int .i64 r.1, .slice xa xn xc] := by
    obtain ⟨_, _, e, _, h1, _⟩ := (HTl.out wr HKw.out).elem (rowE_at hrd)
    cases e; exact h1
   have y0 : wr.cell? ⟨g, og + i * 2, none⟩ = some (.int .i64 r.1) := hel 0 _ rfl
   have y1 : wr.cell? ⟨g, og + i * 2 + 1, none⟩ = some (.slice xa xn xc) := hel 1 _ rfl
   have Hr := hH hr
   have hszr := HkW.out.size
   obtain ⟨W8, hW8⟩ : ∃ W8, wr.alloc (.cells #[.int .i64 r.1, .slice xa xn xc] 103) = W8 := ⟨_, rfl⟩
   have hb8 : Below wr.heap.size wr W8 := hW8 ▸ (Below.refl _ wr).alloc (Nat.le_refl _) _
   have hB8 : Blk W8 wr.heap.size [.int .i64 r.1, .slice xa xn xc] 103 := hW8 ▸ Blk.new _ _ _
   have HSr : Hid (∀ j, S j → j < wr.heap.size) := hH (fun j hj => by have := HSW.out j hj; omega)
   have HkW8 : Hid (Kept S W W8) := hH (HkW.out.trans ((Kept.of_below hb8).mono (fun j hj => HSr.out j hj)))
   have HK8 : Hid (Kept S w W8) := hH (HK0.out.trans HkW8.out)
   obtain ⟨O, hO⟩ : ∃ O : Nat → Prop, O = fun j => j = wr.heap.size := ⟨_, rfl⟩
   have HO8 : Hid (O wr.heap.size) := hH (by rw [hO])
   have HOe : Hid (∀ j, O j → j = wr.heap.size) := hH (fun j hj => by rw [hO] at hj; exact hj)
   have Hj8 : Hid (J k O W8) := hH (HJ.out _ _ _ _ _ Hj.out (Ext.of_below' hb8 hszr) (fun j hj => .inr (by have := HOe.out j hj; have := hB8.lt; omega)))
   have x3 := (HB3.out.of_same (HK8.out.same b3 hS3)).cell (j := 1) rfl
   have x2 := (HB2.out.of_same (HK8.out.same b2 hS2)).cell (j := 0) rfl
   have c80 := hB8.cell (j := 0) rfl
   have c81 := hB8.cell (j := 1) rfl
   have HB8 := hH hB8
   have hl8 : wr.heap.size < W8.heap.size := hB8.lt
   clear hr hr' hrv hxv hel hrd hO hb8 hB8
   by_cases hcmp : r.1 ≤ hy
   ·have t1 : ¬ hy < r.1 := by omega
    have HD2 : Hid (al = dn ++ (rowNear lx hx r ++ nearRest lx hx hy ((rows.drop fr).drop (i + 1)))) := hH (by rw [HD.out, nearRest_go Hr.out hcmp])
    gi_upto_region 4 with (fail)
    (try rw [hW8])
    clear y0 y1 hW8
    gi_wp2_with fail
    refine (calls_iff.2 (findInt_any _ r.2 lx W8 (HXs.out W8 HK8.out) (HRx.out r HrM.out))).mono ?_
    rintro e w5 ⟨rfl, hb5⟩
    obtain ⟨at', Hat⟩ : ∃ f, Hid (f = lowB r.2 lx) := ⟨_, hH rfl⟩
    obtain ⟨fb2, Hfb2⟩ : ∃ f, Hid (f = foundB r.2 lx) := ⟨_, hH rfl⟩
    rw [← Hat.out, ← Hfb2.out]
    have hatn : at' ≤ xn := by rw [Hat.out, Hxl.out]; exact lowB_le r.2 lx
    obtain ⟨adx, HAx⟩ : ∃ q : Option Addr, Hid (q = if xc = at' then xa else xa.map (·.add (at' * 1))) := ⟨_, hH rfl⟩
    obtain ⟨mx, Hmx⟩ : ∃ q, Hid (q = xn - at') := ⟨_, hH rfl⟩
    obtain ⟨cx, Hcx⟩ : ∃ q, Hid (q = xc - at') := ⟨_, hH rfl⟩
    have hmxb : mx ≤ 9223372036854775807 := by rw [Hmx.out]; omega
    have HTx : Hid (∀ X, Kept S w X → SlC X (.slice adx mx cx) 1 (intE (r.2.drop at'))) := hH (fun X hX => by
     have hl : (intE r.2).length = xn := Hxn.out.symm
     have := (HXs.out X hX).sub at' xn hatn (Nat.le_of_eq hl.symm)
     rw [← HAx.out, ← Hmx.out, ← Hcx.out, List.take_of_length_le (Nat.le_of_eq hl)] at this
     unfold intE at this ⊢
     rwa [List.map_drop])
    have Hml : Hid (mx = (r.2.drop at').length) := hH (by rw [List.length_drop, ← Hxl.out, Hmx.out])
    have hb5' : Below wr.heap.size W8 w5 := hb5.mono (by omega)
    have HkW5 : Hid (Kept S W w5) := hH (HkW8.out.trans ((Kept.of_below hb5').mono (fun j hj => HSr.out j hj)))
    have Hj5 : Hid (J k O w5) := hH (HJ.out _ _ _ _ _ Hj8.out (Ext.of_below' hb5 (by omega)) (fun j hj => .inl hj))
    have B8 := HB8.out.call hb5
    have HB85 := hH B8
    have hz5 : W8.heap.size ≤ w5.heap.size := hb5.size
    have HB := Below.refl w5.heap.size w5
    have HSA : Hid (al = dn ++ (inR r.1 hx ((r.2.drop at').drop 0) ++ nearRest lx hx hy ((rows.drop fr).drop (i + 1)))) := hH (by rw [HD2.out]; unfold rowNear; rw [← Hat.out]; rfl)
    clear hb5 hb5' HXs x2 x3 c80 c81 HD2
    generalize hb8e : wr.heap.size = b8 at *
    gi_upto_region 6 with (fail)
    refine pl_startIn (by rintro ⟨_, _, h⟩; obtain ⟨⟨v, e⟩, _⟩ := h; cases e) (by kernel_rfl) ?_
    refine pl_val (v := ?_) (by rfl) ?hy3_0 ?_
    case hy3_0 => (go_simp; all_goals with_reducible rfl)
    (try simp only [td])
    refine pl_val (v := ?_) (by rfl) ?hy3_1 ?_
    case hy3_1 => (obtain ⟨q0, q1⟩ := c2 (B8); go_simp; all_goals with_reducible rfl)
    (try simp only [td])
    refine pl_val (v := ?_) (by rfl) ?hy3_2 ?_
    case hy3_2 => (go_simp; all_goals with_reducible rfl)
    (try simp only [td])
    refine pl_val (v := .slice adx mx cx) (by rfl) (by rw [HAx.out, Hmx.out, Hcx.out]; exact x_tail (k := at') (E := 3) (sz := 1) rfl (by rfl) (by rfl) hatn Tryz.underlying73 size_int1) ?_
    (try simp only [td])
    refine pl_val (v := ?_) (by rfl) ?hy3_4 ?_
    case hy3_4 => (go_simp; all_goals with_reducible rfl)
    (try simp only [td])
    refine pl_val (v := ?_) (by rfl) ?hy3_5 ?_
    case hy3_5 => (go_simp; all_goals with_reducible rfl)
    (try simp only [td])
    refine pl_end ?_
    clear B8 HB hb8e
    gi_wp2_with fail
    gi_loopw [53] (fun p wq => ∃ (j k2 : Nat) (dn2 : List (Int × Int)), p = .int .i64 (j : Int) ∧ j ≤ mx ∧ Hid (al = dn2 ++ (inR r.1 hx ((r.2.drop at').drop j) ++ nearRest lx hx hy ((rows.drop fr).drop (i + 1)))) ∧ Hid (k2 = dn2.length) ∧ Hid (J k2 O wq) ∧ Hid (Kept (both S O) w5 wq))
     (fun p _ => mx - (intOf p).toNat)
    case atStart => exact ⟨0, k, dn, by first | rfl | simp, Nat.zero_le _, HSA, Hk, Hj5, hH (Kept.refl _ _)⟩
    case round =>
     clear HSA
     obtain ⟨j, k2, dn2, rfl, hjm, HD3, Hk3, Hj3, HkO⟩ := hrel
     have HkWq : Hid (Kept S W wr) := hH (HkW5.out.trans (HkO.out.mono (fun j hj => .inl hj)))
     have hq8 := (HB85.out.of_same (HkO.out.same b8 (.inr HO8.out))).cell (j := 0) rfl
     have HKq : Hid (Kept S w wr) := hH (HK0.out.trans HkWq.out)
     have x4 := (HB3.out.of_same (HKq.out.same b3 hS3)).cell (j := 0) rfl
     have hszq := HkO.out.size
     have HJn : Hid (J k2 (fun _ => False) wr) := hH (HJ.out _ _ _ _ _ Hj3.out (Ext.refl _ _) (fun _ h => h.elim))
     by_cases hjl : j < mx
     ·have t2 : (j : Int) < (mx : Int) := by omega
      obtain ⟨x, hx2⟩ : ∃ x, (r.2.drop at')[j]? = some x := ⟨_, List.getElem?_eq_getElem (by rw [← Hml.out]; exact hjl)⟩
      obtain ⟨gx, ox, rfl⟩ : ∃ g og, adx = some ⟨g, og, none⟩ := by
       obtain ⟨g, off, e, _⟩ := (HTx.out w (Kept.refl _ _)).elem (intE_at hx2)
       exact ⟨g, off, e⟩
      have z0 : wr.cell? ⟨gx, ox + j, none⟩ = some (.int .i64 x) := by
       obtain ⟨_, _, e, _, h1, _⟩ := (HTx.out wr HKq.out).elem (intE_at hx2)
       cases e
       have := h1 0 _ rfl
       simpa using this
      by_cases hxh : x ≤ hx
      ·have t3 : ¬ hx < x := by omega
       have HD4 : Hid (al = dn2 ++ ((x, r.1) :: inR r.1 hx ((r.2.drop at').drop (j + 1)) ++ nearRest lx hx hy ((rows.drop fr).drop (i + 1)))) := hH (by rw [HD3.out, inR_go hx2 hxh])
       have Hat2 : Hid ((al.map fun p => #[pV p.1 p.2])[k2]? = some #[pV x r.1]) := hH (by rw [HD4.out, Hk3.out, List.getElem?_map, List.getElem?_append_right (Nat.le_refl _), Nat.sub_self]; rfl)
       have HYk := hH (HY.out k2 #[pV x r.1] O wr Hat2.out HkWq.out (fun j hj => by have := HOe.out j hj; omega) Hj3.out)
       have hkl : k2 < (al.map fun p => #[pV p.1 p.2]).length := (List.getElem?_eq_some_iff.1 Hat2.out).1
       obtain ⟨fn, tmps, assign, body, hy2, hR⟩ := HYk.out
       have HR := hH hR
       clear hR hx2 hxh Hat2
       gi_wp2_with fail
       refine HR.out.mono ?_
       clear HR hy2 HYk
       rintro e X' (⟨rfl, hj4, hk4⟩ | ⟨rfl, hj4, hk4⟩)
       ·have Hj4 := hH hj4
        have Hk4 : Hid (Kept (both S O) w5 X') := hH (HkO.out.trans hk4.kept)
        clear hj4 hk4
        gi_wp2_with fail
        go_roundw
        case rel => exact ⟨j + 1, k2 + 1, dn2 ++ [(x, r.1)], by first | rfl | simp, hjl, hH (by rw [HD4.out]; simp), hH (by rw [Hk3.out]; simp), Hj4, Hk4⟩
        case measure => simp [intOf]; omega
       ·have Hj4 := hH hj4
        have Hk4 : Hid (Kept S W X') := hH (HkWq.out.trans (hk4.kept.mono (fun j hj => .inl hj)))
        clear hj4 hk4
        gi_wp2_with fail
        (try rw [Exit.noGoto_ret])
        refine bodyPost_ret (results_none rfl _ _ _) rfl ?_
        exact ⟨⟨_, rfl⟩, Hk4.out, .inr ⟨k2 + 1, by omega, by omega, Hj4.out⟩⟩
      ·have t3 : hx < x := by omega
       have HD4 : Hid (al = dn2 ++ nearRest lx hx hy ((rows.drop fr).drop (i + 1))) := hH (by rw [HD3.out, inR_stop hx2 t3]; rfl)
       clear hx2
       gi_wp2_with fail
       go_roundw
       case rel => exact ⟨i + 1, k2, dn2, by first | rfl | simp, hlt, HD4, Hk3, HJn, HkWq⟩
       case measure => simp [intOf]; omega
     ·have t2 : ¬ (j : Int) < (mx : Int) := by omega
      have HD4 : Hid (al = dn2 ++ nearRest lx hx hy ((rows.drop fr).drop (i + 1))) := hH (by rw [HD3.out, inR_nil (by rw [← Hml.out]; omega)]; rfl)
      gi_wp2_with fail
      go_roundw
      case rel => exact ⟨i + 1, k2, dn2, by first | rfl | simp, hlt, HD4, Hk3, HJn, HkWq⟩
      case measure => simp [intOf]; omega
   ·have t1 : hy < r.1 := by omega
    have HE2 : Hid (al = dn) := hH (by rw [HD.out, nearRest_stop Hr.out t1, List.append_nil])
    gi_upto_region 4 with (fail)
    (try rw [hW8])
    clear y0 y1 hW8
    gi_wp2_with fail
    (try rw [Exit.noGoto_normal])
    refine bodyPost_end (results_none rfl _ _ _) rfl ?_
    exact ⟨⟨_, rfl⟩, HkW8.out, .inl ⟨O, fun j hj => by have := HOe.out j hj; omega, by (try rw [List.length_map]); rw [HE2.out, ← Hk.out]; exact Hj8.out⟩⟩
  ·obtain rfl : i = m := by omega
   have HE2 : Hid (al = dn) := hH (by rw [HD.out, HmR.out, List.drop_length, nearRest_nil, List.append_nil])
   gi_wp2_with fail
   (try rw [Exit.noGoto_normal])
   refine bodyPost_end (results_none rfl _ _ _) rfl ?_
   exact ⟨⟨_, rfl⟩, HkW.out, .inl ⟨fun _ => False, fun _ h => h.elim, by (try rw [List.length_map]); rw [HE2.out, ← Hk.out]; exact Hj.out⟩⟩
end Go.Proofs.YthbplhglfjlngaaGreat
