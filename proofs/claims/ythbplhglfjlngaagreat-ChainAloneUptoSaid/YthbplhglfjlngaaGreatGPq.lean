/- gromaref01's more, less: the sum and the difference of two sizes. Printed by wip/genbg.py. -/
import Derived.Test.YthbplhglfjlngaaGreatGPp
import Derived.Deep.OwnRows
set_option linter.unusedVariables false
set_option linter.unusedSimpArgs false
namespace Go.Proofs.YthbplhglfjlngaaGreat
open Go.RowKit Go.Rg Bg
attribute [local go_sem] Oper.semAt_some
set_option maxHeartbeats 2000000 in
theorem more_any (s1 s2 : Value) (l1 l2 : List Nat) (w : World) (h1 : RdN w w.heap.size s1 l1.length (ints l1)) (h2 : RdN w w.heap.size s2 l2.length (ints l2)) (ho1 : ok l1) (ho2 : ok l2) (hl1 : l1.length ≤ 1000) (hl2 : l2.length ≤ 1000) :
  Calls Tryz.prog 99 #[s1, s2] w fun e w' => ∃ v l, e = .returned v ∧ RdN w' w'.heap.size v l.length (ints l) ∧ ok l ∧ l.length ≤ 1001 ∧ val l = val l1 + val l2 ∧ Below w.heap.size w w' := by
 obtain ⟨a1, c1, rfl, p1, p2, p3⟩ := reads_digits h1
 obtain ⟨a2, c2, rfl, q1, q2, q3⟩ := reads_digits h2
 unfold maxLen at p2 q2
 have P3 := hH p3
 have Q3 := hH q3
 obtain ⟨n, hn⟩ : ∃ n, n = l1.length := ⟨_, rfl⟩
 obtain ⟨m, hm⟩ : ∃ m, m = l2.length := ⟨_, rfl⟩
 rw [← hn] at p1 hl1 ⊢
 rw [← hm] at q1 hl2 ⊢
 have Hn := hH hn
 have Hm := hH hm
 have O1 := hH ho1
 have O2 := hH ho2
 clear p3 q3 hn hm ho1 ho2 h1 h2
 obtain ⟨N0, hN0⟩ : ∃ N0, N0 = max n m := ⟨_, rfl⟩
 go_enter Tryz.func99, Tryz.ntmps99
 go_wp2_with fail
 go_loopg [5, 6, 7] N0 (fun q s5 s6 s7 wx => ∃ (i c : Nat) (out : List Nat), i + q = N0 ∧ s7 = .int .i64 (i : Int) ∧ s6 = .int .i64 (c : Int) ∧ c ≤ 1 ∧ out.length = i ∧ Hid (ok out) ∧ Hid (val out + 32768 ^ i * c = val (l1.take i) + val (l2.take i)) ∧ wx.ownsRow w.heap.size 3 1 s5 i (ints out) ∧ Hid (Below w.heap.size w wx))
 case atStart => exact ⟨0, 0, [], by omega, rfl, rfl, by decide, rfl, zero_nil.2, by unfold Hid; simp [val], World.ownsRow_nil _ _ _ _, Below.refl _ _⟩
 case round =>
  obtain ⟨i, c, out, hiq, rfl, rfl, hc1, hlen, Hok, Hv, hown, Hb⟩ := hrel
  obtain ⟨av, capv, rfl⟩ := own_form hown
  have hszr := Hb.out.size
  cases gk with
  | zero =>
   have t1 : ¬ ((i : Int) < (n : Int)) := by omega
   have t2 : ¬ ((i : Int) < (m : Int)) := by omega
   have hi1000 : i ≤ 1000 := by omega
   have HV : Hid (val (out ++ [c]) = val l1 + val l2) := more_end l1 l2 out i c hlen (by rw [← Hn.out]; omega) (by rw [← Hm.out]; omega) Hv.out
   have HO2 : Hid (ok (out ++ [c])) := ok_snoc Hok.out (by omega)
   have Hi : Hid (ints (out ++ [c]) = ints out ++ [.int .i64 (c : Int)]) := ints_snoc _ _
   have Hl2 : Hid ((out ++ [c]).length = i + 1) := by unfold Hid; simp [hlen]
   go_wp2_with (at_builtin; refine wpList_append2 _ rfl _ _ 73 rfl w.heap.size 3 (.int .i64 0) 1 8 Tryz.underlying73 info_int rfl (by decide) (.slice av i capv) i _ rfl (hown.alloc _) _ _ 1 [.int .i64 (c : Int)] rfl (reads_new _ _ _ 1 1 (by decide) (by decide)) rfl ?z2 ?z3 ?z4 ?z5 ?_)
   case z2 => simp [Value.oneCell']
   case z3 => unfold maxLen; omega
   case z4 => omega
   case z5 => first | omega | (simp; omega)
   intro v' w2 hown2 hgrow hmov
   obtain ⟨a2, cap2, rfl⟩ := own_form hown2
   have hb2 : Hid (Below w.heap.size w w2) := (Hb.out.alloc Hb.out.size _).grown hgrow (by simp; omega) (fun j e => (hown.lt j e).1)
   rw [← Hi.out] at hown2
   have Hown := hH hown2
   clear hown2 hgrow hmov hown
   go_wp2_with fail
   go_ret
   exact ⟨_, out ++ [c], rfl, by rw [Hl2.out]; exact RdN.of_own Hown.out, HO2.out, by rw [Hl2.out]; omega, HV.out, hb2.out⟩
  | succ q =>
   have hi1000 : i < 1000 := by omega
   by_cases hi1 : i < n
   ·by_cases hi2 : i < m
    ·obtain ⟨d1, hd1⟩ : ∃ d, l1[i]? = some d := ⟨_, List.getElem?_eq_getElem (by rw [← Hn.out]; exact hi1)⟩
     obtain ⟨g1, o1, rfl, e1⟩ := cell_at (n := n) (cap := c1) P3.out Hb.out i d1 hd1
     have hb1 : d1 < 32768 := O1.out d1 (List.mem_of_getElem? hd1)
     have t1 : (i : Int) < (n : Int) := by omega
     obtain ⟨d2, hd2⟩ : ∃ d, l2[i]? = some d := ⟨_, List.getElem?_eq_getElem (by rw [← Hm.out]; exact hi2)⟩
     obtain ⟨g2, o2, rfl, e2⟩ := cell_at (n := m) (cap := c2) Q3.out Hb.out i d2 hd2
     have hb2 : d2 < 32768 := O2.out d2 (List.mem_of_getElem? hd2)
     have t2 : (i : Int) < (m : Int) := by omega
     have hN : ∃ N, N = c + d1 + d2 := ⟨_, rfl⟩
     obtain ⟨N, hN⟩ := hN
     have HST := hH (more_step l1 l2 out i c N hlen (by rw [hN, hd1, hd2]; rfl) Hv.out)
     have hNb : N < 65536 := by omega
     obtain ⟨R, hR⟩ : ∃ R, R = N % 32768 := ⟨_, rfl⟩
     obtain ⟨C, hC⟩ : ∃ C, C = N / 32768 := ⟨_, rfl⟩
     rw [← hR, ← hC] at HST
     have hR1 : R < 32768 := by omega
     have hC1 : C ≤ 1 := by omega
     have hsum : (c : Int) + (d1 : Int) + (d2 : Int) = (N : Int) := by omega
     have hrem : (N : Int).tmod 32768 = (R : Int) := by rw [hR]; rfl
     have hquo : (N : Int).tdiv 32768 = (C : Int) := by rw [hC]; rfl
     have HO2 : Hid (ok (out ++ [R])) := ok_snoc Hok.out hR1
     have Hi : Hid (ints (out ++ [R]) = ints out ++ [.int .i64 (R : Int)]) := ints_snoc _ _
     have hl2 : (out ++ [R]).length = i + 1 := by simp [hlen]
     have Hl2 := hH hl2
     clear hN hR hC hl2 hd1 hd2
     go_wp2_with (at_builtin; refine wpList_append2 _ rfl _ _ 73 rfl w.heap.size 3 (.int .i64 0) 1 8 Tryz.underlying73 info_int rfl (by decide) (.slice av i capv) i _ rfl (hown.alloc _) _ _ 1 [.int .i64 (R : Int)] rfl (reads_new _ _ _ 1 1 (by decide) (by decide)) rfl ?a2 ?a3 ?a4 ?a5 ?_)
     case a2 => simp [Value.oneCell']
     case a3 => unfold maxLen; omega
     case a4 => omega
     case a5 => first | omega | (simp; omega)
     intro v' w2 hown2 hgrow hmov
     obtain ⟨a2, cap2, rfl⟩ := own_form hown2
     have hb2 : Hid (Below w.heap.size w w2) := (Hb.out.alloc Hb.out.size _).grown hgrow (by simp; omega) (fun j e => (hown.lt j e).1)
     rw [← Hi.out] at hown2
     have Hown := hH hown2
     clear hown2 hgrow hmov hown
     go_wp2_with fail
     go_roundg q
     case measure => omega
     case rel => exact ⟨i + 1, C, out ++ [R], by omega, by first | rfl | simp, rfl, hC1, Hl2.out, HO2, HST, Hown.out, hb2⟩
    ·obtain ⟨d1, hd1⟩ : ∃ d, l1[i]? = some d := ⟨_, List.getElem?_eq_getElem (by rw [← Hn.out]; exact hi1)⟩
     obtain ⟨g1, o1, rfl, e1⟩ := cell_at (n := n) (cap := c1) P3.out Hb.out i d1 hd1
     have hb1 : d1 < 32768 := O1.out d1 (List.mem_of_getElem? hd1)
     have t1 : (i : Int) < (n : Int) := by omega
     have hd2 : l2[i]? = none := List.getElem?_eq_none (by rw [← Hm.out]; omega)
     have t2 : ¬ ((i : Int) < (m : Int)) := by omega
     have hN : ∃ N, N = c + d1 + 0 := ⟨_, rfl⟩
     obtain ⟨N, hN⟩ := hN
     have HST := hH (more_step l1 l2 out i c N hlen (by rw [hN, hd1, hd2]; rfl) Hv.out)
     have hNb : N < 65536 := by omega
     obtain ⟨R, hR⟩ : ∃ R, R = N % 32768 := ⟨_, rfl⟩
     obtain ⟨C, hC⟩ : ∃ C, C = N / 32768 := ⟨_, rfl⟩
     rw [← hR, ← hC] at HST
     have hR1 : R < 32768 := by omega
     have hC1 : C ≤ 1 := by omega
     have hsum : (c : Int) + (d1 : Int) = (N : Int) := by omega
     have hrem : (N : Int).tmod 32768 = (R : Int) := by rw [hR]; rfl
     have hquo : (N : Int).tdiv 32768 = (C : Int) := by rw [hC]; rfl
     have HO2 : Hid (ok (out ++ [R])) := ok_snoc Hok.out hR1
     have Hi : Hid (ints (out ++ [R]) = ints out ++ [.int .i64 (R : Int)]) := ints_snoc _ _
     have hl2 : (out ++ [R]).length = i + 1 := by simp [hlen]
     have Hl2 := hH hl2
     clear hN hR hC hl2 hd1 hd2
     go_wp2_with (at_builtin; refine wpList_append2 _ rfl _ _ 73 rfl w.heap.size 3 (.int .i64 0) 1 8 Tryz.underlying73 info_int rfl (by decide) (.slice av i capv) i _ rfl (hown.alloc _) _ _ 1 [.int .i64 (R : Int)] rfl (reads_new _ _ _ 1 1 (by decide) (by decide)) rfl ?b2 ?b3 ?b4 ?b5 ?_)
     case b2 => simp [Value.oneCell']
     case b3 => unfold maxLen; omega
     case b4 => omega
     case b5 => first | omega | (simp; omega)
     intro v' w2 hown2 hgrow hmov
     obtain ⟨a2, cap2, rfl⟩ := own_form hown2
     have hb2 : Hid (Below w.heap.size w w2) := (Hb.out.alloc Hb.out.size _).grown hgrow (by simp; omega) (fun j e => (hown.lt j e).1)
     rw [← Hi.out] at hown2
     have Hown := hH hown2
     clear hown2 hgrow hmov hown
     go_wp2_with fail
     go_roundg q
     case measure => omega
     case rel => exact ⟨i + 1, C, out ++ [R], by omega, by first | rfl | simp, rfl, hC1, Hl2.out, HO2, HST, Hown.out, hb2⟩
   ·have hi2 : i < m := by omega
    have hd1 : l1[i]? = none := List.getElem?_eq_none (by rw [← Hn.out]; omega)
    have t1 : ¬ ((i : Int) < (n : Int)) := by omega
    obtain ⟨d2, hd2⟩ : ∃ d, l2[i]? = some d := ⟨_, List.getElem?_eq_getElem (by rw [← Hm.out]; exact hi2)⟩
    obtain ⟨g2, o2, rfl, e2⟩ := cell_at (n := m) (cap := c2) Q3.out Hb.out i d2 hd2
    have hb2 : d2 < 32768 := O2.out d2 (List.mem_of_getElem? hd2)
    have t2 : (i : Int) < (m : Int) := by omega
    have hN : ∃ N, N = c + 0 + d2 := ⟨_, rfl⟩
    obtain ⟨N, hN⟩ := hN
    have HST := hH (more_step l1 l2 out i c N hlen (by rw [hN, hd1, hd2]; rfl) Hv.out)
    have hNb : N < 65536 := by omega
    obtain ⟨R, hR⟩ : ∃ R, R = N % 32768 := ⟨_, rfl⟩
    obtain ⟨C, hC⟩ : ∃ C, C = N / 32768 := ⟨_, rfl⟩
    rw [← hR, ← hC] at HST
    have hR1 : R < 32768 := by omega
    have hC1 : C ≤ 1 := by omega
    have hsum : (c : Int) + (d2 : Int) = (N : Int) := by omega
    have hrem : (N : Int).tmod 32768 = (R : Int) := by rw [hR]; rfl
    have hquo : (N : Int).tdiv 32768 = (C : Int) := by rw [hC]; rfl
    have HO2 : Hid (ok (out ++ [R])) := ok_snoc Hok.out hR1
    have Hi : Hid (ints (out ++ [R]) = ints out ++ [.int .i64 (R : Int)]) := ints_snoc _ _
    have hl2 : (out ++ [R]).length = i + 1 := by simp [hlen]
    have Hl2 := hH hl2
    clear hN hR hC hl2 hd1 hd2
    go_wp2_with (at_builtin; refine wpList_append2 _ rfl _ _ 73 rfl w.heap.size 3 (.int .i64 0) 1 8 Tryz.underlying73 info_int rfl (by decide) (.slice av i capv) i _ rfl (hown.alloc _) _ _ 1 [.int .i64 (R : Int)] rfl (reads_new _ _ _ 1 1 (by decide) (by decide)) rfl ?d2 ?d3 ?d4 ?d5 ?_)
    case d2 => simp [Value.oneCell']
    case d3 => unfold maxLen; omega
    case d4 => omega
    case d5 => first | omega | (simp; omega)
    intro v' w2 hown2 hgrow hmov
    obtain ⟨a2, cap2, rfl⟩ := own_form hown2
    have hb2 : Hid (Below w.heap.size w w2) := (Hb.out.alloc Hb.out.size _).grown hgrow (by simp; omega) (fun j e => (hown.lt j e).1)
    rw [← Hi.out] at hown2
    have Hown := hH hown2
    clear hown2 hgrow hmov hown
    go_wp2_with fail
    go_roundg q
    case measure => omega
    case rel => exact ⟨i + 1, C, out ++ [R], by omega, by first | rfl | simp, rfl, hC1, Hl2.out, HO2, HST, Hown.out, hb2⟩
set_option maxHeartbeats 2000000 in
theorem less_any (s1 s2 : Value) (l1 l2 : List Nat) (w : World) (h1 : RdN w w.heap.size s1 l1.length (ints l1)) (h2 : RdN w w.heap.size s2 l2.length (ints l2)) (ho1 : ok l1) (ho2 : ok l2) (hl1 : l1.length ≤ 1000) (hl2 : l2.length ≤ l1.length) (hle : val l2 ≤ val l1) :
  Calls Tryz.prog 100 #[s1, s2] w fun e w' => ∃ v l, e = .returned v ∧ RdN w' w'.heap.size v l.length (ints l) ∧ ok l ∧ l.length ≤ 1001 ∧ val l = val l1 - val l2 ∧ Below w.heap.size w w' := by
 obtain ⟨a1, c1, rfl, p1, p2, p3⟩ := reads_digits h1
 obtain ⟨a2, c2, rfl, q1, q2, q3⟩ := reads_digits h2
 unfold maxLen at p2 q2
 have P3 := hH p3
 have Q3 := hH q3
 obtain ⟨n, hn⟩ : ∃ n, n = l1.length := ⟨_, rfl⟩
 obtain ⟨m, hm⟩ : ∃ m, m = l2.length := ⟨_, rfl⟩
 have HL := hH hl2
 have HLE := hH hle
 clear hle
 rw [← hn] at p1 hl1 hl2 ⊢
 rw [← hm] at q1 hl2 ⊢
 have Hn := hH hn
 have Hm := hH hm
 have O1 := hH ho1
 have O2 := hH ho2
 clear p3 q3 hn hm ho1 ho2 h1 h2
 go_enter Tryz.func100, Tryz.ntmps100
 go_wp2_with fail
 go_loopg [5, 6, 7] n (fun q s5 s6 s7 wx => ∃ (i c : Nat) (out : List Nat), i + q = n ∧ s7 = .int .i64 (i : Int) ∧ s6 = .int .i64 (c : Int) ∧ c ≤ 1 ∧ out.length = i ∧ Hid (ok out) ∧ Hid (val out + val (l2.take i) = val (l1.take i) + 32768 ^ i * c) ∧ wx.ownsRow w.heap.size 3 1 s5 i (ints out) ∧ Hid (Below w.heap.size w wx))
 case atStart => exact ⟨0, 0, [], by omega, rfl, rfl, by decide, rfl, zero_nil.2, by unfold Hid; simp [val], World.ownsRow_nil _ _ _ _, Below.refl _ _⟩
 case round =>
  obtain ⟨i, c, out, hiq, rfl, rfl, hc1, hlen, Hok, Hv, hown, Hb⟩ := hrel
  obtain ⟨av, capv, rfl⟩ := own_form hown
  have hszr := Hb.out.size
  cases gk with
  | zero =>
   have t1 : ¬ ((i : Int) < (n : Int)) := by omega
   have hin : i = n := by omega
   have HV : Hid (val out = val l1 - val l2) := less_end l1 l2 out c (by rw [hlen, hin]; exact Hn.out) Hok.out HL.out HLE.out (by have := Hv.out; rw [hin, Hn.out] at this; exact this)
   have Hown := hH (RdN.of_own hown)
   have Hl := hH hlen
   clear hown hlen hin
   go_wp2_with fail
   go_ret
   first | exact ⟨_, out, rfl, by rw [Hl.out]; exact Hown.out, Hok.out, by rw [Hl.out]; omega, HV.out, Hb.out⟩ | exact ⟨_, rfl, out, by rw [Hl.out]; exact Hown.out, Hok.out, by rw [Hl.out]; omega, HV.out, Hb.out⟩
  | succ q =>
   have hi1000 : i < 1000 := by omega
   by_cases hi2 : i < m
   ·obtain ⟨d2, hd2⟩ : ∃ d, l2[i]? = some d := ⟨_, List.getElem?_eq_getElem (by rw [← Hm.out]; exact hi2)⟩
    obtain ⟨g2, o2, rfl, e2⟩ := cell_at (n := m) (cap := c2) Q3.out Hb.out i d2 hd2
    have hb2 : d2 < 32768 := O2.out d2 (List.mem_of_getElem? hd2)
    have t2 : (i : Int) < (m : Int) := by omega
    obtain ⟨d1, hd1⟩ : ∃ d, l1[i]? = some d := ⟨_, List.getElem?_eq_getElem (by rw [← Hn.out]; omega)⟩
    obtain ⟨g1, o1, rfl, e1⟩ := cell_at (n := n) (cap := c1) P3.out Hb.out i d1 hd1
    have hb1 : d1 < 32768 := O1.out d1 (List.mem_of_getElem? hd1)
    have t1 : (i : Int) < (n : Int) := by omega
    have d1b : (d1 : Int) - (c : Int) ≥ -1 := by omega
    by_cases hp : c + d2 ≤ d1
    ·obtain ⟨R, hR⟩ : ∃ R, d1 = R + c + d2 := ⟨d1 - c - d2, by omega⟩
     have HST := hH (less_step l1 l2 out i c R 0 hlen Hv.out (by rw [hd1, hd2]; show d1 + 32768 * 0 = R + c + d2; omega))
     have hsum : (d1 : Int) - (c : Int) - (d2 : Int) = (R : Int) := by omega
     have hnn : ¬ ((R : Int) < 0) := by omega
     have hR1 : R < 32768 := by omega
     have HO2 : Hid (ok (out ++ [R])) := ok_snoc Hok.out hR1
     have Hi : Hid (ints (out ++ [R]) = ints out ++ [.int .i64 (R : Int)]) := ints_snoc _ _
     have Hl2 : Hid ((out ++ [R]).length = i + 1) := by unfold Hid; simp [hlen]
     clear hR hd1 hd2
     go_wp2_with (at_builtin; refine wpList_append2 _ rfl _ _ 73 rfl w.heap.size 3 (.int .i64 0) 1 8 Tryz.underlying73 info_int rfl (by decide) (.slice av i capv) i _ rfl (hown.alloc _) _ _ 1 [.int .i64 (R : Int)] rfl (reads_new _ _ _ 1 1 (by decide) (by decide)) rfl ?a2 ?a3 ?a4 ?a5 ?_)
     case a2 => simp [Value.oneCell']
     case a3 => unfold maxLen; omega
     case a4 => omega
     case a5 => first | omega | (simp; omega)
     intro v' w2 hown2 hgrow hmov
     obtain ⟨a2, cap2, rfl⟩ := own_form hown2
     have hb2 : Hid (Below w.heap.size w w2) := (Hb.out.alloc Hb.out.size _).grown hgrow (by simp; omega) (fun j e => (hown.lt j e).1)
     rw [← Hi.out] at hown2
     have Hown := hH hown2
     clear hown2 hgrow hmov hown
     go_wp2_with fail
     go_roundg q
     case measure => omega
     case rel => exact ⟨i + 1, 0, out ++ [R], by omega, by first | rfl | simp, rfl, by decide, Hl2.out, HO2, HST, Hown.out, hb2⟩
    ·obtain ⟨R, hR⟩ : ∃ R, d1 + 32768 = R + c + d2 := ⟨d1 + 32768 - c - d2, by omega⟩
     have HST := hH (less_step l1 l2 out i c R 1 hlen Hv.out (by rw [hd1, hd2]; show d1 + 32768 * 1 = R + c + d2; omega))
     have hsum : (d1 : Int) - (c : Int) - (d2 : Int) = (R : Int) - 32768 := by omega
     have hnn : (R : Int) - 32768 < 0 := by omega
     have hnn2 : (R : Int) < 32768 := by omega
     have hR1 : R < 32768 := by omega
     have HO2 : Hid (ok (out ++ [R])) := ok_snoc Hok.out hR1
     have Hi : Hid (ints (out ++ [R]) = ints out ++ [.int .i64 (R : Int)]) := ints_snoc _ _
     have Hl2 : Hid ((out ++ [R]).length = i + 1) := by unfold Hid; simp [hlen]
     clear hR hd1 hd2
     go_wp2_with (at_builtin; refine wpList_append2 _ rfl _ _ 73 rfl w.heap.size 3 (.int .i64 0) 1 8 Tryz.underlying73 info_int rfl (by decide) (.slice av i capv) i _ rfl (hown.alloc _) _ _ 1 [.int .i64 (R : Int)] rfl (reads_new _ _ _ 1 1 (by decide) (by decide)) rfl ?an2 ?an3 ?an4 ?an5 ?_)
     case an2 => simp [Value.oneCell']
     case an3 => unfold maxLen; omega
     case an4 => omega
     case an5 => first | omega | (simp; omega)
     intro v' w2 hown2 hgrow hmov
     obtain ⟨a2, cap2, rfl⟩ := own_form hown2
     have hb2 : Hid (Below w.heap.size w w2) := (Hb.out.alloc Hb.out.size _).grown hgrow (by simp; omega) (fun j e => (hown.lt j e).1)
     rw [← Hi.out] at hown2
     have Hown := hH hown2
     clear hown2 hgrow hmov hown
     go_wp2_with fail
     go_roundg q
     case measure => omega
     case rel => exact ⟨i + 1, 1, out ++ [R], by omega, by first | rfl | simp, rfl, by decide, Hl2.out, HO2, HST, Hown.out, hb2⟩
   ·have hd2 : l2[i]? = none := List.getElem?_eq_none (by rw [← Hm.out]; omega)
    have t2 : ¬ ((i : Int) < (m : Int)) := by omega
    obtain ⟨d1, hd1⟩ : ∃ d, l1[i]? = some d := ⟨_, List.getElem?_eq_getElem (by rw [← Hn.out]; omega)⟩
    obtain ⟨g1, o1, rfl, e1⟩ := cell_at (n := n) (cap := c1) P3.out Hb.out i d1 hd1
    have hb1 : d1 < 32768 := O1.out d1 (List.mem_of_getElem? hd1)
    have t1 : (i : Int) < (n : Int) := by omega
    have d1b : (d1 : Int) - (c : Int) ≥ -1 := by omega
    by_cases hp : c + 0 ≤ d1
    ·obtain ⟨R, hR⟩ : ∃ R, d1 = R + c + 0 := ⟨d1 - c - 0, by omega⟩
     have HST := hH (less_step l1 l2 out i c R 0 hlen Hv.out (by rw [hd1, hd2]; show d1 + 32768 * 0 = R + c + 0; omega))
     have hsum : (d1 : Int) - (c : Int) = (R : Int) := by omega
     have hnn : ¬ ((R : Int) < 0) := by omega
     have hR1 : R < 32768 := by omega
     have HO2 : Hid (ok (out ++ [R])) := ok_snoc Hok.out hR1
     have Hi : Hid (ints (out ++ [R]) = ints out ++ [.int .i64 (R : Int)]) := ints_snoc _ _
     have Hl2 : Hid ((out ++ [R]).length = i + 1) := by unfold Hid; simp [hlen]
     clear hR hd1 hd2
     go_wp2_with (at_builtin; refine wpList_append2 _ rfl _ _ 73 rfl w.heap.size 3 (.int .i64 0) 1 8 Tryz.underlying73 info_int rfl (by decide) (.slice av i capv) i _ rfl (hown.alloc _) _ _ 1 [.int .i64 (R : Int)] rfl (reads_new _ _ _ 1 1 (by decide) (by decide)) rfl ?d2 ?d3 ?d4 ?d5 ?_)
     case d2 => simp [Value.oneCell']
     case d3 => unfold maxLen; omega
     case d4 => omega
     case d5 => first | omega | (simp; omega)
     intro v' w2 hown2 hgrow hmov
     obtain ⟨a2, cap2, rfl⟩ := own_form hown2
     have hb2 : Hid (Below w.heap.size w w2) := (Hb.out.alloc Hb.out.size _).grown hgrow (by simp; omega) (fun j e => (hown.lt j e).1)
     rw [← Hi.out] at hown2
     have Hown := hH hown2
     clear hown2 hgrow hmov hown
     go_wp2_with fail
     go_roundg q
     case measure => omega
     case rel => exact ⟨i + 1, 0, out ++ [R], by omega, by first | rfl | simp, rfl, by decide, Hl2.out, HO2, HST, Hown.out, hb2⟩
    ·obtain ⟨R, hR⟩ : ∃ R, d1 + 32768 = R + c + 0 := ⟨d1 + 32768 - c - 0, by omega⟩
     have HST := hH (less_step l1 l2 out i c R 1 hlen Hv.out (by rw [hd1, hd2]; show d1 + 32768 * 1 = R + c + 0; omega))
     have hsum : (d1 : Int) - (c : Int) = (R : Int) - 32768 := by omega
     have hnn : (R : Int) - 32768 < 0 := by omega
     have hnn2 : (R : Int) < 32768 := by omega
     have hR1 : R < 32768 := by omega
     have HO2 : Hid (ok (out ++ [R])) := ok_snoc Hok.out hR1
     have Hi : Hid (ints (out ++ [R]) = ints out ++ [.int .i64 (R : Int)]) := ints_snoc _ _
     have Hl2 : Hid ((out ++ [R]).length = i + 1) := by unfold Hid; simp [hlen]
     clear hR hd1 hd2
     go_wp2_with (at_builtin; refine wpList_append2 _ rfl _ _ 73 rfl w.heap.size 3 (.int .i64 0) 1 8 Tryz.underlying73 info_int rfl (by decide) (.slice av i capv) i _ rfl (hown.alloc _) _ _ 1 [.int .i64 (R : Int)] rfl (reads_new _ _ _ 1 1 (by decide) (by decide)) rfl ?dn2 ?dn3 ?dn4 ?dn5 ?_)
     case dn2 => simp [Value.oneCell']
     case dn3 => unfold maxLen; omega
     case dn4 => omega
     case dn5 => first | omega | (simp; omega)
     intro v' w2 hown2 hgrow hmov
     obtain ⟨a2, cap2, rfl⟩ := own_form hown2
     have hb2 : Hid (Below w.heap.size w w2) := (Hb.out.alloc Hb.out.size _).grown hgrow (by simp; omega) (fun j e => (hown.lt j e).1)
     rw [← Hi.out] at hown2
     have Hown := hH hown2
     clear hown2 hgrow hmov hown
     go_wp2_with fail
     go_roundg q
     case measure => omega
     case rel => exact ⟨i + 1, 1, out ++ [R], by omega, by first | rfl | simp, rfl, by decide, Hl2.out, HO2, HST, Hown.out, hb2⟩
end Go.Proofs.YthbplhglfjlngaaGreat
namespace Go.Proofs.YthbplhglfjlngaaGreat
open Go.RowKit Go.Rg Bg
attribute [local go_sem] Oper.semAt_some
theorem keepc {w wx : World} {g o : Nat} {v : Value} (hb : Below w.heap.size w wx) (hg : g < w.heap.size) (h : w.cell? ⟨g, o, none⟩ = some v) : wx.cell? ⟨g, o, none⟩ = some v := (hb.cell (p := ⟨g, o, none⟩) hg).trans h
theorem keeps2 {w : World} {q b i : Nat} {v x y : Value} (hne : q ≠ b) (h : w.cell? ⟨q, i, none⟩ = some v) : ((w.setCell ⟨b, 0, none⟩ x).setCell ⟨b, 1, none⟩ y).cell? ⟨q, i, none⟩ = some v := by
 rw [World.cell?_setCell_other (h := fun e => hne (congrArg Addr.block e).symm), World.cell?_setCell_other (h := fun e => hne (congrArg Addr.block e).symm)]; exact h
theorem add_same (n : Bool) (a b : Nat) : sgn n a + sgn n b = sgn n (a + b) := by unfold sgn; cases n <;> simp <;> omega
theorem add_first (n1 n2 : Bool) (a b : Nat) (h : n1 ≠ n2) (hle : b ≤ a) : sgn n1 a + sgn n2 b = sgn n1 (a - b) := by unfold sgn; cases n1 <;> cases n2 <;> simp at h ⊢ <;> omega
theorem add_second (n1 n2 : Bool) (a b : Nat) (h : n1 ≠ n2) (hle : a ≤ b) : sgn n1 a + sgn n2 b = sgn n2 (b - a) := by unfold sgn; cases n1 <;> cases n2 <;> simp at h ⊢ <;> omega
theorem len_of_le {a b : List Nat} (ha : ok a) (hb : nz b) (h : val b ≤ val a) : b.length ≤ a.length := by
 rcases Nat.lt_or_ge a.length b.length with h1 | h1
 ·have := shorter ha hb h1; omega
 ·exact h1
theorem cmpN_ge (a b : Nat) : (0 ≤ cmpN a b) ↔ b ≤ a := by
 unfold cmpN
 split
 ·constructor
  ·intro h; omega
  ·intro h; omega
 ·split <;> constructor <;> intro h <;> omega
set_option maxHeartbeats 4000000 in
theorem add_any (v1 v2 : Value) (x y : Int) (w : World) (b1 : Big w v1 x) (b2 : Big w v2 y) (hx : x.natAbs < lim) (hy : y.natAbs < lim) :
  Calls Tryz.prog 82 #[v1, v2] w fun e w' => ∃ v, e = .returned v ∧ Big w' v (x + y) ∧ Below w.heap.size w w' := by
 obtain ⟨n1, l1, ⟨s1, rfl, r1⟩, o1, z1, m1, e1, q1⟩ := b1.small hx
 obtain ⟨n2, l2, ⟨s2, rfl, r2⟩, o2, z2, m2, e2, q2⟩ := b2.small hy
 obtain ⟨a1, c1, rfl, _⟩ := reads_digits r1
 obtain ⟨a2, c2, rfl, _⟩ := reads_digits r2
 have R1 := hH r1
 have R2 := hH r2
 have O1 := hH o1
 have O2 := hH o2
 have Z1 := hH z1
 have Z2 := hH z2
 have E1 := hH e1
 have E2 := hH e2
 obtain ⟨k1, hk1⟩ : ∃ k, k = l1.length := ⟨_, rfl⟩
 obtain ⟨k2, hk2⟩ : ∃ k, k = l2.length := ⟨_, rfl⟩
 rw [← hk1] at q1 ⊢
 rw [← hk2] at q2 ⊢
 have K1 := hH hk1
 have K2 := hH hk2
 clear r1 r2 o1 o2 z1 z2 m1 m2 e1 e2 hk1 hk2 hx hy
 have HSz : Hid (∀ X, Below w.heap.size w X → Calls Tryz.prog 96 #[.slice a1 k1 c1, .slice a2 k2 c2] X fun e X' => e = .returned (.int .i64 (cmpN (val l1) (val l2))) ∧ Below X.heap.size X X') := fun X hX => by
  rw [K1.out, K2.out]
  exact sizes_any _ _ l1 l2 X ((R1.out.below hX).mono hX.size) ((R2.out.below hX).mono hX.size) O1.out O2.out Z1.out Z2.out (by rw [← K1.out]; omega) (by rw [← K2.out]; omega)
 have HMore : Hid (∀ X, Below w.heap.size w X → Calls Tryz.prog 99 #[.slice a1 k1 c1, .slice a2 k2 c2] X fun e X' => ∃ v l, e = .returned v ∧ RdN X' X'.heap.size v l.length (ints l) ∧ ok l ∧ l.length ≤ 1001 ∧ val l = val l1 + val l2 ∧ Below X.heap.size X X') := fun X hX => by
  rw [K1.out, K2.out]
  exact more_any _ _ l1 l2 X ((R1.out.below hX).mono hX.size) ((R2.out.below hX).mono hX.size) O1.out O2.out (by rw [← K1.out]; omega) (by rw [← K2.out]; omega)
 have HL1 : Hid (val l2 ≤ val l1 → ∀ X, Below w.heap.size w X → Calls Tryz.prog 100 #[.slice a1 k1 c1, .slice a2 k2 c2] X fun e X' => ∃ v l, e = .returned v ∧ RdN X' X'.heap.size v l.length (ints l) ∧ ok l ∧ l.length ≤ 1001 ∧ val l = val l1 - val l2 ∧ Below X.heap.size X X') := fun hle X hX => by
  rw [K1.out, K2.out]
  exact less_any _ _ l1 l2 X ((R1.out.below hX).mono hX.size) ((R2.out.below hX).mono hX.size) O1.out O2.out (by rw [← K1.out]; omega) (len_of_le O1.out Z2.out hle) hle
 have HL2 : Hid (val l1 ≤ val l2 → ∀ X, Below w.heap.size w X → Calls Tryz.prog 100 #[.slice a2 k2 c2, .slice a1 k1 c1] X fun e X' => ∃ v l, e = .returned v ∧ RdN X' X'.heap.size v l.length (ints l) ∧ ok l ∧ l.length ≤ 1001 ∧ val l = val l2 - val l1 ∧ Below X.heap.size X X') := fun hle X hX => by
  rw [K1.out, K2.out]
  exact less_any _ _ l2 l1 X ((R2.out.below hX).mono hX.size) ((R1.out.below hX).mono hX.size) O2.out O1.out (by rw [← K2.out]; omega) (len_of_le O2.out Z1.out hle) hle
 by_cases hnn : n1 = n2
 ·have HV : Hid (x + y = sgn n1 (val l1 + val l2)) := by unfold Hid; rw [E1.out, E2.out, ← hnn, add_same]
  have hnb : (n1 == n2) = true := by rw [hnn]; exact beq_self_eq_true _
  clear hnn
  go_enter Tryz.func82, Tryz.ntmps82
  go_wp2_with fail
  obtain ⟨W, hW⟩ : ∃ W, ([.cells #[.bool n1, .slice a1 k1 c1] 75, .cells #[.bool n2, .slice a2 k2 c2] 75, .cells #[.bool false, .slice none 0 0] 75] : List Obj).foldl World.alloc w = W := ⟨_, rfl⟩
  have hB1 : Blk W (w.heap.size + 0) [.bool n1, .slice a1 k1 c1] 75 := Blk.allocs _ hW 0 rfl
  have hB2 : Blk W (w.heap.size + 1) [.bool n2, .slice a2 k2 c2] 75 := Blk.allocs _ hW 1 rfl
  have hB3 : Blk W (w.heap.size + 2) [.bool false, .slice none 0 0] 75 := Blk.allocs _ hW 2 rfl
  have hBw : Below w.heap.size w W := hW ▸ allocs_below _ w
  have hsz : w.heap.size + 2 < W.heap.size := hB3.lt
  simp only [List.foldl_cons, List.foldl_nil] at hW
  rw [hW]
  clear hW
  have x0 := hB1.cell (j := 0) rfl
  have x1 := hB1.cell (j := 1) rfl
  have y0 := hB2.cell (j := 0) rfl
  have y1 := hB2.cell (j := 1) rfl
  simp only [Nat.add_zero] at x0 x1
  have HB3 := hH hB3
  have HBw := hH hBw
  clear hB1 hB2 hB3 hBw
  have hS3 : ∀ X : World, Below w.heap.size w X → Big X (.agg #[.bool false, .slice none 0 0]) 0 := fun X _ => big_zero X
  clear hS3
  go_wp2_with fail
  go_region_held3 (fun w' => w'.cell? ⟨w.heap.size, 0, none⟩ = some (.bool n1) ∧ w'.cell? ⟨w.heap.size, 1, none⟩ = some (.slice a1 k1 c1) ∧ w'.cell? ⟨w.heap.size + 1, 0, none⟩ = some (.bool n2) ∧ w'.cell? ⟨w.heap.size + 1, 1, none⟩ = some (.slice a2 k2 c2))
   (first | exact ⟨x0, x1, y0, y1⟩ | exact ⟨X0, X1, Y0, Y1⟩ | exact ⟨XX0, XX1, YY0, YY1⟩ | exact ⟨keeps2 (by omega) XX0, keeps2 (by omega) XX1, keeps2 (by omega) YY0, keeps2 (by omega) YY1⟩ | go_keep)
   ((first
    | (go_at_call 99; refine (HMore.out _ (HBw.out.drew)).mono ?_; rintro e w5 ⟨v5, l5, rfl, r5, o5, k5, e5, hb5⟩; obtain ⟨a5, c5, rfl, _⟩ := reads_digits r5; have X0 := keepc hb5 (by show _ < W.heap.size; omega) x0; have X1 := keepc hb5 (by show _ < W.heap.size; omega) x1; have Y0 := keepc hb5 (by show _ < W.heap.size; omega) y0; have Y1 := keepc hb5 (by show _ < W.heap.size; omega) y1; have HB5 := hH ((show Blk W.drew _ _ _ from HB3.out).call hb5); have Hb5 := hH ((HBw.out.drew).trans (hb5.mono HBw.out.size)); have hz5 : W.heap.size ≤ w5.heap.size := hb5.size; clear hb5)
    | (go_at_call 98; refine (trim_any n1 _ l5 _ r5 o5 (by omega)).mono ?_; rintro e w6 ⟨v6, rfl, H6, hb6⟩; have XX0 := keepc hb6 (by omega) X0; have XX1 := keepc hb6 (by omega) X1; have YY0 := keepc hb6 (by omega) Y0; have YY1 := keepc hb6 (by omega) Y1; rw [e5] at H6; obtain ⟨n6, a6, m6, c6, rfl, b0, b1, bf, z0, z1, HH, Hbp⟩ := H6.ends (HB5.out.call hb6) (Hb5.out.trans (hb6.mono Hb5.out.size)) (by omega); clear hb6)))
  go_wp2_with fail
  refine bodyPost_ret (v := .agg #[.bool n6, .slice a6 m6 c6]) (by simp [results, Tryz.results82, go_sem, *]) rfl ⟨_, rfl, ?_, Hbp.out⟩
  rw [HV.out]
  exact HH.out
 ·have hnb : (n1 == n2) = false := by rw [beq_eq_false_iff_ne]; exact hnn
  have Hnn := hH hnn
  clear hnn
  by_cases hc : val l2 ≤ val l1
  ·have HV : Hid (x + y = sgn n1 (val l1 - val l2)) := by unfold Hid; rw [E1.out, E2.out, add_first _ _ _ _ Hnn.out hc]
   have hc2 : 0 ≤ cmpN (val l1) (val l2) := (cmpN_ge _ _).2 hc
   have HM := hH (HL1.out hc)
   clear hc
   generalize cmpN (val l1) (val l2) = R at *
   go_enter Tryz.func82, Tryz.ntmps82
   go_wp2_with fail
   obtain ⟨W, hW⟩ : ∃ W, ([.cells #[.bool n1, .slice a1 k1 c1] 75, .cells #[.bool n2, .slice a2 k2 c2] 75, .cells #[.bool false, .slice none 0 0] 75] : List Obj).foldl World.alloc w = W := ⟨_, rfl⟩
   have hB1 : Blk W (w.heap.size + 0) [.bool n1, .slice a1 k1 c1] 75 := Blk.allocs _ hW 0 rfl
   have hB2 : Blk W (w.heap.size + 1) [.bool n2, .slice a2 k2 c2] 75 := Blk.allocs _ hW 1 rfl
   have hB3 : Blk W (w.heap.size + 2) [.bool false, .slice none 0 0] 75 := Blk.allocs _ hW 2 rfl
   have hBw : Below w.heap.size w W := hW ▸ allocs_below _ w
   have hsz : w.heap.size + 2 < W.heap.size := hB3.lt
   simp only [List.foldl_cons, List.foldl_nil] at hW
   rw [hW]
   clear hW
   have x0 := hB1.cell (j := 0) rfl
   have x1 := hB1.cell (j := 1) rfl
   have y0 := hB2.cell (j := 0) rfl
   have y1 := hB2.cell (j := 1) rfl
   simp only [Nat.add_zero] at x0 x1
   have HB3 := hH hB3
   have HBw := hH hBw
   clear hB1 hB2 hB3 hBw
   refine (HSz.out _ HBw.out).mono ?_
   rintro e W1 ⟨rfl, hb1⟩
   have x0 := keepc hb1 (by omega) x0
   have x1 := keepc hb1 (by omega) x1
   have y0 := keepc hb1 (by omega) y0
   have y1 := keepc hb1 (by omega) y1
   have HB3 := hH (HB3.out.call hb1)
   have HBw := hH (HBw.out.trans (hb1.mono HBw.out.size))
   have hsz : w.heap.size + 2 < W1.heap.size := HB3.out.lt
   clear hb1
   have hS3 : ∀ X : World, Below w.heap.size w X → Big X (.agg #[.bool false, .slice none 0 0]) 0 := fun X _ => big_zero X
   clear hS3
   go_wp2_with fail
   go_region_held3 (fun w' => w'.cell? ⟨w.heap.size, 0, none⟩ = some (.bool n1) ∧ w'.cell? ⟨w.heap.size, 1, none⟩ = some (.slice a1 k1 c1) ∧ w'.cell? ⟨w.heap.size + 1, 0, none⟩ = some (.bool n2) ∧ w'.cell? ⟨w.heap.size + 1, 1, none⟩ = some (.slice a2 k2 c2))
    (first | exact ⟨x0, x1, y0, y1⟩ | exact ⟨X0, X1, Y0, Y1⟩ | exact ⟨XX0, XX1, YY0, YY1⟩ | exact ⟨keeps2 (by omega) XX0, keeps2 (by omega) XX1, keeps2 (by omega) YY0, keeps2 (by omega) YY1⟩ | go_keep)
    ((first
     | (go_at_call 100; refine (HM.out _ (HBw.out.drew)).mono ?_; rintro e w5 ⟨v5, l5, rfl, r5, o5, k5, e5, hb5⟩; obtain ⟨a5, c5, rfl, _⟩ := reads_digits r5; have X0 := keepc hb5 (by show _ < W1.heap.size; omega) x0; have X1 := keepc hb5 (by show _ < W1.heap.size; omega) x1; have Y0 := keepc hb5 (by show _ < W1.heap.size; omega) y0; have Y1 := keepc hb5 (by show _ < W1.heap.size; omega) y1; have HB5 := hH ((show Blk W1.drew _ _ _ from HB3.out).call hb5); have Hb5 := hH ((HBw.out.drew).trans (hb5.mono HBw.out.size)); have hz5 : W1.heap.size ≤ w5.heap.size := hb5.size; clear hb5)
     | (go_at_call 98; refine (trim_any n1 _ l5 _ r5 o5 (by omega)).mono ?_; rintro e w6 ⟨v6, rfl, H6, hb6⟩; have XX0 := keepc hb6 (by omega) X0; have XX1 := keepc hb6 (by omega) X1; have YY0 := keepc hb6 (by omega) Y0; have YY1 := keepc hb6 (by omega) Y1; rw [e5] at H6; obtain ⟨n6, a6, m6, c6, rfl, b0, b1, bf, z0, z1, HH, Hbp⟩ := H6.ends (HB5.out.call hb6) (Hb5.out.trans (hb6.mono Hb5.out.size)) (by omega); clear hb6)))
   go_wp2_with fail
   refine bodyPost_ret (v := .agg #[.bool n6, .slice a6 m6 c6]) (by simp [results, Tryz.results82, go_sem, *]) rfl ⟨_, rfl, ?_, Hbp.out⟩
   rw [HV.out]
   exact HH.out
  ·have hc' : val l1 ≤ val l2 := by omega
   have HV : Hid (x + y = sgn n2 (val l2 - val l1)) := by unfold Hid; rw [E1.out, E2.out, add_second _ _ _ _ Hnn.out hc']
   have hc2 : ¬ (0 ≤ cmpN (val l1) (val l2)) := fun h => hc ((cmpN_ge _ _).1 h)
   have HM := hH (HL2.out hc')
   clear hc hc'
   generalize cmpN (val l1) (val l2) = R at *
   go_enter Tryz.func82, Tryz.ntmps82
   go_wp2_with fail
   obtain ⟨W, hW⟩ : ∃ W, ([.cells #[.bool n1, .slice a1 k1 c1] 75, .cells #[.bool n2, .slice a2 k2 c2] 75, .cells #[.bool false, .slice none 0 0] 75] : List Obj).foldl World.alloc w = W := ⟨_, rfl⟩
   have hB1 : Blk W (w.heap.size + 0) [.bool n1, .slice a1 k1 c1] 75 := Blk.allocs _ hW 0 rfl
   have hB2 : Blk W (w.heap.size + 1) [.bool n2, .slice a2 k2 c2] 75 := Blk.allocs _ hW 1 rfl
   have hB3 : Blk W (w.heap.size + 2) [.bool false, .slice none 0 0] 75 := Blk.allocs _ hW 2 rfl
   have hBw : Below w.heap.size w W := hW ▸ allocs_below _ w
   have hsz : w.heap.size + 2 < W.heap.size := hB3.lt
   simp only [List.foldl_cons, List.foldl_nil] at hW
   rw [hW]
   clear hW
   have x0 := hB1.cell (j := 0) rfl
   have x1 := hB1.cell (j := 1) rfl
   have y0 := hB2.cell (j := 0) rfl
   have y1 := hB2.cell (j := 1) rfl
   simp only [Nat.add_zero] at x0 x1
   have HB3 := hH hB3
   have HBw := hH hBw
   clear hB1 hB2 hB3 hBw
   refine (HSz.out _ HBw.out).mono ?_
   rintro e W1 ⟨rfl, hb1⟩
   have x0 := keepc hb1 (by omega) x0
   have x1 := keepc hb1 (by omega) x1
   have y0 := keepc hb1 (by omega) y0
   have y1 := keepc hb1 (by omega) y1
   have HB3 := hH (HB3.out.call hb1)
   have HBw := hH (HBw.out.trans (hb1.mono HBw.out.size))
   have hsz : w.heap.size + 2 < W1.heap.size := HB3.out.lt
   clear hb1
   have hS3 : ∀ X : World, Below w.heap.size w X → Big X (.agg #[.bool false, .slice none 0 0]) 0 := fun X _ => big_zero X
   clear hS3
   go_wp2_with fail
   go_region_held3 (fun w' => w'.cell? ⟨w.heap.size, 0, none⟩ = some (.bool n1) ∧ w'.cell? ⟨w.heap.size, 1, none⟩ = some (.slice a1 k1 c1) ∧ w'.cell? ⟨w.heap.size + 1, 0, none⟩ = some (.bool n2) ∧ w'.cell? ⟨w.heap.size + 1, 1, none⟩ = some (.slice a2 k2 c2))
    (first | exact ⟨x0, x1, y0, y1⟩ | exact ⟨X0, X1, Y0, Y1⟩ | exact ⟨XX0, XX1, YY0, YY1⟩ | exact ⟨keeps2 (by omega) XX0, keeps2 (by omega) XX1, keeps2 (by omega) YY0, keeps2 (by omega) YY1⟩ | go_keep)
    ((first
     | (go_at_call 100; refine (HM.out _ (HBw.out.drew)).mono ?_; rintro e w5 ⟨v5, l5, rfl, r5, o5, k5, e5, hb5⟩; obtain ⟨a5, c5, rfl, _⟩ := reads_digits r5; have X0 := keepc hb5 (by show _ < W1.heap.size; omega) x0; have X1 := keepc hb5 (by show _ < W1.heap.size; omega) x1; have Y0 := keepc hb5 (by show _ < W1.heap.size; omega) y0; have Y1 := keepc hb5 (by show _ < W1.heap.size; omega) y1; have HB5 := hH ((show Blk W1.drew _ _ _ from HB3.out).call hb5); have Hb5 := hH ((HBw.out.drew).trans (hb5.mono HBw.out.size)); have hz5 : W1.heap.size ≤ w5.heap.size := hb5.size; clear hb5)
     | (go_at_call 98; refine (trim_any n2 _ l5 _ r5 o5 (by omega)).mono ?_; rintro e w6 ⟨v6, rfl, H6, hb6⟩; have XX0 := keepc hb6 (by omega) X0; have XX1 := keepc hb6 (by omega) X1; have YY0 := keepc hb6 (by omega) Y0; have YY1 := keepc hb6 (by omega) Y1; rw [e5] at H6; obtain ⟨n6, a6, m6, c6, rfl, b0, b1, bf, z0, z1, HH, Hbp⟩ := H6.ends (HB5.out.call hb6) (Hb5.out.trans (hb6.mono Hb5.out.size)) (by omega); clear hb6)))
   go_wp2_with fail
   refine bodyPost_ret (v := .agg #[.bool n6, .slice a6 m6 c6]) (by simp [results, Tryz.results82, go_sem, *]) rfl ⟨_, rfl, ?_, Hbp.out⟩
   rw [HV.out]
   exact HH.out
set_option maxHeartbeats 4000000 in
theorem sub_any (v1 v2 : Value) (x y : Int) (w : World) (b1 : Big w v1 x) (b2 : Big w v2 y) (hx : x.natAbs < lim) (hy : y.natAbs < lim) :
  Calls Tryz.prog 97 #[v1, v2] w fun e w' => ∃ v, e = .returned v ∧ Big w' v (x - y) ∧ Below w.heap.size w w' := by
 have HMin : Hid (∀ X, Below w.heap.size w X → Calls Tryz.prog 77 #[v2] X fun e X' => ∃ v', e = .returned v' ∧ Big X' v' (-y) ∧ Below X.heap.size X X') := fun X hX => minus_any v2 y X (b2.call hX)
 have HAdd : Hid (∀ X v, Below w.heap.size w X → Big X v (-y) → Calls Tryz.prog 82 #[v1, v] X fun e X' => ∃ v', e = .returned v' ∧ Big X' v' (x + -y) ∧ Below X.heap.size X X') := fun X v hX hv => add_any v1 v x (-y) X (b1.call hX) hv hx (by rw [Int.natAbs_neg]; exact hy)
 obtain ⟨n1, a1, k1, c1, rfl⟩ := b1.form
 obtain ⟨n2, a2, k2, c2, rfl⟩ := b2.form
 have HV : Hid (x - y = x + -y) := Int.sub_eq_add_neg
 clear b1 b2 hx hy
 go_enter Tryz.func97, Tryz.ntmps97
 go_wp2_with fail
 obtain ⟨W, hW⟩ : ∃ W, ([.cells #[.bool n1, .slice a1 k1 c1] 75, .cells #[.bool n2, .slice a2 k2 c2] 75, .cells #[.bool false, .slice none 0 0] 75] : List Obj).foldl World.alloc w = W := ⟨_, rfl⟩
 have hB1 : Blk W (w.heap.size + 0) [.bool n1, .slice a1 k1 c1] 75 := Blk.allocs _ hW 0 rfl
 have hB2 : Blk W (w.heap.size + 1) [.bool n2, .slice a2 k2 c2] 75 := Blk.allocs _ hW 1 rfl
 have hB3 : Blk W (w.heap.size + 2) [.bool false, .slice none 0 0] 75 := Blk.allocs _ hW 2 rfl
 have hBw : Below w.heap.size w W := hW ▸ allocs_below _ w
 have hsz : w.heap.size + 2 < W.heap.size := hB3.lt
 simp only [List.foldl_cons, List.foldl_nil] at hW
 rw [hW]
 clear hW
 have x0 := hB1.cell (j := 0) rfl
 have x1 := hB1.cell (j := 1) rfl
 have y0 := hB2.cell (j := 0) rfl
 have y1 := hB2.cell (j := 1) rfl
 simp only [Nat.add_zero] at x0 x1
 have HB3 := hH hB3
 have HBw := hH hBw
 clear hB1 hB2 hB3 hBw
 go_wp2_with fail
 go_region_held3 (fun w' => w'.cell? ⟨w.heap.size, 0, none⟩ = some (.bool n1) ∧ w'.cell? ⟨w.heap.size, 1, none⟩ = some (.slice a1 k1 c1) ∧ w'.cell? ⟨w.heap.size + 1, 0, none⟩ = some (.bool n2) ∧ w'.cell? ⟨w.heap.size + 1, 1, none⟩ = some (.slice a2 k2 c2))
  (first | exact ⟨x0, x1, y0, y1⟩ | exact ⟨X0, X1, Y0, Y1⟩ | exact ⟨XX0, XX1, YY0, YY1⟩ | exact ⟨keeps2 (by omega) XX0, keeps2 (by omega) XX1, keeps2 (by omega) YY0, keeps2 (by omega) YY1⟩ | go_keep)
  ((first
   | (go_at_call 77; refine (HMin.out _ (HBw.out.drew)).mono ?_; rintro e w5 ⟨v5, rfl, H5, hb5⟩; obtain ⟨n5, a5, k5, c5, rfl⟩ := H5.form; have X0 := keepc hb5 (by show _ < W.heap.size; omega) x0; have X1 := keepc hb5 (by show _ < W.heap.size; omega) x1; have Y0 := keepc hb5 (by show _ < W.heap.size; omega) y0; have Y1 := keepc hb5 (by show _ < W.heap.size; omega) y1; have HB5 := hH ((show Blk W.drew _ _ _ from HB3.out).call hb5); have Hb5 := hH ((HBw.out.drew).trans (hb5.mono HBw.out.size)); have hz5 : W.heap.size ≤ w5.heap.size := hb5.size; clear hb5)
   | (go_at_call 82; refine (HAdd.out _ _ Hb5.out H5).mono ?_; rintro e w6 ⟨v6, rfl, H6, hb6⟩; have XX0 := keepc hb6 (by omega) X0; have XX1 := keepc hb6 (by omega) X1; have YY0 := keepc hb6 (by omega) Y0; have YY1 := keepc hb6 (by omega) Y1; obtain ⟨n6, a6, m6, c6, rfl, b0, b1, bf, z0, z1, HH, Hbp⟩ := H6.ends (HB5.out.call hb6) (Hb5.out.trans (hb6.mono Hb5.out.size)) (by omega); clear hb6)))
 go_wp2_with fail
 refine bodyPost_ret (v := .agg #[.bool n6, .slice a6 m6 c6]) (by simp [results, Tryz.results97, go_sem, *]) rfl ⟨_, rfl, ?_, Hbp.out⟩
 rw [HV.out]
 exact HH.out
end Go.Proofs.YthbplhglfjlngaaGreat
namespace Go.Proofs.YthbplhglfjlngaaGreat
open Go.RowKit Go.Rg Bg
attribute [local go_sem] Oper.semAt_some
def Dig (w : World) (g : Nat) (l : List Nat) : Prop := Blk w g (ints l) 3
theorem Dig.cell {w : World} {g : Nat} {l : List Nat} (h : Dig w g l) {i d : Nat} (hd : l[i]? = some d) : w.cell? ⟨g, i, none⟩ = some (.int .i64 (d : Int)) := Blk.cell h (ints_at hd)
theorem Dig.set {w : World} {g : Nat} {l : List Nat} (h : Dig w g l) (i d : Nat) : Dig (w.setCell ⟨g, i, none⟩ (.int .i64 (d : Int))) g (l.set i d) := by
 have := Blk.set h i (.int .i64 (d : Int))
 unfold Dig ints
 rw [List.map_set]
 exact this
theorem Dig.reads {w : World} {g : Nat} {l : List Nat} (h : Dig w g l) (hl : l.length ≤ maxLen) : RdN w w.heap.size (.slice (some ⟨g, 0, none⟩) l.length l.length) l.length (ints l) :=
 ⟨.inr ⟨g, 0, l.length, rfl, Blk.lt h, Nat.le_refl _, hl, fun j x hj => by rw [Nat.zero_add]; exact Blk.cell h hj⟩,
  .inr ⟨g, 0, l.length, _, _, rfl, h, Nat.le_refl _, hl, fun j x hj => by rw [Nat.zero_add]; simpa using hj⟩⟩
theorem mul_sgn (n1 n2 : Bool) (a b : Nat) : sgn n1 a * sgn n2 b = sgn (n1 != n2) (a * b) := by
 unfold sgn; cases n1 <;> cases n2 <;> simp [Int.neg_mul, Int.mul_neg]
set_option maxHeartbeats 4000000 in
theorem mul_any (v1 v2 : Value) (x y : Int) (w : World) (b1 : Big w v1 x) (b2 : Big w v2 y) (hx : x.natAbs < lim) (hy : y.natAbs < lim) :
  Calls Tryz.prog 83 #[v1, v2] w fun e w' => ∃ v, e = .returned v ∧ Big w' v (x * y) ∧ Below w.heap.size w w' := by
 obtain ⟨n1, l1, ⟨s1, rfl, r1⟩, o1, z1, m1, e1, q1⟩ := b1.small hx
 obtain ⟨n2, l2, ⟨s2, rfl, r2⟩, o2, z2, m2, e2, q2⟩ := b2.small hy
 obtain ⟨a1, c1, rfl, p1, p2, p3⟩ := reads_digits r1
 obtain ⟨a2, c2, rfl, u1, u2, u3⟩ := reads_digits r2
 unfold maxLen at p2 u2
 have P3 := hH p3
 have U3 := hH u3
 have O1 := hH o1
 have O2 := hH o2
 have HV : Hid (x * y = sgn (n1 != n2) (val l1 * val l2)) := by unfold Hid; rw [e1, e2, mul_sgn]
 obtain ⟨k1, hk1⟩ : ∃ k, k = l1.length := ⟨_, rfl⟩
 obtain ⟨k2, hk2⟩ : ∃ k, k = l2.length := ⟨_, rfl⟩
 rw [← hk1] at q1 p1 ⊢
 rw [← hk2] at q2 u1 ⊢
 have K1 := hH hk1
 have K2 := hH hk2
 clear r1 r2 o1 o2 z1 z2 m1 m2 e1 e2 hk1 hk2 hx hy b1 b2 p3 u3
 obtain ⟨N, hN⟩ : ∃ N, N = k1 + k2 + 1 := ⟨_, rfl⟩
 have hsum : (k1 : Int) + (k2 : Int) + 1 = (N : Int) := by omega
 have hmk := run_make_row' (P := Tryz.prog) 73 3 (.int .i64 0) 8 Tryz.underlying73 info_int rfl .i64 .i64 N (by omega) (by omega)
 have hmd : madeCells #[.int .i64 0] N = (ints (List.replicate N 0)).toArray := by
  apply Array.ext'
  rw [toList_madeCells_one]
  unfold ints
  rw [List.map_replicate]; rfl
 rw [hmd] at hmk
 clear hmd
 have HN := hH hN
 clear hN
 go_enter Tryz.func83, Tryz.ntmps83
 go_wp2_with fail
 obtain ⟨W, hW⟩ : ∃ W, ([.cells #[.bool n1, .slice a1 k1 c1] 75, .cells #[.bool n2, .slice a2 k2 c2] 75, .cells #[.bool false, .slice none 0 0] 75, .cells (ints (List.replicate N 0)).toArray 3] : List Obj).foldl World.alloc w = W := ⟨_, rfl⟩
 have hB1 : Blk W (w.heap.size + 0) [.bool n1, .slice a1 k1 c1] 75 := Blk.allocs _ hW 0 rfl
 have hB2 : Blk W (w.heap.size + 1) [.bool n2, .slice a2 k2 c2] 75 := Blk.allocs _ hW 1 rfl
 have hB3 : Blk W (w.heap.size + 2) [.bool false, .slice none 0 0] 75 := Blk.allocs _ hW 2 rfl
 have hD : Dig W (w.heap.size + 3) (List.replicate N 0) := Blk.allocs _ hW 3 rfl
 have hBw : Below w.heap.size w W := hW ▸ allocs_below _ w
 have hsz : w.heap.size + 3 < W.heap.size := Blk.lt hD
 simp only [List.foldl_cons, List.foldl_nil] at hW
 rw [hW]
 clear hW
 obtain ⟨G1, hG1⟩ : ∃ G, w.heap.size + 1 = G := ⟨_, rfl⟩
 obtain ⟨G2, hG2⟩ : ∃ G, G1 + 1 = G := ⟨_, rfl⟩
 obtain ⟨G, hG⟩ : ∃ G, G2 + 1 = G := ⟨_, rfl⟩
 rw [show w.heap.size + 3 = G by omega] at hD
 rw [show w.heap.size + 2 = G2 by omega] at hB3
 rw [hG1] at hB2
 rw [Nat.add_zero] at hB1
 rw [hG1, hG2, hG]
 have g1 : w.heap.size < G1 := by omega
 have g2 : G1 < G2 := by omega
 have g3 : G2 < G := by omega
 clear hG1 hG2 hG hsz
 have HB1 := hH hB1
 have HB2 := hH hB2
 have HB3 := hH hB3
 have HD := hH hD
 have HBw := hH hBw
 clear hB1 hB2 hB3 hD hBw
 go_loopg [6] k1 (fun q s6 wx => ∃ (i : Nat) (out : List Nat), i + q = k1 ∧ s6 = .int .i64 (i : Int) ∧ out.length = N ∧ Hid (ok out) ∧ Hid (∀ j, i + k2 ≤ j → out[j]?.getD 0 = 0) ∧ Hid (val out = val (l1.take i) * val l2) ∧ Hid (Dig wx G out) ∧
  Hid (Blk wx w.heap.size [.bool n1, .slice a1 k1 c1] 75) ∧ Hid (Blk wx G1 [.bool n2, .slice a2 k2 c2] 75) ∧ Hid (Blk wx G2 [.bool false, .slice none 0 0] 75) ∧ Hid (Below w.heap.size w wx))
 case atStart =>
  refine ⟨0, List.replicate N 0, by omega, rfl, List.length_replicate, ok_zeros N, fun j _ => ?_, ?_, HD, HB1, HB2, HB3, HBw⟩
  ·rw [List.getElem?_replicate]; split <;> rfl
  ·unfold Hid; rw [val_zeros]; simp [val]
 case round =>
  obtain ⟨i, out, hiq, rfl, hlen, Hok, Hz, Hv, HD, HB1, HB2, HB3, HBw⟩ := hrel
  have x0 := HB1.out.cell (j := 0) rfl
  have x1 := HB1.out.cell (j := 1) rfl
  have y0 := HB2.out.cell (j := 0) rfl
  have y1 := HB2.out.cell (j := 1) rfl
  cases gk with
  | zero =>
   have t1 : ¬ ((i : Int) < (k1 : Int)) := by omega
   have hin : i = k1 := by omega
   subst hin
   have HV2 : Hid (val out = val l1 * val l2) := by unfold Hid; rw [Hv.out, K1.out, List.take_length]
   have HR := hH (HD.out.reads (by rw [hlen]; unfold maxLen; omega))
   have HLen := hH hlen
   have hneg : ∀ b1 b2 : Bool, (!decide (b1 = b2)) = (b1 != b2) := by decide
   have HT : Hid (∀ n, Calls Tryz.prog 98 #[.agg #[.bool n, .slice (some ⟨G, 0, none⟩) N N]] wr fun e w' => ∃ v, e = .returned v ∧ Big w' v (sgn n (val out)) ∧ Below wr.heap.size wr w') := fun n => by
    have := trim_any n (.slice (some ⟨G, 0, none⟩) out.length out.length) out wr HR.out Hok.out (by rw [hlen]; omega)
    rw [HLen.out] at this
    exact this
   clear hlen
   cases n1 <;> cases n2
   all_goals (
    go_wp2_with fail
    refine (HT.out _).mono ?_
    rintro e w6 ⟨v6, rfl, H6, hb6⟩
    rw [HV2.out] at H6
    obtain ⟨n6, a6, m6, c6, rfl, b0, b1, bf, z0, z1, HH, Hbp⟩ := H6.ends (HB3.out.call hb6) (HBw.out.trans (hb6.mono HBw.out.size)) (by omega)
    clear hb6 H6
    go_wp2_with fail
    refine bodyPost_ret (v := .agg #[.bool n6, .slice a6 m6 c6]) (by simp [results, Tryz.results83, go_sem, *]) rfl ⟨_, rfl, ?_, Hbp.out⟩
    rw [HV.out]
    exact HH.out)
  | succ q =>
   have t1 : (i : Int) < (k1 : Int) := by omega
   obtain ⟨d1, hd1⟩ : ∃ d, l1[i]? = some d := ⟨_, List.getElem?_eq_getElem (by rw [← K1.out]; omega)⟩
   have hdb1 : d1 < 32768 := O1.out d1 (List.mem_of_getElem? hd1)
   have Hd1 := hH hd1
   clear hd1
   have hR0 : Hid (val (l1.take i) * val l2 = val out) := Hv.out.symm
   go_wp2_with fail
   go_loopg [7, 8] k2 (fun qq s7 s8 wx => ∃ (k c : Nat) (o2 : List Nat), k + qq = k2 ∧ s8 = .int .i64 (k : Int) ∧ s7 = .int .i64 (c : Int) ∧ c < 32768 ∧ o2.length = N ∧ Hid (ok o2) ∧ Hid (∀ j, i + k2 ≤ j → o2[j]?.getD 0 = 0) ∧ Hid (val o2 + 32768 ^ (i + k) * c = val (l1.take i) * val l2 + 32768 ^ i * (d1 * val (l2.take k))) ∧ Hid (Dig wx G o2) ∧
    Hid (Blk wx w.heap.size [.bool n1, .slice a1 k1 c1] 75) ∧ Hid (Blk wx G1 [.bool n2, .slice a2 k2 c2] 75) ∧ Hid (Blk wx G2 [.bool false, .slice none 0 0] 75) ∧ Hid (Below w.heap.size w wx))
   case atStart => exact ⟨0, 0, out, by omega, rfl, rfl, by decide, hlen, Hok, Hz, by unfold Hid; rw [Hv.out]; simp [val], HD, HB1, HB2, HB3, HBw⟩
   case round =>
    clear x0 x1 y0 y1 HD HB1 HB2 HB3 HBw Hok Hz hR0 Hv hlen
    obtain ⟨k, c, o2, hkq, rfl, rfl, hc, hlen, Hok, Hz, Hv, HD, HB1, HB2, HB3, HBw⟩ := hrel
    have x0 := HB1.out.cell (j := 0) rfl
    have x1 := HB1.out.cell (j := 1) rfl
    have y0 := HB2.out.cell (j := 0) rfl
    have y1 := HB2.out.cell (j := 1) rfl
    cases gk with
    | zero =>
     have t2 : ¬ ((k : Int) < (k2 : Int)) := by omega
     have hkn : k = k2 := by omega
     subst hkn
     have hN2 := HN.out
     obtain ⟨j, hj⟩ : ∃ j, j = i + k := ⟨_, rfl⟩
     have hjj : (i : Int) + (k : Int) = (j : Int) := by omega
     have hjN : j < N := by omega
     have hj0 : (0 : Int) ≤ (j : Int) := by omega
     have hj1 : (j : Int) < (N : Int) := by omega
     have h0 := Hz.out j (by omega)
     rw [List.getElem?_eq_getElem (by rw [hlen]; exact hjN)] at h0
     have e0 := HD.out.cell (i := j) (List.getElem?_eq_getElem (by rw [hlen]; exact hjN))
     have ef := Blk.frozen HD.out j
     have h00 : o2[j]'(by rw [hlen]; exact hjN) = 0 := h0
     rw [h00] at e0
     have HV3 : Hid (val (o2.set j c) = val (l1.take (i + 1)) * val l2) := by
      unfold Hid
      have := mul_row o2 l1 l2 i d1 c (by rw [hlen, ← K2.out, ← hj]; exact hjN) Hd1.out (by have := h00; simp only [hj, K2.out] at this; exact this) (by have := Hv.out; rw [K2.out] at this; exact this)
      rw [← K2.out, ← hj] at this
      exact this
     have HO3 := hH (ok_set Hok.out j hc)
     have HZ3 : Hid (∀ t, i + 1 + k ≤ t → (o2.set j c)[t]?.getD 0 = 0) := fun t ht => by
      rw [set_at _ _ _ _ (by omega)]; exact Hz.out t (by omega)
     have HL3 : Hid ((o2.set j c).length = N) := by unfold Hid; rw [List.length_set]; exact hlen
     have HD3 := hH (HD.out.set j c)
     have C1 := hH (HB1.out.other ⟨G, j, none⟩ (by show w.heap.size ≠ G; omega) (.int .i64 (c : Int)))
     have C2 := hH (HB2.out.other ⟨G, j, none⟩ (by show G1 ≠ G; omega) (.int .i64 (c : Int)))
     have C3 := hH (HB3.out.other ⟨G, j, none⟩ (by show G2 ≠ G; omega) (.int .i64 (c : Int)))
     have CW := hH (HBw.out.setCell (p := ⟨G, j, none⟩) (by show w.heap.size ≤ G; omega) (.int .i64 (c : Int)))
     clear h0 h00 hj hN2
     go_wp2_with fail
     go_roundg q
     case measure => omega
     case rel => exact ⟨i + 1, o2.set j c, by omega, by first | rfl | simp, HL3.out, HO3, HZ3, HV3, HD3, C1, C2, C3, CW⟩
    | succ qq =>
     have t2 : (k : Int) < (k2 : Int) := by omega
     have hN2 := HN.out
     obtain ⟨d2, hd2⟩ : ∃ d, l2[k]? = some d := ⟨_, List.getElem?_eq_getElem (by rw [← K2.out]; omega)⟩
     have hdb2 : d2 < 32768 := O2.out d2 (List.mem_of_getElem? hd2)
     obtain ⟨p1', q1', rfl, f1⟩ := cell_at (n := k1) (cap := c1) P3.out HBw.out i d1 Hd1.out
     obtain ⟨p2', q2', rfl, f2⟩ := cell_at (n := k2) (cap := c2) U3.out HBw.out k d2 hd2
     obtain ⟨j, hj⟩ : ∃ j, j = i + k := ⟨_, rfl⟩
     have hjj : (i : Int) + (k : Int) = (j : Int) := by omega
     have hjN : j < N := by omega
     have hj0 : (0 : Int) ≤ (j : Int) := by omega
     have hj1 : (j : Int) < (N : Int) := by omega
     have hjl : j < o2.length := by rw [hlen]; exact hjN
     obtain ⟨o, ho⟩ : ∃ o, o = o2[j] := ⟨_, rfl⟩
     have e0 := HD.out.cell (i := j) (List.getElem?_eq_getElem hjl)
     rw [← ho] at e0
     have ef := Blk.frozen HD.out j
     have hob : o < 32768 := by rw [ho]; exact Hok.out _ (List.getElem_mem _)
     obtain ⟨cb1, cb2⟩ := mul_carry o d1 d2 c hob hdb1 hdb2 hc
     obtain ⟨PR, hPR⟩ : ∃ P, P = d1 * d2 := ⟨_, rfl⟩
     rw [← hPR] at cb1 cb2
     obtain ⟨NN, hNN⟩ : ∃ M, M = o + PR + c := ⟨_, rfl⟩
     rw [← hNN] at cb1 cb2
     obtain ⟨R, hR⟩ : ∃ R, R = NN % 32768 := ⟨_, rfl⟩
     obtain ⟨C, hC⟩ : ∃ C, C = NN / 32768 := ⟨_, rfl⟩
     have hstep := mul_step o2 l1 l2 (val (l1.take i) * val l2) d1 i k c NN (by rw [← hj]; exact hjl) (by rw [← K2.out]; omega) (by
      have e2 : l2[k]'(by rw [← K2.out]; omega) = d2 := by
       have := List.getElem?_eq_getElem (l := l2) (i := k) (by rw [← K2.out]; omega)
       rw [hd2] at this
       exact (Option.some.inj this).symm
      rw [e2, ← hPR, hNN]
      congr 2
      simp only [ho, hj]) Hv.out
     rw [← hR, ← hC, ← hj] at hstep
     have HST := hH hstep
     rw [← hC] at cb2
     have hRb : R < 32768 := by omega
     have hprod : (d1 : Int) * (d2 : Int) = (PR : Int) := by rw [hPR]; simp
     have hs3 : (o : Int) + (PR : Int) + (c : Int) = (NN : Int) := by omega
     have hrem : (NN : Int).tmod 32768 = (R : Int) := by rw [hR]; rfl
     have hquo : (NN : Int).tdiv 32768 = (C : Int) := by rw [hC]; rfl
     have HO3 := hH (ok_set Hok.out j hRb)
     have HZ3 : Hid (∀ t, i + k2 ≤ t → (o2.set j R)[t]?.getD 0 = 0) := fun t ht => by
      rw [set_at _ _ _ _ (by omega)]; exact Hz.out t ht
     have HL3 : Hid ((o2.set j R).length = N) := by unfold Hid; rw [List.length_set]; exact hlen
     have HD3 : Hid (∀ n, Dig ((wr.drewN n).setCell ⟨G, j, none⟩ (.int .i64 (R : Int))) G (o2.set j R)) := fun n => Dig.set (w := wr.drewN n) (show Dig (wr.drewN n) G o2 from HD.out) j R
     have C1 : Hid (∀ n, Blk ((wr.drewN n).setCell ⟨G, j, none⟩ (.int .i64 (R : Int))) w.heap.size _ _) := fun n => Blk.other (w := wr.drewN n) (show Blk (wr.drewN n) _ _ _ from HB1.out) ⟨G, j, none⟩ (by show w.heap.size ≠ G; omega) (.int .i64 (R : Int))
     have C2 : Hid (∀ n, Blk ((wr.drewN n).setCell ⟨G, j, none⟩ (.int .i64 (R : Int))) G1 _ _) := fun n => Blk.other (w := wr.drewN n) (show Blk (wr.drewN n) _ _ _ from HB2.out) ⟨G, j, none⟩ (by show G1 ≠ G; omega) (.int .i64 (R : Int))
     have C3 : Hid (∀ n, Blk ((wr.drewN n).setCell ⟨G, j, none⟩ (.int .i64 (R : Int))) G2 _ _) := fun n => Blk.other (w := wr.drewN n) (show Blk (wr.drewN n) _ _ _ from HB3.out) ⟨G, j, none⟩ (by show G2 ≠ G; omega) (.int .i64 (R : Int))
     have CW : Hid (∀ n, Below w.heap.size w ((wr.drewN n).setCell ⟨G, j, none⟩ (.int .i64 (R : Int)))) := fun n => (below_drewN HBw.out n).setCell (p := ⟨G, j, none⟩) (by show w.heap.size ≤ G; omega) (.int .i64 (R : Int))
     clear ho hPR hNN hR hC hj hN2 hstep hd2 hjl
     go_wp2_with fail
     go_quiet (fail)
     go_wp2_with fail
     go_roundg qq
     case measure => omega
     case rel => exact ⟨k + 1, C, o2.set j R, by omega, by first | rfl | simp, by first | rfl | simp, cb2, HL3.out, HO3, HZ3, HST, HD3.out _, C1.out _, C2.out _, C3.out _, CW.out _⟩
end Go.Proofs.YthbplhglfjlngaaGreat
