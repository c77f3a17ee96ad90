/- gromaref01's more, less: the sum and the difference of two sizes. Printed by wip/genbg.py. -/
import Derived.Test.YtkhpfdgkmnifcaaDoorBgD
set_option linter.unusedVariables false
set_option linter.unusedSimpArgs false
namespace Go.Proofs.YtkhpfdgkmnifcaaDoor
open Go.RowKit Go.Rg Bg
attribute [local go_sem] Oper.semAt_some

set_option maxHeartbeats 2000000 in
theorem more_any (s1 s2 : Value) (l1 l2 : List Nat) (w : World) (h1 : RdN w w.heap.size s1 l1.length (ints l1)) (h2 : RdN w w.heap.size s2 l2.length (ints l2)) (ho1 : ok l1) (ho2 : ok l2) (hl1 : l1.length ≤ 1000) (hl2 : l2.length ≤ 1000) :
    Calls Tryd.prog 45 #[s1, s2] w fun e w' => ∃ v l, e = .returned v ∧ RdN w' w'.heap.size v l.length (ints l) ∧ ok l ∧ l.length ≤ 1001 ∧ val l = val l1 + val l2 ∧ Below w.heap.size w w' := by
  obtain ⟨a1, c1, rfl, p1, p2, p3⟩ := reads_digits h1
  obtain ⟨a2, c2, rfl, q1, q2, q3⟩ := reads_digits h2
  unfold maxLen at p2 q2
  have P3 := Lib.hid p3
  have Q3 := Lib.hid q3
  obtain ⟨n, hn⟩ : ∃ n, n = l1.length := ⟨_, rfl⟩
  obtain ⟨m, hm⟩ : ∃ m, m = l2.length := ⟨_, rfl⟩
  rw [← hn] at p1 hl1 ⊢
  rw [← hm] at q1 hl2 ⊢
  have Hn := Lib.hid hn
  have Hm := Lib.hid hm
  have O1 := Lib.hid ho1
  have O2 := Lib.hid ho2
  clear p3 q3 hn hm ho1 ho2 h1 h2
  obtain ⟨N0, hN0⟩ : ∃ N0, N0 = max n m := ⟨_, rfl⟩
  go_enter Tryd.func45, Tryd.ntmps45
  go_wp2_with fail
  go_loopg [5, 6, 7] N0 (fun q s5 s6 s7 wx => ∃ (i c : Nat) (out : List Nat), i + q = N0 ∧ s7 = .int .i64 (i : Int) ∧ s6 = .int .i64 (c : Int) ∧ c ≤ 1 ∧ out.length = i ∧ Hid (ok out) ∧ Hid (val out + 32768 ^ i * c = val (l1.take i) + val (l2.take i)) ∧ wx.ownsRow w.heap.size 3 1 s5 i (ints out) ∧ Hid (Below w.heap.size w wx))
  case atStart => exact ⟨0, 0, [], by omega, rfl, rfl, by decide, rfl, zero_nil.2, by unfold Hid; simp [val], World.ownsRow_nil _ _ _ _, Below.refl _ _⟩
  case round =>
    obtain ⟨i, c, out, hiq, rfl, rfl, hc1, hlen, Hok, Hv, hown, Hb⟩ := hrel
    obtain ⟨av, capv, rfl⟩ := own_form hown
    have hszr := Hb.out.size
    cases gk with
    | zero =>
      have t1 : ¬ ((i : Int) < (n : Int)) := by omega
      have t2 : ¬ ((i : Int) < (m : Int)) := by omega
      have hi1000 : i ≤ 1000 := by omega
      have HV : Hid (val (out ++ [c]) = val l1 + val l2) := more_end l1 l2 out i c hlen (by rw [← Hn.out]; omega) (by rw [← Hm.out]; omega) Hv.out
      have HO2 : Hid (ok (out ++ [c])) := ok_snoc Hok.out (by omega)
      have Hi : Hid (ints (out ++ [c]) = ints out ++ [.int .i64 (c : Int)]) := ints_snoc _ _
      have Hl2 : Hid ((out ++ [c]).length = i + 1) := by unfold Hid; simp [hlen]
      go_wp2_with (at_builtin; refine wpList_append2 _ rfl _ _ 27 rfl w.heap.size 3 (.int .i64 0) 1 8 Tryd.underlying27 info_int rfl (by decide) (.slice av i capv) i _ rfl (hown.alloc _) _ _ 1 [.int .i64 (c : Int)] rfl (reads_new _ _ _ 1 1 (by decide) (by decide)) rfl ?z2 ?z3 ?z4 ?z5 ?_)
      case z2 => simp [Value.oneCell']
      case z3 => unfold maxLen; omega
      case z4 => omega
      case z5 => first | omega | (simp; omega)
      intro v' w2 hown2 hgrow hmov
      obtain ⟨a2, cap2, rfl⟩ := own_form hown2
      have hb2 : Hid (Below w.heap.size w w2) := (Hb.out.alloc Hb.out.size _).grown hgrow (by simp; omega) (fun j e => (hown.lt j e).1)
      rw [← Hi.out] at hown2
      have Hown := Lib.hid hown2
      clear hown2 hgrow hmov hown
      go_wp2_with fail
      go_ret
      exact ⟨_, out ++ [c], rfl, by rw [Hl2.out]; exact RdN.of_own Hown.out, HO2.out, by rw [Hl2.out]; omega, HV.out, hb2.out⟩
    | succ q =>
      have hi1000 : i < 1000 := by omega
      by_cases hi1 : i < n
      · by_cases hi2 : i < m
        · obtain ⟨d1, hd1⟩ : ∃ d, l1[i]? = some d := ⟨_, List.getElem?_eq_getElem (by rw [← Hn.out]; exact hi1)⟩
          obtain ⟨g1, o1, rfl, e1⟩ := cell_at (n := n) (cap := c1) P3.out Hb.out i d1 hd1
          have hb1 : d1 < 32768 := O1.out d1 (List.mem_of_getElem? hd1)
          have t1 : (i : Int) < (n : Int) := by omega
          obtain ⟨d2, hd2⟩ : ∃ d, l2[i]? = some d := ⟨_, List.getElem?_eq_getElem (by rw [← Hm.out]; exact hi2)⟩
          obtain ⟨g2, o2, rfl, e2⟩ := cell_at (n := m) (cap := c2) Q3.out Hb.out i d2 hd2
          have hb2 : d2 < 32768 := O2.out d2 (List.mem_of_getElem? hd2)
          have t2 : (i : Int) < (m : Int) := by omega
          have hN : ∃ N, N = c + d1 + d2 := ⟨_, rfl⟩
          obtain ⟨N, hN⟩ := hN
          have HST := Lib.hid (more_step l1 l2 out i c N hlen (by rw [hN, hd1, hd2]; rfl) Hv.out)
          have hNb : N < 65536 := by omega
          obtain ⟨R, hR⟩ : ∃ R, R = N % 32768 := ⟨_, rfl⟩
          obtain ⟨C, hC⟩ : ∃ C, C = N / 32768 := ⟨_, rfl⟩
          rw [← hR, ← hC] at HST
          have hR1 : R < 32768 := by omega
          have hC1 : C ≤ 1 := by omega
          have hsum : (c : Int) + (d1 : Int) + (d2 : Int) = (N : Int) := by omega
          have hrem : (N : Int).tmod 32768 = (R : Int) := by rw [hR]; rfl
          have hquo : (N : Int).tdiv 32768 = (C : Int) := by rw [hC]; rfl
          have HO2 : Hid (ok (out ++ [R])) := ok_snoc Hok.out hR1
          have Hi : Hid (ints (out ++ [R]) = ints out ++ [.int .i64 (R : Int)]) := ints_snoc _ _
          have hl2 : (out ++ [R]).length = i + 1 := by simp [hlen]
          have Hl2 := Lib.hid hl2
          clear hN hR hC hl2 hd1 hd2
          go_wp2_with (at_builtin; refine wpList_append2 _ rfl _ _ 27 rfl w.heap.size 3 (.int .i64 0) 1 8 Tryd.underlying27 info_int rfl (by decide) (.slice av i capv) i _ rfl (hown.alloc _) _ _ 1 [.int .i64 (R : Int)] rfl (reads_new _ _ _ 1 1 (by decide) (by decide)) rfl ?a2 ?a3 ?a4 ?a5 ?_)
          case a2 => simp [Value.oneCell']
          case a3 => unfold maxLen; omega
          case a4 => omega
          case a5 => first | omega | (simp; omega)
          intro v' w2 hown2 hgrow hmov
          obtain ⟨a2, cap2, rfl⟩ := own_form hown2
          have hb2 : Hid (Below w.heap.size w w2) := (Hb.out.alloc Hb.out.size _).grown hgrow (by simp; omega) (fun j e => (hown.lt j e).1)
          rw [← Hi.out] at hown2
          have Hown := Lib.hid hown2
          clear hown2 hgrow hmov hown
          go_wp2_with fail
          go_roundg q
          case measure => omega
          case rel => exact ⟨i + 1, C, out ++ [R], by omega, by first | rfl | simp, rfl, hC1, Hl2.out, HO2, HST, Hown.out, hb2⟩

        · obtain ⟨d1, hd1⟩ : ∃ d, l1[i]? = some d := ⟨_, List.getElem?_eq_getElem (by rw [← Hn.out]; exact hi1)⟩
          obtain ⟨g1, o1, rfl, e1⟩ := cell_at (n := n) (cap := c1) P3.out Hb.out i d1 hd1
          have hb1 : d1 < 32768 := O1.out d1 (List.mem_of_getElem? hd1)
          have t1 : (i : Int) < (n : Int) := by omega
          have hd2 : l2[i]? = none := List.getElem?_eq_none (by rw [← Hm.out]; omega)
          have t2 : ¬ ((i : Int) < (m : Int)) := by omega
          have hN : ∃ N, N = c + d1 + 0 := ⟨_, rfl⟩
          obtain ⟨N, hN⟩ := hN
          have HST := Lib.hid (more_step l1 l2 out i c N hlen (by rw [hN, hd1, hd2]; rfl) Hv.out)
          have hNb : N < 65536 := by omega
          obtain ⟨R, hR⟩ : ∃ R, R = N % 32768 := ⟨_, rfl⟩
          obtain ⟨C, hC⟩ : ∃ C, C = N / 32768 := ⟨_, rfl⟩
          rw [← hR, ← hC] at HST
          have hR1 : R < 32768 := by omega
          have hC1 : C ≤ 1 := by omega
          have hsum : (c : Int) + (d1 : Int) = (N : Int) := by omega
          have hrem : (N : Int).tmod 32768 = (R : Int) := by rw [hR]; rfl
          have hquo : (N : Int).tdiv 32768 = (C : Int) := by rw [hC]; rfl
          have HO2 : Hid (ok (out ++ [R])) := ok_snoc Hok.out hR1
          have Hi : Hid (ints (out ++ [R]) = ints out ++ [.int .i64 (R : Int)]) := ints_snoc _ _
          have hl2 : (out ++ [R]).length = i + 1 := by simp [hlen]
          have Hl2 := Lib.hid hl2
          clear hN hR hC hl2 hd1 hd2
          go_wp2_with (at_builtin; refine wpList_append2 _ rfl _ _ 27 rfl w.heap.size 3 (.int .i64 0) 1 8 Tryd.underlying27 info_int rfl (by decide) (.slice av i capv) i _ rfl (hown.alloc _) _ _ 1 [.int .i64 (R : Int)] rfl (reads_new _ _ _ 1 1 (by decide) (by decide)) rfl ?b2 ?b3 ?b4 ?b5 ?_)
          case b2 => simp [Value.oneCell']
          case b3 => unfold maxLen; omega
          case b4 => omega
          case b5 => first | omega | (simp; omega)
          intro v' w2 hown2 hgrow hmov
          obtain ⟨a2, cap2, rfl⟩ := own_form hown2
          have hb2 : Hid (Below w.heap.size w w2) := (Hb.out.alloc Hb.out.size _).grown hgrow (by simp; omega) (fun j e => (hown.lt j e).1)
          rw [← Hi.out] at hown2
          have Hown := Lib.hid hown2
          clear hown2 hgrow hmov hown
          go_wp2_with fail
          go_roundg q
          case measure => omega
          case rel => exact ⟨i + 1, C, out ++ [R], by omega, by first | rfl | simp, rfl, hC1, Hl2.out, HO2, HST, Hown.out, hb2⟩

      · have hi2 : i < m := by omega
        have hd1 : l1[i]? = none := List.getElem?_eq_none (by rw [← Hn.out]; omega)
        have t1 : ¬ ((i : Int) < (n : Int)) := by omega
        obtain ⟨d2, hd2⟩ : ∃ d, l2[i]? = some d := ⟨_, List.getElem?_eq_getElem (by rw [← Hm.out]; exact hi2)⟩
        obtain ⟨g2, o2, rfl, e2⟩ := cell_at (n := m) (cap := c2) Q3.out Hb.out i d2 hd2
        have hb2 : d2 < 32768 := O2.out d2 (List.mem_of_getElem? hd2)
        have t2 : (i : Int) < (m : Int) := by omega
        have hN : ∃ N, N = c + 0 + d2 := ⟨_, rfl⟩
        obtain ⟨N, hN⟩ := hN
        have HST := Lib.hid (more_step l1 l2 out i c N hlen (by rw [hN, hd1, hd2]; rfl) Hv.out)
        have hNb : N < 65536 := by omega
        obtain ⟨R, hR⟩ : ∃ R, R = N % 32768 := ⟨_, rfl⟩
        obtain ⟨C, hC⟩ : ∃ C, C = N / 32768 := ⟨_, rfl⟩
        rw [← hR, ← hC] at HST
        have hR1 : R < 32768 := by omega
        have hC1 : C ≤ 1 := by omega
        have hsum : (c : Int) + (d2 : Int) = (N : Int) := by omega
        have hrem : (N : Int).tmod 32768 = (R : Int) := by rw [hR]; rfl
        have hquo : (N : Int).tdiv 32768 = (C : Int) := by rw [hC]; rfl
        have HO2 : Hid (ok (out ++ [R])) := ok_snoc Hok.out hR1
        have Hi : Hid (ints (out ++ [R]) = ints out ++ [.int .i64 (R : Int)]) := ints_snoc _ _
        have hl2 : (out ++ [R]).length = i + 1 := by simp [hlen]
        have Hl2 := Lib.hid hl2
        clear hN hR hC hl2 hd1 hd2
        go_wp2_with (at_builtin; refine wpList_append2 _ rfl _ _ 27 rfl w.heap.size 3 (.int .i64 0) 1 8 Tryd.underlying27 info_int rfl (by decide) (.slice av i capv) i _ rfl (hown.alloc _) _ _ 1 [.int .i64 (R : Int)] rfl (reads_new _ _ _ 1 1 (by decide) (by decide)) rfl ?d2 ?d3 ?d4 ?d5 ?_)
        case d2 => simp [Value.oneCell']
        case d3 => unfold maxLen; omega
        case d4 => omega
        case d5 => first | omega | (simp; omega)
        intro v' w2 hown2 hgrow hmov
        obtain ⟨a2, cap2, rfl⟩ := own_form hown2
        have hb2 : Hid (Below w.heap.size w w2) := (Hb.out.alloc Hb.out.size _).grown hgrow (by simp; omega) (fun j e => (hown.lt j e).1)
        rw [← Hi.out] at hown2
        have Hown := Lib.hid hown2
        clear hown2 hgrow hmov hown
        go_wp2_with fail
        go_roundg q
        case measure => omega
        case rel => exact ⟨i + 1, C, out ++ [R], by omega, by first | rfl | simp, rfl, hC1, Hl2.out, HO2, HST, Hown.out, hb2⟩

set_option maxHeartbeats 2000000 in
theorem less_any (s1 s2 : Value) (l1 l2 : List Nat) (w : World) (h1 : RdN w w.heap.size s1 l1.length (ints l1)) (h2 : RdN w w.heap.size s2 l2.length (ints l2)) (ho1 : ok l1) (ho2 : ok l2) (hl1 : l1.length ≤ 1000) (hl2 : l2.length ≤ l1.length) (hle : val l2 ≤ val l1) :
    Calls Tryd.prog 46 #[s1, s2] w fun e w' => ∃ v l, e = .returned v ∧ RdN w' w'.heap.size v l.length (ints l) ∧ ok l ∧ l.length ≤ 1001 ∧ val l = val l1 - val l2 ∧ Below w.heap.size w w' := by
  obtain ⟨a1, c1, rfl, p1, p2, p3⟩ := reads_digits h1
  obtain ⟨a2, c2, rfl, q1, q2, q3⟩ := reads_digits h2
  unfold maxLen at p2 q2
  have P3 := Lib.hid p3
  have Q3 := Lib.hid q3
  obtain ⟨n, hn⟩ : ∃ n, n = l1.length := ⟨_, rfl⟩
  obtain ⟨m, hm⟩ : ∃ m, m = l2.length := ⟨_, rfl⟩
  have HL := Lib.hid hl2
  have HLE := Lib.hid hle
  clear hle
  rw [← hn] at p1 hl1 hl2 ⊢
  rw [← hm] at q1 hl2 ⊢
  have Hn := Lib.hid hn
  have Hm := Lib.hid hm
  have O1 := Lib.hid ho1
  have O2 := Lib.hid ho2
  clear p3 q3 hn hm ho1 ho2 h1 h2
  go_enter Tryd.func46, Tryd.ntmps46
  go_wp2_with fail
  go_loopg [5, 6, 7] n (fun q s5 s6 s7 wx => ∃ (i c : Nat) (out : List Nat), i + q = n ∧ s7 = .int .i64 (i : Int) ∧ s6 = .int .i64 (c : Int) ∧ c ≤ 1 ∧ out.length = i ∧ Hid (ok out) ∧ Hid (val out + val (l2.take i) = val (l1.take i) + 32768 ^ i * c) ∧ wx.ownsRow w.heap.size 3 1 s5 i (ints out) ∧ Hid (Below w.heap.size w wx))
  case atStart => exact ⟨0, 0, [], by omega, rfl, rfl, by decide, rfl, zero_nil.2, by unfold Hid; simp [val], World.ownsRow_nil _ _ _ _, Below.refl _ _⟩
  case round =>
    obtain ⟨i, c, out, hiq, rfl, rfl, hc1, hlen, Hok, Hv, hown, Hb⟩ := hrel
    obtain ⟨av, capv, rfl⟩ := own_form hown
    have hszr := Hb.out.size
    cases gk with
    | zero =>
      have t1 : ¬ ((i : Int) < (n : Int)) := by omega
      have hin : i = n := by omega
      have HV : Hid (val out = val l1 - val l2) := less_end l1 l2 out c (by rw [hlen, hin]; exact Hn.out) Hok.out HL.out HLE.out (by have := Hv.out; rw [hin, Hn.out] at this; exact this)
      have Hown := Lib.hid (RdN.of_own hown)
      have Hl := Lib.hid hlen
      clear hown hlen hin
      go_wp2_with fail
      go_ret
      first | exact ⟨_, out, rfl, by rw [Hl.out]; exact Hown.out, Hok.out, by rw [Hl.out]; omega, HV.out, Hb.out⟩ | exact ⟨_, rfl, out, by rw [Hl.out]; exact Hown.out, Hok.out, by rw [Hl.out]; omega, HV.out, Hb.out⟩
    | succ q =>
      have hi1000 : i < 1000 := by omega
      by_cases hi2 : i < m
      · obtain ⟨d2, hd2⟩ : ∃ d, l2[i]? = some d := ⟨_, List.getElem?_eq_getElem (by rw [← Hm.out]; exact hi2)⟩
        obtain ⟨g2, o2, rfl, e2⟩ := cell_at (n := m) (cap := c2) Q3.out Hb.out i d2 hd2
        have hb2 : d2 < 32768 := O2.out d2 (List.mem_of_getElem? hd2)
        have t2 : (i : Int) < (m : Int) := by omega
        obtain ⟨d1, hd1⟩ : ∃ d, l1[i]? = some d := ⟨_, List.getElem?_eq_getElem (by rw [← Hn.out]; omega)⟩
        obtain ⟨g1, o1, rfl, e1⟩ := cell_at (n := n) (cap := c1) P3.out Hb.out i d1 hd1
        have hb1 : d1 < 32768 := O1.out d1 (List.mem_of_getElem? hd1)
        have t1 : (i : Int) < (n : Int) := by omega
        have d1b : (d1 : Int) - (c : Int) ≥ -1 := by omega
        by_cases hp : c + d2 ≤ d1
        · obtain ⟨R, hR⟩ : ∃ R, d1 = R + c + d2 := ⟨d1 - c - d2, by omega⟩
          have HST := Lib.hid (less_step l1 l2 out i c R 0 hlen Hv.out (by rw [hd1, hd2]; show d1 + 32768 * 0 = R + c + d2; omega))
          have hsum : (d1 : Int) - (c : Int) - (d2 : Int) = (R : Int) := by omega
          have hnn : ¬ ((R : Int) < 0) := by omega
          have hR1 : R < 32768 := by omega
          have HO2 : Hid (ok (out ++ [R])) := ok_snoc Hok.out hR1
          have Hi : Hid (ints (out ++ [R]) = ints out ++ [.int .i64 (R : Int)]) := ints_snoc _ _
          have Hl2 : Hid ((out ++ [R]).length = i + 1) := by unfold Hid; simp [hlen]
          clear hR hd1 hd2
          go_wp2_with (at_builtin; refine wpList_append2 _ rfl _ _ 27 rfl w.heap.size 3 (.int .i64 0) 1 8 Tryd.underlying27 info_int rfl (by decide) (.slice av i capv) i _ rfl (hown.alloc _) _ _ 1 [.int .i64 (R : Int)] rfl (reads_new _ _ _ 1 1 (by decide) (by decide)) rfl ?a2 ?a3 ?a4 ?a5 ?_)
          case a2 => simp [Value.oneCell']
          case a3 => unfold maxLen; omega
          case a4 => omega
          case a5 => first | omega | (simp; omega)
          intro v' w2 hown2 hgrow hmov
          obtain ⟨a2, cap2, rfl⟩ := own_form hown2
          have hb2 : Hid (Below w.heap.size w w2) := (Hb.out.alloc Hb.out.size _).grown hgrow (by simp; omega) (fun j e => (hown.lt j e).1)
          rw [← Hi.out] at hown2
          have Hown := Lib.hid hown2
          clear hown2 hgrow hmov hown
          go_wp2_with fail
          go_roundg q
          case measure => omega
          case rel => exact ⟨i + 1, 0, out ++ [R], by omega, by first | rfl | simp, rfl, by decide, Hl2.out, HO2, HST, Hown.out, hb2⟩
        · obtain ⟨R, hR⟩ : ∃ R, d1 + 32768 = R + c + d2 := ⟨d1 + 32768 - c - d2, by omega⟩
          have HST := Lib.hid (less_step l1 l2 out i c R 1 hlen Hv.out (by rw [hd1, hd2]; show d1 + 32768 * 1 = R + c + d2; omega))
          have hsum : (d1 : Int) - (c : Int) - (d2 : Int) = (R : Int) - 32768 := by omega
          have hnn : (R : Int) - 32768 < 0 := by omega
          have hnn2 : (R : Int) < 32768 := by omega
          have hR1 : R < 32768 := by omega
          have HO2 : Hid (ok (out ++ [R])) := ok_snoc Hok.out hR1
          have Hi : Hid (ints (out ++ [R]) = ints out ++ [.int .i64 (R : Int)]) := ints_snoc _ _
          have Hl2 : Hid ((out ++ [R]).length = i + 1) := by unfold Hid; simp [hlen]
          clear hR hd1 hd2
          go_wp2_with (at_builtin; refine wpList_append2 _ rfl _ _ 27 rfl w.heap.size 3 (.int .i64 0) 1 8 Tryd.underlying27 info_int rfl (by decide) (.slice av i capv) i _ rfl (hown.alloc _) _ _ 1 [.int .i64 (R : Int)] rfl (reads_new _ _ _ 1 1 (by decide) (by decide)) rfl ?an2 ?an3 ?an4 ?an5 ?_)
          case an2 => simp [Value.oneCell']
          case an3 => unfold maxLen; omega
          case an4 => omega
          case an5 => first | omega | (simp; omega)
          intro v' w2 hown2 hgrow hmov
          obtain ⟨a2, cap2, rfl⟩ := own_form hown2
          have hb2 : Hid (Below w.heap.size w w2) := (Hb.out.alloc Hb.out.size _).grown hgrow (by simp; omega) (fun j e => (hown.lt j e).1)
          rw [← Hi.out] at hown2
          have Hown := Lib.hid hown2
          clear hown2 hgrow hmov hown
          go_wp2_with fail
          go_roundg q
          case measure => omega
          case rel => exact ⟨i + 1, 1, out ++ [R], by omega, by first | rfl | simp, rfl, by decide, Hl2.out, HO2, HST, Hown.out, hb2⟩
      · have hd2 : l2[i]? = none := List.getElem?_eq_none (by rw [← Hm.out]; omega)
        have t2 : ¬ ((i : Int) < (m : Int)) := by omega
        obtain ⟨d1, hd1⟩ : ∃ d, l1[i]? = some d := ⟨_, List.getElem?_eq_getElem (by rw [← Hn.out]; omega)⟩
        obtain ⟨g1, o1, rfl, e1⟩ := cell_at (n := n) (cap := c1) P3.out Hb.out i d1 hd1
        have hb1 : d1 < 32768 := O1.out d1 (List.mem_of_getElem? hd1)
        have t1 : (i : Int) < (n : Int) := by omega
        have d1b : (d1 : Int) - (c : Int) ≥ -1 := by omega
        by_cases hp : c + 0 ≤ d1
        · obtain ⟨R, hR⟩ : ∃ R, d1 = R + c + 0 := ⟨d1 - c - 0, by omega⟩
          have HST := Lib.hid (less_step l1 l2 out i c R 0 hlen Hv.out (by rw [hd1, hd2]; show d1 + 32768 * 0 = R + c + 0; omega))
          have hsum : (d1 : Int) - (c : Int) = (R : Int) := by omega
          have hnn : ¬ ((R : Int) < 0) := by omega
          have hR1 : R < 32768 := by omega
          have HO2 : Hid (ok (out ++ [R])) := ok_snoc Hok.out hR1
          have Hi : Hid (ints (out ++ [R]) = ints out ++ [.int .i64 (R : Int)]) := ints_snoc _ _
          have Hl2 : Hid ((out ++ [R]).length = i + 1) := by unfold Hid; simp [hlen]
          clear hR hd1 hd2
          go_wp2_with (at_builtin; refine wpList_append2 _ rfl _ _ 27 rfl w.heap.size 3 (.int .i64 0) 1 8 Tryd.underlying27 info_int rfl (by decide) (.slice av i capv) i _ rfl (hown.alloc _) _ _ 1 [.int .i64 (R : Int)] rfl (reads_new _ _ _ 1 1 (by decide) (by decide)) rfl ?d2 ?d3 ?d4 ?d5 ?_)
          case d2 => simp [Value.oneCell']
          case d3 => unfold maxLen; omega
          case d4 => omega
          case d5 => first | omega | (simp; omega)
          intro v' w2 hown2 hgrow hmov
          obtain ⟨a2, cap2, rfl⟩ := own_form hown2
          have hb2 : Hid (Below w.heap.size w w2) := (Hb.out.alloc Hb.out.size _).grown hgrow (by simp; omega) (fun j e => (hown.lt j e).1)
          rw [← Hi.out] at hown2
          have Hown := Lib.hid hown2
          clear hown2 hgrow hmov hown
          go_wp2_with fail
          go_roundg q
          case measure => omega
          case rel => exact ⟨i + 1, 0, out ++ [R], by omega, by first | rfl | simp, rfl, by decide, Hl2.out, HO2, HST, Hown.out, hb2⟩
        · obtain ⟨R, hR⟩ : ∃ R, d1 + 32768 = R + c + 0 := ⟨d1 + 32768 - c - 0, by omega⟩
          have HST := Lib.hid (less_step l1 l2 out i c R 1 hlen Hv.out (by rw [hd1, hd2]; show d1 + 32768 * 1 = R + c + 0; omega))
          have hsum : (d1 : Int) - (c : Int) = (R : Int) - 32768 := by omega
          have hnn : (R : Int) - 32768 < 0 := by omega
          have hnn2 : (R : Int) < 32768 := by omega
          have hR1 : R < 32768 := by omega
          have HO2 : Hid (ok (out ++ [R])) := ok_snoc Hok.out hR1
          have Hi : Hid (ints (out ++ [R]) = ints out ++ [.int .i64 (R : Int)]) := ints_snoc _ _
          have Hl2 : Hid ((out ++ [R]).length = i + 1) := by unfold Hid; simp [hlen]
          clear hR hd1 hd2
          go_wp2_with (at_builtin; refine wpList_append2 _ rfl _ _ 27 rfl w.heap.size 3 (.int .i64 0) 1 8 Tryd.underlying27 info_int rfl (by decide) (.slice av i capv) i _ rfl (hown.alloc _) _ _ 1 [.int .i64 (R : Int)] rfl (reads_new _ _ _ 1 1 (by decide) (by decide)) rfl ?dn2 ?dn3 ?dn4 ?dn5 ?_)
          case dn2 => simp [Value.oneCell']
          case dn3 => unfold maxLen; omega
          case dn4 => omega
          case dn5 => first | omega | (simp; omega)
          intro v' w2 hown2 hgrow hmov
          obtain ⟨a2, cap2, rfl⟩ := own_form hown2
          have hb2 : Hid (Below w.heap.size w w2) := (Hb.out.alloc Hb.out.size _).grown hgrow (by simp; omega) (fun j e => (hown.lt j e).1)
          rw [← Hi.out] at hown2
          have Hown := Lib.hid hown2
          clear hown2 hgrow hmov hown
          go_wp2_with fail
          go_roundg q
          case measure => omega
          case rel => exact ⟨i + 1, 1, out ++ [R], by omega, by first | rfl | simp, rfl, by decide, Hl2.out, HO2, HST, Hown.out, hb2⟩
end Go.Proofs.YtkhpfdgkmnifcaaDoor
