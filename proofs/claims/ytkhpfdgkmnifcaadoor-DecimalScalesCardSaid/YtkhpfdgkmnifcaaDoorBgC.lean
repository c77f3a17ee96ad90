/- gromaref01's sizes, Cmp, Sign. -/
import Derived.Test.YtkhpfdgkmnifcaaDoorBgB
set_option linter.unusedVariables false
set_option linter.unusedSimpArgs false
namespace Go.Proofs.YtkhpfdgkmnifcaaDoor
open Go.RowKit Go.Rg Bg
attribute [local go_sem] Oper.semAt_some

theorem cell_at {w wx : World} {a : Option Addr} {B n cap : Nat} {l : List Nat} (h : l ≠ [] → ∃ g off, a = some ⟨g, off, none⟩ ∧ g < B ∧ ∀ (i d : Nat), l[i]? = some d → w.cell? ⟨g, off + i, none⟩ = some (.int .i64 (d : Int))) (hb : Below B w wx) (i d : Nat) (hd : l[i]? = some d) :
    ∃ g off, a = some ⟨g, off, none⟩ ∧ wx.cell? ⟨g, off + i, none⟩ = some (.int .i64 (d : Int)) := by
  obtain ⟨g, off, h1, h2, h3⟩ := h (fun e => by rw [e] at hd; cases hd)
  exact ⟨g, off, h1, (hb.cell (p := ⟨g, off + i, none⟩) h2).trans (h3 i d hd)⟩

set_option maxHeartbeats 1000000 in
theorem sizes_any (s1 s2 : Value) (l1 l2 : List Nat) (w : World) (h1 : RdN w w.heap.size s1 l1.length (ints l1)) (h2 : RdN w w.heap.size s2 l2.length (ints l2)) (ho1 : ok l1) (ho2 : ok l2) (hz1 : nz l1) (hz2 : nz l2) (hl1 : l1.length ≤ 100000) (hl2 : l2.length ≤ 100000) :
    Calls Tryd.prog 27 #[s1, s2] w fun e w' => e = .returned (.int .i64 (cmpN (val l1) (val l2))) ∧ Below w.heap.size w w' := by
  obtain ⟨a1, c1, rfl, p1, p2, p3⟩ := reads_digits h1
  obtain ⟨a2, c2, rfl, q1, q2, q3⟩ := reads_digits h2
  unfold maxLen at p2 q2
  have P3 := Lib.hid p3
  have Q3 := Lib.hid q3
  obtain ⟨n, hn⟩ : ∃ n, n = l1.length := ⟨_, rfl⟩
  obtain ⟨m, hm⟩ : ∃ m, m = l2.length := ⟨_, rfl⟩
  rw [← hn] at p1 hl1 ⊢
  rw [← hm] at q1 hl2 ⊢
  have Hn := Lib.hid hn
  have Hm := Lib.hid hm
  have O1 := Lib.hid ho1
  have O2 := Lib.hid ho2
  have Z1 := Lib.hid hz1
  have Z2 := Lib.hid hz2
  clear p3 q3 hn hm ho1 ho2 hz1 hz2 h1 h2
  have one : Hid (val l1 < val l2 → cmpN (val l1) (val l2) = -1) := fun h => by unfold cmpN; rw [if_pos h]
  have two : Hid (val l2 < val l1 → cmpN (val l1) (val l2) = 1) := fun h => by unfold cmpN; rw [if_neg (by omega), if_pos h]
  have three : Hid (val l1 = val l2 → cmpN (val l1) (val l2) = 0) := fun h => by unfold cmpN; rw [if_neg (by omega), if_neg (by omega)]
  generalize cmpN (val l1) (val l2) = R at *
  by_cases hlt : n < m
  · have HR := Lib.hid (one.out (shorter O1.out Z2.out (by rw [← Hn.out, ← Hm.out]; exact hlt)))
    have hne : ((n : Int) == (m : Int)) = false := by rw [beq_eq_false_iff_ne]; omega
    have hne2 : ((n : Int) != (m : Int)) = true := by rw [bne, hne]; rfl
    go_enter Tryd.func27, Tryd.ntmps27
    go_wp2_with fail
    go_ret
    exact ⟨by rw [HR.out]; rfl, Below.refl _ _⟩
  by_cases hgt : m < n
  · have HR := Lib.hid (two.out (shorter O2.out Z1.out (by rw [← Hn.out, ← Hm.out]; exact hgt)))
    have hne : ((n : Int) == (m : Int)) = false := by rw [beq_eq_false_iff_ne]; omega
    have hne2 : ((n : Int) != (m : Int)) = true := by rw [bne, hne]; rfl
    go_enter Tryd.func27, Tryd.ntmps27
    go_wp2_with fail
    go_ret
    exact ⟨by rw [HR.out]; rfl, Below.refl _ _⟩
  obtain rfl : n = m := by omega
  clear hlt hgt
  have hlen : Hid (l1.length = l2.length) := Hn.out.symm.trans Hm.out
  go_enter Tryd.func27, Tryd.ntmps27
  go_wp2_with fail
  go_loopg [5] n (fun q s5 wx => s5 = .int .i64 ((q : Int) - 1) ∧ q ≤ n ∧ Hid (l1.drop q = l2.drop q) ∧ Hid (Below w.heap.size w wx))
  case atStart => exact ⟨rfl, Nat.le_refl _, by unfold Hid; rw [List.drop_of_length_le (by rw [← Hn.out]; exact Nat.le_refl _), List.drop_of_length_le (by rw [← Hm.out]; exact Nat.le_refl _)], Below.refl _ _⟩
  case round =>
    obtain ⟨rfl, hq, Hd, Hb⟩ := hrel
    cases gk with
    | zero =>
      have HR := Lib.hid (three.out (by have := Hd.out; rw [List.drop_zero, List.drop_zero] at this; rw [this]))
      go_wp2_with fail
      go_ret
      exact ⟨by rw [HR.out]; rfl, Hb.out⟩
    | succ q =>
      obtain ⟨d1, hd1⟩ : ∃ d, l1[q]? = some d := ⟨_, List.getElem?_eq_getElem (by rw [← Hn.out]; omega)⟩
      obtain ⟨d2, hd2⟩ : ∃ d, l2[q]? = some d := ⟨_, List.getElem?_eq_getElem (by rw [← Hm.out]; omega)⟩
      obtain ⟨g1, o1, rfl, e1⟩ := cell_at (n := n) (cap := c1) P3.out Hb.out q d1 hd1
      obtain ⟨g2, o2, rfl, e2⟩ := cell_at (n := n) (cap := c2) Q3.out Hb.out q d2 hd2
      have hqi : ((q + 1 : Nat) : Int) - 1 = (q : Int) := by omega
      rw [hqi]
      have hq0 : (0 : Int) ≤ (q : Int) := by omega
      have hq1 : (q : Int) < (n : Int) := by omega
      have hqn : ((q : Int)).toNat = q := by omega
      by_cases hlt : d1 < d2
      · have HR := Lib.hid (one.out (less_at O1.out hlen.out Hd.out hd1 hd2 hlt))
        have hlt' : (d1 : Int) < (d2 : Int) := by omega
        clear hd1 hd2 hqi
        go_wp2_with fail
        go_quiet (fail)
        go_wp2_with fail
        go_ret
        exact ⟨by rw [HR.out]; rfl, below_drewN Hb.out _⟩
      · by_cases hgt : d2 < d1
        · have HR := Lib.hid (two.out (less_at O2.out hlen.out.symm Hd.out.symm hd2 hd1 hgt))
          have hgt' : (d2 : Int) < (d1 : Int) := by omega
          clear hd1 hd2 hqi
          go_wp2_with fail
          go_quiet (fail)
          go_wp2_with fail
          go_quiet (fail)
          go_wp2_with fail
          go_ret
          exact ⟨by rw [HR.out]; rfl, below_drewN (below_drewN Hb.out _) _⟩
        · obtain rfl : d1 = d2 := by omega
          have HS := Lib.hid (same_at Hd.out hd1 hd2)
          clear hd1 hd2 hqi hlt hgt
          go_wp2_with fail
          go_quiet (fail)
          go_wp2_with fail
          go_quiet (fail)
          go_wp2_with fail
          go_roundg q
          case measure => omega
          case rel => exact ⟨by first | rfl | simp, by omega, HS, below_drewN Hb.out _⟩

def lim : Nat := 32768 ^ 200
theorem sgn_pos {neg : Bool} {l : List Nat} (hz : nz l) (hn : l = [] → neg = false) (h : neg = true) : 0 < val l := by
  rcases Nat.eq_zero_or_pos (val l) with h0 | h0
  · have := hn (nz_zero hz h0); rw [h] at this; cases this
  · exact h0
theorem cmp_signs {n1 n2 : Bool} {l1 l2 : List Nat} (z1 : nz l1) (h1 : l1 = [] → n1 = false) (z2 : nz l2) (h2 : l2 = [] → n2 = false) :
    cmpI (sgn n1 (val l1)) (sgn n2 (val l2)) = if n1 = n2 then (if n1 then cmpN (val l2) (val l1) else cmpN (val l1) (val l2)) else if n1 then -1 else 1 := by
  have p1 := sgn_pos z1 h1
  have p2 := sgn_pos z2 h2
  unfold cmpI cmpN sgn
  cases n1 <;> cases n2 <;> simp at p1 p2 ⊢
  · repeat' split
    all_goals first | rfl | omega
  · repeat' split
    all_goals first | rfl | omega

set_option maxHeartbeats 1000000 in
theorem cmp_any (v1 v2 : Value) (x y : Int) (w : World) (b1 : Big w v1 x) (b2 : Big w v2 y) (hx : x.natAbs < lim) (hy : y.natAbs < lim) :
    Calls Tryd.prog 15 #[v1, v2] w fun e w' => e = .returned (.int .i64 (cmpI x y)) ∧ Below w.heap.size w w' := by
  obtain ⟨n1, l1, ⟨s1, rfl, r1⟩, o1, z1, m1, e1, k1⟩ := b1.small hx
  obtain ⟨n2, l2, ⟨s2, rfl, r2⟩, o2, z2, m2, e2, k2⟩ := b2.small hy
  have hc := cmp_signs z1 m1 z2 m2
  rw [← e1, ← e2] at hc
  have HC := Lib.hid hc
  generalize cmpI x y = R at *
  have S12 : Hid (∀ X, Below w.heap.size w X → Calls Tryd.prog 27 #[s1, s2] X fun e X' => e = .returned (.int .i64 (cmpN (val l1) (val l2))) ∧ Below X.heap.size X X') := fun X hX =>
    sizes_any s1 s2 l1 l2 X ((r1.below hX).mono hX.size) ((r2.below hX).mono hX.size) o1 o2 z1 z2 (by omega) (by omega)
  have S21 : Hid (∀ X, Below w.heap.size w X → Calls Tryd.prog 27 #[s2, s1] X fun e X' => e = .returned (.int .i64 (cmpN (val l2) (val l1))) ∧ Below X.heap.size X X') := fun X hX =>
    sizes_any s2 s1 l2 l1 X ((r2.below hX).mono hX.size) ((r1.below hX).mono hX.size) o2 o1 z2 z1 (by omega) (by omega)
  obtain ⟨a1, c1, rfl, _⟩ := reads_digits r1
  obtain ⟨a2, c2, rfl, _⟩ := reads_digits r2
  clear o1 z1 m1 e1 k1 o2 z2 m2 e2 k2 hc r1 r2 hx hy
  cases n1 <;> cases n2
  · have hR : Hid (R = cmpN (val l1) (val l2)) := HC.out
    generalize cmpN (val l1) (val l2) = R1 at *
    go_enter Tryd.func15, Tryd.ntmps15
    go_wp2_with fail
    refine (S12.out _ (by go_grown)).mono ?_
    rintro e w5 ⟨rfl, hb5⟩
    have hb6 : Below w.heap.size w w5 := by
      refine Below.trans ?_ (hb5.mono ?_)
      · go_grown
      · simp; omega
    clear hb5
    go_wp2_with fail
    go_ret
    exact ⟨by rw [hR.out]; rfl, hb6⟩
  · have hR : Hid (R = 1) := HC.out
    go_enter Tryd.func15, Tryd.ntmps15
    go_wp2_with fail
    go_ret
    exact ⟨by rw [hR.out]; rfl, by go_grown⟩
  · have hR : Hid (R = -1) := HC.out
    go_enter Tryd.func15, Tryd.ntmps15
    go_wp2_with fail
    go_ret
    exact ⟨by rw [hR.out]; rfl, by go_grown⟩
  · have hR : Hid (R = cmpN (val l2) (val l1)) := HC.out
    generalize cmpN (val l2) (val l1) = R1 at *
    go_enter Tryd.func15, Tryd.ntmps15
    go_wp2_with fail
    refine (S21.out _ (by go_grown)).mono ?_
    rintro e w5 ⟨rfl, hb5⟩
    have hb6 : Below w.heap.size w w5 := by
      refine Below.trans ?_ (hb5.mono ?_)
      · go_grown
      · simp; omega
    clear hb5
    go_wp2_with fail
    go_ret
    exact ⟨by rw [hR.out]; rfl, hb6⟩

theorem sign_any (v : Value) (x : Int) (w : World) (b : Big w v x) (hx : x.natAbs < lim) :
    Calls Tryd.prog 20 #[v] w fun e w' => e = .returned (.int .i64 (cmpI x 0)) ∧ Below w.heap.size w w' := by
  have hC : Hid (∀ X, Below w.heap.size w X → Calls Tryd.prog 15 #[v, .agg #[.bool false, .slice none 0 0]] X fun e X' => e = .returned (.int .i64 (cmpI x 0)) ∧ Below X.heap.size X X') := fun X hX =>
    cmp_any _ _ x 0 X (b.call hX) (big_zero X) hx (by unfold lim; exact Nat.pow_pos (by decide))
  obtain ⟨n1, l1, ⟨s1, rfl, r1⟩, _⟩ := b
  obtain ⟨a1, c1, rfl, _⟩ := reads_digits r1
  clear r1 hx
  generalize cmpI x 0 = R at *
  go_enter Tryd.func20, Tryd.ntmps20
  go_wp2_with fail
  refine (hC.out _ (by go_grown)).mono ?_
  rintro e w5 ⟨rfl, hb5⟩
  have hb6 : Below w.heap.size w w5 := by
    refine Below.trans ?_ (hb5.mono ?_)
    · go_grown
    · simp
  clear hb5
  go_wp2_with fail
  go_ret
  exact ⟨rfl, hb6⟩
end Go.Proofs.YtkhpfdgkmnifcaaDoor
