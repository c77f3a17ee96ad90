/- gromaref01's Mul. -/
import Derived.Test.YtkhpfdgkmnifcaaDoorBgF
import Derived.Deep.OwnRows
set_option linter.unusedVariables false
set_option linter.unusedSimpArgs false
namespace Go.Proofs.YtkhpfdgkmnifcaaDoor
open Go.RowKit Go.Rg Bg
attribute [local go_sem] Oper.semAt_some

/-- block g holds these digits, and may be written -/
def Dig (w : World) (g : Nat) (l : List Nat) : Prop := Blk w g (ints l) 3
theorem Dig.cell {w : World} {g : Nat} {l : List Nat} (h : Dig w g l) {i d : Nat} (hd : l[i]? = some d) : w.cell? ⟨g, i, none⟩ = some (.int .i64 (d : Int)) := Blk.cell h (ints_at hd)
theorem Dig.set {w : World} {g : Nat} {l : List Nat} (h : Dig w g l) (i d : Nat) : Dig (w.setCell ⟨g, i, none⟩ (.int .i64 (d : Int))) g (l.set i d) := by
  have := Blk.set h i (.int .i64 (d : Int))
  unfold Dig ints
  rw [List.map_set]
  exact this
theorem Dig.reads {w : World} {g : Nat} {l : List Nat} (h : Dig w g l) (hl : l.length ≤ maxLen) : RdN w w.heap.size (.slice (some ⟨g, 0, none⟩) l.length l.length) l.length (ints l) :=
  ⟨.inr ⟨g, 0, l.length, rfl, Blk.lt h, Nat.le_refl _, hl, fun j x hj => by rw [Nat.zero_add]; exact Blk.cell h hj⟩,
    .inr ⟨g, 0, l.length, _, _, rfl, h, Nat.le_refl _, hl, fun j x hj => by rw [Nat.zero_add]; simpa using hj⟩⟩

theorem mul_sgn (n1 n2 : Bool) (a b : Nat) : sgn n1 a * sgn n2 b = sgn (n1 != n2) (a * b) := by
  unfold sgn; cases n1 <;> cases n2 <;> simp [Int.neg_mul, Int.mul_neg]

set_option maxHeartbeats 4000000 in
theorem mul_any (v1 v2 : Value) (x y : Int) (w : World) (b1 : Big w v1 x) (b2 : Big w v2 y) (hx : x.natAbs < lim) (hy : y.natAbs < lim) :
    Calls Tryd.prog 13 #[v1, v2] w fun e w' => ∃ v, e = .returned v ∧ Big w' v (x * y) ∧ Below w.heap.size w w' := by
  obtain ⟨n1, l1, ⟨s1, rfl, r1⟩, o1, z1, m1, e1, q1⟩ := b1.small hx
  obtain ⟨n2, l2, ⟨s2, rfl, r2⟩, o2, z2, m2, e2, q2⟩ := b2.small hy
  obtain ⟨a1, c1, rfl, p1, p2, p3⟩ := reads_digits r1
  obtain ⟨a2, c2, rfl, u1, u2, u3⟩ := reads_digits r2
  unfold maxLen at p2 u2
  have P3 := Lib.hid p3
  have U3 := Lib.hid u3
  have O1 := Lib.hid o1
  have O2 := Lib.hid o2
  have HV : Hid (x * y = sgn (n1 != n2) (val l1 * val l2)) := by unfold Hid; rw [e1, e2, mul_sgn]
  obtain ⟨k1, hk1⟩ : ∃ k, k = l1.length := ⟨_, rfl⟩
  obtain ⟨k2, hk2⟩ : ∃ k, k = l2.length := ⟨_, rfl⟩
  rw [← hk1] at q1 p1 ⊢
  rw [← hk2] at q2 u1 ⊢
  have K1 := Lib.hid hk1
  have K2 := Lib.hid hk2
  clear r1 r2 o1 o2 z1 z2 m1 m2 e1 e2 hk1 hk2 hx hy b1 b2 p3 u3
  obtain ⟨N, hN⟩ : ∃ N, N = k1 + k2 + 1 := ⟨_, rfl⟩
  have hsum : (k1 : Int) + (k2 : Int) + 1 = (N : Int) := by omega
  have hmk := run_make_row' (P := Tryd.prog) 27 3 (.int .i64 0) 8 Tryd.underlying27 info_int rfl .i64 .i64 N (by omega) (by omega)
  have hmd : madeCells #[.int .i64 0] N = (ints (List.replicate N 0)).toArray := by
    apply Array.ext'
    rw [toList_madeCells_one]
    unfold ints
    rw [List.map_replicate]; rfl
  rw [hmd] at hmk
  clear hmd
  have HN := Lib.hid hN
  clear hN
  go_enter Tryd.func13, Tryd.ntmps13
  go_wp2_with fail
  obtain ⟨W, hW⟩ : ∃ W, ([.cells #[.bool n1, .slice a1 k1 c1] 29, .cells #[.bool n2, .slice a2 k2 c2] 29, .cells #[.bool false, .slice none 0 0] 29, .cells (ints (List.replicate N 0)).toArray 3] : List Obj).foldl World.alloc w = W := ⟨_, rfl⟩
  have hB1 : Blk W (w.heap.size + 0) [.bool n1, .slice a1 k1 c1] 29 := Blk.allocs _ hW 0 rfl
  have hB2 : Blk W (w.heap.size + 1) [.bool n2, .slice a2 k2 c2] 29 := Blk.allocs _ hW 1 rfl
  have hB3 : Blk W (w.heap.size + 2) [.bool false, .slice none 0 0] 29 := Blk.allocs _ hW 2 rfl
  have hD : Dig W (w.heap.size + 3) (List.replicate N 0) := Blk.allocs _ hW 3 rfl
  have hBw : Below w.heap.size w W := hW ▸ allocs_below _ w
  have hsz : w.heap.size + 3 < W.heap.size := Blk.lt hD
  simp only [List.foldl_cons, List.foldl_nil] at hW
  rw [hW]
  clear hW
  obtain ⟨G1, hG1⟩ : ∃ G, w.heap.size + 1 = G := ⟨_, rfl⟩
  obtain ⟨G2, hG2⟩ : ∃ G, G1 + 1 = G := ⟨_, rfl⟩
  obtain ⟨G, hG⟩ : ∃ G, G2 + 1 = G := ⟨_, rfl⟩
  rw [show w.heap.size + 3 = G by omega] at hD
  rw [show w.heap.size + 2 = G2 by omega] at hB3
  rw [hG1] at hB2
  rw [Nat.add_zero] at hB1
  rw [hG1, hG2, hG]
  have g1 : w.heap.size < G1 := by omega
  have g2 : G1 < G2 := by omega
  have g3 : G2 < G := by omega
  clear hG1 hG2 hG hsz
  have HB1 := Lib.hid hB1
  have HB2 := Lib.hid hB2
  have HB3 := Lib.hid hB3
  have HD := Lib.hid hD
  have HBw := Lib.hid hBw
  clear hB1 hB2 hB3 hD hBw
  go_loopg [6] k1 (fun q s6 wx => ∃ (i : Nat) (out : List Nat), i + q = k1 ∧ s6 = .int .i64 (i : Int) ∧ out.length = N ∧ Hid (ok out) ∧ Hid (∀ j, i + k2 ≤ j → out[j]?.getD 0 = 0) ∧ Hid (val out = val (l1.take i) * val l2) ∧ Hid (Dig wx G out) ∧
    Hid (Blk wx w.heap.size [.bool n1, .slice a1 k1 c1] 29) ∧ Hid (Blk wx G1 [.bool n2, .slice a2 k2 c2] 29) ∧ Hid (Blk wx G2 [.bool false, .slice none 0 0] 29) ∧ Hid (Below w.heap.size w wx))
  case atStart =>
    refine ⟨0, List.replicate N 0, by omega, rfl, List.length_replicate, ok_zeros N, fun j _ => ?_, ?_, HD, HB1, HB2, HB3, HBw⟩
    · rw [List.getElem?_replicate]; split <;> rfl
    · unfold Hid; rw [val_zeros]; simp [val]
  case round =>
    obtain ⟨i, out, hiq, rfl, hlen, Hok, Hz, Hv, HD, HB1, HB2, HB3, HBw⟩ := hrel
    have x0 := HB1.out.cell (j := 0) rfl
    have x1 := HB1.out.cell (j := 1) rfl
    have y0 := HB2.out.cell (j := 0) rfl
    have y1 := HB2.out.cell (j := 1) rfl
    cases gk with
    | zero =>
      have t1 : ¬ ((i : Int) < (k1 : Int)) := by omega
      have hin : i = k1 := by omega
      subst hin
      have HV2 : Hid (val out = val l1 * val l2) := by unfold Hid; rw [Hv.out, K1.out, List.take_length]
      have HR := Lib.hid (HD.out.reads (by rw [hlen]; unfold maxLen; omega))
      have HLen := Lib.hid hlen
      have hneg : ∀ b1 b2 : Bool, (!decide (b1 = b2)) = (b1 != b2) := by decide
      have HT : Hid (∀ n, Calls Tryd.prog 26 #[.agg #[.bool n, .slice (some ⟨G, 0, none⟩) N N]] wr fun e w' => ∃ v, e = .returned v ∧ Big w' v (sgn n (val out)) ∧ Below wr.heap.size wr w') := fun n => by
        have := trim_any n (.slice (some ⟨G, 0, none⟩) out.length out.length) out wr HR.out Hok.out (by rw [hlen]; omega)
        rw [HLen.out] at this
        exact this
      clear hlen
      cases n1 <;> cases n2
      all_goals (
        go_wp2_with fail
        refine (HT.out _).mono ?_
        rintro e w6 ⟨v6, rfl, H6, hb6⟩
        rw [HV2.out] at H6
        obtain ⟨n6, a6, m6, c6, rfl, b0, b1, bf, z0, z1, HH, Hbp⟩ := H6.ends (HB3.out.call hb6) (HBw.out.trans (hb6.mono HBw.out.size)) (by omega)
        clear hb6 H6
        go_wp2_with fail
        refine bodyPost_ret (v := .agg #[.bool n6, .slice a6 m6 c6]) (by simp [results, Tryd.results13, go_sem, *]) rfl ⟨_, rfl, ?_, Hbp.out⟩
        rw [HV.out]
        exact HH.out)
    | succ q =>
      have t1 : (i : Int) < (k1 : Int) := by omega
      obtain ⟨d1, hd1⟩ : ∃ d, l1[i]? = some d := ⟨_, List.getElem?_eq_getElem (by rw [← K1.out]; omega)⟩
      have hdb1 : d1 < 32768 := O1.out d1 (List.mem_of_getElem? hd1)
      have Hd1 := Lib.hid hd1
      clear hd1
      have hR0 : Hid (val (l1.take i) * val l2 = val out) := Hv.out.symm
      go_wp2_with fail
      go_loopg [7, 8] k2 (fun qq s7 s8 wx => ∃ (k c : Nat) (o2 : List Nat), k + qq = k2 ∧ s8 = .int .i64 (k : Int) ∧ s7 = .int .i64 (c : Int) ∧ c < 32768 ∧ o2.length = N ∧ Hid (ok o2) ∧ Hid (∀ j, i + k2 ≤ j → o2[j]?.getD 0 = 0) ∧ Hid (val o2 + 32768 ^ (i + k) * c = val (l1.take i) * val l2 + 32768 ^ i * (d1 * val (l2.take k))) ∧ Hid (Dig wx G o2) ∧
        Hid (Blk wx w.heap.size [.bool n1, .slice a1 k1 c1] 29) ∧ Hid (Blk wx G1 [.bool n2, .slice a2 k2 c2] 29) ∧ Hid (Blk wx G2 [.bool false, .slice none 0 0] 29) ∧ Hid (Below w.heap.size w wx))
      case atStart => exact ⟨0, 0, out, by omega, rfl, rfl, by decide, hlen, Hok, Hz, by unfold Hid; rw [Hv.out]; simp [val], HD, HB1, HB2, HB3, HBw⟩
      case round =>
        clear x0 x1 y0 y1 HD HB1 HB2 HB3 HBw Hok Hz hR0 Hv hlen
        obtain ⟨k, c, o2, hkq, rfl, rfl, hc, hlen, Hok, Hz, Hv, HD, HB1, HB2, HB3, HBw⟩ := hrel
        have x0 := HB1.out.cell (j := 0) rfl
        have x1 := HB1.out.cell (j := 1) rfl
        have y0 := HB2.out.cell (j := 0) rfl
        have y1 := HB2.out.cell (j := 1) rfl
        cases gk with
        | zero =>
          have t2 : ¬ ((k : Int) < (k2 : Int)) := by omega
          have hkn : k = k2 := by omega
          subst hkn
          have hN2 := HN.out
          obtain ⟨j, hj⟩ : ∃ j, j = i + k := ⟨_, rfl⟩
          have hjj : (i : Int) + (k : Int) = (j : Int) := by omega
          have hjN : j < N := by omega
          have hj0 : (0 : Int) ≤ (j : Int) := by omega
          have hj1 : (j : Int) < (N : Int) := by omega
          have h0 := Hz.out j (by omega)
          rw [List.getElem?_eq_getElem (by rw [hlen]; exact hjN)] at h0
          have e0 := HD.out.cell (i := j) (List.getElem?_eq_getElem (by rw [hlen]; exact hjN))
          have ef := Blk.frozen HD.out j
          have h00 : o2[j]'(by rw [hlen]; exact hjN) = 0 := h0
          rw [h00] at e0
          have HV3 : Hid (val (o2.set j c) = val (l1.take (i + 1)) * val l2) := by
            unfold Hid
            have := mul_row o2 l1 l2 i d1 c (by rw [hlen, ← K2.out, ← hj]; exact hjN) Hd1.out (by have := h00; simp only [hj, K2.out] at this; exact this) (by have := Hv.out; rw [K2.out] at this; exact this)
            rw [← K2.out, ← hj] at this
            exact this
          have HO3 := Lib.hid (ok_set Hok.out j hc)
          have HZ3 : Hid (∀ t, i + 1 + k ≤ t → (o2.set j c)[t]?.getD 0 = 0) := fun t ht => by
            rw [set_at _ _ _ _ (by omega)]; exact Hz.out t (by omega)
          have HL3 : Hid ((o2.set j c).length = N) := by unfold Hid; rw [List.length_set]; exact hlen
          have HD3 := Lib.hid (HD.out.set j c)
          have C1 := Lib.hid (HB1.out.other ⟨G, j, none⟩ (by show w.heap.size ≠ G; omega) (.int .i64 (c : Int)))
          have C2 := Lib.hid (HB2.out.other ⟨G, j, none⟩ (by show G1 ≠ G; omega) (.int .i64 (c : Int)))
          have C3 := Lib.hid (HB3.out.other ⟨G, j, none⟩ (by show G2 ≠ G; omega) (.int .i64 (c : Int)))
          have CW := Lib.hid (HBw.out.setCell (p := ⟨G, j, none⟩) (by show w.heap.size ≤ G; omega) (.int .i64 (c : Int)))
          clear h0 h00 hj hN2
          go_wp2_with fail
          go_roundg q
          case measure => omega
          case rel => exact ⟨i + 1, o2.set j c, by omega, by first | rfl | simp, HL3.out, HO3, HZ3, HV3, HD3, C1, C2, C3, CW⟩
        | succ qq =>
          have t2 : (k : Int) < (k2 : Int) := by omega
          have hN2 := HN.out
          obtain ⟨d2, hd2⟩ : ∃ d, l2[k]? = some d := ⟨_, List.getElem?_eq_getElem (by rw [← K2.out]; omega)⟩
          have hdb2 : d2 < 32768 := O2.out d2 (List.mem_of_getElem? hd2)
          obtain ⟨p1', q1', rfl, f1⟩ := cell_at (n := k1) (cap := c1) P3.out HBw.out i d1 Hd1.out
          obtain ⟨p2', q2', rfl, f2⟩ := cell_at (n := k2) (cap := c2) U3.out HBw.out k d2 hd2
          obtain ⟨j, hj⟩ : ∃ j, j = i + k := ⟨_, rfl⟩
          have hjj : (i : Int) + (k : Int) = (j : Int) := by omega
          have hjN : j < N := by omega
          have hj0 : (0 : Int) ≤ (j : Int) := by omega
          have hj1 : (j : Int) < (N : Int) := by omega
          have hjl : j < o2.length := by rw [hlen]; exact hjN
          obtain ⟨o, ho⟩ : ∃ o, o = o2[j] := ⟨_, rfl⟩
          have e0 := HD.out.cell (i := j) (List.getElem?_eq_getElem hjl)
          rw [← ho] at e0
          have ef := Blk.frozen HD.out j
          have hob : o < 32768 := by rw [ho]; exact Hok.out _ (List.getElem_mem _)
          obtain ⟨cb1, cb2⟩ := mul_carry o d1 d2 c hob hdb1 hdb2 hc
          obtain ⟨PR, hPR⟩ : ∃ P, P = d1 * d2 := ⟨_, rfl⟩
          rw [← hPR] at cb1 cb2
          obtain ⟨NN, hNN⟩ : ∃ M, M = o + PR + c := ⟨_, rfl⟩
          rw [← hNN] at cb1 cb2
          obtain ⟨R, hR⟩ : ∃ R, R = NN % 32768 := ⟨_, rfl⟩
          obtain ⟨C, hC⟩ : ∃ C, C = NN / 32768 := ⟨_, rfl⟩
          have hstep := mul_step o2 l1 l2 (val (l1.take i) * val l2) d1 i k c NN (by rw [← hj]; exact hjl) (by rw [← K2.out]; omega) (by
            have e2 : l2[k]'(by rw [← K2.out]; omega) = d2 := by
              have := List.getElem?_eq_getElem (l := l2) (i := k) (by rw [← K2.out]; omega)
              rw [hd2] at this
              exact (Option.some.inj this).symm
            rw [e2, ← hPR, hNN]
            congr 2
            simp only [ho, hj]) Hv.out
          rw [← hR, ← hC, ← hj] at hstep
          have HST := Lib.hid hstep
          rw [← hC] at cb2
          have hRb : R < 32768 := by omega
          have hprod : (d1 : Int) * (d2 : Int) = (PR : Int) := by rw [hPR]; simp
          have hs3 : (o : Int) + (PR : Int) + (c : Int) = (NN : Int) := by omega
          have hrem : (NN : Int).tmod 32768 = (R : Int) := by rw [hR]; rfl
          have hquo : (NN : Int).tdiv 32768 = (C : Int) := by rw [hC]; rfl
          have HO3 := Lib.hid (ok_set Hok.out j hRb)
          have HZ3 : Hid (∀ t, i + k2 ≤ t → (o2.set j R)[t]?.getD 0 = 0) := fun t ht => by
            rw [set_at _ _ _ _ (by omega)]; exact Hz.out t ht
          have HL3 : Hid ((o2.set j R).length = N) := by unfold Hid; rw [List.length_set]; exact hlen
          have HD3 : Hid (∀ n, Dig ((wr.drewN n).setCell ⟨G, j, none⟩ (.int .i64 (R : Int))) G (o2.set j R)) := fun n => Dig.set (w := wr.drewN n) (show Dig (wr.drewN n) G o2 from HD.out) j R
          have C1 : Hid (∀ n, Blk ((wr.drewN n).setCell ⟨G, j, none⟩ (.int .i64 (R : Int))) w.heap.size _ _) := fun n => Blk.other (w := wr.drewN n) (show Blk (wr.drewN n) _ _ _ from HB1.out) ⟨G, j, none⟩ (by show w.heap.size ≠ G; omega) (.int .i64 (R : Int))
          have C2 : Hid (∀ n, Blk ((wr.drewN n).setCell ⟨G, j, none⟩ (.int .i64 (R : Int))) G1 _ _) := fun n => Blk.other (w := wr.drewN n) (show Blk (wr.drewN n) _ _ _ from HB2.out) ⟨G, j, none⟩ (by show G1 ≠ G; omega) (.int .i64 (R : Int))
          have C3 : Hid (∀ n, Blk ((wr.drewN n).setCell ⟨G, j, none⟩ (.int .i64 (R : Int))) G2 _ _) := fun n => Blk.other (w := wr.drewN n) (show Blk (wr.drewN n) _ _ _ from HB3.out) ⟨G, j, none⟩ (by show G2 ≠ G; omega) (.int .i64 (R : Int))
          have CW : Hid (∀ n, Below w.heap.size w ((wr.drewN n).setCell ⟨G, j, none⟩ (.int .i64 (R : Int)))) := fun n => (below_drewN HBw.out n).setCell (p := ⟨G, j, none⟩) (by show w.heap.size ≤ G; omega) (.int .i64 (R : Int))
          clear ho hPR hNN hR hC hj hN2 hstep hd2 hjl
          go_wp2_with fail
          go_quiet (fail)
          go_wp2_with fail
          go_roundg qq
          case measure => omega
          case rel => exact ⟨k + 1, C, o2.set j R, by omega, by first | rfl | simp, by first | rfl | simp, cb2, HL3.out, HO3, HZ3, HST, HD3.out _, C1.out _, C2.out _, C3.out _, CW.out _⟩
end Go.Proofs.YtkhpfdgkmnifcaaDoor
