/- gromaref01's Words (of one word), Of. -/
import Derived.Test.YtkhpfdgkmnifcaaDoorBgC
set_option linter.unusedVariables false
set_option linter.unusedSimpArgs false
namespace Go.Proofs.YtkhpfdgkmnifcaaDoor
open Go.RowKit Go.Rg Bg
attribute [local go_sem] Oper.semAt_some

theorem info_int : (Tryd.prog.info? 3).map (fun i => (i.zero, i.size, i.bytes)) = some (some (.int .i64 0), 1, 8) := by kernel_rfl

set_option maxHeartbeats 2000000 in
theorem words_any (b : Nat) (c : Nat) (u : Nat) (w : World) (hb : b < w.heap.size) (hc : w.cell? ⟨b, 0, none⟩ = some (.int .u64 (u : Int))) (hu : u < 18446744073709551616) :
    Calls Tryd.prog 25 #[.slice (some ⟨b, 0, none⟩) 1 c] w fun e w' => ∃ v, e = .returned v ∧ Big w' v (u : Int) ∧ Below w.heap.size w w' := by
  go_enter Tryd.func25, Tryd.ntmps25
  go_wp2_with fail
  obtain ⟨W, hW⟩ : ∃ W, w.alloc (.cells #[.bool false, .slice none 0 0] 29) = W := ⟨_, rfl⟩
  have hB2 : Blk W w.heap.size [.bool false, .slice none 0 0] 29 := hW ▸ Blk.new w _ _
  have hBw : Below w.heap.size w W := hW ▸ (Below.refl _ w).alloc (Nat.le_refl _) _
  have hsz : W.heap.size = w.heap.size + 1 := by rw [← hW]; simp
  rw [hW]
  clear hW
  have hc1 : W.cell? ⟨b, 0, none⟩ = some (.int .u64 (u : Int)) := (hBw.cell (p := ⟨b, 0, none⟩) hb).trans hc
  have hbW : b < W.heap.size := by omega
  have HB2 := Lib.hid hB2
  have HBw := Lib.hid hBw
  have HSZ := Lib.hid hsz
  clear hB2 hBw hc hsz
  go_loopg [3, 4, 5, 6] 64 (fun q s3 s4 s5 s6 wx => ∃ (i k m room : Nat) (out : List Nat), i + q = 64 ∧ i = 15 * k + m ∧ m < 15 ∧ s6 = .int .i64 (i : Int) ∧ s5 = .int .i64 (m : Int) ∧ s4 = .int .u64 (room : Int) ∧ room < 2 ^ m ∧ out.length = k ∧ Hid (ok out) ∧ Hid (val out + 32768 ^ k * room = u % 2 ^ i) ∧ wx.ownsRow W.heap.size 3 1 s3 k (ints out) ∧ Hid (Below W.heap.size W wx))
  case atStart => exact ⟨0, 0, 0, 0, [], rfl, rfl, by decide, rfl, rfl, rfl, by decide, rfl, zero_nil.2, by unfold Hid; simp [val]; omega, World.ownsRow_nil _ _ _ _, Below.refl _ _⟩
  case round =>
    obtain ⟨i, k, m, room, out, hiq, him, hm15, rfl, rfl, rfl, hroom, hlen, Hok, Hv, hown, Hb⟩ := hrel
    obtain ⟨av, capv, rfl⟩ := own_form hown
    cases gk with
    | zero =>
      have hin : i = 64 := by omega
      obtain rfl : k = 4 := by omega
      obtain rfl : m = 4 := by omega
      subst hin
      have hn16 : room < 16 := hroom
      have HV : Hid (val (out ++ [room]) = u) := by
        unfold Hid; rw [val_snoc, hlen, Hv.out]; exact Nat.mod_eq_of_lt (Nat.lt_of_lt_of_le hu (by decide))
      have HO2 : Hid (ok (out ++ [room])) := ok_snoc Hok.out (by omega)
      have Hi : Hid (ints (out ++ [room]) = ints out ++ [.int .i64 (room : Int)]) := ints_snoc _ _
      have hszq := Hb.out.size
      clear Hv hiq hroom
      go_wp2_with (at_builtin; refine wpList_append2 _ rfl _ _ 27 rfl W.heap.size 3 (.int .i64 0) 1 8 Tryd.underlying27 info_int rfl (by decide) (.slice av 4 capv) 4 _ rfl (hown.alloc _) _ _ 1 [.int .i64 (room : Int)] rfl (reads_new _ _ _ 1 1 (by decide) (by decide)) rfl ?c2 ?c3 ?c4 ?c5 ?_)
      case c2 => simp [Value.oneCell']
      case c3 => unfold maxLen; omega
      case c5 => first | omega | (simp; omega)
      intro v' w2 hown2 hgrow hmov
      obtain ⟨a2, cap2, rfl⟩ := own_form hown2
      have hb2 : Hid (Below W.heap.size W w2) := (Hb.out.alloc Hb.out.size _).grown hgrow (by simp; omega) (fun j e => (hown.lt j e).1)
      rw [← Hi.out] at hown2
      have Hown := Lib.hid hown2
      have hlen5 : (out ++ [room]).length = 5 := by simp [hlen]
      clear hown2 hgrow hmov hown
      go_wp2_with fail
      refine (trim_any false (.slice a2 5 cap2) (out ++ [room]) w2 (by rw [hlen5]; exact RdN.of_own Hown.out) HO2.out (by omega)).mono ?_
      rintro e w5 ⟨v5, rfl, H5, hb5⟩
      have hbw5 : Below w.heap.size w w5 := HBw.out.trans (((hb2.out.trans (hb5.mono hb2.out.size))).mono (by have := HSZ.out; omega))
      have H5' : Big w5 v5 (u : Int) := by have := H5; rw [HV.out] at this; exact this
      have hB5 := (HB2.out.below (hb2.out.trans (hb5.mono hb2.out.size)) (by have := HSZ.out; omega))
      obtain ⟨n5, a5, k5, c5, rfl⟩ := H5'.form
      have hP := put2 (x := .bool n5) (y := .slice a5 k5 c5) hB5
      have z0 := hP.cell (j := 0) rfl
      have z1 := hP.cell (j := 1) rfl
      have Hbp := Lib.hid (put2_below (x := .bool n5) (y := .slice a5 k5 c5) hbw5 (b := w.heap.size) (Nat.le_refl _))
      have HH := Lib.hid (H5'.put hB5 (.bool n5) (.slice a5 k5 c5))
      have b0 := hB5.cell (j := 0) rfl
      have b1 := hB5.cell (j := 1) rfl
      have bf := hB5.frozen
      clear hP hB5 hbw5 hb5 H5 H5'
      go_wp2_with fail
      exact bodyPost_ret (v := .agg #[.bool n5, .slice a5 k5 c5]) (by simp [results, Tryd.results25, go_sem, *]) rfl ⟨_, rfl, HH.out, Hbp.out⟩
    | succ q =>
      have hin : i < 64 := by omega
      have hcell : wr.cell? ⟨b, 0, none⟩ = some (.int .u64 (u : Int)) := (Hb.out.cell (p := ⟨b, 0, none⟩) hbW).trans hc1
      have hq0 : (i : Int).tdiv 64 = 0 := by
        have : (i : Int).tdiv 64 = ((i / 64 : Nat) : Int) := rfl
        rw [this]; omega
      have hq1 : (i : Int).tmod 64 = (i : Int) := by
        have : (i : Int).tmod 64 = ((i % 64 : Nat) : Int) := rfl
        rw [this]; omega
      have hw0 : IntKind.i64.wrap 0 = 0 := by decide
      have hwi : IntKind.i64.wrap (i : Int) = (i : Int) := by rw [IntKind.wrap_i64]; omega
      have HS := bit_step u i k m (val out) room him hroom Hv.out
      obtain ⟨P, hP⟩ : ∃ P : Nat, P = 2 ^ i := ⟨_, rfl⟩
      obtain ⟨M, hM⟩ : ∃ M : Nat, M = 2 ^ m := ⟨_, rfl⟩
      have hP63 : P ≤ 2 ^ 63 := by rw [hP]; exact Nat.pow_le_pow_right (by decide) (by omega)
      have hP0 : 0 < P := by rw [hP]; exact Nat.pow_pos (by decide)
      have hM14 : M ≤ 2 ^ 14 := by rw [hM]; exact Nat.pow_le_pow_right (by decide) (by omega)
      have hpow : (2 : Int) ^ i = (P : Int) := by rw [hP]; simp
      have hpowm : (2 : Int) ^ m = (M : Int) := by rw [hM]; simp
      rw [← hP, ← hM] at HS
      rw [← hM] at hroom
      obtain ⟨Q, hQ⟩ : ∃ Q : Nat, Q = u / P := ⟨_, rfl⟩
      obtain ⟨T, hT⟩ : ∃ T : Nat, T = Q % 2 := ⟨_, rfl⟩
      have hQu : Q ≤ u := by rw [hQ]; exact Nat.div_le_self _ _
      have hT1 : T ≤ 1 := by omega
      rw [← hQ, ← hT] at HS
      obtain ⟨S, hS⟩ : ∃ S : Nat, S = T * M := ⟨_, rfl⟩
      have hS14 : S ≤ 2 ^ 14 := by
        have : T * M ≤ 1 * M := Nat.mul_le_mul_right _ hT1
        omega
      rw [← hS] at HS
      have hquo : (u : Int).tdiv (P : Int) = (Q : Int) := by rw [hQ]; rfl
      have hrem : (Q : Int).tmod 2 = (T : Int) := by rw [hT]; rfl
      have hmul : (T : Int) * (M : Int) = (S : Int) := by rw [hS]; simp
      have hPz : ((P : Int) == 0) = false := by rw [beq_eq_false_iff_ne]; omega
      have hwP : IntKind.u64.wrap (P : Int) = (P : Int) := by rw [IntKind.wrap_u64]; omega
      have hwQ : IntKind.u64.wrap (Q : Int) = (Q : Int) := by rw [IntKind.wrap_u64]; omega
      have hwT : IntKind.u64.wrap (T : Int) = (T : Int) := by rw [IntKind.wrap_u64]; omega
      have hwM : IntKind.u64.wrap (M : Int) = (M : Int) := by rw [IntKind.wrap_u64]; omega
      have hwS : IntKind.u64.wrap (S : Int) = (S : Int) := by rw [IntKind.wrap_u64]; omega
      have hk4 : k ≤ 4 := by omega
      have HS1 := Lib.hid HS.1
      have HS2 := Lib.hid HS.2
      have Him := Lib.hid him
      have HPe := Lib.hid hP
      have HMe := Lib.hid hM
      clear HS hP hM hQ hT hS him Hv
      go_wp2_with fail
      go_quiet (fail)
      have Hbn : Hid (Below W.heap.size W (wr.drewN nq)) := below_drewN Hb.out _
      have hown1 := own_call hown (below_drewN (Below.refl wr.heap.size wr) nq)
      generalize wr.drewN nq = wq at *
      clear hown Hb hcell
      have hszq := Hbn.out.size
      by_cases hm14 : m = 14
      · subst hm14
        have HN : Hid (room + S < 32768) := HS2.out
        have hN := HN.out
        have HV : Hid (val (out ++ [room + S]) = u % 2 ^ (i + 1)) := by unfold Hid; rw [val_snoc, hlen]; exact HS1.out
        have HO2 : Hid (ok (out ++ [room + S])) := ok_snoc Hok.out HN.out
        have Hi : Hid (ints (out ++ [room + S]) = ints out ++ [.int .i64 ((room : Int) + (S : Int))]) := by unfold Hid; rw [ints_snoc]; simp
        go_wp2_with (at_builtin; refine wpList_append2 _ rfl _ _ 27 rfl W.heap.size 3 (.int .i64 0) 1 8 Tryd.underlying27 info_int rfl (by decide) (.slice av k capv) k _ rfl (hown1.alloc _) _ _ 1 [.int .i64 ((room : Int) + (S : Int))] rfl (reads_new _ _ _ 1 1 (by decide) (by decide)) rfl ?e2 ?e3 ?e4 ?e5 ?_)
        case e2 => simp [Value.oneCell']
        case e3 => unfold maxLen; omega
        case e4 => omega
        case e5 => first | omega | (simp; omega)
        intro v' w2 hown2 hgrow hmov
        obtain ⟨a2, cap2, rfl⟩ := own_form hown2
        have hb2 : Hid (Below W.heap.size W w2) := (Hbn.out.alloc Hbn.out.size _).grown hgrow (by simp; omega) (fun j e => (hown1.lt j e).1)
        rw [← Hi.out] at hown2
        have Hown := Lib.hid hown2
        clear hown2 hgrow hmov hown1
        go_wp2_with fail
        go_roundg q
        case measure => omega
        case rel => exact ⟨i + 1, k + 1, 0, 0, out ++ [room + S], by omega, by have := Him.out; omega, by decide, by first | rfl | simp, rfl, rfl, by decide, by simp [hlen], HO2, by unfold Hid; rw [HV.out]; simp, Hown.out, hb2⟩
      · have hm15' : ((m : Int) + 1 == 15) = false := by rw [beq_eq_false_iff_ne]; omega
        have hN : room + S < 2 ^ 15 := Nat.lt_of_lt_of_le HS2.out (Nat.pow_le_pow_right (by decide) (by omega))
        have hown3 := Lib.hid hown1
        clear hown1
        go_wp2_with fail
        go_roundg q
        case measure => omega
        case rel => exact ⟨i + 1, k, m + 1, room + S, out, by omega, by have := Him.out; omega, by omega, by first | rfl | simp, by first | rfl | simp, by first | rfl | simp, HS2.out, hlen, Hok, HS1, hown3.out, Hbn⟩

/-- the end of a function that stores a number into its result's box -/
theorem Big.ends {w W : World} {b : Nat} {x0 : Bool} {a0 : Option Addr} {n0 c0 : Nat} {t : TypeId} {v : Value} {x : Int} (h : Big W v x) (hB : Blk W b [.bool x0, .slice a0 n0 c0] t) (hb : Below w.heap.size w W) (hle : w.heap.size ≤ b) :
    ∃ n a k c, v = .agg #[.bool n, .slice a k c] ∧ W.cell? ⟨b, 0, none⟩ = some (.bool x0) ∧ W.cell? ⟨b, 1, none⟩ = some (.slice a0 n0 c0) ∧ (∀ o, W.frozen? ⟨b, o, none⟩ = false) ∧
      ((W.setCell ⟨b, 0, none⟩ (.bool n)).setCell ⟨b, 1, none⟩ (.slice a k c)).cell? ⟨b, 0, none⟩ = some (.bool n) ∧ ((W.setCell ⟨b, 0, none⟩ (.bool n)).setCell ⟨b, 1, none⟩ (.slice a k c)).cell? ⟨b, 1, none⟩ = some (.slice a k c) ∧
      Hid (Big ((W.setCell ⟨b, 0, none⟩ (.bool n)).setCell ⟨b, 1, none⟩ (.slice a k c)) v x) ∧ Hid (Below w.heap.size w ((W.setCell ⟨b, 0, none⟩ (.bool n)).setCell ⟨b, 1, none⟩ (.slice a k c))) := by
  obtain ⟨n, a, k, c, rfl⟩ := h.form
  have hP := put2 (x := .bool n) (y := .slice a k c) hB
  exact ⟨n, a, k, c, rfl, hB.cell (j := 0) rfl, hB.cell (j := 1) rfl, hB.frozen, hP.cell (j := 0) rfl, hP.cell (j := 1) rfl, h.put hB _ _, put2_below hb hle⟩

set_option maxHeartbeats 1000000 in
theorem of_any (n : Int) (w : World) (h1 : -9223372036854775808 ≤ n) (h2 : n ≤ 9223372036854775807) :
    Calls Tryd.prog 12 #[.int .i64 n] w fun e w' => ∃ v, e = .returned v ∧ Big w' v n ∧ Below w.heap.size w w' := by
  by_cases hn : 0 ≤ n
  · obtain ⟨u, rfl⟩ : ∃ u : Nat, n = u := ⟨n.toNat, by omega⟩
    have hw : IntKind.u64.wrap (u : Int) = (u : Int) := by rw [IntKind.wrap_u64]; omega
    go_enter Tryd.func12, Tryd.ntmps12
    go_wp2_with fail
    obtain ⟨W, hW⟩ : ∃ W, (w.alloc (.cells #[.bool false, .slice none 0 0] 29)).alloc (.cells #[.int .u64 (u : Int)] 51) = W := ⟨_, rfl⟩
    have hB2 : Blk W w.heap.size [.bool false, .slice none 0 0] 29 := hW ▸ (Blk.new w _ _).alloc _
    have hB3 : Blk W (w.heap.size + 1) [.int .u64 (u : Int)] 51 := by
      have := Blk.new (w.alloc (.cells #[.bool false, .slice none 0 0] 29)) [.int .u64 (u : Int)] 51
      rw [World.size_alloc] at this
      exact hW ▸ this
    have hBw : Below w.heap.size w W := hW ▸ ((Below.refl _ w).alloc (Nat.le_refl _) _).alloc (by simp) _
    rw [hW]
    clear hW
    refine (words_any (w.heap.size + 1) 1 u W hB3.lt (hB3.cell (j := 0) rfl) (by omega)).mono ?_
    rintro e w5 ⟨v5, rfl, H5, hb5⟩
    obtain ⟨n5, a5, k5, c5, rfl, b0, b1, bf, z0, z1, HH, Hbp⟩ := H5.ends (hB2.call hb5) (hBw.trans (hb5.mono hBw.size)) (Nat.le_refl _)
    clear hB2 hB3 hBw hb5 H5
    go_wp2_with fail
    exact bodyPost_ret (v := .agg #[.bool n5, .slice a5 k5 c5]) (by simp [results, Tryd.results12, go_sem, *]) rfl ⟨_, rfl, HH.out, Hbp.out⟩
  · obtain ⟨u, hu⟩ : ∃ u : Nat, n = -(u : Int) - 1 := ⟨(-n - 1).toNat, by omega⟩
    subst hu
    have hw : IntKind.u64.wrap (u : Int) = (u : Int) := by rw [IntKind.wrap_u64]; omega
    have hw2 : IntKind.u64.wrap ((u : Int) + 1) = (u : Int) + 1 := by rw [IntKind.wrap_u64]; omega
    have hneg : -(-(u : Int) - 1 + 1) = (u : Int) := by omega
    have hneg2 : -(u : Int) - 1 + 1 = -(u : Int) := by omega
    go_enter Tryd.func12, Tryd.ntmps12
    go_wp2_with fail
    obtain ⟨W, hW⟩ : ∃ W, (w.alloc (.cells #[.bool false, .slice none 0 0] 29)).alloc (.cells #[.int .u64 ((u : Int) + 1)] 51) = W := ⟨_, rfl⟩
    have hB2 : Blk W w.heap.size [.bool false, .slice none 0 0] 29 := hW ▸ (Blk.new w _ _).alloc _
    have hB3 : Blk W (w.heap.size + 1) [.int .u64 (((u + 1 : Nat)) : Int)] 51 := by
      have := Blk.new (w.alloc (.cells #[.bool false, .slice none 0 0] 29)) [.int .u64 ((u : Int) + 1)] 51
      rw [World.size_alloc] at this
      exact hW ▸ this
    have hBw : Below w.heap.size w W := hW ▸ ((Below.refl _ w).alloc (Nat.le_refl _) _).alloc (by simp) _
    rw [hW]
    clear hW
    refine (words_any (w.heap.size + 1) 1 (u + 1) W hB3.lt (hB3.cell (j := 0) rfl) (by omega)).mono ?_
    rintro e w4 ⟨v4, rfl, H4, hb4⟩
    have hbw4 := hBw.trans (hb4.mono hBw.size)
    have hB4 := hB2.call hb4
    clear hB2 hB3 hBw hb4
    obtain ⟨n4, a4, k4, c4, rfl⟩ := H4.form
    go_wp2_with fail
    refine (minus_any _ _ w4 H4).mono ?_
    rintro e w5 ⟨v5, rfl, H5, hb5⟩
    obtain ⟨n5, a5, k5, c5, rfl, b0, b1, bf, z0, z1, HH, Hbp⟩ := H5.ends (hB4.call hb5) (hbw4.trans (hb5.mono hbw4.size)) (Nat.le_refl _)
    have hval : -(((u + 1 : Nat)) : Int) = -(u : Int) - 1 := by omega
    rw [hval] at HH
    clear hB4 hbw4 hb5 H5 H4 hval
    go_wp2_with fail
    exact bodyPost_ret (v := .agg #[.bool n5, .slice a5 k5 c5]) (by simp [results, Tryd.results12, go_sem, *]) rfl ⟨_, rfl, HH.out, Hbp.out⟩
end Go.Proofs.YtkhpfdgkmnifcaaDoor
