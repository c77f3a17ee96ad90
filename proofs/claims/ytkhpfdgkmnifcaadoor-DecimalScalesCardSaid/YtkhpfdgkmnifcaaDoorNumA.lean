/- gromaref10.Number, sign A. Printed by wip/genum.py. -/
import Derived.Test.YtkhpfdgkmnifcaaDoorNumP
set_option linter.unusedVariables false
set_option linter.unusedSimpArgs false
namespace Go.Proofs.YtkhpfdgkmnifcaaDoor
open Go.RowKit Go.Rg Bg
attribute [local go_sem] Oper.semAt_some

set_option maxHeartbeats 8000000 in
theorem number_A (s : ByteArray) (w : World) (sg a dt b ex sp q : List UInt8) (hp : Dc.Parts s.data.toList sg a dt b ex sp q) (hs : s.size ≤ 200) (hq : q.length ≤ 15) (hsg : sg = []) :
    Calls Tryd.prog 11 #[.string s] w fun e w' => ∃ v, e = .returned (.tuple #[v, .int .i64 (Dc.numE b sp q)]) ∧ Big w' v (Dc.numV sg a b) ∧ Below w.heap.size w w' := by
  obtain ⟨M, hM⟩ : ∃ M, M = a ++ (dt ++ b) := ⟨_, rfl⟩
  obtain ⟨R, hR⟩ : ∃ R, R = ex ++ (sp ++ q) := ⟨_, rfl⟩
  have hL : s.data.toList = sg ++ (M ++ R) := by rw [hp.eq, hM, hR]; simp
  have hlen : s.size = sg.length + (M.length + R.length) := by rw [Lib.size_eq, hL, List.length_append, List.length_append]
  have HMant : Hid (Dc.mant M) := by unfold Hid; rw [hM]; exact hp.mant
  obtain ⟨m, hm⟩ : ∃ m, m = M.length := ⟨_, rfl⟩
  obtain ⟨o, ho⟩ : ∃ o, o = sg.length := ⟨_, rfl⟩
  have hm0 : 0 < m := by
    rw [hm, hM]
    have := hp.hn
    rcases Nat.eq_zero_or_pos (a ++ (dt ++ b)).length with h | h
    · exfalso; apply this
      have h1 := List.eq_nil_of_length_eq_zero h
      simp at h1
      simp [h1]
    · exact h
  rw [← hm, ← ho] at hlen
  have hom : o + m ≤ s.size := by omega
  have HL := Lib.hid hL
  have Hp := Lib.hid hp
  have HM := Lib.hid hM
  have HRe := Lib.hid hR
  have Hm := Lib.hid hm
  have Ho := Lib.hid ho
  have Hlen := Lib.hid hlen
  have Hq := Lib.hid hq
  clear hL hp hM hR hm ho hlen hq
  have hs0 : 0 < s.size := by omega
  obtain ⟨c0, hc0⟩ : ∃ c, M[0]? = some c := ⟨_, List.getElem?_eq_getElem (by rw [← Hm.out]; exact hm0)⟩
  obtain ⟨h0, hce⟩ := at_mid s _ M R HL.out 0 c0 hc0
  have hce' : s[0] = c0 := by
    have : ∀ j (hj : j < s.size) (h : j = sg.length + 0), s[j] = c0 := by rintro j hj rfl; exact hce
    exact this 0 hs0 (by rw [hsg]; rfl)
  have hcm := HMant.out c0 (List.mem_of_getElem? hc0)
  rw [← hce'] at hcm
  have hn43 : ((s[0].toNat : Int) == 43) = false := by
    rw [beq_eq_false_iff_ne]
    rcases hcm with h | h
    · have := (Lx.digit_iff _).1 h; omega
    · rw [h]; decide
  have hn45 : ((s[0].toNat : Int) == 45) = false := by
    rw [beq_eq_false_iff_ne]
    rcases hcm with h | h
    · have := (Lx.digit_iff _).1 h; omega
    · rw [h]; decide
  have HoS : Hid (o = sg.length) := Ho
  rw [hsg] at Ho
  have Hb : Hid (sg = []) := hsg
  clear hc0 h0 hce hce' hcm hsg
  go_enter Tryd.func11, Tryd.ntmps11
  go_wp2_with fail
  obtain ⟨W, hW⟩ : ∃ W, ([.cells #[.bool false, .slice none 0 0] 29, .cells #[.bool false, .slice none 0 0] 29] : List Obj).foldl World.alloc w = W := ⟨_, rfl⟩
  have HR : Hid (Blk W (w.heap.size + 0) [.bool false, .slice none 0 0] 29) := Blk.allocs _ hW 0 rfl
  have HP : Hid (Blk W (w.heap.size + 1) [.bool false, .slice none 0 0] 29) := Blk.allocs _ hW 1 rfl
  have HW : Hid (Below w.heap.size w W) := hW ▸ allocs_below _ w
  have HH : Hid (Big W (.agg #[.bool false, .slice none 0 0]) ((0 : Nat) : Int)) := big_zero W
  simp only [List.foldl_cons, List.foldl_nil] at hW
  rw [hW]
  clear hW
  obtain ⟨P, hP⟩ : ∃ P, w.heap.size + 1 = P := ⟨_, rfl⟩
  rw [Nat.add_zero] at HR
  rw [hP] at HP ⊢
  have hne : w.heap.size < P := by omega
  clear hP
  go_loopg [5, 7, 8] m (fun qq s5 s7 s8 wx => ∃ (i t nv ev : Nat) (dv mm : Bool) (aa : Option Addr) (kk cc : Nat), t + qq = m ∧ i = o + t ∧ s7 = .int .i64 (i : Int) ∧ s5 = .int .i64 (-(ev : Int)) ∧ s8 = .bool dv ∧ Hid (Dc.nfold (M.take t) = (nv, ev, dv)) ∧ Hid (Blk wx P [.bool mm, .slice aa kk cc] 29) ∧ Hid (Big wx (.agg #[.bool mm, .slice aa kk cc]) (nv : Int)) ∧
    Hid (Blk wx w.heap.size [.bool false, .slice none 0 0] 29) ∧ Hid (Below w.heap.size w wx))
  case atStart => exact ⟨o, 0, 0, 0, false, false, none, 0, 0, by omega, rfl, by rw [Ho.out]; rfl, rfl, rfl, rfl, HP, HH, HR, HW⟩
  case round =>
    clear HP HH HR HW
    obtain ⟨i, t, nv, ev, dv, mm, aa, kk, cc, htq, hit, rfl, rfl, rfl, HN, HP, HH, HR, HW⟩ := hrel
    have x0 := HP.out.cell (j := 0) rfl
    have x1 := HP.out.cell (j := 1) rfl
    have xf := HP.out.frozen
    have hpw : P < wr.heap.size := HP.out.lt
    have hwl : w.heap.size ≤ wr.heap.size := HW.out.size
    have hnl := Dc.nfold_lt (M.take t) (Dc.mant_take HMant.out t)
    rw [HN.out, List.length_take] at hnl
    cases gk with
    | zero =>
      have htm : t = m := by omega
      have hfin : Dc.nfold (M.take t) = Dc.nfold M := by rw [htm, Hm.out, List.take_length]
      have HF : Hid (nv = Dc.dval (a ++ b) ∧ ev = b.length) := by
        have h1 := Dc.nfold_parts Hp.out.ha Hp.out.hb Hp.out.hd
        have h2 := HN.out
        rw [hfin] at h2
        have h3 : Dc.nfold (a ++ (dt ++ b)) = (nv, ev, dv) := by rw [← HM.out]; exact h2
        rw [h3] at h1
        exact h1
      have hev : ev ≤ 200 := by
        have := hnl.2; simp only at this; omega
      have hie : i = o + m := by omega
      clear hnl hfin htm hit htq
      rcases Hp.out.he with ⟨hx1, hx2, hx3⟩ | ⟨hx1, hx2, hx3, hx4⟩
      · have hR0 : R.length = 0 := by rw [HRe.out, hx1, hx2, hx3]; rfl
        have his : i = s.size := by rw [hie, Hlen.out, hR0]; rfl
        have hni : ¬ ((i : Int) < (s.size : Int)) := by omega
        have HE : Hid (Dc.numE b sp q = -(ev : Int)) := by unfold Hid Dc.numE; rw [hx2, hx3, HF.out.2]; simp [Dc.dval]
        have HV : Hid (Dc.numV sg a b = (nv : Int)) := by unfold Hid Dc.numV; rw [if_neg (by rw [Hb.out]; decide), HF.out.1]
        clear hx1 hx2 hx3 hR0 his hie
        obtain ⟨n6, a6, m6, c6, e6, b0, b1, bf, z0, z1, HH6, Hbp⟩ := HH.out.ends HR.out HW.out (Nat.le_refl _)
        cases e6
        go_wp2_with fail
        refine bodyPost_ret (v := .tuple #[.agg #[.bool mm, .slice aa kk cc], .int .i64 (-(ev : Int))]) (by simp [results, Tryd.results11, go_sem, *]) rfl ⟨_, by rw [HE.out], ?_, Hbp.out⟩
        rw [HV.out]; exact HH6.out
      · have hR1 : R.length = 1 + (sp.length + q.length) := by rw [HRe.out]; rcases hx1 with h | h <;> rw [h] <;> simp <;> omega
        have hi1 : i < s.size := by rw [hie, Hlen.out, hR1]; omega
        have hq1 : 0 < q.length := List.length_pos_iff.2 hx4
        have hq15 := Hq.out
        obtain ⟨j, hj⟩ : ∃ j, j = i + 1 := ⟨_, rfl⟩
        have hjj : (i : Int) + 1 = (j : Int) := by omega
        have hj1 : j < s.size := by have := Hlen.out; omega
        have HQ := Lib.hid hx3
        have HX1 := Lib.hid hx1
        have HJ : Hid (j = (sg ++ (M ++ ex)).length) := by unfold Hid; rw [hj, hie, show o = sg.length from by rw [Hb.out]; exact Ho.out, List.length_append, List.length_append, ← Hm.out]; rcases hx1 with h | h <;> rw [h] <;> simp <;> omega
        have HLJ : Hid (s.data.toList = (sg ++ (M ++ ex)) ++ (sp ++ (q ++ []))) := by unfold Hid; rw [HL.out, HRe.out]; simp
        have HSi : Hid ((s[i].toNat : Int) = 101 ∨ (s[i].toNat : Int) = 69) := by
          have h2 : ∃ c, ex = [c] ∧ (c = 101 ∨ c = 69) := by rcases hx1 with h | h <;> exact ⟨_, h, by simp⟩
          obtain ⟨c, hc, hcc⟩ := h2
          obtain ⟨h3, h4⟩ := at_len s (sg ++ M) (sp ++ q) c (by rw [HL.out, HRe.out, hc]; simp)
          have h5 : s[i] = c := by
            have : ∀ k (hk : k < s.size) (h : k = (sg ++ M).length), s[k] = c := by rintro k hk rfl; exact h4
            exact this i hi1 (by rw [hie, List.length_append, ← Hm.out, show o = sg.length from by rw [Hb.out]; exact Ho.out])
          unfold Hid
          rw [h5]
          rcases hcc with rfl | rfl
          · exact .inl rfl
          · exact .inr rfl
        have HSZ : Hid (j + (sp.length + q.length) = s.size) := by have := Hlen.out; unfold Hid; omega
        clear hx1 hx3 hx4 hj hie
        rcases hx2 with hsp | hsp | hsp
        · obtain ⟨cq, hcq⟩ : ∃ c, q[0]? = some c := ⟨_, List.getElem?_eq_getElem hq1⟩
          obtain ⟨h3, h4⟩ := at_mid s (sg ++ (M ++ ex)) q [] (by rw [HLJ.out, hsp]; simp) 0 cq hcq
          have h5 : s[j] = cq := by
            have : ∀ k (hk : k < s.size) (h : k = (sg ++ (M ++ ex)).length + 0), s[k] = cq := by rintro k hk rfl; exact h4
            exact this j hj1 (by rw [HJ.out]; rfl)
          have hdq : Lx.digit cq = true := by
            have := HQ.out; rw [List.all_eq_true] at this; exact this cq (List.mem_of_getElem? hcq)
          rw [← h5] at hdq
          have hdq2 := (Lx.digit_iff _).1 hdq
          have f43 : ((s[j].toNat : Int) == 43) = false := by rw [beq_eq_false_iff_ne]; omega
          have f45 : ((s[j].toNat : Int) == 45) = false := by rw [beq_eq_false_iff_ne]; omega
          obtain ⟨k0, hk0⟩ : ∃ k, k = j := ⟨_, rfl⟩
          have hk00 : (j : Int) = (k0 : Int) := by rw [hk0]
          have HK : Hid (k0 = (sg ++ (M ++ ex)).length ∧ s.data.toList = (sg ++ (M ++ ex)) ++ (q ++ [])) := ⟨by rw [hk0]; exact HJ.out, by rw [HLJ.out, hsp]; rfl⟩
          have hend : k0 + q.length = s.size := by have := HSZ.out; rw [hsp] at this; simp at this; omega
          clear hcq h3 h4 h5 hdq hdq2 hk00
          subst hk0
          have HSp : Hid (sp = []) := hsp
          clear hsp
          rcases HSi.out with hsi | hsi
          · go_wp2_with fail
            go_loopg [7, 10] q.length (fun qq s7 s10 wx => ∃ (i2 t p : Nat), t + qq = q.length ∧ i2 = k0 + t ∧ s7 = .int .i64 (i2 : Int) ∧ s10 = .int .i64 (p : Int) ∧ Hid (p = Dc.dval (q.take t)) ∧ p < 1000000000000000 ∧ wr = wx)
            case atStart => exact ⟨k0, 0, 0, by omega, rfl, rfl, rfl, rfl, by decide, rfl⟩
            case round =>
              obtain ⟨i2, t, p, htq, hi2, rfl, rfl, Hpq, hp15, rfl⟩ := hrel
              cases gk with
              | zero =>
                have hni : ¬ ((i2 : Int) < (s.size : Int)) := by omega
                have Hpq : Hid (p = Dc.dval q) := by unfold Hid; rw [Hpq.out, List.take_of_length_le (by omega)]
                obtain ⟨E, hE1⟩ : ∃ E : Int, -(ev : Int) + (p : Int) = E := ⟨_, rfl⟩
                have HE : Hid (Dc.numE b sp q = E) := by unfold Hid Dc.numE; rw [if_neg (by rw [HSp.out]; decide), ← HF.out.2, ← Hpq.out]; exact hE1
                have HV : Hid (Dc.numV sg a b = (nv : Int)) := by unfold Hid Dc.numV; rw [if_neg (by rw [Hb.out]; decide), HF.out.1]
                clear hi2 htq hend hR1
                obtain ⟨n6, a6, m6, c6, e6, b0, b1, bf, z0, z1, HH6, Hbp⟩ := HH.out.ends HR.out HW.out (Nat.le_refl _)
                cases e6
                go_wp2_with fail
                refine bodyPost_ret (v := .tuple #[.agg #[.bool mm, .slice aa kk cc], .int .i64 E]) (by simp [results, Tryd.results11, go_sem, *]) rfl ⟨_, by rw [HE.out], ?_, Hbp.out⟩
                rw [HV.out]; exact HH6.out
              | succ qq =>
                have htl : t < q.length := by omega
                obtain ⟨cq, hcq⟩ : ∃ c, q[t]? = some c := ⟨_, List.getElem?_eq_getElem htl⟩
                obtain ⟨h3, h4⟩ := at_mid s (sg ++ (M ++ ex)) q [] HK.out.2 t cq hcq
                have hlt : i2 < s.size := by omega
                have HI2 := Lib.hid hi2
                have h5 : s[i2] = cq := by
                  have : ∀ k (hk : k < s.size) (h : k = (sg ++ (M ++ ex)).length + t), s[k] = cq := by rintro k hk rfl; exact h4
                  exact this i2 hlt (by rw [hi2]; exact congrArg (· + t) HK.out.1)
                have hdq : Lx.digit cq = true := by
                  have := HQ.out; rw [List.all_eq_true] at this; exact this cq (List.mem_of_getElem? hcq)
                rw [← h5] at hdq
                obtain ⟨g48, g57⟩ := (Lx.digit_iff _).1 hdq
                obtain ⟨D, hD⟩ : ∃ D : Nat, (s[i2].toNat : Int) - 48 = (D : Int) := ⟨s[i2].toNat - 48, by omega⟩
                have hD2 : s[i2].toNat - 48 = D := by omega
                have hD9 : D ≤ 9 := by omega
                have hT : q.take (t + 1) = q.take t ++ [s[i2]] := by rw [List.take_add_one, hcq, h5]; rfl
                have HPN : Hid (p * 10 + D = Dc.dval (q.take (t + 1))) := by unfold Hid; rw [hT, Dc.dval_snoc, hD2, ← Hpq.out]
                have hpn : p * 10 + D < 1000000000000000 := by
                  have h7 := Dc.dval_lt (q.take (t + 1)) (by have := HQ.out; rw [List.all_eq_true] at this ⊢; exact fun x hx => this x (List.mem_of_mem_take hx))
                  rw [← HPN.out, List.length_take] at h7
                  have h8 : 10 ^ (min (t + 1) q.length) ≤ 10 ^ 15 := Nat.pow_le_pow_right (by decide) (by omega)
                  omega
                clear hcq h3 h4 h5 hdq hD2 hT hi2
                go_wp2_with fail
                go_roundg qq
                case measure => omega
                case rel => exact ⟨i2 + 1, t + 1, p * 10 + D, by omega, by have := HI2.out; omega, by first | rfl | (congr 1; omega), by first | rfl | (congr 1; omega), HPN, hpn, rfl⟩
          · go_wp2_with fail
            go_loopg [7, 10] q.length (fun qq s7 s10 wx => ∃ (i2 t p : Nat), t + qq = q.length ∧ i2 = k0 + t ∧ s7 = .int .i64 (i2 : Int) ∧ s10 = .int .i64 (p : Int) ∧ Hid (p = Dc.dval (q.take t)) ∧ p < 1000000000000000 ∧ wr = wx)
            case atStart => exact ⟨k0, 0, 0, by omega, rfl, rfl, rfl, rfl, by decide, rfl⟩
            case round =>
              obtain ⟨i2, t, p, htq, hi2, rfl, rfl, Hpq, hp15, rfl⟩ := hrel
              cases gk with
              | zero =>
                have hni : ¬ ((i2 : Int) < (s.size : Int)) := by omega
                have Hpq : Hid (p = Dc.dval q) := by unfold Hid; rw [Hpq.out, List.take_of_length_le (by omega)]
                obtain ⟨E, hE1⟩ : ∃ E : Int, -(ev : Int) + (p : Int) = E := ⟨_, rfl⟩
                have HE : Hid (Dc.numE b sp q = E) := by unfold Hid Dc.numE; rw [if_neg (by rw [HSp.out]; decide), ← HF.out.2, ← Hpq.out]; exact hE1
                have HV : Hid (Dc.numV sg a b = (nv : Int)) := by unfold Hid Dc.numV; rw [if_neg (by rw [Hb.out]; decide), HF.out.1]
                clear hi2 htq hend hR1
                obtain ⟨n6, a6, m6, c6, e6, b0, b1, bf, z0, z1, HH6, Hbp⟩ := HH.out.ends HR.out HW.out (Nat.le_refl _)
                cases e6
                go_wp2_with fail
                refine bodyPost_ret (v := .tuple #[.agg #[.bool mm, .slice aa kk cc], .int .i64 E]) (by simp [results, Tryd.results11, go_sem, *]) rfl ⟨_, by rw [HE.out], ?_, Hbp.out⟩
                rw [HV.out]; exact HH6.out
              | succ qq =>
                have htl : t < q.length := by omega
                obtain ⟨cq, hcq⟩ : ∃ c, q[t]? = some c := ⟨_, List.getElem?_eq_getElem htl⟩
                obtain ⟨h3, h4⟩ := at_mid s (sg ++ (M ++ ex)) q [] HK.out.2 t cq hcq
                have hlt : i2 < s.size := by omega
                have HI2 := Lib.hid hi2
                have h5 : s[i2] = cq := by
                  have : ∀ k (hk : k < s.size) (h : k = (sg ++ (M ++ ex)).length + t), s[k] = cq := by rintro k hk rfl; exact h4
                  exact this i2 hlt (by rw [hi2]; exact congrArg (· + t) HK.out.1)
                have hdq : Lx.digit cq = true := by
                  have := HQ.out; rw [List.all_eq_true] at this; exact this cq (List.mem_of_getElem? hcq)
                rw [← h5] at hdq
                obtain ⟨g48, g57⟩ := (Lx.digit_iff _).1 hdq
                obtain ⟨D, hD⟩ : ∃ D : Nat, (s[i2].toNat : Int) - 48 = (D : Int) := ⟨s[i2].toNat - 48, by omega⟩
                have hD2 : s[i2].toNat - 48 = D := by omega
                have hD9 : D ≤ 9 := by omega
                have hT : q.take (t + 1) = q.take t ++ [s[i2]] := by rw [List.take_add_one, hcq, h5]; rfl
                have HPN : Hid (p * 10 + D = Dc.dval (q.take (t + 1))) := by unfold Hid; rw [hT, Dc.dval_snoc, hD2, ← Hpq.out]
                have hpn : p * 10 + D < 1000000000000000 := by
                  have h7 := Dc.dval_lt (q.take (t + 1)) (by have := HQ.out; rw [List.all_eq_true] at this ⊢; exact fun x hx => this x (List.mem_of_mem_take hx))
                  rw [← HPN.out, List.length_take] at h7
                  have h8 : 10 ^ (min (t + 1) q.length) ≤ 10 ^ 15 := Nat.pow_le_pow_right (by decide) (by omega)
                  omega
                clear hcq h3 h4 h5 hdq hD2 hT hi2
                go_wp2_with fail
                go_roundg qq
                case measure => omega
                case rel => exact ⟨i2 + 1, t + 1, p * 10 + D, by omega, by have := HI2.out; omega, by first | rfl | (congr 1; omega), by first | rfl | (congr 1; omega), HPN, hpn, rfl⟩
        · obtain ⟨h3, h4⟩ := at_len s (sg ++ (M ++ ex)) q 43 (by rw [HLJ.out, hsp]; simp)
          have h5 : s[j] = 43 := by
            have : ∀ k (hk : k < s.size) (h : k = (sg ++ (M ++ ex)).length), s[k] = 43 := by rintro k hk rfl; exact h4
            exact this j hj1 HJ.out
          have f43 : (s[j].toNat : Int) = 43 := by rw [h5]; rfl
          obtain ⟨k0, hk0⟩ : ∃ k, k = j + 1 := ⟨_, rfl⟩
          have hk00 : (j : Int) + 1 = (k0 : Int) := by omega
          have HK : Hid (k0 = (sg ++ (M ++ (ex ++ sp))).length ∧ s.data.toList = (sg ++ (M ++ (ex ++ sp))) ++ (q ++ [])) := ⟨by rw [hk0, HJ.out, hsp]; simp; omega, by rw [HLJ.out]; simp⟩
          have hend : k0 + q.length = s.size := by have := HSZ.out; rw [hsp] at this; simp at this; omega
          clear h3 h4 h5 hk0
          have HSp : Hid (sp = [43]) := hsp
          clear hsp
          rcases HSi.out with hsi | hsi
          · go_wp2_with fail
            go_loopg [7, 10] q.length (fun qq s7 s10 wx => ∃ (i2 t p : Nat), t + qq = q.length ∧ i2 = k0 + t ∧ s7 = .int .i64 (i2 : Int) ∧ s10 = .int .i64 (p : Int) ∧ Hid (p = Dc.dval (q.take t)) ∧ p < 1000000000000000 ∧ wr = wx)
            case atStart => exact ⟨k0, 0, 0, by omega, rfl, rfl, rfl, rfl, by decide, rfl⟩
            case round =>
              obtain ⟨i2, t, p, htq, hi2, rfl, rfl, Hpq, hp15, rfl⟩ := hrel
              cases gk with
              | zero =>
                have hni : ¬ ((i2 : Int) < (s.size : Int)) := by omega
                have Hpq : Hid (p = Dc.dval q) := by unfold Hid; rw [Hpq.out, List.take_of_length_le (by omega)]
                obtain ⟨E, hE1⟩ : ∃ E : Int, -(ev : Int) + (p : Int) = E := ⟨_, rfl⟩
                have HE : Hid (Dc.numE b sp q = E) := by unfold Hid Dc.numE; rw [if_neg (by rw [HSp.out]; decide), ← HF.out.2, ← Hpq.out]; exact hE1
                have HV : Hid (Dc.numV sg a b = (nv : Int)) := by unfold Hid Dc.numV; rw [if_neg (by rw [Hb.out]; decide), HF.out.1]
                clear hi2 htq hend hR1
                obtain ⟨n6, a6, m6, c6, e6, b0, b1, bf, z0, z1, HH6, Hbp⟩ := HH.out.ends HR.out HW.out (Nat.le_refl _)
                cases e6
                go_wp2_with fail
                refine bodyPost_ret (v := .tuple #[.agg #[.bool mm, .slice aa kk cc], .int .i64 E]) (by simp [results, Tryd.results11, go_sem, *]) rfl ⟨_, by rw [HE.out], ?_, Hbp.out⟩
                rw [HV.out]; exact HH6.out
              | succ qq =>
                have htl : t < q.length := by omega
                obtain ⟨cq, hcq⟩ : ∃ c, q[t]? = some c := ⟨_, List.getElem?_eq_getElem htl⟩
                obtain ⟨h3, h4⟩ := at_mid s (sg ++ (M ++ (ex ++ sp))) q [] HK.out.2 t cq hcq
                have hlt : i2 < s.size := by omega
                have HI2 := Lib.hid hi2
                have h5 : s[i2] = cq := by
                  have : ∀ k (hk : k < s.size) (h : k = (sg ++ (M ++ (ex ++ sp))).length + t), s[k] = cq := by rintro k hk rfl; exact h4
                  exact this i2 hlt (by rw [hi2]; exact congrArg (· + t) HK.out.1)
                have hdq : Lx.digit cq = true := by
                  have := HQ.out; rw [List.all_eq_true] at this; exact this cq (List.mem_of_getElem? hcq)
                rw [← h5] at hdq
                obtain ⟨g48, g57⟩ := (Lx.digit_iff _).1 hdq
                obtain ⟨D, hD⟩ : ∃ D : Nat, (s[i2].toNat : Int) - 48 = (D : Int) := ⟨s[i2].toNat - 48, by omega⟩
                have hD2 : s[i2].toNat - 48 = D := by omega
                have hD9 : D ≤ 9 := by omega
                have hT : q.take (t + 1) = q.take t ++ [s[i2]] := by rw [List.take_add_one, hcq, h5]; rfl
                have HPN : Hid (p * 10 + D = Dc.dval (q.take (t + 1))) := by unfold Hid; rw [hT, Dc.dval_snoc, hD2, ← Hpq.out]
                have hpn : p * 10 + D < 1000000000000000 := by
                  have h7 := Dc.dval_lt (q.take (t + 1)) (by have := HQ.out; rw [List.all_eq_true] at this ⊢; exact fun x hx => this x (List.mem_of_mem_take hx))
                  rw [← HPN.out, List.length_take] at h7
                  have h8 : 10 ^ (min (t + 1) q.length) ≤ 10 ^ 15 := Nat.pow_le_pow_right (by decide) (by omega)
                  omega
                clear hcq h3 h4 h5 hdq hD2 hT hi2
                go_wp2_with fail
                go_roundg qq
                case measure => omega
                case rel => exact ⟨i2 + 1, t + 1, p * 10 + D, by omega, by have := HI2.out; omega, by first | rfl | (congr 1; omega), by first | rfl | (congr 1; omega), HPN, hpn, rfl⟩
          · go_wp2_with fail
            go_loopg [7, 10] q.length (fun qq s7 s10 wx => ∃ (i2 t p : Nat), t + qq = q.length ∧ i2 = k0 + t ∧ s7 = .int .i64 (i2 : Int) ∧ s10 = .int .i64 (p : Int) ∧ Hid (p = Dc.dval (q.take t)) ∧ p < 1000000000000000 ∧ wr = wx)
            case atStart => exact ⟨k0, 0, 0, by omega, rfl, rfl, rfl, rfl, by decide, rfl⟩
            case round =>
              obtain ⟨i2, t, p, htq, hi2, rfl, rfl, Hpq, hp15, rfl⟩ := hrel
              cases gk with
              | zero =>
                have hni : ¬ ((i2 : Int) < (s.size : Int)) := by omega
                have Hpq : Hid (p = Dc.dval q) := by unfold Hid; rw [Hpq.out, List.take_of_length_le (by omega)]
                obtain ⟨E, hE1⟩ : ∃ E : Int, -(ev : Int) + (p : Int) = E := ⟨_, rfl⟩
                have HE : Hid (Dc.numE b sp q = E) := by unfold Hid Dc.numE; rw [if_neg (by rw [HSp.out]; decide), ← HF.out.2, ← Hpq.out]; exact hE1
                have HV : Hid (Dc.numV sg a b = (nv : Int)) := by unfold Hid Dc.numV; rw [if_neg (by rw [Hb.out]; decide), HF.out.1]
                clear hi2 htq hend hR1
                obtain ⟨n6, a6, m6, c6, e6, b0, b1, bf, z0, z1, HH6, Hbp⟩ := HH.out.ends HR.out HW.out (Nat.le_refl _)
                cases e6
                go_wp2_with fail
                refine bodyPost_ret (v := .tuple #[.agg #[.bool mm, .slice aa kk cc], .int .i64 E]) (by simp [results, Tryd.results11, go_sem, *]) rfl ⟨_, by rw [HE.out], ?_, Hbp.out⟩
                rw [HV.out]; exact HH6.out
              | succ qq =>
                have htl : t < q.length := by omega
                obtain ⟨cq, hcq⟩ : ∃ c, q[t]? = some c := ⟨_, List.getElem?_eq_getElem htl⟩
                obtain ⟨h3, h4⟩ := at_mid s (sg ++ (M ++ (ex ++ sp))) q [] HK.out.2 t cq hcq
                have hlt : i2 < s.size := by omega
                have HI2 := Lib.hid hi2
                have h5 : s[i2] = cq := by
                  have : ∀ k (hk : k < s.size) (h : k = (sg ++ (M ++ (ex ++ sp))).length + t), s[k] = cq := by rintro k hk rfl; exact h4
                  exact this i2 hlt (by rw [hi2]; exact congrArg (· + t) HK.out.1)
                have hdq : Lx.digit cq = true := by
                  have := HQ.out; rw [List.all_eq_true] at this; exact this cq (List.mem_of_getElem? hcq)
                rw [← h5] at hdq
                obtain ⟨g48, g57⟩ := (Lx.digit_iff _).1 hdq
                obtain ⟨D, hD⟩ : ∃ D : Nat, (s[i2].toNat : Int) - 48 = (D : Int) := ⟨s[i2].toNat - 48, by omega⟩
                have hD2 : s[i2].toNat - 48 = D := by omega
                have hD9 : D ≤ 9 := by omega
                have hT : q.take (t + 1) = q.take t ++ [s[i2]] := by rw [List.take_add_one, hcq, h5]; rfl
                have HPN : Hid (p * 10 + D = Dc.dval (q.take (t + 1))) := by unfold Hid; rw [hT, Dc.dval_snoc, hD2, ← Hpq.out]
                have hpn : p * 10 + D < 1000000000000000 := by
                  have h7 := Dc.dval_lt (q.take (t + 1)) (by have := HQ.out; rw [List.all_eq_true] at this ⊢; exact fun x hx => this x (List.mem_of_mem_take hx))
                  rw [← HPN.out, List.length_take] at h7
                  have h8 : 10 ^ (min (t + 1) q.length) ≤ 10 ^ 15 := Nat.pow_le_pow_right (by decide) (by omega)
                  omega
                clear hcq h3 h4 h5 hdq hD2 hT hi2
                go_wp2_with fail
                go_roundg qq
                case measure => omega
                case rel => exact ⟨i2 + 1, t + 1, p * 10 + D, by omega, by have := HI2.out; omega, by first | rfl | (congr 1; omega), by first | rfl | (congr 1; omega), HPN, hpn, rfl⟩
        · obtain ⟨h3, h4⟩ := at_len s (sg ++ (M ++ ex)) q 45 (by rw [HLJ.out, hsp]; simp)
          have h5 : s[j] = 45 := by
            have : ∀ k (hk : k < s.size) (h : k = (sg ++ (M ++ ex)).length), s[k] = 45 := by rintro k hk rfl; exact h4
            exact this j hj1 HJ.out
          have f45 : (s[j].toNat : Int) = 45 := by rw [h5]; rfl
          obtain ⟨k0, hk0⟩ : ∃ k, k = j + 1 := ⟨_, rfl⟩
          have hk00 : (j : Int) + 1 = (k0 : Int) := by omega
          have HK : Hid (k0 = (sg ++ (M ++ (ex ++ sp))).length ∧ s.data.toList = (sg ++ (M ++ (ex ++ sp))) ++ (q ++ [])) := ⟨by rw [hk0, HJ.out, hsp]; simp; omega, by rw [HLJ.out]; simp⟩
          have hend : k0 + q.length = s.size := by have := HSZ.out; rw [hsp] at this; simp at this; omega
          clear h3 h4 h5 hk0
          have HSp : Hid (sp = [45]) := hsp
          clear hsp
          rcases HSi.out with hsi | hsi
          · go_wp2_with fail
            go_loopg [7, 10] q.length (fun qq s7 s10 wx => ∃ (i2 t p : Nat), t + qq = q.length ∧ i2 = k0 + t ∧ s7 = .int .i64 (i2 : Int) ∧ s10 = .int .i64 (p : Int) ∧ Hid (p = Dc.dval (q.take t)) ∧ p < 1000000000000000 ∧ wr = wx)
            case atStart => exact ⟨k0, 0, 0, by omega, rfl, rfl, rfl, rfl, by decide, rfl⟩
            case round =>
              obtain ⟨i2, t, p, htq, hi2, rfl, rfl, Hpq, hp15, rfl⟩ := hrel
              cases gk with
              | zero =>
                have hni : ¬ ((i2 : Int) < (s.size : Int)) := by omega
                have Hpq : Hid (p = Dc.dval q) := by unfold Hid; rw [Hpq.out, List.take_of_length_le (by omega)]
                obtain ⟨E, hE1⟩ : ∃ E : Int, -(ev : Int) + -(p : Int) = E := ⟨_, rfl⟩
                have hE2 : -(ev : Int) - (p : Int) = E := by omega
                have HE : Hid (Dc.numE b sp q = E) := by unfold Hid Dc.numE; rw [if_pos HSp.out, ← HF.out.2, ← Hpq.out]; exact hE1
                have HV : Hid (Dc.numV sg a b = (nv : Int)) := by unfold Hid Dc.numV; rw [if_neg (by rw [Hb.out]; decide), HF.out.1]
                clear hi2 htq hend hR1
                obtain ⟨n6, a6, m6, c6, e6, b0, b1, bf, z0, z1, HH6, Hbp⟩ := HH.out.ends HR.out HW.out (Nat.le_refl _)
                cases e6
                go_wp2_with fail
                refine bodyPost_ret (v := .tuple #[.agg #[.bool mm, .slice aa kk cc], .int .i64 E]) (by simp [results, Tryd.results11, go_sem, *]) rfl ⟨_, by rw [HE.out], ?_, Hbp.out⟩
                rw [HV.out]; exact HH6.out
              | succ qq =>
                have htl : t < q.length := by omega
                obtain ⟨cq, hcq⟩ : ∃ c, q[t]? = some c := ⟨_, List.getElem?_eq_getElem htl⟩
                obtain ⟨h3, h4⟩ := at_mid s (sg ++ (M ++ (ex ++ sp))) q [] HK.out.2 t cq hcq
                have hlt : i2 < s.size := by omega
                have HI2 := Lib.hid hi2
                have h5 : s[i2] = cq := by
                  have : ∀ k (hk : k < s.size) (h : k = (sg ++ (M ++ (ex ++ sp))).length + t), s[k] = cq := by rintro k hk rfl; exact h4
                  exact this i2 hlt (by rw [hi2]; exact congrArg (· + t) HK.out.1)
                have hdq : Lx.digit cq = true := by
                  have := HQ.out; rw [List.all_eq_true] at this; exact this cq (List.mem_of_getElem? hcq)
                rw [← h5] at hdq
                obtain ⟨g48, g57⟩ := (Lx.digit_iff _).1 hdq
                obtain ⟨D, hD⟩ : ∃ D : Nat, (s[i2].toNat : Int) - 48 = (D : Int) := ⟨s[i2].toNat - 48, by omega⟩
                have hD2 : s[i2].toNat - 48 = D := by omega
                have hD9 : D ≤ 9 := by omega
                have hT : q.take (t + 1) = q.take t ++ [s[i2]] := by rw [List.take_add_one, hcq, h5]; rfl
                have HPN : Hid (p * 10 + D = Dc.dval (q.take (t + 1))) := by unfold Hid; rw [hT, Dc.dval_snoc, hD2, ← Hpq.out]
                have hpn : p * 10 + D < 1000000000000000 := by
                  have h7 := Dc.dval_lt (q.take (t + 1)) (by have := HQ.out; rw [List.all_eq_true] at this ⊢; exact fun x hx => this x (List.mem_of_mem_take hx))
                  rw [← HPN.out, List.length_take] at h7
                  have h8 : 10 ^ (min (t + 1) q.length) ≤ 10 ^ 15 := Nat.pow_le_pow_right (by decide) (by omega)
                  omega
                clear hcq h3 h4 h5 hdq hD2 hT hi2
                go_wp2_with fail
                go_roundg qq
                case measure => omega
                case rel => exact ⟨i2 + 1, t + 1, p * 10 + D, by omega, by have := HI2.out; omega, by first | rfl | (congr 1; omega), by first | rfl | (congr 1; omega), HPN, hpn, rfl⟩
          · go_wp2_with fail
            go_loopg [7, 10] q.length (fun qq s7 s10 wx => ∃ (i2 t p : Nat), t + qq = q.length ∧ i2 = k0 + t ∧ s7 = .int .i64 (i2 : Int) ∧ s10 = .int .i64 (p : Int) ∧ Hid (p = Dc.dval (q.take t)) ∧ p < 1000000000000000 ∧ wr = wx)
            case atStart => exact ⟨k0, 0, 0, by omega, rfl, rfl, rfl, rfl, by decide, rfl⟩
            case round =>
              obtain ⟨i2, t, p, htq, hi2, rfl, rfl, Hpq, hp15, rfl⟩ := hrel
              cases gk with
              | zero =>
                have hni : ¬ ((i2 : Int) < (s.size : Int)) := by omega
                have Hpq : Hid (p = Dc.dval q) := by unfold Hid; rw [Hpq.out, List.take_of_length_le (by omega)]
                obtain ⟨E, hE1⟩ : ∃ E : Int, -(ev : Int) + -(p : Int) = E := ⟨_, rfl⟩
                have hE2 : -(ev : Int) - (p : Int) = E := by omega
                have HE : Hid (Dc.numE b sp q = E) := by unfold Hid Dc.numE; rw [if_pos HSp.out, ← HF.out.2, ← Hpq.out]; exact hE1
                have HV : Hid (Dc.numV sg a b = (nv : Int)) := by unfold Hid Dc.numV; rw [if_neg (by rw [Hb.out]; decide), HF.out.1]
                clear hi2 htq hend hR1
                obtain ⟨n6, a6, m6, c6, e6, b0, b1, bf, z0, z1, HH6, Hbp⟩ := HH.out.ends HR.out HW.out (Nat.le_refl _)
                cases e6
                go_wp2_with fail
                refine bodyPost_ret (v := .tuple #[.agg #[.bool mm, .slice aa kk cc], .int .i64 E]) (by simp [results, Tryd.results11, go_sem, *]) rfl ⟨_, by rw [HE.out], ?_, Hbp.out⟩
                rw [HV.out]; exact HH6.out
              | succ qq =>
                have htl : t < q.length := by omega
                obtain ⟨cq, hcq⟩ : ∃ c, q[t]? = some c := ⟨_, List.getElem?_eq_getElem htl⟩
                obtain ⟨h3, h4⟩ := at_mid s (sg ++ (M ++ (ex ++ sp))) q [] HK.out.2 t cq hcq
                have hlt : i2 < s.size := by omega
                have HI2 := Lib.hid hi2
                have h5 : s[i2] = cq := by
                  have : ∀ k (hk : k < s.size) (h : k = (sg ++ (M ++ (ex ++ sp))).length + t), s[k] = cq := by rintro k hk rfl; exact h4
                  exact this i2 hlt (by rw [hi2]; exact congrArg (· + t) HK.out.1)
                have hdq : Lx.digit cq = true := by
                  have := HQ.out; rw [List.all_eq_true] at this; exact this cq (List.mem_of_getElem? hcq)
                rw [← h5] at hdq
                obtain ⟨g48, g57⟩ := (Lx.digit_iff _).1 hdq
                obtain ⟨D, hD⟩ : ∃ D : Nat, (s[i2].toNat : Int) - 48 = (D : Int) := ⟨s[i2].toNat - 48, by omega⟩
                have hD2 : s[i2].toNat - 48 = D := by omega
                have hD9 : D ≤ 9 := by omega
                have hT : q.take (t + 1) = q.take t ++ [s[i2]] := by rw [List.take_add_one, hcq, h5]; rfl
                have HPN : Hid (p * 10 + D = Dc.dval (q.take (t + 1))) := by unfold Hid; rw [hT, Dc.dval_snoc, hD2, ← Hpq.out]
                have hpn : p * 10 + D < 1000000000000000 := by
                  have h7 := Dc.dval_lt (q.take (t + 1)) (by have := HQ.out; rw [List.all_eq_true] at this ⊢; exact fun x hx => this x (List.mem_of_mem_take hx))
                  rw [← HPN.out, List.length_take] at h7
                  have h8 : 10 ^ (min (t + 1) q.length) ≤ 10 ^ 15 := Nat.pow_le_pow_right (by decide) (by omega)
                  omega
                clear hcq h3 h4 h5 hdq hD2 hT hi2
                go_wp2_with fail
                go_roundg qq
                case measure => omega
                case rel => exact ⟨i2 + 1, t + 1, p * 10 + D, by omega, by have := HI2.out; omega, by first | rfl | (congr 1; omega), by first | rfl | (congr 1; omega), HPN, hpn, rfl⟩
    | succ qq =>
      have htm : t < m := by omega
      obtain ⟨c0, hc0⟩ : ∃ c, M[t]? = some c := ⟨_, List.getElem?_eq_getElem (by rw [← Hm.out]; exact htm)⟩
      obtain ⟨hlt0, hce⟩ := at_mid s _ M R HL.out t c0 hc0
      rw [← HoS.out] at hlt0
      have hlt : i < s.size := by rw [hit]; exact hlt0
      have hce' : s[i] = c0 := by
        have : ∀ j (hj : j < s.size) (h : j = sg.length + t), s[j] = c0 := by rintro j hj rfl; exact hce
        exact this i hlt (by rw [hit, HoS.out])
      have htk : M.take (t + 1) = M.take t ++ [s[i]] := by rw [List.take_add_one, hc0, hce']; rfl
      have HT := Lib.hid htk
      have hcm := HMant.out c0 (List.mem_of_getElem? hc0)
      rw [← hce'] at hcm
      have hm200 : t < 200 := by omega
      have hev : ev ≤ t := by
        have := hnl.2; simp only at this; omega
      have hnv : nv < 10 ^ t := by
        have := hnl.1; simp only at this; rw [Nat.min_eq_left (by rw [← Hm.out]; omega)] at this; exact this
      have Hnv := Lib.hid hnv
      have HIT := Lib.hid hit
      have HTQ := Lib.hid htq
      clear hc0 hlt0 hce hce' htk hnl hnv hit htq
      rcases hcm with hdg | hdt
      · obtain ⟨h48, h57⟩ := (Lx.digit_iff _).1 hdg
        have hne : s[i] ≠ 46 := Dc.digit_nodot _ hdg
        obtain ⟨D, hD⟩ : ∃ D : Nat, (s[i].toNat : Int) - 48 = (D : Int) := ⟨s[i].toNat - 48, by omega⟩
        have hD2 : s[i].toNat - 48 = D := by omega
        have he1 : ((s[i].toNat : Int) == 101) = false := by rw [beq_eq_false_iff_ne]; omega
        have hn1 : ((s[i].toNat : Int) != 101) = true := by rw [bne_iff_ne]; omega
        have hn2 : ((s[i].toNat : Int) != 69) = true := by rw [bne_iff_ne]; omega
        have hw8 : IntKind.u8.wrap (D : Int) = (D : Int) := by rw [IntKind.wrap_u8]; omega
        have hw64 : IntKind.i64.wrap (D : Int) = (D : Int) := by rw [IntKind.wrap_i64]; omega
        have he2 : ((s[i].toNat : Int) == 69) = false := by rw [beq_eq_false_iff_ne]; omega
        have he3 : ((s[i].toNat : Int) == 46) = false := by rw [beq_eq_false_iff_ne]; omega
        have hD9 : D ≤ 9 := by omega
        have HN1 : Hid (Dc.nfold (M.take (t + 1)) = (nv * 10 + D, if dv then ev + 1 else ev, dv)) := by
          unfold Hid; rw [HT.out, Dc.nfold_snoc, HN.out, Dc.nst, if_neg hne, hD2]
        have HvN : Hid (((nv * 10 + D : Nat) : Int) = (nv : Int) * 10 + (D : Int)) := by unfold Hid; omega
        have hl1 := lim_nat nv t Hnv.out (by omega)
        have hl2 : ((nv : Int) * 10).natAbs < lim := by
          have := lim_nat (nv * 10) (t + 1) (by rw [Nat.pow_succ]; have := Hnv.out; omega) (by omega)
          have e : ((nv * 10 : Nat) : Int) = (nv : Int) * 10 := by omega
          rw [← e]; exact this
        have HMul : Hid (∀ X v, Below wr.heap.size wr X → Big X v 10 → Calls Tryd.prog 13 #[.agg #[.bool mm, .slice aa kk cc], v] X fun e X' => ∃ v', e = .returned v' ∧ Big X' v' ((nv : Int) * 10) ∧ Below X.heap.size X X') := fun X v hX hv =>
          mul_any _ v _ 10 X (HH.out.call hX) hv hl1 (lim_small 10 (by decide))
        have HAdd : Hid (∀ X v v', Below wr.heap.size wr X → Big X v ((nv : Int) * 10) → Big X v' (D : Int) → Calls Tryd.prog 24 #[v, v'] X fun e X' => ∃ v', e = .returned v' ∧ Big X' v' ((nv : Int) * 10 + (D : Int)) ∧ Below X.heap.size X X') := fun X v v' hX hv hv' =>
          add_any v v' _ _ X hv hv' hl2 (lim_small _ (by omega))
        clear hl1 hl2 hne hD2 hdg
        go_wp2_with fail
        refine heldG_do (fun w' => w'.cell? ⟨P, 0, none⟩ = some (.bool mm) ∧ w'.cell? ⟨P, 1, none⟩ = some (.slice aa kk cc)) (fun j => j == 10) (by kernel_rfl) ?_
        refine wpAnyG_takeD (i := 0) (v := .agg #[.bool mm, .slice aa kk cc]) [0, 2, 9, 10] rfl (by kernel_rfl) (by kernel_rfl) (by kernel_rfl) (by kernel_rfl) (by kernel_rfl) (fun _ _ _ h => h) (Or.inl ⟨by rfl, ?y0⟩) ⟨x0, x1⟩ ?_
        case y0 => intro w' hS'; obtain ⟨S0, S1⟩ := hS'; clear x0 x1; go_simp
        simp only [Act.put, List.setIfInBounds_toArray, List.set_cons_zero, List.set_cons_succ]
        refine wpAnyG_takeD (i := 3) (v := .string s) [3, 5, 6, 7, 8, 9, 10] rfl (by kernel_rfl) (by kernel_rfl) (by kernel_rfl) (by kernel_rfl) (by kernel_rfl) (fun _ _ _ h => h) (Or.inl ⟨by rfl, ?y3⟩) ⟨x0, x1⟩ ?_
        case y3 => intro w' hS'; obtain ⟨S0, S1⟩ := hS'; clear x0 x1; go_simp
        simp only [Act.put, List.setIfInBounds_toArray, List.set_cons_zero, List.set_cons_succ]
        refine wpAnyG_takeD (i := 4) (v := .int .i64 (i : Int)) [4, 5, 6, 7, 8, 9, 10] rfl (by kernel_rfl) (by kernel_rfl) (by kernel_rfl) (by kernel_rfl) (by kernel_rfl) (fun _ _ _ h => h) (Or.inl ⟨by rfl, ?y4⟩) ⟨x0, x1⟩ ?_
        case y4 => intro w' hS'; obtain ⟨S0, S1⟩ := hS'; clear x0 x1; go_simp
        simp only [Act.put, List.setIfInBounds_toArray, List.set_cons_zero, List.set_cons_succ]
        refine wpAnyG_takeD (i := 5) (v := .int .u8 (s[i].toNat : Int)) [5, 6, 7, 8, 9, 10] rfl (by kernel_rfl) (by kernel_rfl) (by kernel_rfl) (by kernel_rfl) (by kernel_rfl) (fun _ _ _ h => h) (Or.inl ⟨by rfl, ?y5⟩) ⟨x0, x1⟩ ?_
        case y5 => intro w' hS'; obtain ⟨S0, S1⟩ := hS'; clear x0 x1; go_simp
        simp only [Act.put, List.setIfInBounds_toArray, List.set_cons_zero, List.set_cons_succ]
        refine wpAnyG_takeD (i := 6) (v := .int .u8 (D : Int)) [6, 7, 8, 9, 10] rfl (by kernel_rfl) (by kernel_rfl) (by kernel_rfl) (by kernel_rfl) (by kernel_rfl) (fun _ _ _ h => h) (Or.inl ⟨by rfl, ?y6⟩) ⟨x0, x1⟩ ?_
        case y6 => intro w' hS'; obtain ⟨S0, S1⟩ := hS'; clear x0 x1; go_simp
        simp only [Act.put, List.setIfInBounds_toArray, List.set_cons_zero, List.set_cons_succ]
        refine wpAnyG_takeD (i := 7) (v := .int .i64 (D : Int)) [7, 8, 9, 10] rfl (by kernel_rfl) (by kernel_rfl) (by kernel_rfl) (by kernel_rfl) (by kernel_rfl) (fun _ _ _ h => h) (Or.inl ⟨by rfl, ?y7⟩) ⟨x0, x1⟩ ?_
        case y7 => intro w' hS'; obtain ⟨S0, S1⟩ := hS'; clear x0 x1; go_simp
        simp only [Act.put, List.setIfInBounds_toArray, List.set_cons_zero, List.set_cons_succ]
        have X0 := x0
        have X1 := x1
        have Xw : Below wr.heap.size wr wr.drew := (Below.refl _ wr).drew
        refine wpAnyG_ready (rs := [1]) (by kernel_rfl) (by simp) ?_
        refine AllReadyG.cons rfl (fun K hK => ?_) AllReadyG.nil
        go_simp
        refine (of_any 10 _ (by decide) (by decide)).mono ?_
        rintro e w1 ⟨v1, rfl, H1, hbx⟩
        have X0 := keepc hbx (Nat.lt_of_lt_of_le hpw Xw.size) X0
        have X1 := keepc hbx (Nat.lt_of_lt_of_le hpw Xw.size) X1
        have Xw := Xw.trans (hbx.mono Xw.size)
        refine hK.out _ _ (fun _ => ⟨X0, X1⟩) ?_
        clear hK K hbx
        refine wpAnyG_ready (rs := [2]) (by kernel_rfl) (by simp) ?_
        refine AllReadyG.cons rfl (fun K hK => ?_) AllReadyG.nil
        go_simp
        refine (HMul.out _ v1 Xw H1).mono ?_
        rintro e w2h ⟨v2, rfl, H2, hbx⟩
        have H1 := H1.call hbx
        have X0 := keepc hbx (Nat.lt_of_lt_of_le hpw Xw.size) X0
        have X1 := keepc hbx (Nat.lt_of_lt_of_le hpw Xw.size) X1
        have Xw := Xw.trans (hbx.mono Xw.size)
        refine hK.out _ _ (fun _ => ⟨X0, X1⟩) ?_
        clear hK K hbx
        refine wpAnyG_ready (rs := [8]) (by kernel_rfl) (by simp) ?_
        refine AllReadyG.cons rfl (fun K hK => ?_) AllReadyG.nil
        go_simp
        refine (of_any (D : Int) _ (by omega) (by omega)).mono ?_
        rintro e w8hi ⟨v8, rfl, H8, hbx⟩
        have H1 := H1.call hbx
        have H2 := H2.call hbx
        have X0 := keepc hbx (Nat.lt_of_lt_of_le hpw Xw.size) X0
        have X1 := keepc hbx (Nat.lt_of_lt_of_le hpw Xw.size) X1
        have Xw := Xw.trans (hbx.mono Xw.size)
        refine hK.out _ _ (fun _ => ⟨X0, X1⟩) ?_
        clear hK K hbx
        refine wpAnyG_ready (rs := [9]) (by kernel_rfl) (by simp) ?_
        refine AllReadyG.cons rfl (fun K hK => ?_) AllReadyG.nil
        go_simp
        refine (HAdd.out _ v2 v8 Xw H2 H8).mono ?_
        rintro e w9hij ⟨v9, rfl, H9, hbx⟩
        have H1 := H1.call hbx
        have H2 := H2.call hbx
        have H8 := H8.call hbx
        have X0 := keepc hbx (Nat.lt_of_lt_of_le hpw Xw.size) X0
        have X1 := keepc hbx (Nat.lt_of_lt_of_le hpw Xw.size) X1
        have Xw := Xw.trans (hbx.mono Xw.size)
        refine hK.out _ _ (fun _ => ⟨X0, X1⟩) ?_
        clear hK K hbx
        obtain ⟨n7, a7, m7, c7, rfl⟩ := H9.form
        obtain ⟨W8, hW8, HP8, HH8, HR8, HW8⟩ := H9.put3 (HP.out.call Xw) (HR.out.call Xw) (by omega) (HW.out.trans (Xw.mono hwl)) (by omega)
        have YF : ∀ o, w9hij.frozen? ⟨P, o, none⟩ = false := (HP.out.call Xw).frozen
        refine wpAnyG_ready (rs := [10]) (by kernel_rfl) (by simp) ?_
        refine AllReadyG.cons rfl (fun K hK => ?_) AllReadyG.nil
        go_simp
        refine hK.out _ _ (fun h => by cases h) ?_
        clear hK K
        refine wpAnyG_done (by kernel_rfl) ?_ _
        clear hW8 H9 YF x0 x1 xf X0 X1 Xw H2 H8
        cases dv
        · go_wp2_with fail
          go_roundg qq
          case measure => omega
          case rel => exact ⟨i + 1, t + 1, nv * 10 + D, ev, false, n7, a7, m7, c7, by have := HTQ.out; omega, by have := HIT.out; omega, by first | rfl | simp, rfl, rfl, by unfold Hid; rw [HN1.out]; rfl, HP8, by unfold Hid; rw [HvN.out]; exact HH8.out, HR8, HW8⟩
        · go_wp2_with fail
          go_roundg qq
          case measure => omega
          case rel => exact ⟨i + 1, t + 1, nv * 10 + D, ev + 1, true, n7, a7, m7, c7, by have := HTQ.out; omega, by have := HIT.out; omega, by first | rfl | simp, by first | rfl | (congr 1; omega), rfl, by unfold Hid; rw [HN1.out]; rfl, HP8, by unfold Hid; rw [HvN.out]; exact HH8.out, HR8, HW8⟩
      · have hc46 : (s[i].toNat : Int) = 46 := by rw [hdt]; rfl
        have HN1 : Hid (Dc.nfold (M.take (t + 1)) = (nv, ev, true)) := by
          unfold Hid; rw [HT.out, Dc.nfold_snoc, HN.out, Dc.nst, if_pos hdt]
        clear hdt x0 x1 xf
        go_wp2_with fail
        go_roundg qq
        case measure => omega
        case rel => exact ⟨i + 1, t + 1, nv, ev, true, mm, aa, kk, cc, by have := HTQ.out; omega, by have := HIT.out; omega, by first | rfl | simp, rfl, rfl, HN1, HP, HH, HR, HW⟩
end Go.Proofs.YtkhpfdgkmnifcaaDoor
