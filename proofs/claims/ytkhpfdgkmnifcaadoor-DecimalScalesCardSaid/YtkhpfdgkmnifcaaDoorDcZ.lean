/- decimal.Text, walked. -/
import Derived.Test.YtkhpfdgkmnifcaaDoorDcX
import Derived.BigQuiet
import Derived.Deep.RegionHeld3
set_option linter.unusedVariables false
set_option linter.unusedSimpArgs false
namespace Go.Proofs.YtkhpfdgkmnifcaaDoor
open Go.RowKit Go.Lib Go.Rg
attribute [local go_sem] Oper.semAt_some

theorem dec_length (u : Nat) (h : u ≤ 9223372036854775808) : (Lib.decDigits u).length ≤ 19 := by
  obtain ⟨h1, h2, h3, h4⟩ := Dc.dec_digits u
  by_cases h0 : u = 0
  · subst h0; rw [Lib.decDigits]; simp
  · have := Dc.head_ge _ h1 h3 (h4 h0)
    rw [h2] at this
    apply Classical.byContradiction
    intro hc
    have h5 : 10 ^ 19 ≤ 10 ^ ((Lib.decDigits u).length - 1) := Nat.pow_le_pow_right (by decide) (by omega)
    omega

theorem text_any10 (n fine : Int) (w : World) (ht : Tabs w) (hn1 : -9223372036854775808 ≤ n) (hn2 : n ≤ 9223372036854775807) :
    Calls Tryd.prog 18 #[.int .i64 n, .int .i64 fine] w fun e w' => ∃ r : ByteArray, e = .returned (.string r) ∧ Hid (r.data.toList = Dc.textP n fine) ∧ Below w.heap.size w w' := by
  by_cases hbad : fine < 0 ∨ fine > 9
  · have HK : Hid (Dc.textP n fine = []) := by unfold Hid Dc.textP; rw [if_pos hbad]
    clear ht
    go_enter Tryd.func18, Tryd.ntmps18
    by_cases h0 : fine < 0
    · clear hbad
      go_wp2_with fail
      go_ret
      exact ⟨ByteArray.empty, rfl, HK.out.symm, Below.refl _ _⟩
    · have h9 : fine > 9 := by omega
      clear hbad
      go_wp2_with fail
      go_ret
      exact ⟨ByteArray.empty, rfl, HK.out.symm, Below.refl _ _⟩
  · have h0 : 0 ≤ fine := by omega
    have h9 : fine ≤ 9 := by omega
    obtain ⟨f, rfl⟩ : ∃ f : Nat, fine = f := ⟨fine.toNat, by omega⟩
    have hl := dec_length n.natAbs (by omega)
    have HA := Lib.hid (Dc.itoa_abs n)
    have HK : Hid (Dc.textP n f = (if Lib.hasPrefix (Lib.itoa n) [45] then [45] else []) ++ ((if ((Lib.trimPrefix (Lib.itoa n) [45]).length : Int) ≤ (f : Int) then Lib.repeatL [48] ((f : Int) - (Lib.trimPrefix (Lib.itoa n) [45]).length + 1).toNat ++ Lib.trimPrefix (Lib.itoa n) [45] else Lib.trimPrefix (Lib.itoa n) [45]).take ((if ((Lib.trimPrefix (Lib.itoa n) [45]).length : Int) ≤ (f : Int) then Lib.repeatL [48] ((f : Int) - (Lib.trimPrefix (Lib.itoa n) [45]).length + 1).toNat ++ Lib.trimPrefix (Lib.itoa n) [45] else Lib.trimPrefix (Lib.itoa n) [45]).length - f) ++
       (if Lib.trimRightB ((if ((Lib.trimPrefix (Lib.itoa n) [45]).length : Int) ≤ (f : Int) then Lib.repeatL [48] ((f : Int) - (Lib.trimPrefix (Lib.itoa n) [45]).length + 1).toNat ++ Lib.trimPrefix (Lib.itoa n) [45] else Lib.trimPrefix (Lib.itoa n) [45]).drop ((if ((Lib.trimPrefix (Lib.itoa n) [45]).length : Int) ≤ (f : Int) then Lib.repeatL [48] ((f : Int) - (Lib.trimPrefix (Lib.itoa n) [45]).length + 1).toNat ++ Lib.trimPrefix (Lib.itoa n) [45] else Lib.trimPrefix (Lib.itoa n) [45]).length - f)) 48 = [] then [] else
        46 :: Lib.trimRightB ((if ((Lib.trimPrefix (Lib.itoa n) [45]).length : Int) ≤ (f : Int) then Lib.repeatL [48] ((f : Int) - (Lib.trimPrefix (Lib.itoa n) [45]).length + 1).toNat ++ Lib.trimPrefix (Lib.itoa n) [45] else Lib.trimPrefix (Lib.itoa n) [45]).drop ((if ((Lib.trimPrefix (Lib.itoa n) [45]).length : Int) ≤ (f : Int) then Lib.repeatL [48] ((f : Int) - (Lib.trimPrefix (Lib.itoa n) [45]).length + 1).toNat ++ Lib.trimPrefix (Lib.itoa n) [45] else Lib.trimPrefix (Lib.itoa n) [45]).length - f)) 48))) := by
      unfold Hid Dc.textP; rw [if_neg hbad]; simp only [Int.toNat_natCast]
    generalize Dc.textP n f = R at *
    clear hbad
    have HT := Lib.hid ht
    clear ht
    go_enter Tryd.func18, Tryd.ntmps18
    go_wp2_with fail
    refine (itoa_any n _ HT.out hn1 hn2).mono ?_
    rintro e w1 ⟨r, rfl, Hr, hb⟩
    go_wp2_with fail
    refine (cutPrefix_any _ _ _).mono ?_
    rintro e w' ⟨s, b, rfl, hs, Hs, Hb, rfl⟩
    rw [Hr.out] at Hs Hb
    have Hs' : Hid (s.data.toList = Lib.trimPrefix (Lib.itoa n) [45]) := Hs.out
    have Hb' : Hid (b = Lib.hasPrefix (Lib.itoa n) [45]) := Hb.out
    have hsz : s.size ≤ 19 := by rw [Lib.size_eq, Hs'.out, HA.out.1]; exact hl
    rw [← Hb'.out, ← Hs'.out] at HK
    clear Hs Hb HA hl hs
    rw [← Lib.size_eq] at HK
    cases b
    · have HS : Hid (s.data.toList = r.data.toList) := by unfold Hid; rw [Hs'.out, Hr.out]; unfold Lib.trimPrefix; rw [← Hb'.out]; rfl
      obtain rfl : s = r := by
        have := HS.out
        cases s; cases r
        simp only [ByteArray.mk.injEq]
        exact Array.toList_inj.1 this
      clear HS Hs' Hb' Hr
      by_cases hle : (s.size : Int) ≤ (f : Int)
      · rw [if_pos hle] at HK
        have hk : (f : Int) - s.size + 1 = ((f - s.size + 1 : Nat) : Int) := by omega
        go_wp2_with fail
        refine (repeat_any _ (f - s.size + 1) _ (by omega) (by show 1 ≤ 1000; omega)).mono ?_
        rintro e w2 ⟨z, rfl, Hz, hz, hb2⟩
        have hb3 := hb.trans (hb2.mono hb.size)
        clear hb hb2
        have hz1 : z.size = f - s.size + 1 := by rw [hz]; show (f - s.size + 1) * 1 = _; omega
        have HZ : Hid ((z ++ s).data.toList = Lib.repeatL [48] ((f : Int) - s.size + 1).toNat ++ s.data.toList) := by
          unfold Hid
          rw [hk, Int.toNat_natCast, ← (show z.data.toList = Lib.repeatL [48] (f - s.size + 1) from Hz.out)]; simp
        have hzs : (z ++ s).size = z.size + s.size := ByteArray.size_append
        rw [← HZ.out] at HK
        have hts3 : z.size + s.size ≤ 30 := by omega
        have hts : f < (z ++ s).size ∧ (z ++ s).size ≤ 30 := by omega
        obtain ⟨hts1, hts2⟩ := hts
        clear hk hz hz1 hzs hle
        go_wp2_with fail
        have HQ := Lib.hid (show True from trivial)
        generalize z ++ s = c at *
        clear Hz HZ
        obtain ⟨m, hm⟩ : ∃ m : Nat, c.size = m + f := ⟨c.size - f, by omega⟩
        have hwm : IntKind.i64.wrap (m : Int) = (m : Int) := by rw [IntKind.wrap_i64]; omega
        have hsub : (c.size : Int) - (f : Int) = (m : Int) := by omega
        have HK3 : Hid (R = [] ++ (c.data.toList.take m ++ (if Lib.trimRightB (c.data.toList.drop m) 48 = [] then [] else 46 :: Lib.trimRightB (c.data.toList.drop m) 48))) := by
          unfold Hid; rw [HK.out]
          have e : c.data.toList.length - f = m := by rw [← Lib.size_eq]; omega
          rw [e]; rfl
        have HH : Hid ((c.extract 0 m).data.toList = c.data.toList.take m) := by unfold Hid; rw [Lib.extract_upto]
        have HL : Hid ((c.extract m c.size).data.toList = c.data.toList.drop m) := by unfold Hid; rw [Lx.extract_end]
        have hq1 : (0 : Int) ≤ (m : Int) := by omega
        have hq2 : (m : Int) ≤ (c.size : Int) := by omega
        have HM := Lib.hid hm
        clear hm HK
        go_wp2_with fail
        have hws : (c.extract 0 m).size ≤ 30 := by rw [ByteArray.size_extract]; omega
        have htls : (c.extract m c.size).size ≤ 30 := by rw [ByteArray.size_extract]; omega
        go_region_held3 (fun _ => True) (first | exact trivial | go_keep) ((go_at_call 31; refine (trimRight_any _ _ (by rw [ByteArray.size_extract]; unfold maxLen; omega)).mono ?_; rintro e w' ⟨pt, rfl, Hpt, hpt, rfl⟩))
        generalize c.extract 0 m = wh at *
        generalize c.extract m c.size = tl at *
        have hpts : pt.size ≤ 30 := by omega
        by_cases hp0 : pt.size = 0
        · have he := empty_yes hp0
          have HE : Hid (R = [] ++ wh.data.toList) := by
            unfold Hid
            rw [HK3.out, if_pos (by rw [← HL.out, ← Hpt.out]; exact (empty_iff pt).2 hp0), HH.out]; simp
          clear hp0
          go_wp2_with fail
          go_ret
          exact ⟨_, rfl, by unfold Hid; rw [HE.out]; simp, (by first | exact hb3 | exact hb3.drew | exact below_drewN hb3 _)⟩
        · have he := empty_no (Nat.pos_of_ne_zero hp0)
          have HE : Hid (R = [] ++ (wh.data.toList ++ (46 :: pt.data.toList))) := by
            unfold Hid
            rw [HK3.out, if_neg (by rw [← HL.out, ← Hpt.out]; exact fun e => hp0 ((empty_iff pt).1 e)), HH.out, Hpt.out, HL.out]
          clear hp0
          go_wp2_with fail
          go_ret
          exact ⟨_, rfl, by unfold Hid; rw [HE.out]; simp, (by first | exact hb3 | exact hb3.drew | exact below_drewN hb3 _)⟩
      · rw [if_neg hle] at HK
        have hlt : f < s.size := by omega
        go_wp2_with fail
        obtain ⟨m, hm⟩ : ∃ m : Nat, s.size = m + f := ⟨s.size - f, by omega⟩
        have hwm : IntKind.i64.wrap (m : Int) = (m : Int) := by rw [IntKind.wrap_i64]; omega
        have hsub : (s.size : Int) - (f : Int) = (m : Int) := by omega
        have HK3 : Hid (R = [] ++ (s.data.toList.take m ++ (if Lib.trimRightB (s.data.toList.drop m) 48 = [] then [] else 46 :: Lib.trimRightB (s.data.toList.drop m) 48))) := by
          unfold Hid; rw [HK.out]
          have e : s.data.toList.length - f = m := by rw [← Lib.size_eq]; omega
          rw [e]; rfl
        have HH : Hid ((s.extract 0 m).data.toList = s.data.toList.take m) := by unfold Hid; rw [Lib.extract_upto]
        have HL : Hid ((s.extract m s.size).data.toList = s.data.toList.drop m) := by unfold Hid; rw [Lx.extract_end]
        have hq1 : (0 : Int) ≤ (m : Int) := by omega
        have hq2 : (m : Int) ≤ (s.size : Int) := by omega
        have HM := Lib.hid hm
        clear hm HK
        go_wp2_with fail
        have hws : (s.extract 0 m).size ≤ 30 := by rw [ByteArray.size_extract]; omega
        have htls : (s.extract m s.size).size ≤ 30 := by rw [ByteArray.size_extract]; omega
        go_region_held3 (fun _ => True) (first | exact trivial | go_keep) ((go_at_call 31; refine (trimRight_any _ _ (by rw [ByteArray.size_extract]; unfold maxLen; omega)).mono ?_; rintro e w' ⟨pt, rfl, Hpt, hpt, rfl⟩))
        generalize s.extract 0 m = wh at *
        generalize s.extract m s.size = tl at *
        have hpts : pt.size ≤ 30 := by omega
        by_cases hp0 : pt.size = 0
        · have he := empty_yes hp0
          have HE : Hid (R = [] ++ wh.data.toList) := by
            unfold Hid
            rw [HK3.out, if_pos (by rw [← HL.out, ← Hpt.out]; exact (empty_iff pt).2 hp0), HH.out]; simp
          clear hp0
          go_wp2_with fail
          go_ret
          exact ⟨_, rfl, by unfold Hid; rw [HE.out]; simp, (by first | exact hb | exact hb.drew | exact below_drewN hb _)⟩
        · have he := empty_no (Nat.pos_of_ne_zero hp0)
          have HE : Hid (R = [] ++ (wh.data.toList ++ (46 :: pt.data.toList))) := by
            unfold Hid
            rw [HK3.out, if_neg (by rw [← HL.out, ← Hpt.out]; exact fun e => hp0 ((empty_iff pt).1 e)), HH.out, Hpt.out, HL.out]
          clear hp0
          go_wp2_with fail
          go_ret
          exact ⟨_, rfl, by unfold Hid; rw [HE.out]; simp, (by first | exact hb | exact hb.drew | exact below_drewN hb _)⟩
    · clear Hs' Hb' Hr
      by_cases hle : (s.size : Int) ≤ (f : Int)
      · rw [if_pos hle] at HK
        have hk : (f : Int) - s.size + 1 = ((f - s.size + 1 : Nat) : Int) := by omega
        go_wp2_with fail
        refine (repeat_any _ (f - s.size + 1) _ (by omega) (by show 1 ≤ 1000; omega)).mono ?_
        rintro e w2 ⟨z, rfl, Hz, hz, hb2⟩
        have hb3 := hb.trans (hb2.mono hb.size)
        clear hb hb2
        have hz1 : z.size = f - s.size + 1 := by rw [hz]; show (f - s.size + 1) * 1 = _; omega
        have HZ : Hid ((z ++ s).data.toList = Lib.repeatL [48] ((f : Int) - s.size + 1).toNat ++ s.data.toList) := by
          unfold Hid
          rw [hk, Int.toNat_natCast, ← (show z.data.toList = Lib.repeatL [48] (f - s.size + 1) from Hz.out)]; simp
        have hzs : (z ++ s).size = z.size + s.size := ByteArray.size_append
        rw [← HZ.out] at HK
        have hts3 : z.size + s.size ≤ 30 := by omega
        have hts : f < (z ++ s).size ∧ (z ++ s).size ≤ 30 := by omega
        obtain ⟨hts1, hts2⟩ := hts
        clear hk hz hz1 hzs hle
        go_wp2_with fail
        have HQ := Lib.hid (show True from trivial)
        generalize z ++ s = c at *
        clear Hz HZ
        obtain ⟨m, hm⟩ : ∃ m : Nat, c.size = m + f := ⟨c.size - f, by omega⟩
        have hwm : IntKind.i64.wrap (m : Int) = (m : Int) := by rw [IntKind.wrap_i64]; omega
        have hsub : (c.size : Int) - (f : Int) = (m : Int) := by omega
        have HK3 : Hid (R = [45] ++ (c.data.toList.take m ++ (if Lib.trimRightB (c.data.toList.drop m) 48 = [] then [] else 46 :: Lib.trimRightB (c.data.toList.drop m) 48))) := by
          unfold Hid; rw [HK.out]
          have e : c.data.toList.length - f = m := by rw [← Lib.size_eq]; omega
          rw [e]; rfl
        have HH : Hid ((c.extract 0 m).data.toList = c.data.toList.take m) := by unfold Hid; rw [Lib.extract_upto]
        have HL : Hid ((c.extract m c.size).data.toList = c.data.toList.drop m) := by unfold Hid; rw [Lx.extract_end]
        have hq1 : (0 : Int) ≤ (m : Int) := by omega
        have hq2 : (m : Int) ≤ (c.size : Int) := by omega
        have HM := Lib.hid hm
        clear hm HK
        go_wp2_with fail
        have hws : (c.extract 0 m).size ≤ 30 := by rw [ByteArray.size_extract]; omega
        have htls : (c.extract m c.size).size ≤ 30 := by rw [ByteArray.size_extract]; omega
        go_region_held3 (fun _ => True) (first | exact trivial | go_keep) ((go_at_call 31; refine (trimRight_any _ _ (by rw [ByteArray.size_extract]; unfold maxLen; omega)).mono ?_; rintro e w' ⟨pt, rfl, Hpt, hpt, rfl⟩))
        generalize c.extract 0 m = wh at *
        generalize c.extract m c.size = tl at *
        have hpts : pt.size ≤ 30 := by omega
        by_cases hp0 : pt.size = 0
        · have he := empty_yes hp0
          have HE : Hid (R = [45] ++ wh.data.toList) := by
            unfold Hid
            rw [HK3.out, if_pos (by rw [← HL.out, ← Hpt.out]; exact (empty_iff pt).2 hp0), HH.out]; simp
          clear hp0
          go_wp2_with fail
          go_ret
          exact ⟨_, rfl, by unfold Hid; rw [HE.out]; simp, (by first | exact hb3 | exact hb3.drew | exact below_drewN hb3 _)⟩
        · have he := empty_no (Nat.pos_of_ne_zero hp0)
          have HE : Hid (R = [45] ++ (wh.data.toList ++ (46 :: pt.data.toList))) := by
            unfold Hid
            rw [HK3.out, if_neg (by rw [← HL.out, ← Hpt.out]; exact fun e => hp0 ((empty_iff pt).1 e)), HH.out, Hpt.out, HL.out]
          clear hp0
          go_wp2_with fail
          go_ret
          exact ⟨_, rfl, by unfold Hid; rw [HE.out]; simp, (by first | exact hb3 | exact hb3.drew | exact below_drewN hb3 _)⟩
      · rw [if_neg hle] at HK
        have hlt : f < s.size := by omega
        go_wp2_with fail
        obtain ⟨m, hm⟩ : ∃ m : Nat, s.size = m + f := ⟨s.size - f, by omega⟩
        have hwm : IntKind.i64.wrap (m : Int) = (m : Int) := by rw [IntKind.wrap_i64]; omega
        have hsub : (s.size : Int) - (f : Int) = (m : Int) := by omega
        have HK3 : Hid (R = [45] ++ (s.data.toList.take m ++ (if Lib.trimRightB (s.data.toList.drop m) 48 = [] then [] else 46 :: Lib.trimRightB (s.data.toList.drop m) 48))) := by
          unfold Hid; rw [HK.out]
          have e : s.data.toList.length - f = m := by rw [← Lib.size_eq]; omega
          rw [e]; rfl
        have HH : Hid ((s.extract 0 m).data.toList = s.data.toList.take m) := by unfold Hid; rw [Lib.extract_upto]
        have HL : Hid ((s.extract m s.size).data.toList = s.data.toList.drop m) := by unfold Hid; rw [Lx.extract_end]
        have hq1 : (0 : Int) ≤ (m : Int) := by omega
        have hq2 : (m : Int) ≤ (s.size : Int) := by omega
        have HM := Lib.hid hm
        clear hm HK
        go_wp2_with fail
        have hws : (s.extract 0 m).size ≤ 30 := by rw [ByteArray.size_extract]; omega
        have htls : (s.extract m s.size).size ≤ 30 := by rw [ByteArray.size_extract]; omega
        go_region_held3 (fun _ => True) (first | exact trivial | go_keep) ((go_at_call 31; refine (trimRight_any _ _ (by rw [ByteArray.size_extract]; unfold maxLen; omega)).mono ?_; rintro e w' ⟨pt, rfl, Hpt, hpt, rfl⟩))
        generalize s.extract 0 m = wh at *
        generalize s.extract m s.size = tl at *
        have hpts : pt.size ≤ 30 := by omega
        by_cases hp0 : pt.size = 0
        · have he := empty_yes hp0
          have HE : Hid (R = [45] ++ wh.data.toList) := by
            unfold Hid
            rw [HK3.out, if_pos (by rw [← HL.out, ← Hpt.out]; exact (empty_iff pt).2 hp0), HH.out]; simp
          clear hp0
          go_wp2_with fail
          go_ret
          exact ⟨_, rfl, by unfold Hid; rw [HE.out]; simp, (by first | exact hb | exact hb.drew | exact below_drewN hb _)⟩
        · have he := empty_no (Nat.pos_of_ne_zero hp0)
          have HE : Hid (R = [45] ++ (wh.data.toList ++ (46 :: pt.data.toList))) := by
            unfold Hid
            rw [HK3.out, if_neg (by rw [← HL.out, ← Hpt.out]; exact fun e => hp0 ((empty_iff pt).1 e)), HH.out, Hpt.out, HL.out]
          clear hp0
          go_wp2_with fail
          go_ret
          exact ⟨_, rfl, by unfold Hid; rw [HE.out]; simp, (by first | exact hb | exact hb.drew | exact below_drewN hb _)⟩
end Go.Proofs.YtkhpfdgkmnifcaaDoor
