/- decimal.Text, walked. -/
import Derived.Test.YtfbdkjonjpanfaaGreatDoorGFc
import Derived.BigQuiet
import Derived.Deep.RegionHeld3
import Derived.Test.YtfbdkjonjpanfaaGreatDoorGFf
import Derived.Test.YtfbdkjonjpanfaaGreatDoorGFb
import Derived.Test.YtfbdkjonjpanfaaGreatDoorGFs
import Derived.Test.YtfbdkjonjpanfaaGreatDoorGFh

set_option linter.unusedVariables false
set_option linter.unusedSimpArgs false
namespace Go.Proofs.YtfbdkjonjpanfaaGreatDoor
open Go.RowKit Go.Lib Go.Rg
attribute [local go_sem] Oper.semAt_some

theorem dec_length (u : Nat) (h : u ≤ 9223372036854775808) : (Lib.decDigits u).length ≤ 19 := by
  obtain ⟨h1, h2, h3, h4⟩ := Dc.dec_digits u
  by_cases h0 : u = 0
  · subst h0; rw [Lib.decDigits]; simp
  · have := Dc.head_ge _ h1 h3 (h4 h0)
    rw [h2] at this
    apply Classical.byContradiction
    intro hc
    have h5 : 10 ^ 19 ≤ 10 ^ ((Lib.decDigits u).length - 1) := Nat.pow_le_pow_right (by decide) (by omega)
    omega

theorem text_any10 (n fine : Int) (w : World) (ht : TabI w) (hn1 : -9223372036854775808 ≤ n) (hn2 : n ≤ 9223372036854775807) :
    Calls Tryz.prog 42 #[.int .i64 n, .int .i64 fine] w fun e w' => ∃ r : ByteArray, e = .returned (.string r) ∧ Hid (r.data.toList = Dc.textP n fine) ∧ Below w.heap.size w w' := by
  by_cases hbad : fine < 0 ∨ fine > 9
  · have HK : Hid (Dc.textP n fine = []) := by unfold Hid Dc.textP; rw [if_pos hbad]
    clear ht
    go_enter Tryz.func42, Tryz.ntmps42
    by_cases h0 : fine < 0
    · clear hbad
      go_wp2_with fail
      go_ret
      exact ⟨ByteArray.empty, rfl, HK.out.symm, Below.refl _ _⟩
    · have h9 : fine > 9 := by omega
      clear hbad
      go_wp2_with fail
      go_ret
      exact ⟨ByteArray.empty, rfl, HK.out.symm, Below.refl _ _⟩
  · have h0 : 0 ≤ fine := by omega
    have h9 : fine ≤ 9 := by omega
    obtain ⟨f, rfl⟩ : ∃ f : Nat, fine = f := ⟨fine.toNat, by omega⟩
    have hl := dec_length n.natAbs (by omega)
    have HA := Lib.hid (Dc.itoa_abs n)
    have HK : Hid (Dc.textP n f = (if Lib.hasPrefix (Lib.itoa n) [45] then [45] else []) ++ ((if ((Lib.trimPrefix (Lib.itoa n) [45]).length : Int) ≤ (f : Int) then Lib.repeatL [48] ((f : Int) - (Lib.trimPrefix (Lib.itoa n) [45]).length + 1).toNat ++ Lib.trimPrefix (Lib.itoa n) [45] else Lib.trimPrefix (Lib.itoa n) [45]).take ((if ((Lib.trimPrefix (Lib.itoa n) [45]).length : Int) ≤ (f : Int) then Lib.repeatL [48] ((f : Int) - (Lib.trimPrefix (Lib.itoa n) [45]).length + 1).toNat ++ Lib.trimPrefix (Lib.itoa n) [45] else Lib.trimPrefix (Lib.itoa n) [45]).length - f) ++
       (if Lib.trimRightB ((if ((Lib.trimPrefix (Lib.itoa n) [45]).length : Int) ≤ (f : Int) then Lib.repeatL [48] ((f : Int) - (Lib.trimPrefix (Lib.itoa n) [45]).length + 1).toNat ++ Lib.trimPrefix (Lib.itoa n) [45] else Lib.trimPrefix (Lib.itoa n) [45]).drop ((if ((Lib.trimPrefix (Lib.itoa n) [45]).length : Int) ≤ (f : Int) then Lib.repeatL [48] ((f : Int) - (Lib.trimPrefix (Lib.itoa n) [45]).length + 1).toNat ++ Lib.trimPrefix (Lib.itoa n) [45] else Lib.trimPrefix (Lib.itoa n) [45]).length - f)) 48 = [] then [] else
        46 :: Lib.trimRightB ((if ((Lib.trimPrefix (Lib.itoa n) [45]).length : Int) ≤ (f : Int) then Lib.repeatL [48] ((f : Int) - (Lib.trimPrefix (Lib.itoa n) [45]).length + 1).toNat ++ Lib.trimPrefix (Lib.itoa n) [45] else Lib.trimPrefix (Lib.itoa n) [45]).drop ((if ((Lib.trimPrefix (Lib.itoa n) [45]).length : Int) ≤ (f : Int) then Lib.repeatL [48] ((f : Int) - (Lib.trimPrefix (Lib.itoa n) [45]).length + 1).toNat ++ Lib.trimPrefix (Lib.itoa n) [45] else Lib.trimPrefix (Lib.itoa n) [45]).length - f)) 48))) := by
      unfold Hid Dc.textP; rw [if_neg hbad]; simp only [Int.toNat_natCast]
    generalize Dc.textP n f = R at *
    clear hbad
    have HT := Lib.hid ht
    clear ht
    go_enter Tryz.func42, Tryz.ntmps42
    go_wp2_with fail
    refine (itoa_any n _ HT.out hn1 hn2).mono ?_
    rintro e w1 ⟨r, rfl, Hr, hb⟩
    go_wp2_with fail
    refine (cutPrefix_any _ _ _).mono ?_
    rintro e w' ⟨s, b, rfl, hs, Hs, Hb, rfl⟩
    rw [Hr.out] at Hs Hb
    have Hs' : Hid (s.data.toList = Lib.trimPrefix (Lib.itoa n) [45]) := Hs.out
    have Hb' : Hid (b = Lib.hasPrefix (Lib.itoa n) [45]) := Hb.out
    have hsz : s.size ≤ 19 := by rw [Lib.size_eq, Hs'.out, HA.out.1]; exact hl
    rw [← Hb'.out, ← Hs'.out] at HK
    clear Hs Hb HA hl hs
    rw [← Lib.size_eq] at HK
    cases b
    · have HS : Hid (s.data.toList = r.data.toList) := by unfold Hid; rw [Hs'.out, Hr.out]; unfold Lib.trimPrefix; rw [← Hb'.out]; rfl
      obtain rfl : s = r := by
        have := HS.out
        cases s; cases r
        simp only [ByteArray.mk.injEq]
        exact Array.toList_inj.1 this
      clear HS Hs' Hb' Hr
      by_cases hle : (s.size : Int) ≤ (f : Int)
      · rw [if_pos hle] at HK
        have hk : (f : Int) - s.size + 1 = ((f - s.size + 1 : Nat) : Int) := by omega
        go_wp2_with fail
        refine (repeat_any _ (f - s.size + 1) _ (by omega) (by show 1 ≤ 1000; omega)).mono ?_
        rintro e w2 ⟨z, rfl, Hz, hz, hb2⟩
        have hb3 := hb.trans (hb2.mono hb.size)
        clear hb hb2
        have hz1 : z.size = f - s.size + 1 := by rw [hz]; show (f - s.size + 1) * 1 = _; omega
        have HZ : Hid ((z ++ s).data.toList = Lib.repeatL [48] ((f : Int) - s.size + 1).toNat ++ s.data.toList) := by
          unfold Hid
          rw [hk, Int.toNat_natCast, ← (show z.data.toList = Lib.repeatL [48] (f - s.size + 1) from Hz.out)]; simp
        have hzs : (z ++ s).size = z.size + s.size := ByteArray.size_append
        rw [← HZ.out] at HK
        have hts3 : z.size + s.size ≤ 30 := by omega
        have hts : f < (z ++ s).size ∧ (z ++ s).size ≤ 30 := by omega
        obtain ⟨hts1, hts2⟩ := hts
        clear hk hz hz1 hzs hle
        go_wp2_with fail
        have HQ := Lib.hid (show True from trivial)
        generalize z ++ s = c at *
        clear Hz HZ
        obtain ⟨m, hm⟩ : ∃ m : Nat, c.size = m + f := ⟨c.size - f, by omega⟩
        have hwm : IntKind.i64.wrap (m : Int) = (m : Int) := by rw [IntKind.wrap_i64]; omega
        have hsub : (c.size : Int) - (f : Int) = (m : Int) := by omega
        have HK3 : Hid (R = [] ++ (c.data.toList.take m ++ (if Lib.trimRightB (c.data.toList.drop m) 48 = [] then [] else 46 :: Lib.trimRightB (c.data.toList.drop m) 48))) := by
          unfold Hid; rw [HK.out]
          have e : c.data.toList.length - f = m := by rw [← Lib.size_eq]; omega
          rw [e]; rfl
        have HH : Hid ((c.extract 0 m).data.toList = c.data.toList.take m) := by unfold Hid; rw [Lib.extract_upto]
        have HL : Hid ((c.extract m c.size).data.toList = c.data.toList.drop m) := by unfold Hid; rw [Lx.extract_end]
        have hq1 : (0 : Int) ≤ (m : Int) := by omega
        have hq2 : (m : Int) ≤ (c.size : Int) := by omega
        have HM := Lib.hid hm
        clear hm HK
        go_wp2_with fail
        have hws : (c.extract 0 m).size ≤ 30 := by rw [ByteArray.size_extract]; omega
        have htls : (c.extract m c.size).size ≤ 30 := by rw [ByteArray.size_extract]; omega
        go_region_held3 (fun _ => True) (first | exact trivial | go_keep) ((go_at_call 63; refine (trimRight_any _ _ (by rw [ByteArray.size_extract]; unfold maxLen; omega)).mono ?_; rintro e w' ⟨pt, rfl, Hpt, hpt, rfl⟩))
        generalize c.extract 0 m = wh at *
        generalize c.extract m c.size = tl at *
        have hpts : pt.size ≤ 30 := by omega
        by_cases hp0 : pt.size = 0
        · have he := empty_yes hp0
          have HE : Hid (R = [] ++ wh.data.toList) := by
            unfold Hid
            rw [HK3.out, if_pos (by rw [← HL.out, ← Hpt.out]; exact (empty_iff pt).2 hp0), HH.out]; simp
          clear hp0
          go_wp2_with fail
          go_ret
          exact ⟨_, rfl, by unfold Hid; rw [HE.out]; simp, (by first | exact hb3 | exact hb3.drew | exact below_drewN hb3 _)⟩
        · have he := empty_no (Nat.pos_of_ne_zero hp0)
          have HE : Hid (R = [] ++ (wh.data.toList ++ (46 :: pt.data.toList))) := by
            unfold Hid
            rw [HK3.out, if_neg (by rw [← HL.out, ← Hpt.out]; exact fun e => hp0 ((empty_iff pt).1 e)), HH.out, Hpt.out, HL.out]
          clear hp0
          go_wp2_with fail
          go_ret
          exact ⟨_, rfl, by unfold Hid; rw [HE.out]; simp, (by first | exact hb3 | exact hb3.drew | exact below_drewN hb3 _)⟩
      · rw [if_neg hle] at HK
        have hlt : f < s.size := by omega
        go_wp2_with fail
        obtain ⟨m, hm⟩ : ∃ m : Nat, s.size = m + f := ⟨s.size - f, by omega⟩
        have hwm : IntKind.i64.wrap (m : Int) = (m : Int) := by rw [IntKind.wrap_i64]; omega
        have hsub : (s.size : Int) - (f : Int) = (m : Int) := by omega
        have HK3 : Hid (R = [] ++ (s.data.toList.take m ++ (if Lib.trimRightB (s.data.toList.drop m) 48 = [] then [] else 46 :: Lib.trimRightB (s.data.toList.drop m) 48))) := by
          unfold Hid; rw [HK.out]
          have e : s.data.toList.length - f = m := by rw [← Lib.size_eq]; omega
          rw [e]; rfl
        have HH : Hid ((s.extract 0 m).data.toList = s.data.toList.take m) := by unfold Hid; rw [Lib.extract_upto]
        have HL : Hid ((s.extract m s.size).data.toList = s.data.toList.drop m) := by unfold Hid; rw [Lx.extract_end]
        have hq1 : (0 : Int) ≤ (m : Int) := by omega
        have hq2 : (m : Int) ≤ (s.size : Int) := by omega
        have HM := Lib.hid hm
        clear hm HK
        go_wp2_with fail
        have hws : (s.extract 0 m).size ≤ 30 := by rw [ByteArray.size_extract]; omega
        have htls : (s.extract m s.size).size ≤ 30 := by rw [ByteArray.size_extract]; omega
        go_region_held3 (fun _ => True) (first | exact trivial | go_keep) ((go_at_call 63; refine (trimRight_any _ _ (by rw [ByteArray.size_extract]; unfold maxLen; omega)).mono ?_; rintro e w' ⟨pt, rfl, Hpt, hpt, rfl⟩))
        generalize s.extract 0 m = wh at *
        generalize s.extract m s.size = tl at *
        have hpts : pt.size ≤ 30 := by omega
        by_cases hp0 : pt.size = 0
        · have he := empty_yes hp0
          have HE : Hid (R = [] ++ wh.data.toList) := by
            unfold Hid
            rw [HK3.out, if_pos (by rw [← HL.out, ← Hpt.out]; exact (empty_iff pt).2 hp0), HH.out]; simp
          clear hp0
          go_wp2_with fail
          go_ret
          exact ⟨_, rfl, by unfold Hid; rw [HE.out]; simp, (by first | exact hb | exact hb.drew | exact below_drewN hb _)⟩
        · have he := empty_no (Nat.pos_of_ne_zero hp0)
          have HE : Hid (R = [] ++ (wh.data.toList ++ (46 :: pt.data.toList))) := by
            unfold Hid
            rw [HK3.out, if_neg (by rw [← HL.out, ← Hpt.out]; exact fun e => hp0 ((empty_iff pt).1 e)), HH.out, Hpt.out, HL.out]
          clear hp0
          go_wp2_with fail
          go_ret
          exact ⟨_, rfl, by unfold Hid; rw [HE.out]; simp, (by first | exact hb | exact hb.drew | exact below_drewN hb _)⟩
    · clear Hs' Hb' Hr
      by_cases hle : (s.size : Int) ≤ (f : Int)
      · rw [if_pos hle] at HK
        have hk : (f : Int) - s.size + 1 = ((f - s.size + 1 : Nat) : Int) := by omega
        go_wp2_with fail
        refine (repeat_any _ (f - s.size + 1) _ (by omega) (by show 1 ≤ 1000; omega)).mono ?_
        rintro e w2 ⟨z, rfl, Hz, hz, hb2⟩
        have hb3 := hb.trans (hb2.mono hb.size)
        clear hb hb2
        have hz1 : z.size = f - s.size + 1 := by rw [hz]; show (f - s.size + 1) * 1 = _; omega
        have HZ : Hid ((z ++ s).data.toList = Lib.repeatL [48] ((f : Int) - s.size + 1).toNat ++ s.data.toList) := by
          unfold Hid
          rw [hk, Int.toNat_natCast, ← (show z.data.toList = Lib.repeatL [48] (f - s.size + 1) from Hz.out)]; simp
        have hzs : (z ++ s).size = z.size + s.size := ByteArray.size_append
        rw [← HZ.out] at HK
        have hts3 : z.size + s.size ≤ 30 := by omega
        have hts : f < (z ++ s).size ∧ (z ++ s).size ≤ 30 := by omega
        obtain ⟨hts1, hts2⟩ := hts
        clear hk hz hz1 hzs hle
        go_wp2_with fail
        have HQ := Lib.hid (show True from trivial)
        generalize z ++ s = c at *
        clear Hz HZ
        obtain ⟨m, hm⟩ : ∃ m : Nat, c.size = m + f := ⟨c.size - f, by omega⟩
        have hwm : IntKind.i64.wrap (m : Int) = (m : Int) := by rw [IntKind.wrap_i64]; omega
        have hsub : (c.size : Int) - (f : Int) = (m : Int) := by omega
        have HK3 : Hid (R = [45] ++ (c.data.toList.take m ++ (if Lib.trimRightB (c.data.toList.drop m) 48 = [] then [] else 46 :: Lib.trimRightB (c.data.toList.drop m) 48))) := by
          unfold Hid; rw [HK.out]
          have e : c.data.toList.length - f = m := by rw [← Lib.size_eq]; omega
          rw [e]; rfl
        have HH : Hid ((c.extract 0 m).data.toList = c.data.toList.take m) := by unfold Hid; rw [Lib.extract_upto]
        have HL : Hid ((c.extract m c.size).data.toList = c.data.toList.drop m) := by unfold Hid; rw [Lx.extract_end]
        have hq1 : (0 : Int) ≤ (m : Int) := by omega
        have hq2 : (m : Int) ≤ (c.size : Int) := by omega
        have HM := Lib.hid hm
        clear hm HK
        go_wp2_with fail
        have hws : (c.extract 0 m).size ≤ 30 := by rw [ByteArray.size_extract]; omega
        have htls : (c.extract m c.size).size ≤ 30 := by rw [ByteArray.size_extract]; omega
        go_region_held3 (fun _ => True) (first | exact trivial | go_keep) ((go_at_call 63; refine (trimRight_any _ _ (by rw [ByteArray.size_extract]; unfold maxLen; omega)).mono ?_; rintro e w' ⟨pt, rfl, Hpt, hpt, rfl⟩))
        generalize c.extract 0 m = wh at *
        generalize c.extract m c.size = tl at *
        have hpts : pt.size ≤ 30 := by omega
        by_cases hp0 : pt.size = 0
        · have he := empty_yes hp0
          have HE : Hid (R = [45] ++ wh.data.toList) := by
            unfold Hid
            rw [HK3.out, if_pos (by rw [← HL.out, ← Hpt.out]; exact (empty_iff pt).2 hp0), HH.out]; simp
          clear hp0
          go_wp2_with fail
          go_ret
          exact ⟨_, rfl, by unfold Hid; rw [HE.out]; simp, (by first | exact hb3 | exact hb3.drew | exact below_drewN hb3 _)⟩
        · have he := empty_no (Nat.pos_of_ne_zero hp0)
          have HE : Hid (R = [45] ++ (wh.data.toList ++ (46 :: pt.data.toList))) := by
            unfold Hid
            rw [HK3.out, if_neg (by rw [← HL.out, ← Hpt.out]; exact fun e => hp0 ((empty_iff pt).1 e)), HH.out, Hpt.out, HL.out]
          clear hp0
          go_wp2_with fail
          go_ret
          exact ⟨_, rfl, by unfold Hid; rw [HE.out]; simp, (by first | exact hb3 | exact hb3.drew | exact below_drewN hb3 _)⟩
      · rw [if_neg hle] at HK
        have hlt : f < s.size := by omega
        go_wp2_with fail
        obtain ⟨m, hm⟩ : ∃ m : Nat, s.size = m + f := ⟨s.size - f, by omega⟩
        have hwm : IntKind.i64.wrap (m : Int) = (m : Int) := by rw [IntKind.wrap_i64]; omega
        have hsub : (s.size : Int) - (f : Int) = (m : Int) := by omega
        have HK3 : Hid (R = [45] ++ (s.data.toList.take m ++ (if Lib.trimRightB (s.data.toList.drop m) 48 = [] then [] else 46 :: Lib.trimRightB (s.data.toList.drop m) 48))) := by
          unfold Hid; rw [HK.out]
          have e : s.data.toList.length - f = m := by rw [← Lib.size_eq]; omega
          rw [e]; rfl
        have HH : Hid ((s.extract 0 m).data.toList = s.data.toList.take m) := by unfold Hid; rw [Lib.extract_upto]
        have HL : Hid ((s.extract m s.size).data.toList = s.data.toList.drop m) := by unfold Hid; rw [Lx.extract_end]
        have hq1 : (0 : Int) ≤ (m : Int) := by omega
        have hq2 : (m : Int) ≤ (s.size : Int) := by omega
        have HM := Lib.hid hm
        clear hm HK
        go_wp2_with fail
        have hws : (s.extract 0 m).size ≤ 30 := by rw [ByteArray.size_extract]; omega
        have htls : (s.extract m s.size).size ≤ 30 := by rw [ByteArray.size_extract]; omega
        go_region_held3 (fun _ => True) (first | exact trivial | go_keep) ((go_at_call 63; refine (trimRight_any _ _ (by rw [ByteArray.size_extract]; unfold maxLen; omega)).mono ?_; rintro e w' ⟨pt, rfl, Hpt, hpt, rfl⟩))
        generalize s.extract 0 m = wh at *
        generalize s.extract m s.size = tl at *
        have hpts : pt.size ≤ 30 := by omega
        by_cases hp0 : pt.size = 0
        · have he := empty_yes hp0
          have HE : Hid (R = [45] ++ wh.data.toList) := by
            unfold Hid
            rw [HK3.out, if_pos (by rw [← HL.out, ← Hpt.out]; exact (empty_iff pt).2 hp0), HH.out]; simp
          clear hp0
          go_wp2_with fail
          go_ret
          exact ⟨_, rfl, by unfold Hid; rw [HE.out]; simp, (by first | exact hb | exact hb.drew | exact below_drewN hb _)⟩
        · have he := empty_no (Nat.pos_of_ne_zero hp0)
          have HE : Hid (R = [45] ++ (wh.data.toList ++ (46 :: pt.data.toList))) := by
            unfold Hid
            rw [HK3.out, if_neg (by rw [← HL.out, ← Hpt.out]; exact fun e => hp0 ((empty_iff pt).1 e)), HH.out, Hpt.out, HL.out]
          clear hp0
          go_wp2_with fail
          go_ret
          exact ⟨_, rfl, by unfold Hid; rw [HE.out]; simp, (by first | exact hb | exact hb.drew | exact below_drewN hb _)⟩
end Go.Proofs.YtfbdkjonjpanfaaGreatDoor

set_option linter.unusedVariables false
set_option linter.unusedSimpArgs false
namespace Go.Proofs.YtfbdkjonjpanfaaGreatDoor
open Go.RowKit Go.Rg Ft

namespace Ft
theorem scale_text (n : Int) (f : Nat) (hf : f ≤ 9) (h1 : -1099511627775 ≤ n) (h2 : n ≤ 1099511627775) : Dc.scaleP (Dc.textP n f) f = (n, 0) := by
  obtain ⟨sg, a, dt, b, hp, hbf, hnv, _⟩ := Dc.text_law n f hf
  have hlen : (Dc.textP n f).length ≤ 60 := Dc.text_size n f hf (by omega) (by omega)
  obtain ⟨z, hz⟩ : ∃ z : Nat, z = f - b.length := ⟨_, rfl⟩
  have hpe : Dc.numE b [] [] = -(b.length : Int) := by unfold Dc.numE; simp [Dc.dval]
  rcases Dc.scale_law hp (by omega) (by simp) f hf (z : Int) (by rw [hpe]; omega) n 1 (by rw [if_pos (by omega), ← hnv, hz]; rfl) (by rw [if_pos (by omega)]) with ⟨n', h3, h4, h5, h6⟩ | ⟨h3, h4⟩ | ⟨h3, h4, h5⟩
  · have : n' = n := by simpa using h6
    rw [h3, this]
  · exact absurd (Nat.mod_one _) h4
  · have : 1099511627775 < n.natAbs := by simpa using h5
    omega
theorem right_text (n : Int) (f : Nat) (hf : f ≤ 9) : Lx.right (Dc.textP n f) = true := by
  obtain ⟨sg, a, dt, b, hp, _⟩ := Dc.text_law n f hf
  exact Dc.right_of_parts _ _ _ _ _ _ _ _ hp

def inUnit (p : Pt) : Prop := (-1099511627775 ≤ p.1 ∧ p.1 ≤ 1099511627775) ∧ (-1099511627775 ≤ p.2 ∧ p.2 ≤ 1099511627775)
/-- a point's texts -/
def prT (f : Nat) (p : Pt) : Wk.Pr := (Dc.textP p.1 f, Dc.textP p.2 f)
def prsT (f : Nat) (l : List Pt) : List Wk.Pr := l.map (prT f)
theorem one_prT {f : Nat} (hf : f ≤ 9) {p : Pt} (h : inUnit p) : one f (prT f p) = p := by
  unfold one prT
  rw [scale_text p.1 f hf h.1.1 h.1.2, scale_text p.2 f hf h.2.1 h.2.2]
theorem scl_prsT {f : Nat} (hf : f ≤ 9) : ∀ {l : List Pt}, (∀ p ∈ l, inUnit p) → scl f (prsT f l) = l
  | [], _ => rfl
  | p :: l, h => by
    have h1 := one_prT hf (h p (List.mem_cons_self ..))
    have h2 := scl_prsT hf (l := l) (fun q hq => h q (List.mem_cons_of_mem _ hq))
    unfold scl prsT at *
    simp only [List.map_cons, h1, h2]
theorem errs_prsT {f : Nat} (hf : f ≤ 9) (e : Int) (he : e ≠ 0) : ∀ {l : List Pt}, (∀ p ∈ l, inUnit p) → errs e f (prsT f l) = false
  | [], _ => rfl
  | p :: l, h => by
    have hp := h p (List.mem_cons_self ..)
    have h2 := errs_prsT hf e he (l := l) (fun q hq => h q (List.mem_cons_of_mem _ hq))
    unfold errs prsT at *
    simp only [List.map_cons, List.any_cons, h2, Bool.or_false]
    unfold err prT
    rw [scale_text p.1 f hf hp.1.1 hp.1.2, scale_text p.2 f hf hp.2.1 hp.2.2]
    have : ((0 : Int) == e) = false := by rw [beq_eq_false_iff_ne]; exact fun h => he h.symm
    simp [this]
theorem lsB_prsT {f : Nat} (hf : f ≤ 9) (l : List Pt) : Wk.lsB (prsT f l) = true := by
  unfold Wk.lsB prsT
  rw [List.all_map, List.all_eq_true]
  intro p _
  show Wk.prB (prT f p) = true
  unfold Wk.prB prT
  rw [right_text _ f hf, right_text _ f hf]; rfl

/-- what is added, one behind the other: the kind, the points -/
def items (F : Fe) : List (Int × List Pt) := (F.pts.map fun p => ((1 : Int), [p])) ++ (F.lines ++ F.rings).mapIdx fun i l => (if F.lines.length ≤ i then 3 else 2, l)
def itG (f : Nat) (z : Int × List Pt) : GA := ⟨z.1, 2, [prsT f z.2], []⟩
/-- a feature's geometries -/
def geosF (f : Nat) (F : Fe) : List GA := ⟨7, 0, [], []⟩ :: ⟨7, 1, [], []⟩ :: (items F).map (itG f)
def sound (F : Fe) : Prop := (∀ p ∈ F.pts, inUnit p) ∧ ∀ l ∈ F.lines ++ F.rings, l ≠ [] ∧ ∀ p ∈ l, inUnit p
theorem items_ok {F : Fe} (h : sound F) : ∀ z ∈ items F, (z.1 = 1 ∧ z.2.length = 1 ∨ z.1 = 2 ∨ z.1 = 3) ∧ z.2 ≠ [] ∧ ∀ p ∈ z.2, inUnit p := by
  intro z hz
  unfold items at hz
  rcases List.mem_append.1 hz with hz | hz
  · obtain ⟨p, hp, rfl⟩ := List.mem_map.1 hz
    refine ⟨.inl ⟨rfl, rfl⟩, by simp, fun q hq => ?_⟩
    have e : q = p := by simpa using hq
    rw [e]
    exact h.1 p hp
  · obtain ⟨i, hi, rfl⟩ := List.mem_mapIdx.1 hz
    have hm : (F.lines ++ F.rings)[i] ∈ F.lines ++ F.rings := List.getElem_mem hi
    refine ⟨.inr ?_, (h.2 _ hm).1, (h.2 _ hm).2⟩
    by_cases hl : F.lines.length ≤ i
    · rw [if_pos hl]; exact .inr rfl
    · rw [if_neg hl]; exact .inl rfl
theorem geos_err {F : Fe} (h : sound F) {f : Nat} (hf : f ≤ 9) (e : Int) (he : e ≠ 0) : errA e f (geosF f F) = false := by
  unfold errA geosF
  simp only [List.any_cons]
  show (errL e f [] || (errL e f [] || ((items F).map (itG f)).any fun g => errL e f g.lists)) = false
  rw [show errL e f [] = false from rfl, Bool.false_or, Bool.false_or, List.any_map, List.any_eq_false]
  intro z hz
  show ¬ errL e f [prsT f z.2] = true
  unfold errL
  simp only [List.any_cons, List.any_nil, Bool.or_false]
  rw [errs_prsT hf e he (items_ok h z hz).2.2]
  simp
theorem geos_at (f : Nat) (F : Fe) (k : Nat) : (geosF f F)[k + 2]? = ((items F)[k]?).map (itG f) := by
  unfold geosF
  simp
theorem geos_right {F : Fe} (h : sound F) {f : Nat} (hf : f ≤ 9) : Wk.RightA (geosF f F) := by
  refine ⟨by unfold geosF; simp, fun i hi => ?_⟩
  have key : ∀ z ∈ items F, Wk.oneA (itG f z) = true := by
    intro z hz
    obtain ⟨h1, h2, h3⟩ := items_ok h z hz
    unfold Wk.oneA itG
    have hl := lsB_prsT hf z.2
    have hlen : (prsT f z.2).length = z.2.length := by unfold prsT; simp
    have hpos : 0 < z.2.length := List.length_pos_iff.2 h2
    rcases h1 with ⟨h4, h5⟩ | h4 | h4
    · simp [Wk.shapedA, h4, hl, hlen, h5]
    · simp [Wk.shapedA, h4, hl, hlen, hpos]
    · simp [Wk.shapedA, h4, hl]
  unfold Wk.okAt
  match i with
  | 0 => rfl
  | 1 => rfl
  | k + 2 =>
    rw [geos_at]
    cases hz : (items F)[k]? with
    | none => rfl
    | some z =>
      have hzm := List.mem_of_getElem? hz
      have hk7 : ((itG f z).kind == 7) = false := by
        obtain ⟨h1, _⟩ := items_ok h z hzm
        show (z.1 == 7) = false
        rw [beq_eq_false_iff_ne]
        omega
      show Wk.okA (Wk.prevA (geosF f F) (k + 2)) (itG f z) = true
      unfold Wk.okA
      rw [key z hzm, hk7, Bool.true_and, Bool.false_and, Bool.not_false, Bool.and_true]
      unfold Wk.prevA
      rw [if_neg (by omega), show k + 2 - 1 = k + 1 from rfl]
      cases k with
      | zero => rfl
      | succ k =>
        rw [geos_at]
        have hlt := (List.getElem?_eq_some_iff.1 hz).1
        obtain ⟨y, hy⟩ : ∃ y, (items F)[k]? = some y := ⟨_, List.getElem?_eq_getElem (by omega)⟩
        rw [hy]
        obtain ⟨h1, _⟩ := items_ok h y (List.mem_of_getElem? hy)
        have hy7 : ¬ y.1 = 7 := by omega
        simp [Wk.levA, Wk.mostA, itG, hy7]

/-- the feature that the first items make -/
def part (F : Fe) (k : Nat) : Fe := ((items F).take k).foldl (fun g z => addL z.1 g z.2) .no
theorem part_succ {F : Fe} {k : Nat} {z : Int × List Pt} (h : (items F)[k]? = some z) : part F (k + 1) = addL z.1 (part F k) z.2 := by
  unfold part; rw [List.take_add_one, h, List.foldl_append]; rfl
theorem geos_acc {F : Fe} (h : sound F) {f : Nat} (hf : f ≤ 9) : ∀ k, k ≤ (items F).length → accN f (geosF f F) (k + 2) = some ([], part F k)
  | 0, _ => by
    unfold geosF
    rfl
  | k + 1, hk => by
    obtain ⟨z, hz⟩ : ∃ z, (items F)[k]? = some z := ⟨_, List.getElem?_eq_getElem (by omega)⟩
    have ih := geos_acc h hf k (by omega)
    have hg : (geosF f F)[k + 2]? = some (itG f z) := by rw [geos_at, hz]; rfl
    rw [show k + 1 + 2 = (k + 2) + 1 from rfl, accN_succ f _ (k + 2) _ hg, ih]
    unfold next
    rw [if_neg (by rintro ⟨h1, _⟩; omega), if_neg (by show ¬ (2 : Int) ≤ 1; omega)]
    simp only [Option.map_some]
    rw [part_succ hz]
    have : addG f (itG f z).kind (part F k) (itG f z).lists = addL z.1 (part F k) z.2 := by
      show addL z.1 (part F k) (scl f (prsT f z.2)) = _
      rw [scl_prsT hf (items_ok h z (List.mem_of_getElem? hz)).2.2]
    rw [this]
theorem part_all {F : Fe} (h : sound F) : part F (items F).length = F := by
  unfold part
  rw [List.take_length]
  unfold items
  rw [List.foldl_append]
  have h1 : ∀ (l : List Pt) (g : Fe), (l.map fun p => ((1 : Int), [p])).foldl (fun g z => addL z.1 g z.2) g = { g with pts := g.pts ++ l } := by
    intro l
    induction l with
    | nil => intro g; simp
    | cons p l ih => intro g; rw [List.map_cons, List.foldl_cons, ih]; unfold addL; simp
  have h2 : ∀ (l : List (List Pt)) (g : Fe), (∀ x ∈ l, x ≠ []) → (l.map fun x => ((2 : Int), x)).foldl (fun g z => addL z.1 g z.2) g = { g with lines := g.lines ++ l } := by
    intro l
    induction l with
    | nil => intro g _; simp
    | cons p l ih =>
      intro g hx
      rw [List.map_cons, List.foldl_cons, ih _ (fun x hx' => hx x (List.mem_cons_of_mem _ hx'))]
      have := hx p (List.mem_cons_self ..)
      unfold addL; simp [this]
  have h3 : ∀ (l : List (List Pt)) (g : Fe), (∀ x ∈ l, x ≠ []) → (l.map fun x => ((3 : Int), x)).foldl (fun g z => addL z.1 g z.2) g = { g with rings := g.rings ++ l } := by
    intro l
    induction l with
    | nil => intro g _; simp
    | cons p l ih =>
      intro g hx
      rw [List.map_cons, List.foldl_cons, ih _ (fun x hx' => hx x (List.mem_cons_of_mem _ hx'))]
      have := hx p (List.mem_cons_self ..)
      unfold addL; simp [this]
  have e : ((F.lines ++ F.rings).mapIdx fun i l => ((if F.lines.length ≤ i then (3 : Int) else 2), l)) = (F.lines.map fun x => ((2 : Int), x)) ++ F.rings.map fun x => ((3 : Int), x) := by
    apply List.ext_getElem?
    intro i
    rw [List.getElem?_mapIdx, List.getElem?_append, List.getElem?_append]
    simp only [List.length_map]
    by_cases hi : i < F.lines.length
    · rw [if_pos hi, if_pos hi, List.getElem?_map]
      cases F.lines[i]? with
      | none => rfl
      | some l => simp; omega
    · rw [if_neg hi, if_neg hi, List.getElem?_map]
      cases F.rings[i - F.lines.length]? with
      | none => rfl
      | some l => simp; omega
  rw [e, List.foldl_append, h1, h2 _ _ (fun x hx => (h.2 x (List.mem_append_left _ hx)).1), h3 _ _ (fun x hx => (h.2 x (List.mem_append_right _ hx)).1)]
  simp [Fe.no]
theorem geos_from {F : Fe} (h : sound F) {f : Nat} (hf : f ≤ 9) : from_ f (geosF f F) = [F] := by
  unfold from_
  have hlen : (geosF f F).length = (items F).length + 2 := by unfold geosF; simp
  rw [hlen, geos_acc h hf _ (Nat.le_refl _), part_all h]
  rfl
end Ft
end Go.Proofs.YtfbdkjonjpanfaaGreatDoor

set_option linter.unusedVariables false
set_option linter.unusedSimpArgs false
namespace Go.Proofs.YtfbdkjonjpanfaaGreatDoor
open Go.RowKit Go.Rg Ft
attribute [local go_sem] Oper.semAt_some

theorem info_pr : (Tryz.prog.info? 77).map (fun i => (i.zero, i.size, i.bytes)) = some (some (.agg #[.string ⟨#[]⟩, .string ⟨#[]⟩]), 2, 32) := by kernel_rfl

set_option maxRecDepth 100000 in
set_option maxHeartbeats 8000000 in
theorem pairs13_any (v : Value) (l : List Pt) (fine : Nat) (w : World) (hv : RdC w v l.length (flat l)) (ht : TabI w) (hl : l.length ≤ 1000000) (hx : ∀ p ∈ l, inUnit p) :
    Calls Tryz.prog 28 #[v, .int .i64 (fine : Int)] w fun e w' => ∃ u, e = .returned u ∧ w'.ownsRow w.heap.size 77 2 u l.length (flatP (prsT fine l)) ∧ Below w.heap.size w w' := by
  obtain ⟨a, c, rfl, hm, _⟩ := id hv
  have Hv := Lib.hid hv
  have HT := Lib.hid ht
  have HX := Lib.hid hx
  unfold maxLen at hm
  obtain ⟨n, hn⟩ : ∃ n, n = l.length := ⟨_, rfl⟩
  rw [← hn] at hm hl ⊢
  have Hn := Lib.hid hn
  clear hn ht hx hv
  go_enter Tryz.func28, Tryz.ntmps28
  go_wp2_with fail
  go_loopg [5, 10] n (fun q s5 s10 wx => ∃ (i : Nat) (av : Option Addr) (capv : Nat), i + q = n ∧ s5 = .slice av i capv ∧ s10 = .int .i64 (i : Int) ∧ Hid (wx.ownsRow w.heap.size 77 2 (.slice av i capv) i (flatP (prsT fine (l.take i)))) ∧ Hid (Below w.heap.size w wx))
  case atStart => exact ⟨0, none, 0, by omega, rfl, by first | rfl | simp, World.ownsRow_nil _ _ _ _, Below.refl _ _⟩
  case round =>
    obtain ⟨i, av, capv, hq, rfl, rfl, HO, HB⟩ := hrel
    cases gk with
    | zero =>
      have hin : i = n := by omega
      subst hin
      have hfull : l.take i = l := by rw [Hn.out, List.take_length]
      rw [hfull] at HO
      clear hfull
      go_wp2_with fail
      try rw [Exit.noGoto_ret]
      go_ret
      exact ⟨_, rfl, HO.out, HB.out⟩
    | succ q =>
      have hin : i < n := by omega
      obtain ⟨p, hp⟩ : ∃ p, l[i]? = some p := ⟨_, List.getElem?_eq_getElem (by rw [← Hn.out]; exact hin)⟩
      obtain ⟨g1, o1, cc, e3, h1, h2, h3, t4, t5⟩ := LqC.pt Hv.out hp
      injection e3 with e31 e32 e33
      subst e31 e33
      rw [← Hn.out] at h1
      have y1 := keepc HB.out h3 t4
      have y2 := keepc HB.out h3 t5
      obtain ⟨⟨k1, k2⟩, k3, k4⟩ := HX.out p (List.mem_of_getElem? hp)
      have hx1 : -9223372036854775808 ≤ p.1 := by omega
      have hx2 : p.1 ≤ 9223372036854775807 := by omega
      have hx3 : -9223372036854775808 ≤ p.2 := by omega
      have hx4 : p.2 ≤ 9223372036854775807 := by omega
      have Hst : Hid (flatP (prsT fine (l.take (i + 1))) = flatP (prsT fine (l.take i)) ++ [.string ⟨(Dc.textP p.1 fine).toArray⟩, .string ⟨(Dc.textP p.2 fine).toArray⟩]) := by
        unfold Hid prsT flatP; rw [List.take_add_one, hp, List.map_append, List.flatMap_append]; rfl
      unfold maxLen at h2
      have hwr : w.heap.size ≤ wr.heap.size := HB.out.size
      have HQ := Lib.hid hq
      clear t4 t5 e32 hp hq k1 k2 k3 k4
      go_wp2_with fail
      obtain ⟨wb, hwb⟩ : ∃ W, wr.alloc (.cells #[.int .i64 p.1, .int .i64 p.2] tP) = W := ⟨_, rfl⟩
      have hbb : Below wr.heap.size wr wb := hwb ▸ (Below.refl _ wr).alloc (Nat.le_refl _) _
      have HPB : Hid (Blk wb wr.heap.size [.int .i64 p.1, .int .i64 p.2] tP) := hwb ▸ Blk.new wr _ _
      have HO := Lib.hid (own_call HO.out hbb)
      have HB := Lib.hid (HB.out.trans (hbb.mono HB.out.size))
      rw [hwb]
      clear hwb hbb
      obtain ⟨P, hP⟩ : ∃ P, P = wr.heap.size := ⟨_, rfl⟩
      rw [← hP] at HPB hwr ⊢
      have x0 := HPB.out.cell (j := 0) rfl
      have x1 := HPB.out.cell (j := 1) rfl
      clear hP y1 y2
      refine wp_region_held_drew (S := fun w' => w'.cell? ⟨P, 0, none⟩ = some (.int .i64 p.1) ∧ w'.cell? ⟨P, 1, none⟩ = some (.int .i64 p.2)) (by kernel_rfl) ⟨x0, x1⟩ (fun hHeld => ?_)
      refine takeL 0 (v := ?_) rfl (by kernel_rfl) (by kernel_rfl) (by kernel_rfl) (fun _ _ _ h => h) (by rfl) (by assumption) ?hy0 ?_
      case hy0 => (intro w hSw; (try dsimp only at hSw); go_simp; all_goals (with_reducible rfl))
      (try simp only [Act.put, List.setIfInBounds_toArray, List.set_cons_zero, List.set_cons_succ])
      refine takeL 1 (v := ?_) rfl (by kernel_rfl) (by kernel_rfl) (by kernel_rfl) (fun _ _ _ h => h) (by rfl) (by assumption) ?hy1 ?_
      case hy1 => (intro w hSw; (try dsimp only at hSw); go_simp; all_goals (with_reducible rfl))
      (try simp only [Act.put, List.setIfInBounds_toArray, List.set_cons_zero, List.set_cons_succ])
      refine takeL 2 (v := ?_) rfl (by kernel_rfl) (by kernel_rfl) (by kernel_rfl) (fun _ _ _ h => h) (by rfl) (by assumption) ?hy2 ?_
      case hy2 => (intro w hSw; (try dsimp only at hSw); go_simp; all_goals (with_reducible rfl))
      (try simp only [Act.put, List.setIfInBounds_toArray, List.set_cons_zero, List.set_cons_succ])
      refine takeL 3 (v := ?_) rfl (by kernel_rfl) (by kernel_rfl) (by kernel_rfl) (fun _ _ _ h => h) (by rfl) (by assumption) ?hy3 ?_
      case hy3 => (intro w hSw; (try dsimp only at hSw); go_simp; all_goals (with_reducible rfl))
      (try simp only [Act.put, List.setIfInBounds_toArray, List.set_cons_zero, List.set_cons_succ])
      refine takeL 5 (v := ?_) rfl (by kernel_rfl) (by kernel_rfl) (by kernel_rfl) (fun _ _ _ h => h) (by rfl) (by assumption) ?hy5 ?_
      case hy5 => (intro w hSw; (try dsimp only at hSw); go_simp; all_goals (with_reducible rfl))
      (try simp only [Act.put, List.setIfInBounds_toArray, List.set_cons_zero, List.set_cons_succ])
      refine takeL 6 (v := ?_) rfl (by kernel_rfl) (by kernel_rfl) (by kernel_rfl) (fun _ _ _ h => h) (by rfl) (by assumption) ?hy6 ?_
      case hy6 => (intro w hSw; (try dsimp only at hSw); go_simp; all_goals (with_reducible rfl))
      (try simp only [Act.put, List.setIfInBounds_toArray, List.set_cons_zero, List.set_cons_succ])
      refine takeL 7 (v := ?_) rfl (by kernel_rfl) (by kernel_rfl) (by kernel_rfl) (fun _ _ _ h => h) (by rfl) (by assumption) ?hy7 ?_
      case hy7 => (intro w hSw; (try dsimp only at hSw); go_simp; all_goals (with_reducible rfl))
      (try simp only [Act.put, List.setIfInBounds_toArray, List.set_cons_zero, List.set_cons_succ])
      refine consL 4 (by kernel_rfl) rfl (by rfl) (fun K hK => ?_)
      go_simp
      go_at_call 42
      refine (text_any10 p.1 fine wb.drew (HT.out.below HB.out.drew (Nat.le_refl _)) hx1 hx2).mono ?_
      rintro e w4 ⟨r4, rfl, hr4, b4⟩
      obtain rfl : r4 = ⟨(Dc.textP p.1 fine).toArray⟩ := bytes_eq hr4.out
      have b4 : Below wb.heap.size wb w4 := ((Below.refl _ wb).drew).trans b4
      have HPB := Lib.hid (HPB.out.call b4)
      have HO := Lib.hid (own_call HO.out b4)
      have HB := Lib.hid (HB.out.trans (b4.mono HB.out.size))
      have x0 := HPB.out.cell (j := 0) rfl
      have x1 := HPB.out.cell (j := 1) rfl
      clear b4 hr4
      clear hHeld
      refine hK.out _ _ ?hS4 (fun hHeld => ?_)
      case hS4 => ((try dsimp only); exact ⟨x0, x1⟩)
      clear hK K
      (try simp only [Act.put, List.setIfInBounds_toArray, List.set_cons_zero, List.set_cons_succ])
      refine consL 8 (by kernel_rfl) rfl (by rfl) (fun K hK => ?_)
      go_simp
      go_at_call 42
      refine (text_any10 p.2 fine w4 (HT.out.below HB.out (Nat.le_refl _)) hx3 hx4).mono ?_
      rintro e w8 ⟨r8, rfl, hr8, b8⟩
      obtain rfl : r8 = ⟨(Dc.textP p.2 fine).toArray⟩ := bytes_eq hr8.out
      have HPB := Lib.hid (HPB.out.call b8)
      have HO := Lib.hid (own_call HO.out b8)
      have HB := Lib.hid (HB.out.trans (b8.mono HB.out.size))
      have x0 := HPB.out.cell (j := 0) rfl
      have x1 := HPB.out.cell (j := 1) rfl
      have hz8 : P < w8.heap.size := HPB.out.lt
      have hz9 : w.heap.size ≤ w8.heap.size := HB.out.size
      clear b8 hr8
      clear hHeld
      refine hK.out _ _ ?hS8 (fun hHeld => ?_)
      case hS8 => ((try dsimp only); exact ⟨x0, x1⟩)
      clear hK K
      (try simp only [Act.put, List.setIfInBounds_toArray, List.set_cons_zero, List.set_cons_succ])
      refine takeL 9 (v := ?_) rfl (by kernel_rfl) (by kernel_rfl) (by kernel_rfl) (fun _ _ _ h => h) (by rfl) (by assumption) ?hy9 ?_
      case hy9 => (intro w hSw; (try dsimp only at hSw); go_simp; all_goals (with_reducible rfl))
      (try simp only [Act.put, List.setIfInBounds_toArray, List.set_cons_zero, List.set_cons_succ])
      refine consL 10 (by kernel_rfl) rfl (by rfl) (fun K hK => ?_)
      go_simp
      have hal : Below w8.heap.size w8 (w8.alloc (.cells #[.string ⟨(Dc.textP p.1 fine).toArray⟩, .string ⟨(Dc.textP p.2 fine).toArray⟩] 77)) := (Below.refl _ w8).alloc (Nat.le_refl _) _
      have HPB := Lib.hid (HPB.out.call hal)
      have x0 := HPB.out.cell (j := 0) rfl
      have x1 := HPB.out.cell (j := 1) rfl
      have HO := Lib.hid (own_call HO.out hal)
      have HB := Lib.hid (HB.out.trans (hal.mono HB.out.size))
      have hown := HO.out
      clear hal
      clear hHeld
      refine hK.out _ _ ?hS10 (fun hHeld => ?_)
      case hS10 => ((try dsimp only); exact ⟨x0, x1⟩)
      clear hK K
      (try simp only [Act.put, List.setIfInBounds_toArray, List.set_cons_zero, List.set_cons_succ])
      refine consL 11 (by kernel_rfl) rfl (by rfl) (fun K hK => ?_)
      refine wp_append2 _ _ _ 39 rfl w.heap.size 77 (.agg #[.string ⟨#[]⟩, .string ⟨#[]⟩]) 2 32 Tryz.underlying39 info_pr rfl (by decide) (.slice av i capv) i _ rfl hown _ _ 1 [.string ⟨(Dc.textP p.1 fine).toArray⟩, .string ⟨(Dc.textP p.2 fine).toArray⟩] rfl (reads_new _ _ _ 1 1 (by decide) (by decide)) rfl (by simp [Value.oneCell']) (by unfold maxLen; omega) (by omega) (by simp; omega) ?_
      intro v' w11 hown2 hgrow hmov
      obtain ⟨a2, cap2, rfl⟩ := own_form hown2
      have HPB := Lib.hid (HPB.out.grown hgrow (HPB.out.not_own hown (by decide)))
      have x0 := HPB.out.cell (j := 0) rfl
      have x1 := HPB.out.cell (j := 1) rfl
      have HB := Lib.hid (HB.out.grown hgrow (by simp; omega) (fun k e => (hown.lt k e).1))
      have HO := Lib.hid hown2
      clear hown hown2 hgrow hmov
      clear hHeld
      refine hK.out _ _ ?hS11 (fun hHeld => ?_)
      case hS11 => ((try dsimp only); exact ⟨x0, x1⟩)
      clear hK K
      (try simp only [Act.put, List.setIfInBounds_toArray, List.set_cons_zero, List.set_cons_succ])
      refine takeL 12 (v := ?_) rfl (by kernel_rfl) (by kernel_rfl) (by kernel_rfl) (fun _ _ _ h => h) (by rfl) (by assumption) ?hy12 ?_
      case hy12 => (intro w hSw; (try dsimp only at hSw); go_simp; all_goals (with_reducible rfl))
      (try simp only [Act.put, List.setIfInBounds_toArray, List.set_cons_zero, List.set_cons_succ])
      refine wpAnyH_done (by kernel_rfl) ?_ _
      clear x0 x1 hHeld HPB
      go_wp2_with fail
      go_roundg q
      case measure => omega
      case rel => exact ⟨i + 1, a2, cap2, by have := HQ.out; omega, rfl, by first | rfl | simp, by unfold Hid; rw [Hst.out]; exact HO.out, HB⟩
end Go.Proofs.YtfbdkjonjpanfaaGreatDoor

set_option linter.unusedVariables false
set_option linter.unusedSimpArgs false
namespace Go.Proofs.YtfbdkjonjpanfaaGreatDoor
namespace Gt
open Go.RowKit Go.Rg Ft
attribute [local go_sem] Oper.semAt_some

/-- lists of pairs in memory that no store of another type touches -/
def LsT (w : World) (vs : List Value) (ls : List (List Wk.Pr)) : Prop := vs.length = ls.length ∧ ∀ (i : Nat) (l : List Wk.Pr), ls[i]? = some l → ∃ v, vs[i]? = some v ∧ RdT 77 w v l.length (flatP l)
theorem LsT.keep {w w' : World} {vs : List Value} {ls : List (List Wk.Pr)} (h : LsT w vs ls) (hk : KeepT 77 w w') : LsT w' vs ls := ⟨h.1, fun i l hl => by
  obtain ⟨v, h1, h2⟩ := h.2 i l hl; exact ⟨v, h1, h2.keep hk⟩⟩
theorem LsT.toC {w : World} {vs : List Value} {ls : List (List Wk.Pr)} (h : LsT w vs ls) : LsC w vs ls := fun i l hl => by
  obtain ⟨v, h1, h2⟩ := h.2 i l hl; exact ⟨v, h1, .of h2⟩
theorem LsT.nil (w : World) : LsT w [] [] := ⟨rfl, fun i l hl => by simp at hl⟩
theorem snoc_at {A : Type} {l : List A} {a x : A} {i : Nat} (h : (l ++ [a])[i]? = some x) : l[i]? = some x ∨ (i = l.length ∧ x = a) := by
  rcases Nat.lt_or_ge i l.length with h1 | h1
  · rw [List.getElem?_append_left h1] at h; exact .inl h
  · rw [List.getElem?_append_right h1] at h
    have hi : i - l.length = 0 := Nat.eq_zero_of_not_pos fun hp => by
      rw [List.getElem?_eq_none (by simp; omega)] at h; cases h
    rw [hi] at h
    simp only [List.getElem?_cons_zero, Option.some.injEq] at h
    exact .inr ⟨by omega, h.symm⟩
theorem LsT.snoc {w : World} {vs : List Value} {ls : List (List Wk.Pr)} {v : Value} {l : List Wk.Pr} (h : LsT w vs ls) (hv : RdT 77 w v l.length (flatP l)) : LsT w (vs ++ [v]) (ls ++ [l]) :=
  ⟨by rw [List.length_append, List.length_append, h.1]; rfl, fun i x hx => by
    rcases snoc_at hx with h1 | ⟨h1, rfl⟩
    · obtain ⟨u, q1, q2⟩ := h.2 i x h1
      exact ⟨u, by rw [List.getElem?_append_left (List.getElem?_eq_some_iff.1 q1).1]; exact q1, q2⟩
    · exact ⟨v, by rw [h1, ← h.1, List.getElem?_append_right (Nat.le_refl _), Nat.sub_self]; rfl, hv⟩⟩
def BdT (w : World) (lv zv : Value) (g : GA) : Prop := ∃ vs, RdT 39 w lv g.lists.length vs ∧ LsT w vs g.lists ∧ RdT 3 w zv g.sizes.length (intsZ g.sizes)
theorem BdT.keep {w w' : World} {lv zv : Value} {g : GA} (h : BdT w lv zv g) (h1 : KeepT 39 w w') (h2 : KeepT 77 w w') (h3 : KeepT 3 w w') : BdT w' lv zv g := by
  obtain ⟨vs, a, b, c⟩ := h; exact ⟨vs, a.keep h1, b.keep h2, c.keep h3⟩
theorem BdT.toC {w : World} {lv zv : Value} {g : GA} (h : BdT w lv zv g) : BdA w lv zv g := by
  obtain ⟨vs, a, b, c⟩ := h; exact ⟨vs, b.1, .of a, b.toC, .of c⟩
def GsT (w : World) (cs : List Value) (l : List GA) : Prop := cs.length = l.length * 4 ∧ ∀ (i : Nat) (g : GA), l[i]? = some g → ∃ lv zv, cs[i * 4]? = some (.int .i64 g.kind) ∧ cs[i * 4 + 1]? = some (.int .i64 g.level) ∧ cs[i * 4 + 2]? = some lv ∧ cs[i * 4 + 3]? = some zv ∧ BdT w lv zv g
theorem GsT.keep {w w' : World} {cs : List Value} {l : List GA} (h : GsT w cs l) (h1 : KeepT 39 w w') (h2 : KeepT 77 w w') (h3 : KeepT 3 w w') : GsT w' cs l := ⟨h.1, fun i g hg => by
  obtain ⟨lv, zv, q1, q2, q3, q4, q5⟩ := h.2 i g hg; exact ⟨lv, zv, q1, q2, q3, q4, q5.keep h1 h2 h3⟩⟩
theorem GsT.toC {w : World} {cs : List Value} {l : List GA} (h : GsT w cs l) : GsC w cs l := fun i g hg => by
  obtain ⟨lv, zv, q1, q2, q3, q4, q5⟩ := h.2 i g hg; exact ⟨lv, zv, q1, q2, q3, q4, q5.toC⟩
theorem GsT.snoc {w : World} {cs : List Value} {l : List GA} {g : GA} {lv zv : Value} (h : GsT w cs l) (hg : BdT w lv zv g) : GsT w (cs ++ [.int .i64 g.kind, .int .i64 g.level, lv, zv]) (l ++ [g]) := by
  refine ⟨by rw [List.length_append, List.length_append, h.1]; simp; omega, fun i x hx => ?_⟩
  rcases snoc_at hx with h1 | ⟨h1, rfl⟩
  · obtain ⟨u, z, q1, q2, q3, q4, q5⟩ := h.2 i x h1
    have hlt : i < l.length := (List.getElem?_eq_some_iff.1 h1).1
    have hc := h.1
    refine ⟨u, z, ?_, ?_, ?_, ?_, q5⟩
    · rw [List.getElem?_append_left (by omega)]; exact q1
    · rw [List.getElem?_append_left (by omega)]; exact q2
    · rw [List.getElem?_append_left (by omega)]; exact q3
    · rw [List.getElem?_append_left (by omega)]; exact q4
  · subst h1
    have hc := h.1
    refine ⟨lv, zv, ?_, ?_, ?_, ?_, hg⟩
    · rw [List.getElem?_append_right (by omega), hc, Nat.sub_self]; rfl
    · rw [List.getElem?_append_right (by omega), hc, Nat.add_sub_cancel_left]; rfl
    · rw [List.getElem?_append_right (by omega), hc, Nat.add_sub_cancel_left]; rfl
    · rw [List.getElem?_append_right (by omega), hc, Nat.add_sub_cancel_left]; rfl

/-- the geometries that are told, while they grow: their slice is v -/
def GO (B : Nat) (w0 X : World) (v : Value) (acc : List GA) : Prop := Upd B w0 X ∧ ∃ cs, X.ownsRow w0.heap.size 33 4 v acc.length cs ∧ GsT X cs acc
theorem GO.call {B : Nat} {w0 X Y : World} {v : Value} {acc : List GA} (h : GO B w0 X v acc) (hb : Below X.heap.size X Y) : GO B w0 Y v acc := by
  obtain ⟨h1, cs, h2, h3⟩ := h; exact ⟨h1.call hb, cs, own_call h2 hb, h3.keep (.call hb) (.call hb) (.call hb)⟩
/-- what one call leaves -/
structure GeoR (B : Nat) (w0 w : World) (v v' : Value) (acc : List GA) (Y : World) : Prop where
  box : Blk Y B [v'] 23
  go : GO B w0 Y v' acc
  mov : Moves w v v'
  size : w.heap.size ≤ Y.heap.size
  os : Y.os = w.os
  tape : Y.tape = w.tape
  output : Y.output = w.output
  same : ∀ k, k < w.heap.size → k ≠ B → v.ownBlock ≠ some k → Y.heap[k]? = w.heap[k]?
theorem GeoR.of {B : Nat} {w0 w X Z : World} {v v' : Value} {acc : List GA} {cs : List Value} {g : GA} {lv zv : Value} (hb : Below w.heap.size w X) (hU : Upd B w0 X) (hBb : Blk X B [v] 23) (ho : X.ownsRow w0.heap.size 33 4 v acc.length cs) (hT : GsT X cs acc) (hd : BdT X lv zv g)
    (ho' : Z.ownsRow w0.heap.size 33 4 v' (acc.length + 1) (cs ++ [.int .i64 g.kind, .int .i64 g.level, lv, zv])) (hg : X.grownBy Z v.ownBlock) (hm : Moves X v v') : GeoR B w0 w v v' (acc ++ [g]) (Z.setCell ⟨B, 0, none⟩ v') := by
  have hbz := hBb.grown hg (hBb.not_own ho (by decide))
  have kt : ∀ T, 23 ≠ T → KeepT T Z (Z.setCell ⟨B, 0, none⟩ v') := fun T hT => KeepT.set ⟨B, 0, none⟩ hbz hT v'
  refine ⟨hbz.set 0 v', ⟨(hU.grown hg (fun k e => (ho.lt k e).1)).set 0 v', _, by rw [List.length_append]; exact own_keep ho' (kt _ (by decide)), ?_⟩, ?_, ?_, ?_, ?_, ?_, ?_⟩
  · exact ((hT.snoc hd).keep (.grown ho (by decide) hg) (.grown ho (by decide) hg) (.grown ho (by decide) hg)).keep (kt _ (by decide)) (kt _ (by decide)) (kt _ (by decide))
  · rcases hm with h | ⟨k, h1, h2⟩
    · exact .inl h
    · exact .inr ⟨k, h1, Nat.le_trans hb.size h2⟩
  · have := hg.size; have := hb.size; simp [World.setCell]; omega
  · exact hg.os.trans hb.os
  · exact hg.tape.trans hb.tape
  · exact hg.output.trans hb.output
  · intro k hk hkB hkv
    rw [Below.heap_setCell Z ⟨B, 0, none⟩ v' k hkB]
    exact (hg.block k (Nat.lt_of_lt_of_le hk hb.size) (fun e => hkv e.symm)).trans (hb.block k hk)
theorem info_geo13 : (Tryz.prog.info? 33).map (fun i => (i.zero, i.size, i.bytes)) = some (some (.agg #[.int .i64 0, .int .i64 0, .slice none 0 0, .slice none 0 0]), 4, 64) := by kernel_rfl

set_option maxRecDepth 100000 in
set_option maxHeartbeats 8000000 in
theorem geo1_any (B Fb : Nat) (w0 w : World) (acc : List GA) (kind : Int) (v ov : Value) (l : List Pt) (fine : Nat) (hBb : Blk w B [ov] 23) (hG : GO B w0 w ov acc) (hFb : Blk w Fb [.int .i64 (fine : Int)] 3)
    (hv : RdC w v l.length (flat l)) (ht : TabI w) (hl : l.length ≤ 1000000) (hx : ∀ p ∈ l, inUnit p) (ha : acc.length ≤ 1000000) :
    Calls Tryz.prog 27 #[.int .i64 kind, v, .pointer (some ⟨B, 0, none⟩), .pointer (some ⟨Fb, 0, none⟩)] w fun e Y => e = .returned (.tuple #[]) ∧ ∃ v', GeoR B w0 w ov v' (acc ++ [itG fine (kind, l)]) Y := by
  obtain ⟨a, c, rfl, hm, _⟩ := id hv
  have Hv := Lib.hid hv
  have HT := Lib.hid ht
  have HX := Lib.hid hx
  obtain ⟨_, cs0, hO0, _⟩ := id hG
  obtain ⟨oa, oc, rfl⟩ := own_form hO0
  have HG := Lib.hid hG
  have HBb := Lib.hid hBb
  have HFb := Lib.hid hFb
  have hBl := hBb.lt
  have hFl := hFb.lt
  have x0 := hBb.cell (j := 0) rfl
  have x1 := hFb.cell (j := 0) rfl
  unfold maxLen at hm
  clear hv ht hx hG hBb hFb hO0
  go_enter Tryz.func27, Tryz.ntmps27
  go_wp2_with fail
  refine heldG_go (S := fun w' => w'.cell? ⟨B, 0, none⟩ = some (.slice oa acc.length oc) ∧ w'.cell? ⟨Fb, 0, none⟩ = some (.int .i64 (fine : Int))) (late := fun j => j == 9) (by kernel_rfl) ⟨x0, x1⟩ (fun hHeld => ?_)
  refine takeG 0 (v := ?_) [0, 8, 9] rfl (by kernel_rfl) (by kernel_rfl) (by kernel_rfl) (by kernel_rfl) (by kernel_rfl) (fun _ _ _ h => h) (by rfl) (by assumption) ?hy0 ?_
  case hy0 => (intro w hSw; (try dsimp only at hSw); go_simp; all_goals (with_reducible rfl))
  (try simp only [Act.put, List.setIfInBounds_toArray, List.set_cons_zero, List.set_cons_succ])
  refine takeG 1 (v := ?_) [1, 6, 7, 8, 9] rfl (by kernel_rfl) (by kernel_rfl) (by kernel_rfl) (by kernel_rfl) (by kernel_rfl) (fun _ _ _ h => h) (by rfl) (by assumption) ?hy1 ?_
  case hy1 => (intro w hSw; (try dsimp only at hSw); go_simp; all_goals (with_reducible rfl))
  (try simp only [Act.put, List.setIfInBounds_toArray, List.set_cons_zero, List.set_cons_succ])
  refine takeG 2 (v := ?_) [2, 4, 5, 6, 7, 8, 9] rfl (by kernel_rfl) (by kernel_rfl) (by kernel_rfl) (by kernel_rfl) (by kernel_rfl) (fun _ _ _ h => h) (by rfl) (by assumption) ?hy2 ?_
  case hy2 => (intro w hSw; (try dsimp only at hSw); go_simp; all_goals (with_reducible rfl))
  (try simp only [Act.put, List.setIfInBounds_toArray, List.set_cons_zero, List.set_cons_succ])
  refine takeG 3 (v := ?_) [3, 4, 5, 6, 7, 8, 9] rfl (by kernel_rfl) (by kernel_rfl) (by kernel_rfl) (by kernel_rfl) (by kernel_rfl) (fun _ _ _ h => h) (by rfl) (by assumption) ?hy3 ?_
  case hy3 => (intro w hSw; (try dsimp only at hSw); go_simp; all_goals (with_reducible rfl))
  (try simp only [Act.put, List.setIfInBounds_toArray, List.set_cons_zero, List.set_cons_succ])
  refine consG 4 (by kernel_rfl) rfl (by rfl) (fun K hK => ?_)
  go_simp
  go_at_call 28
  refine (pairs13_any _ l fine w.drew (Hv.out.call (Below.refl _ w).drew) (HT.out.below (Below.refl _ w).drew (Nat.le_refl _)) hl HX.out).mono ?_
  rintro e w4 ⟨u4, rfl, o4, b4⟩
  have b4 : Below w.heap.size w w4 := ((Below.refl _ w).drew).trans b4
  obtain ⟨pa, pc, rfl⟩ := own_form o4
  have HR4 := Lib.hid (RdT.of_own o4)
  have HB4 := Lib.hid b4
  have HG4 := Lib.hid (HG.out.call b4)
  have x0 := (HBb.out.call b4).cell (j := 0) rfl
  have x1 := (HFb.out.call b4).cell (j := 0) rfl
  have hs4 : w.heap.size ≤ w4.heap.size := b4.size
  clear b4 o4
  clear hHeld
  refine hK.out _ _ ?hS4 (fun hHeld => ?_)
  case hS4 => (intro _; (try dsimp only); exact ⟨x0, x1⟩)
  have hHeld := hHeld rfl
  clear hK K
  (try simp only [Act.put, List.setIfInBounds_toArray, List.set_cons_zero, List.set_cons_succ])
  refine consG 5 (by kernel_rfl) rfl (by rfl) (fun K hK => ?_)
  go_simp
  obtain ⟨w5, hw5⟩ : ∃ X, w4.alloc (.cells #[.slice pa l.length pc] 39) = X := ⟨_, rfl⟩
  have b5 : Below w4.heap.size w4 w5 := hw5 ▸ (Below.refl _ w4).alloc (Nat.le_refl _) _
  have HBL : Hid (Blk w5 w4.heap.size [.slice pa l.length pc] 39) := hw5 ▸ Blk.new w4 _ _
  have HR5 := Lib.hid (HR4.out.keep (.call b5))
  have HB5 := Lib.hid (HB4.out.trans (b5.mono HB4.out.size))
  have HG5 := Lib.hid (HG4.out.call b5)
  have x0 := (HBb.out.call HB5.out).cell (j := 0) rfl
  have x1 := (HFb.out.call HB5.out).cell (j := 0) rfl
  (try rw [hw5])
  clear hw5 b5
  clear hHeld
  refine hK.out _ _ ?hS5 (fun hHeld => ?_)
  case hS5 => (intro _; (try dsimp only); exact ⟨x0, x1⟩)
  have hHeld := hHeld rfl
  clear hK K
  (try simp only [Act.put, List.setIfInBounds_toArray, List.set_cons_zero, List.set_cons_succ])
  refine takeG 6 (v := ?_) [6, 7, 8, 9] rfl (by kernel_rfl) (by kernel_rfl) (by kernel_rfl) (by kernel_rfl) (by kernel_rfl) (fun _ _ _ h => h) (by rfl) (by assumption) ?hy6 ?_
  case hy6 => (intro w hSw; (try dsimp only at hSw); go_simp; all_goals (with_reducible rfl))
  (try simp only [Act.put, List.setIfInBounds_toArray, List.set_cons_zero, List.set_cons_succ])
  refine consG 7 (by kernel_rfl) rfl (by rfl) (fun K hK => ?_)
  go_simp
  obtain ⟨w7, hw7⟩ : ∃ X, w5.alloc (.cells #[.int .i64 kind, .int .i64 2, .slice (some ⟨w4.heap.size, 0, none⟩) 1 1, .slice none 0 0] 33) = X := ⟨_, rfl⟩
  have b7 : Below w5.heap.size w5 w7 := hw7 ▸ (Below.refl _ w5).alloc (Nat.le_refl _) _
  have HRd : Hid (Reads w7 w7.heap.size (.slice (some ⟨w5.heap.size, 0, none⟩) 1 1) 1 [.int .i64 kind, .int .i64 2, .slice (some ⟨w4.heap.size, 0, none⟩) 1 1, .slice none 0 0]) := by
    have hb : Blk w7 w5.heap.size [.int .i64 kind, .int .i64 2, .slice (some ⟨w4.heap.size, 0, none⟩) 1 1, .slice none 0 0] 33 := hw7 ▸ Blk.new w5 _ _
    exact .inr ⟨w5.heap.size, 0, 1, rfl, hb.lt, Nat.le_refl _, (by decide), fun j x hj => by rw [Nat.zero_add]; exact hb.cell hj⟩
  have HBd : Hid (BdT w7 (.slice (some ⟨w4.heap.size, 0, none⟩) 1 1) (.slice none 0 0) (itG fine (kind, l))) := by
    refine ⟨[.slice pa l.length pc], ?_, ⟨rfl, fun i m hi => ?_⟩, .inl ⟨rfl, rfl, rfl⟩⟩
    · exact RdT.keep (.inr ⟨w4.heap.size, 0, 1, _, _, rfl, HBL.out, Nat.le_refl _, (by decide), fun j x hj => by rw [Nat.zero_add]; simpa using hj⟩) (.call b7)
    · cases i with
      | zero =>
        cases hi
        have h := HR5.out.keep (.call b7)
        have e : (prsT fine l).length = l.length := by unfold prsT; simp
        exact ⟨_, rfl, by show RdT _ w7 _ (prsT fine l).length (flatP (prsT fine l)); rw [e]; exact h⟩
      | succ i => simp [itG] at hi
  have HB7 := Lib.hid (HB5.out.trans (b7.mono HB5.out.size))
  have HG7 := Lib.hid (HG5.out.call b7)
  have x0 := (HBb.out.call HB7.out).cell (j := 0) rfl
  have x1 := (HFb.out.call HB7.out).cell (j := 0) rfl
  have hs7 : w.heap.size ≤ w7.heap.size := HB7.out.size
  (try rw [hw7])
  clear hw7 b7
  clear hHeld
  refine hK.out _ _ ?hS7 (fun hHeld => ?_)
  case hS7 => (intro _; (try dsimp only); exact ⟨x0, x1⟩)
  have hHeld := hHeld rfl
  clear hK K
  (try simp only [Act.put, List.setIfInBounds_toArray, List.set_cons_zero, List.set_cons_succ])
  refine consG 8 (by kernel_rfl) rfl (by rfl) (fun K hK => ?_)
  obtain ⟨hU7, cs, hO7, hT7⟩ := HG7.out
  have hs70 : w0.heap.size ≤ w7.heap.size := hU7.size
  refine wp_append2 _ _ _ 23 rfl w0.heap.size 33 (.agg #[.int .i64 0, .int .i64 0, .slice none 0 0, .slice none 0 0]) 4 64 Tryz.underlying23 info_geo13 rfl (by decide) (.slice oa acc.length oc) acc.length _ rfl hO7 _ w7.heap.size 1 [.int .i64 kind, .int .i64 2, .slice (some ⟨w4.heap.size, 0, none⟩) 1 1, .slice none 0 0] rfl HRd.out rfl (by simp [Value.oneCell']) (by unfold maxLen; omega) (by omega) hs70 ?_
  intro v8 w8 own8 grow8 mov8
  obtain ⟨oa8, oc8, rfl⟩ := own_form own8
  have HB8b := (HBb.out.call HB7.out).grown grow8 ((HBb.out.call HB7.out).not_own hO7 (by decide))
  have HF8b := (HFb.out.call HB7.out).grown grow8 ((HFb.out.call HB7.out).not_own hO7 (by decide))
  have x0 := HB8b.cell (j := 0) rfl
  have x1 := HF8b.cell (j := 0) rfl
  have xf := HB8b.frozen 0
  have HRes : Hid (GeoR B w0 w (.slice oa acc.length oc) (.slice oa8 (acc.length + 1) oc8) (acc ++ [itG fine (kind, l)]) (w8.setCell ⟨B, 0, none⟩ (.slice oa8 (acc.length + 1) oc8))) :=
    GeoR.of HB7.out hU7 (HBb.out.call HB7.out) hO7 hT7 HBd.out own8 grow8 mov8
  clear hU7 hO7 hT7 HB8b HF8b own8 grow8 mov8
  clear hHeld
  refine hK.out _ _ ?hS8 (fun hHeld => ?_)
  case hS8 => (intro _; (try dsimp only); exact ⟨x0, x1⟩)
  have hHeld := hHeld rfl
  clear hK K
  (try simp only [Act.put, List.setIfInBounds_toArray, List.set_cons_zero, List.set_cons_succ])
  refine consG 9 (by kernel_rfl) rfl (by rfl) (fun K hK => ?_)
  go_simp
  clear hHeld
  refine hK.out _ _ (fun h => by cases h) (fun hHeld => ?_)
  clear hK K
  (try simp only [Act.put, List.setIfInBounds_toArray, List.set_cons_zero, List.set_cons_succ])
  refine wpAnyG_done (by kernel_rfl) ?_ _
  clear x0 x1 xf hHeld
  go_wp2_with fail
  refine bodyPost_end (v := .tuple #[]) (by simp [results, Tryz.results27, go_sem, *]) rfl ⟨rfl, _, HRes.out⟩
end Gt
end Go.Proofs.YtfbdkjonjpanfaaGreatDoor

set_option linter.unusedVariables false
set_option linter.unusedSimpArgs false
namespace Go.Proofs.YtfbdkjonjpanfaaGreatDoor
namespace Gt
open Go.RowKit Go.Rg Ft
attribute [local go_sem] Oper.semAt_some

theorem run_store_func (P : Program) (w : World) (a : Addr) (g : Fn) (x y : Array Value) (m : Mode) : (store a (.func g x y) m).run P w = stored P w a (.func g x y) m := run_store P w a _ m rfl
attribute [local go_sem] run_store_func
abbrev tOut : TypeId := 23
abbrev tCl : TypeId := 87
def clo (B Fb : Nat) : Value := .func (.func 27) #[] #[.pointer (some ⟨B, 0, none⟩), .pointer (some ⟨Fb, 0, none⟩)]
/-- what lies between two calls of the closure -/
def GL (B A Fb C : Nat) (bf : List Value) (fine : Nat) (w0 X : World) (acc : List GA) (v : Value) : Prop :=
  Blk X B [v] tOut ∧ GO B w0 X v acc ∧ Blk X A bf tF ∧ Blk X Fb [.int .i64 (fine : Int)] 3 ∧ Blk X C [clo B Fb] tCl
theorem GL.call {B A Fb C : Nat} {bf : List Value} {fine : Nat} {w0 X Y : World} {acc : List GA} {v : Value} (h : GL B A Fb C bf fine w0 X acc v) (hb : Below X.heap.size X Y) : GL B A Fb C bf fine w0 Y acc v := by
  obtain ⟨h1, h2, h3, h4, h5⟩ := h
  exact ⟨h1.call hb, h2.call hb, h3.call hb, h4.call hb, h5.call hb⟩
theorem GL.step {B A Fb C : Nat} {bf : List Value} {fine : Nat} {w0 X Y : World} {acc acc' : List GA} {v v' : Value} (h : GL B A Fb C bf fine w0 X acc v) (hA : A ≠ B) (hF : Fb ≠ B) (hC : C ≠ B) (hr : GeoR B w0 X v v' acc' Y) : GL B A Fb C bf fine w0 Y acc' v' := by
  obtain ⟨h1, ⟨_, cs, h2, _⟩, h3, h4, h5⟩ := h
  exact ⟨hr.box, hr.go, h3.of_same (hr.same A h3.lt hA (fun e => h3.not_own h2 (by decide) e.symm)), h4.of_same (hr.same Fb h4.lt hF (fun e => h4.not_own h2 (by decide) e.symm)), h5.of_same (hr.same C h5.lt hC (fun e => h5.not_own h2 (by decide) e.symm))⟩
/-- between two rounds of the range: the slice's own block is none of the iterator's -/
def GI (B A Fb C : Nat) (bf : List Value) (fine : Nat) (w0 : World) (F : Fe) (k : Nat) (O : Nat → Prop) (X : World) (acc : Nat → List GA) : Prop :=
  ∃ v, GL B A Fb C bf fine w0 X (acc k) v ∧ ∀ g, v.ownBlock = some g → ¬ O g ∧ g < X.heap.size
theorem GL.ext {B A Fb C D : Nat} {bf : List Value} {fine : Nat} {w0 X Y : World} {acc : List GA} {v : Value} (h : GL B A Fb C bf fine w0 X acc v) (hx : Ext D X Y) (hD : w0.heap.size ≤ D) : GL B A Fb C bf fine w0 Y acc v := by
  obtain ⟨h1, ⟨u, cs, o, g⟩, h3, h4, h5⟩ := h
  have hk : ∀ T, KeepT T X Y := fun T k c fz hc => hx.cells k _ hc rfl
  exact ⟨h1.ext hx, ⟨⟨hx.below.os.trans u.os, hx.below.tape.trans u.tape, hx.below.output.trans u.output, Nat.le_trans u.size hx.size, fun k hk hkw => (hx.below.block k (by omega)).trans (u.same k hk hkw)⟩, cs, own_ext o hx, g.keep (hk _) (hk _) (hk _)⟩, h3.ext hx, h4.ext hx, h5.ext hx⟩
theorem GI.stab {B A Fb C D : Nat} {bf : List Value} {fine : Nat} {w0 X Y : World} {F : Fe} {k : Nat} {O O' : Nat → Prop} {acc : Nat → List GA} (h : GI B A Fb C bf fine w0 F k O X acc) (hx : Ext D X Y) (hD : w0.heap.size ≤ D) (hO : ∀ j, O' j → grow O X Y j) : GI B A Fb C bf fine w0 F k O' Y acc := by
  obtain ⟨v, h1, h2⟩ := h
  refine ⟨v, h1.ext hx hD, fun g hg => ⟨fun h => ?_, Nat.lt_of_lt_of_le (h2 g hg).2 hx.size⟩⟩
  rcases hO g h with h | h
  · exact (h2 g hg).1 h
  · have := (h2 g hg).2; omega
/-- what one call of the closure does to the rest -/
theorem GeoR.eff {B D : Nat} {w0 W Y : World} {v v' : Value} {acc acc' : List GA} {S O : Nat → Prop} (hr : GeoR B w0 W v v' acc' Y) (hBk : Blk W B [v] tOut) (hG : GO B w0 W v acc) (hS : ∀ k, S k → k < W.heap.size ∧ k ≠ B ∧ v.ownBlock ≠ some k) (hO : ∀ k, O k → k < W.heap.size ∧ k ≠ B) (hv : ∀ g, v.ownBlock = some g → ¬ O g) : Eff D (both S O) W Y := by
  obtain ⟨_, cs, ho, _⟩ := hG
  refine ⟨⟨hr.os, hr.tape, hr.output, hr.size, fun k hk => ?_⟩, fun k o _ hk hc => ?_⟩
  · rcases hk with hk | hk
    · exact hr.same k (hS k hk).1 (hS k hk).2.1 (hS k hk).2.2
    · exact hr.same k (hO k hk).1 (hO k hk).2 (fun e => hv k e hk)
  · have hlt := (Array.getElem?_eq_some_iff.1 hk).1
    refine (hr.same k hlt ?_ ?_).trans hk
    · rintro rfl
      unfold Blk at hBk
      rw [hBk] at hk
      cases hk
      cases hc
    · intro e
      rcases ho.2 with ⟨rfl, _⟩ | ⟨g, cap, cur, rfl, _, hg, _⟩
      · cases e
      · have e2 : g = k := by simpa [Value.ownBlock] using e
        subst e2
        rw [hg] at hk
        cases hk
        cases hc
theorem GeoR.next {B A Fb C : Nat} {bf : List Value} {fine : Nat} {w0 W Y : World} {v v' : Value} {F : Fe} {k : Nat} {O : Nat → Prop} {acc : Nat → List GA} (hr : GeoR B w0 W v v' (acc (k + 1)) Y) (h : GL B A Fb C bf fine w0 W (acc k) v) (hv : ∀ g, v.ownBlock = some g → ¬ O g ∧ g < W.heap.size) (hO : ∀ k, O k → k < W.heap.size) (hA : A ≠ B) (hF : Fb ≠ B) (hC : C ≠ B) : GI B A Fb C bf fine w0 F (k + 1) O Y acc := by
  refine ⟨v', h.step hA hF hC hr, fun g hg => ⟨fun hgO => ?_, ?_⟩⟩
  · rcases hr.mov with hm | ⟨g', hm, hs⟩
    · exact (hv g (hm ▸ hg)).1 hgO
    · rw [hm] at hg
      cases hg
      have := hO g hgO
      omega
  · obtain ⟨_, cs, ho, _⟩ := hr.go
    exact (ho.lt g hg).2
/-- the geometries, as far as they are told -/
def accG (fine : Nat) (F : Fe) (k : Nat) : List GA := ⟨7, 0, [], []⟩ :: ⟨7, 1, [], []⟩ :: ((items F).take k).map (itG fine)
theorem accG_succ {fine : Nat} {F : Fe} {k : Nat} {z : Int × List Pt} (h : (items F)[k]? = some z) : accG fine F (k + 1) = accG fine F k ++ [itG fine z] := by
  unfold accG; rw [List.take_add_one, h, List.map_append]; rfl
theorem accG_all (fine : Nat) (F : Fe) : accG fine F (items F).length = geosF fine F := by unfold accG geosF; rw [List.take_length]
theorem accG_len (fine : Nat) (F : Fe) (k : Nat) : (accG fine F k).length ≤ (items F).length + 2 := by
  unfold accG; simp only [List.length_cons, List.length_map, List.length_take]; omega
theorem items_len (F : Fe) : (items F).length = F.pts.length + (F.lines ++ F.rings).length := by unfold items; simp
theorem items_pt {F : Fe} {i : Nat} {p : Pt} (h : F.pts[i]? = some p) : (items F)[i]? = some (1, [p]) := by
  unfold items
  have hlt := (List.getElem?_eq_some_iff.1 h).1
  rw [List.getElem?_append_left (by simpa using hlt), List.getElem?_map, h]; rfl
theorem items_ls {F : Fe} {k : Nat} {l : List Pt} (h : (F.lines ++ F.rings)[k]? = some l) : (items F)[F.pts.length + k]? = some (if F.lines.length ≤ k then 3 else 2, l) := by
  unfold items
  rw [List.getElem?_append_right (by simp), List.length_map, Nat.add_sub_cancel_left, List.getElem?_mapIdx, h]; rfl

set_option maxRecDepth 100000 in
set_option maxHeartbeats 8000000 in
theorem geos13_any (f : Fe) (pv lv rv : Value) (fine : Nat) (w : World) (h : FeA w pv lv rv f) (hs : sound f) (hmu : muF f ≤ 200) (ht : TabI w) :
    Calls Tryz.prog 17 #[feV pv lv rv, .int .i64 (fine : Int)] w fun e w' => ∃ v cs, e = .returned v ∧ w'.ownsRow w.heap.size 33 4 v (geosF fine f).length cs ∧ GsT w' cs (geosF fine f) ∧ Below w.heap.size w w' := by
  have HT := Lib.hid ht
  have HS := Lib.hid hs
  have HFA := Lib.hid h
  obtain ⟨hp, vs, us, hF⟩ := h
  obtain ⟨a0, m0, rfl⟩ := hp.form
  obtain ⟨a1, m1, rfl⟩ := hF.rl.form
  obtain ⟨a2, m2, rfl⟩ := hF.rr.form
  obtain ⟨n0, e0⟩ : ∃ n, n = f.pts.length := ⟨_, rfl⟩
  obtain ⟨n1, e1⟩ : ∃ n, n = f.lines.length := ⟨_, rfl⟩
  obtain ⟨n2, e2⟩ : ∃ n, n = f.rings.length := ⟨_, rfl⟩
  have hs1 : n1 ≤ 200 := by have := muQ_len f.lines; unfold muF at hmu; omega
  have hs2 : n2 ≤ 200 := by have := muQ_len f.rings; unfold muF at hmu; omega
  have hs0 : n0 ≤ 200 := by unfold muF at hmu; omega
  have HF := Lib.hid hF
  have HM := Lib.hid hmu
  have HP := Lib.hid hp.rdC
  have E0 := Lib.hid e0
  have E1 := Lib.hid e1
  have E2 := Lib.hid e2
  unfold feV
  rw [← e0, ← e1, ← e2]
  clear hp hF hmu e0 e1 e2 ht hs HFA
  refine (calls_iff (r := none) (m := 0)).1 (callsIn_of_wp_marks Tryz.func17 rfl trivial ?_ rfl)
  simp only [Tryz.ntmps17, List.size_toArray, List.length_cons, List.length_nil, Nat.reduceAdd, Nat.reduceSub, Array.replicate_succ, Array.replicate_zero, List.push_toArray, List.append_toArray, List.nil_append, List.cons_append]
  gi_wp2_with fail
  obtain ⟨w0, hw0⟩ : ∃ X, [.cells #[.slice a0 n0 m0, .slice a1 n1 m1, .slice a2 n2 m2] tF, .cells #[.int .i64 (fine : Int)] 3].foldl World.alloc w = X := ⟨_, rfl⟩
  have hA0 : Blk w0 w.heap.size [.slice a0 n0 m0, .slice a1 n1 m1, .slice a2 n2 m2] tF := Blk.allocs _ hw0 0 rfl
  have hF0 : Blk w0 (w.heap.size + 1) [.int .i64 (fine : Int)] 3 := Blk.allocs _ hw0 1 rfl
  have hb0 : Below w.heap.size w w0 := hw0 ▸ allocs_below _ w
  have hz0 : w0.heap.size = w.heap.size + 2 := hw0 ▸ allocs_size _ w
  have e8 : w.heap.size + 1 + 1 = w0.heap.size := by omega
  simp only [List.foldl_cons, List.foldl_nil] at hw0
  rw [hw0, e8]
  obtain ⟨y5, hy5⟩ : ∃ X, [.cells #[.int .i64 7, .int .i64 0, .slice none 0 0, .slice none 0 0, .int .i64 7, .int .i64 1, .slice none 0 0, .slice none 0 0] 33, .cells #[.slice (some ⟨w0.heap.size, 0, none⟩) 2 2] tOut, .cells #[clo (w0.heap.size + 1) (w.heap.size + 1)] tCl].foldl World.alloc w0 = X := ⟨_, rfl⟩
  have hG5 : Blk y5 w0.heap.size [.int .i64 7, .int .i64 0, .slice none 0 0, .slice none 0 0, .int .i64 7, .int .i64 1, .slice none 0 0, .slice none 0 0] 33 := Blk.allocs _ hy5 0 rfl
  have hB5 : Blk y5 (w0.heap.size + 1) [.slice (some ⟨w0.heap.size, 0, none⟩) 2 2] tOut := Blk.allocs _ hy5 1 rfl
  have hC5 : Blk y5 (w0.heap.size + 2) [clo (w0.heap.size + 1) (w.heap.size + 1)] tCl := Blk.allocs _ hy5 2 rfl
  have hb5 : Below w0.heap.size w0 y5 := hy5 ▸ allocs_below _ w0
  have hz5 : y5.heap.size = w0.heap.size + 3 := hy5 ▸ allocs_size _ w0
  simp only [List.foldl_cons, List.foldl_nil, clo] at hy5
  rw [hy5]
  have hCl : clo (w0.heap.size + 1) (w.heap.size + 1) = .func (.func 27) #[] #[.pointer (some ⟨w0.heap.size + 1, 0, none⟩), .pointer (some ⟨w.heap.size + 1, 0, none⟩)] := rfl
  have HGL : Hid (GL (w0.heap.size + 1) w.heap.size (w.heap.size + 1) (w0.heap.size + 2) [.slice a0 n0 m0, .slice a1 n1 m1, .slice a2 n2 m2] fine w0 y5 (accG fine f 0) (.slice (some ⟨w0.heap.size, 0, none⟩) 2 2)) := by
    refine ⟨hB5, ⟨Upd.of_below hb5, [.int .i64 7, .int .i64 0, .slice none 0 0, .slice none 0 0, .int .i64 7, .int .i64 1, .slice none 0 0, .slice none 0 0], ?_, ?_⟩, hA0.call hb5, hF0.call hb5, hC5⟩
    · exact own_of_blk (n := 2) (cap := 2) (size := 4) hG5 rfl (Nat.le_refl _) (Nat.le_refl _) (by unfold maxLen; simp)
    · refine ⟨rfl, fun i g hg => ?_⟩
      match i with
      | 0 => cases hg; exact ⟨_, _, rfl, rfl, rfl, rfl, [], .inl ⟨rfl, rfl, rfl⟩, LsT.nil _, .inl ⟨rfl, rfl, rfl⟩⟩
      | 1 => cases hg; exact ⟨_, _, rfl, rfl, rfl, rfl, [], .inl ⟨rfl, rfl, rfl⟩, LsT.nil _, .inl ⟨rfl, rfl, rfl⟩⟩
      | i + 2 => unfold accG at hg; simp at hg
  have a0' := (hA0.call hb5).cell (j := 0) rfl
  have hlt5 : w.heap.size < y5.heap.size := by omega
  have hb05 : Below w.heap.size w w0 := hb0
  obtain ⟨Cb, hCb⟩ : ∃ c, c = w0.heap.size + 1 + 1 := ⟨_, rfl⟩
  have hCb2 : w0.heap.size + 2 = Cb := by omega
  obtain ⟨B, hBd⟩ : ∃ b, b = w0.heap.size + 1 := ⟨_, rfl⟩
  obtain ⟨Fb, hFd⟩ : ∃ b, b = w.heap.size + 1 := ⟨_, rfl⟩
  rw [← hCb, ← hBd, ← hFd]
  rw [hCb2, ← hBd, ← hFd] at HGL
  rw [← hBd, ← hFd] at hCl
  have hq1 : w.heap.size + 2 ≤ w0.heap.size := by omega
  have hq2 : w0.heap.size + 1 ≤ B := by omega
  have hq3 : B + 1 ≤ Cb := by omega
  have hq4 : Fb + 1 ≤ w0.heap.size := by omega
  have hq5 : w.heap.size + 1 ≤ Fb := by omega
  clear hCb hCb2 hBd hFd hz0 hz5
  clear hG5 hB5 hC5 hb5 hy5 hA0 hF0 hw0 hb0 e8 a0'
  have HPt := Lib.hid (fun X (h : Below w.heap.size w X) => HP.out.call h)
  gi_loopw [19] (fun s19 wx => ∃ i : Nat, s19 = .int .i64 (i : Int) ∧ i ≤ n0 ∧ Hid (∃ v, GL B w.heap.size Fb Cb [.slice a0 n0 m0, .slice a1 n1 m1, .slice a2 n2 m2] fine w0 wx (accG fine f i) v)) (fun s19 _ => n0 - (intOf s19).toNat)
  case atStart => exact ⟨0, by first | rfl | simp, Nat.zero_le _, ⟨_, HGL.out⟩⟩
  case round =>
    clear HGL hlt5
    obtain ⟨i, rfl, hi, HGx⟩ := hrel
    obtain ⟨v, hGL⟩ := HGx.out
    have HGL := Lib.hid hGL
    have HB : Hid (Below w.heap.size w wr) := hb05.trans (hGL.2.1.1.below (by omega) (by omega))
    clear hGL HGx
    by_cases hin : i < n0
    · obtain ⟨p, hp⟩ : ∃ p, f.pts[i]? = some p := ⟨_, List.getElem?_eq_getElem (by rw [← E0.out]; exact hin)⟩
      obtain ⟨g3, o3, cc3, e3, t1, t2, t3, t4, t5⟩ := LqC.pt HP.out hp
      injection e3 with e31 e32 e33
      subst e31 e33
      rw [← E0.out] at t1
      have y2 := keepc HB.out t3 t4
      have y3 := keepc HB.out t3 t5
      have q5 : wr.cell? ⟨Cb, 0, none⟩ = some (clo B Fb) := HGL.out.2.2.2.2.cell (j := 0) rfl
      rw [hCl] at q5
      have q5l : Cb < wr.heap.size := HGL.out.2.2.2.2.lt
      have Hit := Lib.hid (items_pt hp)
      have Hpu := Lib.hid (HS.out.1 p (List.mem_of_getElem? hp))
      unfold maxLen at t2
      clear t4 t5 e32 hp
      gi_wp2_with fail
      obtain ⟨X, hX⟩ : ∃ X, [.cells #[.int .i64 p.1, .int .i64 p.2] tP, .cells #[.int .i64 p.1, .int .i64 p.2] tP].foldl World.alloc wr = X := ⟨_, rfl⟩
      have hbX : Below wr.heap.size wr X := hX ▸ allocs_below _ wr
      have hPX : Blk X (wr.heap.size + 1) [.int .i64 p.1, .int .i64 p.2] tP := Blk.allocs _ hX 1 rfl
      simp only [List.foldl_cons, List.foldl_nil] at hX
      rw [hX]
      have HGX := Lib.hid (HGL.out.call hbX)
      have HBX : Hid (Below w.heap.size w X) := HB.out.trans (hbX.mono HB.out.size)
      have hrd : RdC X (.slice (some ⟨wr.heap.size + 1, 0, none⟩) 1 1) [p].length (flat [p]) := ⟨_, _, rfl, (by unfold maxLen; simp), fun _ => ⟨wr.heap.size + 1, 0, rfl, Nat.le_refl _, (by unfold maxLen; simp), hPX.lt, fun j x hj => by rw [Nat.zero_add]; exact hPX.cell hj⟩⟩
      have hun : ∀ q ∈ [p], inUnit q := by
        intro q hq
        have e : q = p := by simpa using hq
        rw [e]
        exact Hpu.out
      have HCall := Lib.hid (geo1_any B Fb w0 X (accG fine f i) 1 _ v [p] fine HGX.out.1 HGX.out.2.1 HGX.out.2.2.2.1 hrd (HT.out.below HBX.out (Nat.le_refl _)) (by simp) hun (by have := accG_len fine f i; have := items_len f; have := E0.out; have := E1.out; have := E2.out; rw [List.length_append] at *; omega))
      clear hX hbX hPX hrd hun y2 y3 q5 HGL
      refine (calls_iff.2 HCall.out).mono ?_
      rintro e Y ⟨rfl, v', hR⟩
      have HGY := Lib.hid (HGX.out.step (by omega) (by omega) (by omega) hR)
      rw [← accG_succ Hit.out] at HGY
      clear hR HCall
      gi_wp2_with fail
      go_roundw
      case rel => exact ⟨i + 1, by first | rfl | simp, hin, ⟨v', HGY.out⟩⟩
      case measure => simp [intOf]; omega
    · have hin2 : i = n0 := by omega
      subst hin2
      have hA := HGL.out.2.2.1
      have b0 := hA.cell (j := 0) rfl
      have b1 := hA.cell (j := 1) rfl
      have b2 := hA.cell (j := 2) rfl
      have hzl : w.heap.size < wr.heap.size := hA.lt
      have hzC : Cb < wr.heap.size := HGL.out.2.2.2.2.lt
      clear hA
      gi_wp2_with fail
      refine (calls_iff.2 (allF13 _ _ _ _)).mono ?_
      rintro e w9 ⟨rfl, hw9⟩
      have hb9 : Below wr.heap.size wr w9 := hw9 ▸ (Below.refl _ wr).alloc (Nat.le_refl _) _
      have hE9 : Blk w9 wr.heap.size [.slice a0 i m0, .slice a1 n1 m1, .slice a2 n2 m2] tF := hw9 ▸ Blk.new wr _ _
      have hs9 : wr.heap.size + 1 ≤ w9.heap.size := by rw [← hw9]; simp
      clear hw9 b0 b1 b2
      obtain ⟨bA, hbA⟩ : ∃ b, b = wr.heap.size := ⟨_, rfl⟩
      have hbl9 : Below w.heap.size w w9 := HB.out.trans (hb9.mono HB.out.size)
      have HG9 := Lib.hid (HGL.out.call hb9)
      have Hv9 : Hid (∀ g, v.ownBlock = some g → g < w9.heap.size) := fun g hg => by
        obtain ⟨_, cs, ho, _⟩ := HG9.out.2.1; exact (ho.lt g hg).2
      rw [← hbA] at hE9 hs9 ⊢
      have hCbA : Cb < bA := by omega
      clear hbA hb9 HGL HB
      obtain ⟨S, hSd⟩ : ∃ S : Nat → Prop, S = fun j => j < w.heap.size ∨ j = bA := ⟨_, rfl⟩
      have HSd := Lib.hid hSd
      have HFX : Hid (∀ W, Kept S w9 W → FeL W w.heap.size (.slice a1 n1 m1) (.slice a2 n2 m2) vs us f) := by
        intro W hW
        have h := HF.out
        rw [← E1.out, ← E2.out] at h
        exact (h.below hbl9).below (Kept.below (hW.mono (fun j hj => by rw [hSd]; exact .inl hj)))
      have hszW : ∀ W, Kept S w9 W → w.heap.size ≤ W.heap.size := fun W hW => by have := hW.size; omega
      have HSeq : Hid (SeqI Tryz.prog 40 #[.pointer (some ⟨bA, 0, none⟩)] (allY n1 (vs ++ us)) S w9) :=
        all13_seq bA _ a1 a2 n1 n2 m1 m2 vs us S w9 hE9 (by rw [hSd]; exact .inr rfl) (fun k hk => by rw [hSd] at hk; omega)
          (fun W hW => by have := (HFX.out W hW).rl.mono (hszW W hW); rwa [← E1.out] at this) (fun W hW => by have := (HFX.out W hW).rr.mono (hszW W hW); rwa [← E2.out] at this) (by rw [E1.out]; exact HF.out.ll) (by rw [E2.out]; exact HF.out.lr)
          (fun u hu => HF.out.one u (List.mem_append_left _ hu)) (fun u hu => HF.out.one u (List.mem_append_right _ hu)) (by omega) (by omega)
      have hD9 : w0.heap.size ≤ w9.heap.size := by omega
      clear hSd hszW
      gi_wp2_with fail
      refine wp_range (P := Tryz.prog) (gf := 40) (lb := #[.pointer (some ⟨bA, 0, none⟩)]) (S := S) rfl enter_all13
        HSeq.out (Kept.refl _ _) (fun k hk => by rw [HSd.out] at hk; omega) (fun x hx => by unfold allY at hx; obtain ⟨i, hi, rfl⟩ := List.mem_mapIdx.1 hx; rfl)
        (fun k O X => GI B w.heap.size Fb Cb [.slice a0 i m0, .slice a1 n1 m1, .slice a2 n2 m2] fine w0 f k O X (fun k => accG fine f (i + k)) ∧ Below w.heap.size w X) (fun _ _ _ => False) (fun k O O' X Y h hx hO => ⟨h.1.stab hx hD9 hO, h.2.trans (hx.below.mono (by omega))⟩) (fun c k X Y h hx => h)
        ⟨⟨v, HG9.out, fun g hg => ⟨fun h => h, Hv9.out g hg⟩⟩, hbl9⟩ ?round ?done ?stop
      case round =>
        intro li k x O Wr hl1 hl2 hx hk hO hi
        have hx2 : ((vs ++ us)[k]?).map (fun v => #[Value.bool (decide (n1 ≤ k)), v]) = some x := by unfold allY at hx; rw [List.getElem?_mapIdx] at hx; exact hx
        obtain ⟨u, hu, rfl⟩ := Option.map_eq_some_iff.1 hx2
        clear hx hx2
        have hlt : k < (f.lines ++ f.rings).length := by have := (List.getElem?_eq_some_iff.1 hu).1; rw [List.length_append, HF.out.ll, HF.out.lr] at this; rw [List.length_append]; exact this
        obtain ⟨ls, hls⟩ : ∃ ls, (f.lines ++ f.rings)[k]? = some ls := ⟨_, List.getElem?_eq_getElem hlt⟩
        obtain ⟨u', hu', hrd⟩ := HF.out.el k ls hls
        rw [hu] at hu'
        cases hu'
        obtain ⟨va, vc, rfl⟩ := reads_slice hrd
        have Hrd := Lib.hid hrd.rdC
        have Hit : Hid ((items f)[i + k]? = some (if n1 ≤ k then 3 else 2, ls)) := by have := items_ls hls; rw [← E0.out, ← E1.out] at this; exact this
        have Hun := Lib.hid (HS.out.2 ls (List.mem_of_getElem? hls)).2
        have hnl : ls.length ≤ 1000000 := by
          have h1 := csum_succ hls
          have h2 := csum_le f (k + 1)
          have h3 : count f ≤ muF f := by
            have h : ∀ ls : List (List Pt), (ls.map List.length).sum ≤ Fx.muQ ls := by
              intro ls
              unfold Fx.muQ
              induction ls with
              | nil => simp
              | cons l ls ih => simp only [List.map_cons, List.sum_cons]; omega
            have := h f.lines; have := h f.rings; unfold count muF; omega
          have := HM.out
          omega
        have hkl : i + k ≤ 1000 := by have := items_len f; have := E0.out; have := E1.out; have := E2.out; rw [List.length_append] at *; omega
        have Hi := Lib.hid hi
        have HO := Lib.hid hO
        have HK := Lib.hid hk
        obtain ⟨ring, hring⟩ : ∃ r, r = decide (n1 ≤ k) := ⟨_, rfl⟩
        have Hring := Lib.hid hring
        rw [← hring]
        clear hi hO hk hu hrd hls hlt hring
        gi_wp2_with fail
        refine ⟨Eff.refl _ _ _, ?_⟩
        intro Wb hx hkb hszb hlb
        obtain ⟨hGI, hBW⟩ := Hi.out
        obtain ⟨v1, hGL1, hv1⟩ := hGI.stab hx hD9 (fun j hj => .inl hj)
        have HBb : Hid (Below w.heap.size w Wb) := hBW.trans (hx.below.mono (by omega))
        have HGb := Lib.hid hGL1
        have Hvb := Lib.hid hv1
        have hzW : Wr.heap.size = Wb.heap.size := hszb.symm
        have hsK := HK.out.size
        have HKb : Kept S w9 Wb := HK.out.trans ((Kept.of_below hx.below).mono (fun j hj => by rw [HSd.out] at hj; omega))
        have hbA : Blk Wb bA [.slice a0 i m0, .slice a1 n1 m1, .slice a2 n2 m2] tF := hE9.of_same (HKb.same bA (by rw [HSd.out]; exact .inr rfl))
        have HvL : Hid (∀ j, v1.ownBlock = some j → w0.heap.size ≤ j) := fun j e => by
          obtain ⟨_, cs, ho, _⟩ := HGb.out.2.1; exact (ho.lt j e).1
        have HSk : Hid (∀ j, S j → j < Wb.heap.size ∧ j ≠ B ∧ v1.ownBlock ≠ some j) := fun j hj => by
          rw [HSd.out] at hj
          rcases hj with hj | rfl
          · exact ⟨by omega, by omega, fun e => by have := HvL.out j e; omega⟩
          · obtain ⟨_, cs, ho, _⟩ := HGb.out.2.1
            exact ⟨hbA.lt, by omega, fun e => hbA.not_own ho (by decide) e.symm⟩
        have HOk : Hid (∀ j, O j → j < Wb.heap.size ∧ j ≠ B) := fun j hj => by have := HO.out j hj; exact ⟨by omega, by omega⟩
        have q5 : Wb.cell? ⟨Cb, 0, none⟩ = some (clo B Fb) := hGL1.2.2.2.2.cell (j := 0) rfl
        rw [hCl] at q5
        have q5l : Cb < Wb.heap.size := hGL1.2.2.2.2.lt
        clear hGI hBW hGL1 hv1 hzW hsK HKb hbA hx hkb hszb hlb
        cases ring with
        | true =>
          have hcond : n1 ≤ k := by have := Hring.out; exact of_decide_eq_true this.symm
          have eN : accG fine f (i + (k + 1)) = accG fine f (i + k) ++ [itG fine (3, ls)] := by
            have h9 := Hit.out
            rw [if_pos hcond] at h9
            rw [← Nat.add_assoc, accG_succ h9]
          have HEN := Lib.hid eN
          clear hcond eN
          gi_wp2_with fail
          refine (calls_iff.2 (geo1_any B Fb w0 Wb (accG fine f (i + k)) 3 _ v1 ls fine HGb.out.1 HGb.out.2.1 HGb.out.2.2.2.1 (Hrd.out.call HBb.out) (HT.out.below HBb.out (Nat.le_refl _)) hnl Hun.out (by have := accG_len fine f (i + k); have := items_len f; have := E0.out; have := E1.out; have := E2.out; rw [List.length_append] at *; omega))).mono ?_
          rintro e Y ⟨rfl, v2, hR⟩
          rw [← HEN.out] at hR
          have HE := Lib.hid (hR.eff (D := w9.heap.size) HGb.out.1 HGb.out.2.1 HSk.out HOk.out (fun g hg => (Hvb.out g hg).1))
          have HN := Lib.hid (GeoR.next (F := f) (acc := fun k => accG fine f (i + k)) hR HGb.out Hvb.out (fun k hk => (HOk.out k hk).1) (by omega) (by omega) (by omega))
          have HBY : Hid (Below w.heap.size w Y) := HBb.out.trans ⟨hR.os, hR.tape, hR.output, hR.size, fun j hj => hR.same j (by have := HBb.out.size; omega) (by omega) (fun e => by have := HvL.out j e; omega)⟩
          clear hR
          gi_wp2_with fail
          exact ⟨HE.out, HN.out, HBY.out⟩
        | false =>
          have hcond : ¬ n1 ≤ k := by have := Hring.out; exact of_decide_eq_false this.symm
          have eN : accG fine f (i + (k + 1)) = accG fine f (i + k) ++ [itG fine (2, ls)] := by
            have h9 := Hit.out
            rw [if_neg hcond] at h9
            rw [← Nat.add_assoc, accG_succ h9]
          have HEN := Lib.hid eN
          clear hcond eN
          gi_wp2_with fail
          refine (calls_iff.2 (geo1_any B Fb w0 Wb (accG fine f (i + k)) 2 _ v1 ls fine HGb.out.1 HGb.out.2.1 HGb.out.2.2.2.1 (Hrd.out.call HBb.out) (HT.out.below HBb.out (Nat.le_refl _)) hnl Hun.out (by have := accG_len fine f (i + k); have := items_len f; have := E0.out; have := E1.out; have := E2.out; rw [List.length_append] at *; omega))).mono ?_
          rintro e Y ⟨rfl, v2, hR⟩
          rw [← HEN.out] at hR
          have HE := Lib.hid (hR.eff (D := w9.heap.size) HGb.out.1 HGb.out.2.1 HSk.out HOk.out (fun g hg => (Hvb.out g hg).1))
          have HN := Lib.hid (GeoR.next (F := f) (acc := fun k => accG fine f (i + k)) hR HGb.out Hvb.out (fun k hk => (HOk.out k hk).1) (by omega) (by omega) (by omega))
          have HBY : Hid (Below w.heap.size w Y) := HBb.out.trans ⟨hR.os, hR.tape, hR.output, hR.size, fun j hj => hR.same j (by have := HBb.out.size; omega) (by omega) (fun e => by have := HvL.out j e; omega)⟩
          clear hR
          gi_wp2_with fail
          exact ⟨HE.out, HN.out, HBY.out⟩
      case done =>
        intro O Wd hk hlt hi hD
        have hlen : (allY n1 (vs ++ us)).length = (f.lines ++ f.rings).length := by unfold allY; rw [List.length_mapIdx, List.length_append, List.length_append, HF.out.ll, HF.out.lr]
        obtain ⟨⟨v1, hGL1, hv1⟩, hBd⟩ := hi
        have eAll : accG fine f (i + (allY n1 (vs ++ us)).length) = geosF fine f := by rw [hlen, E0.out, ← items_len, accG_all]
        simp only [eAll] at hGL1
        have HGd := Lib.hid hGL1
        have HBd := Lib.hid hBd
        have HD := Lib.hid hD
        have d5 := hGL1.1.cell (j := 0) rfl
        clear hGL1 hv1 hBd hD hlen eAll
        gi_wp2_with fail
        refine ⟨by simp, .inl ⟨_, _, rfl, run_takeDeferred HD.out, ?_⟩⟩
        have hx : Ext w.heap.size Wd (Wd.putObj w9.heap.size (.deferred none)) := Ext.putObj (by omega) HD.out rfl _
        have hk : ∀ T, KeepT T Wd (Wd.putObj w9.heap.size (.deferred none)) := fun T k c fz hc => hx.cells k _ hc rfl
        obtain ⟨_, ⟨_, cs, ho, hg⟩, _⟩ := HGd.out
        exact ⟨_, results_tmp rfl _ _ _, v1, cs, rfl, own_low (own_ext ho hx) (by omega), hg.keep (hk _) (hk _) (hk _), put_below HBd.out (by omega) HD.out rfl⟩
      case stop =>
        intro c k Wd hk hlt hk0 hkl hi hD
        exact hi.elim
end Gt
end Go.Proofs.YtfbdkjonjpanfaaGreatDoor

set_option linter.unusedVariables false
set_option linter.unusedSimpArgs false
namespace Go.Proofs.YtfbdkjonjpanfaaGreatDoor
open Go.RowKit Go.Rg Ft
attribute [local go_sem] Oper.semAt_some

namespace Ft
/-- all lists of points of a feature, the points first -/
def lls (f : Fe) : List (List Pt) := f.pts :: (f.lines ++ f.rings)
/-- the points of the first lists are small enough -/
def okTo (ls : List (List Pt)) (i : Nat) : Prop := ∀ (j : Nat) (l : List Pt), j < i → ls[j]? = some l → ∀ p ∈ l, inUnit p
theorem okTo_zero (ls : List (List Pt)) : okTo ls 0 := fun j l h => absurd h (Nat.not_lt_zero j)
theorem okTo_succ {ls : List (List Pt)} {i : Nat} {l : List Pt} (h : okTo ls i) (hl : ls[i]? = some l) (hp : ∀ p ∈ l, inUnit p) : okTo ls (i + 1) := fun j m hj hm => by
  rcases Nat.lt_succ_iff_lt_or_eq.1 hj with h1 | rfl
  · exact h j m h1 hm
  · rw [hl] at hm; cases hm; exact hp
def inTo (l : List Pt) (i : Nat) : Prop := ∀ (j : Nat) (p : Pt), j < i → l[j]? = some p → inUnit p
theorem inTo_zero (l : List Pt) : inTo l 0 := fun j l h => absurd h (Nat.not_lt_zero j)
theorem inTo_succ {l : List Pt} {i : Nat} {p : Pt} (h : inTo l i) (hl : l[i]? = some p) (hp : inUnit p) : inTo l (i + 1) := fun j m hj hm => by
  rcases Nat.lt_succ_iff_lt_or_eq.1 hj with h1 | rfl
  · exact h j m h1 hm
  · rw [hl] at hm; cases hm; exact hp
theorem inTo_all {l : List Pt} (h : inTo l l.length) : ∀ p ∈ l, inUnit p := fun p hp => by
  obtain ⟨j, hj⟩ := List.mem_iff_getElem?.1 hp
  exact h j p (List.getElem?_eq_some_iff.1 hj).1 hj
/-- the first lists are not empty -/
def neTo (ls : List (List Pt)) (i : Nat) : Prop := ∀ (j : Nat) (l : List Pt), j < i → ls[j]? = some l → l ≠ []
theorem neTo_zero (ls : List (List Pt)) : neTo ls 0 := fun j l h => absurd h (Nat.not_lt_zero j)
theorem neTo_succ {ls : List (List Pt)} {i : Nat} {l : List Pt} (h : neTo ls i) (hl : ls[i]? = some l) (hp : l ≠ []) : neTo ls (i + 1) := fun j m hj hm => by
  rcases Nat.lt_succ_iff_lt_or_eq.1 hj with h1 | rfl
  · exact h j m h1 hm
  · rw [hl] at hm; cases hm; exact hp
theorem sound_of {f : Fe} (h : okTo (lls f) (lls f).length) (h2 : neTo (f.lines ++ f.rings) (f.lines ++ f.rings).length) : sound f := by
  refine ⟨h 0 _ (by simp [lls]) rfl, fun l hl => ?_⟩
  obtain ⟨j, hj⟩ := List.mem_iff_getElem?.1 hl
  have hlt := (List.getElem?_eq_some_iff.1 hj).1
  exact ⟨h2 j l hlt hj, h (j + 1) l (by simp [lls] at hlt ⊢; omega) (by unfold lls; simpa using hj)⟩
theorem lls_at {f : Fe} {w : World} {B : Nat} {v : Value} {cc : List Value} (hp : ReadsE w B v f.pts.length (flat f.pts)) (h : ∀ (i : Nat) (l : List Pt), (f.lines ++ f.rings)[i]? = some l → ∃ v, cc[i]? = some v ∧ ReadsE w B v l.length (flat l)) (i : Nat) (l : List Pt) (hl : (lls f)[i]? = some l) : ∃ u, (v :: cc)[i]? = some u ∧ ReadsE w B u l.length (flat l) := by
  cases i with
  | zero => cases hl; exact ⟨v, rfl, hp⟩
  | succ i => exact h i l (by simpa [lls] using hl)
theorem lls_len {f : Fe} {i : Nat} {l : List Pt} (h : (lls f)[i]? = some l) : l.length ≤ muF f := by
  have key : ∀ (ls : List (List Pt)) (l : List Pt), l ∈ ls → l.length ≤ Fx.muQ ls := by
    intro ls l hl
    unfold Fx.muQ
    induction ls with
    | nil => cases hl
    | cons m ls ih =>
      simp only [List.map_cons, List.sum_cons]
      rcases List.mem_cons.1 hl with rfl | hl
      · omega
      · have := ih hl; omega
  have hm := List.mem_of_getElem? h
  unfold lls at hm
  unfold muF
  rcases List.mem_cons.1 hm with rfl | hm
  · omega
  · rcases List.mem_append.1 hm with hm | hm
    · have := key _ _ hm; omega
    · have := key _ _ hm; omega
/-- a list of the slice of lists -/
theorem own_list {w : World} {base n c N i : Nat} {a : Option Addr} {vs : List Value} {u : Value} (h : w.ownsRow base tL 1 (.slice a n c) N vs) (hu : vs[i]? = some u) : ∃ g, a = some ⟨g, 0, none⟩ ∧ base ≤ g ∧ g < w.heap.size ∧ i < c ∧ n ≤ c ∧ c ≤ maxLen ∧ w.cell? ⟨g, i, none⟩ = some u := by
  have hc := fun g hg => h.cells (g := g) hg i _ hu
  have hlt := (List.getElem?_eq_some_iff.1 hu).1
  rcases h with ⟨hl, ⟨he, hz⟩ | ⟨g, cap, cur, he, hb', hcur, h3, h4, _⟩⟩
  · omega
  · injection he with e1 e2 e3
    subst e1 e3
    refine ⟨g, rfl, hb', (Array.getElem?_eq_some_iff.1 hcur).1, by omega, by omega, h4, ?_⟩
    have := hc g rfl
    have ha : (⟨g, 0, none⟩ : Addr).add i = ⟨g, i, none⟩ := by unfold Addr.add; split <;> simp_all
    rwa [ha] at this
theorem geos_mem {F : Fe} {f : Nat} {g : GA} (h : g ∈ geosF f F) : (g.lists = [] ∧ g.sizes = []) ∨ ∃ z ∈ items F, g = itG f z := by
  unfold geosF at h
  rcases List.mem_cons.1 h with rfl | h
  · exact .inl ⟨rfl, rfl⟩
  rcases List.mem_cons.1 h with rfl | h
  · exact .inl ⟨rfl, rfl⟩
  obtain ⟨z, hz, rfl⟩ := List.mem_map.1 h
  exact .inr ⟨z, hz, rfl⟩
theorem items_size {F : Fe} (hm : muF F ≤ 200) {z : Int × List Pt} (h : z ∈ items F) : z.2.length ≤ 200 := by
  unfold items at h
  rcases List.mem_append.1 h with h | h
  · obtain ⟨p, hp, rfl⟩ := List.mem_map.1 h
    show [p].length ≤ 200
    simp
  · obtain ⟨i, hi, rfl⟩ := List.mem_mapIdx.1 h
    have h1 : (F.lines ++ F.rings)[i]? = some (F.lines ++ F.rings)[i] := List.getElem?_eq_getElem hi
    have := lls_len (f := F) (i := i + 1) (l := (F.lines ++ F.rings)[i]) (by unfold lls; rw [List.getElem?_cons_succ]; exact h1)
    exact Nat.le_trans this hm
theorem geos_size {F : Fe} (hs : sound F) (hm : muF F ≤ 200) {f : Nat} (hf : f ≤ 9) : (geosF f F).length ≤ 1000 ∧ (∀ g ∈ geosF f F, g.lists.length ≤ 1 ∧ g.sizes = [] ∧ ∀ m ∈ g.lists, m.length ≤ 200 ∧ ∀ p ∈ m, p.1.length ≤ 60 ∧ p.2.length ≤ 60) := by
  refine ⟨?_, fun g hg => ?_⟩
  · have h1 := Gt.items_len F
    have h2 := muQ_len F.lines
    have h3 := muQ_len F.rings
    unfold muF at hm
    unfold geosF
    simp only [List.length_cons, List.length_map]
    rw [List.length_append] at h1
    omega
  · rcases geos_mem hg with ⟨h1, h2⟩ | ⟨z, hz, rfl⟩
    · rw [h1]
      exact ⟨by simp, h2, fun m hm => by cases hm⟩
    · refine ⟨by simp [itG], rfl, fun m hm' => ?_⟩
      have e : m = prsT f z.2 := by simpa [itG] using hm'
      subst e
      refine ⟨by unfold prsT; rw [List.length_map]; exact items_size hm hz, fun p hp => ?_⟩
      unfold prsT at hp
      obtain ⟨q, hq, rfl⟩ := List.mem_map.1 hp
      obtain ⟨_, _, hu⟩ := items_ok hs z hz
      have := hu q hq
      unfold inUnit at this
      exact ⟨Dc.text_size _ f hf (by omega) (by omega), Dc.text_size _ f hf (by omega) (by omega)⟩
theorem geos_fit {F : Fe} (hs : sound F) (hm : muF F ≤ 200) {f : Nat} (hf : f ≤ 9) : ∀ g ∈ geosF f F, Wk.FitA g := fun g hg => by
  obtain ⟨h1, h2, h3⟩ := (geos_size hs hm hf).2 g hg
  refine ⟨by omega, by rw [h2]; simp, fun l hl p hp => ?_⟩
  have := (h3 l hl).2 p hp
  unfold fit maxLen
  omega
theorem geos_mu {F : Fe} (hs : sound F) (hm : muF F ≤ 200) {f : Nat} (hf : f ≤ 9) : ((geosF f F).map mu13).sum ≤ 100000000 := by
  obtain ⟨h1, h2⟩ := geos_size hs hm hf
  have key : ∀ g ∈ geosF f F, mu13 g ≤ 201 := fun g hg => by
    obtain ⟨a, _, b⟩ := h2 g hg
    unfold mu13
    match hl : g.lists with
    | [] => simp
    | [m] =>
      have := (b m (by rw [hl]; exact List.mem_cons_self ..)).1
      simp; omega
    | _ :: _ :: _ => rw [hl] at a; simp at a
  have hle : ∀ l : List GA, (∀ g ∈ l, mu13 g ≤ 201) → (l.map mu13).sum ≤ l.length * 201 := by
    intro l
    induction l with
    | nil => intro _; simp
    | cons x l ih =>
      intro h
      have h1 := ih (fun g hg => h g (List.mem_cons_of_mem _ hg))
      have h2 := h x (List.mem_cons_self ..)
      simp only [List.map_cons, List.sum_cons, List.length_cons]
      omega
  have := hle _ key
  omega
end Ft

set_option maxRecDepth 100000 in
set_option maxHeartbeats 16000000 in
theorem lawBackW (f : Fe) (pv lv rv : Value) (fine : Int) (w : World) (h : FeA w pv lv rv f) (hmu : muF f ≤ 1048576) (ht : Tabs w) (hti : TabI w) :
    Calls Tryz.prog 6 #[feV pv lv rv, .int .i64 fine] w fun e w' => e = .returned (.bool true) ∧ Below w.heap.size w w' := by
  have HT := Lib.hid ht
  have HTI := Lib.hid hti
  have HFA := Lib.hid h
  obtain ⟨hp, vs, us, hF⟩ := h
  obtain ⟨a0, m0, rfl⟩ := hp.form
  obtain ⟨a1, m1, rfl⟩ := hF.rl.form
  obtain ⟨a2, m2, rfl⟩ := hF.rr.form
  obtain ⟨n0, e0⟩ : ∃ n, n = f.pts.length := ⟨_, rfl⟩
  obtain ⟨n1, e1⟩ : ∃ n, n = f.lines.length := ⟨_, rfl⟩
  obtain ⟨n2, e2⟩ : ∃ n, n = f.rings.length := ⟨_, rfl⟩
  have HF := Lib.hid hF
  have HP := Lib.hid hp
  have hrl := hF.rl
  have hrr := hF.rr
  have HL1 : Hid (vs.length = n1 * 1) := by unfold Hid; rw [hF.ll, e1]; omega
  have HL2 : Hid (us.length = n2 * 1) := by unfold Hid; rw [hF.lr, e2]; omega
  have HK1 : Hid (∀ u ∈ vs, u.oneCell' = true) := fun u hu => hF.one u (List.mem_append_left _ hu)
  have HK2 : Hid (∀ u ∈ us, u.oneCell' = true) := fun u hu => hF.one u (List.mem_append_right _ hu)
  have E0 := Lib.hid e0
  have E1 := Lib.hid e1
  have E2 := Lib.hid e2
  have HLi : Hid (∀ X, Below w.heap.size w X → Calls Tryz.prog 12 #[feV (.slice a0 n0 m0) (.slice a1 n1 m1) (.slice a2 n2 m2)] X fun e X' => e = .returned (.bool (decide (muF f ≤ 200))) ∧ Below X.heap.size X X') := fun X hX => by
    rw [e0, e1, e2]; exact light13_any f _ _ _ X (HFA.out.call hX) hmu
  rw [← e1] at hrl
  rw [← e2] at hrr
  have HFA2 : Hid (FeA w (.slice a0 n0 m0) (.slice a1 n1 m1) (.slice a2 n2 m2) f) := by unfold Hid; rw [e0, e1, e2]; exact HFA.out
  unfold feV
  rw [← e0, ← e1, ← e2]
  have hs1 : n1 ≤ 1048576 := by have := muQ_len f.lines; unfold muF at hmu; omega
  have hs2 : n2 ≤ 1048576 := by have := muQ_len f.rings; unfold muF at hmu; omega
  have hs0 : n0 ≤ 1048576 := by unfold muF at hmu; omega
  clear hp hF hmu e0 e1 e2 ht hti HFA
  go_enter Tryz.func6, Tryz.ntmps6
  go_wp2_with fail
  obtain ⟨w1, hw1⟩ : ∃ X, w.alloc (.cells #[.slice a0 n0 m0, .slice a1 n1 m1, .slice a2 n2 m2] 37) = X := ⟨_, rfl⟩
  have HA : Hid (Blk w1 w.heap.size [.slice a0 n0 m0, .slice a1 n1 m1, .slice a2 n2 m2] 37) := hw1 ▸ Blk.new w _ _
  have HB : Hid (Below w.heap.size w w1) := hw1 ▸ (Below.refl _ w).alloc (Nat.le_refl _) _
  rw [hw1]
  clear hw1
  refine (HLi.out w1 HB.out).mono ?_
  rintro e w0 ⟨rfl, hb⟩
  have HA := Lib.hid (HA.out.call hb)
  have HB := Lib.hid (HB.out.trans (hb.mono HB.out.size))
  clear hb HLi
  by_cases hmu2 : muF f ≤ 200
  case neg =>
    rw [decide_eq_false hmu2]
    go_wp2_with fail
    refine (awake13_any w0 (HT.out.below HB.out (Nat.le_refl _))).mono ?_
    rintro e wz ⟨rfl, hz⟩
    have HZ : Hid (Below w.heap.size w wz) := HB.out.trans (hz.mono HB.out.size)
    clear hz
    go_wp2_with fail
    try rw [Exit.noGoto_ret]
    go_ret
    exact ⟨rfl, HZ.out⟩
  rw [decide_eq_true hmu2]
  by_cases hlow : fine < 0
  · go_wp2_with fail
    refine (awake13_any w0 (HT.out.below HB.out (Nat.le_refl _))).mono ?_
    rintro e wz ⟨rfl, hz⟩
    have HZ : Hid (Below w.heap.size w wz) := HB.out.trans (hz.mono HB.out.size)
    clear hz
    go_wp2_with fail
    try rw [Exit.noGoto_ret]
    go_ret
    exact ⟨rfl, HZ.out⟩
  by_cases hhigh : fine > 9
  · go_wp2_with fail
    refine (awake13_any w0 (HT.out.below HB.out (Nat.le_refl _))).mono ?_
    rintro e wz ⟨rfl, hz⟩
    have HZ : Hid (Below w.heap.size w wz) := HB.out.trans (hz.mono HB.out.size)
    clear hz
    go_wp2_with fail
    try rw [Exit.noGoto_ret]
    go_ret
    exact ⟨rfl, HZ.out⟩
  go_wp2_with fail
  have hz0 : w.heap.size < w0.heap.size := HA.out.lt
  have x0' : w0.cell? ⟨w.heap.size, 0, none⟩ = some (.slice a0 n0 m0) := HA.out.cell (j := 0) rfl
  have x1' : w0.cell? ⟨w.heap.size, 1, none⟩ = some (.slice a1 n1 m1) := HA.out.cell (j := 1) rfl
  have x2' : w0.cell? ⟨w.heap.size, 2, none⟩ = some (.slice a2 n2 m2) := HA.out.cell (j := 2) rfl
  have HR1 : Hid (ReadsE w0 w0.heap.size (.slice a1 n1 m1) n1 vs) := (hrl.below HB.out).mono HB.out.size
  have HR2 : Hid (ReadsE w0 w0.heap.size (.slice a2 n2 m2) n2 us) := (hrr.below HB.out).mono HB.out.size
  have x0 := x0'
  have x1 := x1'
  have x2 := x2'
  refine wp_region_held_drew (S := fun w' => w'.cell? ⟨w.heap.size, 0, none⟩ = some (.slice a0 n0 m0) ∧ w'.cell? ⟨w.heap.size, 1, none⟩ = some (.slice a1 n1 m1) ∧ w'.cell? ⟨w.heap.size, 2, none⟩ = some (.slice a2 n2 m2)) (by kernel_rfl) ⟨x0', x1', x2'⟩ (fun hHeld => ?_)
  refine takeL 0 (v := ?_) rfl (by kernel_rfl) (by kernel_rfl) (by kernel_rfl) (fun _ _ _ h => h) (by rfl) (by assumption) ?hy0 ?_
  case hy0 => (intro w hSw; (try dsimp only at hSw); go_simp; all_goals (with_reducible rfl))
  (try simp only [Act.put, List.setIfInBounds_toArray, List.set_cons_zero, List.set_cons_succ])
  refine takeL 1 (v := ?_) rfl (by kernel_rfl) (by kernel_rfl) (by kernel_rfl) (fun _ _ _ h => h) (by rfl) (by assumption) ?hy1 ?_
  case hy1 => (intro w hSw; (try dsimp only at hSw); go_simp; all_goals (with_reducible rfl))
  (try simp only [Act.put, List.setIfInBounds_toArray, List.set_cons_zero, List.set_cons_succ])
  refine takeL 3 (v := ?_) rfl (by kernel_rfl) (by kernel_rfl) (by kernel_rfl) (fun _ _ _ h => h) (by rfl) (by assumption) ?hy3 ?_
  case hy3 => (intro w hSw; (try dsimp only at hSw); go_simp; all_goals (with_reducible rfl))
  (try simp only [Act.put, List.setIfInBounds_toArray, List.set_cons_zero, List.set_cons_succ])
  refine takeL 4 (v := ?_) rfl (by kernel_rfl) (by kernel_rfl) (by kernel_rfl) (fun _ _ _ h => h) (by rfl) (by assumption) ?hy4 ?_
  case hy4 => (intro w hSw; (try dsimp only at hSw); go_simp; all_goals (with_reducible rfl))
  (try simp only [Act.put, List.setIfInBounds_toArray, List.set_cons_zero, List.set_cons_succ])
  refine takeL 6 (v := ?_) rfl (by kernel_rfl) (by kernel_rfl) (by kernel_rfl) (fun _ _ _ h => h) (by rfl) (by assumption) ?hy6 ?_
  case hy6 => (intro w hSw; (try dsimp only at hSw); go_simp; all_goals (with_reducible rfl))
  (try simp only [Act.put, List.setIfInBounds_toArray, List.set_cons_zero, List.set_cons_succ])
  refine takeL 7 (v := ?_) rfl (by kernel_rfl) (by kernel_rfl) (by kernel_rfl) (fun _ _ _ h => h) (by rfl) (by assumption) ?hy7 ?_
  case hy7 => (intro w hSw; (try dsimp only at hSw); go_simp; all_goals (with_reducible rfl))
  (try simp only [Act.put, List.setIfInBounds_toArray, List.set_cons_zero, List.set_cons_succ])
  refine takeL 10 (v := ?_) rfl (by kernel_rfl) (by kernel_rfl) (by kernel_rfl) (fun _ _ _ h => h) (by rfl) (by assumption) ?hy10 ?_
  case hy10 => (intro w hSw; (try dsimp only at hSw); go_simp; all_goals (with_reducible rfl))
  (try simp only [Act.put, List.setIfInBounds_toArray, List.set_cons_zero, List.set_cons_succ])
  refine consL 2 (by kernel_rfl) rfl (by rfl) (fun K hK => ?_)
  go_simp
  obtain ⟨wa, hwa⟩ : ∃ X, (w0.alloc (.cells #[.slice a0 n0 m0] tL)).drew = X := ⟨_, rfl⟩
  have hba : Below w0.heap.size w0 wa := hwa ▸ ((Below.refl _ w0).alloc (Nat.le_refl _) _).drew
  have HO0 : Hid (wa.ownsRow w0.heap.size tL 1 (.slice (some ⟨w0.heap.size, 0, none⟩) 1 1) 1 [.slice a0 n0 m0]) := by
    have hb : Blk wa w0.heap.size [.slice a0 n0 m0] tL := hwa ▸ (Blk.new w0 [.slice a0 n0 m0] tL : Blk (w0.alloc (.cells #[.slice a0 n0 m0] tL)).drew w0.heap.size [.slice a0 n0 m0] tL)
    have := own_of_blk (n := 1) (cap := 1) (size := 1) (base := w0.heap.size) hb rfl (Nat.le_refl _) (Nat.le_refl _) (by decide)
    exact this
  have HBa : Hid (Below w0.heap.size w0 wa) := hba
  have x0 := (World.cell?_of_block (a := ⟨w.heap.size, 0, none⟩) (HBa.out.block w.heap.size (by omega))).trans x0'
  have x1 := (World.cell?_of_block (a := ⟨w.heap.size, 1, none⟩) (HBa.out.block w.heap.size (by omega))).trans x1'
  have x2 := (World.cell?_of_block (a := ⟨w.heap.size, 2, none⟩) (HBa.out.block w.heap.size (by omega))).trans x2'
  have hsa : w0.heap.size ≤ wa.heap.size := hba.size
  (try rw [hwa])
  clear hwa hba
  clear hHeld
  refine hK.out _ _ ?hS2 (fun hHeld => ?_)
  case hS2 => ((try dsimp only); exact ⟨x0, x1, x2⟩)
  clear hK K
  (try simp only [Act.put, List.setIfInBounds_toArray, List.set_cons_zero, List.set_cons_succ])
  refine consL 5 (by kernel_rfl) rfl (by rfl) (fun K hK => ?_)
  refine wp_append2E _ _ _ 35 rfl w0.heap.size tL (.slice none 0 0) 1 24 Tryz.underlying35 info_pts rfl (by decide) (.slice (some ⟨w0.heap.size, 0, none⟩) 1 1) 1 _ rfl HO0.out _ w0.heap.size n1 vs rfl (HR1.out.below HBa.out) HL1.out HK1.out (by unfold maxLen; omega) (by omega) hsa ?_
  intro v5 w5 own5 grow5 mov5
  obtain ⟨a5, c5, rfl⟩ := own_form own5
  have HO5 := Lib.hid own5
  have hrow5 : ∀ g, ((.slice (some ⟨w0.heap.size, 0, none⟩) 1 1) : Value).ownBlock = some g → w0.heap.size ≤ g := fun g e => (HO0.out.lt g e).1
  have HB5 := Lib.hid (HBa.out.grown grow5 hsa (fun g e => hrow5 g e))
  have x0 := (World.cell?_of_block (a := ⟨w.heap.size, 0, none⟩) (HB5.out.block w.heap.size (by omega))).trans x0'
  have x1 := (World.cell?_of_block (a := ⟨w.heap.size, 1, none⟩) (HB5.out.block w.heap.size (by omega))).trans x1'
  have x2 := (World.cell?_of_block (a := ⟨w.heap.size, 2, none⟩) (HB5.out.block w.heap.size (by omega))).trans x2'
  have hs5 : w0.heap.size ≤ w5.heap.size := HB5.out.size
  clear own5 grow5 mov5 hrow5
  clear hHeld
  refine hK.out _ _ ?hS5 (fun hHeld => ?_)
  case hS5 => ((try dsimp only); exact ⟨x0, x1, x2⟩)
  clear hK K
  (try simp only [Act.put, List.setIfInBounds_toArray, List.set_cons_zero, List.set_cons_succ])
  refine consL 8 (by kernel_rfl) rfl (by rfl) (fun K hK => ?_)
  refine wp_append2E _ _ _ 35 rfl w0.heap.size tL (.slice none 0 0) 1 24 Tryz.underlying35 info_pts rfl (by decide) (.slice a5 (1 + n1) c5) (1 + n1) _ rfl HO5.out _ w0.heap.size n2 us rfl (HR2.out.below HB5.out) HL2.out HK2.out (by unfold maxLen; omega) (by omega) hs5 ?_
  intro v8 w8 own8 grow8 mov8
  obtain ⟨a8, c8, rfl⟩ := own_form own8
  have HO8 := Lib.hid own8
  have hrow8 : ∀ g, ((.slice a5 (1 + n1) c5) : Value).ownBlock = some g → w0.heap.size ≤ g := fun g e => (HO5.out.lt g e).1
  have HB8 := Lib.hid (HB5.out.grown grow8 hs5 (fun g e => hrow8 g e))
  have x0 := (World.cell?_of_block (a := ⟨w.heap.size, 0, none⟩) (HB8.out.block w.heap.size (by omega))).trans x0'
  have x1 := (World.cell?_of_block (a := ⟨w.heap.size, 1, none⟩) (HB8.out.block w.heap.size (by omega))).trans x1'
  have x2 := (World.cell?_of_block (a := ⟨w.heap.size, 2, none⟩) (HB8.out.block w.heap.size (by omega))).trans x2'
  have hs8 : w0.heap.size ≤ w8.heap.size := HB8.out.size
  clear own8 grow8 mov8 hrow8
  clear hHeld
  refine hK.out _ _ ?hS8 (fun hHeld => ?_)
  case hS8 => ((try dsimp only); exact ⟨x0, x1, x2⟩)
  clear hK K
  (try simp only [Act.put, List.setIfInBounds_toArray, List.set_cons_zero, List.set_cons_succ])
  refine takeL 9 (v := ?_) rfl (by kernel_rfl) (by kernel_rfl) (by kernel_rfl) (fun _ _ _ h => h) (by rfl) (by assumption) ?hy9 ?_
  case hy9 => (intro w hSw; (try dsimp only at hSw); go_simp; all_goals (with_reducible rfl))
  (try simp only [Act.put, List.setIfInBounds_toArray, List.set_cons_zero, List.set_cons_succ])
  refine wpAnyH_done (by kernel_rfl) ?_ _
  clear hHeld x0 x1 x2 HO0 HO5 HBa HB5 hsa hs5
  have HBR : Hid (Below w.heap.size w w8) := HB.out.trans (HB8.out.mono HB.out.size)
  have HO : Hid (w8.ownsRow w0.heap.size tL 1 (.slice a8 (1 + n1 + n2) c8) (1 + n1 + n2) ((.slice a0 n0 m0) :: (vs ++ us))) := by have := HO8.out; rw [List.append_assoc] at this; exact this
  obtain ⟨N, hN⟩ : ∃ N, N = 1 + n1 + n2 := ⟨_, rfl⟩
  have hNi : (1 : Int) + (n1 : Int) + (n2 : Int) = (N : Int) := by omega
  have HN : Hid (N = (lls f).length) := by unfold Hid lls; rw [List.length_cons, List.length_append, ← E1.out, ← E2.out]; omega
  rw [hNi, ← hN]
  rw [← hN] at HO
  have hN6 : N ≤ 2100000 := by omega
  have HEl : Hid (∀ (i : Nat) (l : List Pt), (lls f)[i]? = some l → ∃ u, ((.slice a0 n0 m0 : Value) :: (vs ++ us))[i]? = some u ∧ ReadsE w w.heap.size u l.length (flat l)) := by
    have hp := HP.out
    rw [← E0.out] at hp
    exact lls_at (by rw [← E0.out]; exact hp) HF.out.el
  obtain ⟨cc, hcc⟩ : ∃ cc, cc = (.slice a0 n0 m0 : Value) :: (vs ++ us) := ⟨_, rfl⟩
  rw [← hcc] at HO HEl
  clear HO8 hNi hN hcc
  go_wp2_with fail
  go_loopg [36] N (fun q s36 wx => ∃ i : Nat, i + q = N ∧ s36 = .int .i64 (i : Int) ∧ Hid (okTo (lls f) i) ∧ Hid (Below w8.heap.size w8 wx))
  case atStart => exact ⟨0, by omega, by first | rfl | simp, okTo_zero _, Below.refl _ _⟩
  case round =>
    obtain ⟨i, hq, rfl, Hok, HBx⟩ := hrel
    cases gk with
    | zero =>
      have hiN : i = N := by omega
      have HOk : Hid (okTo (lls f) (lls f).length) := by unfold Hid; rw [← HN.out, ← hiN]; exact Hok.out
      subst hiN
      obtain ⟨wv, hwv⟩ : ∃ x, x = wr := ⟨_, rfl⟩
      subst hwv
      have HBv : Hid (Below w.heap.size w wv) := HBR.out.trans (HBx.out.mono HBR.out.size)
      have hbv : Below w0.heap.size w0 wv := HB8.out.trans (HBx.out.mono HB8.out.size)
      have HA := Lib.hid (HA.out.call hbv)
      have hzv : w.heap.size < wv.heap.size := HA.out.lt
      have HR1 : Hid (ReadsE wv wv.heap.size (.slice a1 n1 m1) n1 vs) := (hrl.below HBv.out).mono HBv.out.size
      have HR2 : Hid (ReadsE wv wv.heap.size (.slice a2 n2 m2) n2 us) := (hrr.below HBv.out).mono HBv.out.size
      clear Hok HBx HBR HB8 hbv x0' x1' x2' hz0 HO
      have x0' : wv.cell? ⟨w.heap.size, 0, none⟩ = some (.slice a0 n0 m0) := HA.out.cell (j := 0) rfl
      have x1' : wv.cell? ⟨w.heap.size, 1, none⟩ = some (.slice a1 n1 m1) := HA.out.cell (j := 1) rfl
      have x2' : wv.cell? ⟨w.heap.size, 2, none⟩ = some (.slice a2 n2 m2) := HA.out.cell (j := 2) rfl
      have x0 := x0'
      have x1 := x1'
      have x2 := x2'
      go_wp2_with fail
      refine wp_region_held_drew (S := fun w' => w'.cell? ⟨w.heap.size, 0, none⟩ = some (.slice a0 n0 m0) ∧ w'.cell? ⟨w.heap.size, 1, none⟩ = some (.slice a1 n1 m1) ∧ w'.cell? ⟨w.heap.size, 2, none⟩ = some (.slice a2 n2 m2)) (by kernel_rfl) ⟨x0', x1', x2'⟩ (fun hHeld => ?_)
      refine takeL 1 (v := ?_) rfl (by kernel_rfl) (by kernel_rfl) (by kernel_rfl) (fun _ _ _ h => h) (by rfl) (by assumption) ?hy1 ?_
      case hy1 => (intro w hSw; (try dsimp only at hSw); go_simp; all_goals (with_reducible rfl))
      (try simp only [Act.put, List.setIfInBounds_toArray, List.set_cons_zero, List.set_cons_succ])
      refine takeL 2 (v := ?_) rfl (by kernel_rfl) (by kernel_rfl) (by kernel_rfl) (fun _ _ _ h => h) (by rfl) (by assumption) ?hy2 ?_
      case hy2 => (intro w hSw; (try dsimp only at hSw); go_simp; all_goals (with_reducible rfl))
      (try simp only [Act.put, List.setIfInBounds_toArray, List.set_cons_zero, List.set_cons_succ])
      refine takeL 4 (v := ?_) rfl (by kernel_rfl) (by kernel_rfl) (by kernel_rfl) (fun _ _ _ h => h) (by rfl) (by assumption) ?hy4 ?_
      case hy4 => (intro w hSw; (try dsimp only at hSw); go_simp; all_goals (with_reducible rfl))
      (try simp only [Act.put, List.setIfInBounds_toArray, List.set_cons_zero, List.set_cons_succ])
      refine takeL 5 (v := ?_) rfl (by kernel_rfl) (by kernel_rfl) (by kernel_rfl) (fun _ _ _ h => h) (by rfl) (by assumption) ?hy5 ?_
      case hy5 => (intro w hSw; (try dsimp only at hSw); go_simp; all_goals (with_reducible rfl))
      (try simp only [Act.put, List.setIfInBounds_toArray, List.set_cons_zero, List.set_cons_succ])
      refine takeL 8 (v := ?_) rfl (by kernel_rfl) (by kernel_rfl) (by kernel_rfl) (fun _ _ _ h => h) (by rfl) (by assumption) ?hy8 ?_
      case hy8 => (intro w hSw; (try dsimp only at hSw); go_simp; all_goals (with_reducible rfl))
      (try simp only [Act.put, List.setIfInBounds_toArray, List.set_cons_zero, List.set_cons_succ])
      refine consL 0 (by kernel_rfl) rfl (by rfl) (fun K hK => ?_)
      go_simp
      obtain ⟨wa, hwa⟩ : ∃ X, (wv.alloc (.cells #[] tL)).drew = X := ⟨_, rfl⟩
      have hba : Below wv.heap.size wv wa := hwa ▸ ((Below.refl _ wv).alloc (Nat.le_refl _) _).drew
      have HO0 : Hid (wa.ownsRow wv.heap.size tL 1 (.slice (some ⟨wv.heap.size, 0, none⟩) 0 0) 0 []) := by
        have hb : Blk wa wv.heap.size [] tL := hwa ▸ (Blk.new wv [] tL : Blk (wv.alloc (.cells #[] tL)).drew wv.heap.size [] tL)
        have := own_of_blk (n := 0) (cap := 0) (size := 1) (base := wv.heap.size) hb rfl (Nat.le_refl _) (Nat.le_refl _) (Nat.zero_le _)
        exact this
      have HBa : Hid (Below wv.heap.size wv wa) := hba
      have x0 := (World.cell?_of_block (a := ⟨w.heap.size, 0, none⟩) (HBa.out.block w.heap.size (by omega))).trans x0'
      have x1 := (World.cell?_of_block (a := ⟨w.heap.size, 1, none⟩) (HBa.out.block w.heap.size (by omega))).trans x1'
      have x2 := (World.cell?_of_block (a := ⟨w.heap.size, 2, none⟩) (HBa.out.block w.heap.size (by omega))).trans x2'
      have hsa : wv.heap.size ≤ wa.heap.size := hba.size
      (try rw [hwa])
      clear hwa hba
      clear hHeld
      refine hK.out _ _ ?hS0 (fun hHeld => ?_)
      case hS0 => ((try dsimp only); exact ⟨x0, x1, x2⟩)
      clear hK K
      (try simp only [Act.put, List.setIfInBounds_toArray, List.set_cons_zero, List.set_cons_succ])
      refine consL 3 (by kernel_rfl) rfl (by rfl) (fun K hK => ?_)
      refine wp_append2E _ _ _ 35 rfl wv.heap.size tL (.slice none 0 0) 1 24 Tryz.underlying35 info_pts rfl (by decide) (.slice (some ⟨wv.heap.size, 0, none⟩) 0 0) 0 _ rfl HO0.out _ wv.heap.size n1 vs rfl (HR1.out.below HBa.out) HL1.out HK1.out (by unfold maxLen; omega) (by omega) hsa ?_
      intro v3 w3 own3 grow3 mov3
      obtain ⟨a3, c3, rfl⟩ := own_form own3
      have HO3 := Lib.hid own3
      have hrow3 : ∀ g, ((.slice (some ⟨wv.heap.size, 0, none⟩) 0 0) : Value).ownBlock = some g → wv.heap.size ≤ g := fun g e => (HO0.out.lt g e).1
      have HB3 := Lib.hid (HBa.out.grown grow3 hsa (fun g e => hrow3 g e))
      have x0 := (World.cell?_of_block (a := ⟨w.heap.size, 0, none⟩) (HB3.out.block w.heap.size (by omega))).trans x0'
      have x1 := (World.cell?_of_block (a := ⟨w.heap.size, 1, none⟩) (HB3.out.block w.heap.size (by omega))).trans x1'
      have x2 := (World.cell?_of_block (a := ⟨w.heap.size, 2, none⟩) (HB3.out.block w.heap.size (by omega))).trans x2'
      have hs3 : wv.heap.size ≤ w3.heap.size := HB3.out.size
      clear own3 grow3 mov3 hrow3
      clear hHeld
      refine hK.out _ _ ?hS3 (fun hHeld => ?_)
      case hS3 => ((try dsimp only); exact ⟨x0, x1, x2⟩)
      clear hK K
      (try simp only [Act.put, List.setIfInBounds_toArray, List.set_cons_zero, List.set_cons_succ])
      refine consL 6 (by kernel_rfl) rfl (by rfl) (fun K hK => ?_)
      refine wp_append2E _ _ _ 35 rfl wv.heap.size tL (.slice none 0 0) 1 24 Tryz.underlying35 info_pts rfl (by decide) (.slice a3 (0 + n1) c3) (0 + n1) _ rfl HO3.out _ wv.heap.size n2 us rfl (HR2.out.below HB3.out) HL2.out HK2.out (by unfold maxLen; omega) (by omega) hs3 ?_
      intro v6 w6 own6 grow6 mov6
      obtain ⟨a6, c6, rfl⟩ := own_form own6
      have HO6 := Lib.hid own6
      have hrow6 : ∀ g, ((.slice a3 (0 + n1) c3) : Value).ownBlock = some g → wv.heap.size ≤ g := fun g e => (HO3.out.lt g e).1
      have HB6 := Lib.hid (HB3.out.grown grow6 hs3 (fun g e => hrow6 g e))
      have x0 := (World.cell?_of_block (a := ⟨w.heap.size, 0, none⟩) (HB6.out.block w.heap.size (by omega))).trans x0'
      have x1 := (World.cell?_of_block (a := ⟨w.heap.size, 1, none⟩) (HB6.out.block w.heap.size (by omega))).trans x1'
      have x2 := (World.cell?_of_block (a := ⟨w.heap.size, 2, none⟩) (HB6.out.block w.heap.size (by omega))).trans x2'
      have hs6 : wv.heap.size ≤ w6.heap.size := HB6.out.size
      clear own6 grow6 mov6 hrow6
      clear hHeld
      refine hK.out _ _ ?hS6 (fun hHeld => ?_)
      case hS6 => ((try dsimp only); exact ⟨x0, x1, x2⟩)
      clear hK K
      (try simp only [Act.put, List.setIfInBounds_toArray, List.set_cons_zero, List.set_cons_succ])
      refine takeL 7 (v := ?_) rfl (by kernel_rfl) (by kernel_rfl) (by kernel_rfl) (fun _ _ _ h => h) (by rfl) (by assumption) ?hy7 ?_
      case hy7 => (intro w hSw; (try dsimp only at hSw); go_simp; all_goals (with_reducible rfl))
      (try simp only [Act.put, List.setIfInBounds_toArray, List.set_cons_zero, List.set_cons_succ])
      refine wpAnyH_done (by kernel_rfl) ?_ _
      clear hHeld x0 x1 x2 HO0 HO3 HBa HB3 hsa hs3
      have HBR : Hid (Below w.heap.size w w6) := HBv.out.trans (HB6.out.mono HBv.out.size)
      have HO : Hid (w6.ownsRow wv.heap.size tL 1 (.slice a6 (n1 + n2) c6) (n1 + n2) (vs ++ us)) := by have := HO6.out; rw [Nat.zero_add, List.nil_append] at this; exact this
      have HA := Lib.hid (HA.out.call HB6.out)
      rw [Nat.zero_add]
      obtain ⟨M, hM⟩ : ∃ N, N = n1 + n2 := ⟨_, rfl⟩
      have hMi : (n1 : Int) + (n2 : Int) = (M : Int) := by omega
      have HM : Hid (M = (f.lines ++ f.rings).length) := by unfold Hid; rw [List.length_append, ← E1.out, ← E2.out]; exact hM
      rw [hMi, ← hM]
      rw [← hM] at HO
      have hM6 : M ≤ 2100000 := by omega
      have hzw : w.heap.size ≤ wv.heap.size := by omega
      clear HO6 hMi hM x0' x1' x2'
      go_wp2_with fail
      go_loopg [75] M (fun q s75 wx => ∃ j : Nat, j + q = M ∧ s75 = .int .i64 (j : Int) ∧ Hid (neTo (f.lines ++ f.rings) j) ∧ wx = w6)
      case atStart => exact ⟨0, by omega, by first | rfl | simp, neTo_zero _, rfl⟩
      case round =>
        obtain ⟨j, hq, rfl, Hne, rfl⟩ := hrel
        cases gk with
        | zero =>
          have hjM : j = M := by omega
          have HNe : Hid (neTo (f.lines ++ f.rings) (f.lines ++ f.rings).length) := by unfold Hid; rw [← HM.out, ← hjM]; exact Hne.out
          have HS : Hid (sound f) := sound_of HOk.out HNe.out
          subst hjM
          clear Hne HNe HOk HO HM HEl HN
          have c0 := HA.out.cell (j := 0) rfl
          have c1 := HA.out.cell (j := 1) rfl
          have c2 := HA.out.cell (j := 2) rfl
          have c0' := c0
          have c1' := c1
          have c2' := c2
          obtain ⟨fn, rfl⟩ : ∃ fn : Nat, fine = (fn : Int) := ⟨fine.toNat, by omega⟩
          have hfn : fn ≤ 9 := by omega
          go_wp2_with fail
          refine (Gt.geos13_any f _ _ _ fn wr (HFA2.out.call HBR.out) HS.out hmu2 (HTI.out.below HBR.out (Nat.le_refl _))).mono ?_
          rintro e wg ⟨v, cs, rfl, hown, hgs, hb⟩
          obtain ⟨va, vc, rfl⟩ := own_form hown
          obtain ⟨nG, hnG⟩ : ∃ n, n = (geosF fn f).length := ⟨_, rfl⟩
          have HRg : Hid (RdC wg (.slice va (geosF fn f).length vc) (geosF fn f).length cs) := RdC.own hown
          rw [← hnG] at hown ⊢
          have HnG := Lib.hid hnG
          have HGs := Lib.hid hgs.toC
          have HA := Lib.hid (HA.out.call hb)
          have HBg : Hid (Below w.heap.size w wg) := HBR.out.trans (hb.mono HBR.out.size)
          clear hb hnG hown hgs HBR
          have HFr : Hid (Calls Tryz.prog 9 #[.slice va nG vc, .int .i64 (fn : Int)] wg fun e w' => ∃ rv err, e = .returned (.tuple #[rv, .int .i64 err]) ∧ FromR w' rv err fn (geosF fn f) ∧ Below wg.heap.size wg w') := by
            rw [HnG.out]
            obtain ⟨q1, q2⟩ := geos_size HS.out hmu2 hfn
            exact from13_any _ cs (geosF fn f) fn wg HRg.out HGs.out (geos_fit HS.out hmu2 hfn) (by omega) (fun g hg => ⟨by have := (q2 g hg).1; omega, fun m hm => ⟨by have := ((q2 g hg).2.2 m hm).1; omega, fun p hp => by have := ((q2 g hg).2.2 m hm).2 p hp; omega⟩⟩) (geos_mu HS.out hmu2 hfn) (HT.out.below HBg.out (Nat.le_refl _)) (by omega) (by omega)
          go_wp2_with fail
          refine HFr.out.mono ?_
          rintro e wf ⟨rv, err, rfl, hR, hb⟩
          clear HFr
          obtain ⟨rfl, hFs⟩ : err = 0 ∧ FsT wf rv [f] := by
            have hri := geos_right HS.out hfn
            rcases hR with ⟨hn, _⟩ | ⟨_, ⟨h1, _⟩ | ⟨_, h1, _⟩ | ⟨_, _, h2, h3⟩⟩
            · exact absurd ⟨hri, by omega, by omega⟩ hn
            · rw [geos_err HS.out hfn 22 (by decide)] at h1; cases h1
            · rw [geos_err HS.out hfn 23 (by decide)] at h1; cases h1
            · exact ⟨h2, by rw [geos_from HS.out hfn] at h3; exact h3⟩
          obtain ⟨ra, rc, rfl, _⟩ := hFs.form
          obtain ⟨g9, o9, pv9, lv9, rv9, rfl, _, r1, r2, r3, y0, y1, y2, hT9⟩ := hFs.at (i := 0) (f := f) rfl
          have HC9 := Lib.hid hT9.feC
          have HA := Lib.hid (HA.out.call hb)
          have HBf : Hid (Below w.heap.size w wf) := HBg.out.trans (hb.mono HBg.out.size)
          have HRg := Lib.hid (HRg.out.call hb)
          have HGs := Lib.hid (HGs.out.call hb)
          clear hR hFs hb hT9 c0 c1 c2 c0' c1' c2'
          simp only [List.length_cons, List.length_nil, Nat.zero_mul, Nat.add_zero, Nat.zero_add] at r1 y0 y1 y2 ⊢
          have c0 := HA.out.cell (j := 0) rfl
          have c1 := HA.out.cell (j := 1) rfl
          have c2 := HA.out.cell (j := 2) rfl
          have HRi : Hid (∀ X, Below wf.heap.size wf X → Calls Tryz.prog 18 #[.slice va nG vc] X fun e X' => e = .returned (.bool true) ∧ Below X.heap.size X X') := fun X hX => by
            rw [HnG.out]
            refine (rightA_any _ cs (geosF fn f) X (HRg.out.call hX) (HGs.out.call hX) (geos_fit HS.out hmu2 hfn)).mono ?_
            rintro e X' ⟨b, rfl, hb, hbl⟩
            have := hb.out.2 (geos_right HS.out hfn)
            subst this
            exact ⟨rfl, hbl⟩
          have HEq : Hid (∀ X, Below wf.heap.size wf X → Calls Tryz.prog 11 #[feV pv9 lv9 rv9, feV (.slice a0 n0 m0) (.slice a1 n1 m1) (.slice a2 n2 m2)] X fun e X' => e = .returned (.bool true) ∧ Below X.heap.size X X') := fun X hX => by
            have := equal13_any f f pv9 lv9 rv9 (.slice a0 n0 m0) (.slice a1 n1 m1) (.slice a2 n2 m2) X (HC9.out.call hX) (HFA2.out.call (HBf.out.trans (hX.mono HBf.out.size))).feC
            rw [eqFe_self2 f] at this
            exact this
          have hzf : w.heap.size < wf.heap.size := HA.out.lt
          clear HRg HGs HC9 HA
          have HBx : Hid (Below wf.heap.size wf wf) := Below.refl _ _
          go_wp2_with fail
          refine wp_region_held_drew (S := fun w' => w'.cell? ⟨w.heap.size, 0, none⟩ = some (.slice a0 n0 m0) ∧ w'.cell? ⟨w.heap.size, 1, none⟩ = some (.slice a1 n1 m1) ∧ w'.cell? ⟨w.heap.size, 2, none⟩ = some (.slice a2 n2 m2) ∧ w'.cell? ⟨g9, o9, none⟩ = some pv9 ∧ w'.cell? ⟨g9, o9 + 1, none⟩ = some lv9 ∧ w'.cell? ⟨g9, o9 + 2, none⟩ = some rv9) (by kernel_rfl) ⟨c0, c1, c2, y0, y1, y2⟩ (fun hHeld => ?_)
          refine takeL 0 (v := ?_) rfl (by kernel_rfl) (by kernel_rfl) (by kernel_rfl) (fun _ _ _ h => h) (by rfl) (by assumption) ?hy0 ?_
          case hy0 => (intro w hSw; (try dsimp only at hSw); go_simp; all_goals (with_reducible rfl))
          (try simp only [Act.put, List.setIfInBounds_toArray, List.set_cons_zero, List.set_cons_succ])
          refine consL 1 (by kernel_rfl) rfl (by rfl) (fun K hK => ?_)
          go_simp
          have HBx : Hid (Below wf.heap.size wf wf.drew) := (Below.refl _ wf).drew
          have c0 := keepc HBx.out (by omega) c0
          have c1 := keepc HBx.out (by omega) c1
          have c2 := keepc HBx.out (by omega) c2
          have y0 := keepc HBx.out (by omega) y0
          have y1 := keepc HBx.out (by omega) y1
          have y2 := keepc HBx.out (by omega) y2
          have hsz := HBx.out.size
          go_at_call 18
          refine (HRi.out _ HBx.out).mono ?_
          rintro e w1 ⟨rfl, hb⟩
          have HBx := Lib.hid (HBx.out.trans (hb.mono HBx.out.size))
          have hsz := HBx.out.size
          have c0 := keepc hb (by omega) c0
          have c1 := keepc hb (by omega) c1
          have c2 := keepc hb (by omega) c2
          have y0 := keepc hb (by omega) y0
          have y1 := keepc hb (by omega) y1
          have y2 := keepc hb (by omega) y2
          have hz1 := hb.size
          clear hb hsz
          clear hHeld
          refine hK.out _ _ ?hS1 (fun hHeld => ?_)
          case hS1 => ((try dsimp only); exact ⟨c0, c1, c2, y0, y1, y2⟩)
          clear hK K
          (try simp only [Act.put, List.setIfInBounds_toArray, List.set_cons_zero, List.set_cons_succ])
          refine takeL 2 (v := ?_) rfl (by kernel_rfl) (by kernel_rfl) (by kernel_rfl) (fun _ _ _ h => h) (by rfl) (by assumption) ?hy2 ?_
          case hy2 => (intro w hSw; (try dsimp only at hSw); go_simp; all_goals (with_reducible rfl))
          (try simp only [Act.put, List.setIfInBounds_toArray, List.set_cons_zero, List.set_cons_succ])
          refine takeL 3 (v := ?_) rfl (by kernel_rfl) (by kernel_rfl) (by kernel_rfl) (fun _ _ _ h => h) (by rfl) (by assumption) ?hy3 ?_
          case hy3 => (intro w hSw; (try dsimp only at hSw); go_simp; all_goals (with_reducible rfl))
          (try simp only [Act.put, List.setIfInBounds_toArray, List.set_cons_zero, List.set_cons_succ])
          refine takeL 4 (v := ?_) rfl (by kernel_rfl) (by kernel_rfl) (by kernel_rfl) (fun _ _ _ h => h) (by rfl) (by assumption) ?hy4 ?_
          case hy4 => (intro w hSw; (try dsimp only at hSw); go_simp; all_goals (with_reducible rfl))
          (try simp only [Act.put, List.setIfInBounds_toArray, List.set_cons_zero, List.set_cons_succ])
          refine takeL 5 (v := ?_) rfl (by kernel_rfl) (by kernel_rfl) (by kernel_rfl) (fun _ _ _ h => h) (by rfl) (by assumption) ?hy5 ?_
          case hy5 => (intro w hSw; (try dsimp only at hSw); go_simp; all_goals (with_reducible rfl))
          (try simp only [Act.put, List.setIfInBounds_toArray, List.set_cons_zero, List.set_cons_succ])
          refine takeL 6 (v := ?_) rfl (by kernel_rfl) (by kernel_rfl) (by kernel_rfl) (fun _ _ _ h => h) (by rfl) (by assumption) ?hy6 ?_
          case hy6 => (intro w hSw; (try dsimp only at hSw); go_simp; all_goals (with_reducible rfl))
          (try simp only [Act.put, List.setIfInBounds_toArray, List.set_cons_zero, List.set_cons_succ])
          refine takeL 7 (v := ?_) rfl (by kernel_rfl) (by kernel_rfl) (by kernel_rfl) (fun _ _ _ h => h) (by rfl) (by assumption) ?hy7 ?_
          case hy7 => (intro w hSw; (try dsimp only at hSw); go_simp; all_goals (with_reducible rfl))
          (try simp only [Act.put, List.setIfInBounds_toArray, List.set_cons_zero, List.set_cons_succ])
          refine takeL 8 (v := ?_) rfl (by kernel_rfl) (by kernel_rfl) (by kernel_rfl) (fun _ _ _ h => h) (by rfl) (by assumption) ?hy8 ?_
          case hy8 => (intro w hSw; (try dsimp only at hSw); go_simp; all_goals (with_reducible rfl))
          (try simp only [Act.put, List.setIfInBounds_toArray, List.set_cons_zero, List.set_cons_succ])
          refine takeL 9 (v := ?_) rfl (by kernel_rfl) (by kernel_rfl) (by kernel_rfl) (fun _ _ _ h => h) (by rfl) (by assumption) ?hy9 ?_
          case hy9 => (intro w hSw; (try dsimp only at hSw); go_simp; all_goals (with_reducible rfl))
          (try simp only [Act.put, List.setIfInBounds_toArray, List.set_cons_zero, List.set_cons_succ])
          refine takeL 10 (v := ?_) rfl (by kernel_rfl) (by kernel_rfl) (by kernel_rfl) (fun _ _ _ h => h) (by rfl) (by assumption) ?hy10 ?_
          case hy10 => (intro w hSw; (try dsimp only at hSw); go_simp; all_goals (with_reducible rfl))
          (try simp only [Act.put, List.setIfInBounds_toArray, List.set_cons_zero, List.set_cons_succ])
          refine takeL 11 (v := ?_) rfl (by kernel_rfl) (by kernel_rfl) (by kernel_rfl) (fun _ _ _ h => h) (by rfl) (by assumption) ?hy11 ?_
          case hy11 => (intro w hSw; (try dsimp only at hSw); go_simp; all_goals (with_reducible rfl))
          (try simp only [Act.put, List.setIfInBounds_toArray, List.set_cons_zero, List.set_cons_succ])
          refine takeL 12 (v := ?_) rfl (by kernel_rfl) (by kernel_rfl) (by kernel_rfl) (fun _ _ _ h => h) (by rfl) (by assumption) ?hy12 ?_
          case hy12 => (intro w hSw; (try dsimp only at hSw); go_simp; all_goals (with_reducible rfl))
          (try simp only [Act.put, List.setIfInBounds_toArray, List.set_cons_zero, List.set_cons_succ])
          refine takeL 13 (v := ?_) rfl (by kernel_rfl) (by kernel_rfl) (by kernel_rfl) (fun _ _ _ h => h) (by rfl) (by assumption) ?hy13 ?_
          case hy13 => (intro w hSw; (try dsimp only at hSw); go_simp; all_goals (with_reducible rfl))
          (try simp only [Act.put, List.setIfInBounds_toArray, List.set_cons_zero, List.set_cons_succ])
          refine takeL 14 (v := ?_) rfl (by kernel_rfl) (by kernel_rfl) (by kernel_rfl) (fun _ _ _ h => h) (by rfl) (by assumption) ?hy14 ?_
          case hy14 => (intro w hSw; (try dsimp only at hSw); go_simp; all_goals (with_reducible rfl))
          (try simp only [Act.put, List.setIfInBounds_toArray, List.set_cons_zero, List.set_cons_succ])
          refine takeL 15 (v := ?_) rfl (by kernel_rfl) (by kernel_rfl) (by kernel_rfl) (fun _ _ _ h => h) (by rfl) (by assumption) ?hy15 ?_
          case hy15 => (intro w hSw; (try dsimp only at hSw); go_simp; all_goals (with_reducible rfl))
          (try simp only [Act.put, List.setIfInBounds_toArray, List.set_cons_zero, List.set_cons_succ])
          refine consL 16 (by kernel_rfl) rfl (by rfl) (fun K hK => ?_)
          go_simp
          go_at_call 11
          refine (HEq.out _ HBx.out).mono ?_
          rintro e w16 ⟨rfl, hb⟩
          have HBx := Lib.hid (HBx.out.trans (hb.mono HBx.out.size))
          have hsz := HBx.out.size
          have c0 := keepc hb (by omega) c0
          have c1 := keepc hb (by omega) c1
          have c2 := keepc hb (by omega) c2
          have y0 := keepc hb (by omega) y0
          have y1 := keepc hb (by omega) y1
          have y2 := keepc hb (by omega) y2
          have hz16 := hb.size
          clear hb hsz
          clear hHeld
          refine hK.out _ _ ?hS16 (fun hHeld => ?_)
          case hS16 => ((try dsimp only); exact ⟨c0, c1, c2, y0, y1, y2⟩)
          clear hK K
          (try simp only [Act.put, List.setIfInBounds_toArray, List.set_cons_zero, List.set_cons_succ])
          refine takeL 17 (v := ?_) rfl (by kernel_rfl) (by kernel_rfl) (by kernel_rfl) (fun _ _ _ h => h) (by rfl) (by assumption) ?hy17 ?_
          case hy17 => (intro w hSw; (try dsimp only at hSw); go_simp; all_goals (with_reducible rfl))
          (try simp only [Act.put, List.setIfInBounds_toArray, List.set_cons_zero, List.set_cons_succ])
          refine takeL 18 (v := ?_) rfl (by kernel_rfl) (by kernel_rfl) (by kernel_rfl) (fun _ _ _ h => h) (by rfl) (by assumption) ?hy18 ?_
          case hy18 => (intro w hSw; (try dsimp only at hSw); go_simp; all_goals (with_reducible rfl))
          (try simp only [Act.put, List.setIfInBounds_toArray, List.set_cons_zero, List.set_cons_succ])
          refine consL 19 (by kernel_rfl) rfl (by rfl) (fun K hK => ?_)
          go_simp
          go_at_call 7
          refine (awake13_any _ (HT.out.below (HBf.out.trans (HBx.out.mono HBf.out.size)) (Nat.le_refl _))).mono ?_
          rintro e w19 ⟨rfl, hb⟩
          have HBx := Lib.hid (HBx.out.trans (hb.mono HBx.out.size))
          have hsz := HBx.out.size
          have c0 := keepc hb (by omega) c0
          have c1 := keepc hb (by omega) c1
          have c2 := keepc hb (by omega) c2
          have y0 := keepc hb (by omega) y0
          have y1 := keepc hb (by omega) y1
          have y2 := keepc hb (by omega) y2
          have hz19 := hb.size
          clear hb hsz
          clear hHeld
          refine hK.out _ _ ?hS19 (fun hHeld => ?_)
          case hS19 => ((try dsimp only); exact ⟨c0, c1, c2, y0, y1, y2⟩)
          clear hK K
          (try simp only [Act.put, List.setIfInBounds_toArray, List.set_cons_zero, List.set_cons_succ])
          refine takeL 20 (v := ?_) rfl (by kernel_rfl) (by kernel_rfl) (by kernel_rfl) (fun _ _ _ h => h) (by rfl) (by assumption) ?hy20 ?_
          case hy20 => (intro w hSw; (try dsimp only at hSw); go_simp; all_goals (with_reducible rfl))
          (try simp only [Act.put, List.setIfInBounds_toArray, List.set_cons_zero, List.set_cons_succ])
          refine takeL 21 (v := ?_) rfl (by kernel_rfl) (by kernel_rfl) (by kernel_rfl) (fun _ _ _ h => h) (by rfl) (by assumption) ?hy21 ?_
          case hy21 => (intro w hSw; (try dsimp only at hSw); go_simp; all_goals (with_reducible rfl))
          (try simp only [Act.put, List.setIfInBounds_toArray, List.set_cons_zero, List.set_cons_succ])
          refine wpAnyH_done (by kernel_rfl) ?_ _
          clear hHeld c0 c1 c2 y0 y1 y2
          have HZ : Hid (Below w.heap.size w w19) := HBf.out.trans (HBx.out.mono HBf.out.size)
          go_wp2_with fail
          try rw [Exit.noGoto_ret]
          go_ret
          exact ⟨rfl, HZ.out⟩
        | succ q =>
          have hjM : j < M := by omega
          obtain ⟨l, hl⟩ : ∃ l, (f.lines ++ f.rings)[j]? = some l := ⟨_, List.getElem?_eq_getElem (by rw [← HM.out]; exact hjM)⟩
          obtain ⟨u, hu, hr⟩ := HF.out.el j l hl
          obtain ⟨ua, uc, rfl⟩ := hr.form
          obtain ⟨g, rfl, hgb, hgs, hgc, hNc, hcm, hcell⟩ := own_list HO.out hu
          obtain ⟨nl, hnl⟩ : ∃ n, n = l.length := ⟨_, rfl⟩
          rw [← hnl] at hcell
          have HNl := Lib.hid hnl
          have HQ := Lib.hid hq
          have Hl := Lib.hid hl
          unfold maxLen at hcm
          clear hl hu hr hnl hq
          by_cases hn : nl = 0
          · subst hn
            go_wp2_with fail
            refine (awake13_any wr (HT.out.below HBR.out (Nat.le_refl _))).mono ?_
            rintro e wz ⟨rfl, hz⟩
            have HZ : Hid (Below w.heap.size w wz) := HBR.out.trans (hz.mono HBR.out.size)
            clear hz
            go_wp2_with fail
            try rw [Exit.noGoto_ret]
            go_ret
            exact ⟨rfl, HZ.out⟩
          · have hn2 : ((nl : Int) == 0) = false := by rw [beq_eq_false_iff_ne]; omega
            have HNe2 : Hid (l ≠ []) := fun e => hn (by rw [HNl.out, e]; rfl)
            go_wp2_with fail
            go_roundg q
            case measure => omega
            case rel => exact ⟨j + 1, by have := HQ.out; omega, by first | rfl | simp, neTo_succ Hne.out Hl.out HNe2.out, rfl⟩
    | succ q =>
      have hiN : i < N := by omega
      obtain ⟨l, hl⟩ : ∃ l, (lls f)[i]? = some l := ⟨_, List.getElem?_eq_getElem (by rw [← HN.out]; exact hiN)⟩
      obtain ⟨u, hu, hr⟩ := HEl.out i l hl
      obtain ⟨ua, uc, rfl⟩ := hr.form
      obtain ⟨g, rfl, hgb, hgs, hgc, hNc, hcm, hcell0⟩ := own_list HO.out hu
      have hcell := keepc HBx.out hgs hcell0
      obtain ⟨nl, hnl⟩ : ∃ n, n = l.length := ⟨_, rfl⟩
      rw [← hnl] at hcell
      have Hr : Hid (ReadsE w w.heap.size (.slice ua l.length uc) l.length (flat l)) := hr
      have HNl := Lib.hid hnl
      have HQ := Lib.hid hq
      have Hl := Lib.hid hl
      have hnlm : nl ≤ 200 := by have := lls_len hl; omega
      unfold maxLen at hcm
      clear hl hu hr hnl hq hcell0
      go_wp2_with fail
      go_loopg [42] nl (fun q s42 wy => ∃ k : Nat, k + q = nl ∧ s42 = .int .i64 (k : Int) ∧ Hid (inTo l k) ∧ Hid (Below w8.heap.size w8 wy))
      case atStart => exact ⟨0, by omega, by first | rfl | simp, inTo_zero _, HBx⟩
      case round =>
        clear hcell HBx
        obtain ⟨k, hkq, rfl, Hin, HBk⟩ := hrel
        cases gk with
        | zero =>
          have hkn : k = nl := by omega
          subst hkn
          have HIn : Hid (∀ p ∈ l, inUnit p) := by
            have := Hin.out
            rw [HNl.out] at this
            exact inTo_all this
          go_wp2_with fail
          go_roundg q
          case measure => omega
          case rel => exact ⟨i + 1, by have := HQ.out; omega, by first | rfl | simp, okTo_succ Hok.out Hl.out HIn.out, HBk⟩
        | succ q2 =>
          have hkn : k < nl := by omega
          obtain ⟨p, hp⟩ : ∃ p, l[k]? = some p := ⟨_, List.getElem?_eq_getElem (by rw [← HNl.out]; exact hkn)⟩
          obtain ⟨f1, f2⟩ := flat_at hp
          obtain ⟨g1, o1, rfl, h1, h2, h3, h4⟩ := Hr.out.get (fun e => by have := HNl.out; omega)
          rw [← HNl.out] at h2
          have hbk : Below w.heap.size w wr := HBR.out.trans (HBk.out.mono HBR.out.size)
          have y1 : wr.cell? ⟨g1, o1 + k * 2, none⟩ = some (.int .i64 p.1) := keepc hbk h1 (h4 _ _ f1)
          have y2 : wr.cell? ⟨g1, o1 + k * 2 + 1, none⟩ = some (.int .i64 p.2) := keepc hbk h1 (h4 _ _ f2)
          have Hp := Lib.hid hp
          have HQ2 := Lib.hid hkq
          unfold maxLen at h3
          clear hp hkq h4 f1 f2 hbk
          by_cases c1 : p.1 < -1099511627775
          · go_wp2_with fail
            obtain ⟨wz, hwz⟩ : ∃ X, wr.alloc (.cells #[.int .i64 p.1, .int .i64 p.2] 47) = X := ⟨_, rfl⟩
            have HBz : Hid (Below w.heap.size w wz) := hwz ▸ ((HBR.out.trans (HBk.out.mono HBR.out.size)).alloc (by have := HBR.out.size; have := HBk.out.size; omega) _)
            rw [hwz]
            clear hwz
            refine (awake13_any wz (HT.out.below HBz.out (Nat.le_refl _))).mono ?_
            rintro e wz ⟨rfl, hz⟩
            have HZ : Hid (Below w.heap.size w wz) := HBz.out.trans (hz.mono HBz.out.size)
            clear hz
            go_wp2_with fail
            try rw [Exit.noGoto_ret]
            go_ret
            exact ⟨rfl, HZ.out⟩
          by_cases c2 : p.1 > 1099511627775
          · go_wp2_with fail
            obtain ⟨wz, hwz⟩ : ∃ X, wr.alloc (.cells #[.int .i64 p.1, .int .i64 p.2] 47) = X := ⟨_, rfl⟩
            have HBz : Hid (Below w.heap.size w wz) := hwz ▸ ((HBR.out.trans (HBk.out.mono HBR.out.size)).alloc (by have := HBR.out.size; have := HBk.out.size; omega) _)
            rw [hwz]
            clear hwz
            refine (awake13_any wz (HT.out.below HBz.out (Nat.le_refl _))).mono ?_
            rintro e wz ⟨rfl, hz⟩
            have HZ : Hid (Below w.heap.size w wz) := HBz.out.trans (hz.mono HBz.out.size)
            clear hz
            go_wp2_with fail
            try rw [Exit.noGoto_ret]
            go_ret
            exact ⟨rfl, HZ.out⟩
          by_cases c3 : p.2 < -1099511627775
          · go_wp2_with fail
            obtain ⟨wz, hwz⟩ : ∃ X, wr.alloc (.cells #[.int .i64 p.1, .int .i64 p.2] 47) = X := ⟨_, rfl⟩
            have HBz : Hid (Below w.heap.size w wz) := hwz ▸ ((HBR.out.trans (HBk.out.mono HBR.out.size)).alloc (by have := HBR.out.size; have := HBk.out.size; omega) _)
            rw [hwz]
            clear hwz
            refine (awake13_any wz (HT.out.below HBz.out (Nat.le_refl _))).mono ?_
            rintro e wz ⟨rfl, hz⟩
            have HZ : Hid (Below w.heap.size w wz) := HBz.out.trans (hz.mono HBz.out.size)
            clear hz
            go_wp2_with fail
            try rw [Exit.noGoto_ret]
            go_ret
            exact ⟨rfl, HZ.out⟩
          by_cases c4 : p.2 > 1099511627775
          · go_wp2_with fail
            obtain ⟨wz, hwz⟩ : ∃ X, wr.alloc (.cells #[.int .i64 p.1, .int .i64 p.2] 47) = X := ⟨_, rfl⟩
            have HBz : Hid (Below w.heap.size w wz) := hwz ▸ ((HBR.out.trans (HBk.out.mono HBR.out.size)).alloc (by have := HBR.out.size; have := HBk.out.size; omega) _)
            rw [hwz]
            clear hwz
            refine (awake13_any wz (HT.out.below HBz.out (Nat.le_refl _))).mono ?_
            rintro e wz ⟨rfl, hz⟩
            have HZ : Hid (Below w.heap.size w wz) := HBz.out.trans (hz.mono HBz.out.size)
            clear hz
            go_wp2_with fail
            try rw [Exit.noGoto_ret]
            go_ret
            exact ⟨rfl, HZ.out⟩
          have Hp1 : Hid (inUnit p) := ⟨⟨by omega, by omega⟩, by omega, by omega⟩
          go_wp2_with fail
          go_roundg q2
          case measure => omega
          case rel => exact ⟨k + 1, by have := HQ2.out; omega, by first | rfl | simp, inTo_succ Hin.out Hp.out Hp1.out, HBk.out.alloc (by have := HBR.out.size; have := HBk.out.size; omega) _⟩
theorem lawBackC (f : Fe) (pv lv rv : Value) (w : World) (h : FeA w pv lv rv f) (hmu : muF f ≤ 1048576) (fine : Int) (_wf : (Lit.int .i64 fine).wf = true) (ht : Tabs w) (hti : TabI w) :
    Calls Tryz.prog 6 #[feV pv lv rv, .int .i64 fine] w fun e w' => e = .returned (.bool true) ∧ Below w.heap.size w w' := lawBackW f pv lv rv fine w h hmu ht hti
end Go.Proofs.YtfbdkjonjpanfaaGreatDoor
