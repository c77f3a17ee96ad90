import Derived.Test.YtegkdkilbnighaaLexC
import Derived.Test.YtegkdkilbnighaaPureR
import Derived.Test.YtegkdkilbnighaaApp
set_option linter.unusedVariables false
set_option linter.unusedSimpArgs false
namespace Go.Proofs.Ytegkdkilbnighaa
open Go.RowKit Go.Rg

theorem rdigit_any (c : UInt8) (w : World) :
    Calls Try.prog 46 #[.int .u8 (c.toNat : Int)] w fun e w' => e = .returned (.bool (Lx.digit c)) ∧ w = w' := by
  go_enter Try.func46, Try.ntmps46
  go_wp2
  all_goals go_ret
  all_goals exact ⟨bool_eq (by rw [Bool.eq_iff_iff]; simp [Lx.digit]; try omega), rfl⟩

theorem rletter_any (c : UInt8) (w : World) :
    Calls Try.prog 45 #[.int .u8 (c.toNat : Int)] w fun e w' => e = .returned (.bool (Lx.letter c)) ∧ w = w' := by
  go_enter Try.func45, Try.ntmps45
  go_wp2
  all_goals go_ret
  all_goals exact ⟨bool_eq (by rw [Bool.eq_iff_iff]; simp [Lx.letter, Lx.small, Lx.great]; try omega), rfl⟩

theorem rstate_any (a : Int) (c : UInt8) (w : World) :
    Calls Try.prog 80 #[.int .i64 a, .int .u8 (c.toNat : Int)] w fun e w' => e = .returned (.int .i64 (Lx.dstate a c)) ∧ w = w' := by
  cases h : Lx.digit c
  · have hd := (not_congr (Lx.digit_iff c)).1 (by rw [h]; simp)
    go_enter Try.func80, Try.ntmps80
    go_wp2_with (go_at_call 46; refine (rdigit_any _ _).mono ?_; rintro e w' ⟨rfl, rfl⟩)
    all_goals go_ret
    all_goals refine ⟨int_eq ?_, rfl⟩
    all_goals (try simp only [beq_iff_eq, beq_eq_false_iff_ne, ne_eq] at *)
    all_goals (unfold Lx.dstate; repeat' split)
    all_goals omega
  · have hd := (Lx.digit_iff c).1 h
    go_enter Try.func80, Try.ntmps80
    go_wp2_with (go_at_call 46; refine (rdigit_any _ _).mono ?_; rintro e w' ⟨rfl, rfl⟩)
    all_goals go_ret
    all_goals refine ⟨int_eq ?_, rfl⟩
    all_goals (try simp only [beq_iff_eq, beq_eq_false_iff_ne, ne_eq] at *)
    all_goals (unfold Lx.dstate; repeat' split)
    all_goals omega
theorem rright_any (s : ByteArray) (w : World) (hs : s.size ≤ maxLen) :
    Calls Try.prog 47 #[.string s] w fun e w' => e = .returned (.bool (Lx.right s.data.toList)) ∧ w = w' := by
  unfold maxLen at hs
  go_enter Try.func47, Try.ntmps47
  go_wp2
  go_loop [3, 4] (fun a i => ∃ k : Nat, k ≤ s.size ∧ i = .int .i64 k ∧ a = .int .i64 (Lx.dfold 0 (s.data.toList.take k))) (fun _ i => s.size - (intOf i).toNat)
  case atStart => exact ⟨0, Nat.zero_le _, rfl, rfl⟩
  case round =>
    obtain ⟨k, hk, rfl, rfl⟩ := hrel
    by_cases hlt : k < s.size
    · have H := Lib.hid (Lx.dfold_take s 0 k hlt)
      go_wp2_with (go_at_call 80; refine (rstate_any _ _ _).mono ?_; rintro e w' ⟨rfl, rfl⟩)
      go_round
      case rel => exact ⟨k + 1, by omega, by go_num, by rw [H.out]⟩
      case measure => simp [intOf]; omega
    · obtain rfl : k = s.size := by omega
      have H := Lib.hid (Lx.dfold_all s 0)
      have H2 := Lib.hid (Lx.right_drun s.data.toList)
      have hr := Lx.dfold_range 0 (s.data.toList.take s.size) ⟨by omega, by omega⟩
      generalize hd : Lx.dfold 0 (s.data.toList.take s.size) = d at *
      have Hd := Lib.hid hd
      clear hd
      go_wp2
      all_goals go_ret
      all_goals refine ⟨bool_eq ?_, rfl⟩
      all_goals rw [H2.out, Lx.drun, ← H.out]
      all_goals (try simp only [beq_iff_eq, beq_eq_false_iff_ne, ne_eq] at *)
      all_goals (first | (simp [Lx.dacc, *]; done) | (simp [Lx.dacc, Bool.or_assoc, *]; done))

theorem info_u8 : (Try.prog.info? 5).map (fun i => (i.zero, i.size, i.bytes)) = some (some (.int .u8 0), 1, 1) := by kernel_rfl

theorem up_sub (c : UInt8) (h : Lx.small c = true) : ((Lx.up c).toNat : Int) = (c.toNat : Int) - 32 := by
  unfold Lx.up
  rw [if_pos h]
  unfold Lx.small at h
  simp at h
  rw [UInt8.toNat_sub_of_le]
  · simp; omega
  · rw [UInt8.le_iff_toNat_le]; simp; omega
theorem up_same (c : UInt8) (h : Lx.small c = false) : Lx.up c = c := by unfold Lx.up; rw [if_neg (by rw [h]; simp)]

theorem u8s_snoc (s : ByteArray) (k : Nat) (h : k < s.size) : u8s ((Lx.upper s.data.toList).take (k + 1)) = u8s ((Lx.upper s.data.toList).take k) ++ [.int .u8 ((Lx.up s[k]).toNat : Int)] := by
  unfold u8s Lx.upper
  rw [List.take_succ_eq_append_getElem (by rw [List.length_map, ← Lib.size_eq]; exact h), List.map_append]
  simp
  rfl

set_option maxRecDepth 100000 in
theorem rupper_any (s : ByteArray) (w : World) (hs : s.size ≤ 100000) :
    Calls Try.prog 54 #[.string s] w fun e w' => ∃ r : ByteArray, e = .returned (.string r) ∧ Hid (r.data.toList = Lx.upper s.data.toList) ∧ Below w.heap.size w w' := by
  go_enter Try.func54, Try.ntmps54
  go_wp2
  go_loopw [3, 4, 5] (fun v i _ wr => ∃ k : Nat, k ≤ s.size ∧ i = .int .i64 k ∧ wr.ownsRow w.heap.size 5 1 v k (u8s ((Lx.upper s.data.toList).take k)) ∧ Below w.heap.size w wr) (fun _ i _ _ => s.size - (intOf i).toNat)
  case atStart => exact ⟨0, Nat.zero_le _, rfl, World.ownsRow_nil _ _ _ _, Below.refl _ _⟩
  case round =>
    obtain ⟨k, hk, rfl, hown, hb⟩ := hrel
    by_cases hlt : k < s.size
    · have Hu := Lib.hid (u8s_snoc s k hlt)
      have hcl : (s[k].toNat : Int) ≤ 255 := u8_lt _
      have hsz := hb.size
      have hk3 : k + 1 ≤ maxLen := by unfold maxLen; omega
      cases hsm : Lx.small s[k]
      · have Hs := Lib.hid (up_same _ hsm)
        rcases Int.lt_or_le (s[k].toNat : Int) 97 with h97 | h97
        · go_wp2_with (at_builtin; refine wpList_append2 _ rfl _ _ 67 rfl w.heap.size 5 (.int .u8 0) 1 1 Try.underlying67 info_u8 rfl (by decide) _ k _ rfl (hown.alloc _) _ _ 1 [.int .u8 (s[k].toNat : Int)] rfl (reads_new _ _ _ 1 1 (by decide) (by decide)) rfl ?c2 ?c3 ?c4 ?c5 ?_)
          case c2 => simp [Value.oneCell']
          case c4 => omega
          case c5 => first | exact hsz | omega | (simp; omega)
          intro v' w2 hown2 hgrow hmov
          obtain ⟨a2, cap2, rfl⟩ := own_form hown2
          have hb2 : Below w.heap.size w w2 := (hb.alloc hb.size _).grown hgrow (by simp; omega) (fun j e => (hown.lt j e).1)
          have Hown : Hid (w2.ownsRow w.heap.size 5 1 (.slice a2 (k + 1) cap2) (k + 1) (u8s ((Lx.upper s.data.toList).take (k + 1)))) := by
            unfold Hid; rw [Hu.out]; rw [Hs.out]; exact hown2
          clear hown2 hgrow hmov hown
          go_wp2_with fail
          go_roundw
          case rel => exact ⟨k + 1, by omega, by go_num, Hown.out, hb2⟩
          case measure => simp [intOf]; omega
        · have h122 : 122 < (s[k].toNat : Int) := by
            unfold Lx.small at hsm; simp at hsm; omega
          go_wp2_with (at_builtin; refine wpList_append2 _ rfl _ _ 67 rfl w.heap.size 5 (.int .u8 0) 1 1 Try.underlying67 info_u8 rfl (by decide) _ k _ rfl (hown.alloc _) _ _ 1 [.int .u8 (s[k].toNat : Int)] rfl (reads_new _ _ _ 1 1 (by decide) (by decide)) rfl ?c2 ?c3 ?c4 ?c5 ?_)
          case c2 => simp [Value.oneCell']
          case c4 => omega
          case c5 => first | exact hsz | omega | (simp; omega)
          intro v' w2 hown2 hgrow hmov
          obtain ⟨a2, cap2, rfl⟩ := own_form hown2
          have hb2 : Below w.heap.size w w2 := (hb.alloc hb.size _).grown hgrow (by simp; omega) (fun j e => (hown.lt j e).1)
          have Hown : Hid (w2.ownsRow w.heap.size 5 1 (.slice a2 (k + 1) cap2) (k + 1) (u8s ((Lx.upper s.data.toList).take (k + 1)))) := by
            unfold Hid; rw [Hu.out]; rw [Hs.out]; exact hown2
          clear hown2 hgrow hmov hown
          go_wp2_with fail
          go_roundw
          case rel => exact ⟨k + 1, by omega, by go_num, Hown.out, hb2⟩
          case measure => simp [intOf]; omega
      · have Hs := Lib.hid (up_sub _ hsm)
        have h97 : 97 ≤ (s[k].toNat : Int) ∧ (s[k].toNat : Int) ≤ 122 := by
          unfold Lx.small at hsm; simp at hsm; omega
        obtain ⟨h97, h122⟩ := h97
        go_wp2_with (at_builtin; refine wpList_append2 _ rfl _ _ 67 rfl w.heap.size 5 (.int .u8 0) 1 1 Try.underlying67 info_u8 rfl (by decide) _ k _ rfl (hown.alloc _) _ _ 1 [.int .u8 ((s[k].toNat : Int) - 32)] rfl (reads_new _ _ _ 1 1 (by decide) (by decide)) rfl ?c2 ?c3 ?c4 ?c5 ?_)
        case c2 => simp [Value.oneCell']
        case c4 => omega
        case c5 => first | exact hsz | omega | (simp; omega)
        intro v' w2 hown2 hgrow hmov
        obtain ⟨a2, cap2, rfl⟩ := own_form hown2
        have hb2 : Below w.heap.size w w2 := (hb.alloc hb.size _).grown hgrow (by simp; omega) (fun j e => (hown.lt j e).1)
        have Hown : Hid (w2.ownsRow w.heap.size 5 1 (.slice a2 (k + 1) cap2) (k + 1) (u8s ((Lx.upper s.data.toList).take (k + 1)))) := by
          unfold Hid; rw [Hu.out]; rw [Hs.out]; exact hown2
        clear hown2 hgrow hmov hown
        go_wp2_with fail
        go_roundw
        case rel => exact ⟨k + 1, by omega, by go_num, Hown.out, hb2⟩
        case measure => simp [intOf]; omega
    · obtain rfl : k = s.size := by omega
      have Hc : Hid (∀ wx : World, ∀ v, Reads wx wx.heap.size v s.size (u8s ((Lx.upper s.data.toList).take s.size)) → (convert 67 9 v).run Try.prog wx = .ok (.string ⟨(Lx.upper s.data.toList).toArray⟩) wx) := by
        intro wx v hr
        have hl : (Lx.upper s.data.toList).take s.size = Lx.upper s.data.toList := List.take_of_length_le (by unfold Lx.upper; rw [List.length_map, ← Lib.size_eq]; exact Nat.le_refl _)
        rw [hl] at hr
        exact run_bytes_string wx _ _ _ Try.underlying67 Try.underlying5 Try.underlying9 hr (by unfold Lx.upper; rw [List.length_map, ← Lib.size_eq])
      have hcv := Hc.out _ _ (Reads.of_own hown)
      clear hown
      go_wp2_with fail
      go_ret
      exact ⟨_, rfl, rfl, hb⟩
end Go.Proofs.Ytegkdkilbnighaa
