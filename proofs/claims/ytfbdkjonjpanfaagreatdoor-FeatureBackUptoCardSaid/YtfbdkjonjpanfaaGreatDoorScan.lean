import Derived.Test.YtfbdkjonjpanfaaGreatDoorLexC
import Derived.Shelf.Abstract
import Derived.Shelf.RegionOpen
import Derived.OwnWalkIn
import Derived.TacticsInMore
import Derived.LoopNIn
import Derived.LoopIn
set_option linter.unusedVariables false
set_option linter.unusedSimpArgs false
namespace Go.Proofs.YtfbdkjonjpanfaaGreatDoor
open Go.RowKit Go.Rg
attribute [local go_sem] Oper.semAt_some

def tokA (t : Lx.Tok) : Array Value := #[.agg #[.int .i64 t.kind, .int .i64 t.fr, .int .i64 t.to]]

theorem enter_scan1 (args : Array Value) (w : World) : (callFunc 46 args).run Tryz.prog w = .ok (.enter 46 args) w := enters_of Tryz.func46 (by kernel_rfl) rfl args w

theorem scan_any (s : ByteArray) (w : World) :
    Calls Tryz.prog 30 #[.string s] w fun e w' => e = .returned (.func (.func 46) #[] #[.pointer (some ⟨w.heap.size, 0, none⟩)]) ∧ w.alloc (.cells #[.string s] 9) = w' := by
  go_enter Tryz.func30, Tryz.ntmps30
  go_wp2
  go_ret
  exact ⟨rfl, rfl⟩

set_option maxRecDepth 100000 in
theorem scan_seq (b : Nat) (s : ByteArray) (S : Nat → Prop) (w : World) (hs : s.size ≤ maxLen) (hb : Blk w b [.string s] 9) (hSb : S b) (hS : ∀ k, S k → k < w.heap.size) :
    SeqI Tryz.prog 46 #[.pointer (some ⟨b, 0, none⟩)] ((Lx.scan s.data.toList).map tokA) S w := by
  intro l J Jx W hW hJ hJx hY h0
  have hm := hs
  unfold maxLen at hs
  refine callsIn_of_wp Tryz.func46 rfl trivial ?_ rfl
  simp only [Tryz.ntmps46, List.size_toArray, List.length_cons, List.length_nil, Nat.reduceAdd, Nat.reduceSub, Array.replicate_succ, Array.replicate_zero, List.push_toArray, List.append_toArray, List.nil_append, List.cons_append]
  gi_wp2_with fail
  gi_loopw [3] (fun p wr => ∃ (k i : Nat) (O : Nat → Prop), p = .int .i64 k ∧ k ≤ s.size ∧ i ≤ (Lx.scan s.data.toList).length ∧ Hid ((Lx.scan s.data.toList).drop i = Lx.rest s k) ∧ (∀ j, O j → W.heap.size ≤ j ∧ j < wr.heap.size) ∧ J i O wr ∧ Kept S W wr)
    (fun p _ => s.size - (intOf p).toNat)
  case atStart =>
    exact ⟨0, 0, fun _ => False, rfl, Nat.zero_le _, Nat.zero_le _, (Lx.rest_zero s).symm, fun _ h => h.elim, h0, Kept.refl _ _⟩
  case round =>
    obtain ⟨k, i, O, rfl, hk, hi, Hr, hO, hj, hkp⟩ := hrel
    have c0 : wr.cell? ⟨b, 0, none⟩ = some (.string s) := (hb.of_same ((hkp.same b hSb).trans (hW.same b hSb))).cell rfl
    by_cases hlt : k < s.size
    · have Hh := Lib.hid hO
      have Hj := Lib.hid hj
      have Hy := Lib.hid hY
      have HJ := Lib.hid hJ
      have Hb := Lib.hid hb
      clear hO hj hb hJ hJx hY h0
      gi_wp2_with fail
      refine (calls_iff.2 (one_any _ _ _)).mono ?_
      rintro e w' ⟨rfl, rfl⟩
      cases h1 : Lx.one s[k] [32, 9, 13, 10]
      · have Hr2 : Hid ((Lx.scan s.data.toList).drop i = Lx.next s.data.toList k :: if (Lx.next s.data.toList k).kind = 0 then [] else Lx.rest s (Lx.next s.data.toList k).to) := by unfold Hid; rw [Hr.out, Lx.rest_tok s k hlt h1]
        have hto := Lx.next_to s k hlt
        gi_wp2_with fail
        refine (calls_iff.2 (next_any s k wr hm hlt)).mono ?_
        rintro e w1 ⟨t, rfl, Ht, hb1⟩
        rw [← Ht.out] at Hr2 hto
        have hx1 : Ext W.heap.size wr (w1.alloc (.cells #[.int .i64 t.kind, .int .i64 t.fr, .int .i64 t.to] 71)) := Ext.of_below' ((hb1.alloc hb1.size _)) hkp.size
        have Hi : Hid (i < (Lx.scan s.data.toList).length) := by
          unfold Hid
          have := congrArg List.length Hr2.out
          rw [List.length_drop] at this
          simp only [List.length_cons] at this
          omega
        have Hg : Hid ((Lx.scan s.data.toList)[i]? = some t) := by
          unfold Hid
          rw [← List.head?_drop, Hr2.out]; rfl
        obtain ⟨O', hO'⟩ : ∃ O', O' = grow O wr (w1.alloc (.cells #[.int .i64 t.kind, .int .i64 t.fr, .int .i64 t.to] 71)) := ⟨_, rfl⟩
        have hkx : Kept S wr (w1.alloc (.cells #[.int .i64 t.kind, .int .i64 t.fr, .int .i64 t.to] 71)) := (Kept.of_below (hb1.alloc hb1.size _)).mono (fun j hj => by have := hS j hj; have := hkp.size; have := hW.size; omega)
        have HO' : Hid (∀ j, O' j → W.heap.size ≤ j ∧ j < (w1.alloc (.cells #[.int .i64 t.kind, .int .i64 t.fr, .int .i64 t.to] 71)).heap.size) := by
            subst hO'
            rintro j (hj | hj)
            · have := Hh.out j hj; have := hb1.size; simp; omega
            · have := hkp.size; omega
        have hyield := Hy.out i (tokA t) O' (w1.alloc (.cells #[.int .i64 t.kind, .int .i64 t.fr, .int .i64 t.to] 71)) (by rw [List.getElem?_map, Hg.out]; rfl) (hkp.trans hkx)
          HO'.out (HJ.out _ _ _ _ _ Hj.out hx1 (fun j hj => hO' ▸ hj))
        obtain ⟨fn, tmps, assign, body, hy, hR⟩ := hyield
        dsimp only [tokA] at hy
        have Hfin : Hid (t.kind = 0 → (Lx.scan s.data.toList).length = i + 1) := by
          intro hz
          have := congrArg List.length Hr2.out
          rw [if_pos hz, List.length_drop] at this
          simp only [List.length_cons, List.length_nil] at this
          omega
        have Hgo : Hid (t.kind ≠ 0 → (Lx.scan s.data.toList).drop (i + 1) = Lx.rest s t.to) := by
          intro hz
          have := congrArg List.tail Hr2.out
          rw [if_neg hz, List.tail_drop] at this
          exact this
        have hbx : both S O' w1.heap.size := .inr (by subst hO'; exact .inr ⟨hb1.size, by simp⟩)
        have Hbx := Lib.hid hbx
        have Hkx := Lib.hid hkx
        clear hO' Hr2 Hr hx1 hbx hkx
        gi_wp2_with fail
        refine hR.mono ?_
        clear hR hy
        rintro e X' (⟨rfl, hj2, hk2, _⟩ | ⟨rfl, hj2, hk2, _⟩)
        · have hB : Blk X' w1.heap.size [.int .i64 t.kind, .int .i64 t.fr, .int .i64 t.to] 71 := (Blk.new w1 _ _).of_same (hk2.same _ Hbx.out)
          have e0 := hB.cell (j := 0) rfl
          have e1 := hB.cell (j := 1) rfl
          have e2 := hB.cell (j := 2) rfl
          have Hj2 := Lib.hid hj2
          have Hk2 := Lib.hid hk2
          clear hj2 hk2 hB
          by_cases hz : t.kind = 0
          · have hz' : ((t.kind : Int) == 0) = true := by rw [hz]; rfl
            have Hz := Lib.hid hz
            clear hz
            gi_wp2_with fail
            refine bodyPost_ret (results_none rfl _ _ _) rfl ?_
            exact ⟨⟨_, rfl⟩, hkp.trans (Hkx.out.trans (Hk2.out.mono (fun j hj => .inl hj))), .inl ⟨O', fun j hj => ⟨(HO'.out j hj).1, Nat.lt_of_lt_of_le (HO'.out j hj).2 Hk2.out.size⟩, by rw [List.length_map, Hfin.out Hz.out]; exact Hj2.out⟩⟩
          · have hz' : ((t.kind : Int) == 0) = false := by rw [beq_eq_false_iff_ne]; omega
            have Hz := Lib.hid hz
            clear hz
            gi_wp2_with fail
            go_roundw
            case rel => exact ⟨t.to, i + 1, O', rfl, hto.2, Hi.out, Hgo.out Hz.out, fun j hj => ⟨(HO'.out j hj).1, Nat.lt_of_lt_of_le (HO'.out j hj).2 Hk2.out.size⟩, Hj2.out, hkp.trans (Hkx.out.trans (Hk2.out.mono (fun j hj => .inl hj)))⟩
            case measure => simp [intOf]; omega
        · have Hj2 := Lib.hid hj2
          have Hk2 := Lib.hid hk2
          clear hj2 hk2
          gi_wp2_with fail
          refine bodyPost_ret (results_none rfl _ _ _) rfl ?_
          exact ⟨⟨_, rfl⟩, hkp.trans (Hkx.out.trans (Hk2.out.mono (fun j hj => .inl hj))), .inr ⟨i + 1, by omega, by rw [List.length_map]; exact Hi.out, Hj2.out⟩⟩
      · have Hr2 : Hid ((Lx.scan s.data.toList).drop i = Lx.rest s (k + 1)) := by unfold Hid; rw [Hr.out, Lx.rest_blank s k hlt h1]
        gi_wp2_with fail
        go_roundw
        case rel => exact ⟨k + 1, i, O, by go_num, by omega, hi, Hr2, Hh.out, Hj.out, hkp⟩
        case measure => simp [intOf]; omega
    · gi_wp2_with fail
      go_end0
      have : (Lx.scan s.data.toList).drop i = [] := by rw [Hr.out, Lx.rest_end s k (by omega)]
      have hie : i = (Lx.scan s.data.toList).length := by
        have := congrArg List.length this
        rw [List.length_drop] at this
        simp only [List.length_nil] at this
        omega
      exact ⟨⟨_, rfl⟩, hkp, .inl ⟨O, hO, by rw [List.length_map, ← hie]; exact hj⟩⟩
end Go.Proofs.YtfbdkjonjpanfaaGreatDoor
