import Derived.Test.YtfbdkjonjpanfaaGreatDoorWktB
import Derived.LoopIn
set_option linter.unusedVariables false
set_option linter.unusedSimpArgs false
namespace Go.Rg
open Go Go.RowKit
/-- all cells but block R's stay; so does whatever lay below B, but R -/
structure Mv (R B : Nat) (X Y : World) : Prop where
  os : Y.os = X.os
  tape : Y.tape = X.tape
  output : Y.output = X.output
  size : X.heap.size ≤ Y.heap.size
  low : ∀ k, k ≠ R → k < B → Y.heap[k]? = X.heap[k]?
  cells : ∀ (k : Nat) (o : Obj), k ≠ R → X.heap[k]? = some o → o.isCells = true → Y.heap[k]? = some o
theorem Mv.of_upd {R B : Nat} {X Y : World} (h : Upd R X Y) (hB : B ≤ X.heap.size) : Mv R B X Y :=
  ⟨h.os, h.tape, h.output, h.size, fun k hk hl => h.same k hk (by omega), fun k o hk ho _ => (h.same k hk (Array.getElem?_eq_some_iff.1 ho).1).trans ho⟩
theorem Mv.of_ext {R B : Nat} {X Y : World} (h : Ext B X Y) : Mv R B X Y :=
  ⟨h.below.os, h.below.tape, h.below.output, h.below.size, fun k _ hl => h.below.block k hl, fun k o _ ho hc => h.cells k o ho hc⟩
theorem Mv.refl (R B : Nat) (X : World) : Mv R B X X := ⟨rfl, rfl, rfl, Nat.le_refl _, fun _ _ _ => rfl, fun _ _ _ h _ => h⟩
theorem Mv.mono {R B B' : Nat} {X Y : World} (h : Mv R B X Y) (hB : B' ≤ B) : Mv R B' X Y := ⟨h.os, h.tape, h.output, h.size, fun k hk hl => h.low k hk (by omega), h.cells⟩
theorem Blk.mv {R B : Nat} {w w' : World} {b : Nat} {cs : List Value} {t : TypeId} (h : Blk w b cs t) (hx : Mv R B w w') (hb : b ≠ R) : Blk w' b cs t := hx.cells _ _ hb h rfl
theorem Rds.mv {R B : Nat} {w w' : World} {v : Value} {n : Nat} {xs : List Value} (h : Rds R w v n xs) (hx : Mv R B w w') : Rds R w' v n xs := by
  rcases h with h | ⟨g, off, cap, h1, h2, h3, h4, h5, h6⟩
  · exact .inl h
  · refine .inr ⟨g, off, cap, h1, h2, Nat.lt_of_lt_of_le h3 hx.size, h4, h5, fun j x hj => ?_⟩
    have hc := h6 j x hj
    obtain ⟨o, ho, hco⟩ := cells_of_cell hc
    exact (World.cell?_of_block ((hx.cells g o h2 ho hco).trans ho.symm)).trans hc
theorem own_mv {R B : Nat} {w w' : World} {base e size : Nat} {v : Value} {n : Nat} {xs : List Value} (h : w.ownsRow base e size v n xs) (hx : Mv R B w w') (hR : R < base) : w'.ownsRow base e size v n xs := by
  refine ⟨h.1, ?_⟩
  rcases h.2 with h2 | ⟨g, cap, cur, hv, hb, hg, r⟩
  · exact .inl h2
  · exact .inr ⟨g, cap, cur, hv, hb, hx.cells _ _ (by omega) hg rfl, r⟩
end Go.Rg

namespace Go.Proofs.YtfbdkjonjpanfaaGreatDoor
open Go.RowKit Go.Rg
attribute [local go_sem] Oper.semAt_some

/-- WHAT r.each() OWES a loop over it: between the rounds it reads a comma, at the end a bracket -/
def EachI (R : Nat) (s : ByteArray) (gf : Nat) (lb : Array Value) (S : Nat → Prop) (w : World) : Prop :=
  ∀ (l : Nat) (I Im Je : Wk.St → World → Prop) (z0 : Wk.St) (W : World), Kept S w W → Rd W R s z0 → z0.l.length ≤ 1000000 →
    (∀ Y, Mv R W.heap.size W Y → I (Wk.take s.data.toList z0 3).1 Y) →
    (∀ z X Y, Im z X → Wk.peek z 5 = true → Mv R W.heap.size X Y → I (Wk.take s.data.toList z 5).1 Y) →
    (∀ z X Y, Im z X → Wk.peek z 5 = false → Mv R W.heap.size X Y → Je (Wk.take s.data.toList z 4).1 Y) →
    (∀ z X, I z X → z.bad = true → Je z X) →
    (∀ (k : Nat) z X, I z X → Rd X R s z → z.bad = false → Kept S W X → YieldAt (WF none) 0 Tryz.prog l #[.int .i64 k] X fun e X' => e = .returned (.bool true) ∧ ∃ z', z'.l.length ≤ z.l.length ∧ Rd X' R s z' ∧ Im z' X' ∧ Kept S X X') →
    CallsIn (WF none) 0 Tryz.prog gf (#[.func (.yield l) #[] #[]] ++ lb) W fun e W' => (∃ v, e = .returned v) ∧ Kept S W W' ∧ ∃ z', Rd W' R s z' ∧ Je z' W'

theorem enter_each1 (args : Array Value) (w : World) : (callFunc 84 args).run Tryz.prog w = .ok (.enter 84 args) w := enters_of Tryz.func84 (by kernel_rfl) rfl args w

theorem weach_any (R : Nat) (w : World) :
    Calls Tryz.prog 56 #[.pointer (some ⟨R, 0, none⟩)] w fun e w' => e = .returned (.func (.func 84) #[] #[.pointer (some ⟨w.heap.size, 0, none⟩)]) ∧ w.alloc (.cells #[.pointer (some ⟨R, 0, none⟩)] 66) = w' := by
  go_enter Tryz.func56, Tryz.ntmps56
  go_wp2
  go_ret
  exact ⟨rfl, rfl⟩

theorem Rd.tok_le {w : World} {R : Nat} {s : ByteArray} {z : Wk.St} (h : Rd w R s z) : z.l.length ≤ maxLen := by
  obtain ⟨v, _, h2⟩ := h
  rcases h2 with ⟨_, h, _⟩ | ⟨g, off, cap, _, _, h2, h3, _⟩
  · rw [h]; exact Nat.zero_le _
  · omega

set_option maxRecDepth 100000 in
theorem weach_seq (b R : Nat) (s : ByteArray) (S : Nat → Prop) (w : World) (hs : s.size ≤ maxLen) (hb : Blk w b [.pointer (some ⟨R, 0, none⟩)] 66) (hSb : S b) (hS : ∀ k, S k → k < w.heap.size) (hSR : ¬ S R) :
    EachI R s 84 #[.pointer (some ⟨b, 0, none⟩)] S w := by
  intro l I Im Je z0 W hW hz0 hle0 h0 hc hd hb0 hY
  have hSW : ∀ k, S k → k < W.heap.size := fun k hk => by have := hS k hk; have := hW.size; omega
  have c0 : W.cell? ⟨b, 0, none⟩ = some (.pointer (some ⟨R, 0, none⟩)) := (hb.of_same (hW.same b hSb)).cell rfl
  have hbR : b ≠ R := fun e => hSR (e ▸ hSb)
  have HY := Lib.hid hY
  have HC := Lib.hid hc
  have HD := Lib.hid hd
  have HB := Lib.hid hb0
  have H0 := Lib.hid h0
  have Hb := Lib.hid hb
  clear hY hc hd hb0 h0 hb
  refine callsIn_of_wp Tryz.func84 rfl trivial ?_ rfl
  simp only [Tryz.ntmps84, List.size_toArray, List.length_cons, List.length_nil, Nat.reduceAdd, Nat.reduceSub, Array.replicate_succ, Array.replicate_zero, List.push_toArray, List.append_toArray, List.nil_append, List.cons_append]
  gi_wp2_with fail
  refine (calls_iff.2 (take_any R s z0 3 W hs hz0)).mono ?_
  rintro e w1 ⟨x, rfl, Hx, hxs, h1, hu1⟩
  gi_wp2_with fail
  have hI1 := H0.out w1 (.of_upd hu1 (Nat.le_refl _))
  have hk1 : Kept S W w1 := hu1.kept hSR hSW
  obtain ⟨z1, hz1⟩ : ∃ z1, z1 = (Wk.take s.data.toList z0 3).1 := ⟨_, rfl⟩
  rw [← hz1] at hI1 h1
  have hle : z1.l.length ≤ 1000000 := by rw [hz1]; exact Nat.le_trans (Wk.take_len _ _ _) hle0
  clear hz1 H0 Hx hxs hu1 hz0
  gi_loopw [3] (fun p wr => ∃ (k : Nat) (z : Wk.St), p = .int .i64 k ∧ k ≤ z1.l.length + 1 ∧ (z.bad = false → k + z.l.length ≤ z1.l.length) ∧ Rd wr R s z ∧ I z wr ∧ Kept S W wr)
    (fun p _ => z1.l.length + 2 - (intOf p).toNat)
  case atStart => exact ⟨0, z1, rfl, Nat.zero_le _, fun _ => by omega, h1, hI1, hk1⟩
  case round =>
    obtain ⟨k, z, rfl, hk, hkz, hz, hi, hkp⟩ := hrel
    clear h1 hI1 hk1
    have d0 : wr.cell? ⟨b, 0, none⟩ = some (.pointer (some ⟨R, 0, none⟩)) := (Hb.out.of_same ((hkp.same b hSb).trans (hW.same b hSb))).cell rfl
    have hz' := hz
    obtain ⟨v, hB, hr⟩ := hz'
    have d2 := hB.cell (j := 2) rfl
    clear hB hr
    cases hbad : z.bad with
    | true =>
      rw [hbad] at d2
      have Hje := Lib.hid (HB.out z wr hi hbad)
      have Hz := Lib.hid hz
      clear hi hz
      gi_wp2_with fail
      go_end0
      exact ⟨⟨_, rfl⟩, hkp, z, Hz.out, Hje.out⟩
    | false =>
      rw [hbad] at d2
      have hkz := hkz hbad
      obtain ⟨fn, tmps, assign, body, hy, hR⟩ := HY.out k z wr hi hz hbad hkp
      have Hkp := Lib.hid hkp
      clear hi hz hkp
      gi_wp2_with fail
      refine hR.mono ?_
      clear hR hy
      rintro e X ⟨rfl, z2, hl2, h2, hi2, hk2⟩
      have hkx : Kept S W X := Hkp.out.trans hk2
      have e0 : X.cell? ⟨b, 0, none⟩ = some (.pointer (some ⟨R, 0, none⟩)) := (Hb.out.of_same ((hkx.same b hSb).trans (hW.same b hSb))).cell rfl
      clear hk2 d0 d2
      gi_wp2_with fail
      refine (calls_iff.2 (peek_any R s z2 5 X h2)).mono ?_
      rintro e w' ⟨rfl, rfl⟩
      cases hp : Wk.peek z2 5 with
      | false =>
        gi_wp2_with fail
        refine (calls_iff.2 (take_any R s z2 4 X hs h2)).mono ?_
        rintro e w3 ⟨y, rfl, Hy, hys, h3, hu3⟩
        have Hje := Lib.hid (HD.out z2 X w3 hi2 hp (.of_upd hu3 hkx.size))
        have hk3 := hkx.trans (hu3.kept hSR (fun j hj => by have := hSW j hj; have := hkx.size; omega))
        gi_wp2_with fail
        refine bodyPost_ret (results_none rfl _ _ _) rfl ?_
        exact ⟨⟨_, rfl⟩, hk3, _, h3, Hje.out⟩
      | true =>
        gi_wp2_with fail
        refine (calls_iff.2 (take_any R s z2 5 X hs h2)).mono ?_
        rintro e w3 ⟨y, rfl, Hy, hys, h3, hu3⟩
        have Hi3 := Lib.hid (HC.out z2 X w3 hi2 hp (.of_upd hu3 hkx.size))
        have hk3 := hkx.trans (hu3.kept hSR (fun j hj => by have := hSW j hj; have := hkx.size; omega))
        have hlt := Wk.take_lt s.data.toList z2 5
        gi_wp2_with fail
        go_roundw
        case rel => exact ⟨k + 1, _, by go_num, by omega, fun hf => by have := hlt hf; omega, h3, Hi3.out, hk3⟩
        case measure => simp [intOf]; omega
end Go.Proofs.YtfbdkjonjpanfaaGreatDoor
