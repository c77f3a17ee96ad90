import Derived.Test.YtfbdkjonjpanfaaGreatDoorUpd
import Derived.Test.YtfbdkjonjpanfaaGreatDoorHeld
import Derived.Test.YtfbdkjonjpanfaaGreatDoorWkt
import Derived.Test.YtfbdkjonjpanfaaGreatDoorTokens
import Derived.Test.YtfbdkjonjpanfaaGreatDoorUpper
import Derived.Test.YtfbdkjonjpanfaaGreatDoorLw
set_option linter.unusedVariables false
set_option linter.unusedSimpArgs false
namespace Go.Proofs.YtfbdkjonjpanfaaGreatDoor
open Go.RowKit Go.Rg
attribute [local go_sem] Oper.semAt_some

/-- block R is a reader of s, before which lie the tokens z -/
def Rd (w : World) (R : Nat) (s : ByteArray) (z : Wk.St) : Prop := ∃ v, Blk w R [.string s, v, .bool z.bad] 68 ∧ Reads w R v z.l.length (flatT z.l)

theorem Rd.upd_ {w w' : World} {R : Nat} {s : ByteArray} {z : Wk.St} (h : Rd w R s z) (hx : Below w.heap.size w w') : Rd w' R s z := by
  obtain ⟨v, h1, h2⟩ := h
  exact ⟨v, h1.call hx, h2.below (hx.mono (Nat.le_of_lt h1.lt))⟩
theorem Rd.ext {B : Nat} {w w' : World} {R : Nat} {s : ByteArray} {z : Wk.St} (h : Rd w R s z) (hx : Ext B w w') : Rd w' R s z := by
  obtain ⟨v, h1, h2⟩ := h
  exact ⟨v, h1.ext hx, h2.ext hx⟩
theorem Rd.lt {w : World} {R : Nat} {s : ByteArray} {z : Wk.St} (h : Rd w R s z) : R < w.heap.size := by obtain ⟨v, h1, _⟩ := h; exact h1.lt
theorem Rd.fail {w : World} {R : Nat} {s : ByteArray} {z : Wk.St} (h : Rd w R s z) : Rd (w.setCell ⟨R, 2, none⟩ (.bool true)) R s (Wk.fail z) := by
  obtain ⟨v, h1, h2⟩ := h
  refine ⟨v, h1.set 2 _, h2.below ?_⟩
  exact (Below.refl R w).setCell (Nat.le_refl _) _

/-- the first token's cells -/
theorem reads_head {w : World} {R : Nat} {v : Value} {t : Lx.Tok} {r : List Lx.Tok} (h : Reads w R v (t :: r).length (flatT (t :: r))) :
    ∃ g off cap : Nat, v = .slice (some ⟨g, off, none⟩) (r.length + 1) cap ∧ g < R ∧ r.length + 1 ≤ cap ∧ cap ≤ maxLen ∧ w.cell? ⟨g, off, none⟩ = some (.int .i64 t.kind) ∧ w.cell? ⟨g, off + 1, none⟩ = some (.int .i64 t.fr) ∧ w.cell? ⟨g, off + 2, none⟩ = some (.int .i64 t.to) ∧
    Reads w R (.slice (some ⟨g, off + 3, none⟩) r.length (cap - 1)) r.length (flatT r) := by
  rcases h with ⟨_, h, _⟩ | ⟨g, off, cap, rfl, h1, h2, h3, h4⟩
  · simp at h
  · simp only [List.length_cons] at h2 ⊢
    refine ⟨g, off, cap, rfl, h1, h2, h3, ?_, ?_, ?_, .inr ⟨g, off + 3, cap - 1, rfl, h1, by omega, by omega, fun j x hj => ?_⟩⟩
    · exact h4 0 _ rfl
    · exact h4 1 _ rfl
    · exact h4 2 _ rfl
    · have := h4 (3 + j) x (by unfold flatT at *; simp only [List.flatMap_cons, tokC]; rw [List.getElem?_append_right (by simp)]; simpa using hj)
      rwa [show off + 3 + j = off + (3 + j) from by omega]

theorem peek_any (R : Nat) (s : ByteArray) (z : Wk.St) (k : Nat) (w : World) (h : Rd w R s z) :
    Calls Tryz.prog 36 #[.pointer (some ⟨R, 0, none⟩), .int .i64 k] w fun e w' => e = .returned (.bool (Wk.peek z k)) ∧ w = w' := by
  obtain ⟨v, h1, h2⟩ := h
  have c1 := h1.cell (j := 1) rfl
  obtain ⟨l, b⟩ := z
  cases l with
  | nil =>
    obtain ⟨a, cap, rfl, hm, _⟩ := reads_form h2
    clear h1 h2 hm
    dsimp only at c1
    go_enter Tryz.func36, Tryz.ntmps36
    go_wp2
    go_ret
    exact ⟨rfl, rfl⟩
  | cons t r =>
    obtain ⟨g, off, cap, rfl, hgR, hc1, hc2, t0, t1, t2, h3⟩ := reads_head h2
    clear h1 h2 h3 t1 t2
    unfold maxLen at hc2
    have hfin : ((t.kind : Int) == (k : Int)) = Wk.peek ⟨t :: r, b⟩ k := by unfold Wk.peek; rw [Bool.eq_iff_iff]; simp; omega
    go_enter Tryz.func36, Tryz.ntmps36
    go_wp2
    go_ret
    exact ⟨rfl, rfl⟩

theorem take_any (R : Nat) (s : ByteArray) (z : Wk.St) (k : Nat) (w : World) (hs : s.size ≤ maxLen) (h : Rd w R s z) :
    Calls Tryz.prog 33 #[.pointer (some ⟨R, 0, none⟩), .int .i64 k] w fun e w' => ∃ r : ByteArray, e = .returned (.string r) ∧ Hid (r.data.toList = (Wk.take s.data.toList z k).2) ∧ r.size ≤ s.size ∧ Rd w' R s (Wk.take s.data.toList z k).1 ∧ Upd R w w' := by
  have h0 := h
  obtain ⟨v, h1, h2⟩ := h
  have c0 := h1.cell (j := 0) rfl
  have c1 := h1.cell (j := 1) rfl
  have c2 := h1.cell (j := 2) rfl
  have f1 := h1.frozen 1
  have f2 := h1.frozen 2
  by_cases hst : Wk.stop z k = true
  · have hfin : Wk.take s.data.toList z k = (Wk.fail z, []) := by unfold Wk.take; rw [if_pos hst]
    have Hfin := Lib.hid hfin
    have Hr := Lib.hid h0.fail
    clear h1 h2 hfin
    cases hb : z.bad with
    | true =>
      rw [hb] at c2
      clear h0
      go_enter Tryz.func33, Tryz.ntmps33
      go_wp2_with fail
      go_ret
      exact ⟨_, rfl, by unfold Hid; rw [Hfin.out], Nat.zero_le _, by rw [Hfin.out]; exact Hr.out, (Upd.refl _ _).set _ _⟩
    | false =>
      rw [hb] at c2
      have hp : Wk.peek z k = false := by unfold Wk.stop at hst; rw [hb] at hst; simpa using hst
      go_enter Tryz.func33, Tryz.ntmps33
      go_wp2_with fail
      refine (peek_any R s z k w h0).mono ?_
      rintro e w' ⟨rfl, rfl⟩
      clear h0
      go_wp2_with fail
      go_ret
      exact ⟨_, rfl, by unfold Hid; rw [Hfin.out], Nat.zero_le _, by rw [Hfin.out]; exact Hr.out, (Upd.refl _ _).set _ _⟩
  · have hst' : Wk.stop z k = false := by simpa using hst
    obtain ⟨t, r, hl, hk, hb, hfin⟩ := Wk.take_yes s.data.toList z k hst'
    have hp : Wk.peek z k = true := by unfold Wk.stop at hst'; rw [hb] at hst'; simpa using hst'
    rw [hb] at c2
    rw [hl] at h2
    obtain ⟨g, off, cap, rfl, hgR, hc1, hc2, t0, t1, t2, h3⟩ := reads_head h2
    have Hfin := Lib.hid hfin
    have H1 := Lib.hid h1
    have H3 := Lib.hid h3
    have Hb := Lib.hid hb
    unfold maxLen at hc2
    clear hst hst' hl hb hfin h2 h1 h3 hk
    go_enter Tryz.func33, Tryz.ntmps33
    go_wp2_with fail
    refine (peek_any R s z k w h0).mono ?_
    rintro e w' ⟨rfl, rfl⟩
    clear h0
    go_wp2_with fail
    have hR : R < w.heap.size := H1.out.lt
    go_region_held3 (fun w' => w'.cell? ⟨R, 0, none⟩ = some (.string s) ∧ w'.cell? ⟨R, 1, none⟩ = some (.slice (some ⟨g, off, none⟩) (r.length + 1) cap) ∧ w'.cell? ⟨g, off, none⟩ = some (.int .i64 t.kind) ∧ w'.cell? ⟨g, off + 1, none⟩ = some (.int .i64 t.fr) ∧ w'.cell? ⟨g, off + 2, none⟩ = some (.int .i64 t.to))
      (first
        | go_keep
        | (go_split_ands
           refine ⟨?_, ?_, ?_, ?_, ?_⟩
           · (rw [hb1.cell (by show _ < _; simp; omega)]; assumption)
           · (rw [hb1.cell (by show _ < _; simp; omega)]; assumption)
           · (rw [hb1.cell (by show _ < _; simp; omega)]; assumption)
           · (rw [hb1.cell (by show _ < _; simp; omega)]; assumption)
           · (rw [hb1.cell (by show _ < _; simp; omega)]; assumption)))
      ((go_at_call 52; refine (text_any _ _ _ s _ hs).mono ?_; rintro e w1 ⟨x, rfl, Hx, hxs, hb1⟩))
    have hbw : Below w.heap.size w w1 := ((Below.refl w.heap.size w).drew).trans hb1
    have J1 := H1.out.call hbw
    have d1 : w1.cell? ⟨R, 1, none⟩ = some (.slice (some ⟨g, off, none⟩) (r.length + 1) cap) := J1.cell (j := 1) rfl
    have e1 := J1.frozen 1
    have HJ := Lib.hid J1
    have Hbw := Lib.hid hbw
    clear J1 hb1 hbw
    have hbR : ∀ u, Below R w (w1.setCell ⟨R, 1, none⟩ u) := fun u => (Hbw.out.mono (Nat.le_of_lt hR)).setCell (Nat.le_refl _) _
    have HbR := Lib.hid hbR
    clear hbR
    have HJ2 : Hid (∀ u, Blk (w1.setCell ⟨R, 1, none⟩ u) R [.string s, u, .bool false] 68) := fun u => by have := HJ.out.set 1 u; rw [Hb.out] at this; exact this
    go_wp2_with fail
    · have hr : r = [] := by cases r with | nil => rfl | cons a b => simp only [List.length_cons] at hc1; omega
      go_ret
      refine ⟨x, rfl, by unfold Hid; rw [Hfin.out]; exact Hx.out, hxs, ?_, (Upd.of_below Hbw.out).set _ _⟩
      rw [Hfin.out]
      subst hr
      exact ⟨_, HJ2.out _, .inr ⟨g, off, 0, rfl, hgR, Nat.le_refl _, Nat.zero_le _, fun j u hj => by simp [flatT] at hj⟩⟩
    · go_ret
      refine ⟨x, rfl, by unfold Hid; rw [Hfin.out]; exact Hx.out, hxs, ?_, (Upd.of_below Hbw.out).set _ _⟩
      rw [Hfin.out]
      exact ⟨_, HJ2.out _, H3.out.below (HbR.out _)⟩

theorem word_eq (s : List UInt8) (z : Wk.St) (t : Lx.Tok) (r : List Lx.Tok) (hl : z.l = t :: r) (h : Wk.stop z 1 = false) : Wk.word s z = Lx.upper (Wk.txt s t) := by
  unfold Wk.word; rw [if_neg (by rw [h]; simp), hl]

theorem wword_any (R : Nat) (s : ByteArray) (z : Wk.St) (w : World) (hs : s.size ≤ maxLen) (h : Rd w R s z) :
    Calls Tryz.prog 32 #[.pointer (some ⟨R, 0, none⟩)] w fun e w' => ∃ r : ByteArray, e = .returned (.string r) ∧ Hid (r.data.toList = Wk.word s.data.toList z) ∧ r.size ≤ s.size ∧ Below w.heap.size w w' := by
  have h0 := h
  obtain ⟨v, h1, h2⟩ := h
  have c0 := h1.cell (j := 0) rfl
  have c1 := h1.cell (j := 1) rfl
  have c2 := h1.cell (j := 2) rfl
  have hR := h1.lt
  by_cases hst : Wk.stop z 1 = true
  · have hfin : Wk.word s.data.toList z = [] := by unfold Wk.word; rw [if_pos hst]
    have Hfin := Lib.hid hfin
    clear h1 h2 hfin
    cases hb : z.bad with
    | true =>
      rw [hb] at c2
      clear h0
      go_enter Tryz.func32, Tryz.ntmps32
      go_wp2_with fail
      go_ret
      exact ⟨_, rfl, by unfold Hid; rw [Hfin.out], Nat.zero_le _, Below.refl _ _⟩
    | false =>
      rw [hb] at c2
      have hp : Wk.peek z 1 = false := by unfold Wk.stop at hst; rw [hb] at hst; simpa using hst
      go_enter Tryz.func32, Tryz.ntmps32
      go_wp2_with fail
      refine (peek_any R s z 1 w h0).mono ?_
      rintro e w' ⟨rfl, rfl⟩
      clear h0
      go_wp2_with fail
      go_ret
      exact ⟨_, rfl, by unfold Hid; rw [Hfin.out], Nat.zero_le _, Below.refl _ _⟩
  · have hst' : Wk.stop z 1 = false := by simpa using hst
    obtain ⟨t, r, hl, hk, hb, _⟩ := Wk.take_yes s.data.toList z 1 hst'
    have hfin := word_eq s.data.toList z t r hl hst'
    have hp : Wk.peek z 1 = true := by unfold Wk.stop at hst'; rw [hb] at hst'; simpa using hst'
    rw [hb] at c2
    rw [hl] at h2
    obtain ⟨g, off, cap, rfl, hgR, hc1, hc2, t0, t1, t2, h3⟩ := reads_head h2
    have Hfin := Lib.hid hfin
    unfold maxLen at hc2
    clear hst hst' hl hb hfin h2 h1 h3 hk
    go_enter Tryz.func32, Tryz.ntmps32
    go_wp2_with fail
    refine (peek_any R s z 1 w h0).mono ?_
    rintro e w' ⟨rfl, rfl⟩
    clear h0
    go_wp2_with fail
    go_region_held3 (fun w' => w'.cell? ⟨R, 0, none⟩ = some (.string s) ∧ w'.cell? ⟨R, 1, none⟩ = some (.slice (some ⟨g, off, none⟩) (r.length + 1) cap) ∧ w'.cell? ⟨g, off, none⟩ = some (.int .i64 t.kind) ∧ w'.cell? ⟨g, off + 1, none⟩ = some (.int .i64 t.fr) ∧ w'.cell? ⟨g, off + 2, none⟩ = some (.int .i64 t.to))
      (first
        | go_keep
        | (go_split_ands
           refine ⟨?_, ?_, ?_, ?_, ?_⟩
           · (rw [hb1.cell (by show _ < _; simp; omega)]; assumption)
           · (rw [hb1.cell (by show _ < _; simp; omega)]; assumption)
           · (rw [hb1.cell (by show _ < _; simp; omega)]; assumption)
           · (rw [hb1.cell (by show _ < _; simp; omega)]; assumption)
           · (rw [hb1.cell (by show _ < _; simp; omega)]; assumption))
        | (go_split_ands
           have hz1 := hb1.size
           simp only [World.drew] at hz1
           refine ⟨?_, ?_, ?_, ?_, ?_⟩
           · (rw [hb2.cell (by show _ < _; simp; omega)]; assumption)
           · (rw [hb2.cell (by show _ < _; simp; omega)]; assumption)
           · (rw [hb2.cell (by show _ < _; simp; omega)]; assumption)
           · (rw [hb2.cell (by show _ < _; simp; omega)]; assumption)
           · (rw [hb2.cell (by show _ < _; simp; omega)]; assumption)))
      (first
        | (go_at_call 52; refine (text_any _ _ _ s _ hs).mono ?_; rintro e w1 ⟨x, rfl, Hx, hxs, hb1⟩)
        | (go_at_call 51; refine (upper_any x _ (Nat.le_trans hxs hs)).mono ?_; rintro e w2 ⟨y, rfl, Hy, hb2⟩))
    have hys : y.size = x.size := by rw [Lib.size_eq, Lib.size_eq, Hy.out]; unfold Lx.upper; rw [List.length_map]
    go_wp2_with fail
    go_ret
    refine ⟨_, rfl, by unfold Hid; rw [Hfin.out, Hy.out, Hx.out]; rfl, by omega, ((Below.refl w.heap.size w).drew.trans hb1).trans (hb2.mono (by have := hb1.size; exact this))⟩

theorem wnone_any (R : Nat) (s : ByteArray) (z : Wk.St) (w : World) (hs : s.size ≤ maxLen) (h : Rd w R s z) :
    Calls Tryz.prog 34 #[.pointer (some ⟨R, 0, none⟩)] w fun e w' => e = .returned (.bool (Wk.none s.data.toList z).2) ∧ Rd w' R s (Wk.none s.data.toList z).1 ∧ Upd R w w' := by
  go_enter Tryz.func34, Tryz.ntmps34
  go_wp2_with fail
  refine (wword_any R s z w hs h).mono ?_
  rintro e w1 ⟨r, rfl, Hr, hrs, hb1⟩
  have h1 : Rd w1 R s z := h.upd_ hb1
  by_cases he : Wk.word s.data.toList z = Wk.emptyWord
  · have hr : r = ⟨#[69, 77, 80, 84, 89]⟩ := bytes_eq (Hr.out.trans he)
    have hfin : Wk.none s.data.toList z = ((Wk.take s.data.toList z 1).1, true) := by unfold Wk.none; rw [he]; rfl
    subst hr
    have Hfin := Lib.hid hfin
    clear hfin he
    go_wp2_with fail
    refine (take_any R s z 1 w1 hs h1).mono ?_
    rintro e w2 ⟨x, rfl, Hx, hxs, h2, hu⟩
    go_wp2_with fail
    go_ret
    exact ⟨by rw [Hfin.out]; rfl, by rw [Hfin.out]; exact h2, (Upd.of_below hb1).trans hu⟩
  · have hr : (r.toList == [69, 77, 80, 84, 89]) = false := by
      rw [Lib.toList_data, Hr.out, beq_eq_false_iff_ne]; exact he
    have hfin : Wk.none s.data.toList z = (z, false) := by unfold Wk.none; rw [if_neg (by simpa using he)]
    have Hfin := Lib.hid hfin
    clear hfin he
    go_wp2_with fail
    go_ret
    exact ⟨by rw [Hfin.out]; rfl, by rw [Hfin.out]; exact h1, Upd.of_below hb1⟩
end Go.Proofs.YtfbdkjonjpanfaaGreatDoor
