import Derived.Test.YtfbdkjonjpanfaaGreatDoorWktA
set_option linter.unusedVariables false
set_option linter.unusedSimpArgs false
namespace Go.Proofs.YtfbdkjonjpanfaaGreatDoor
open Go.RowKit Go.Rg
attribute [local go_sem] Oper.semAt_some

def prC (p : Wk.Pr) : List Value := [.string ⟨p.1.toArray⟩, .string ⟨p.2.toArray⟩]
def prV (p : Wk.Pr) : Value := .agg #[.string ⟨p.1.toArray⟩, .string ⟨p.2.toArray⟩]
def flatP (l : List Wk.Pr) : List Value := l.flatMap prC

theorem wpair_any (R : Nat) (s : ByteArray) (z : Wk.St) (w : World) (hs : s.size ≤ maxLen) (h : Rd w R s z) :
    Calls Tryz.prog 83 #[.pointer (some ⟨R, 0, none⟩)] w fun e w' => e = .returned (prV (Wk.pair s.data.toList z).2) ∧ Rd w' R s (Wk.pair s.data.toList z).1 ∧ Upd R w w' := by
  have hR := h.lt
  go_enter Tryz.func83, Tryz.ntmps83
  go_wp2_with fail
  have hb0 : Below w.heap.size w (w.alloc (.cells #[.string ⟨#[]⟩, .string ⟨#[]⟩] 77)) := (Below.refl _ w).alloc (Nat.le_refl _) _
  have hB : Blk (w.alloc (.cells #[.string ⟨#[]⟩, .string ⟨#[]⟩] 77)) w.heap.size [.string ⟨#[]⟩, .string ⟨#[]⟩] 77 := Blk.new w _ _
  refine (take_any R s z 2 _ hs (h.upd_ hb0)).mono ?_
  rintro e w1 ⟨x, rfl, Hx, hxs, h1, hu1⟩
  have hB1 := hB.upd hu1 (by omega)
  clear hB
  go_wp2_with fail
  refine (take_any R s _ 2 w1 hs h1).mono ?_
  rintro e w2 ⟨y, rfl, Hy, hys, h2, hu2⟩
  have hB2 := hB1.upd hu2 (by omega)
  have c0 := hB2.cell (j := 0) rfl
  have c1 := hB2.cell (j := 1) rfl
  have f0 := hB2.frozen 0
  have f1 := hB2.frozen 1
  have hx := bytes_eq Hx.out
  have hy := bytes_eq Hy.out
  have hu : Upd R w w2 := ((Upd.of_below hb0).trans hu1).trans hu2
  have H2 := Lib.hid h2
  have Hu := Lib.hid hu
  have Hxx := Lib.hid hx
  have Hyy := Lib.hid hy
  clear hB1 hb0 h1 h2 hu1 hu2 hu hx hy Hx Hy
  go_wp2_with fail
  refine bodyPost_ret (v := .agg #[.string x, .string y]) (by simp [results, Tryz.results83, go_sem, *]) rfl ?_
  refine ⟨?_, ?_, ?_⟩
  · unfold prV Wk.pair; rw [Hxx.out, Hyy.out]
  · obtain ⟨v, a, b⟩ := H2.out
    exact ⟨v, (a.other _ (by show R ≠ w.heap.size; omega) _).other _ (by show R ≠ w.heap.size; omega) _, (b.below (((Below.refl R w2).setCell (by show R ≤ w.heap.size; omega) _))).below ((Below.refl R _).setCell (by show R ≤ w.heap.size; omega) _)⟩
  · exact (Hu.out.setNew ⟨w.heap.size, 0, none⟩ (Nat.le_refl _) _).setNew ⟨w.heap.size, 1, none⟩ (Nat.le_refl _) _

theorem Rd.set_new {w : World} {R : Nat} {s : ByteArray} {z : Wk.St} (h : Rd w R s z) (a : Addr) (ha : R < a.block) (u : Value) : Rd (w.setCell a u) R s z := by
  obtain ⟨v, h1, h2⟩ := h
  exact ⟨v, h1.other a (by omega) u, h2.below ((Below.refl R w).setCell (by omega) u)⟩
theorem Rd.alloc_ {w : World} {R : Nat} {s : ByteArray} {z : Wk.St} (h : Rd w R s z) (o : Obj) : Rd (w.alloc o) R s z := h.upd_ ((Below.refl _ w).alloc (Nat.le_refl _) o)

theorem rds_new {R : Nat} {W : World} (hR : R < W.heap.size) (cs : List Value) (t : TypeId) (n c : Nat) (hn : n ≤ c) (hc : c ≤ maxLen) : Rds R (W.alloc (.cells cs.toArray t)) (.slice (some ⟨W.heap.size, 0, none⟩) n c) n cs :=
  .inr ⟨_, 0, c, rfl, by omega, by simp, hn, hc, fun j x hj => by rw [Nat.zero_add]; exact (Blk.new W cs t).cell hj⟩

theorem wone_any (R : Nat) (s : ByteArray) (z : Wk.St) (w : World) (hs : s.size ≤ maxLen) (h : Rd w R s z) :
    Calls Tryz.prog 53 #[.pointer (some ⟨R, 0, none⟩)] w fun e w' => ∃ v, e = .returned v ∧ RdT 77 w' v (Wk.one s.data.toList z).2.length (flatP (Wk.one s.data.toList z).2) ∧ Rd w' R s (Wk.one s.data.toList z).1 ∧ Upd R w w' := by
  have hR := h.lt
  go_enter Tryz.func53, Tryz.ntmps53
  go_wp2_with fail
  refine (wnone_any R s z w hs h).mono ?_
  rintro e w1 ⟨rfl, h1, hu1⟩
  cases hn : (Wk.none s.data.toList z).2 with
  | true =>
    have hfin : Wk.one s.data.toList z = ((Wk.none s.data.toList z).1, []) := by unfold Wk.one; rw [if_pos hn]
    have Hfin := Lib.hid hfin
    clear hfin
    go_wp2_with fail
    go_ret
    exact ⟨_, rfl, by rw [Hfin.out]; exact RdT.nil _ _, by rw [Hfin.out]; exact h1, hu1⟩
  | false =>
    have hfin : Wk.one s.data.toList z = ((Wk.take s.data.toList (Wk.pair s.data.toList (Wk.take s.data.toList (Wk.none s.data.toList z).1 3).1).1 4).1, [(Wk.pair s.data.toList (Wk.take s.data.toList (Wk.none s.data.toList z).1 3).1).2]) := by unfold Wk.one; rw [if_neg (by rw [hn]; simp)]
    have Hfin := Lib.hid hfin
    clear hfin
    go_wp2_with fail
    refine (take_any R s _ 3 w1 hs h1).mono ?_
    rintro e w2 ⟨x, rfl, Hx, hxs, h2, hu2⟩
    clear Hx hxs
    go_wp2_with fail
    refine (wpair_any R s _ w2 hs h2).mono ?_
    rintro e w3 ⟨rfl, h3, hu3⟩
    obtain ⟨p, hp⟩ : ∃ p, p = (Wk.pair s.data.toList (Wk.take s.data.toList (Wk.none s.data.toList z).1 3).1).2 := ⟨_, rfl⟩
    have hR3 := h3.lt
    rw [← hp]
    have Hp := Lib.hid hp
    clear hp
    unfold prV
    have h4 := (h3.alloc_ (.cells #[.string ⟨p.1.toArray⟩, .string ⟨p.2.toArray⟩] 77))
    have hB := Blk.new w3 [.string ⟨p.1.toArray⟩, .string ⟨p.2.toArray⟩] 77
    go_wp2_with fail
    refine (take_any R s _ 4 _ hs h4).mono ?_
    rintro e w5 ⟨y, rfl, Hy, hys, h5, hu5⟩
    have hB5 := hB.upd hu5 (by omega)
    have c0 := hB5.cell (j := 0) rfl
    have c1 := hB5.cell (j := 1) rfl
    have hu : Upd R w w5 := ((((hu1.trans hu2).trans hu3).alloc _).trans hu5)
    have H5 := Lib.hid h5
    have Hu := Lib.hid hu
    clear hB hB5 h1 h2 h3 h4 h5 hu1 hu2 hu3 hu5 hu h Hy
    go_wp2_with fail
    go_ret
    have hR5 := H5.out.lt
    refine ⟨_, rfl, ?_, ?_, Hu.out.alloc _⟩
    · rw [Hfin.out, ← Hp.out]
      exact RdT.new [.string ⟨p.1.toArray⟩, .string ⟨p.2.toArray⟩] _ 1 1 (by decide) (by decide)
    · rw [Hfin.out]; exact H5.out.alloc_ _
end Go.Proofs.YtfbdkjonjpanfaaGreatDoor
