import Derived.Test.YtfbdkjonjpanfaaGreatDoorWktJ
import Derived.Test.YtfbdkjonjpanfaaGreatDoorPrefix
import Derived.BigQuiet
set_option linter.unusedVariables false
set_option linter.unusedSimpArgs false
namespace Go.Proofs.YtfbdkjonjpanfaaGreatDoor
open Go.RowKit Go.Rg
attribute [local go_sem] Oper.semAt_some

namespace Wk
open Lx
/-- the tokens ahead of the first wrong one -/
def toks (s : Str) : List Tok := (scan s).takeWhile fun t => t.kind != 0
/-- a text is read: its geometries, or the place at which it is wrong -/
def parse (s : Str) : Except Nat (List Geo) :=
  match (geos s ⟨toks s, false⟩).1.l with
  | t :: _ => .error t.fr
  | [] => match badAt (scan s) with
    | .some k => .error k
    | .none => if (geos s ⟨toks s, false⟩).1.bad then .error s.length else .ok (geos s ⟨toks s, false⟩).2
theorem tw_all {A : Type} (p : A → Bool) : ∀ l : List A, (∀ x ∈ l, p x = true) → l.takeWhile p = l
  | [], _ => rfl
  | a :: l, h => by rw [List.takeWhile_cons, h a (List.mem_cons_self ..), tw_all p l (fun x hx => h x (List.mem_cons_of_mem _ hx))]; rfl
theorem toks_all {s : Str} (h : ∀ u ∈ scan s, u.kind ≠ 0) : toks s = scan s := by
  unfold toks
  exact tw_all _ _ (fun t ht => by simpa using h t ht)
theorem toks_bad {s : Str} {A : List Tok} {bad : Tok} (h : scan s = A ++ [bad]) (hA : ∀ u ∈ A, u.kind ≠ 0) (hb : bad.kind = 0) : toks s = A := by
  unfold toks
  rw [h, List.takeWhile_append_of_pos (fun t ht => by simpa using hA t ht)]
  simp [hb]
end Wk

/-- what Parse hands back -/
def parseRes (r : Except Nat (List Wk.Geo)) (v : Value) (at_ e : Int) (w : World) : Prop :=
  match r with
  | .error k => v = .slice none 0 0 ∧ at_ = k ∧ e = 21
  | .ok gs => (∃ R cs, RdT 33 w v gs.length cs ∧ rdsG R w cs gs) ∧ at_ = 0 ∧ e = 0

/-- the second half of Parse: the reader's block lies -/
theorem toks_any (s : ByteArray) (w : World) (hs : s.size ≤ 100000) (v : Value) (at_ er : Int) (h : tokensRes (Lx.scan s.data.toList) v at_ er w) :
    (er = 0 ∧ at_ = 0 ∧ Lx.badAt (Lx.scan s.data.toList) = none ∧ Reads w w.heap.size v (Wk.toks s.data.toList).length (flatT (Wk.toks s.data.toList))) ∨
    (er = 21 ∧ ∃ k : Nat, at_ = k ∧ k ≤ s.size ∧ Lx.badAt (Lx.scan s.data.toList) = some k ∧ ∀ t : ByteArray, t.data.toList = s.data.toList.take k → Lx.scan t.data.toList = Wk.toks s.data.toList ∧ Lx.badAt (Lx.scan t.data.toList) = none) := by
  unfold tokensRes at h
  rcases Lx.scan_split s with ⟨h1, h2⟩ | ⟨A, bad, h1, h2, h3, h4, h5, h6⟩
  · rw [h2] at h
    obtain ⟨a, b, c⟩ := h
    exact .inl ⟨c, b, h2, by rw [Wk.toks_all h1]; exact a⟩
  · rw [h5] at h
    obtain ⟨a, b, c⟩ := h
    refine .inr ⟨c, bad.fr, b, h4, h5, fun t ht => ?_⟩
    have e1 := h6 t ht
    rw [Wk.toks_bad h1 h2 h3]
    exact ⟨e1, by rw [e1]; exact Lx.badAt_none h2⟩
theorem toks_len (s : ByteArray) : (Wk.toks s.data.toList).length ≤ s.size := Nat.le_trans ((List.takeWhile_prefix _).length_le) (Lx.scan_len s)

theorem below_drewN (B : Nat) (w : World) : ∀ n, Below B w (w.drewN n)
  | 0 => Below.refl _ _
  | n + 1 => (below_drewN B w n).drew

set_option maxRecDepth 100000 in
set_option maxHeartbeats 4000000 in
theorem parse_any (s : ByteArray) (w : World) (hs : s.size ≤ 100000) :
    Calls Tryz.prog 8 #[.string s] w fun e w' => ∃ (v : Value) (at_ er : Int), e = .returned (.tuple #[v, .int .i64 at_, .int .i64 er]) ∧ parseRes (Wk.parse s.data.toList) v at_ er w' ∧ Below w.heap.size w w' := by
  obtain ⟨pr, hpr⟩ : ∃ pr, pr = Wk.parse s.data.toList := ⟨_, rfl⟩
  rw [← hpr]
  have Hpr := Lib.hid hpr
  clear hpr
  go_enter Tryz.func8, Tryz.ntmps8
  go_wp2_with fail
  refine (tokens_any s w hs).mono ?_
  rintro e w1 ⟨v1, at1, er1, rfl, hres, hb1⟩
  rcases toks_any s w1 hs v1 at1 er1 hres with ⟨rfl, rfl, hbad, hrd⟩ | ⟨rfl, k, rfl, hk, hbad, hpre⟩
  · clear hres
    obtain ⟨va, vc, rfl, _, _⟩ := reads_form hrd
    have hRd := Blk.new w1 [.string s, .slice va (Wk.toks s.data.toList).length vc, .bool false] 68
    have hrd' : Rd (w1.alloc (.cells #[.string s, .slice va (Wk.toks s.data.toList).length vc, .bool false] 68)) w1.heap.size s ⟨Wk.toks s.data.toList, false⟩ := ⟨_, hRd, hrd.below ((Below.refl _ w1).alloc (Nat.le_refl _) _)⟩
    have hBz : Below w.heap.size w (w1.alloc (.cells #[.string s, .slice va (Wk.toks s.data.toList).length vc, .bool false] 68)) := hb1.alloc hb1.size _
    obtain ⟨W2, hW2⟩ : ∃ W2, (w1.alloc (.cells #[.string s, .slice va (Wk.toks s.data.toList).length vc, .bool false] 68)) = W2 := ⟨_, rfl⟩
    rw [hW2] at hrd' hBz
    have HW2 := Lib.hid hW2
    clear hRd hrd hW2
    go_wp2_with fail
    rw [HW2.out]
    refine (geos_any w1.heap.size s ⟨Wk.toks s.data.toList, false⟩ W2 (by unfold maxLen; omega) hrd' (by have := toks_len s; simp only; omega)).mono ?_
    rintro e w5 ⟨v5, cs, rfl, hv5, hg5, hz5, hu5⟩
    have hw1s : w.heap.size ≤ w1.heap.size := hb1.size
    have hBel : Below w.heap.size w w5 := hBz.trans (hu5.below hw1s hBz.size)
    obtain ⟨z5, hzz⟩ : ∃ z5, z5 = Wk.geos s.data.toList ⟨Wk.toks s.data.toList, false⟩ := ⟨_, rfl⟩
    rw [← hzz] at hv5 hg5 hz5
    have hpr2 : pr = match z5.1.l with | t :: _ => .error t.fr | [] => match Lx.badAt (Lx.scan s.data.toList) with | .some k => .error k | .none => if z5.1.bad then .error s.data.toList.length else .ok z5.2 := by rw [Hpr.out, hzz]; rfl
    obtain ⟨⟨l5, b5⟩, g5⟩ := z5
    obtain ⟨tv, hB5, hr5⟩ := hz5
    have c1 := hB5.cell (j := 1) rfl
    have c2 := hB5.cell (j := 2) rfl
    simp only at hpr2 hv5 hg5 hr5
    have Hv5 := Lib.hid hv5
    have Hg5 := Lib.hid hg5
    have HBel := Lib.hid hBel
    obtain ⟨a5, n5, cc5, rfl⟩ : ∃ a n c, v5 = .slice a n c := by obtain ⟨a, c, h⟩ := pair_form (R := w1.heap.size) hv5; exact ⟨_, _, _, h⟩
    cases l5 with
    | cons t r =>
      have hfin : pr = .error t.fr := hpr2
      obtain ⟨g, off, cap, rfl, hgR, hc1, hc2, t0, t1, t2, h3⟩ := reads_head hr5
      unfold maxLen at hc2
      have Hfin := Lib.hid hfin
      clear hpr2 hv5 hg5 hr5 hB5 hBz hrd' hu5 hzz h3 t0 t2 hBel hbad hfin
      go_wp2_with fail
      go_quiet (fail)
      go_wp2_with fail
      refine bodyPost_ret (v := .tuple #[.slice none 0 0, .int .i64 (t.fr : Int), .int .i64 21]) (by simp [results, Tryz.results8, go_sem]) rfl ⟨_, _, _, rfl, ?_, HBel.out.trans (below_drewN _ _ _)⟩
      rw [Hfin.out]; exact ⟨rfl, rfl, rfl⟩
    | nil =>
      obtain ⟨a1, cap1, rfl, hm1, _⟩ := reads_form hr5
      simp only [hbad] at hpr2
      clear hv5 hg5 hr5 hB5 hBz hrd' hu5 hzz hBel hm1
      cases b5 with
      | true =>
        have hfin : pr = .error s.data.toList.length := by rw [hpr2]; rfl
        clear hpr2 hbad
        have Hfin := Lib.hid hfin
        clear hfin
        go_wp2_with fail
        refine bodyPost_ret (v := .tuple #[.slice none 0 0, .int .i64 (s.size : Int), .int .i64 21]) (by simp [results, Tryz.results8, go_sem]) rfl ⟨_, _, _, rfl, ?_, HBel.out⟩
        rw [Hfin.out]; exact ⟨rfl, by rw [Lib.size_eq], rfl⟩
      | false =>
        have hfin : pr = .ok g5 := by rw [hpr2]; rfl
        clear hpr2 hbad
        have Hfin := Lib.hid hfin
        clear hfin
        go_wp2_with fail
        refine bodyPost_ret (v := .tuple #[.slice a5 n5 cc5, .int .i64 0, .int .i64 0]) (by simp [results, Tryz.results8, go_sem]) rfl ⟨_, _, _, rfl, ?_, HBel.out⟩
        rw [Hfin.out]; exact ⟨⟨_, cs, Hv5.out, Hg5.out⟩, rfl, rfl⟩
  · clear hres
    have hex : (s.extract 0 k).data.toList = s.data.toList.take k := by simp
    have hexs : (s.extract 0 k).size ≤ 100000 := by simp; omega
    go_wp2_with fail
    refine (tokens_any (s.extract 0 k) w1 hexs).mono ?_
    rintro e w2 ⟨v2, at2, er2, rfl, hres2, hb2⟩
    have hb12 : Below w.heap.size w w2 := hb1.trans (hb2.mono hb1.size)
    obtain ⟨ht1, ht2⟩ := hpre _ hex
    unfold tokensRes at hres2
    rw [ht2, ht1] at hres2
    obtain ⟨hrd, rfl, rfl⟩ := hres2
    clear hpre ht1 ht2 hexs hex hb2
    obtain ⟨va, vc, rfl, _, _⟩ := reads_form hrd
    have hRd := Blk.new w2 [.string s, .slice va (Wk.toks s.data.toList).length vc, .bool false] 68
    have hrd' : Rd (w2.alloc (.cells #[.string s, .slice va (Wk.toks s.data.toList).length vc, .bool false] 68)) w2.heap.size s ⟨Wk.toks s.data.toList, false⟩ := ⟨_, hRd, hrd.below ((Below.refl _ w2).alloc (Nat.le_refl _) _)⟩
    have hBz : Below w.heap.size w (w2.alloc (.cells #[.string s, .slice va (Wk.toks s.data.toList).length vc, .bool false] 68)) := hb12.alloc hb12.size _
    obtain ⟨W2, hW2⟩ : ∃ W2, (w2.alloc (.cells #[.string s, .slice va (Wk.toks s.data.toList).length vc, .bool false] 68)) = W2 := ⟨_, rfl⟩
    rw [hW2] at hrd' hBz
    have HW2 := Lib.hid hW2
    clear hRd hrd hW2
    go_wp2_with fail
    rw [HW2.out]
    refine (geos_any w2.heap.size s ⟨Wk.toks s.data.toList, false⟩ W2 (by unfold maxLen; omega) hrd' (by have := toks_len s; simp only; omega)).mono ?_
    rintro e w5 ⟨v5, cs, rfl, hv5, hg5, hz5, hu5⟩
    have hw1s : w.heap.size ≤ w2.heap.size := hb12.size
    have hBel : Below w.heap.size w w5 := hBz.trans (hu5.below hw1s hBz.size)
    obtain ⟨z5, hzz⟩ : ∃ z5, z5 = Wk.geos s.data.toList ⟨Wk.toks s.data.toList, false⟩ := ⟨_, rfl⟩
    rw [← hzz] at hv5 hg5 hz5
    have hpr2 : pr = match z5.1.l with | t :: _ => .error t.fr | [] => match Lx.badAt (Lx.scan s.data.toList) with | .some k => .error k | .none => if z5.1.bad then .error s.data.toList.length else .ok z5.2 := by rw [Hpr.out, hzz]; rfl
    obtain ⟨⟨l5, b5⟩, g5⟩ := z5
    obtain ⟨tv, hB5, hr5⟩ := hz5
    have c1 := hB5.cell (j := 1) rfl
    have c2 := hB5.cell (j := 2) rfl
    simp only at hpr2 hv5 hg5 hr5
    have Hv5 := Lib.hid hv5
    have Hg5 := Lib.hid hg5
    have HBel := Lib.hid hBel
    obtain ⟨a5, n5, cc5, rfl⟩ : ∃ a n c, v5 = .slice a n c := by obtain ⟨a, c, h⟩ := pair_form (R := w2.heap.size) hv5; exact ⟨_, _, _, h⟩
    cases l5 with
    | cons t r =>
      have hfin : pr = .error t.fr := hpr2
      obtain ⟨g, off, cap, rfl, hgR, hc1, hc2, t0, t1, t2, h3⟩ := reads_head hr5
      unfold maxLen at hc2
      have Hfin := Lib.hid hfin
      clear hpr2 hv5 hg5 hr5 hB5 hBz hrd' hu5 hzz h3 t0 t2 hBel hbad hfin
      go_wp2_with fail
      go_quiet (fail)
      go_wp2_with fail
      refine bodyPost_ret (v := .tuple #[.slice none 0 0, .int .i64 (t.fr : Int), .int .i64 21]) (by simp [results, Tryz.results8, go_sem]) rfl ⟨_, _, _, rfl, ?_, HBel.out.trans (below_drewN _ _ _)⟩
      rw [Hfin.out]; exact ⟨rfl, rfl, rfl⟩
    | nil =>
      obtain ⟨a1, cap1, rfl, hm1, _⟩ := reads_form hr5
      simp only [hbad] at hpr2
      clear hv5 hg5 hr5 hB5 hBz hrd' hu5 hzz hBel hm1
      have Hfin := Lib.hid hpr2
      clear hpr2 hbad
      go_wp2_with fail
      refine bodyPost_ret (v := .tuple #[.slice none 0 0, .int .i64 (k : Int), .int .i64 21]) (by simp [results, Tryz.results8, go_sem]) rfl ⟨_, _, _, rfl, ?_, HBel.out⟩
      rw [Hfin.out]; exact ⟨rfl, rfl, rfl⟩
end Go.Proofs.YtfbdkjonjpanfaaGreatDoor
