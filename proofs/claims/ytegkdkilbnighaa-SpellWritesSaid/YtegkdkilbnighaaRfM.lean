import Derived.Test.YtegkdkilbnighaaRfJ
import Derived.Test.YtegkdkilbnighaaRfJ2
import Derived.Test.YtegkdkilbnighaaRfK
import Derived.Test.YtegkdkilbnighaaGood
import Derived.Test.YtegkdkilbnighaaWktK
import Derived.Test.YtegkdkilbnighaaFirst
import Derived.BigQuiet
set_option linter.unusedVariables false
set_option linter.unusedSimpArgs false
namespace Go.Proofs.Ytegkdkilbnighaa
open Go.RowKit Go.Rg
attribute [local go_sem] Oper.semAt_some

theorem step_any (n : Nat) (hn : n ≤ 1000000) (z : Wk.MS) (kd : Nat) (t : ByteArray) (ht : t.size ≤ 100000) (v : Value) (w : World) (hz : Wk.Good z) (hl : Wk.Lim n z) (h : RdS w v z) :
    Calls Try.prog 24 #[v, .int .i64 (kd : Int), .string t] w fun e w' => StepR w' e (Wk.step z kd t.data.toList) ∧ Below w.heap.size w w' := by
  obtain ⟨a, lev, out⟩ := z
  have hlev : lev ≤ 1000000 := Nat.le_trans hl.1 hn
  have hout : out.length ≤ 1000000 := Nat.le_trans hl.2.1 hn
  rcases hz with h1 | h10 | ⟨o, g, hog, hk1, hf⟩
  · simp only at h1
    subst h1
    obtain ⟨ov, cs, rfl, b, c⟩ := h
    exact step1_any lev kd t hlev ht ov cs out w b c hout
  · simp only at h10
    subst h10
    obtain ⟨ov, cs, rfl, b, c⟩ := h
    exact step10_any lev kd t hlev ov cs out w b c
  · simp only at hog hf
    subst hog
    have hg := hl.2.2 g (by simp)
    have ho : o.length ≤ 1000000 := by simp at hout; omega
    have hpn : g.pairs.length ≤ 1000000 := Nat.le_trans hg.1 hn
    have hcn : g.counts.length ≤ 1000000 := Nat.le_trans hg.2.1 hn
    have hsn : g.size.length ≤ 1000000 := Nat.le_trans hg.2.2.1 hn
    have hcv : ∀ c ∈ g.counts, c ≤ 1000000 := fun c hc => Nat.le_trans (hg.2.2.2.1 c hc) hn
    have hsv : ∀ c ∈ g.size, c ≤ 1000000 := fun c hc => Nat.le_trans (hg.2.2.2.2 c hc) hn
    obtain ⟨ov, pv, cv, sv, rfl, hZ⟩ := h.geo
    rcases hf with ⟨rfl, hk7⟩ | ⟨hk6, hf⟩
    · exact step2_any lev kd t hlev ht ov o g pv cv sv w hZ ho hk7 hk1 hcn
    · rcases hf with ⟨ha, hc, hs⟩ | ⟨ha, hd, hs⟩ | ⟨ha, hd⟩
      · obtain ⟨l, m, hlm⟩ : ∃ l m, g.counts = l ++ [m] := by
          rcases List.eq_nil_or_concat g.counts with h | ⟨l, m, h⟩
          · exact absurd h hc
          · exact ⟨l, m, by rw [h, List.concat_eq_append]⟩
        rcases ha with rfl | rfl | rfl | rfl
        · exact step3_any lev kd t hlev ht ov o g pv cv sv w hZ ho hpn
        · exact step4_any lev kd t hlev ht ov o g pv cv sv w hZ ho hpn hcn hk6 l m hlm (hcv m (by rw [hlm]; simp))
        · exact step5_any lev kd t hlev ht ov o g pv cv sv w hZ ho hk6
        · exact step12_any lev kd t hlev ht ov o g pv cv sv w hZ ho hk6
      · rcases ha with rfl | rfl | rfl
        · exact step6_any lev kd t hlev ht ov o g pv cv sv w hZ ho hk6 hcn hsn hs hsv
        · exact step11_any lev kd t hlev ht ov o g pv cv sv w hZ ho hk6 hcn hsn hs hsv
        · exact step7_any lev kd t hlev ht ov o g pv cv sv w hZ ho hk6 hd
      · rcases ha with rfl | rfl
        · exact step8_any lev kd t hlev ht ov o g pv cv sv w hZ ho hsn
        · exact step9_any lev kd t hlev ht ov o g pv cv sv w hZ ho hk6 (.inr (.inr hd))
end Go.Proofs.Ytegkdkilbnighaa

namespace Go.Rg
open Go Go.RowKit
theorem heldG_plain {P : Program} {id : Nat} {Q : Exit → Act → World → Prop} {a : Act} {w : World} {l : List Oper} (S : World → Prop) (late : Nat → Bool) (hm : P.follows .mixedOrders = true)
    (h : wpAnyG P .any l.toArray Q S late l.toArray.size (Array.replicate l.toArray.size false) a w.drew) : (Code.region id l.toArray true).wp P Q a w :=
  wp_region_any hm (wpAny_of_G _ _ _ _ h)
end Go.Rg
namespace Go.Proofs.Ytegkdkilbnighaa
open Go.RowKit Go.Rg
attribute [local go_sem] Oper.semAt_some

namespace Wk
open Lx
def rparse (s : Str) : Except Nat (List RGeo) :=
  match (run s ⟨1, 0, []⟩ (toks s)).2 with
  | t :: _ => .error t.fr
  | [] => match badAt (scan s) with
    | .some k => .error k
    | .none => if (run s ⟨1, 0, []⟩ (toks s)).1.at_ = 10 ∧ (run s ⟨1, 0, []⟩ (toks s)).1.level = 0 then .ok (run s ⟨1, 0, []⟩ (toks s)).1.out else .error s.length
end Wk

/-- what the document's Parse hands back -/
def rparseRes (r : Except Nat (List Wk.RGeo)) (v : Value) (at_ : Int) (w : World) : Prop :=
  match r with
  | .error k => v = .slice none 0 0 ∧ at_ = k
  | .ok gs => (∃ cs, RdT 78 w v gs.length cs ∧ rdsR w cs gs) ∧ at_ = -1

/-- the tokens ahead of the first wrong one, as the document's Tokens hands them back -/
theorem rtoks_any (s : ByteArray) (w : World) (v : Value) (at_ : Int) (h : rtokRes (Lx.scan s.data.toList) v at_ w) :
    (at_ = -1 ∧ Lx.badAt (Lx.scan s.data.toList) = none ∧ Reads w w.heap.size v (Wk.toks s.data.toList).length (flatT (Wk.toks s.data.toList))) ∨
    (∃ k : Nat, at_ = k ∧ k ≤ s.size ∧ Lx.badAt (Lx.scan s.data.toList) = some k ∧ ∀ t : ByteArray, t.data.toList = s.data.toList.take k → Lx.scan t.data.toList = Wk.toks s.data.toList ∧ Lx.badAt (Lx.scan t.data.toList) = none) := by
  unfold rtokRes at h
  rcases Lx.scan_split s with ⟨h1, h2⟩ | ⟨A, bad, h1, h2, h3, h4, h5, h6⟩
  · rw [h2] at h
    obtain ⟨a, b⟩ := h
    exact .inl ⟨b, h2, by rw [Wk.toks_all h1]; exact a⟩
  · rw [h5] at h
    obtain ⟨a, b⟩ := h
    refine .inr ⟨bad.fr, b, h4, h5, fun t ht => ?_⟩
    have e1 := h6 t ht
    rw [Wk.toks_bad h1 h2 h3]
    exact ⟨e1, by rw [e1]; exact Lx.badAt_none h2⟩

/-- between two rounds of the document's Parse -/
def rpI (s : ByteArray) (w wt : World) (l : List Lx.Tok) (i : Nat) (z : Wk.MS) (X : World) : Prop :=
  Wk.Good z ∧ Wk.Lim i z ∧ Below wt.heap.size wt X ∧ (∃ ov, Blk X wt.heap.size [.int .i64 (z.at_ : Int), .int .i64 (z.level : Int), ov] 62 ∧ RdS X (.agg #[.int .i64 (z.at_ : Int), .int .i64 (z.level : Int), ov]) z) ∧
  Wk.run s.data.toList ⟨1, 0, []⟩ l = Wk.run s.data.toList z (l.drop i)

set_option maxRecDepth 100000 in
set_option maxHeartbeats 8000000 in
theorem rparse_any (s : ByteArray) (w : World) (hs : s.size ≤ 100000) :
    Calls Try.prog 10 #[.string s] w fun e w' => ∃ (v : Value) (at_ : Int), e = .returned (.tuple #[v, .int .i64 at_]) ∧ rparseRes (Wk.rparse s.data.toList) v at_ w' ∧ Below w.heap.size w w' := by
  obtain ⟨pr, hpr⟩ : ∃ pr, pr = Wk.rparse s.data.toList := ⟨_, rfl⟩
  rw [← hpr]
  have Hpr := Lib.hid hpr
  clear hpr
  go_enter Try.func10, Try.ntmps10
  go_wp2_with fail
  refine (rtokens_any s w hs).mono ?_
  rintro e w1 ⟨v1, at1, rfl, hres, hb1⟩
  rcases rtoks_any s w1 v1 at1 hres with ⟨rfl, hbad, hrd⟩ | ⟨k, rfl, hk, hbad, hpre⟩
  · clear hres
    obtain ⟨va, vc, rfl, hlm, _⟩ := reads_form hrd
    have hlen := toks_len s
    have h0 : rpI s w w1 (Wk.toks s.data.toList) 0 ⟨1, 0, []⟩ (w1.alloc (.cells #[.int .i64 1, .int .i64 0, .slice none 0 0] 62)) :=
      ⟨.inl rfl, ⟨Nat.zero_le _, Nat.zero_le _, by simp⟩, (Below.refl _ w1).alloc (Nat.le_refl _) _, ⟨.slice none 0 0, Blk.new w1 _ _, .slice none 0 0, [], rfl, RdT.nil _ _, rfl⟩, rfl⟩
    have H0 := Lib.hid h0
    have Hrd := Lib.hid hrd
    have Hbad := Lib.hid hbad
    obtain ⟨N, hN⟩ : ∃ N, N = (Wk.toks s.data.toList).length := ⟨_, rfl⟩
    rw [← hN]
    have HN := Lib.hid hN
    have hN6 : N ≤ 100000 := by omega
    clear h0 hrd hbad hlm hN hlen
    go_wp2_with fail
    go_loopg [7] N (fun g s7 wx => ∃ (i : Nat) (z : Wk.MS), i + g = N ∧ s7 = .int .i64 (i : Int) ∧ Hid (rpI s w w1 (Wk.toks s.data.toList) i z wx))
    case atStart => exact ⟨0, ⟨1, 0, []⟩, by omega, rfl, H0⟩
    case round =>
      obtain ⟨i, z, hig, rfl, HI⟩ := hrel
      cases gk with
      | zero =>
        obtain ⟨hgood, hlim, hbx, ⟨ov, hB, hS⟩, hrun⟩ := HI.out
        have hiN : i = N := by omega
        rw [hiN, HN.out, List.drop_length] at hrun
        have hrun' : Wk.run s.data.toList ⟨1, 0, []⟩ (Wk.toks s.data.toList) = (z, []) := hrun
        obtain ⟨oa, on, oc, rfl⟩ : ∃ a n c, ov = .slice a n c := by
          obtain ⟨ov', cs, e, b, _⟩ := hS
          simp only [Value.agg.injEq, Array.mk.injEq, List.cons.injEq, and_true, true_and] at e
          obtain ⟨a, c, h⟩ := pair_form (R := 0) b
          exact ⟨a, z.out.length, c, by rw [e, h]⟩
        obtain ⟨x0, x1, x2⟩ := cells3 hB
        have hfin : pr = if z.at_ = 10 ∧ z.level = 0 then .ok z.out else .error s.data.toList.length := by
          rw [Hpr.out]; unfold Wk.rparse; rw [hrun', Hbad.out]
        have Hfin := Lib.hid hfin
        have HS := Lib.hid hS
        have hbw := Lib.hid (hb1.trans (hbx.mono hb1.size))
        clear hB hS hbx hrun hrun' hgood hlim HI hfin
        cases e10 : ((z.at_ : Int) != 10) with
        | true =>
          have h10 : ¬ z.at_ = 10 := by intro h; rw [h] at e10; simp at e10
          go_wp2_with fail
          try rw [Exit.noGoto_ret]
          refine bodyPost_ret (v := .tuple #[.slice none 0 0, .int .i64 (s.size : Int)]) (by simp [results, Try.results10, go_sem]) rfl ⟨_, _, rfl, ?_, hbw.out⟩
          rw [Hfin.out, if_neg (fun h => h10 h.1)]
          exact ⟨rfl, by rw [Lib.size_eq]⟩
        | false =>
          have h10 : z.at_ = 10 := by simp at e10; omega
          cases e0 : ((z.level : Int) != 0) with
          | true =>
            have h0 : ¬ z.level = 0 := by intro h; rw [h] at e0; simp at e0
            have H10 := Lib.hid h10
            clear h10
            go_wp2_with fail
            try rw [Exit.noGoto_ret]
            refine bodyPost_ret (v := .tuple #[.slice none 0 0, .int .i64 (s.size : Int)]) (by simp [results, Try.results10, go_sem]) rfl ⟨_, _, rfl, ?_, hbw.out⟩
            rw [Hfin.out, if_neg (fun h => h0 h.2)]
            exact ⟨rfl, by rw [Lib.size_eq]⟩
          | false =>
            have h0 : z.level = 0 := by simp at e0; omega
            rw [Hid, if_pos ⟨h10, h0⟩] at Hfin
            have H10 := Lib.hid h10
            have H0' := Lib.hid h0
            have Hfin := Lib.hid Hfin
            clear h10 h0
            go_wp2_with fail
            try rw [Exit.noGoto_ret]
            refine bodyPost_ret (v := .tuple #[.slice oa on oc, .int .i64 (-1)]) (by simp [results, Try.results10, go_sem]) rfl ⟨_, _, rfl, ?_, hbw.out⟩
            rw [Hfin.out]
            obtain ⟨ov', cs, e, b, c⟩ := HS.out
            simp only [Value.agg.injEq, Array.mk.injEq, List.cons.injEq, and_true, true_and] at e
            exact ⟨⟨cs, by rw [e]; exact b, c⟩, rfl⟩
      | succ gk =>
        have hiN : i < N := by omega
        obtain ⟨hgood, hlim, hbx, ⟨ov, hB, hS⟩, hrun⟩ := HI.out
        obtain ⟨oa, on, oc, rfl⟩ : ∃ a n c, ov = .slice a n c := by
          obtain ⟨ov', cs, e, b, _⟩ := hS
          simp only [Value.agg.injEq, Array.mk.injEq, List.cons.injEq, and_true, true_and] at e
          obtain ⟨a, c, h⟩ := pair_form (R := 0) b
          exact ⟨a, z.out.length, c, by rw [e, h]⟩
        obtain ⟨t, ht⟩ : ∃ t, (Wk.toks s.data.toList)[i]? = some t := ⟨_, List.getElem?_eq_getElem (by rw [← HN.out]; exact hiN)⟩
        obtain ⟨hft, hts⟩ := scan_bounds s t (Wk.toks_mem (List.mem_of_getElem? ht))
        obtain ⟨q0, q1, q2⟩ := flatT_at _ _ _ ht
        obtain ⟨gb, off, hva, hgb, hcl⟩ : ∃ g off, va = some ⟨g, off, none⟩ ∧ g < w1.heap.size ∧ ∀ j x, (flatT (Wk.toks s.data.toList))[j]? = some x → w1.cell? ⟨g, off + j, none⟩ = some x := by
          rcases Hrd.out with ⟨_, h, _⟩ | ⟨g, off, cap, e, h1, h2, h3, h4⟩
          · rw [← HN.out] at h; omega
          · cases e; exact ⟨g, off, rfl, h1, h4⟩
        subst hva
        have hcap : N ≤ vc ∧ vc ≤ maxLen := by
          rcases Hrd.out with ⟨h, _⟩ | ⟨g, off, cap, e, h1, h2, h3, h4⟩
          · cases h
          · cases e; rw [HN.out]; exact ⟨h2, h3⟩
        obtain ⟨hcap1, hcap2⟩ := hcap
        unfold maxLen at hcap2
        have t0 : wr.cell? ⟨gb, off + i * 3, none⟩ = some (.int .i64 (t.kind : Int)) := (hbx.cell (p := ⟨gb, off + i * 3, none⟩) hgb).trans (hcl _ _ q0)
        have t1 : wr.cell? ⟨gb, off + i * 3 + 1, none⟩ = some (.int .i64 (t.fr : Int)) := (hbx.cell (p := ⟨gb, off + i * 3 + 1, none⟩) hgb).trans (hcl _ _ q1)
        have t2 : wr.cell? ⟨gb, off + i * 3 + 2, none⟩ = some (.int .i64 (t.to : Int)) := (hbx.cell (p := ⟨gb, off + i * 3 + 2, none⟩) hgb).trans (hcl _ _ q2)
        obtain ⟨x0, x1, x2⟩ := cells3 hB
        obtain ⟨f0, f1, f2, _, _⟩ := frozen5 hB
        have HB := Lib.hid hB
        have HS := Lib.hid hS
        have Hbx := Lib.hid hbx
        have Hrun := Lib.hid hrun
        have Hgood := Lib.hid hgood
        have Hlim := Lib.hid hlim
        have Ht := Lib.hid ht
        have hwt : w1.heap.size < wr.heap.size := hB.lt
        clear hB hS hbx hrun hgood hlim ht q0 q1 q2 hcl HI
        go_wp2_with fail
        refine heldG_plain (fun w' => w'.cell? ⟨w1.heap.size, 0, none⟩ = some (.int .i64 (z.at_ : Int)) ∧ w'.cell? ⟨w1.heap.size, 1, none⟩ = some (.int .i64 (z.level : Int)) ∧ w'.cell? ⟨w1.heap.size, 2, none⟩ = some (.slice oa on oc) ∧ w'.cell? ⟨gb, off + i * 3, none⟩ = some (.int .i64 (t.kind : Int)) ∧ w'.cell? ⟨gb, off + i * 3 + 1, none⟩ = some (.int .i64 (t.fr : Int)) ∧ w'.cell? ⟨gb, off + i * 3 + 2, none⟩ = some (.int .i64 (t.to : Int))) (fun j => j == 21 || j == 22 || j == 23) (by kernel_rfl) ?_
        refine wpAnyG_takeD (i := 0) (v := .agg #[.int .i64 (z.at_ : Int), .int .i64 (z.level : Int), .slice oa on oc]) [0, 18, 19, 20, 21, 22, 23] rfl (by kernel_rfl) (by kernel_rfl) (by kernel_rfl) (by kernel_rfl) (by kernel_rfl) (fun _ _ _ h => h) (Or.inl ⟨by rfl, ?y0⟩) ⟨x0, x1, x2, t0, t1, t2⟩ ?_
        case y0 => intro w' hS'; obtain ⟨S0, S1, S2, S3, S4, S5⟩ := hS'; clear x0 x1 x2 t0 t1 t2 f0 f1 f2; go_simp
        simp only [Act.put, List.setIfInBounds_toArray, List.set_cons_zero, List.set_cons_succ]
        refine wpAnyG_takeD (i := 1) (v := .slice (some ⟨gb, off, none⟩) N vc) [1, 3, 4, 5, 18, 19, 20, 21, 22, 23] rfl (by kernel_rfl) (by kernel_rfl) (by kernel_rfl) (by kernel_rfl) (by kernel_rfl) (fun _ _ _ h => h) (Or.inl ⟨by rfl, ?y1⟩) ⟨x0, x1, x2, t0, t1, t2⟩ ?_
        case y1 => intro w' hS'; obtain ⟨S0, S1, S2, S3, S4, S5⟩ := hS'; clear x0 x1 x2 t0 t1 t2 f0 f1 f2; go_simp
        simp only [Act.put, List.setIfInBounds_toArray, List.set_cons_zero, List.set_cons_succ]
        refine wpAnyG_takeD (i := 2) (v := .int .i64 (i : Int)) [2, 3, 4, 5, 18, 19, 20, 21, 22, 23] rfl (by kernel_rfl) (by kernel_rfl) (by kernel_rfl) (by kernel_rfl) (by kernel_rfl) (fun _ _ _ h => h) (Or.inl ⟨by rfl, ?y2⟩) ⟨x0, x1, x2, t0, t1, t2⟩ ?_
        case y2 => intro w' hS'; obtain ⟨S0, S1, S2, S3, S4, S5⟩ := hS'; clear x0 x1 x2 t0 t1 t2 f0 f1 f2; go_simp
        simp only [Act.put, List.setIfInBounds_toArray, List.set_cons_zero, List.set_cons_succ]
        refine wpAnyG_takeD (i := 3) (v := .pointer (some ⟨gb, off + i * 3, none⟩)) [3, 4, 5, 18, 19, 20, 21, 22, 23] rfl (by kernel_rfl) (by kernel_rfl) (by kernel_rfl) (by kernel_rfl) (by kernel_rfl) (fun _ _ _ h => h) (Or.inl ⟨by rfl, ?y3⟩) ⟨x0, x1, x2, t0, t1, t2⟩ ?_
        case y3 => intro w' hS'; obtain ⟨S0, S1, S2, S3, S4, S5⟩ := hS'; clear x0 x1 x2 t0 t1 t2 f0 f1 f2; go_simp
        simp only [Act.put, List.setIfInBounds_toArray, List.set_cons_zero, List.set_cons_succ]
        refine wpAnyG_takeD (i := 4) (v := .pointer (some ⟨gb, off + i * 3, none⟩)) [4, 5, 18, 19, 20, 21, 22, 23] rfl (by kernel_rfl) (by kernel_rfl) (by kernel_rfl) (by kernel_rfl) (by kernel_rfl) (fun _ _ _ h => h) (Or.inl ⟨by rfl, ?y4⟩) ⟨x0, x1, x2, t0, t1, t2⟩ ?_
        case y4 => intro w' hS'; obtain ⟨S0, S1, S2, S3, S4, S5⟩ := hS'; clear x0 x1 x2 t0 t1 t2 f0 f1 f2; go_simp
        simp only [Act.put, List.setIfInBounds_toArray, List.set_cons_zero, List.set_cons_succ]
        refine wpAnyG_takeD (i := 5) (v := .int .i64 (t.kind : Int)) [5, 18, 19, 20, 21, 22, 23] rfl (by kernel_rfl) (by kernel_rfl) (by kernel_rfl) (by kernel_rfl) (by kernel_rfl) (fun _ _ _ h => h) (Or.inl ⟨by rfl, ?y5⟩) ⟨x0, x1, x2, t0, t1, t2⟩ ?_
        case y5 => intro w' hS'; obtain ⟨S0, S1, S2, S3, S4, S5⟩ := hS'; clear x0 x1 x2 t0 t1 t2 f0 f1 f2; go_simp
        simp only [Act.put, List.setIfInBounds_toArray, List.set_cons_zero, List.set_cons_succ]
        refine wpAnyG_takeD (i := 6) (v := .string s) [6, 17, 18, 19, 20, 21, 22, 23] rfl (by kernel_rfl) (by kernel_rfl) (by kernel_rfl) (by kernel_rfl) (by kernel_rfl) (fun _ _ _ h => h) (Or.inl ⟨by rfl, ?y6⟩) ⟨x0, x1, x2, t0, t1, t2⟩ ?_
        case y6 => intro w' hS'; obtain ⟨S0, S1, S2, S3, S4, S5⟩ := hS'; clear x0 x1 x2 t0 t1 t2 f0 f1 f2; go_simp
        simp only [Act.put, List.setIfInBounds_toArray, List.set_cons_zero, List.set_cons_succ]
        refine wpAnyG_takeD (i := 7) (v := .slice (some ⟨gb, off, none⟩) N vc) [7, 9, 10, 11, 17, 18, 19, 20, 21, 22, 23] rfl (by kernel_rfl) (by kernel_rfl) (by kernel_rfl) (by kernel_rfl) (by kernel_rfl) (fun _ _ _ h => h) (Or.inl ⟨by rfl, ?y7⟩) ⟨x0, x1, x2, t0, t1, t2⟩ ?_
        case y7 => intro w' hS'; obtain ⟨S0, S1, S2, S3, S4, S5⟩ := hS'; clear x0 x1 x2 t0 t1 t2 f0 f1 f2; go_simp
        simp only [Act.put, List.setIfInBounds_toArray, List.set_cons_zero, List.set_cons_succ]
        refine wpAnyG_takeD (i := 8) (v := .int .i64 (i : Int)) [8, 9, 10, 11, 17, 18, 19, 20, 21, 22, 23] rfl (by kernel_rfl) (by kernel_rfl) (by kernel_rfl) (by kernel_rfl) (by kernel_rfl) (fun _ _ _ h => h) (Or.inl ⟨by rfl, ?y8⟩) ⟨x0, x1, x2, t0, t1, t2⟩ ?_
        case y8 => intro w' hS'; obtain ⟨S0, S1, S2, S3, S4, S5⟩ := hS'; clear x0 x1 x2 t0 t1 t2 f0 f1 f2; go_simp
        simp only [Act.put, List.setIfInBounds_toArray, List.set_cons_zero, List.set_cons_succ]
        refine wpAnyG_takeD (i := 9) (v := .pointer (some ⟨gb, off + i * 3, none⟩)) [9, 10, 11, 17, 18, 19, 20, 21, 22, 23] rfl (by kernel_rfl) (by kernel_rfl) (by kernel_rfl) (by kernel_rfl) (by kernel_rfl) (fun _ _ _ h => h) (Or.inl ⟨by rfl, ?y9⟩) ⟨x0, x1, x2, t0, t1, t2⟩ ?_
        case y9 => intro w' hS'; obtain ⟨S0, S1, S2, S3, S4, S5⟩ := hS'; clear x0 x1 x2 t0 t1 t2 f0 f1 f2; go_simp
        simp only [Act.put, List.setIfInBounds_toArray, List.set_cons_zero, List.set_cons_succ]
        refine wpAnyG_takeD (i := 10) (v := .pointer (some ⟨gb, off + i * 3 + 1, none⟩)) [10, 11, 17, 18, 19, 20, 21, 22, 23] rfl (by kernel_rfl) (by kernel_rfl) (by kernel_rfl) (by kernel_rfl) (by kernel_rfl) (fun _ _ _ h => h) (Or.inl ⟨by rfl, ?y10⟩) ⟨x0, x1, x2, t0, t1, t2⟩ ?_
        case y10 => intro w' hS'; obtain ⟨S0, S1, S2, S3, S4, S5⟩ := hS'; clear x0 x1 x2 t0 t1 t2 f0 f1 f2; go_simp
        simp only [Act.put, List.setIfInBounds_toArray, List.set_cons_zero, List.set_cons_succ]
        refine wpAnyG_takeD (i := 11) (v := .int .i64 (t.fr : Int)) [11, 17, 18, 19, 20, 21, 22, 23] rfl (by kernel_rfl) (by kernel_rfl) (by kernel_rfl) (by kernel_rfl) (by kernel_rfl) (fun _ _ _ h => h) (Or.inl ⟨by rfl, ?y11⟩) ⟨x0, x1, x2, t0, t1, t2⟩ ?_
        case y11 => intro w' hS'; obtain ⟨S0, S1, S2, S3, S4, S5⟩ := hS'; clear x0 x1 x2 t0 t1 t2 f0 f1 f2; go_simp
        simp only [Act.put, List.setIfInBounds_toArray, List.set_cons_zero, List.set_cons_succ]
        refine wpAnyG_takeD (i := 12) (v := .slice (some ⟨gb, off, none⟩) N vc) [12, 14, 15, 16, 17, 18, 19, 20, 21, 22, 23] rfl (by kernel_rfl) (by kernel_rfl) (by kernel_rfl) (by kernel_rfl) (by kernel_rfl) (fun _ _ _ h => h) (Or.inl ⟨by rfl, ?y12⟩) ⟨x0, x1, x2, t0, t1, t2⟩ ?_
        case y12 => intro w' hS'; obtain ⟨S0, S1, S2, S3, S4, S5⟩ := hS'; clear x0 x1 x2 t0 t1 t2 f0 f1 f2; go_simp
        simp only [Act.put, List.setIfInBounds_toArray, List.set_cons_zero, List.set_cons_succ]
        refine wpAnyG_takeD (i := 13) (v := .int .i64 (i : Int)) [13, 14, 15, 16, 17, 18, 19, 20, 21, 22, 23] rfl (by kernel_rfl) (by kernel_rfl) (by kernel_rfl) (by kernel_rfl) (by kernel_rfl) (fun _ _ _ h => h) (Or.inl ⟨by rfl, ?y13⟩) ⟨x0, x1, x2, t0, t1, t2⟩ ?_
        case y13 => intro w' hS'; obtain ⟨S0, S1, S2, S3, S4, S5⟩ := hS'; clear x0 x1 x2 t0 t1 t2 f0 f1 f2; go_simp
        simp only [Act.put, List.setIfInBounds_toArray, List.set_cons_zero, List.set_cons_succ]
        refine wpAnyG_takeD (i := 14) (v := .pointer (some ⟨gb, off + i * 3, none⟩)) [14, 15, 16, 17, 18, 19, 20, 21, 22, 23] rfl (by kernel_rfl) (by kernel_rfl) (by kernel_rfl) (by kernel_rfl) (by kernel_rfl) (fun _ _ _ h => h) (Or.inl ⟨by rfl, ?y14⟩) ⟨x0, x1, x2, t0, t1, t2⟩ ?_
        case y14 => intro w' hS'; obtain ⟨S0, S1, S2, S3, S4, S5⟩ := hS'; clear x0 x1 x2 t0 t1 t2 f0 f1 f2; go_simp
        simp only [Act.put, List.setIfInBounds_toArray, List.set_cons_zero, List.set_cons_succ]
        refine wpAnyG_takeD (i := 15) (v := .pointer (some ⟨gb, off + i * 3 + 2, none⟩)) [15, 16, 17, 18, 19, 20, 21, 22, 23] rfl (by kernel_rfl) (by kernel_rfl) (by kernel_rfl) (by kernel_rfl) (by kernel_rfl) (fun _ _ _ h => h) (Or.inl ⟨by rfl, ?y15⟩) ⟨x0, x1, x2, t0, t1, t2⟩ ?_
        case y15 => intro w' hS'; obtain ⟨S0, S1, S2, S3, S4, S5⟩ := hS'; clear x0 x1 x2 t0 t1 t2 f0 f1 f2; go_simp
        simp only [Act.put, List.setIfInBounds_toArray, List.set_cons_zero, List.set_cons_succ]
        refine wpAnyG_takeD (i := 16) (v := .int .i64 (t.to : Int)) [16, 17, 18, 19, 20, 21, 22, 23] rfl (by kernel_rfl) (by kernel_rfl) (by kernel_rfl) (by kernel_rfl) (by kernel_rfl) (fun _ _ _ h => h) (Or.inl ⟨by rfl, ?y16⟩) ⟨x0, x1, x2, t0, t1, t2⟩ ?_
        case y16 => intro w' hS'; obtain ⟨S0, S1, S2, S3, S4, S5⟩ := hS'; clear x0 x1 x2 t0 t1 t2 f0 f1 f2; go_simp
        simp only [Act.put, List.setIfInBounds_toArray, List.set_cons_zero, List.set_cons_succ]
        refine wpAnyG_takeD (i := 17) (v := .string (s.extract t.fr t.to)) [17, 18, 19, 20, 21, 22, 23] rfl (by kernel_rfl) (by kernel_rfl) (by kernel_rfl) (by kernel_rfl) (by kernel_rfl) (fun _ _ _ h => h) (Or.inl ⟨by rfl, ?y17⟩) ⟨x0, x1, x2, t0, t1, t2⟩ ?_
        case y17 => intro w' hS'; obtain ⟨S0, S1, S2, S3, S4, S5⟩ := hS'; clear x0 x1 x2 t0 t1 t2 f0 f1 f2; go_simp
        simp only [Act.put, List.setIfInBounds_toArray, List.set_cons_zero, List.set_cons_succ]
        refine wpAnyG_ready (rs := [18]) (by kernel_rfl) (by simp) ?_
        refine AllReadyG.cons rfl (fun K hK => ?_) AllReadyG.nil
        go_simp
        have hexs : (s.extract t.fr t.to).size ≤ 100000 := by rw [ByteArray.size_extract]; omega
        refine (step_any i (by omega) z t.kind (s.extract t.fr t.to) hexs _ _ Hgood.out Hlim.out (HS.out.call ((Below.refl _ wr).drew))).mono ?_
        rintro e w5 ⟨⟨ba, bl, bo, bn, bc, bok, rfl, hbr⟩, hb5⟩
        have hS5 := fun (v : Value) (q j : Nat) (hq : q < wr.heap.size) (hc : wr.cell? ⟨q, j, none⟩ = some v) => keepc (v := v) (i := j) hb5 hq hc
        have X0 := hS5 _ _ _ hwt x0
        have X1 := hS5 _ _ _ hwt x1
        have X2 := hS5 _ _ _ hwt x2
        have T0 := hS5 _ _ _ (by omega) t0
        have T1 := hS5 _ _ _ (by omega) t1
        have T2 := hS5 _ _ _ (by omega) t2
        have F0 : w5.frozen? ⟨w1.heap.size, 0, none⟩ = false := keepf hb5 hwt f0
        have F1 : w5.frozen? ⟨w1.heap.size, 1, none⟩ = false := keepf hb5 hwt f1
        have F2 : w5.frozen? ⟨w1.heap.size, 2, none⟩ = false := keepf hb5 hwt f2
        have HB5 := Lib.hid ((show Blk wr.drew w1.heap.size [.int .i64 (z.at_ : Int), .int .i64 (z.level : Int), .slice oa on oc] 62 from HB.out).call hb5)
        have Hb5 := Lib.hid hb5
        have Hbr := Lib.hid hbr
        have hsz5 : wr.heap.size ≤ w5.heap.size := hb5.size
        refine hK.out _ _ (fun _ => ⟨X0, X1, X2, T0, T1, T2⟩) ?_
        clear hK K x0 x1 x2 t0 t1 t2 f0 f1 f2 hS5 hb5 hbr
        refine wpAnyG_ready (rs := [19]) (by kernel_rfl) (by simp) ?_
        refine AllReadyG.cons rfl (fun K hK => ?_) AllReadyG.nil
        go_simp
        refine hK.out _ _ (fun _ => ⟨X0, X1, X2, T0, T1, T2⟩) ?_
        clear hK K
        have HW5 : Hid (∀ W, ((w5.setCell ⟨w1.heap.size, 0, none⟩ (.int .i64 ba)).setCell ⟨w1.heap.size, 1, none⟩ (.int .i64 bl)).setCell ⟨w1.heap.size, 2, none⟩ (.slice bo bn bc) = W → Below w1.heap.size w1 W ∧ Blk W w1.heap.size [.int .i64 ba, .int .i64 bl, .slice bo bn bc] 62 ∧ (∀ T, 62 ≠ T → KeepT T w5 W)) := by
          rintro W rfl
          obtain ⟨kp, _, bb⟩ := three HB5.out (.int .i64 ba) (.int .i64 bl) (.slice bo bn bc)
          exact ⟨below3 ((Hbx.out.drew).trans (Hb5.out.mono (by show w1.heap.size ≤ wr.heap.size; omega))) (Nat.le_refl _) _ _ _, bb, kp⟩
        refine wpAnyG_ready (rs := [20, 21]) (by kernel_rfl) (by simp) ?_
        refine AllReadyG.cons rfl (fun K hK => ?_) (AllReadyG.cons rfl (fun K hK => ?_) AllReadyG.nil)
        · go_simp
          refine hK.out _ _ (fun _ => ⟨X0, X1, X2, T0, T1, T2⟩) ?_
          clear hK K
          refine wpAnyG_ready (rs := [21, 22]) (by kernel_rfl) (by simp) ?_
          refine AllReadyG.cons rfl (fun K hK => ?_) (AllReadyG.cons rfl (fun K hK => ?_) AllReadyG.nil)
          · go_simp
            refine hK.out _ _ (fun h => by cases h) ?_
            clear hK K
            refine wpAnyG_ready (rs := [22]) (by kernel_rfl) (by simp) ?_
            refine AllReadyG.cons rfl (fun K hK => ?_) AllReadyG.nil
            go_simp
            refine hK.out _ _ (fun h => by cases h) ?_
            clear hK K
            refine wpAnyG_ready (rs := [23]) (by kernel_rfl) (by simp) ?_
            refine AllReadyG.cons rfl (fun K hK => ?_) AllReadyG.nil
            go_simp
            refine hK.out _ _ (fun h => by cases h) ?_
            clear hK K
            refine wpAnyG_done (by kernel_rfl) ?_ _
            obtain ⟨W6, hW6⟩ : ∃ W, ((w5.setCell ⟨w1.heap.size, 0, none⟩ (.int .i64 ba)).setCell ⟨w1.heap.size, 1, none⟩ (.int .i64 bl)).setCell ⟨w1.heap.size, 2, none⟩ (.slice bo bn bc) = W := ⟨_, rfl⟩
            rw [hW6]
            obtain ⟨hb6, hB6, kp6⟩ := HW5.out W6 hW6
            have T6 : W6.cell? ⟨gb, off + i * 3 + 1, none⟩ = some (.int .i64 (t.fr : Int)) := by rw [← hW6]; exact keeps3 (by omega) T1
            clear hW6 X0 X1 X2 T0 T1 T2 F0 F1 F2 HW5 HB5
            have hdrop : (Wk.toks s.data.toList).drop i = t :: (Wk.toks s.data.toList).drop (i + 1) := by
              obtain ⟨h, e⟩ := List.getElem?_eq_some_iff.1 Ht.out
              rw [← e]; exact List.drop_eq_getElem_cons h
            have htx : Wk.txt s.data.toList t = (s.extract t.fr t.to).data.toList := by
              unfold Wk.txt Lx.text; rw [if_neg (by rw [← Lib.size_eq]; omega), Lib.extract_data]; congr 1; omega
            cases hst : Wk.step z t.kind (s.extract t.fr t.to).data.toList with
            | none =>
              have hbr := Hbr.out
              rw [hst] at hbr
              have hbr' : bok = false := hbr
              subst hbr'
              have hr2 : (Wk.run s.data.toList ⟨1, 0, []⟩ (Wk.toks s.data.toList)).2 = t :: (Wk.toks s.data.toList).drop (i + 1) := by
                rw [Hrun.out, hdrop]; unfold Wk.run; rw [htx, hst]
              have hfin : pr = .error t.fr := by rw [Hpr.out]; unfold Wk.rparse; rw [hr2]
              have Hfin := Lib.hid hfin
              have Hb6 := Lib.hid hb6
              clear hst hbr Hbr hr2 hfin hB6 kp6 hdrop htx hb6
              go_wp2_with fail
              go_quiet (fail)
              go_wp2_with fail
              try rw [Exit.noGoto_ret]
              refine bodyPost_ret (v := .tuple #[.slice none 0 0, .int .i64 (t.fr : Int)]) (by simp [results, Try.results10, go_sem]) rfl ⟨_, _, rfl, ?_, (hb1.trans (Hb6.out.mono hb1.size)).trans (below_drewN _ _ _)⟩
              rw [Hfin.out]; exact ⟨rfl, rfl⟩
            | some z' =>
              have hbr := Hbr.out
              rw [hst] at hbr
              obtain ⟨rfl, hS5⟩ := hbr
              obtain ⟨hg', hl'⟩ := Wk.step_good i z z' t.kind _ Hgood.out Hlim.out hst
              have hS6 := hS5.keep (kp6 _ (by decide)) (kp6 _ (by decide)) (kp6 _ (by decide))
              have hab : (.int .i64 ba : Value) = .int .i64 (z'.at_ : Int) ∧ (.int .i64 bl : Value) = .int .i64 (z'.level : Int) := by
                obtain ⟨ov', cs, e, _, _⟩ := hS6
                simp only [Value.agg.injEq, Array.mk.injEq, List.cons.injEq, and_true, true_and] at e
                exact ⟨e.1, e.2.1⟩
              have hI' : rpI s w w1 (Wk.toks s.data.toList) (i + 1) z' W6 := by
                refine ⟨hg', hl', hb6, ⟨.slice bo bn bc, ?_, ?_⟩, ?_⟩
                · rw [← hab.1, ← hab.2]; exact hB6
                · rw [← hab.1, ← hab.2]; exact hS6
                · rw [Hrun.out, hdrop]; conv => lhs; unfold Wk.run
                  rw [htx, hst]
              have HI' := Lib.hid hI'
              clear hst Hbr hS5 hg' hl' hS6 hab hI' hb6 hB6 kp6 hdrop htx
              go_wp2_with fail
              go_roundg gk
              case measure => omega
              case rel => exact ⟨i + 1, z', by omega, by first | rfl | simp, HI'⟩
          · go_simp
            refine hK.out _ _ (fun h => by cases h) ?_
            clear hK K
            refine wpAnyG_ready (rs := [21]) (by kernel_rfl) (by simp) ?_
            refine AllReadyG.cons rfl (fun K hK => ?_) AllReadyG.nil
            go_simp
            refine hK.out _ _ (fun h => by cases h) ?_
            clear hK K
            refine wpAnyG_ready (rs := [23]) (by kernel_rfl) (by simp) ?_
            refine AllReadyG.cons rfl (fun K hK => ?_) AllReadyG.nil
            go_simp
            refine hK.out _ _ (fun h => by cases h) ?_
            clear hK K
            refine wpAnyG_done (by kernel_rfl) ?_ _
            obtain ⟨W6, hW6⟩ : ∃ W, ((w5.setCell ⟨w1.heap.size, 0, none⟩ (.int .i64 ba)).setCell ⟨w1.heap.size, 1, none⟩ (.int .i64 bl)).setCell ⟨w1.heap.size, 2, none⟩ (.slice bo bn bc) = W := ⟨_, rfl⟩
            rw [hW6]
            obtain ⟨hb6, hB6, kp6⟩ := HW5.out W6 hW6
            have T6 : W6.cell? ⟨gb, off + i * 3 + 1, none⟩ = some (.int .i64 (t.fr : Int)) := by rw [← hW6]; exact keeps3 (by omega) T1
            clear hW6 X0 X1 X2 T0 T1 T2 F0 F1 F2 HW5 HB5
            have hdrop : (Wk.toks s.data.toList).drop i = t :: (Wk.toks s.data.toList).drop (i + 1) := by
              obtain ⟨h, e⟩ := List.getElem?_eq_some_iff.1 Ht.out
              rw [← e]; exact List.drop_eq_getElem_cons h
            have htx : Wk.txt s.data.toList t = (s.extract t.fr t.to).data.toList := by
              unfold Wk.txt Lx.text; rw [if_neg (by rw [← Lib.size_eq]; omega), Lib.extract_data]; congr 1; omega
            cases hst : Wk.step z t.kind (s.extract t.fr t.to).data.toList with
            | none =>
              have hbr := Hbr.out
              rw [hst] at hbr
              have hbr' : bok = false := hbr
              subst hbr'
              have hr2 : (Wk.run s.data.toList ⟨1, 0, []⟩ (Wk.toks s.data.toList)).2 = t :: (Wk.toks s.data.toList).drop (i + 1) := by
                rw [Hrun.out, hdrop]; unfold Wk.run; rw [htx, hst]
              have hfin : pr = .error t.fr := by rw [Hpr.out]; unfold Wk.rparse; rw [hr2]
              have Hfin := Lib.hid hfin
              have Hb6 := Lib.hid hb6
              clear hst hbr Hbr hr2 hfin hB6 kp6 hdrop htx hb6
              go_wp2_with fail
              go_quiet (fail)
              go_wp2_with fail
              try rw [Exit.noGoto_ret]
              refine bodyPost_ret (v := .tuple #[.slice none 0 0, .int .i64 (t.fr : Int)]) (by simp [results, Try.results10, go_sem]) rfl ⟨_, _, rfl, ?_, (hb1.trans (Hb6.out.mono hb1.size)).trans (below_drewN _ _ _)⟩
              rw [Hfin.out]; exact ⟨rfl, rfl⟩
            | some z' =>
              have hbr := Hbr.out
              rw [hst] at hbr
              obtain ⟨rfl, hS5⟩ := hbr
              obtain ⟨hg', hl'⟩ := Wk.step_good i z z' t.kind _ Hgood.out Hlim.out hst
              have hS6 := hS5.keep (kp6 _ (by decide)) (kp6 _ (by decide)) (kp6 _ (by decide))
              have hab : (.int .i64 ba : Value) = .int .i64 (z'.at_ : Int) ∧ (.int .i64 bl : Value) = .int .i64 (z'.level : Int) := by
                obtain ⟨ov', cs, e, _, _⟩ := hS6
                simp only [Value.agg.injEq, Array.mk.injEq, List.cons.injEq, and_true, true_and] at e
                exact ⟨e.1, e.2.1⟩
              have hI' : rpI s w w1 (Wk.toks s.data.toList) (i + 1) z' W6 := by
                refine ⟨hg', hl', hb6, ⟨.slice bo bn bc, ?_, ?_⟩, ?_⟩
                · rw [← hab.1, ← hab.2]; exact hB6
                · rw [← hab.1, ← hab.2]; exact hS6
                · rw [Hrun.out, hdrop]; conv => lhs; unfold Wk.run
                  rw [htx, hst]
              have HI' := Lib.hid hI'
              clear hst Hbr hS5 hg' hl' hS6 hab hI' hb6 hB6 kp6 hdrop htx
              go_wp2_with fail
              go_roundg gk
              case measure => omega
              case rel => exact ⟨i + 1, z', by omega, by first | rfl | simp, HI'⟩
        · go_simp
          refine hK.out _ _ (fun h => by cases h) ?_
          clear hK K
          refine wpAnyG_ready (rs := [20]) (by kernel_rfl) (by simp) ?_
          refine AllReadyG.cons rfl (fun K hK => ?_) AllReadyG.nil
          go_simp
          refine hK.out _ _ (fun _ => ⟨X0, X1, X2, T0, T1, T2⟩) ?_
          clear hK K
          refine wpAnyG_ready (rs := [22]) (by kernel_rfl) (by simp) ?_
          refine AllReadyG.cons rfl (fun K hK => ?_) AllReadyG.nil
          go_simp
          refine hK.out _ _ (fun h => by cases h) ?_
          clear hK K
          refine wpAnyG_ready (rs := [23]) (by kernel_rfl) (by simp) ?_
          refine AllReadyG.cons rfl (fun K hK => ?_) AllReadyG.nil
          go_simp
          refine hK.out _ _ (fun h => by cases h) ?_
          clear hK K
          refine wpAnyG_done (by kernel_rfl) ?_ _
          obtain ⟨W6, hW6⟩ : ∃ W, ((w5.setCell ⟨w1.heap.size, 0, none⟩ (.int .i64 ba)).setCell ⟨w1.heap.size, 1, none⟩ (.int .i64 bl)).setCell ⟨w1.heap.size, 2, none⟩ (.slice bo bn bc) = W := ⟨_, rfl⟩
          rw [hW6]
          obtain ⟨hb6, hB6, kp6⟩ := HW5.out W6 hW6
          have T6 : W6.cell? ⟨gb, off + i * 3 + 1, none⟩ = some (.int .i64 (t.fr : Int)) := by rw [← hW6]; exact keeps3 (by omega) T1
          clear hW6 X0 X1 X2 T0 T1 T2 F0 F1 F2 HW5 HB5
          have hdrop : (Wk.toks s.data.toList).drop i = t :: (Wk.toks s.data.toList).drop (i + 1) := by
            obtain ⟨h, e⟩ := List.getElem?_eq_some_iff.1 Ht.out
            rw [← e]; exact List.drop_eq_getElem_cons h
          have htx : Wk.txt s.data.toList t = (s.extract t.fr t.to).data.toList := by
            unfold Wk.txt Lx.text; rw [if_neg (by rw [← Lib.size_eq]; omega), Lib.extract_data]; congr 1; omega
          cases hst : Wk.step z t.kind (s.extract t.fr t.to).data.toList with
          | none =>
            have hbr := Hbr.out
            rw [hst] at hbr
            have hbr' : bok = false := hbr
            subst hbr'
            have hr2 : (Wk.run s.data.toList ⟨1, 0, []⟩ (Wk.toks s.data.toList)).2 = t :: (Wk.toks s.data.toList).drop (i + 1) := by
              rw [Hrun.out, hdrop]; unfold Wk.run; rw [htx, hst]
            have hfin : pr = .error t.fr := by rw [Hpr.out]; unfold Wk.rparse; rw [hr2]
            have Hfin := Lib.hid hfin
            have Hb6 := Lib.hid hb6
            clear hst hbr Hbr hr2 hfin hB6 kp6 hdrop htx hb6
            go_wp2_with fail
            go_quiet (fail)
            go_wp2_with fail
            try rw [Exit.noGoto_ret]
            refine bodyPost_ret (v := .tuple #[.slice none 0 0, .int .i64 (t.fr : Int)]) (by simp [results, Try.results10, go_sem]) rfl ⟨_, _, rfl, ?_, (hb1.trans (Hb6.out.mono hb1.size)).trans (below_drewN _ _ _)⟩
            rw [Hfin.out]; exact ⟨rfl, rfl⟩
          | some z' =>
            have hbr := Hbr.out
            rw [hst] at hbr
            obtain ⟨rfl, hS5⟩ := hbr
            obtain ⟨hg', hl'⟩ := Wk.step_good i z z' t.kind _ Hgood.out Hlim.out hst
            have hS6 := hS5.keep (kp6 _ (by decide)) (kp6 _ (by decide)) (kp6 _ (by decide))
            have hab : (.int .i64 ba : Value) = .int .i64 (z'.at_ : Int) ∧ (.int .i64 bl : Value) = .int .i64 (z'.level : Int) := by
              obtain ⟨ov', cs, e, _, _⟩ := hS6
              simp only [Value.agg.injEq, Array.mk.injEq, List.cons.injEq, and_true, true_and] at e
              exact ⟨e.1, e.2.1⟩
            have hI' : rpI s w w1 (Wk.toks s.data.toList) (i + 1) z' W6 := by
              refine ⟨hg', hl', hb6, ⟨.slice bo bn bc, ?_, ?_⟩, ?_⟩
              · rw [← hab.1, ← hab.2]; exact hB6
              · rw [← hab.1, ← hab.2]; exact hS6
              · rw [Hrun.out, hdrop]; conv => lhs; unfold Wk.run
                rw [htx, hst]
            have HI' := Lib.hid hI'
            clear hst Hbr hS5 hg' hl' hS6 hab hI' hb6 hB6 kp6 hdrop htx
            go_wp2_with fail
            go_roundg gk
            case measure => omega
            case rel => exact ⟨i + 1, z', by omega, by first | rfl | simp, HI'⟩
  · clear hres
    have hex : (s.extract 0 k).data.toList = s.data.toList.take k := by simp
    have hexs : (s.extract 0 k).size ≤ 100000 := by simp; omega
    go_wp2_with fail
    refine (rtokens_any (s.extract 0 k) w1 hexs).mono ?_
    rintro e wq ⟨v2, at2, rfl, hres2, hb2⟩
    have hb12 : Below w.heap.size w wq := hb1.trans (hb2.mono hb1.size)
    obtain ⟨ht1, ht2⟩ := hpre _ hex
    unfold rtokRes at hres2
    rw [ht2, ht1] at hres2
    obtain ⟨hrd, rfl⟩ := hres2
    clear hpre ht1 ht2 hexs hex hb2 hb1
    obtain ⟨va, vc, rfl, hlm, _⟩ := reads_form hrd
    have hlen := toks_len s
    have h0 : rpI s w wq (Wk.toks s.data.toList) 0 ⟨1, 0, []⟩ (wq.alloc (.cells #[.int .i64 1, .int .i64 0, .slice none 0 0] 62)) :=
      ⟨.inl rfl, ⟨Nat.zero_le _, Nat.zero_le _, by simp⟩, (Below.refl _ wq).alloc (Nat.le_refl _) _, ⟨.slice none 0 0, Blk.new wq _ _, .slice none 0 0, [], rfl, RdT.nil _ _, rfl⟩, rfl⟩
    have H0 := Lib.hid h0
    have Hrd := Lib.hid hrd
    have Hbad := Lib.hid hbad
    obtain ⟨N, hN⟩ : ∃ N, N = (Wk.toks s.data.toList).length := ⟨_, rfl⟩
    rw [← hN]
    have HN := Lib.hid hN
    have hN6 : N ≤ 100000 := by omega
    clear h0 hrd hbad hlm hN hlen
    go_wp2_with fail
    go_loopg [7] N (fun g s7 wx => ∃ (i : Nat) (z : Wk.MS), i + g = N ∧ s7 = .int .i64 (i : Int) ∧ Hid (rpI s w wq (Wk.toks s.data.toList) i z wx))
    case atStart => exact ⟨0, ⟨1, 0, []⟩, by omega, rfl, H0⟩
    case round =>
      obtain ⟨i, z, hig, rfl, HI⟩ := hrel
      cases gk with
      | zero =>
        obtain ⟨hgood, hlim, hbx, ⟨ov, hB, hS⟩, hrun⟩ := HI.out
        have hiN : i = N := by omega
        rw [hiN, HN.out, List.drop_length] at hrun
        have hrun' : Wk.run s.data.toList ⟨1, 0, []⟩ (Wk.toks s.data.toList) = (z, []) := hrun
        obtain ⟨oa, on, oc, rfl⟩ : ∃ a n c, ov = .slice a n c := by
          obtain ⟨ov', cs, e, b, _⟩ := hS
          simp only [Value.agg.injEq, Array.mk.injEq, List.cons.injEq, and_true, true_and] at e
          obtain ⟨a, c, h⟩ := pair_form (R := 0) b
          exact ⟨a, z.out.length, c, by rw [e, h]⟩
        obtain ⟨x0, x1, x2⟩ := cells3 hB
        have hfin : pr = .error k := by
          rw [Hpr.out]; unfold Wk.rparse; rw [hrun', Hbad.out]
        have Hfin := Lib.hid hfin
        have hbw := Lib.hid (hb12.trans (hbx.mono hb12.size))
        clear hB hS hbx hrun hrun' hgood hlim HI hfin
        go_wp2_with fail
        try rw [Exit.noGoto_ret]
        refine bodyPost_ret (v := .tuple #[.slice none 0 0, .int .i64 (k : Int)]) (by simp [results, Try.results10, go_sem]) rfl ⟨_, _, rfl, ?_, hbw.out⟩
        rw [Hfin.out]
        exact ⟨rfl, rfl⟩
      | succ gk =>
        have hiN : i < N := by omega
        obtain ⟨hgood, hlim, hbx, ⟨ov, hB, hS⟩, hrun⟩ := HI.out
        obtain ⟨oa, on, oc, rfl⟩ : ∃ a n c, ov = .slice a n c := by
          obtain ⟨ov', cs, e, b, _⟩ := hS
          simp only [Value.agg.injEq, Array.mk.injEq, List.cons.injEq, and_true, true_and] at e
          obtain ⟨a, c, h⟩ := pair_form (R := 0) b
          exact ⟨a, z.out.length, c, by rw [e, h]⟩
        obtain ⟨t, ht⟩ : ∃ t, (Wk.toks s.data.toList)[i]? = some t := ⟨_, List.getElem?_eq_getElem (by rw [← HN.out]; exact hiN)⟩
        obtain ⟨hft, hts⟩ := scan_bounds s t (Wk.toks_mem (List.mem_of_getElem? ht))
        obtain ⟨q0, q1, q2⟩ := flatT_at _ _ _ ht
        obtain ⟨gb, off, hva, hgb, hcl⟩ : ∃ g off, va = some ⟨g, off, none⟩ ∧ g < wq.heap.size ∧ ∀ j x, (flatT (Wk.toks s.data.toList))[j]? = some x → wq.cell? ⟨g, off + j, none⟩ = some x := by
          rcases Hrd.out with ⟨_, h, _⟩ | ⟨g, off, cap, e, h1, h2, h3, h4⟩
          · rw [← HN.out] at h; omega
          · cases e; exact ⟨g, off, rfl, h1, h4⟩
        subst hva
        have hcap : N ≤ vc ∧ vc ≤ maxLen := by
          rcases Hrd.out with ⟨h, _⟩ | ⟨g, off, cap, e, h1, h2, h3, h4⟩
          · cases h
          · cases e; rw [HN.out]; exact ⟨h2, h3⟩
        obtain ⟨hcap1, hcap2⟩ := hcap
        unfold maxLen at hcap2
        have t0 : wr.cell? ⟨gb, off + i * 3, none⟩ = some (.int .i64 (t.kind : Int)) := (hbx.cell (p := ⟨gb, off + i * 3, none⟩) hgb).trans (hcl _ _ q0)
        have t1 : wr.cell? ⟨gb, off + i * 3 + 1, none⟩ = some (.int .i64 (t.fr : Int)) := (hbx.cell (p := ⟨gb, off + i * 3 + 1, none⟩) hgb).trans (hcl _ _ q1)
        have t2 : wr.cell? ⟨gb, off + i * 3 + 2, none⟩ = some (.int .i64 (t.to : Int)) := (hbx.cell (p := ⟨gb, off + i * 3 + 2, none⟩) hgb).trans (hcl _ _ q2)
        obtain ⟨x0, x1, x2⟩ := cells3 hB
        obtain ⟨f0, f1, f2, _, _⟩ := frozen5 hB
        have HB := Lib.hid hB
        have HS := Lib.hid hS
        have Hbx := Lib.hid hbx
        have Hrun := Lib.hid hrun
        have Hgood := Lib.hid hgood
        have Hlim := Lib.hid hlim
        have Ht := Lib.hid ht
        have hwt : wq.heap.size < wr.heap.size := hB.lt
        clear hB hS hbx hrun hgood hlim ht q0 q1 q2 hcl HI
        go_wp2_with fail
        refine heldG_plain (fun w' => w'.cell? ⟨wq.heap.size, 0, none⟩ = some (.int .i64 (z.at_ : Int)) ∧ w'.cell? ⟨wq.heap.size, 1, none⟩ = some (.int .i64 (z.level : Int)) ∧ w'.cell? ⟨wq.heap.size, 2, none⟩ = some (.slice oa on oc) ∧ w'.cell? ⟨gb, off + i * 3, none⟩ = some (.int .i64 (t.kind : Int)) ∧ w'.cell? ⟨gb, off + i * 3 + 1, none⟩ = some (.int .i64 (t.fr : Int)) ∧ w'.cell? ⟨gb, off + i * 3 + 2, none⟩ = some (.int .i64 (t.to : Int))) (fun j => j == 21 || j == 22 || j == 23) (by kernel_rfl) ?_
        refine wpAnyG_takeD (i := 0) (v := .agg #[.int .i64 (z.at_ : Int), .int .i64 (z.level : Int), .slice oa on oc]) [0, 18, 19, 20, 21, 22, 23] rfl (by kernel_rfl) (by kernel_rfl) (by kernel_rfl) (by kernel_rfl) (by kernel_rfl) (fun _ _ _ h => h) (Or.inl ⟨by rfl, ?y0⟩) ⟨x0, x1, x2, t0, t1, t2⟩ ?_
        case y0 => intro w' hS'; obtain ⟨S0, S1, S2, S3, S4, S5⟩ := hS'; clear x0 x1 x2 t0 t1 t2 f0 f1 f2; go_simp
        simp only [Act.put, List.setIfInBounds_toArray, List.set_cons_zero, List.set_cons_succ]
        refine wpAnyG_takeD (i := 1) (v := .slice (some ⟨gb, off, none⟩) N vc) [1, 3, 4, 5, 18, 19, 20, 21, 22, 23] rfl (by kernel_rfl) (by kernel_rfl) (by kernel_rfl) (by kernel_rfl) (by kernel_rfl) (fun _ _ _ h => h) (Or.inl ⟨by rfl, ?y1⟩) ⟨x0, x1, x2, t0, t1, t2⟩ ?_
        case y1 => intro w' hS'; obtain ⟨S0, S1, S2, S3, S4, S5⟩ := hS'; clear x0 x1 x2 t0 t1 t2 f0 f1 f2; go_simp
        simp only [Act.put, List.setIfInBounds_toArray, List.set_cons_zero, List.set_cons_succ]
        refine wpAnyG_takeD (i := 2) (v := .int .i64 (i : Int)) [2, 3, 4, 5, 18, 19, 20, 21, 22, 23] rfl (by kernel_rfl) (by kernel_rfl) (by kernel_rfl) (by kernel_rfl) (by kernel_rfl) (fun _ _ _ h => h) (Or.inl ⟨by rfl, ?y2⟩) ⟨x0, x1, x2, t0, t1, t2⟩ ?_
        case y2 => intro w' hS'; obtain ⟨S0, S1, S2, S3, S4, S5⟩ := hS'; clear x0 x1 x2 t0 t1 t2 f0 f1 f2; go_simp
        simp only [Act.put, List.setIfInBounds_toArray, List.set_cons_zero, List.set_cons_succ]
        refine wpAnyG_takeD (i := 3) (v := .pointer (some ⟨gb, off + i * 3, none⟩)) [3, 4, 5, 18, 19, 20, 21, 22, 23] rfl (by kernel_rfl) (by kernel_rfl) (by kernel_rfl) (by kernel_rfl) (by kernel_rfl) (fun _ _ _ h => h) (Or.inl ⟨by rfl, ?y3⟩) ⟨x0, x1, x2, t0, t1, t2⟩ ?_
        case y3 => intro w' hS'; obtain ⟨S0, S1, S2, S3, S4, S5⟩ := hS'; clear x0 x1 x2 t0 t1 t2 f0 f1 f2; go_simp
        simp only [Act.put, List.setIfInBounds_toArray, List.set_cons_zero, List.set_cons_succ]
        refine wpAnyG_takeD (i := 4) (v := .pointer (some ⟨gb, off + i * 3, none⟩)) [4, 5, 18, 19, 20, 21, 22, 23] rfl (by kernel_rfl) (by kernel_rfl) (by kernel_rfl) (by kernel_rfl) (by kernel_rfl) (fun _ _ _ h => h) (Or.inl ⟨by rfl, ?y4⟩) ⟨x0, x1, x2, t0, t1, t2⟩ ?_
        case y4 => intro w' hS'; obtain ⟨S0, S1, S2, S3, S4, S5⟩ := hS'; clear x0 x1 x2 t0 t1 t2 f0 f1 f2; go_simp
        simp only [Act.put, List.setIfInBounds_toArray, List.set_cons_zero, List.set_cons_succ]
        refine wpAnyG_takeD (i := 5) (v := .int .i64 (t.kind : Int)) [5, 18, 19, 20, 21, 22, 23] rfl (by kernel_rfl) (by kernel_rfl) (by kernel_rfl) (by kernel_rfl) (by kernel_rfl) (fun _ _ _ h => h) (Or.inl ⟨by rfl, ?y5⟩) ⟨x0, x1, x2, t0, t1, t2⟩ ?_
        case y5 => intro w' hS'; obtain ⟨S0, S1, S2, S3, S4, S5⟩ := hS'; clear x0 x1 x2 t0 t1 t2 f0 f1 f2; go_simp
        simp only [Act.put, List.setIfInBounds_toArray, List.set_cons_zero, List.set_cons_succ]
        refine wpAnyG_takeD (i := 6) (v := .string s) [6, 17, 18, 19, 20, 21, 22, 23] rfl (by kernel_rfl) (by kernel_rfl) (by kernel_rfl) (by kernel_rfl) (by kernel_rfl) (fun _ _ _ h => h) (Or.inl ⟨by rfl, ?y6⟩) ⟨x0, x1, x2, t0, t1, t2⟩ ?_
        case y6 => intro w' hS'; obtain ⟨S0, S1, S2, S3, S4, S5⟩ := hS'; clear x0 x1 x2 t0 t1 t2 f0 f1 f2; go_simp
        simp only [Act.put, List.setIfInBounds_toArray, List.set_cons_zero, List.set_cons_succ]
        refine wpAnyG_takeD (i := 7) (v := .slice (some ⟨gb, off, none⟩) N vc) [7, 9, 10, 11, 17, 18, 19, 20, 21, 22, 23] rfl (by kernel_rfl) (by kernel_rfl) (by kernel_rfl) (by kernel_rfl) (by kernel_rfl) (fun _ _ _ h => h) (Or.inl ⟨by rfl, ?y7⟩) ⟨x0, x1, x2, t0, t1, t2⟩ ?_
        case y7 => intro w' hS'; obtain ⟨S0, S1, S2, S3, S4, S5⟩ := hS'; clear x0 x1 x2 t0 t1 t2 f0 f1 f2; go_simp
        simp only [Act.put, List.setIfInBounds_toArray, List.set_cons_zero, List.set_cons_succ]
        refine wpAnyG_takeD (i := 8) (v := .int .i64 (i : Int)) [8, 9, 10, 11, 17, 18, 19, 20, 21, 22, 23] rfl (by kernel_rfl) (by kernel_rfl) (by kernel_rfl) (by kernel_rfl) (by kernel_rfl) (fun _ _ _ h => h) (Or.inl ⟨by rfl, ?y8⟩) ⟨x0, x1, x2, t0, t1, t2⟩ ?_
        case y8 => intro w' hS'; obtain ⟨S0, S1, S2, S3, S4, S5⟩ := hS'; clear x0 x1 x2 t0 t1 t2 f0 f1 f2; go_simp
        simp only [Act.put, List.setIfInBounds_toArray, List.set_cons_zero, List.set_cons_succ]
        refine wpAnyG_takeD (i := 9) (v := .pointer (some ⟨gb, off + i * 3, none⟩)) [9, 10, 11, 17, 18, 19, 20, 21, 22, 23] rfl (by kernel_rfl) (by kernel_rfl) (by kernel_rfl) (by kernel_rfl) (by kernel_rfl) (fun _ _ _ h => h) (Or.inl ⟨by rfl, ?y9⟩) ⟨x0, x1, x2, t0, t1, t2⟩ ?_
        case y9 => intro w' hS'; obtain ⟨S0, S1, S2, S3, S4, S5⟩ := hS'; clear x0 x1 x2 t0 t1 t2 f0 f1 f2; go_simp
        simp only [Act.put, List.setIfInBounds_toArray, List.set_cons_zero, List.set_cons_succ]
        refine wpAnyG_takeD (i := 10) (v := .pointer (some ⟨gb, off + i * 3 + 1, none⟩)) [10, 11, 17, 18, 19, 20, 21, 22, 23] rfl (by kernel_rfl) (by kernel_rfl) (by kernel_rfl) (by kernel_rfl) (by kernel_rfl) (fun _ _ _ h => h) (Or.inl ⟨by rfl, ?y10⟩) ⟨x0, x1, x2, t0, t1, t2⟩ ?_
        case y10 => intro w' hS'; obtain ⟨S0, S1, S2, S3, S4, S5⟩ := hS'; clear x0 x1 x2 t0 t1 t2 f0 f1 f2; go_simp
        simp only [Act.put, List.setIfInBounds_toArray, List.set_cons_zero, List.set_cons_succ]
        refine wpAnyG_takeD (i := 11) (v := .int .i64 (t.fr : Int)) [11, 17, 18, 19, 20, 21, 22, 23] rfl (by kernel_rfl) (by kernel_rfl) (by kernel_rfl) (by kernel_rfl) (by kernel_rfl) (fun _ _ _ h => h) (Or.inl ⟨by rfl, ?y11⟩) ⟨x0, x1, x2, t0, t1, t2⟩ ?_
        case y11 => intro w' hS'; obtain ⟨S0, S1, S2, S3, S4, S5⟩ := hS'; clear x0 x1 x2 t0 t1 t2 f0 f1 f2; go_simp
        simp only [Act.put, List.setIfInBounds_toArray, List.set_cons_zero, List.set_cons_succ]
        refine wpAnyG_takeD (i := 12) (v := .slice (some ⟨gb, off, none⟩) N vc) [12, 14, 15, 16, 17, 18, 19, 20, 21, 22, 23] rfl (by kernel_rfl) (by kernel_rfl) (by kernel_rfl) (by kernel_rfl) (by kernel_rfl) (fun _ _ _ h => h) (Or.inl ⟨by rfl, ?y12⟩) ⟨x0, x1, x2, t0, t1, t2⟩ ?_
        case y12 => intro w' hS'; obtain ⟨S0, S1, S2, S3, S4, S5⟩ := hS'; clear x0 x1 x2 t0 t1 t2 f0 f1 f2; go_simp
        simp only [Act.put, List.setIfInBounds_toArray, List.set_cons_zero, List.set_cons_succ]
        refine wpAnyG_takeD (i := 13) (v := .int .i64 (i : Int)) [13, 14, 15, 16, 17, 18, 19, 20, 21, 22, 23] rfl (by kernel_rfl) (by kernel_rfl) (by kernel_rfl) (by kernel_rfl) (by kernel_rfl) (fun _ _ _ h => h) (Or.inl ⟨by rfl, ?y13⟩) ⟨x0, x1, x2, t0, t1, t2⟩ ?_
        case y13 => intro w' hS'; obtain ⟨S0, S1, S2, S3, S4, S5⟩ := hS'; clear x0 x1 x2 t0 t1 t2 f0 f1 f2; go_simp
        simp only [Act.put, List.setIfInBounds_toArray, List.set_cons_zero, List.set_cons_succ]
        refine wpAnyG_takeD (i := 14) (v := .pointer (some ⟨gb, off + i * 3, none⟩)) [14, 15, 16, 17, 18, 19, 20, 21, 22, 23] rfl (by kernel_rfl) (by kernel_rfl) (by kernel_rfl) (by kernel_rfl) (by kernel_rfl) (fun _ _ _ h => h) (Or.inl ⟨by rfl, ?y14⟩) ⟨x0, x1, x2, t0, t1, t2⟩ ?_
        case y14 => intro w' hS'; obtain ⟨S0, S1, S2, S3, S4, S5⟩ := hS'; clear x0 x1 x2 t0 t1 t2 f0 f1 f2; go_simp
        simp only [Act.put, List.setIfInBounds_toArray, List.set_cons_zero, List.set_cons_succ]
        refine wpAnyG_takeD (i := 15) (v := .pointer (some ⟨gb, off + i * 3 + 2, none⟩)) [15, 16, 17, 18, 19, 20, 21, 22, 23] rfl (by kernel_rfl) (by kernel_rfl) (by kernel_rfl) (by kernel_rfl) (by kernel_rfl) (fun _ _ _ h => h) (Or.inl ⟨by rfl, ?y15⟩) ⟨x0, x1, x2, t0, t1, t2⟩ ?_
        case y15 => intro w' hS'; obtain ⟨S0, S1, S2, S3, S4, S5⟩ := hS'; clear x0 x1 x2 t0 t1 t2 f0 f1 f2; go_simp
        simp only [Act.put, List.setIfInBounds_toArray, List.set_cons_zero, List.set_cons_succ]
        refine wpAnyG_takeD (i := 16) (v := .int .i64 (t.to : Int)) [16, 17, 18, 19, 20, 21, 22, 23] rfl (by kernel_rfl) (by kernel_rfl) (by kernel_rfl) (by kernel_rfl) (by kernel_rfl) (fun _ _ _ h => h) (Or.inl ⟨by rfl, ?y16⟩) ⟨x0, x1, x2, t0, t1, t2⟩ ?_
        case y16 => intro w' hS'; obtain ⟨S0, S1, S2, S3, S4, S5⟩ := hS'; clear x0 x1 x2 t0 t1 t2 f0 f1 f2; go_simp
        simp only [Act.put, List.setIfInBounds_toArray, List.set_cons_zero, List.set_cons_succ]
        refine wpAnyG_takeD (i := 17) (v := .string (s.extract t.fr t.to)) [17, 18, 19, 20, 21, 22, 23] rfl (by kernel_rfl) (by kernel_rfl) (by kernel_rfl) (by kernel_rfl) (by kernel_rfl) (fun _ _ _ h => h) (Or.inl ⟨by rfl, ?y17⟩) ⟨x0, x1, x2, t0, t1, t2⟩ ?_
        case y17 => intro w' hS'; obtain ⟨S0, S1, S2, S3, S4, S5⟩ := hS'; clear x0 x1 x2 t0 t1 t2 f0 f1 f2; go_simp
        simp only [Act.put, List.setIfInBounds_toArray, List.set_cons_zero, List.set_cons_succ]
        refine wpAnyG_ready (rs := [18]) (by kernel_rfl) (by simp) ?_
        refine AllReadyG.cons rfl (fun K hK => ?_) AllReadyG.nil
        go_simp
        have hexs : (s.extract t.fr t.to).size ≤ 100000 := by rw [ByteArray.size_extract]; omega
        refine (step_any i (by omega) z t.kind (s.extract t.fr t.to) hexs _ _ Hgood.out Hlim.out (HS.out.call ((Below.refl _ wr).drew))).mono ?_
        rintro e w5 ⟨⟨ba, bl, bo, bn, bc, bok, rfl, hbr⟩, hb5⟩
        have hS5 := fun (v : Value) (q j : Nat) (hq : q < wr.heap.size) (hc : wr.cell? ⟨q, j, none⟩ = some v) => keepc (v := v) (i := j) hb5 hq hc
        have X0 := hS5 _ _ _ hwt x0
        have X1 := hS5 _ _ _ hwt x1
        have X2 := hS5 _ _ _ hwt x2
        have T0 := hS5 _ _ _ (by omega) t0
        have T1 := hS5 _ _ _ (by omega) t1
        have T2 := hS5 _ _ _ (by omega) t2
        have F0 : w5.frozen? ⟨wq.heap.size, 0, none⟩ = false := keepf hb5 hwt f0
        have F1 : w5.frozen? ⟨wq.heap.size, 1, none⟩ = false := keepf hb5 hwt f1
        have F2 : w5.frozen? ⟨wq.heap.size, 2, none⟩ = false := keepf hb5 hwt f2
        have HB5 := Lib.hid ((show Blk wr.drew wq.heap.size [.int .i64 (z.at_ : Int), .int .i64 (z.level : Int), .slice oa on oc] 62 from HB.out).call hb5)
        have Hb5 := Lib.hid hb5
        have Hbr := Lib.hid hbr
        have hsz5 : wr.heap.size ≤ w5.heap.size := hb5.size
        refine hK.out _ _ (fun _ => ⟨X0, X1, X2, T0, T1, T2⟩) ?_
        clear hK K x0 x1 x2 t0 t1 t2 f0 f1 f2 hS5 hb5 hbr
        refine wpAnyG_ready (rs := [19]) (by kernel_rfl) (by simp) ?_
        refine AllReadyG.cons rfl (fun K hK => ?_) AllReadyG.nil
        go_simp
        refine hK.out _ _ (fun _ => ⟨X0, X1, X2, T0, T1, T2⟩) ?_
        clear hK K
        have HW5 : Hid (∀ W, ((w5.setCell ⟨wq.heap.size, 0, none⟩ (.int .i64 ba)).setCell ⟨wq.heap.size, 1, none⟩ (.int .i64 bl)).setCell ⟨wq.heap.size, 2, none⟩ (.slice bo bn bc) = W → Below wq.heap.size wq W ∧ Blk W wq.heap.size [.int .i64 ba, .int .i64 bl, .slice bo bn bc] 62 ∧ (∀ T, 62 ≠ T → KeepT T w5 W)) := by
          rintro W rfl
          obtain ⟨kp, _, bb⟩ := three HB5.out (.int .i64 ba) (.int .i64 bl) (.slice bo bn bc)
          exact ⟨below3 ((Hbx.out.drew).trans (Hb5.out.mono (by show wq.heap.size ≤ wr.heap.size; omega))) (Nat.le_refl _) _ _ _, bb, kp⟩
        refine wpAnyG_ready (rs := [20, 21]) (by kernel_rfl) (by simp) ?_
        refine AllReadyG.cons rfl (fun K hK => ?_) (AllReadyG.cons rfl (fun K hK => ?_) AllReadyG.nil)
        · go_simp
          refine hK.out _ _ (fun _ => ⟨X0, X1, X2, T0, T1, T2⟩) ?_
          clear hK K
          refine wpAnyG_ready (rs := [21, 22]) (by kernel_rfl) (by simp) ?_
          refine AllReadyG.cons rfl (fun K hK => ?_) (AllReadyG.cons rfl (fun K hK => ?_) AllReadyG.nil)
          · go_simp
            refine hK.out _ _ (fun h => by cases h) ?_
            clear hK K
            refine wpAnyG_ready (rs := [22]) (by kernel_rfl) (by simp) ?_
            refine AllReadyG.cons rfl (fun K hK => ?_) AllReadyG.nil
            go_simp
            refine hK.out _ _ (fun h => by cases h) ?_
            clear hK K
            refine wpAnyG_ready (rs := [23]) (by kernel_rfl) (by simp) ?_
            refine AllReadyG.cons rfl (fun K hK => ?_) AllReadyG.nil
            go_simp
            refine hK.out _ _ (fun h => by cases h) ?_
            clear hK K
            refine wpAnyG_done (by kernel_rfl) ?_ _
            obtain ⟨W6, hW6⟩ : ∃ W, ((w5.setCell ⟨wq.heap.size, 0, none⟩ (.int .i64 ba)).setCell ⟨wq.heap.size, 1, none⟩ (.int .i64 bl)).setCell ⟨wq.heap.size, 2, none⟩ (.slice bo bn bc) = W := ⟨_, rfl⟩
            rw [hW6]
            obtain ⟨hb6, hB6, kp6⟩ := HW5.out W6 hW6
            have T6 : W6.cell? ⟨gb, off + i * 3 + 1, none⟩ = some (.int .i64 (t.fr : Int)) := by rw [← hW6]; exact keeps3 (by omega) T1
            clear hW6 X0 X1 X2 T0 T1 T2 F0 F1 F2 HW5 HB5
            have hdrop : (Wk.toks s.data.toList).drop i = t :: (Wk.toks s.data.toList).drop (i + 1) := by
              obtain ⟨h, e⟩ := List.getElem?_eq_some_iff.1 Ht.out
              rw [← e]; exact List.drop_eq_getElem_cons h
            have htx : Wk.txt s.data.toList t = (s.extract t.fr t.to).data.toList := by
              unfold Wk.txt Lx.text; rw [if_neg (by rw [← Lib.size_eq]; omega), Lib.extract_data]; congr 1; omega
            cases hst : Wk.step z t.kind (s.extract t.fr t.to).data.toList with
            | none =>
              have hbr := Hbr.out
              rw [hst] at hbr
              have hbr' : bok = false := hbr
              subst hbr'
              have hr2 : (Wk.run s.data.toList ⟨1, 0, []⟩ (Wk.toks s.data.toList)).2 = t :: (Wk.toks s.data.toList).drop (i + 1) := by
                rw [Hrun.out, hdrop]; unfold Wk.run; rw [htx, hst]
              have hfin : pr = .error t.fr := by rw [Hpr.out]; unfold Wk.rparse; rw [hr2]
              have Hfin := Lib.hid hfin
              have Hb6 := Lib.hid hb6
              clear hst hbr Hbr hr2 hfin hB6 kp6 hdrop htx hb6
              go_wp2_with fail
              go_quiet (fail)
              go_wp2_with fail
              try rw [Exit.noGoto_ret]
              refine bodyPost_ret (v := .tuple #[.slice none 0 0, .int .i64 (t.fr : Int)]) (by simp [results, Try.results10, go_sem]) rfl ⟨_, _, rfl, ?_, (hb12.trans (Hb6.out.mono hb12.size)).trans (below_drewN _ _ _)⟩
              rw [Hfin.out]; exact ⟨rfl, rfl⟩
            | some z' =>
              have hbr := Hbr.out
              rw [hst] at hbr
              obtain ⟨rfl, hS5⟩ := hbr
              obtain ⟨hg', hl'⟩ := Wk.step_good i z z' t.kind _ Hgood.out Hlim.out hst
              have hS6 := hS5.keep (kp6 _ (by decide)) (kp6 _ (by decide)) (kp6 _ (by decide))
              have hab : (.int .i64 ba : Value) = .int .i64 (z'.at_ : Int) ∧ (.int .i64 bl : Value) = .int .i64 (z'.level : Int) := by
                obtain ⟨ov', cs, e, _, _⟩ := hS6
                simp only [Value.agg.injEq, Array.mk.injEq, List.cons.injEq, and_true, true_and] at e
                exact ⟨e.1, e.2.1⟩
              have hI' : rpI s w wq (Wk.toks s.data.toList) (i + 1) z' W6 := by
                refine ⟨hg', hl', hb6, ⟨.slice bo bn bc, ?_, ?_⟩, ?_⟩
                · rw [← hab.1, ← hab.2]; exact hB6
                · rw [← hab.1, ← hab.2]; exact hS6
                · rw [Hrun.out, hdrop]; conv => lhs; unfold Wk.run
                  rw [htx, hst]
              have HI' := Lib.hid hI'
              clear hst Hbr hS5 hg' hl' hS6 hab hI' hb6 hB6 kp6 hdrop htx
              go_wp2_with fail
              go_roundg gk
              case measure => omega
              case rel => exact ⟨i + 1, z', by omega, by first | rfl | simp, HI'⟩
          · go_simp
            refine hK.out _ _ (fun h => by cases h) ?_
            clear hK K
            refine wpAnyG_ready (rs := [21]) (by kernel_rfl) (by simp) ?_
            refine AllReadyG.cons rfl (fun K hK => ?_) AllReadyG.nil
            go_simp
            refine hK.out _ _ (fun h => by cases h) ?_
            clear hK K
            refine wpAnyG_ready (rs := [23]) (by kernel_rfl) (by simp) ?_
            refine AllReadyG.cons rfl (fun K hK => ?_) AllReadyG.nil
            go_simp
            refine hK.out _ _ (fun h => by cases h) ?_
            clear hK K
            refine wpAnyG_done (by kernel_rfl) ?_ _
            obtain ⟨W6, hW6⟩ : ∃ W, ((w5.setCell ⟨wq.heap.size, 0, none⟩ (.int .i64 ba)).setCell ⟨wq.heap.size, 1, none⟩ (.int .i64 bl)).setCell ⟨wq.heap.size, 2, none⟩ (.slice bo bn bc) = W := ⟨_, rfl⟩
            rw [hW6]
            obtain ⟨hb6, hB6, kp6⟩ := HW5.out W6 hW6
            have T6 : W6.cell? ⟨gb, off + i * 3 + 1, none⟩ = some (.int .i64 (t.fr : Int)) := by rw [← hW6]; exact keeps3 (by omega) T1
            clear hW6 X0 X1 X2 T0 T1 T2 F0 F1 F2 HW5 HB5
            have hdrop : (Wk.toks s.data.toList).drop i = t :: (Wk.toks s.data.toList).drop (i + 1) := by
              obtain ⟨h, e⟩ := List.getElem?_eq_some_iff.1 Ht.out
              rw [← e]; exact List.drop_eq_getElem_cons h
            have htx : Wk.txt s.data.toList t = (s.extract t.fr t.to).data.toList := by
              unfold Wk.txt Lx.text; rw [if_neg (by rw [← Lib.size_eq]; omega), Lib.extract_data]; congr 1; omega
            cases hst : Wk.step z t.kind (s.extract t.fr t.to).data.toList with
            | none =>
              have hbr := Hbr.out
              rw [hst] at hbr
              have hbr' : bok = false := hbr
              subst hbr'
              have hr2 : (Wk.run s.data.toList ⟨1, 0, []⟩ (Wk.toks s.data.toList)).2 = t :: (Wk.toks s.data.toList).drop (i + 1) := by
                rw [Hrun.out, hdrop]; unfold Wk.run; rw [htx, hst]
              have hfin : pr = .error t.fr := by rw [Hpr.out]; unfold Wk.rparse; rw [hr2]
              have Hfin := Lib.hid hfin
              have Hb6 := Lib.hid hb6
              clear hst hbr Hbr hr2 hfin hB6 kp6 hdrop htx hb6
              go_wp2_with fail
              go_quiet (fail)
              go_wp2_with fail
              try rw [Exit.noGoto_ret]
              refine bodyPost_ret (v := .tuple #[.slice none 0 0, .int .i64 (t.fr : Int)]) (by simp [results, Try.results10, go_sem]) rfl ⟨_, _, rfl, ?_, (hb12.trans (Hb6.out.mono hb12.size)).trans (below_drewN _ _ _)⟩
              rw [Hfin.out]; exact ⟨rfl, rfl⟩
            | some z' =>
              have hbr := Hbr.out
              rw [hst] at hbr
              obtain ⟨rfl, hS5⟩ := hbr
              obtain ⟨hg', hl'⟩ := Wk.step_good i z z' t.kind _ Hgood.out Hlim.out hst
              have hS6 := hS5.keep (kp6 _ (by decide)) (kp6 _ (by decide)) (kp6 _ (by decide))
              have hab : (.int .i64 ba : Value) = .int .i64 (z'.at_ : Int) ∧ (.int .i64 bl : Value) = .int .i64 (z'.level : Int) := by
                obtain ⟨ov', cs, e, _, _⟩ := hS6
                simp only [Value.agg.injEq, Array.mk.injEq, List.cons.injEq, and_true, true_and] at e
                exact ⟨e.1, e.2.1⟩
              have hI' : rpI s w wq (Wk.toks s.data.toList) (i + 1) z' W6 := by
                refine ⟨hg', hl', hb6, ⟨.slice bo bn bc, ?_, ?_⟩, ?_⟩
                · rw [← hab.1, ← hab.2]; exact hB6
                · rw [← hab.1, ← hab.2]; exact hS6
                · rw [Hrun.out, hdrop]; conv => lhs; unfold Wk.run
                  rw [htx, hst]
              have HI' := Lib.hid hI'
              clear hst Hbr hS5 hg' hl' hS6 hab hI' hb6 hB6 kp6 hdrop htx
              go_wp2_with fail
              go_roundg gk
              case measure => omega
              case rel => exact ⟨i + 1, z', by omega, by first | rfl | simp, HI'⟩
        · go_simp
          refine hK.out _ _ (fun h => by cases h) ?_
          clear hK K
          refine wpAnyG_ready (rs := [20]) (by kernel_rfl) (by simp) ?_
          refine AllReadyG.cons rfl (fun K hK => ?_) AllReadyG.nil
          go_simp
          refine hK.out _ _ (fun _ => ⟨X0, X1, X2, T0, T1, T2⟩) ?_
          clear hK K
          refine wpAnyG_ready (rs := [22]) (by kernel_rfl) (by simp) ?_
          refine AllReadyG.cons rfl (fun K hK => ?_) AllReadyG.nil
          go_simp
          refine hK.out _ _ (fun h => by cases h) ?_
          clear hK K
          refine wpAnyG_ready (rs := [23]) (by kernel_rfl) (by simp) ?_
          refine AllReadyG.cons rfl (fun K hK => ?_) AllReadyG.nil
          go_simp
          refine hK.out _ _ (fun h => by cases h) ?_
          clear hK K
          refine wpAnyG_done (by kernel_rfl) ?_ _
          obtain ⟨W6, hW6⟩ : ∃ W, ((w5.setCell ⟨wq.heap.size, 0, none⟩ (.int .i64 ba)).setCell ⟨wq.heap.size, 1, none⟩ (.int .i64 bl)).setCell ⟨wq.heap.size, 2, none⟩ (.slice bo bn bc) = W := ⟨_, rfl⟩
          rw [hW6]
          obtain ⟨hb6, hB6, kp6⟩ := HW5.out W6 hW6
          have T6 : W6.cell? ⟨gb, off + i * 3 + 1, none⟩ = some (.int .i64 (t.fr : Int)) := by rw [← hW6]; exact keeps3 (by omega) T1
          clear hW6 X0 X1 X2 T0 T1 T2 F0 F1 F2 HW5 HB5
          have hdrop : (Wk.toks s.data.toList).drop i = t :: (Wk.toks s.data.toList).drop (i + 1) := by
            obtain ⟨h, e⟩ := List.getElem?_eq_some_iff.1 Ht.out
            rw [← e]; exact List.drop_eq_getElem_cons h
          have htx : Wk.txt s.data.toList t = (s.extract t.fr t.to).data.toList := by
            unfold Wk.txt Lx.text; rw [if_neg (by rw [← Lib.size_eq]; omega), Lib.extract_data]; congr 1; omega
          cases hst : Wk.step z t.kind (s.extract t.fr t.to).data.toList with
          | none =>
            have hbr := Hbr.out
            rw [hst] at hbr
            have hbr' : bok = false := hbr
            subst hbr'
            have hr2 : (Wk.run s.data.toList ⟨1, 0, []⟩ (Wk.toks s.data.toList)).2 = t :: (Wk.toks s.data.toList).drop (i + 1) := by
              rw [Hrun.out, hdrop]; unfold Wk.run; rw [htx, hst]
            have hfin : pr = .error t.fr := by rw [Hpr.out]; unfold Wk.rparse; rw [hr2]
            have Hfin := Lib.hid hfin
            have Hb6 := Lib.hid hb6
            clear hst hbr Hbr hr2 hfin hB6 kp6 hdrop htx hb6
            go_wp2_with fail
            go_quiet (fail)
            go_wp2_with fail
            try rw [Exit.noGoto_ret]
            refine bodyPost_ret (v := .tuple #[.slice none 0 0, .int .i64 (t.fr : Int)]) (by simp [results, Try.results10, go_sem]) rfl ⟨_, _, rfl, ?_, (hb12.trans (Hb6.out.mono hb12.size)).trans (below_drewN _ _ _)⟩
            rw [Hfin.out]; exact ⟨rfl, rfl⟩
          | some z' =>
            have hbr := Hbr.out
            rw [hst] at hbr
            obtain ⟨rfl, hS5⟩ := hbr
            obtain ⟨hg', hl'⟩ := Wk.step_good i z z' t.kind _ Hgood.out Hlim.out hst
            have hS6 := hS5.keep (kp6 _ (by decide)) (kp6 _ (by decide)) (kp6 _ (by decide))
            have hab : (.int .i64 ba : Value) = .int .i64 (z'.at_ : Int) ∧ (.int .i64 bl : Value) = .int .i64 (z'.level : Int) := by
              obtain ⟨ov', cs, e, _, _⟩ := hS6
              simp only [Value.agg.injEq, Array.mk.injEq, List.cons.injEq, and_true, true_and] at e
              exact ⟨e.1, e.2.1⟩
            have hI' : rpI s w wq (Wk.toks s.data.toList) (i + 1) z' W6 := by
              refine ⟨hg', hl', hb6, ⟨.slice bo bn bc, ?_, ?_⟩, ?_⟩
              · rw [← hab.1, ← hab.2]; exact hB6
              · rw [← hab.1, ← hab.2]; exact hS6
              · rw [Hrun.out, hdrop]; conv => lhs; unfold Wk.run
                rw [htx, hst]
            have HI' := Lib.hid hI'
            clear hst Hbr hS5 hg' hl' hS6 hab hI' hb6 hB6 kp6 hdrop htx
            go_wp2_with fail
            go_roundg gk
            case measure => omega
            case rel => exact ⟨i + 1, z', by omega, by first | rfl | simp, HI'⟩
end Go.Proofs.Ytegkdkilbnighaa
