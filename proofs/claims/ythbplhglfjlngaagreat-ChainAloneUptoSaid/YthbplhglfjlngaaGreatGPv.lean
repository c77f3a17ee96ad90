/- Parts of the proof. -/
import Derived.Test.YthbplhglfjlngaaGreatGPu
import Derived.Test.YthbplhglfjlngaaGreatGPr
import Derived.Test.YthbplhglfjlngaaGreatGPl
import Derived.Test.YthbplhglfjlngaaGreatGPm
set_option linter.unusedVariables false
set_option linter.unusedSimpArgs false
set_option maxRecDepth 100000
namespace Go.Proofs.YthbplhglfjlngaaGreat
open Go.RowKit Go.Rg Go.Wd Go.Mg
attribute [local go_sem] Oper.semAt_some
theorem ref_any (x y : Int) (w : World) :
  Calls Tryz.prog 10 #[pV x y] w fun e w' => e = .returned (.agg #[.int .i64 x, .int .i64 y]) ∧ Below w.heap.size w w' := by
 obtain ⟨W0, hW0⟩ : ∃ W0, [.cells #[.int .i64 x, .int .i64 y] 23, .cells #[.int .i64 0, .int .i64 0] 37].foldl World.alloc w = W0 := ⟨_, rfl⟩
 have B0 : Blk W0 w.heap.size [.int .i64 x, .int .i64 y] 23 := Blk.allocs _ hW0 0 rfl
 have B1 : Blk W0 (w.heap.size + 1) [.int .i64 0, .int .i64 0] 37 := Blk.allocs _ hW0 1 rfl
 have HB := aB hW0
 have hsz : W0.heap.size = w.heap.size + 2 := hW0 ▸ allocs_size _ w
 simp only [List.foldl_cons, List.foldl_nil] at hW0
 obtain ⟨x0, x1⟩ := Rg.c2 B0
 obtain ⟨y0, y1⟩ := Rg.c2 B1
 have f0 := B1.frozen 0
 have f1 := B1.frozen 1
 go_enter Tryz.func10, Tryz.ntmps10
 go_upto_region 1 with (fail)
 (try rw [hW0])
 clear hW0
 go_wp2_with fail
 have hC : Blk ((W0.setCell ⟨w.heap.size + 1, 0, none⟩ (.int .i64 x)).setCell ⟨w.heap.size + 1, 1, none⟩ (.int .i64 y)) (w.heap.size + 1) [.int .i64 x, .int .i64 y] 37 := (B1.set 0 _).set 1 _
 obtain ⟨s0, s1⟩ := c2 hC
 refine bodyPost_ret (v := .agg #[.int .i64 x, .int .i64 y]) (by simp [results, Tryz.results10, go_sem, s0, s1]) rfl ⟨rfl, ?_⟩
 exact (HB.setCell (p := ⟨w.heap.size + 1, 0, none⟩) (show w.heap.size ≤ w.heap.size + 1 from Nat.le_succ _) _).setCell (p := ⟨w.heap.size + 1, 1, none⟩) (show w.heap.size ≤ w.heap.size + 1 from Nat.le_succ _) _
set_option maxHeartbeats 1048576 in
theorem right3_any (x y : Int) (b : Bool) (h : ptB x y = b) (w : World) :
  Calls Tryz.prog 9 #[.agg #[.int .i64 x, .int .i64 y]] w fun e w' => e = .returned (.bool b) ∧ Below w.heap.size w w' := by
 have Hb : Hid (b = true ↔ (-2199023255552 ≤ x ∧ x ≤ 2199023255552) ∧ -2199023255552 ≤ y ∧ y ≤ 2199023255552) := hH (by rw [← h]; unfold ptB; rw [Bool.and_eq_true, inB_iff, inB_iff])
 clear h
 obtain ⟨W0, hW0⟩ : ∃ W0, w.alloc (.cells #[.int .i64 x, .int .i64 y] 37) = W0 := ⟨_, rfl⟩
 have B0 : Blk W0 w.heap.size [.int .i64 x, .int .i64 y] 37 := hW0 ▸ Blk.new _ _ _
 have HB : Below w.heap.size w W0 := hW0 ▸ (Below.refl _ w).alloc (Nat.le_refl _) _
 obtain ⟨q0, q1⟩ := Rg.c2 B0
 go_enter Tryz.func9, Tryz.ntmps9
 go_upto_region 1 with (fail)
 (try rw [hW0])
 clear hW0
 by_cases h0 : -2199023255552 ≤ x
 ·by_cases h1 : x ≤ 2199023255552
  ·by_cases h2 : -2199023255552 ≤ y
   ·by_cases h3 : y ≤ 2199023255552
    ·have hb : b = true := Hb.out.2 ⟨⟨h0, h1⟩, h2, h3⟩
     subst hb
     clear Hb
     go_wp2_with fail
     go_ret
     exact ⟨rfl, HB⟩
    ·have hb : b = false := Bool.eq_false_iff.2 (fun h => h3 (by have h := Hb.out.1 h; exact h.2.2))
     subst hb
     clear Hb
     go_wp2_with fail
     go_ret
     exact ⟨rfl, HB⟩
   ·have hb : b = false := Bool.eq_false_iff.2 (fun h => h2 (by have h := Hb.out.1 h; exact h.2.1))
    subst hb
    clear Hb
    go_wp2_with fail
    go_ret
    exact ⟨rfl, HB⟩
  ·have hb : b = false := Bool.eq_false_iff.2 (fun h => h1 (by have h := Hb.out.1 h; exact h.1.2))
   subst hb
   clear Hb
   go_wp2_with fail
   go_ret
   exact ⟨rfl, HB⟩
 ·have hb : b = false := Bool.eq_false_iff.2 (fun h => h0 (by have h := Hb.out.1 h; exact h.1.1))
  subst hb
  clear Hb
  go_wp2_with fail
  go_ret
  exact ⟨rfl, HB⟩
set_option maxHeartbeats 1048576 in
theorem ahead3_any (p q : Int × Int) (b : Bool) (h : (decide (p.1 < q.1) || (decide (p.1 = q.1) && decide (p.2 < q.2))) = b) (w : World) :
  Calls Tryz.prog 32 #[.agg #[.int .i64 p.1, .int .i64 p.2], .agg #[.int .i64 q.1, .int .i64 q.2]] w fun e w' => e = .returned (.bool b) ∧ Below w.heap.size w w' := by
 obtain ⟨x, y⟩ := p
 obtain ⟨u, v⟩ := q
 have Hb : Hid (b = true ↔ x < u ∨ (x = u ∧ y < v)) := hH (by rw [← h]; simp)
 clear h
 obtain ⟨W0, hW0⟩ : ∃ W0, [.cells #[.int .i64 x, .int .i64 y] 37, .cells #[.int .i64 u, .int .i64 v] 37].foldl World.alloc w = W0 := ⟨_, rfl⟩
 have B0 : Blk W0 w.heap.size [.int .i64 x, .int .i64 y] 37 := Blk.allocs _ hW0 0 rfl
 have B1 : Blk W0 (w.heap.size + 1) [.int .i64 u, .int .i64 v] 37 := Blk.allocs _ hW0 1 rfl
 have HB := aB hW0
 simp only [List.foldl_cons, List.foldl_nil] at hW0
 obtain ⟨q0, q1⟩ := Rg.c2 B0
 obtain ⟨r0, r1⟩ := Rg.c2 B1
 go_enter Tryz.func32, Tryz.ntmps32
 go_upto_region 1 with (fail)
 (try rw [hW0])
 clear hW0
 by_cases h0 : x < u
 ·have hb : b = true := Hb.out.2 (.inl h0)
  subst hb
  clear Hb
  go_wp2_with fail
  go_ret
  exact ⟨rfl, HB⟩
 ·by_cases h1 : x = u
  ·by_cases h2 : y < v
   ·have hb : b = true := Hb.out.2 (.inr ⟨h1, h2⟩)
    subst hb
    clear Hb
    go_wp2_with fail
    go_ret
    exact ⟨rfl, HB⟩
   ·have hb : b = false := Bool.eq_false_iff.2 (fun h => by rcases Hb.out.1 h with k | ⟨_, k⟩ <;> contradiction)
    subst hb
    clear Hb
    go_wp2_with fail
    go_ret
    exact ⟨rfl, HB⟩
  ·have hb : b = false := Bool.eq_false_iff.2 (fun h => by rcases Hb.out.1 h with k | ⟨k, _⟩ <;> contradiction)
   have h2 : (x == u) = false := by simpa using h1
   subst hb
   clear Hb
   go_wp2_with fail
   go_ret
   exact ⟨rfl, HB⟩
def ltPb (p q : Int × Int) : Bool := decide (p.1 < q.1) || (decide (p.1 = q.1) && decide (p.2 < q.2))
theorem ltPb_iff {p q : Int × Int} : ltPb p q = true ↔ LtP p q := by unfold ltPb LtP; simp
def insP : List (Int × Int) → (Int × Int) → List (Int × Int)
 | [], p => [p]
 | q :: r, p => if ltPb q p then q :: insP r p else if q = p then q :: r else p :: q :: r
def srtD (ps : List (Int × Int)) : List (Int × Int) := ps.foldl insP []
theorem srtD_snoc (ps : List (Int × Int)) (p : Int × Int) : srtD (ps ++ [p]) = insP (srtD ps) p := by unfold srtD; rw [List.foldl_append]; rfl
theorem insP_mem {p q : Int × Int} : ∀ {l : List (Int × Int)}, q ∈ insP l p ↔ q = p ∨ q ∈ l
 | [] => by simp [insP]
 | e :: r => by
  rw [insP]; split
  ·rw [List.mem_cons, insP_mem, List.mem_cons]; exact ⟨fun h => by rcases h with h | h | h <;> simp [h], fun h => by rcases h with h | h | h <;> simp [h]⟩
  ·split
   ·rename_i h; subst h; simp
   ·simp
theorem insP_sorted {p : Int × Int} : ∀ {l : List (Int × Int)}, l.Pairwise LtP → (insP l p).Pairwise LtP
 | [], _ => List.pairwise_singleton _ _
 | e :: r, h => by
  obtain ⟨h1, h2⟩ := List.pairwise_cons.1 h
  rw [insP]; split
  ·rename_i k
   refine List.Pairwise.cons (fun u hu => ?_) (insP_sorted h2)
   rcases insP_mem.1 hu with rfl | hu
   ·exact ltPb_iff.1 k
   ·exact h1 u hu
  ·split
   ·exact h
   ·rename_i k1 k2
    rw [ltPb_iff] at k1
    have hpe : LtP p e := by
     unfold LtP at *
     have : ¬ (e.1 = p.1 ∧ e.2 = p.2) := fun h => k2 (Prod.ext h.1 h.2)
     omega
    refine List.Pairwise.cons (fun u hu => ?_) h
    rcases List.mem_cons.1 hu with rfl | hu
    ·exact hpe
    ·have := h1 u hu
     unfold LtP at *; omega
theorem srtD_law (ps : List (Int × Int)) : (srtD ps).Pairwise LtP ∧ ∀ q, q ∈ srtD ps ↔ q ∈ ps := by
 have key : ∀ (ps l : List (Int × Int)), l.Pairwise LtP → (ps.foldl insP l).Pairwise LtP ∧ ∀ q, q ∈ ps.foldl insP l ↔ q ∈ l ∨ q ∈ ps := by
  intro ps
  induction ps with
  | nil => intro l h; exact ⟨h, fun q => by simp⟩
  | cons p ps ih =>
   intro l h
   obtain ⟨h1, h2⟩ := ih (insP l p) (insP_sorted h)
   refine ⟨h1, fun q => ?_⟩
   rw [List.foldl_cons, h2 q, insP_mem, List.mem_cons]
   exact ⟨fun h => by rcases h with (h | h) | h <;> simp [h], fun h => by rcases h with h | h | h <;> simp [h]⟩
 obtain ⟨h1, h2⟩ := key ps [] List.Pairwise.nil
 exact ⟨h1, fun q => by rw [show srtD ps = ps.foldl insP [] from rfl, h2 q]; simp⟩
theorem srtD_len (ps : List (Int × Int)) : (srtD ps).length ≤ ps.length := by
 have h1 : ∀ (l : List (Int × Int)) (p : Int × Int), (insP l p).length ≤ l.length + 1 := by
  intro l p
  induction l with
  | nil => simp [insP]
  | cons e r ih => rw [insP]; split <;> (try split) <;> simp <;> omega
 have key : ∀ (ps l : List (Int × Int)), (ps.foldl insP l).length ≤ l.length + ps.length := by
  intro ps
  induction ps with
  | nil => intro l; simp
  | cons p ps ih => intro l; have a := ih (insP l p); have b := h1 l p; simp only [List.foldl_cons, List.length_cons]; omega
 have := key ps []
 simpa [srtD] using this
theorem insP_at (p : Int × Int) : ∀ (l : List (Int × Int)) (k : Nat), (∀ j x, j < k → l[j]? = some x → ltPb x p = true) → (∀ x, l[k]? = some x → ltPb x p = false) → k ≤ l.length →
  insP l p = match l[k]? with | some x => if x = p then l else l.take k ++ p :: l.drop k | none => l.take k ++ p :: l.drop k
 | [], 0, _, _, _ => rfl
 | x :: l, 0, _, h2, _ => by
  have := h2 x rfl
  rw [insP, if_neg (by rw [this]; decide)]
  simp only [List.getElem?_cons_zero, List.take_zero, List.nil_append, List.drop_zero]
 | x :: l, k + 1, h1, h2, h3 => by
  have h0 := h1 0 x (by omega) rfl
  rw [insP, if_pos h0, insP_at p l k (fun j y hj hy => h1 (j + 1) y (by omega) hy) (fun y hy => h2 y hy) (by simpa using h3)]
  simp only [List.getElem?_cons_succ, List.take_succ_cons, List.cons_append, List.drop_succ_cons]
  split
  ·split <;> rfl
  ·rfl
set_option maxHeartbeats 4000000 in
theorem sorted16_any (v : Value) (ps : List (Int × Int)) (w : World) (hv : SlC w v 2 (ptE ps)) (hlen : ps.length ≤ 1048576) :
  Calls Tryz.prog 16 #[v] w fun e w' => ∃ v', e = .returned v' ∧ SlC w' v' 2 (ptE (srtD ps)) ∧ Below w.heap.size w w' := by
 obtain ⟨ap, cp, e, hn, hcm⟩ := hv.form
 subst e
 obtain ⟨n, Hn⟩ : ∃ n, Hid (n = (ptE ps).length) := ⟨_, hH rfl⟩
 have Hnl : Hid (n = ps.length) := hH (by rw [Hn.out, ptE_len])
 rw [← Hn.out] at hv hn ⊢
 have hnb : n ≤ 1048576 := by rw [Hnl.out]; exact hlen
 unfold maxLen at hcm
 have HV := hH hv
 clear hv hlen
 go_enter Tryz.func16, Tryz.ntmps16
 go_wp2_with fail
 go_loopg [3, 4] n (fun q s3 s4 wx => ∃ (i : Nat) (out : List (Int × Int)), i + q = n ∧ s4 = .int .i64 (i : Int) ∧ Hid (out = srtD (ps.take i)) ∧ Hid (SlC wx s3 2 (ptE out)) ∧ Hid (Below w.heap.size w wx))
 case atStart => exact ⟨0, [], by omega, by first | rfl | simp, hH rfl, hH (SlC.nil _ _), hH (Below.refl _ _)⟩
 case round =>
  obtain ⟨i, out, hq, rfl, Hout, HS, HBr⟩ := hrel
  cases gk with
  | zero =>
   have t0 : ¬ (i : Int) < (n : Int) := by omega
   have HF : Hid (out = srtD ps) := hH (by rw [Hout.out, List.take_of_length_le (by rw [← Hnl.out]; omega)])
   rw [HF.out] at HS
   clear Hout HF
   go_wp2_with fail
   go_ret
   exact ⟨_, rfl, HS.out, HBr.out⟩
  | succ q =>
   have t0 : (i : Int) < (n : Int) := by omega
   obtain ⟨p, hp0⟩ : ∃ p, ps[i]? = some p := ⟨_, List.getElem?_eq_getElem (by rw [← Hnl.out]; omega)⟩
   obtain ⟨gp, op, rfl, hgp, hrp, _⟩ := HV.out.elem (ptE_at hp0)
   have HRp : Hid (∀ X, Below w.heap.size w X → X.rangeAt gp (op + i * 2) [.int .i64 p.1, .int .i64 p.2]) := hH (fun X hX => rangeAt_below hrp hX hgp)
   have HNx : Hid (insP out p = srtD (ps.take (i + 1))) := hH (by rw [List.take_add_one, hp0, Hout.out]; exact (srtD_snoc _ _).symm)
   have hob : out.length ≤ 1048576 := by
    rw [Hout.out]
    have := srtD_len (ps.take i)
    rw [List.length_take] at this
    omega
   clear hrp hp0 hgp Hout
   obtain ⟨so, sc, e, hms, hcs⟩ := HS.out.form
   subst e
   obtain ⟨m, Hm⟩ : ∃ m, Hid (m = out.length) := ⟨_, hH rfl⟩
   rw [ptE_len, ← Hm.out] at hms HS ⊢
   have hmb : m ≤ 1048576 := by rw [Hm.out]; exact hob
   unfold maxLen at hcs
   clear hob
   go_upto_block 2 with (fail)
   obtain ⟨wq0, hwq0⟩ : ∃ X, X = wr := ⟨_, rfl⟩
   go_cut [5] (fun s5 wx => ∃ k : Nat, k ≤ m ∧ s5 = .int .i64 (k : Int) ∧ Hid (∀ j e, j < k → out[j]? = some e → ltPb e p = true) ∧ Hid (∀ e, out[k]? = some e → ltPb e p = false) ∧ Hid (SlC wx (.slice so m sc) 2 (ptE out)) ∧ Hid (Below w.heap.size w wx))
   case first =>
    go_wp2_with fail
    go_loopg [5] m (fun q2 s5 wx => ∃ k : Nat, k + q2 = m ∧ s5 = .int .i64 (k : Int) ∧ Hid (∀ j e, j < k → out[j]? = some e → ltPb e p = true) ∧ Hid (SlC wx (.slice so m sc) 2 (ptE out)) ∧ Hid (Below w.heap.size w wx))
    case atStart => exact ⟨0, by omega, by first | rfl | simp, hH (fun j e h => by omega), HS, HBr⟩
    case round =>
     clear HS HBr
     obtain ⟨k, hq2, rfl, Hlow, HS, HBr⟩ := hrel
     have HB0r := HBr.out
     have HB : Below wr.heap.size wr wr := Below.refl _ _
     cases gk with
     | zero =>
      have t1 : ¬ (k : Int) < (m : Int) := by omega
      go_upto_region 6 with (fail)
      go_upto_region 6 with (fail)
      refine cG ?_
      refine cN ?_
      refine cW ?_ ?_ ?_
      refine cW ?_ ?_ ?_
      refine cW ?_ ?_ ?_
      refine cX ?_ ?_ (by intro wz hSw; have nn := t1; go_simp; all_goals with_reducible rfl) ?_
      refine cW ?_ ?_ ?_
      refine cS ?_ ?_
      refine cS ?_ ?_
      refine cS ?_ ?_
      refine cS ?_ ?_
      refine cS ?_ ?_
      refine cS ?_ ?_
      refine cS ?_ ?_
      refine cS ?_ ?_
      refine cS ?_ ?_
      refine cW ?_ ?_ ?_
      refine calm_end ?_
      intro w1 hS
      have hS := sO hS
      have hz1 : wr.heap.size ≤ w1.heap.size := hS.size
      have HB := gS HB hS
      clear hS
      have F1 := hH (HS.out.call HB)
      have F2 : Hid (Below w.heap.size w w1) := hH (HBr.out.trans (HB.mono HBr.out.size))
      clear HB HB0r
      go_wp2_with fail
      go_meet
      case rel => exact ⟨k, by omega, rfl, Hlow, hH (fun x hx => by have := (List.getElem?_eq_some_iff.1 hx).1; have := Hm.out; omega), F1, F2⟩
     | succ q2 =>
      have t1 : (k : Int) < (m : Int) := by omega
      obtain ⟨et, Het0⟩ : ∃ et, out[k]? = some et := ⟨_, List.getElem?_eq_getElem (by rw [← Hm.out]; omega)⟩
      obtain ⟨go, oo, ego, hgo, hro, _⟩ := HS.out.elem (ptE_at Het0)
      obtain rfl := ego
      have HRl : Hid (∀ X, Below wr.heap.size wr X → X.rangeAt go (oo + k * 2) [.int .i64 et.1, .int .i64 et.2]) := hH (fun X hX => rangeAt_below hro hX hgo)
      have Het := hH Het0
      clear hgo hro Het0
      obtain ⟨bq, Hbq⟩ : ∃ bq : Bool, Hid ((decide (et.1 < p.1) || (decide (et.1 = p.1) && decide (et.2 < p.2))) = bq) := ⟨_, hH rfl⟩
      go_upto_region 6 with (fail)
      go_upto_region 6 with (fail)
      refine cG ?_
      refine cN ?_
      refine cW ?_ ?_ ?_
      refine cW ?_ ?_ ?_
      refine cW ?_ ?_ ?_
      refine cX ?_ ?_ (by intro wz hSw; have nn := t1; go_simp; all_goals with_reducible rfl) ?_
      refine cW ?_ ?_ ?_
      refine cW ?_ ?_ ?_
      refine cW ?_ ?_ ?_
      refine cX (.pointer (some ⟨go, oo + k * 2, none⟩)) ?_ (by intro wz hSw; exact x_index (i := k) (E := 37) (sz := 2) rfl (by rfl) (by rfl) (by omega) Tryz.underlying27 size_p3S) ?_
      refine cX (.agg #[.int .i64 et.1, .int .i64 et.2]) ?_ (by intro wz hSw; exact x_row (cs := [.int .i64 et.1, .int .i64 et.2]) rfl (by rfl) (HRl.out _ (Stay.all hSw.1)) Tryz.underlying37 rfl size_p3S) ?_
      refine cW ?_ ?_ ?_
      refine cW ?_ ?_ ?_
      refine cX (.pointer (some ⟨gp, op + i * 2, none⟩)) ?_ (by intro wz hSw; exact x_index (i := i) (E := 37) (sz := 2) rfl (by rfl) (by rfl) (by omega) Tryz.underlying27 size_p3S) ?_
      refine cX (.agg #[.int .i64 p.1, .int .i64 p.2]) ?_ (by intro wz hSw; exact x_row (cs := [.int .i64 p.1, .int .i64 p.2]) rfl (by rfl) (HRp.out _ (HB0r.trans ((Stay.all hSw.1).mono HB0r.size))) Tryz.underlying37 rfl size_p3S) ?_
      refine cC ?_ ?_ ?_ ?_ ?hc2_13 ?_
      case hc2_13 => (intro w hSw; exact ahead3_any et p bq Hbq.out w)
      refine cW ?_ ?_ ?_
      refine calm_end ?_
      intro w1 hS
      have hS := sO hS
      have hz1 : wr.heap.size ≤ w1.heap.size := hS.size
      have HB := gS HB hS
      clear hS
      have F1 := hH (HS.out.call HB)
      have F2 : Hid (Below w.heap.size w w1) := hH (HBr.out.trans (HB.mono HBr.out.size))
      have HX : Hid (ltPb et p = bq) := hH Hbq.out
      clear HB HB0r Hbq
      cases bq with
      | true =>
       go_wp2_with fail
       go_roundg q2
       case measure => omega
       case rel => exact ⟨k + 1, by omega, by go_num, hH (fun j x hj hx => by
        by_cases h : j < k
        ·exact Hlow.out j x h hx
        ·obtain rfl : j = k := by omega
         rw [Het.out] at hx; cases hx; exact HX.out), F1, F2⟩
      | false =>
       go_wp2_with fail
       go_meet
       case rel => exact ⟨k, by omega, rfl, Hlow, hH (fun x hx => by rw [Het.out] at hx; cases hx; exact HX.out), F1, F2⟩
   case rest =>
    clear HS HBr
    obtain ⟨k, hkm, rfl, Hlow, Hup, HS, HBr⟩ := hcut
    rename World => wr
    have HP := hH (insP_at p out k Hlow.out Hup.out (by rw [← Hm.out]; exact hkm))
    clear Hlow Hup
    go_upto_region 8 with (fail)
    go_cut [44] (fun s44 wx => ∃ bq : Bool, s44 = .bool bq ∧ Hid (bq = true → insP out p = out) ∧ Hid (bq = false → insP out p = out.take k ++ p :: out.drop k) ∧ Hid (SlC wx (.slice so m sc) 2 (ptE out)) ∧ Hid (Below w.heap.size w wx))
    case first =>
     have HB0r := HBr.out
     have HB : Below wr.heap.size wr wr := Below.refl _ _
     by_cases hlt : k < m
     ·have t1 : (k : Int) < (m : Int) := by omega
      obtain ⟨et, Het0⟩ : ∃ et, out[k]? = some et := ⟨_, List.getElem?_eq_getElem (by rw [← Hm.out]; omega)⟩
      obtain ⟨go, oo, ego, hgo, hro, _⟩ := HS.out.elem (ptE_at Het0)
      obtain rfl := ego
      have HRl : Hid (∀ X, Below wr.heap.size wr X → X.rangeAt go (oo + k * 2) [.int .i64 et.1, .int .i64 et.2]) := hH (fun X hX => rangeAt_below hro hX hgo)
      have Het := hH Het0
      clear hgo hro Het0
      by_cases hep : et = p
      ·have He1 : Hid (et.1 = p.1 ∧ et.2 = p.2) := hH (by rw [hep]; exact ⟨rfl, rfl⟩)
       have HP1 : Hid (insP out p = out) := hH (by rw [HP.out, Het.out]; simp only []; rw [if_pos hep])
       clear hep
       go_upto_region 8 with (fail)
       refine cG ?_
       refine cN ?_
       refine cW ?_ ?_ ?_
       refine cW ?_ ?_ ?_
       refine cW ?_ ?_ ?_
       refine cX ?_ ?_ (by intro wz hSw; have nn := t1; go_simp; all_goals with_reducible rfl) ?_
       refine cW ?_ ?_ ?_
       refine cW ?_ ?_ ?_
       refine cW ?_ ?_ ?_
       refine cX (.pointer (some ⟨go, oo + k * 2, none⟩)) ?_ (by intro wz hSw; exact x_index (i := k) (E := 37) (sz := 2) rfl (by rfl) (by rfl) (by omega) Tryz.underlying27 size_p3S) ?_
       refine cX (.agg #[.int .i64 et.1, .int .i64 et.2]) ?_ (by intro wz hSw; exact x_row (cs := [.int .i64 et.1, .int .i64 et.2]) rfl (by rfl) (HRl.out _ (Stay.all hSw.1)) Tryz.underlying37 rfl size_p3S) ?_
       refine cW ?_ ?_ ?_
       refine cW ?_ ?_ ?_
       refine cX (.pointer (some ⟨gp, op + i * 2, none⟩)) ?_ (by intro wz hSw; exact x_index (i := i) (E := 37) (sz := 2) rfl (by rfl) (by rfl) (by omega) Tryz.underlying27 size_p3S) ?_
       refine cX (.agg #[.int .i64 p.1, .int .i64 p.2]) ?_ (by intro wz hSw; exact x_row (cs := [.int .i64 p.1, .int .i64 p.2]) rfl (by rfl) (HRp.out _ (HB0r.trans ((Stay.all hSw.1).mono HB0r.size))) Tryz.underlying37 rfl size_p3S) ?_
       refine cX (.bool true) ?_ (by intro wz hSw; exact (by have e1 := He1.out.1; have e2 := He1.out.2; go_simp)) ?_
       refine cW ?_ ?_ ?_
       refine calm_end ?_
       intro w1 hS
       have hS := sO hS
       have hz1 : wr.heap.size ≤ w1.heap.size := hS.size
       have HB := gS HB hS
       clear hS
       have F1 := hH (HS.out.call HB)
       have F2 : Hid (Below w.heap.size w w1) := hH (HBr.out.trans (HB.mono HBr.out.size))
       clear HB HB0r
       go_wp2_with fail
       go_meet
       case rel => exact ⟨true, rfl, hH (fun _ => HP1.out), hH (fun h => by cases h), F1, F2⟩
      ·have He1 : Hid (et.1 = p.1 → ¬ et.2 = p.2) := hH (fun h1 h2 => hep (Prod.ext h1 h2))
       have HP1 : Hid (insP out p = out.take k ++ p :: out.drop k) := hH (by rw [HP.out, Het.out]; simp only []; rw [if_neg hep])
       clear hep
       go_upto_region 8 with (fail)
       refine cG ?_
       refine cN ?_
       refine cW ?_ ?_ ?_
       refine cW ?_ ?_ ?_
       refine cW ?_ ?_ ?_
       refine cX ?_ ?_ (by intro wz hSw; have nn := t1; go_simp; all_goals with_reducible rfl) ?_
       refine cW ?_ ?_ ?_
       refine cW ?_ ?_ ?_
       refine cW ?_ ?_ ?_
       refine cX (.pointer (some ⟨go, oo + k * 2, none⟩)) ?_ (by intro wz hSw; exact x_index (i := k) (E := 37) (sz := 2) rfl (by rfl) (by rfl) (by omega) Tryz.underlying27 size_p3S) ?_
       refine cX (.agg #[.int .i64 et.1, .int .i64 et.2]) ?_ (by intro wz hSw; exact x_row (cs := [.int .i64 et.1, .int .i64 et.2]) rfl (by rfl) (HRl.out _ (Stay.all hSw.1)) Tryz.underlying37 rfl size_p3S) ?_
       refine cW ?_ ?_ ?_
       refine cW ?_ ?_ ?_
       refine cX (.pointer (some ⟨gp, op + i * 2, none⟩)) ?_ (by intro wz hSw; exact x_index (i := i) (E := 37) (sz := 2) rfl (by rfl) (by rfl) (by omega) Tryz.underlying27 size_p3S) ?_
       refine cX (.agg #[.int .i64 p.1, .int .i64 p.2]) ?_ (by intro wz hSw; exact x_row (cs := [.int .i64 p.1, .int .i64 p.2]) rfl (by rfl) (HRp.out _ (HB0r.trans ((Stay.all hSw.1).mono HB0r.size))) Tryz.underlying37 rfl size_p3S) ?_
       refine cX (.bool false) ?_ (by intro wz hSw; exact (by have e1 := He1.out; go_simp; all_goals exact e1)) ?_
       refine cW ?_ ?_ ?_
       refine calm_end ?_
       intro w1 hS
       have hS := sO hS
       have hz1 : wr.heap.size ≤ w1.heap.size := hS.size
       have HB := gS HB hS
       clear hS
       have F1 := hH (HS.out.call HB)
       have F2 : Hid (Below w.heap.size w w1) := hH (HBr.out.trans (HB.mono HBr.out.size))
       clear HB HB0r
       go_wp2_with fail
       go_meet
       case rel => exact ⟨false, rfl, hH (fun h => by cases h), hH (fun _ => HP1.out), F1, F2⟩
     ·have t1 : ¬ (k : Int) < (m : Int) := by omega
      have HP1 : Hid (insP out p = out.take k ++ p :: out.drop k) := hH (by rw [HP.out, List.getElem?_eq_none (by rw [← Hm.out]; omega)])
      go_upto_region 8 with (fail)
      refine cG ?_
      refine cN ?_
      refine cW ?_ ?_ ?_
      refine cW ?_ ?_ ?_
      refine cW ?_ ?_ ?_
      refine cX ?_ ?_ (by intro wz hSw; have nn := t1; go_simp; all_goals with_reducible rfl) ?_
      refine cW ?_ ?_ ?_
      refine cS ?_ ?_
      refine cS ?_ ?_
      refine cS ?_ ?_
      refine cS ?_ ?_
      refine cS ?_ ?_
      refine cS ?_ ?_
      refine cS ?_ ?_
      refine cS ?_ ?_
      refine cS ?_ ?_
      refine cW ?_ ?_ ?_
      refine calm_end ?_
      intro w1 hS
      have hS := sO hS
      have hz1 : wr.heap.size ≤ w1.heap.size := hS.size
      have HB := gS HB hS
      clear hS
      have F1 := hH (HS.out.call HB)
      have F2 : Hid (Below w.heap.size w w1) := hH (HBr.out.trans (HB.mono HBr.out.size))
      clear HB HB0r
      go_wp2_with fail
      go_meet
      case rel => exact ⟨false, rfl, hH (fun h => by cases h), hH (fun _ => HP1.out), F1, F2⟩
    case rest =>
     clear HS HBr HP
     obtain ⟨bq, rfl, Q1, Q2, HSq, HBq0⟩ := hcut
     rename World => wq
     cases bq with
     | true =>
      have HO : Hid (out = srtD (ps.take (i + 1))) := hH (by rw [← HNx.out, Q1.out rfl])
      clear Q1 Q2 HNx
      go_wp2_with fail
      go_roundg q
      case measure => omega
      case rel => exact ⟨i + 1, out, by omega, by go_num, HO, HSq, HBq0⟩
     | false =>
      have HIn := hH Q2.out
      clear Q1 Q2
      have HL1 : Hid ((ptE out).take k = ptE (out.take k)) := hH (by unfold ptE; rw [List.map_take])
      have HL2 : Hid ((ptE out).drop k = ptE (out.drop k)) := hH (by unfold ptE; rw [List.map_drop])
      have hs1 := HSq.out.sub 0 k (Nat.zero_le _) (by rw [ptE_len, ← Hm.out]; exact hkm)
      have hs2 := HSq.out.sub k m hkm (by rw [ptE_len, ← Hm.out]; exact Nat.le_refl _)
      rw [List.drop_zero, HL1.out] at hs1
      rw [List.take_of_length_le (by rw [ptE_len, ← Hm.out]; exact Nat.le_refl _), HL2.out] at hs2
      have Hs1 := hH hs1
      have Hs2 := hH hs2
      clear hs1 hs2 HL1 HL2
      have HO0 := hH (OwS.none wq wq.heap.size 37 2)
      go_upto_region 10 with (fail)
      refine pl_start ?_
      refine pM (.slice none 0 0) ?_
      (try simp only [td])
      refine pM (.slice so m sc) ?_
      (try simp only [td])
      refine pM (.int .i64 (k : Int)) ?_
      (try simp only [td])
      obtain ⟨v1, Hv1⟩ : ∃ v1 : Value, Hid (v1 = .slice (if sc = 0 then so else so.map (·.add (0 * 2))) (k - 0) (sc - 0)) := ⟨_, hH rfl⟩
      refine pl_val (v := v1) (by rfl) (by rw [Hv1.out]; exact x_head (n := m) (E := 37) (sz := 2) rfl (by rfl) (by rfl) (by omega) Tryz.underlying27 size_p3S) ?_
      (try simp only [td])
      refine pl_app wq wq (Below.refl _ _) rfl (.tmp 45) (.tmp 48) 27 rfl 37 (.agg #[.int .i64 0, .int .i64 0]) 2 16 Tryz.underlying27 info_p3I rfl (by decide) (.slice none 0 0) [] rfl HO0.out _ (ptE (out.take k)) rfl (by rw [Hv1.out]; exact Hs1.out) pt_one (by rw [ptE_len, List.length_take, List.length_nil]; have := Hm.out; omega) (by decide) ?_
      intro aa na ca wa hna hoa hba _
      have HOa := hH hoa
      have HBa := hH hba
      clear hna hoa hba
      (try simp only [td])
      refine pM (.slice aa na ca) ?_
      (try simp only [td])
      refine pl_end ?_
      go_upto_region 11 with (fail)
      refine pl_start ?_
      refine pM (.slice aa na ca) ?_
      (try simp only [td])
      refine pM (.slice (some ⟨gp, op, none⟩) n cp) ?_
      (try simp only [td])
      refine pM (.int .i64 (i : Int)) ?_
      (try simp only [td])
      refine pl_val (v := .pointer (some ⟨gp, op + i * 2, none⟩)) (by rfl) (x_index (i := i) (E := 37) (sz := 2) rfl (by rfl) (by rfl) (by omega) Tryz.underlying27 size_p3S) ?_
      (try simp only [td])
      refine pl_val (v := .agg #[.int .i64 p.1, .int .i64 p.2]) (by rfl) (x_row (cs := [.int .i64 p.1, .int .i64 p.2]) rfl (by rfl) (HRp.out _ (HBq0.out.trans (HBa.out.mono HBq0.out.size))) Tryz.underlying37 rfl size_p3S) ?_
      (try simp only [td])
      refine pl_one _ rfl 27 37 (.tmp 54) (.agg #[.int .i64 p.1, .int .i64 p.2]) (.agg #[.int .i64 0, .int .i64 0]) [.int .i64 p.1, .int .i64 p.2] rfl Tryz.underlying27 (info_small info_p3I) (by rfl) rfl (by simp) (by simp) ?_
      intro gb wb hsb hbb
      have HSb := hH hsb
      have HOb := hH (HOa.out.call hbb)
      have HBb := hH (HBa.out.trans (hbb.mono HBa.out.size))
      clear hsb hbb
      (try simp only [td])
      refine pl_app wq wb HBb.out rfl (.tmp 50) (.tmp 55) 27 rfl 37 (.agg #[.int .i64 0, .int .i64 0]) 2 16 Tryz.underlying27 info_p3I rfl (by decide) (.slice aa na ca) _ rfl HOb.out _ _ rfl HSb.out (pt_one (ps := [p])) (by rw [List.length_append, ptE_len, List.length_take, List.length_nil, List.length_singleton]; have := Hm.out; omega) (by decide) ?_
      intro ad nd cd wd hnd hod hbd _
      have HOd := hH hod
      have HBd := hH hbd
      clear hnd hod hbd
      (try simp only [td])
      refine pM (.slice ad nd cd) ?_
      (try simp only [td])
      refine pl_end ?_
      go_upto_region 12 with (fail)
      refine pl_start ?_
      refine pM (.slice ad nd cd) ?_
      (try simp only [td])
      refine pM (.slice so m sc) ?_
      (try simp only [td])
      refine pM (.int .i64 (k : Int)) ?_
      (try simp only [td])
      obtain ⟨v2, Hv2⟩ : ∃ v2 : Value, Hid (v2 = .slice (if sc = k then so else so.map (·.add (k * 2))) (m - k) (sc - k)) := ⟨_, hH rfl⟩
      refine pl_val (v := v2) (by rfl) (by rw [Hv2.out]; exact x_tail (E := 37) (sz := 2) rfl (by rfl) (by rfl) hkm Tryz.underlying27 size_p3S) ?_
      (try simp only [td])
      refine pl_app wq wd HBd.out rfl (.tmp 57) (.tmp 60) 27 rfl 37 (.agg #[.int .i64 0, .int .i64 0]) 2 16 Tryz.underlying27 info_p3I rfl (by decide) (.slice ad nd cd) _ rfl HOd.out _ (ptE (out.drop k)) rfl (by rw [Hv2.out]; exact Hs2.out.call HBd.out) pt_one (by rw [List.length_append, List.length_append, ptE_len, ptE_len, List.length_take, List.length_drop, List.length_nil, List.length_singleton]; have := Hm.out; omega) (by decide) ?_
      intro af nf cf wf hnf hof hbf _
      have HOf := hH hof
      have HBf := hH hbf
      clear hnf hof hbf
      (try simp only [td])
      refine pM (.slice af nf cf) ?_
      (try simp only [td])
      refine pl_end ?_
      have HBn : Hid (Below w.heap.size w wf) := hH (HBq0.out.trans (HBf.out.mono HBq0.out.size))
      have HSn : Hid (SlC wf (.slice af nf cf) 2 (ptE (insP out p))) := hH (by
       rw [HIn.out rfl]
       have h := HOf.out.slc
       rw [List.nil_append, List.append_assoc] at h
       unfold ptE at *
       rw [List.map_append, List.map_cons]
       exact h)
      go_wp2_with fail
      go_roundg q
      case measure => omega
      case rel => exact ⟨i + 1, insP out p, by omega, by go_num, HNx, HSn, HBn⟩
end Go.Proofs.YthbplhglfjlngaaGreat
namespace Go.Proofs.YthbplhglfjlngaaGreat
open Go.RowKit Go.Rg Go.Wd Go.Mg
attribute [local go_sem] Oper.semAt_some
set_option maxHeartbeats 4000000 in
theorem refs_any (v : Value) (ps : List (Int × Int)) (w : World) (hv : SlC w v 2 (ptE ps)) (hlen : ps.length ≤ 1048576) :
  Calls Tryz.prog 5 #[v] w fun e w' => ∃ v', e = .returned (.tuple #[v', .bool (ps.all fun p => ptB p.1 p.2)]) ∧ SlC w' v' 2 (ptE (srtD ps)) ∧ Below w.heap.size w w' := by
 obtain ⟨ap, cp, e, hn, hcm⟩ := hv.form
 subst e
 obtain ⟨n, Hn⟩ : ∃ n, Hid (n = (ptE ps).length) := ⟨_, hH rfl⟩
 have Hnl : Hid (n = ps.length) := hH (by rw [Hn.out, ptE_len])
 rw [← Hn.out] at hv hn ⊢
 have hnb : n ≤ 1048576 := by rw [Hnl.out]; exact hlen
 unfold maxLen at hcm
 have HV := hH hv
 have Hlen := hH hlen
 obtain ⟨R, HR⟩ : ∃ b : Bool, Hid (b = ps.all fun p => ptB p.1 p.2) := ⟨_, hH rfl⟩
 rw [← HR.out]
 clear hv hlen
 go_enter Tryz.func5, Tryz.ntmps5
 go_wp2_with fail
 go_loopg [4, 5, 10] n (fun q s4 s5 s10 wx => ∃ (i : Nat) (bk : Bool), i + q = n ∧ s10 = .int .i64 (i : Int) ∧ s5 = .bool bk ∧ Hid (bk = (ps.take i).all fun p => ptB p.1 p.2) ∧ Hid (OwS wx w.heap.size 37 2 s4 (ptE (ps.take i))) ∧ Hid (Below w.heap.size w wx))
 case atStart => exact ⟨0, true, by omega, by first | rfl | simp, rfl, hH rfl, hH (OwS.none _ _ _ _), hH (Below.refl _ _)⟩
 case round =>
  obtain ⟨i, bk, hq, rfl, rfl, Hbk, HO, HBr⟩ := hrel
  cases gk with
  | zero =>
   have t0 : ¬ (i : Int) < (n : Int) := by omega
   have HF : Hid (ps.take i = ps) := hH (List.take_of_length_le (by rw [← Hnl.out]; omega))
   rw [HF.out] at HO Hbk
   have hbk : bk = R := by rw [Hbk.out, HR.out]
   subst hbk
   have HC := hH (sorted16_any u4 ps wr HO.out.slc Hlen.out)
   clear HO HF Hbk
   go_wp2_with fail
   refine HC.out.mono ?_
   rintro e w1 ⟨v1, rfl, h1, hb1⟩
   have H1 := hH h1
   have HB1 := hH (HBr.out.trans (hb1.mono HBr.out.size))
   clear h1 hb1 HC
   go_wp2_with fail
   go_ret2
   exact ⟨_, rfl, H1.out, HB1.out⟩
  | succ q =>
   have t0 : (i : Int) < (n : Int) := by omega
   obtain ⟨p, hp0⟩ : ∃ p, ps[i]? = some p := ⟨_, List.getElem?_eq_getElem (by rw [← Hnl.out]; omega)⟩
   obtain ⟨gp, op, rfl, hgp, hrp, _⟩ := HV.out.elem (ptE_at hp0)
   have hel := rangeAt_below hrp HBr.out hgp
   have y2 : wr.cell? ⟨gp, op + i * 2, none⟩ = some (.int .i64 p.1) := hel 0 _ rfl
   have y3 : wr.cell? ⟨gp, op + i * 2 + 1, none⟩ = some (.int .i64 p.2) := hel 1 _ rfl
   have HNx : Hid (ptE (ps.take i) ++ [[.int .i64 p.1, .int .i64 p.2]] = ptE (ps.take (i + 1))) := hH (by rw [List.take_add_one, hp0, ptE_app]; rfl)
   have HNb : Hid (((ps.take (i + 1)).all fun p => ptB p.1 p.2) = (bk && ptB p.1 p.2)) := hH (by rw [List.take_add_one, hp0, Hbk.out, List.all_append]; simp)
   obtain ⟨wz, hwz⟩ : ∃ wz, wr.alloc (.cells #[.int .i64 p.1, .int .i64 p.2] 23) = wz := ⟨_, rfl⟩
   have hbz : Below wr.heap.size wr wz := hwz ▸ (Below.refl _ wr).alloc (Nat.le_refl _) _
   have B7 : Blk wz wr.heap.size [.int .i64 p.1, .int .i64 p.2] 23 := hwz ▸ Blk.new _ _ _
   have HOz := hH (HO.out.call hbz)
   have HBz : Hid (Below w.heap.size w wz) := hH (HBr.out.trans (hbz.mono HBr.out.size))
   clear hrp hel hgp hp0 HO Hbk hbz
   go_upto_region 6 with (fail)
   (try rw [hwz])
   clear hwz y2 y3
   refine pl_start ?_
   refine pM (u4) ?_
   (try simp only [td])
   refine pl_val (v := .agg #[.int .i64 p.1, .int .i64 p.2]) (by rfl) (load_row rfl (by rfl) B7 Tryz.underlying23 rfl size_clonePt) ?_
   (try simp only [td])
   refine pl_call (f := ?_) (args := ?_) (v := ?_) (R := ?_) (by rfl) ?hy1 ?hc1 ?_
   case hy1 => (go_simp; all_goals (first | with_reducible rfl | (constructor <;> with_reducible rfl)))
   case hc1 => (exact (ref_any p.1 p.2 wz))
   rintro w1 hb1
   have HO1 := hH (HOz.out.call hb1)
   have HB1 := hH (HBz.out.trans (hb1.mono HBz.out.size))
   have B7 := B7.call hb1
   clear hb1
   (try simp only [td])
   refine pl_one _ rfl 27 37 (.tmp 16) (.agg #[.int .i64 p.1, .int .i64 p.2]) (.agg #[.int .i64 0, .int .i64 0]) [.int .i64 p.1, .int .i64 p.2] rfl Tryz.underlying27 (info_small info_p3I) (by rfl) rfl (by simp) (by simp) ?_
   intro gb wb hsb hbb
   have HSb := hH hsb
   have HOb := hH (HO1.out.call hbb)
   have HBb := hH (HB1.out.trans (hbb.mono HB1.out.size))
   have B7 := B7.call hbb
   clear hsb hbb
   (try simp only [td])
   refine pl_app w wb HBb.out rfl (.tmp 14) (.tmp 17) 27 rfl 37 (.agg #[.int .i64 0, .int .i64 0]) 2 16 Tryz.underlying27 info_p3I rfl (by decide) (u4) _ rfl HOb.out _ _ rfl HSb.out (pt_one (ps := [p])) (by rw [ptE_len, List.length_take, List.length_singleton]; omega) (by decide) ?_
   intro ad nd cd wd hnd hod hbd hkd
   have HOd := hH hod
   have HBd := hH hbd
   have B7 : Blk wd wr.heap.size [.int .i64 p.1, .int .i64 p.2] 23 := hkd _ (by decide) _ _ _ B7
   clear hnd hod hbd hkd
   (try simp only [td])
   refine pM (.slice ad nd cd) ?_
   (try simp only [td])
   refine pl_end ?_
   have HOn : Hid (OwS wd w.heap.size 37 2 (.slice ad nd cd) (ptE (ps.take (i + 1)))) := hH (by rw [← HNx.out]; exact HOd.out)
   clear HOd HNx
   cases bk with
   | false =>
    have F : Hid (false = (ps.take (i + 1)).all fun p => ptB p.1 p.2) := hH (by rw [HNb.out]; rfl)
    clear HNb B7
    go_wp2_with fail
    go_roundg q
    case measure => omega
    case rel => exact ⟨i + 1, false, by omega, by go_num, rfl, F, HOn, HBd⟩
   | true =>
    obtain ⟨b2, Hb2⟩ : ∃ b : Bool, Hid (ptB p.1 p.2 = b) := ⟨_, hH rfl⟩
    have F : Hid (b2 = (ps.take (i + 1)).all fun p => ptB p.1 p.2) := hH (by rw [HNb.out, Hb2.out]; rfl)
    obtain ⟨z0, z1⟩ := Rg.c2 B7
    clear HNb B7
    go_wp2_with fail
    refine (ref_any p.1 p.2 wd).mono ?_
    rintro e w3 ⟨rfl, hb3⟩
    have HOn := hH (HOn.out.call hb3)
    have HB3 := hH (HBd.out.trans (hb3.mono HBd.out.size))
    clear hb3
    go_wp2_with fail
    refine (right3_any p.1 p.2 b2 Hb2.out w3).mono ?_
    rintro e w4 ⟨rfl, hb4⟩
    have HOn := hH (HOn.out.call hb4)
    have HB4 := hH (HB3.out.trans (hb4.mono HB3.out.size))
    clear hb4
    go_wp2_with fail
    go_roundg q
    case measure => omega
    case rel => exact ⟨i + 1, b2, by omega, by go_num, rfl, F, HOn, HB4⟩
end Go.Proofs.YthbplhglfjlngaaGreat
namespace Go.Proofs.YthbplhglfjlngaaGreat
open Go.RowKit Go.Rg Go.Wd Go.Mg
attribute [local go_sem] Oper.semAt_some
end Go.Proofs.YthbplhglfjlngaaGreat
namespace Go.Proofs.YthbplhglfjlngaaGreat
open Go.RowKit Go.Rg Go.Wd Go.Mg
attribute [local go_sem] Oper.semAt_some
theorem set_ok (v : Value) (ps : List (Int × Int)) (w : World) (hv : SlC w v 2 (ptE ps)) (hok : ∀ p ∈ ps, ptB p.1 p.2 = true) (hb : ps.length * 32 ≤ 140737488355328 - 32) :
  Calls Tryz.prog 6 #[v] w fun e w' => ∃ R, e = .returned (.pointer (some ⟨R, 0, none⟩)) ∧ SetW w' R ps ∧ w.heap.size ≤ R ∧ Below w.heap.size w w' := by
 obtain ⟨a, c, e, hn, hcm⟩ := hv.form
 subst e
 have HN := hH (new_any _ ps w hv hok hb)
 clear hv hok
 go_enter Tryz.func6, Tryz.ntmps6
 go_wp2_with fail
 refine HN.out.mono ?_
 rintro e w1 ⟨R, rfl, h1, h2, h3⟩
 have H1 := hH h1
 have H3 := hH h3
 clear h1 h3
 go_wp2_with fail
 go_ret
 exact ⟨R, rfl, H1.out, h2, H3.out⟩
theorem set_bad (v : Value) (ps : List (Int × Int)) (w : World) (hv : SlC w v 2 (ptE ps)) (hbad : ∃ p ∈ ps, ptB p.1 p.2 = false) :
  Calls Tryz.prog 6 #[v] w fun e w' => e = .returned (.pointer none) ∧ Below w.heap.size w w' := by
 obtain ⟨a, c, e, hn, hcm⟩ := hv.form
 subst e
 have HN := hH (new_bad _ ps w hv hbad)
 clear hv hbad
 go_enter Tryz.func6, Tryz.ntmps6
 go_wp2_with fail
 refine HN.out.mono ?_
 rintro e w1 ⟨rfl, h3⟩
 have H3 := hH h3
 clear h3
 go_wp2_with fail
 go_ret
 exact ⟨rfl, H3.out⟩
def awPs : List (Int × Int) := [(0, 0), (1, 0), (2, 1)]
theorem awR : setR awPs = [(0, [0, 1]), (1, [2])] := by kernel_rfl
theorem awA : ofB 0 0 20 6 10 (setR awPs) = [(0, 0), (1, 0), (2, 1)] := by kernel_rfl
theorem awB : ofB 20 0 0 0 10 (setR awPs) = [(1, 0), (0, 0)] := by kernel_rfl
theorem awC : nearS 0 0 20 6 10 (setR awPs) = [(0, 0), (1, 0), (2, 1)] := by kernel_rfl
theorem awD : nearS 20 0 0 0 10 (setR awPs) = [(0, 0), (1, 0)] := by kernel_rfl
theorem awY : Rising ((setR awPs).map (·.1)) := by
 rw [awR]; intro i j x y hij hi hj
 match i, j with
 | 0, 0 => simp at hi hj; omega
 | 0, 1 => simp at hi hj; omega
 | 1, 1 => simp at hi hj; omega
 | 1, 0 => omega
 | _, j + 2 => simp at hj
 | i + 2, _ => simp at hi
theorem awX : ∀ r ∈ setR awPs, Rising r.2 := by
 rw [awR]
 intro r hr
 simp at hr
 rcases hr with rfl | rfl
 ·intro i j x y hij hi hj
  match i, j with
  | 0, 0 => simp at hi hj; omega
  | 0, 1 => simp at hi hj; omega
  | 1, 1 => simp at hi hj; omega
  | 1, 0 => omega
  | _, j + 2 => simp at hj
  | i + 2, _ => simp at hi
 ·intro i j x y hij hi hj
  match i, j with
  | 0, 0 => simp at hi hj; omega
  | _, j + 1 => simp at hj
  | i + 1, 0 => omega
theorem awN : nearZ 0 0 0 0 0 0 1 0 = true := by kernel_rfl
set_option maxHeartbeats 2000000 in
theorem awake17_any (w : World) : Calls Tryz.prog 7 #[] w fun e w' => e = .returned (.bool true) ∧ Below w.heap.size w w' := by
 go_enter Tryz.func7, Tryz.ntmps7
 go_wp2_with fail
 obtain ⟨W0, hW0⟩ : ∃ W0, w.alloc (.cells #[.int .i64 0, .int .i64 0, .int .i64 1, .int .i64 0, .int .i64 2, .int .i64 1] 23) = W0 := ⟨_, rfl⟩
 have hb0 : Below w.heap.size w W0 := hW0 ▸ (Below.refl _ w).alloc (Nat.le_refl _) _
 have hB0 : Blk W0 w.heap.size [.int .i64 0, .int .i64 0, .int .i64 1, .int .i64 0, .int .i64 2, .int .i64 1] 23 := hW0 ▸ Blk.new _ _ _
 have hv : SlC W0 (.slice (some ⟨w.heap.size, 0, none⟩) 3 3) 2 (ptE awPs) := SlC.of_own (base := w.heap.size) (t := 23) (es := ptE awPs) ⟨rfl, .inr ⟨w.heap.size, 3, _, rfl, Nat.le_refl _, hB0, Nat.le_refl _, by unfold maxLen; omega, rfl, rfl⟩⟩ (fun e he => by unfold ptE at he; obtain ⟨x, _, rfl⟩ := List.mem_map.1 he; rfl)
 rw [hW0]
 refine (set_ok _ awPs W0 hv (by decide) (by decide)).mono ?_
 rintro e w1 ⟨R, rfl, hs1, _, hb1⟩
 have HS1 := hH hs1
 have HB1 : Hid (Below w.heap.size w w1) := hH (hb0.trans (hb1.mono hb0.size))
 clear hW0 hb0 hB0 hv hs1 hb1
 go_wp2_with fail
 refine (ofC_any 0 0 20 6 10 R awPs w1 (by decide) (by decide) HS1.out awY awX (by rw [awC]; decide) (by rw [awC]; decide)).mono ?_
 rintro e w2 ⟨v2, rfl, hv2, hb2⟩
 rw [awA] at hv2
 have HS2 := hH (HS1.out.call hb2)
 have HB2 : Hid (Below w.heap.size w w2) := hH (HB1.out.trans (hb2.mono HB1.out.size))
 obtain ⟨a2, c2, e, hn2, hc2⟩ := hv2.form
 subst e
 obtain ⟨g2, o2, e, hg2, hr2, _⟩ := hv2.elem (i := 2) (e := [.int .i64 2, .int .i64 1]) rfl
 subst e
 have HR2 : Hid (w2.rangeAt g2 (o2 + 4) [.int .i64 2, .int .i64 1]) := hH hr2
 have hl2 : (ptE [((0 : Int), (0 : Int)), (1, 0), (2, 1)]).length = 3 := rfl
 rw [hl2] at hn2 ⊢
 clear hb2 hv2 hr2 hl2 HS1
 go_wp2_with fail
 refine (ofC_any 20 0 0 0 10 R awPs w2 (by decide) (by decide) HS2.out awY awX (by rw [awD]; decide) (by rw [awD]; decide)).mono ?_
 rintro e w3 ⟨v3, rfl, hv3, hb3⟩
 rw [awB] at hv3
 have HB3 : Hid (Below w.heap.size w w3) := hH (HB2.out.trans (hb3.mono HB2.out.size))
 obtain ⟨a3, c3, e, hn3, hc3⟩ := hv3.form
 subst e
 obtain ⟨g3, o3, e, hg3, hr3, _⟩ := hv3.elem (i := 0) (e := [.int .i64 1, .int .i64 0]) rfl
 subst e
 have hl3 : (ptE [((1 : Int), (0 : Int)), (0, 0)]).length = 2 := rfl
 rw [hl3] at hn3 ⊢
 have h2 := rangeAt_below HR2.out hb3 hg2
 have y0 : w3.cell? ⟨g2, o2 + 4, none⟩ = some (.int .i64 2) := h2 0 _ rfl
 have y1 : w3.cell? ⟨g2, o2 + 5, none⟩ = some (.int .i64 1) := h2 1 _ rfl
 have y2 : w3.cell? ⟨g3, o3, none⟩ = some (.int .i64 1) := hr3 0 _ rfl
 have y3 : w3.cell? ⟨g3, o3 + 1, none⟩ = some (.int .i64 0) := hr3 1 _ rfl
 clear hb3 hv3 hr3 h2 hl3
 go_wp2_with fail
 refine (near_yes 0 0 0 0 0 0 1 0 (by decide) (by decide) (by decide) (by decide) (by decide) awN w3).mono ?_
 rintro e w4 ⟨rfl, hb4⟩
 have HB4 : Hid (Below w.heap.size w w4) := hH (HB3.out.trans (hb4.mono HB3.out.size))
 clear hb4 y0 y1 y2 y3
 go_wp2_with fail
 go_ret
 exact ⟨rfl, HB4.out⟩
end Go.Proofs.YthbplhglfjlngaaGreat
