/- The law RoundsNear. -/
import Derived.Test.YtlkhneiccjhgdaaGreatGQq
import Derived.Test.YtlkhneiccjhgdaaGreatGQb
import Derived.Test.YtlkhneiccjhgdaaGreatGQl
import Derived.Test.YtlkhneiccjhgdaaGreatGQk
import Derived.Test.YtlkhneiccjhgdaaGreatGQc
import Derived.Great.FillDense
import Derived.Test.YtlkhneiccjhgdaaGreatRows
import Derived.ChangeSame
import Derived.ChangeArms
set_option linter.unusedVariables false
set_option linter.unusedSimpArgs false
set_option maxRecDepth 100000
set_option maxRecDepth 100000
namespace Go.Proofs.YtlkhneiccjhgdaaGreat
open Go.Eo Go.RowKit Go.Rg
noncomputable abbrev lnB : Code := Tryz.f7.body.getD .skip
structure CaseOk (ps : List (Int × Int)) (ss : List E4) (size rounds : Int) (n : Nat) : Prop where
 sm : smallB ps ss = true
 wr : wrongF ps ss size rounds = 0
 r : rounds = n
 r1 : 1 ≤ n
 r2 : n ≤ 8
theorem CaseOk.sz {ps : List (Int × Int)} {ss : List E4} {size rounds : Int} {n : Nat} (h : CaseOk ps ss size rounds n) : Wd.szB size = true ∧ beyB ps ss = false ∧ ps.length ≤ 12 ∧ ss.length ≤ 10 := by
 have h1 := h.wr
 have h2 := h.sm
 unfold wrongF at h1
 unfold smallB at h2
 simp only [Bool.and_eq_true, decide_eq_true_eq] at h2
 split at h1
 ·cases h1
 ·rename_i c
  split at h1
  ·cases h1
  ·rename_i c2
   simp only [not_or] at c
   exact ⟨Wd.szB_iff.2 (by omega), by simpa using c2, by omega, by omega⟩
theorem case_cases (ps : List (Int × Int)) (ss : List E4) (size rounds : Int) : smallB ps ss = false ∨ (smallB ps ss = true ∧ wrongF ps ss size rounds ≠ 0) ∨ (smallB ps ss = true ∧ wrongF ps ss size rounds = 0 ∧ rounds > 8) ∨ ∃ n, CaseOk ps ss size rounds n := by
 cases h : smallB ps ss with
 | false => exact .inl rfl
 | true =>
  by_cases h2 : wrongF ps ss size rounds = 0
  ·by_cases h3 : rounds > 8
   ·exact .inr (.inr (.inl ⟨rfl, h2, h3⟩))
   ·have : 1 ≤ rounds := by
     unfold wrongF at h2
     split at h2
     ·cases h2
     ·rename_i c; simp only [not_or] at c; omega
    exact .inr (.inr (.inr ⟨rounds.toNat, h, h2, by omega, by omega, by omega⟩))
  ·exact .inr (.inl ⟨rfl, h2⟩)
abbrev lnX (ps : List (Int × Int)) (ss : List E4) (size rounds : Int) (cs : List (Int × Int)) (l : List (List (Int × Int))) (k : Nat) (b : Bool) : List Ob := caO ps ss ++ [.box [.w 0, .w 1, .v (i6 size), .v (i6 rounds)] 25, .sl 2 (pl cs), .sl 1 (pll l), .box [.w 3, .w 4, .v (i6 ((k : Nat) : Int)), .v (.bool b)] 30]
theorem small_len {ps : List (Int × Int)} {ss : List E4} (h : smallB ps ss = true) : ps.length < 1000000000 ∧ ss.length < 1000000000 := by
 unfold smallB at h; simp only [Bool.and_eq_true, decide_eq_true_eq] at h; omega
theorem lawNear (ps : List (Int × Int)) (ss : List E4) (size rounds : Int) : FnP Pg 7 (caO ps ss) [caV size rounds] (caO ps ss) [] (vb true) := by
 have SM := small_ok ps ss size rounds
 rcases case_cases ps ss size rounds with h | ⟨h, h2⟩ | ⟨h, h2, h3⟩ | ⟨n, hc⟩
 ·rw [h] at SM
  exact fq Tryz.func7 fun C => dn (.f 15 [0, 1] [0, 1] SM <| .f 27 [] [] awake18_ok .nil) [0, 1]
 ·have WR := wrong_ok ps ss size rounds (small_len h).1 (small_len h).2
  rw [h] at SM
  exact fq Tryz.func7 fun C => dn (.f 15 [0, 1] [0, 1] SM <| .f 19 [0, 1] [0, 1] WR <| .v 20 (nt h2) <| .f 27 [] [] awake18_ok .nil) [0, 1]
 ·have WR := wrong_ok ps ss size rounds (small_len h).1 (small_len h).2
  rw [h] at SM
  exact fq Tryz.func7 fun C => dn (.f 15 [0, 1] [0, 1] SM <| .f 19 [0, 1] [0, 1] WR <| .v 20 (nf h2) <| .v 25 (bt h3) <| .f 27 [] [] awake18_ok .nil) [0, 1]
 ·obtain ⟨c1, c2, c3, c4⟩ := hc.sz
  have hsm := hc.sm
  have WR := wrong_ok ps ss size rounds (small_len hsm).1 (small_len hsm).2
  have hwr := hc.wr
  obtain ⟨L, hH, hF⟩ := runF_ex (ps := ps) (segs := ss) c1 c2 (by omega) (by omega)
  have F := hF n hc.r1 (by have := hc.r2; omega)
  have hr := hc.r
  have hr1 := hc.r1
  have hr2 := hc.r2
  subst hr
  clear hc
  rw [hsm] at SM
  have s1 := (Wd.szB_iff.1 c1).1
  have hfin := fine_of c2
  obtain ⟨j, j1, j2, j3, _⟩ := run_law (L := L) s1 (n - 1) 1 (firstB size (setR L) ss) (all_first s1 hH.seg)
  generalize runR size (setR L) (n - 1) 1 (firstB size (setR L) ss) = R at *
  obtain ⟨l, k, fx⟩ := R
  simp only at j2 j3 F
  subst j2
  have hll := j3.n
  have plen := pll_len l
  have pv : (Value.int .i64 ((pll l).length : Int)) = i6 l.length := by rw [plen]
  have glen := gl_len ss
  have gv : (Value.int .i64 ((gl ss).length : Int)) = i6 ss.length := by rw [glen]
  refine fq Tryz.func7 fun C => ?_
  refine gq [7] (lp 7 lnB []) (.f 15 [0, 1] [0, 1] SM <| .f 19 [0, 1] [0, 1] WR <| .v 20 (nf hwr) <| .v 25 (bf (show ¬ (n : Int) > 8 by omega)) <| .f 37 [0, 1] [0, 1] F <| .v 45 pv <| .v 48 gv <| .v 49 (nf (show (l.length : Int) = ss.length by omega)) <| .v 53 gv .nil) [0, 1, 2, 3, 4, 5] [(1, .a (.p 2 0)), (3, .a (.p 5 0)), (52, .a (.w 1)), (53, vi ss.length), (54, vi ((0 : Nat) : Int))] (lnX ps ss size n (setC L) l (1 + j) fx) fun d => ?_
  refine loop (β := { i : Nat // i ≤ ss.length }) (fun x d => ⟨d, [(1, .a (.p 2 0)), (3, .a (.p 5 0)), (52, .a (.w 1)), (53, vi ss.length), (54, vi ((x.1 : Nat) : Int))], mkX (lnX ps ss size n (setC L) l (1 + j) fx)⟩) (fun x => ss.length - x.1) (by kernel_rfl) (fun x K ih d => ?_) ⟨0, Nat.zero_le _⟩ d
  obtain ⟨i, hi⟩ := x
  try simp only at hi
  by_cases hx : i < ss.length
  ·have hs' : ss.getD i (0, 0, 0, 0) ∈ ss := List.mem_of_getElem? (get_q ss _ hx)
   have hg := hfin.sg hs'
   have at_s := gl_at ss hx
   have at_c := pll_at l (show i < l.length by omega)
   obtain ⟨q1, q2, q3, q4⟩ := j3.c i hx
   have ql := q1.len
   have qL := hH.len
   have qn := q1.m
   generalize ss.getD i (0, 0, 0, 0) = s at *
   generalize l.getD i [] = c at *
   obtain ⟨a, b, e, f⟩ := s
   simp only at hg at_s q2 q3 q4
   have hab : Wd.ptB a b = true ∧ Wd.ptB e f = true := by unfold Wd.sgB at hg; rwa [Bool.and_eq_true] at hg
   have PA := pof_ok (p := (a, b, 1)) (spotOk_of hab.1) c1
   have PB := pof_ok (p := (e, f, 1)) (spotOk_of hab.2) c1
   have clen := pl_len c
   have cv : (Value.int .i64 ((pl c).length : Int)) = i6 c.length := by rw [clen]
   have cpos : 0 < c.length := head_pos q2
   have at0 : (pl c)[0]? = some [.v (i6 (Wd.cellZ a 1 size)), .v (i6 (Wd.cellZ b 1 size))] := by
    cases c with
    | nil => cases q2
    | cons x t => cases q2; rfl
   have atz : (pl c)[c.length - 1]? = some [.v (i6 (Wd.cellZ e 1 size)), .v (i6 (Wd.cellZ f 1 size))] := by
    rw [List.getLast?_eq_getElem?] at q3
    show (c.map _)[c.length - 1]? = _
    rw [List.getElem?_map, q3]; rfl
   have ua : FnP Pg 38 [] [pA a b] [] [] (sp3 (a, b, 1)) := fnp_of (args := [Wd.pV a b]) fun w => at_any a b hab.1 w
   have ub : FnP Pg 38 [] [pA e f] [] [] (sp3 (e, f, 1)) := fnp_of (args := [Wd.pV e f]) fun w => at_any e f hab.2 w
   have t0 : ∀ x y : Int, (decide (x = x) && decide (y = y)) = true := fun x y => by simp
   refine gq [15] (lp 15 lnB [K]) (.v 55 (bt (show (i : Int) < (ss.length : Nat) by omega)) <| .i (z := (i : Int)) (n := i) (len := (gl ss).length) 57 rfl (by rw [glen]; exact hx) <| .l 58 at_s <| .i (z := (i : Int)) (n := i) (len := (pll l).length) 62 rfl (by rw [plen]; omega) <| .l 63 at_c <| .f 67 [] [] ua <| .f 70 [] [] PA <| .f 76 [] [] ub <| .f 79 [] [] PB <|
    .v 83 cv <| .v 84 (ef (show (c.length : Int) ≠ 0 by omega)) <| .i (z := 0) (n := 0) (len := (pl c).length) 95 rfl (by rw [clen]; exact cpos) <| .l 96 at0 <| .m 98 (fun w _ => nep_c (.tmp 96) (.tmp 97) (t0 (Wd.cellZ a 1 size) (Wd.cellZ b 1 size)) w) <| .v 103 cv <| .v 104 (w64 (z := (c.length : Int) - 1) (by omega)) <| .i (z := (c.length : Int) - 1) (n := c.length - 1) (len := (pl c).length) 105 (by omega) (by rw [clen]; omega) <| .l 106 atz <| .m 108 (fun w _ => nep_c (.tmp 106) (.tmp 107) (t0 (Wd.cellZ e 1 size) (Wd.cellZ f 1 size)) w) <| .v 111 cv .nil)
    [0, 1, 2, 3, 4, 5, 6, 7] [(1, .a (.p 2 0)), (3, .a (.p 5 0)), (52, .a (.w 1)), (53, vi ss.length), (54, vi ((i : Nat) : Int)), (6, .a (.p 6 0)), (110, .a (.w 7)), (111, vi c.length), (112, vi ((0 : Nat) : Int))] (lnX ps ss size n (setC L) l (1 + j) fx ++ [.box [.v (i6 a), .v (i6 b), .v (i6 e), .v (i6 f)] 43, .sl 2 (pl c)]) fun d => ?_
   refine loop (β := { i : Nat // i ≤ c.length }) (fun x d => ⟨d, [(1, .a (.p 2 0)), (3, .a (.p 5 0)), (52, .a (.w 1)), (53, vi ss.length), (54, vi ((i : Nat) : Int)), (6, .a (.p 6 0)), (110, .a (.w 7)), (111, vi c.length), (112, vi ((x.1 : Nat) : Int))], mkX (lnX ps ss size n (setC L) l (1 + j) fx ++ [.box [.v (i6 a), .v (i6 b), .v (i6 e), .v (i6 f)] 43, .sl 2 (pl c)])⟩) (fun x => c.length - x.1) (by kernel_rfl) (fun x K2 ih2 d => ?_) ⟨0, Nat.zero_le _⟩ d
   obtain ⟨m, hm'⟩ := x
   try simp only at hm'
   by_cases hx' : m < c.length
   ·have hw : c.getD m (0, 0) ∈ c := List.mem_of_getElem? (get_q c _ hx')
    have at_m := pl_at c hx'
    have hpt := hH.pt _ (qn _ hw)
    have hnr := Wd.nr_near (Int.mul_nonneg (show (0 : Int) ≤ ((1 + j : Nat) : Int) by omega) (show 0 ≤ size by omega)) (q4 _ hw)
    generalize c.getD m (0, 0) = w at *
    have NE := chnear_ok a b e f w.1 w.2 size ((1 + j : Nat) : Int) c1 hg hpt (by omega) (by omega)
    rw [hnr] at NE
    refine gq [] (lpK 15 lnB [K] K2) (.v 113 (bt (show (m : Int) < (c.length : Nat) by omega)) <| .i (z := (m : Int)) (n := m) (len := (pl c).length) 114 rfl (by rw [clen]; exact hx') <| .l 115 at_m <| .f 122 [] [] NE <| .v 124 (w64 (z := (m : Int) + 1) (by omega)) .nil) [0, 1, 2, 3, 4, 5, 6, 7] [(1, .a (.p 2 0)), (3, .a (.p 5 0)), (52, .a (.w 1)), (53, vi ss.length), (54, vi ((i : Nat) : Int)), (6, .a (.p 6 0)), (110, .a (.w 7)), (111, vi c.length), (112, vi ((m + 1 : Nat) : Int))] (lnX ps ss size n (setC L) l (1 + j) fx ++ [.box [.v (i6 a), .v (i6 b), .v (i6 e), .v (i6 f)] 43, .sl 2 (pl c)]) fun d => ?_
    exact ih2 ⟨m + 1, hx'⟩ d (by simp only; omega)
   ·refine gq [] (lpK 7 lnB [] K) (.v 113 (bf (show ¬ (m : Int) < (c.length : Nat) by omega)) <| .v 125 (w64 (z := (i : Int) + 1) (by omega)) .nil) [0, 1, 2, 3, 4, 5] [(1, .a (.p 2 0)), (3, .a (.p 5 0)), (52, .a (.w 1)), (53, vi ss.length), (54, vi ((i + 1 : Nat) : Int))] (lnX ps ss size n (setC L) l (1 + j) fx) fun d => ?_
    exact ih ⟨i + 1, hx⟩ d (by simp only; omega)
  ·exact dn (.v 55 (bf (show ¬ (i : Int) < (ss.length : Nat) by omega)) <| .f 126 [] [] awake18_ok .nil) [0, 1]
end Go.Proofs.YtlkhneiccjhgdaaGreat
namespace Go.Rg
open Go Go.RowKit
section
variable {P : Program} {ops : Array Oper} {md : Region.Mode} {a0 : Act} {S : Nat → Value → World → Prop} {R : World → World → Prop} {C : World → Prop}
structure Pre (md : Region.Mode) (ops : Array Oper) (a0 : Act) (S : Nat → Value → World → Prop) (C : World → Prop) (j : Nat) (o : Oper) (a : Act) (w : World) : Prop where
 base : C w
 size : a.tmps.size = a0.tmps.size
 had : ∀ (k : Nat) (ok : Oper) (d : Tmp), ops[k]? = some ok → ok.dst = some d → waitB md o k = true → ∃ v, a.tmps[d]? = some v ∧ S k v w
 yet : ∀ t : Tmp, (∀ (k : Nat) (ok : Oper), ops[k]? = some ok → ok.dst = some t → k = j ∨ waitB md ok j = true) → a.tmps[t]? = a0.tmps[t]?
structure DInv (md : Region.Mode) (ops : Array Oper) (a0 : Act) (S : Nat → Value → World → Prop) (C : World → Prop) (listed : Array Bool) (a : Act) (w : World) : Prop where
 base : C w
 len : listed.size = ops.size
 size : a.tmps.size = a0.tmps.size
 defers : a.defers = a0.defers
 had : ∀ (k : Nat) (ok : Oper) (d : Tmp), ops[k]? = some ok → ok.dst = some d → listed.getD k false = true → ∃ v, a.tmps[d]? = some v ∧ S k v w
 yet : ∀ t : Tmp, (∀ (k : Nat) (ok : Oper), ops[k]? = some ok → ok.dst = some t → listed.getD k false = false) → a.tmps[t]? = a0.tmps[t]?
 close : ∀ (k : Nat) (ok : Oper), ops[k]? = some ok → listed.getD k false = true → ∀ j, waitB md ok j = true → listed.getD j false = true
structure DStat (ops : Array Oper) (a0 : Act) : Prop where
 one : ∀ (k k' : Nat) (o o' : Oper) (d : Tmp), ops[k]? = some o → ops[k']? = some o' → o.dst = some d → o'.dst = some d → k = k'
 room : ∀ (k : Nat) (o : Oper) (d : Tmp), ops[k]? = some o → o.dst = some d → d < a0.tmps.size
theorem put_at (a : Act) (dst : Option Tmp) (v : Value) (t : Tmp) (h : dst ≠ some t) : (a.put dst v).tmps[t]? = a.tmps[t]? := by
 cases dst with
 | none => rfl
 | some d =>
  rw [put_tmps, if_neg (fun e => h (by rw [e]))]
theorem DInv.next (T : DStat ops a0) {listed : Array Bool} {a : Act} {w w' : World} {j : Nat} {o : Oper} {v : Value} (hS : ∀ k v w w', S k v w → R w w' → S k v w') (hC : ∀ w w', C w → R w w' → C w') (h : DInv md ops a0 S C listed a w) (hj : ops[j]? = some o)
  (hall : ∀ k, waitB md o k = true → listed.getD k false = true) (hun : listed.getD j false = false) (hr : R w w') (hv : S j v w') : DInv md ops a0 S C (listed.setIfInBounds j true) (a.put o.dst v) w' := by
 have hjl : j < listed.size := by rw [h.len]; exact (Array.getElem?_eq_some_iff.1 hj).1
 refine ⟨hC _ _ h.base hr, by simpa using h.len, by rw [put_size]; exact h.size, by unfold Act.put; split <;> exact h.defers, fun k ok d hk hd hl => ?_, fun t ht => ?_, fun k ok hk hl i hi => ?_⟩
 ·by_cases e : j = k
  ·subst e
   rw [hj] at hk; cases hk
   refine ⟨v, ?_, hv⟩
   rw [hd, put_tmps, if_pos rfl, if_pos (by rw [h.size]; exact T.room j o d hj hd)]
  ·rw [getD_set_ne false e] at hl
   obtain ⟨u, hu, hs⟩ := h.had k ok d hk hd hl
   refine ⟨u, ?_, hS _ _ _ _ hs hr⟩
   rw [put_at _ _ _ _ (fun e2 => e (T.one j k o ok d hj hk e2 hd))]; exact hu
 ·have hd : o.dst ≠ some t := fun e => by
   have := ht j o hj e
   rw [getD_set_eq hjl] at this; cases this
  rw [put_at _ _ _ _ hd]
  exact h.yet t fun k ok hk hkd => by
   have := ht k ok hk hkd
   by_cases e : j = k
   ·subst e; rw [getD_set_eq hjl] at this; cases this
   ·rwa [getD_set_ne false e] at this
 ·rw [getD_set_iff hjl]
  by_cases e : j = k
  ·subst e; rw [hj] at hk; cases hk
   rw [hall i hi]; simp
  ·rw [getD_set_ne false e] at hl
   rw [h.close k ok hk hl i hi]; simp
theorem Pre.ev {j : Nat} {o : Oper} {a : Act} {w : World} (h : Pre md ops a0 S C j o a w) (k : Nat) (ok : Oper) (d : Tmp) (hk : ops[k]? = some ok) (hd : ok.dst = some d) (hw : waitB md o k = true) : ∃ v, a.tmps[d]?.getD undef = v ∧ S k v w := by
 obtain ⟨v, h1, h2⟩ := h.had k ok d hk hd hw
 exact ⟨v, by simp [h1], h2⟩
def yetB (md : Region.Mode) (ops : Array Oper) (j : Nat) (t : Tmp) : Bool := (List.range ops.size).all fun k => match ops[k]? with | some ok => ok.dst != some t || k == j || waitB md ok j | none => true
theorem Pre.old {j : Nat} {o : Oper} {a : Act} {w : World} (h : Pre md ops a0 S C j o a w) (t : Tmp) (hy : yetB md ops j t = true) : a.tmps[t]?.getD undef = a0.tmps[t]?.getD undef := by
 have := h.yet t fun k ok hk hd => by
  unfold yetB at hy
  rw [List.all_eq_true] at hy
  have h2 := hy k (List.mem_range.2 (Array.getElem?_eq_some_iff.1 hk).1)
  rw [hk] at h2
  simp only [hd, Bool.or_eq_true, beq_iff_eq] at h2
  rcases h2 with (h2 | h2) | h2
  ·simp at h2
  ·exact .inl h2
  ·exact .inr h2
 rw [this]
end
end Go.Rg
namespace Go.Wd
open Go
end Go.Wd
namespace Go.Proofs.YtlkhneiccjhgdaaGreat
open Go.RowKit Go.Rg Go.Wd
attribute [local go_sem] Oper.semAt_some
end Go.Proofs.YtlkhneiccjhgdaaGreat
namespace Go.Proofs.YtlkhneiccjhgdaaGreat
open Go.RowKit Go.Rg Go.Wd
attribute [local go_sem] Oper.semAt_some
end Go.Proofs.YtlkhneiccjhgdaaGreat
namespace Go.Proofs.YtlkhneiccjhgdaaGreat
open Go.RowKit Go.Rg Go.Wd
attribute [local go_sem] Oper.semAt_some
end Go.Proofs.YtlkhneiccjhgdaaGreat
namespace Go.Wd
open Go
end Go.Wd
namespace Go.Proofs.YtlkhneiccjhgdaaGreat
open Go.RowKit Go.Rg Go.Wd
attribute [local go_sem] Oper.semAt_some
end Go.Proofs.YtlkhneiccjhgdaaGreat
namespace Go.Rg
open Go Go.RowKit
section
variable {P : Program}
end
end Go.Rg
namespace Go.Rg
open Go Go.RowKit
section
variable {P : Program} (w : World)
end
end Go.Rg
namespace Go.Rg
open Go Go.RowKit
section
variable {P : Program}
end
end Go.Rg
namespace Go.Rg
open Go Go.RowKit
section
variable {P : Program}
end
end Go.Rg
namespace Go.Rg
open Go Go.RowKit
section
variable {P : Program}
end
end Go.Rg
namespace Go.Rg
open Go Go.RowKit
theorem SlC.tail {w : World} {a : Option Addr} {n c sz : Nat} {e : List Value} {es : List (List Value)} (h : SlC w (.slice a n c) sz (e :: es)) :
  SlC w (.slice (if c = 1 then a else a.map (·.add (1 * sz))) (n - 1) (c - 1)) sz es := by
 have hl : n = (e :: es).length := by
  obtain ⟨a', c', e', _⟩ := h
  injection e' with _ h2
 have := h.sub 1 n (by rw [hl]; simp) (by rw [hl]; exact Nat.le_refl _)
 rw [hl, List.take_length] at this
 simpa [hl] using this
theorem SlC.head {w : World} {a : Option Addr} {n c sz : Nat} {e : List Value} {es : List (List Value)} (h : SlC w (.slice a n c) sz (e :: es)) :
  ∃ g off, a = some ⟨g, off, none⟩ ∧ g < w.heap.size ∧ w.rangeAt g off e ∧ e.length = sz := by
 obtain ⟨g, off, h1, h2, h3, h4⟩ := h.elem (i := 0) rfl
 exact ⟨g, off, h1, h2, by simpa using h3, h4⟩
end Go.Rg
namespace Go.Rg
open Go Go.RowKit
end Go.Rg
namespace Go.Rg
open Go Go.RowKit
end Go.Rg
namespace Go.Proofs.YtlkhneiccjhgdaaGreat
open Go.RowKit Go.Rg Go.Wd
namespace Op
section
variable {H : Type} {enc : TypeId × Value → H} {P : Program} {w : World} {sp : Nat → Bool} {held : Bool}
theorem open_rows {A : Type} (R : List Value → A → Prop) (μ : A → Nat) {e : TypeId} {k n : Nat} (hk : P.cellsOf e = k) (a : Addr)
  (each : ∀ cs y, cs.length = k → DataW.trod enc P w 0 sp held n e cs = some y → ∃ x : A, R cs x ∧ μ x ≤ Rows.uptoBulk y.1) : ∀ (els : List (DataW H × List MemPlace)) (off : Nat),
  (∀ i, i < els.length → (w.cells? 0 (a.add ((off + i) * P.cellsOf e)) (P.cellsOf e)).bind (DataW.trod enc P w 0 sp held n e) = els[i]?) →
  ∃ (l : List A) (xs : List Value), l.length = els.length ∧ xs.length = l.length * k ∧ (∀ j x, xs[j]? = some x → w.cell? (a.add (off * k + j)) = some x) ∧ (∀ i x, l[i]? = some x → R ((xs.drop (i * k)).take k) x) ∧ (l.map μ).sum ≤ Rows.uptoBulkAll (els.map (·.1)) := by
 intro els
 induction els with
 | nil => intro off _; exact ⟨[], [], rfl, by simp, fun j x h => by simp at h, fun i x h => by simp at h, by simp⟩
 | cons y els ih =>
  intro off h
  obtain ⟨l, xs, h1, h2, h3, h4, h5⟩ := ih (off + 1) (fun i hi => by
   have := h (i + 1) (by simp; omega)
   rw [show off + 1 + i = off + (i + 1) from by omega]
   rw [this]; rfl)
  have h0 := h 0 (by simp)
  rw [Nat.add_zero, hk] at h0
  obtain ⟨cs, hcs, hy⟩ := Option.bind_eq_some_iff.1 (show _ = some y from h0)
  obtain ⟨_, hl, hc⟩ := World.cells?_some hcs
  obtain ⟨x0, hx0, hm0⟩ := each cs y hl hy
  refine ⟨x0 :: l, cs ++ xs, by simp [h1], by rw [List.length_append, hl, h2, List.length_cons, Nat.add_mul, Nat.one_mul, Nat.add_comm], ?_, ?_, ?_⟩
  ·intro j x hj
   rcases Nat.lt_or_ge j k with h | h
   ·rw [List.getElem?_append_left (by omega)] at hj
    have := hc j h
    rw [Addr.add_add] at this
    rw [this]; exact hj
   ·rw [List.getElem?_append_right (by omega), hl] at hj
    have := h3 (j - k) x hj
    have e : (off + 1) * k + (j - k) = off * k + j := by rw [Nat.add_mul, Nat.one_mul]; omega
    rw [e] at this; exact this
  ·intro i x hi
   cases i with
   | zero =>
    cases hi
    rw [Nat.zero_mul, List.drop_zero, List.take_append_of_le_length (by omega), List.take_of_length_le (by omega)]
    exact hx0
   | succ i =>
    have := h4 i x hi
    have e : (cs ++ xs).drop ((i + 1) * k) = xs.drop (i * k) := by
     rw [List.drop_append, List.drop_eq_nil_of_le (by rw [hl, Nat.add_mul, Nat.one_mul]; omega), List.nil_append, hl]
     congr 1
     rw [Nat.add_mul, Nat.one_mul]; omega
    rw [e]; exact this
  ·simp only [List.map_cons, List.sum_cons, Rows.uptoBulkAll]
   omega
theorem open_slE {A : Type} (R : List Value → A → Prop) (μ : A → Nat) {t e : TypeId} {k : Nat} (ht : P.underlying t = some (.slice e)) (hk : P.cellsOf e = k) (hk0 : 0 < k)
  (each : ∀ n cs y, cs.length = k → DataW.trod enc P w 0 sp held n e cs = some y → ∃ x : A, R cs x ∧ μ x ≤ Rows.uptoBulk y.1) {fuel : Nat} {cs : List Value} {x : DataW H × List MemPlace} (h : DataW.trod enc P w 0 sp held fuel t cs = some x) :
  ∃ (v : Value) (l : List A) (xs : List Value), cs = [v] ∧ ReadsE w w.heap.size v l.length xs ∧ xs.length = l.length * k ∧ (∀ (i : Nat) (y : A), l[i]? = some y → R ((xs.drop (i * k)).take k) y) ∧ (l.map μ).sum + 1 ≤ Rows.uptoBulk x.1 ∧ (∀ a n c, v = .slice a n c → c ≤ maxLen) := by
 rcases DataW.trod_slice ht h with ⟨rfl, rfl⟩ | ⟨a, len, cap, elems, rest, n, _, rfl, rfl, hb, hl, hm, hlen, hel, _, _⟩
 ·exact ⟨_, [], [], rfl, .inl (.inl ⟨rfl, rfl, rfl⟩), by simp, fun i y h => by simp at h, by simp [Rows.uptoBulk], fun a n c h => by cases h; exact Nat.zero_le _⟩
 ·obtain ⟨l, xs, h1, h2, h3, h4, h5⟩ := open_rows R μ hk a (each n) elems 0 (fun i hi => by rw [Nat.zero_add]; exact hel i (by omega))
  have hll : l.length = len := h1.trans hlen
  refine ⟨_, l, xs, rfl, ?_, h2, h4, ?_, fun a n c h => by cases h; exact hm⟩
  ·cases xs with
   | nil =>
    have h0 : l.length = 0 := by
     rcases Nat.eq_zero_or_pos l.length with h | h
     ·exact h
     ·have := Nat.mul_pos h hk0; rw [← h2] at this; simp at this
    exact .inr ⟨h0, rfl, a, cap, by rw [← hll, h0]⟩
   | cons y r =>
    obtain ⟨g, off, spot⟩ := a
    have c0 := h3 0 y rfl
    have hspot : spot = none := by simpa [Addr.add] using World.cell?_spot c0
    subst hspot
    have hc : ∀ j z, (y :: r)[j]? = some z → w.cell? ⟨g, off + j, none⟩ = some z := fun j z hj => by
     have := h3 j z hj
     rw [Nat.zero_mul, Nat.zero_add, WideShapes.add_plain] at this
     exact this
    have c1 := hc 0 y rfl
    refine .inl (.inr ⟨g, off, cap, by rw [hll], ?_, by omega, hm, hc⟩)
    unfold World.cell? at c1
    rcases Nat.lt_or_ge g w.heap.size with h | h
    ·exact h
    ·rw [Array.getElem?_eq_none h] at c1; simp at c1
  ·simp only [Rows.uptoBulk]
   omega
theorem open_i (t : TypeId) (ht : P.underlying t = some (.int .i64)) {n : Nat} {cs : List Value} {x : DataW H × List MemPlace} (h : DataW.trod enc P w 0 sp held n t cs = some x) : ∃ z : Int, cs = [.int .i64 z] ∧ Rows.uptoBulk x.1 = 1 := by
 obtain ⟨z, rfl, rfl, _⟩ := DataW.trod_int ht h
 exact ⟨z, rfl, by simp [Rows.uptoBulk]⟩
end
section
variable {H : Type} {enc : TypeId × Value → H} {w : World} {sp : Nat → Bool} {held : Bool}
theorem c_int : Tryz.prog.cellsOf 3 = 1 := by kernel_rfl
theorem c_pt : Tryz.prog.cellsOf 41 = 2 := by kernel_rfl
theorem open_pt {n : Nat} {cs : List Value} {x : DataW H × List MemPlace} (h : DataW.trod enc Tryz.prog w 0 sp held n 41 cs = some x) : ∃ p : Int × Int, cs = [.int .i64 p.1, .int .i64 p.2] ∧ 1 ≤ Rows.uptoBulk x.1 := by
 obtain ⟨xs, m, _, rfl, hl, hlen, hf⟩ := DataW.trod_struct Tryz.underlying41 h
 rw [c_pt] at hl
 match cs, hl with
 | [a, b], _ =>
  match xs, hlen with
  | [y0, y1], _ =>
   have h0 := hf 0 _ rfl
   have h1 := hf 1 _ rfl
   obtain ⟨z0, e0, m0⟩ := open_i _ Tryz.underlying3 (show DataW.trod enc Tryz.prog w 0 sp held m 3 _ = some y0 from h0)
   obtain ⟨z1, e1, m1⟩ := open_i _ Tryz.underlying3 (show DataW.trod enc Tryz.prog w 0 sp held m 3 _ = some y1 from h1)
   have e0 : ([a, b].drop 0).take (Tryz.prog.cellsOf 3) = [Value.int .i64 z0] := e0
   have e1 : ([a, b].drop 1).take (Tryz.prog.cellsOf 3) = [Value.int .i64 z1] := e1
   rw [c_int] at e0 e1
   have ea : a = .int .i64 z0 := by simpa using e0
   have eb : b = .int .i64 z1 := by simpa using e1
   refine ⟨(z0, z1), by rw [ea, eb], ?_⟩
   simp [Rows.uptoBulk]
end
end Op
end Go.Proofs.YtlkhneiccjhgdaaGreat
namespace Go.Proofs.YtlkhneiccjhgdaaGreat
open Go.RowKit Go.Rg Go.Eo
namespace Op
section
variable {H : Type} {enc : TypeId × Value → H} {P : Program} {w : World} {sp : Nat → Bool} {held : Bool}
abbrev old (w : World) (g : Nat) : Prop := g < w.heap.size
theorem open_slR {A : Type} (E : A → List Dt) (μ : A → Nat) {t e : TypeId} {k : Nat} (ht : P.underlying t = some (.slice e)) (hk : P.cellsOf e = k) (hk0 : 0 < k)
  (each : ∀ n cs y, cs.length = k → DataW.trod enc P w 0 sp held n e cs = some y → ∃ x : A, (E x).length = k ∧ (∀ (j : Nat) (d : Dt), (E x)[j]? = some d → ∃ v : Value, cs[j]? = some v ∧ Rd w (old w) v d) ∧ μ x ≤ Rows.uptoBulk y.1) {fuel : Nat} {cs : List Value} {x : DataW H × List MemPlace} (h : DataW.trod enc P w 0 sp held fuel t cs = some x) :
  ∃ (v : Value) (l : List A), cs = [v] ∧ Rd w (old w) v (.s k (l.map E)) ∧ (l.map μ).sum + 1 ≤ Rows.uptoBulk x.1 := by
 obtain ⟨v, l, xs, rfl, hr, hx, hR, hm, hcap⟩ := open_slE (fun (cs : List Value) (x : A) => (E x).length = k ∧ ∀ (j : Nat) (d : Dt), (E x)[j]? = some d → ∃ v : Value, cs[j]? = some v ∧ Rd w (old w) v d) μ ht hk hk0 (fun n cs y h1 h2 => by obtain ⟨x, g1, g2, g3⟩ := each n cs y h1 h2; exact ⟨x, ⟨g1, g2⟩, g3⟩) h
 refine ⟨v, l, rfl, ?_, hm⟩
 have hlm : (l.map E).length = l.length := List.length_map _
 have nil : ∀ (a : Option Addr) (c : Nat), (a = none → c = 0) → c ≤ maxLen → l = [] → Rd w (old w) (.slice a l.length c) (.s k (l.map E)) := fun a c h0 h1 e => by
  subst e
  exact .s (es := []) (fun _ _ => undef) h0 (Nat.zero_le _) h1 (by simp) (fun h => absurd rfl h) (fun g off _ i e j d h => by cases h) (fun i e j d h => by cases h)
 rcases hr with (⟨rfl, h0, _⟩ | ⟨g, off, c, rfl, hg, hn, hc, hcell⟩) | ⟨h0, _, a, c, rfl⟩
 ·have e : l = [] := List.eq_nil_of_length_eq_zero h0
  have := nil none 0 (fun _ => rfl) (Nat.zero_le _) e
  rwa [e] at this ⊢
 ·have key : ∀ (i : Nat) (e : List Dt) (j : Nat) (d : Dt), (l.map E)[i]? = some e → e[j]? = some d → ∃ v : Value, xs[i * k + j]? = some v ∧ Rd w (old w) v d := fun i e j d hi hj => by
   rw [List.getElem?_map] at hi
   obtain ⟨y, hy, rfl⟩ := Option.map_eq_some_iff.1 hi
   obtain ⟨q1, q2⟩ := hR i y hy
   obtain ⟨v, hv, hd⟩ := q2 j d hj
   rw [List.getElem?_take] at hv
   split at hv
   ·rw [List.getElem?_drop] at hv
    exact ⟨v, hv, hd⟩
   ·cases hv
  have := Rd.s (w := w) (ι := old w) (a := some ⟨g, off, none⟩) (c := c) (z := k) (es := l.map E) (fun i j => xs.getD (i * k + j) undef) (fun h => by cases h) (by rw [hlm]; exact hn) hc (fun e he => by obtain ⟨x, hx', rfl⟩ := List.mem_map.1 he; obtain ⟨i, hi⟩ := List.getElem?_of_mem hx'; exact (hR i x hi).1) (fun _ => ⟨g, off, rfl, hg⟩)
   (fun g' off' he i e j d hi hj => by
    cases he
    obtain ⟨v, hv, _⟩ := key i e j d hi hj
    show _ = some _
    rw [List.getD_eq_getElem?_getD, hv]
    exact hcell _ _ hv)
   (fun i e j d hi hj => by
    obtain ⟨v, hv, hd⟩ := key i e j d hi hj
    rw [List.getD_eq_getElem?_getD, hv]
    exact hd)
  rwa [hlm] at this
 ·have e : l = [] := List.eq_nil_of_length_eq_zero h0
  have := nil (some a) c (fun h => by cases h) (hcap _ _ _ rfl) e
  rwa [e] at this ⊢
theorem rd_slV {v : Value} {z : Nat} {es : List (List Dt)} (h : Rd w (old w) v (.s z es)) : slV v = v := by cases h; rfl
theorem rd_ints {zs : List Int} {cs : List Value} (h : cs = zs.map fun z => .int .i64 z) : ∀ (j : Nat) (d : Dt), (zs.map fun z => Dt.v (.int .i64 z))[j]? = some d → ∃ v : Value, cs[j]? = some v ∧ Rd w (old w) v d := fun j d hj => by
 subst h
 rw [List.getElem?_map] at hj ⊢
 obtain ⟨z, hz, rfl⟩ := Option.map_eq_some_iff.1 hj
 rw [hz]
 exact ⟨_, rfl, .v _ rfl⟩
end
section
variable {H : Type} {enc : TypeId × Value → H} {w : World} {sp : Nat → Bool} {held : Bool}
theorem openR_pts {n : Nat} {cs : List Value} {x : DataW H × List MemPlace} (h : DataW.trod enc Tryz.prog w 0 sp held n 22 cs = some x) : ∃ (v : Value) (l : List (Int × Int)), cs = [v] ∧ Rd w (old w) v (.s 2 (l.map fun p => [.v (.int .i64 p.1), .v (.int .i64 p.2)])) ∧ l.length + 1 ≤ Rows.uptoBulk x.1 := by
 obtain ⟨v, l, e, h1, h2⟩ := open_slR (fun p : Int × Int => [.v (.int .i64 p.1), .v (.int .i64 p.2)]) (fun _ => 1) Tryz.underlying22 c_pt (by decide) (fun n cs y _ hy => by obtain ⟨p, rfl, hb⟩ := open_pt hy; exact ⟨p, rfl, rd_ints (zs := [p.1, p.2]) rfl, hb⟩) h
 refine ⟨v, l, e, h1, ?_⟩
 have : ∀ l : List (Int × Int), (l.map fun _ => 1).sum = l.length := fun l => by induction l with | nil => rfl | cons a l ih => rw [List.map_cons, List.sum_cons, List.length_cons, ih]; omega
 rwa [this] at h2
theorem c_sg4 : Tryz.prog.cellsOf 43 = 4 := by kernel_rfl
theorem open_seg4 {n : Nat} {cs : List Value} {x : DataW H × List MemPlace} (h : DataW.trod enc Tryz.prog w 0 sp held n 43 cs = some x) : ∃ s : Int × Int × Int × Int, cs = [.int .i64 s.1, .int .i64 s.2.1, .int .i64 s.2.2.1, .int .i64 s.2.2.2] ∧ 1 ≤ Rows.uptoBulk x.1 := by
 obtain ⟨xs, m, _, rfl, hl, hlen, hf⟩ := DataW.trod_struct Tryz.underlying43 h
 rw [c_sg4] at hl
 match cs, hl with
 | [a0, a1, a2, a3], _ =>
  match xs, hlen with
  | [y0, y1], _ =>
   have h0 := hf 0 _ rfl
   have h1 := hf 1 _ rfl
   obtain ⟨p, e0, _⟩ := open_pt (show DataW.trod enc Tryz.prog w 0 sp held m 41 _ = some y0 from h0)
   obtain ⟨q, e1, _⟩ := open_pt (show DataW.trod enc Tryz.prog w 0 sp held m 41 _ = some y1 from h1)
   have e0 : ([a0, a1, a2, a3].drop 0).take (Tryz.prog.cellsOf 41) = [.int .i64 p.1, .int .i64 p.2] := e0
   have e1 : ([a0, a1, a2, a3].drop 2).take (Tryz.prog.cellsOf 41) = [.int .i64 q.1, .int .i64 q.2] := e1
   rw [c_pt] at e0 e1
   simp only [List.drop_zero, List.drop_succ_cons, List.take_succ_cons, List.take_zero, List.cons.injEq, and_true] at e0 e1
   refine ⟨(p.1, p.2, q.1, q.2), by rw [e0.1, e0.2, e1.1, e1.2], ?_⟩
   simp [Rows.uptoBulk]
theorem openR_segs {n : Nat} {cs : List Value} {x : DataW H × List MemPlace} (h : DataW.trod enc Tryz.prog w 0 sp held n 23 cs = some x) : ∃ (v : Value) (l : List (Int × Int × Int × Int)), cs = [v] ∧ Rd w (old w) v (.s 4 (l.map fun s => [.v (.int .i64 s.1), .v (.int .i64 s.2.1), .v (.int .i64 s.2.2.1), .v (.int .i64 s.2.2.2)])) := by
 obtain ⟨v, l, e, h1, h2⟩ := open_slR (fun s : Int × Int × Int × Int => [.v (.int .i64 s.1), .v (.int .i64 s.2.1), .v (.int .i64 s.2.2.1), .v (.int .i64 s.2.2.2)]) (fun _ => 1) Tryz.underlying23 c_sg4 (by decide) (fun n cs y _ hy => by obtain ⟨p, rfl, hb⟩ := open_seg4 hy; exact ⟨p, rfl, rd_ints (zs := [p.1, p.2.1, p.2.2.1, p.2.2.2]) rfl, hb⟩) h
 exact ⟨v, l, e, h1⟩
structure CaseD where
 v : Value
 u : Value
 ps : List (Int × Int)
 ss : List (Int × Int × Int × Int)
 size : Int
 rounds : Int
abbrev caseL (z : CaseD) : List Value := [z.v, z.u, .int .i64 z.size, .int .i64 z.rounds]
structure CaseD.Ok (w : World) (z : CaseD) : Prop where
 v : Rd w (old w) z.v (.s 2 (z.ps.map fun p => [.v (.int .i64 p.1), .v (.int .i64 p.2)]))
 u : Rd w (old w) z.u (.s 4 (z.ss.map fun s => [.v (.int .i64 s.1), .v (.int .i64 s.2.1), .v (.int .i64 s.2.2.1), .v (.int .i64 s.2.2.2)]))
theorem c_case : Tryz.prog.cellsOf 25 = 4 := by kernel_rfl
theorem c_sl1 : Tryz.prog.cellsOf 22 = 1 := by kernel_rfl
theorem c_sl2 : Tryz.prog.cellsOf 23 = 1 := by kernel_rfl
theorem open_case {n : Nat} {cs : List Value} {x : DataW H × List MemPlace} (h : DataW.trod enc Tryz.prog w 0 sp held n 25 cs = some x) : ∃ z : CaseD, cs = caseL z ∧ z.Ok w := by
 obtain ⟨xs, m, _, rfl, hl, hlen, hf⟩ := DataW.trod_struct Tryz.underlying25 h
 rw [c_case] at hl
 match cs, hl with
 | [a0, a1, a2, a3], _ =>
  match xs, hlen with
  | [y0, y1, y2, y3], _ =>
   have h0 := hf 0 _ rfl
   have h1 := hf 1 _ rfl
   have h2 := hf 2 _ rfl
   have h3 := hf 3 _ rfl
   obtain ⟨v, ps, e0, r0, _⟩ := openR_pts (show DataW.trod enc Tryz.prog w 0 sp held m 22 _ = some y0 from h0)
   obtain ⟨u, ss, e1, r1⟩ := openR_segs (show DataW.trod enc Tryz.prog w 0 sp held m 23 _ = some y1 from h1)
   obtain ⟨z2, e2, _⟩ := open_i _ Tryz.underlying3 (show DataW.trod enc Tryz.prog w 0 sp held m 3 _ = some y2 from h2)
   obtain ⟨z3, e3, _⟩ := open_i _ Tryz.underlying3 (show DataW.trod enc Tryz.prog w 0 sp held m 3 _ = some y3 from h3)
   have e0 : ([a0, a1, a2, a3].drop 0).take (Tryz.prog.cellsOf 22) = [v] := e0
   have e1 : ([a0, a1, a2, a3].drop 1).take (Tryz.prog.cellsOf 23) = [u] := e1
   have e2 : ([a0, a1, a2, a3].drop 2).take (Tryz.prog.cellsOf 3) = [.int .i64 z2] := e2
   have e3 : ([a0, a1, a2, a3].drop 3).take (Tryz.prog.cellsOf 3) = [.int .i64 z3] := e3
   rw [c_sl1] at e0
   rw [c_sl2] at e1
   rw [c_int] at e2 e3
   simp only [List.drop_zero, List.drop_succ_cons, List.take_succ_cons, List.take_zero, List.cons.injEq, and_true] at e0 e1 e2 e3
   exact ⟨⟨v, u, ps, ss, z2, z3⟩, by rw [e0, e1, e2, e3], r0, r1⟩
end
end Op
theorem law_case {F : Nat} (h : ∀ (ps : List (Int × Int)) (ss : List (Int × Int × Int × Int)) (size rounds : Int), FnP Tryz.prog F [.sl 2 (ps.map fun p : Int × Int => [.v (.int .i64 p.1), .v (.int .i64 p.2)]), .sl 4 (ss.map fun s : Int × Int × Int × Int => [.v (.int .i64 s.1), .v (.int .i64 s.2.1), .v (.int .i64 s.2.2.1), .v (.int .i64 s.2.2.2)])] [.g [.w 0, .w 1, .v (.int .i64 size), .v (.int .i64 rounds)]]
  [.sl 2 (ps.map fun p : Int × Int => [.v (.int .i64 p.1), .v (.int .i64 p.2)]), .sl 4 (ss.map fun s : Int × Int × Int × Int => [.v (.int .i64 s.1), .v (.int .i64 s.2.1), .v (.int .i64 s.2.2.1), .v (.int .i64 s.2.2.2)])] [] (.a (.v (.bool true)))) (z : Op.CaseD) (w : World) (hz : z.Ok w) :
  Calls Tryz.prog F #[.agg (Op.caseL z).toArray] w fun e w' => e = .returned (.bool true) ∧ Below w.heap.size w w' := by
 have := calls_rdr (h z.ps z.ss z.size z.rounds) rfl (fun j => match j with
  | 0 => z.v
  | 1 => z.u
  | _ => undef) w (fun j zz es hj => by
   match j, hj with
   | 0, hj => cases hj; exact hz.v
   | 1, hj => cases hj; exact hz.u
   | j + 2, hj => cases hj)
 simp only [List.map_cons, List.map_nil, AV.c, AC.c, Op.rd_slV hz.v, Op.rd_slV hz.u] at this
 exact this
end Go.Proofs.YtlkhneiccjhgdaaGreat
