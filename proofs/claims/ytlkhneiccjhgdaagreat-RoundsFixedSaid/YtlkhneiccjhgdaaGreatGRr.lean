/- The law RoundsNear. -/
import Derived.Test.YtlkhneiccjhgdaaGreatGRq
import Derived.Test.YtlkhneiccjhgdaaGreatGRb
import Derived.Test.YtlkhneiccjhgdaaGreatGRl
import Derived.Test.YtlkhneiccjhgdaaGreatGRk
import Derived.Test.YtlkhneiccjhgdaaGreatGRc
import Derived.Great.FillDense
set_option linter.unusedVariables false
set_option linter.unusedSimpArgs false
set_option maxRecDepth 100000
set_option maxRecDepth 100000
namespace Go.Proofs.YtlkhneiccjhgdaaGreat
open Go.Eo Go.RowKit Go.Rg
noncomputable abbrev lnB : Code := Tryz.f7.body.getD .skip
structure CaseOk (ps : List (Int × Int)) (ss : List E4) (size rounds : Int) (n : Nat) : Prop where
 sm : smallB ps ss = true
 wr : wrongF ps ss size rounds = 0
 r : rounds = n
 r1 : 1 ≤ n
 r2 : n ≤ 8
theorem CaseOk.sz {ps : List (Int × Int)} {ss : List E4} {size rounds : Int} {n : Nat} (h : CaseOk ps ss size rounds n) : Wd.szB size = true ∧ beyB ps ss = false ∧ ps.length ≤ 12 ∧ ss.length ≤ 10 := by
 have h1 := h.wr
 have h2 := h.sm
 unfold wrongF at h1
 unfold smallB at h2
 simp only [Bool.and_eq_true, decide_eq_true_eq] at h2
 split at h1
 ·cases h1
 ·rename_i c
  split at h1
  ·cases h1
  ·rename_i c2
   simp only [not_or] at c
   exact ⟨Wd.szB_iff.2 (by omega), by simpa using c2, by omega, by omega⟩
theorem case_cases (ps : List (Int × Int)) (ss : List E4) (size rounds : Int) : smallB ps ss = false ∨ (smallB ps ss = true ∧ wrongF ps ss size rounds ≠ 0) ∨ (smallB ps ss = true ∧ wrongF ps ss size rounds = 0 ∧ rounds > 8) ∨ ∃ n, CaseOk ps ss size rounds n := by
 cases h : smallB ps ss with
 | false => exact .inl rfl
 | true =>
  by_cases h2 : wrongF ps ss size rounds = 0
  ·by_cases h3 : rounds > 8
   ·exact .inr (.inr (.inl ⟨rfl, h2, h3⟩))
   ·have : 1 ≤ rounds := by
     unfold wrongF at h2
     split at h2
     ·cases h2
     ·rename_i c; simp only [not_or] at c; omega
    exact .inr (.inr (.inr ⟨rounds.toNat, h, h2, by omega, by omega, by omega⟩))
  ·exact .inr (.inl ⟨rfl, h2⟩)
abbrev lnX (ps : List (Int × Int)) (ss : List E4) (size rounds : Int) (cs : List (Int × Int)) (l : List (List (Int × Int))) (k : Nat) (b : Bool) : List Ob := caO ps ss ++ [.box [.w 0, .w 1, .v (i6 size), .v (i6 rounds)] 25, .sl 2 (pl cs), .sl 1 (pll l), .box [.w 3, .w 4, .v (i6 ((k : Nat) : Int)), .v (.bool b)] 30]
theorem small_len {ps : List (Int × Int)} {ss : List E4} (h : smallB ps ss = true) : ps.length < 1000000000 ∧ ss.length < 1000000000 := by
 unfold smallB at h; simp only [Bool.and_eq_true, decide_eq_true_eq] at h; omega
end Go.Proofs.YtlkhneiccjhgdaaGreat
set_option maxRecDepth 100000
namespace Go.Proofs.YtlkhneiccjhgdaaGreat
open Go.Eo Go.RowKit Go.Rg
noncomputable abbrev alnB : Code := Tryz.f36.body.getD .skip
def aloneB (l : List (Int × Int)) (a b : Int × Int) : Bool := l.all fun w => decide (w = a) || decide (w = b)
theorem alone_ok (cs : List (Int × Int)) (rows : List (Int × List Int)) (size : Int) {M : Nat} (hS : SetOk M rows) (hs : Wd.szB size = true) (a b : Int × Int) (ha : cenOk a.1 a.2 size = true) (hb : cenOk b.1 b.2 size = true) :
  FnP Pg 36 (setO cs rows 0) [pA a.1 a.2, pA b.1 b.2, .a (.p 0 0), vi size] (setO cs rows 0) [] (vb (aloneB (ofB (a.1 * size) (a.2 * size) (b.1 * size) (b.2 * size) size rows) a b)) := by
 have hg : Wd.sgB (a.1 * size) (a.2 * size) (b.1 * size) (b.2 * size) = true := by
  unfold cenOk at ha hb
  simp only [Bool.and_eq_true] at ha hb
  unfold Wd.sgB
  rw [ha.2, hb.2]; rfl
 have OF := fnp_fz [true] (hS.of (cs := cs) hg hs)
 have lS := hS.len (a.1 * size) (a.2 * size) (b.1 * size) (b.2 * size) size
 have hM := hS.m
 have fl : ∀ ob ∈ [Ob.row 41 2 (pl ([a, b].map (cenL size)))], Flat ob := fun ob h => by
  simp only [List.mem_singleton] at h
  subst h
  intro e he d hd
  obtain ⟨x, _, rfl⟩ := List.mem_map.1 he
  simp only [List.mem_cons, List.not_mem_nil, or_false] at hd
  rcases hd with rfl | rfl <;> rfl
 have CE : FnP Pg 25 [.row 41 2 (pl [a, b])] [.a (.w 0), vi size] [.row 41 2 (pl [a, b])] [.row 41 2 (pl ([a, b].map (cenL size)))] (.t [.a (.w 1), .a (.v (i6 0))]) := fnp_own [true] [41] (cens_ok [a, b] size (by simp) (fun p hp => by
  simp only [List.mem_cons, List.not_mem_nil, or_false] at hp
  rcases hp with rfl | rfl <;> assumption)) rfl fl rfl rfl rfl
 generalize ofB (a.1 * size) (a.2 * size) (b.1 * size) (b.2 * size) size rows = l at *
 obtain ⟨r, hr⟩ : ∃ r, r = aloneB l a b := ⟨_, rfl⟩
 rw [← hr]
 have hlen := pl_len l
 have hv : (Value.int .i64 ((pl l).length : Int)) = i6 l.length := by rw [hlen]
 refine fq Tryz.func36 fun C => ?_
 refine gq [6] (lp 6 alnB []) (.f 19 [5] [0] CE <| .i (z := 0) (n := 0) (len := (pl ([a, b].map (cenL size))).length) 26 rfl (by simp) <| .l (es := pl ([a, b].map (cenL size))) (n := 0) (e := [.v (i6 (a.1 * size)), .v (i6 (a.2 * size))]) 27 rfl <| .i (z := 1) (n := 1) (len := (pl ([a, b].map (cenL size))).length) 29 rfl (by simp) <| .l (es := pl ([a, b].map (cenL size))) (n := 1) (e := [.v (i6 (b.1 * size)), .v (i6 (b.2 * size))]) 30 rfl <| .f 34 [0, 1, 2] [0, 1, 2] OF <| .v 38 hv .nil) [0, 1, 2, 3, 4, 7] [(4, .a (.p 3 0)), (5, .a (.p 4 0)), (10, vi 0), (37, .a (.w 5)), (38, vi l.length), (39, vi ((0 : Nat) : Int))] (setO cs rows 0 ++ [.box [.v (i6 a.1), .v (i6 a.2)] 41, .box [.v (i6 b.1), .v (i6 b.2)] 41, .sl 2 (pl l)]) fun d => ?_
 refine loop (β := { i : Nat // i ≤ l.length ∧ ∀ k, k < i → l.getD k (0, 0) = a ∨ l.getD k (0, 0) = b }) (fun x d => ⟨d, [(4, .a (.p 3 0)), (5, .a (.p 4 0)), (10, vi 0), (37, .a (.w 5)), (38, vi l.length), (39, vi ((x.1 : Nat) : Int))], mkX (setO cs rows 0 ++ [.box [.v (i6 a.1), .v (i6 a.2)] 41, .box [.v (i6 b.1), .v (i6 b.2)] 41, .sl 2 (pl l)])⟩) (fun x => l.length - x.1) (by kernel_rfl) (fun x K ih d => ?_) ⟨0, Nat.zero_le _, fun k hk => absurd hk (Nat.not_lt_zero _)⟩ d
 obtain ⟨i, hi, hg'⟩ := x
 try simp only at hi hg'
 by_cases hx : i < l.length
 ·have at_i := pl_at l hx
  have hmem : l.getD i (0, 0) ∈ l := List.mem_of_getElem? (get_q l _ hx)
  have ok : l.getD i (0, 0) = a ∨ l.getD i (0, 0) = b → ∀ k, k < i + 1 → l.getD k (0, 0) = a ∨ l.getD k (0, 0) = b := fun h k hk => by
   rcases Nat.lt_or_ge k i with h' | h'
   ·exact hg' k h'
   ·rw [show k = i by omega]; exact h
  generalize l.getD i (0, 0) = w at *
  have its := fun (r : List It) (R : Its Pg C.W C.D r) => (.v 40 (bt (show (i : Int) < (l.length : Nat) by omega)) <| .i (z := (i : Int)) (n := i) (len := (pl l).length) 41 rfl (by rw [hlen]; exact hx) <| .l 42 at_i R : Its Pg C.W C.D _)
  have eqk : ∀ {p q : Int × Int} {k : Bool}, (decide (p.1 = q.1) && decide (p.2 = q.2)) = k → (k = true ↔ p = q) := fun {p q k} h => by
   subst h
   simp only [Bool.and_eq_true, decide_eq_true_eq]
   exact ⟨fun h => Prod.ext h.1 h.2, fun h => by subst h; exact ⟨rfl, rfl⟩⟩
  cases h1 : (decide (w.1 = a.1) && decide (w.2 = a.2)) with
  | true =>
   refine gq [] (lpK 6 alnB [] K) (its _ (.m 45 (fun w _ => nep_c (.tmp 43) (.tmp 44) h1 w) <| .v 51 (w64 (z := (i : Int) + 1) (by omega)) .nil)) [0, 1, 2, 3, 4, 5] [(4, .a (.p 3 0)), (5, .a (.p 4 0)), (10, vi 0), (37, .a (.w 5)), (38, vi l.length), (39, vi ((i + 1 : Nat) : Int))] (setO cs rows 0 ++ [.box [.v (i6 a.1), .v (i6 a.2)] 41, .box [.v (i6 b.1), .v (i6 b.2)] 41, .sl 2 (pl l)]) fun d => ?_
   exact ih ⟨i + 1, hx, ok (.inl ((eqk h1).1 rfl))⟩ d (by simp only; omega)
  | false =>
   cases h2 : (decide (w.1 = b.1) && decide (w.2 = b.2)) with
   | true =>
    refine gq [] (lpK 6 alnB [] K) (its _ (.m 45 (fun w _ => nep_c (.tmp 43) (.tmp 44) h1 w) <| .m 49 (fun w _ => nep_c (.tmp 47) (.tmp 48) h2 w) <| .v 51 (w64 (z := (i : Int) + 1) (by omega)) .nil)) [0, 1, 2, 3, 4, 5] [(4, .a (.p 3 0)), (5, .a (.p 4 0)), (10, vi 0), (37, .a (.w 5)), (38, vi l.length), (39, vi ((i + 1 : Nat) : Int))] (setO cs rows 0 ++ [.box [.v (i6 a.1), .v (i6 a.2)] 41, .box [.v (i6 b.1), .v (i6 b.2)] 41, .sl 2 (pl l)]) fun d => ?_
    exact ih ⟨i + 1, hx, ok (.inr ((eqk h2).1 rfl))⟩ d (by simp only; omega)
   | false =>
    have e : r = false := by
     rw [hr]
     unfold aloneB
     rw [List.all_eq_false]
     refine ⟨w, hmem, ?_⟩
     have n1 : ¬ w = a := fun h => by have := (eqk h1).2 h; cases this
     have n2 : ¬ w = b := fun h => by have := (eqk h2).2 h; cases this
     simp [n1, n2]
    rw [e]
    exact dn (its _ (.m 45 (fun w _ => nep_c (.tmp 43) (.tmp 44) h1 w) <| .m 49 (fun w _ => nep_c (.tmp 47) (.tmp 48) h2 w) .nil)) [0, 1, 2]
 ·have e : r = true := by
   rw [hr]
   unfold aloneB
   rw [List.all_eq_true]
   intro w hw
   obtain ⟨k, hk, rfl⟩ := List.mem_iff_getElem.1 hw
   have := hg' k (by omega)
   rw [List.getD_eq_getElem?_getD, List.getElem?_eq_getElem hk, Option.getD_some] at this
   simpa using this
  rw [e]
  exact dn (.v 40 (bf (show ¬ (i : Int) < (l.length : Nat) by omega)) .nil) [0, 1, 2]
section
variable {L : List (Int × Int)} {size : Int}
def stepsA (size : Int) (L c : List (Int × Int)) (k : Nat) : Bool := (List.range k).all fun j => aloneB (stepP size L (gP c j) (gP c (j + 1))) (gP c j) (gP c (j + 1))
theorem stepsA_succ (size : Int) (L c : List (Int × Int)) (k : Nat) : stepsA size L c (k + 1) = (stepsA size L c k && aloneB (stepP size L (gP c k) (gP c (k + 1))) (gP c k) (gP c (k + 1))) := by
 unfold stepsA; rw [List.range_succ, List.all_append]; simp
def chainsA (size : Int) (L : List (Int × Int)) (l : List (List (Int × Int))) : Bool := l.all fun c => stepsA size L c (c.length - 1)
theorem chainsA_take (size : Int) (L : List (Int × Int)) (l : List (List (Int × Int))) {i : Nat} (h : i < l.length) : chainsA size L (l.take (i + 1)) = (chainsA size L (l.take i) && stepsA size L (l.getD i []) ((l.getD i []).length - 1)) := by
 unfold chainsA
 rw [List.take_add_one, List.getElem?_eq_getElem h, Option.toList_some, List.all_append, List.getD_eq_getElem?_getD, List.getElem?_eq_getElem h, Option.getD_some]; simp
theorem stepsA_iff (c : List (Int × Int)) : stepsA size L c (c.length - 1) = true ↔ AloneC size L c := by
 unfold stepsA aloneB AloneC
 simp only [List.all_eq_true, List.mem_range, Bool.or_eq_true, decide_eq_true_eq]
 exact ⟨fun h k hk => h k (by omega), fun h k hk => h k (by omega)⟩
theorem chains_fixed (hs : 1 ≤ size) {l : List (List (Int × Int))} (h : ∀ c ∈ l, ChInv L c) : chainsA size L l = decide (l = nextB size (setR L) l) := by
 rw [Bool.eq_iff_iff, decide_eq_true_eq]
 unfold nextB
 rw [map_fix]
 unfold chainsA
 rw [List.all_eq_true]
 exact ⟨fun g c hc => (fixed_iff hs (h c hc)).2 ((stepsA_iff c).1 (g c hc)), fun g c hc => (stepsA_iff c).2 ((fixed_iff hs (h c hc)).1 (g c hc))⟩
theorem setC_idem (L : List (Int × Int)) : setC (setC L) = setC L :=
 setC_of (setC_law L).2 (fun p hp => hp) (fun p hp => hp)
theorem setR_idem (L : List (Int × Int)) : setR (setC L) = setR L := by rw [setR_of (setC_idem L), setR_of (rfl : setC L = setC L)]
end
noncomputable abbrev fxB : Code := Tryz.f6.body.getD .skip
noncomputable abbrev fxLp : Code := match kb 9 fxB [] [] with
 | some (b, _) => b
 | none => .skip
noncomputable abbrev fxR : List Kt := match kb 9 fxB [] [] with
 | some (_, k) => k
 | none => []
abbrev fxX (ps : List (Int × Int)) (ss : List E4) (size rounds : Int) (cs : List (Int × Int)) (rows : List (Int × List Int)) (l : List (List (Int × Int))) (k : Nat) (b : Bool) (A : Bool) : List Ob := lnX ps ss size rounds cs l k b ++ setO cs rows 6 ++ [.box [.p 6 0] 57, .box [.v (.bool A)] 4]
theorem lawFixed (ps : List (Int × Int)) (ss : List E4) (size rounds : Int) : FnP Pg 6 (caO ps ss) [caV size rounds] (caO ps ss) [] (vb true) := by
 have SM := small_ok ps ss size rounds
 rcases case_cases ps ss size rounds with h | ⟨h, h2⟩ | ⟨h, h2, h3⟩ | ⟨n, hc⟩
 ·rw [h] at SM
  exact fq Tryz.func6 fun C => dn (.f 14 [0, 1] [0, 1] SM <| .f 26 [] [] awake18_ok .nil) [0, 1]
 ·have WR := wrong_ok ps ss size rounds (small_len h).1 (small_len h).2
  rw [h] at SM
  exact fq Tryz.func6 fun C => dn (.f 14 [0, 1] [0, 1] SM <| .f 18 [0, 1] [0, 1] WR <| .v 19 (nt h2) <| .f 26 [] [] awake18_ok .nil) [0, 1]
 ·have WR := wrong_ok ps ss size rounds (small_len h).1 (small_len h).2
  rw [h] at SM
  exact fq Tryz.func6 fun C => dn (.f 14 [0, 1] [0, 1] SM <| .f 18 [0, 1] [0, 1] WR <| .v 19 (nf h2) <| .v 24 (bt h3) <| .f 26 [] [] awake18_ok .nil) [0, 1]
 ·obtain ⟨c1, c2, c3, c4⟩ := hc.sz
  have hsm := hc.sm
  have WR := wrong_ok ps ss size rounds (small_len hsm).1 (small_len hsm).2
  have hwr := hc.wr
  obtain ⟨L, hH, hF⟩ := runF_ex (ps := ps) (segs := ss) c1 c2 (by omega) (by omega)
  have F := hF n hc.r1 (by have := hc.r2; omega)
  have hr := hc.r
  have hr1 := hc.r1
  have hr2 := hc.r2
  subst hr
  clear hc
  rw [hsm] at SM
  have s1 := (Wd.szB_iff.1 c1).1
  obtain ⟨j, j1, j2, j3, j4⟩ := run_law (L := L) s1 (n - 1) 1 (firstB size (setR L) ss) (all_first s1 hH.seg)
  generalize runR size (setR L) (n - 1) 1 (firstB size (setR L) ss) = R at *
  obtain ⟨l, k, fx⟩ := R
  simp only at j2 j3 j4 F
  subst j2
  have hll := j3.n
  have hok := j3.ok hH (by omega)
  have hinv : ∀ c ∈ l, ChInv L c := fun c hc => by
   obtain ⟨i, hi, e⟩ := List.mem_iff_getElem.1 hc
   have := (j3.c i (by omega)).i
   rwa [List.getD_eq_getElem?_getD, List.getElem?_eq_getElem hi, Option.getD_some, e] at this
  have hA : chainsA size L l = fx := (chains_fixed s1 hinv).trans j4.symm
  have NW := hnew_ok (setC L) (by
   have := Wd.nodup_len (setC L) L ((setC_law L).2.imp fun {p q} h e => by subst e; unfold LtP at h; omega) fun p hp => ((setC_law L).1 p).1 hp
   have := hH.len; omega) (by
   rw [List.any_eq_false]
   intro p hp
   rw [hH.pt p (((setC_law L).1 p).1 hp)]; decide)
  rw [hCs_eq, hRs_eq, setC_idem, setR_idem] at NW
  have ST := settled_ok (setC L) (setR L) size l hH.set c1 hok
  rw [← j4] at ST
  have plen := pll_len l
  have pv : (Value.int .i64 ((pll l).length : Int)) = i6 l.length := by rw [plen]
  refine fqM Tryz.func6 fun C hC => ?_
  refine gq [9] (lp 9 fxB []) (.f 14 [0, 1] [0, 1] SM <| .f 18 [0, 1] [0, 1] WR <| .v 19 (nf hwr) <| .v 24 (bf (show ¬ (n : Int) > 8 by omega)) <| .f 36 [0, 1] [0, 1] F <| .f 42 [3] [0] NW <| .v 57 pv .nil) [0, 1, 2, 3, 4, 5, 6, 7, 8, 9, 10] [(1, .a (.p 2 0)), (3, .a (.p 5 0)), (5, .a (.p 9 0)), (7, .a (.p 10 0)), (56, .a (.w 4)), (57, vi l.length), (58, vi ((0 : Nat) : Int))] (fxX ps ss size n (setC L) (setR L) l (1 + j) fx (chainsA size L (l.take 0))) fun d => ?_
  refine loopM (β := { i : Nat // i ≤ l.length }) (fun x d => ⟨d, [(1, .a (.p 2 0)), (3, .a (.p 5 0)), (5, .a (.p 9 0)), (7, .a (.p 10 0)), (56, .a (.w 4)), (57, vi l.length), (58, vi ((x.1 : Nat) : Int))], mkX (fxX ps ss size n (setC L) (setR L) l (1 + j) fx (chainsA size L (l.take x.1)))⟩) (fun x => l.length - x.1) (by kernel_rfl) (fun x K Q ih C hC hQ d => ?_) ⟨0, Nat.zero_le _⟩ C hC d
  obtain ⟨i, hi⟩ := x
  try simp only at hi
  by_cases hx : i < l.length
  ·have hcm : l.getD i [] ∈ l := List.mem_of_getElem? (get_q l _ hx)
   have at_c := pll_at l hx
   have ea := chainsA_take size L l hx
   have hcv := hinv _ hcm
   have hcl := hok.c _ hcm
   have ih' := ih ⟨i + 1, hx⟩
   simp only at ih'
   rw [ea] at ih'
   show Eo.Good _ _ _ _ _ _ ⟨_, _, mkX (fxX ps ss size n (setC L) (setR L) l (1 + j) fx (chainsA size L (l.take i)))⟩
   generalize chainsA size L (l.take i) = A at *
   generalize l.getD i [] = c at *
   refine gq [14] (rgK 14 fxLp (.a K :: fxR)) (.v 59 (bt (show (i : Int) < (l.length : Nat) by omega)) <| .i (z := (i : Int)) (n := i) (len := (pll l).length) 60 rfl (by rw [plen]; exact hx) <| .l 61 at_c <| .f 63 [11] [0] (steps_ok c) .nil) [0, 1, 2, 3, 4, 5, 6, 7, 8, 9, 10, 11, 12] [(1, .a (.p 2 0)), (3, .a (.p 5 0)), (5, .a (.p 9 0)), (7, .a (.p 10 0)), (56, .a (.w 4)), (57, vi l.length), (58, vi ((i : Nat) : Int)), (66, .f (.func 85) [] [.p 12 0])] (fxX ps ss size n (setC L) (setR L) l (1 + j) fx A ++ [.sl 2 (pl c), .ro [.w 11] 22]) fun d => ?_
   have e0 : A = (A && stepsA size L c 0) := (Bool.and_true A).symm
   rw [e0]
   refine rng hm (reb_finM _ _ _ _) hC (steps1_ok c (by omega)) 13 [12, 11] (fun m => fxX ps ss size n (setC L) (setR L) l (1 + j) fx (A && stepsA size L c m) ++ [.sl 2 (pl c), .ro [.w 11] 22]) (by kernel_rfl) (by kernel_rfl) (by kernel_rfl) (fun k => by kernel_rfl) (fun k => by kernel_rfl) (fun k => by kernel_rfl) (fun m C' K' hk hdf ihr => ?_) (fun C' hC' hSub => ?_)
   ·have AL := alone_ok (setC L) (setR L) size hH.set c1 (gP c m) (gP c (m + 1)) (hcl.2 _ (gP_mem (by omega))) (hcl.2 _ (gP_mem (by omega)))
    try simp only at ihr
    rw [stepsA_succ, ← Bool.and_assoc] at ihr
    revert ihr AL
    show _ → FnP Pg _ _ _ _ _ (vb (aloneB (stepP size L (gP c m) (gP c (m + 1))) (gP c m) (gP c (m + 1)))) → _
    generalize aloneB (stepP size L (gP c m) (gP c (m + 1))) (gP c m) (gP c (m + 1)) = B
    generalize (A && stepsA size L c m) = A'
    intro ihr AL
    cases A' with
    | false => exact gq [] [.a K'] .nil [0, 1, 2, 3, 4, 5, 6, 7, 8, 9, 10, 11, 12] [] _ ihr
    | true => exact gq [] [.a K'] (.f 76 [6, 7, 8] [0, 1, 2] AL .nil) [0, 1, 2, 3, 4, 5, 6, 7, 8, 9, 10, 11, 12] [] _ ihr
   ·refine gq [] (lpK 9 fxB [] K) (.v 78 (w64 (z := (i : Int) + 1) (by omega)) .nil) [0, 1, 2, 3, 4, 5, 6, 7, 8, 9, 10] [(1, .a (.p 2 0)), (3, .a (.p 5 0)), (5, .a (.p 9 0)), (7, .a (.p 10 0)), (56, .a (.w 4)), (57, vi l.length), (58, vi ((i + 1 : Nat) : Int))] (fxX ps ss size n (setC L) (setR L) l (1 + j) fx (A && stepsA size L c (c.length - 1))) fun d => ?_
    exact ih' C' hC' (fun e a w h => hQ e a w (reb_finM _ _ _ _ C C' hSub e a w h)) (by omega) d
  ·have e : chainsA size L (l.take i) = fx := by rw [List.take_of_length_le (by omega)]; exact hA
   show Eo.Good _ _ _ _ _ _ ⟨_, _, mkX (fxX ps ss size n (setC L) (setR L) l (1 + j) fx (chainsA size L (l.take i)))⟩
   rw [e]
   clear ih e hA j4 F
   cases fx <;> exact dnM (.v 59 (bf (show ¬ (i : Int) < (l.length : Nat) by omega)) <| .f 89 [4, 6, 7, 8] [0, 1, 2, 3] ST <| .f 95 [] [] awake18_ok .nil) [0, 1]
end Go.Proofs.YtlkhneiccjhgdaaGreat
namespace Go.Rg
open Go Go.RowKit
section
variable {P : Program} {ops : Array Oper} {md : Region.Mode} {a0 : Act} {S : Nat → Value → World → Prop} {R : World → World → Prop} {C : World → Prop}
structure Pre (md : Region.Mode) (ops : Array Oper) (a0 : Act) (S : Nat → Value → World → Prop) (C : World → Prop) (j : Nat) (o : Oper) (a : Act) (w : World) : Prop where
 base : C w
 size : a.tmps.size = a0.tmps.size
 had : ∀ (k : Nat) (ok : Oper) (d : Tmp), ops[k]? = some ok → ok.dst = some d → waitB md o k = true → ∃ v, a.tmps[d]? = some v ∧ S k v w
 yet : ∀ t : Tmp, (∀ (k : Nat) (ok : Oper), ops[k]? = some ok → ok.dst = some t → k = j ∨ waitB md ok j = true) → a.tmps[t]? = a0.tmps[t]?
structure DInv (md : Region.Mode) (ops : Array Oper) (a0 : Act) (S : Nat → Value → World → Prop) (C : World → Prop) (listed : Array Bool) (a : Act) (w : World) : Prop where
 base : C w
 len : listed.size = ops.size
 size : a.tmps.size = a0.tmps.size
 defers : a.defers = a0.defers
 had : ∀ (k : Nat) (ok : Oper) (d : Tmp), ops[k]? = some ok → ok.dst = some d → listed.getD k false = true → ∃ v, a.tmps[d]? = some v ∧ S k v w
 yet : ∀ t : Tmp, (∀ (k : Nat) (ok : Oper), ops[k]? = some ok → ok.dst = some t → listed.getD k false = false) → a.tmps[t]? = a0.tmps[t]?
 close : ∀ (k : Nat) (ok : Oper), ops[k]? = some ok → listed.getD k false = true → ∀ j, waitB md ok j = true → listed.getD j false = true
structure DStat (ops : Array Oper) (a0 : Act) : Prop where
 one : ∀ (k k' : Nat) (o o' : Oper) (d : Tmp), ops[k]? = some o → ops[k']? = some o' → o.dst = some d → o'.dst = some d → k = k'
 room : ∀ (k : Nat) (o : Oper) (d : Tmp), ops[k]? = some o → o.dst = some d → d < a0.tmps.size
theorem put_at (a : Act) (dst : Option Tmp) (v : Value) (t : Tmp) (h : dst ≠ some t) : (a.put dst v).tmps[t]? = a.tmps[t]? := by
 cases dst with
 | none => rfl
 | some d =>
  rw [put_tmps, if_neg (fun e => h (by rw [e]))]
theorem DInv.next (T : DStat ops a0) {listed : Array Bool} {a : Act} {w w' : World} {j : Nat} {o : Oper} {v : Value} (hS : ∀ k v w w', S k v w → R w w' → S k v w') (hC : ∀ w w', C w → R w w' → C w') (h : DInv md ops a0 S C listed a w) (hj : ops[j]? = some o)
  (hall : ∀ k, waitB md o k = true → listed.getD k false = true) (hun : listed.getD j false = false) (hr : R w w') (hv : S j v w') : DInv md ops a0 S C (listed.setIfInBounds j true) (a.put o.dst v) w' := by
 have hjl : j < listed.size := by rw [h.len]; exact (Array.getElem?_eq_some_iff.1 hj).1
 refine ⟨hC _ _ h.base hr, by simpa using h.len, by rw [put_size]; exact h.size, by unfold Act.put; split <;> exact h.defers, fun k ok d hk hd hl => ?_, fun t ht => ?_, fun k ok hk hl i hi => ?_⟩
 ·by_cases e : j = k
  ·subst e
   rw [hj] at hk; cases hk
   refine ⟨v, ?_, hv⟩
   rw [hd, put_tmps, if_pos rfl, if_pos (by rw [h.size]; exact T.room j o d hj hd)]
  ·rw [getD_set_ne false e] at hl
   obtain ⟨u, hu, hs⟩ := h.had k ok d hk hd hl
   refine ⟨u, ?_, hS _ _ _ _ hs hr⟩
   rw [put_at _ _ _ _ (fun e2 => e (T.one j k o ok d hj hk e2 hd))]; exact hu
 ·have hd : o.dst ≠ some t := fun e => by
   have := ht j o hj e
   rw [getD_set_eq hjl] at this; cases this
  rw [put_at _ _ _ _ hd]
  exact h.yet t fun k ok hk hkd => by
   have := ht k ok hk hkd
   by_cases e : j = k
   ·subst e; rw [getD_set_eq hjl] at this; cases this
   ·rwa [getD_set_ne false e] at this
 ·rw [getD_set_iff hjl]
  by_cases e : j = k
  ·subst e; rw [hj] at hk; cases hk
   rw [hall i hi]; simp
  ·rw [getD_set_ne false e] at hl
   rw [h.close k ok hk hl i hi]; simp
theorem Pre.ev {j : Nat} {o : Oper} {a : Act} {w : World} (h : Pre md ops a0 S C j o a w) (k : Nat) (ok : Oper) (d : Tmp) (hk : ops[k]? = some ok) (hd : ok.dst = some d) (hw : waitB md o k = true) : ∃ v, a.tmps[d]?.getD undef = v ∧ S k v w := by
 obtain ⟨v, h1, h2⟩ := h.had k ok d hk hd hw
 exact ⟨v, by simp [h1], h2⟩
def yetB (md : Region.Mode) (ops : Array Oper) (j : Nat) (t : Tmp) : Bool := (List.range ops.size).all fun k => match ops[k]? with | some ok => ok.dst != some t || k == j || waitB md ok j | none => true
theorem Pre.old {j : Nat} {o : Oper} {a : Act} {w : World} (h : Pre md ops a0 S C j o a w) (t : Tmp) (hy : yetB md ops j t = true) : a.tmps[t]?.getD undef = a0.tmps[t]?.getD undef := by
 have := h.yet t fun k ok hk hd => by
  unfold yetB at hy
  rw [List.all_eq_true] at hy
  have h2 := hy k (List.mem_range.2 (Array.getElem?_eq_some_iff.1 hk).1)
  rw [hk] at h2
  simp only [hd, Bool.or_eq_true, beq_iff_eq] at h2
  rcases h2 with (h2 | h2) | h2
  ·simp at h2
  ·exact .inl h2
  ·exact .inr h2
 rw [this]
end
end Go.Rg
namespace Go.Wd
open Go
end Go.Wd
namespace Go.Proofs.YtlkhneiccjhgdaaGreat
open Go.RowKit Go.Rg Go.Wd
attribute [local go_sem] Oper.semAt_some
end Go.Proofs.YtlkhneiccjhgdaaGreat
namespace Go.Proofs.YtlkhneiccjhgdaaGreat
open Go.RowKit Go.Rg Go.Wd
attribute [local go_sem] Oper.semAt_some
end Go.Proofs.YtlkhneiccjhgdaaGreat
namespace Go.Proofs.YtlkhneiccjhgdaaGreat
open Go.RowKit Go.Rg Go.Wd
attribute [local go_sem] Oper.semAt_some
end Go.Proofs.YtlkhneiccjhgdaaGreat
namespace Go.Wd
open Go
end Go.Wd
namespace Go.Proofs.YtlkhneiccjhgdaaGreat
open Go.RowKit Go.Rg Go.Wd
attribute [local go_sem] Oper.semAt_some
end Go.Proofs.YtlkhneiccjhgdaaGreat
namespace Go.Rg
open Go Go.RowKit
section
variable {P : Program}
end
end Go.Rg
namespace Go.Rg
open Go Go.RowKit
section
variable {P : Program} (w : World)
end
end Go.Rg
namespace Go.Rg
open Go Go.RowKit
section
variable {P : Program}
end
end Go.Rg
namespace Go.Rg
open Go Go.RowKit
section
variable {P : Program}
end
end Go.Rg
namespace Go.Rg
open Go Go.RowKit
section
variable {P : Program}
end
end Go.Rg
namespace Go.Rg
open Go Go.RowKit
theorem SlC.tail {w : World} {a : Option Addr} {n c sz : Nat} {e : List Value} {es : List (List Value)} (h : SlC w (.slice a n c) sz (e :: es)) :
  SlC w (.slice (if c = 1 then a else a.map (·.add (1 * sz))) (n - 1) (c - 1)) sz es := by
 have hl : n = (e :: es).length := by
  obtain ⟨a', c', e', _⟩ := h
  injection e' with _ h2
 have := h.sub 1 n (by rw [hl]; simp) (by rw [hl]; exact Nat.le_refl _)
 rw [hl, List.take_length] at this
 simpa [hl] using this
theorem SlC.head {w : World} {a : Option Addr} {n c sz : Nat} {e : List Value} {es : List (List Value)} (h : SlC w (.slice a n c) sz (e :: es)) :
  ∃ g off, a = some ⟨g, off, none⟩ ∧ g < w.heap.size ∧ w.rangeAt g off e ∧ e.length = sz := by
 obtain ⟨g, off, h1, h2, h3, h4⟩ := h.elem (i := 0) rfl
 exact ⟨g, off, h1, h2, by simpa using h3, h4⟩
end Go.Rg
namespace Go.Rg
open Go Go.RowKit
end Go.Rg
namespace Go.Rg
open Go Go.RowKit
end Go.Rg
