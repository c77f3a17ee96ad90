/- printed by genmp.py: merge.Merge, slices.Clone, merge.Sort of points -/
import Derived.Test.YtlkhneiccjhgdaaGreatGRh
import Derived.Test.YtlkhneiccjhgdaaGreatGRo
import Derived.Test.YtlkhneiccjhgdaaGreatGRl
import Derived.Test.YtlkhneiccjhgdaaGreatGRm
set_option linter.unusedVariables false
set_option linter.unusedSimpArgs false
set_option maxRecDepth 100000
namespace Go.Proofs.YtlkhneiccjhgdaaGreat
open Go.Eo Go.RowKit Go.Rg
inductive OrP where
 | c
 | r
abbrev fOrP (κ : OrP) : Nat := match κ with
 | .c => 77
 | .r => 80
abbrev ovP (κ : OrP) : AV := fv (fOrP κ)
def leP (o : Int × Int → Int × Int → Int) (x y : Int × Int) : Bool := !decide (o y x < 0)
def OrdP (κ : OrP) (o : Int × Int → Int × Int → Int) (a b : List (Int × Int)) : Prop := ∀ x ∈ a, ∀ y ∈ b, FnP Tryz.prog (fOrP κ) [] [pA y.1 y.2, pA x.1 x.2] [] [] (vi (o y x))
abbrev ovKP {κ : OrP} {o : Int × Int → Int × Int → Int} {a b : List (Int × Int)} (_ : OrdP κ o a b) : AV := ovP κ
noncomputable abbrev mergePB : Code := Tryz.f144.body.getD .skip
theorem mergeP_ok (κ : OrP) (o : (Int × Int) → (Int × Int) → Int) (a b : List (Int × Int)) (hl : a.length + b.length < 100000000000) (ho : OrdP κ o a b) :
  FnP Tryz.prog 144 ([.sl 2 (pl a), .sl 2 (pl b)]) [.a (.w 0), .a (.w 1), ovP κ] ([.dead, .dead]) [.row 41 2 (pl (Mg.mgB (leP o) a b))] (.a (.w 2)) := by
 obtain ⟨out, hout⟩ : ∃ out, out = Mg.mgB (leP o) a b := ⟨_, rfl⟩
 rw [← hout]
 have la : (Value.int .i64 ((pl a).length : Int)) = i6 a.length := by rw [pl_len]
 have lb : (Value.int .i64 ((pl b).length : Int)) = i6 b.length := by rw [pl_len]
 have pos : ∀ (x : (Int × Int)) (l : List (Int × Int)), Value.bool (decide (((pl (x :: l)).length : Int) > 0)) = .bool true := fun x l => gt_t (by rw [pl_len]; simp)
 have app : ∀ (l : List (Int × Int)) (x : (Int × Int)), Ob.row 41 2 (pl l ++ [[.v (i6 x.1), .v (i6 x.2)]]) = .row 41 2 (pl (l ++ [x])) := fun l x => by simp
 have tl : ∀ (x : (Int × Int)) (l : List (Int × Int)), Ob.sl 2 (((pl (x :: l)).take (pl (x :: l)).length).drop 1) = .sl 2 (pl l) := fun x l => by rw [List.take_length]; rfl
 cases κ
 all_goals
  refine fq Tryz.func144 fun C => ?_
  refine gq [2] (lp 2 mergePB []) (.v 9 la <| .v 11 lb <| .v 12 (w64 (z := (a.length : Int) + b.length) (by omega)) <| .k (z := (a.length : Int) + b.length) (n := a.length + b.length) (bytes := 16) 13 0 (by omega) (by unfold maxLen; omega) (by omega) (Nat.zero_le _) .nil) [0, 1, 0, 1, 2] [(0, .a (.w 2)), (1, .a (.w 3)), (2, ovKP ho), (7, .a (.w 4))]
   ([.dead, .dead, .sl 2 (pl a), .sl 2 (pl b), .row 41 2 (pl [])]) fun d => ?_
  refine loop (β := { x : List (Int × Int) × List (Int × Int) × List (Int × Int) // x.2.2 ++ Mg.mgB (leP o) x.1 x.2.1 = out ∧ (∀ y ∈ x.1, y ∈ a) ∧ (∀ y ∈ x.2.1, y ∈ b) ∧ x.1.length + x.2.1.length + x.2.2.length = a.length + b.length })
   (fun x d => ⟨d, [(0, .a (.w 2)), (1, .a (.w 3)), (2, ovKP ho), (7, .a (.w 4))], mkX ([.dead, .dead, .sl 2 (pl x.1.1), .sl 2 (pl x.1.2.1), .row 41 2 (pl x.1.2.2)])⟩) (fun x => x.1.1.length + x.1.2.1.length) (by kernel_rfl) (fun x K ih d => ?_) ⟨(a, b, []), by rw [hout]; rfl, fun _ h => h, fun _ h => h, by simp⟩ d
  obtain ⟨⟨ra, rb, acc⟩, h1, h2, h3, h4⟩ := x
  simp only at h1 h2 h3 h4
  have fin : ∀ (u v : List (Int × Int)), u.length + v.length + acc.length = a.length + b.length → acc ++ u ++ v = out → (pl acc).length + (pl u).length ≤ maxLen ∧ ((pl acc).length + (pl u).length) * 16 ≤ 140737488355328 ∧ (pl acc ++ pl u).length + (pl v).length ≤ maxLen ∧ ((pl acc ++ pl u).length + (pl v).length) * 16 ≤ 140737488355328 ∧ Ob.row 41 2 (pl acc ++ pl u ++ pl v) = .row 41 2 (pl out) := fun u v h e => by
   simp only [List.length_append, pl_len]; unfold maxLen
   refine ⟨by omega, by omega, by omega, by omega, ?_⟩
   rw [← e]; simp
  have grow : ∀ u : Nat, acc.length + 1 ≤ a.length + b.length → (pl acc).length + 1 ≤ maxLen ∧ ((pl acc).length + 1) * 16 ≤ 140737488355328 := fun x h => by rw [pl_len]; unfold maxLen; omega
  cases ra with
  | nil =>
   obtain ⟨g1, g2, g3, g4, g5⟩ := fin [] rb h4 (by rw [← h1]; simp [Mg.mgB])
   exact dn (.a (n := (pl acc).length + (pl []).length) (bytes := 16) 49 g1 g2 <| .a (n := (pl acc ++ pl []).length + (pl rb).length) (bytes := 16) 51 g3 g4 <| .o 1000 6 g5 .nil) [0, 1, 6]
  | cons x ra =>
   cases rb with
   | nil =>
    obtain ⟨g1, g2, g3, g4, g5⟩ := fin (x :: ra) [] h4 (by rw [← h1, Mg.mgB_nil_right]; simp)
    exact dn (.v 16 (pos x ra) <| .a (n := (pl acc).length + (pl (x :: ra)).length) (bytes := 16) 49 g1 g2 <| .a (n := (pl acc ++ pl (x :: ra)).length + (pl []).length) (bytes := 16) 51 g3 g4 <| .o 1000 6 g5 .nil) [0, 1, 6]
   | cons y rb =>
    have hxy := ho x (h2 x (List.mem_cons_self ..)) y (h3 y (List.mem_cons_self ..))
    simp only [List.length_cons] at h4
    obtain ⟨g1, g2⟩ := grow 0 (by omega)
    have lx := pl_len (x :: ra)
    have ly := pl_len (y :: rb)
    by_cases c : o y x < 0
    ·refine gq [] (lpK 2 mergePB [] K) (.v 16 (pos x ra) <| .v 20 (pos y rb) <| .i (n := 0) (len := (pl (y :: rb)).length) 24 rfl (by rw [ly]; simp) <| .l (es := pl (y :: rb)) (n := 0) (e := [.v (i6 y.1), .v (i6 y.2)]) 25 rfl <| .i (n := 0) (len := (pl (x :: ra)).length) 27 rfl (by rw [lx]; simp) <| .l (es := pl (x :: ra)) (n := 0) (e := [.v (i6 x.1), .v (i6 x.2)]) 28 rfl <|
      .f 29 [] [] hxy <| .v 30 (bt c) <| .i (n := 0) (len := (pl (y :: rb)).length) 33 rfl (by rw [ly]; simp) <| .l (es := pl (y :: rb)) (n := 0) (e := [.v (i6 y.1), .v (i6 y.2)]) 34 rfl <| .a (n := (pl acc).length + 1) (bytes := 16) 36 g1 g2 <| .b (lo := 1) (hi := ((pl (y :: rb)).length : Int)) (l := 1) (h := (pl (y :: rb)).length) (len := (pl (y :: rb)).length) 38 false rfl rfl (by rw [ly]; simp) (Nat.le_refl _) <|
      .o 1000 6 (app acc y) <| .o 1000 7 (tl y rb) .nil) [0, 1, 2, 7, 6] [(0, .a (.w 2)), (1, .a (.w 3)), (2, ovKP ho), (7, .a (.w 4))] ([.dead, .dead, .sl 2 (pl (x :: ra)), .sl 2 (pl rb), .row 41 2 (pl (acc ++ [y]))]) fun d => ?_
     exact ih ⟨(x :: ra, rb, acc ++ [y]), by rw [← h1, Mg.mgB_cons, if_neg (by simp [leP, c])]; simp, h2, fun z hz => h3 z (List.mem_cons_of_mem _ hz), by simp; omega⟩ d (by simp)
    ·refine gq [] (lpK 2 mergePB [] K) (.v 16 (pos x ra) <| .v 20 (pos y rb) <| .i (n := 0) (len := (pl (y :: rb)).length) 24 rfl (by rw [ly]; simp) <| .l (es := pl (y :: rb)) (n := 0) (e := [.v (i6 y.1), .v (i6 y.2)]) 25 rfl <| .i (n := 0) (len := (pl (x :: ra)).length) 27 rfl (by rw [lx]; simp) <| .l (es := pl (x :: ra)) (n := 0) (e := [.v (i6 x.1), .v (i6 x.2)]) 28 rfl <|
      .f 29 [] [] hxy <| .v 30 (bf c) <| .i (n := 0) (len := (pl (x :: ra)).length) 41 rfl (by rw [lx]; simp) <| .l (es := pl (x :: ra)) (n := 0) (e := [.v (i6 x.1), .v (i6 x.2)]) 42 rfl <| .a (n := (pl acc).length + 1) (bytes := 16) 44 g1 g2 <| .b (lo := 1) (hi := ((pl (x :: ra)).length : Int)) (l := 1) (h := (pl (x :: ra)).length) (len := (pl (x :: ra)).length) 46 false rfl rfl (by rw [lx]; simp) (Nat.le_refl _) <|
      .o 1000 6 (app acc x) <| .o 1000 7 (tl x ra) .nil) [0, 1, 7, 3, 6] [(0, .a (.w 2)), (1, .a (.w 3)), (2, ovKP ho), (7, .a (.w 4))] ([.dead, .dead, .sl 2 (pl ra), .sl 2 (pl (y :: rb)), .row 41 2 (pl (acc ++ [x]))]) fun d => ?_
     exact ih ⟨(ra, y :: rb, acc ++ [x]), by rw [← h1, Mg.mgB_cons, if_pos (by simp [leP, c])]; simp, fun z hz => h2 z (List.mem_cons_of_mem _ hz), h3, by simp; omega⟩ d (by simp)
theorem cloneP_ok (l : List (Int × Int)) (hl : l.length < 100000000000) : FnP Tryz.prog 143 [.sl 2 (pl l)] [.a (.w 0)] [.sl 2 (pl l)] [.row 41 2 (pl l)] (.a (.w 1)) := by
 refine fnpN 0 0 2 (pl l) rfl rfl Tryz.func143 rfl (by kernel_rfl) (fun he C => ?_) (fun a n C => ?_)
 ·have : l = [] := by simpa using he
  subst this
  exact dn (.n 1000 2 41 2 .nil) [0, 1]
 ·have h := pl_len l
  exact dn (.a (n := ([] : List (List Dt)).length + (pl l).length) (bytes := 16) 7 (by rw [h]; unfold maxLen; simp; omega) (by rw [h]; simp; omega) .nil) [0, 2]
noncomputable abbrev sortPC : Code := Tryz.f79.body.getD .skip
theorem cut_pl (l : List (Int × Int)) (i m k : Nat) (h : m = min (i + k) l.length) : ((pl l).take m).drop i = pl ((l.drop i).take k) := by
 rw [← List.map_take, ← List.map_drop]
 congr 1
 subst h
 rw [List.drop_take]
 by_cases h : i + k ≤ l.length
 ·rw [Nat.min_eq_left h]; congr 1; omega
 ·rw [Nat.min_eq_right (by omega), List.take_of_length_le (by simp), List.take_of_length_le (by simp; omega)]
theorem sortP_ok (κ : OrP) (o : (Int × Int) → (Int × Int) → Int) (l : List (Int × Int)) (hl : l.length < 10000000000) (ho : OrdP κ o l l) :
  FnP Tryz.prog 79 ([.sl 2 (pl l)]) [.a (.w 0), ovP κ] ([.sl 2 (pl l)]) [.row 41 2 (pl (Mg.sortB (leP o) l))] (.a (.w 1)) := by
 obtain ⟨out, hout⟩ : ∃ out, out = Mg.sortB (leP o) l := ⟨_, rfl⟩
 rw [← hout]
 have hpow : l.length ≤ 1 * 2 ^ l.length := by rw [Nat.one_mul]; exact Nat.le_of_lt Nat.lt_two_pow_self
 have hm' := fun (a b : List (Int × Int)) (h1 : ∀ x ∈ a, x ∈ l) (h2 : ∀ x ∈ b, x ∈ l) (h3 : a.length + b.length < 100000000000) => mergeP_ok κ o a b h3 fun x hx y hy => ho x (h1 x hx) y (h2 y hy)
 cases κ
 all_goals
  refine fq Tryz.func79 fun C => ?_
  refine gq [3] (lp 3 sortPC []) (.f 12 [0] [0] (cloneP_ok l (by omega)) .nil) [0, 1] [(1, ovKP ho), (5, .a (.w 1)), (6, vi ((1 : Nat) : Int))] ([.sl 2 (pl l), .row 41 2 (pl l)]) fun d => ?_
  refine loop (β := { x : Nat × List (Int × Int) × Nat // 0 < x.1 ∧ Mg.sortG (leP o) x.2.2 x.1 x.2.1 = out ∧ x.2.1.length ≤ x.1 * 2 ^ x.2.2 ∧ (∀ y ∈ x.2.1, y ∈ l) ∧ x.2.1.length = l.length ∧ x.1 ≤ 2 * l.length + 1 })
   (fun x d => ⟨d, [(1, ovKP ho), (5, .a (.w 1)), (6, vi (x.1.1 : Nat))], mkX ([.sl 2 (pl l), .row 41 2 (pl x.1.2.1)])⟩) (fun x => l.length - x.1.1) (by kernel_rfl) (fun x K ih d => ?_) ⟨(1, l, l.length), Nat.one_pos, hout.symm, hpow, fun _ h => h, rfl, by simp⟩ d
  obtain ⟨⟨k, cur, fu⟩, k0, k1, k2, k3, k4, k5⟩ := x
  simp only at k0 k1 k2 k3 k4 k5
  have lc : (Value.int .i64 ((pl cur).length : Int)) = i6 cur.length := by rw [pl_len]
  by_cases hk : k < cur.length
  ·obtain ⟨f', rfl⟩ : ∃ f', fu = f' + 1 := by
    cases fu with
    | zero => simp at k2; omega
    | succ f' => exact ⟨f', rfl⟩
   rw [Mg.sortG, if_pos hk] at k1
   refine gq [7] (lp 7 sortPC [K]) (.v 15 lc <| .v 16 (bt (show (k : Int) < (cur.length : Nat) by omega)) <| .z 1000 1 <| .n 1000 7 41 2 .nil) [0, 1, 2] [(1, ovKP ho), (5, .a (.w 1)), (6, vi (k : Nat)), (7, .a (.w 2)), (8, vi ((0 : Nat) : Int))] ([.sl 2 (pl l), .sl 2 (pl cur), .row 41 2 (pl [])]) fun d => ?_
   refine loop (β := { x : Nat × List (Int × Int) × Nat // (cur.drop x.1).length ≤ x.2.2 ∧ x.2.1 ++ Mg.passB (leP o) k x.2.2 (cur.drop x.1) = Mg.passB (leP o) k cur.length cur ∧ x.1 ≤ 4 * l.length ∧ (x.1 < cur.length → x.2.1.length = x.1) ∧ x.2.1.length ≤ cur.length })
    (fun x d => ⟨d, [(1, ovKP ho), (5, .a (.w 1)), (6, vi (k : Nat)), (7, .a (.w 2)), (8, vi (x.1.1 : Nat))], mkX ([.sl 2 (pl l), .sl 2 (pl cur), .row 41 2 (pl x.1.2.1)])⟩) (fun x => cur.length - x.1.1) (by kernel_rfl) (fun x K' ih' d => ?_) ⟨(0, [], cur.length), by simp, by simp, Nat.zero_le _, fun _ => rfl, Nat.zero_le _⟩ d
   obtain ⟨⟨at', acc, g⟩, a1, a2, a3, a4, a5⟩ := x
   simp only at a1 a2 a3 a4 a5
   by_cases ha : at' < cur.length
   ·obtain ⟨m, hm1⟩ : ∃ m, m = min (at' + k) cur.length := ⟨_, rfl⟩
    obtain ⟨e, he⟩ : ∃ e, e = min (at' + 2 * k) cur.length := ⟨_, rfl⟩
    have ca := cut_pl cur at' m k hm1
    have cb : ((pl cur).take e).drop m = pl (((cur.drop at').drop k).take k) := by
     rw [List.drop_drop]
     by_cases h : at' + k ≤ cur.length
     ·have : m = at' + k := by omega
      subst this
      rw [cut_pl cur _ e k (by omega)]
     ·have h1 : m = cur.length := by omega
      rw [List.drop_eq_nil_of_le (by simp; omega), List.drop_eq_nil_of_le (by omega), List.take_nil]; rfl
    have hg : cur.drop at' ≠ [] := by simp; omega
    obtain ⟨g', rfl⟩ : ∃ g', g = g' + 1 := by
     cases g with
     | zero => simp at a1; omega
     | succ g' => exact ⟨g', rfl⟩
    rw [Mg.passB_step _ _ _ hg] at a2
    have q1 : ((cur.drop at').take k).length ≤ cur.length - at' := by simp; omega
    have q2 : ((cur.drop at').take k).length + (((cur.drop at').drop k).take k).length ≤ cur.length - at' := by simp; omega
    have q3 : at' + 2 * k < cur.length → ((cur.drop at').take k).length + (((cur.drop at').drop k).take k).length = 2 * k := by simp; omega
    have hacc := a4 ha
    have M := hm' ((cur.drop at').take k) (((cur.drop at').drop k).take k) (fun x hx => k3 x (List.mem_of_mem_drop (List.mem_of_mem_take hx))) (fun x hx => k3 x (List.mem_of_mem_drop (List.mem_of_mem_drop (List.mem_of_mem_take hx)))) (by omega)
    have ml := Mg.mgB_len (leP o) ((cur.drop at').take k) (((cur.drop at').drop k).take k)
    rw [← ca, ← cb] at M
    have hc := pl_len cur
    have z1 := pl_len acc
    have z2 := pl_len (Mg.mgB (leP o) ((cur.drop at').take k) (((cur.drop at').drop k).take k))
    refine gq [] (lpK 7 sortPC [K] K') (.v 21 lc <| .v 22 (bt (show (at' : Int) < (cur.length : Nat) by omega)) <| .v 29 (w64 (z := (at' : Int) + k) (by omega)) <| .v 31 lc <| .m 32 (fun w _ => mn ((at' : Int) + k) cur.length w) <| .v 32 (congrArg i6 (show min ((at' : Int) + k) cur.length = (m : Nat) by omega)) <|
     .v 35 (w64 (z := 2 * (k : Int)) (by omega)) <| .v 36 (w64 (z := (at' : Int) + 2 * (k : Int)) (by omega)) <| .v 38 lc <| .m 39 (fun w _ => mn ((at' : Int) + 2 * (k : Int)) cur.length w) <| .v 39 (congrArg i6 (show min ((at' : Int) + 2 * (k : Int)) cur.length = (e : Nat) by omega)) <|
     .b (lo := (at' : Int)) (hi := (m : Int)) (l := at') (h := m) (len := (pl cur).length) 44 false rfl rfl (by omega) (by rw [hc]; omega) <| .b (lo := (m : Int)) (hi := (e : Int)) (l := m) (h := e) (len := (pl cur).length) 48 false rfl rfl (by omega) (by rw [hc]; omega) <|
     .f 50 [3, 4] [] M <| .a (n := (pl acc).length + (pl (Mg.mgB (leP o) ((cur.drop at').take k) (((cur.drop at').drop k).take k))).length) (bytes := 16) 51 (by unfold maxLen; omega) (by omega) <| .v 25 (w64 (z := 2 * (k : Int)) (by omega)) <| .v 26 ((w64 (z := (at' : Int) + 2 * (k : Int)) (by omega)).trans (congrArg i6 (show (at' : Int) + 2 * (k : Int) = ((at' + 2 * k : Nat) : Int) by omega))) <|
     .o (x := .row 41 2 (pl acc ++ pl (Mg.mgB (leP o) ((cur.drop at').take k) (((cur.drop at').drop k).take k)))) (y := .row 41 2 (pl (acc ++ Mg.mgB (leP o) ((cur.drop at').take k) (((cur.drop at').drop k).take k)))) 1000 6 (by rw [← List.map_append]) .nil) [0, 1, 6] [(1, ovKP ho), (5, .a (.w 1)), (6, vi (k : Nat)), (7, .a (.w 2)), (8, vi ((at' + 2 * k : Nat) : Int))] ([.sl 2 (pl l), .sl 2 (pl cur), .row 41 2 (pl (acc ++ Mg.mgB (leP o) ((cur.drop at').take k) (((cur.drop at').drop k).take k)))]) fun d => ?_
    refine ih' ⟨(at' + 2 * k, acc ++ Mg.mgB (leP o) ((cur.drop at').take k) (((cur.drop at').drop k).take k), g'), ?_, ?_, ?_, ?_, ?_⟩ d (show cur.length - (at' + 2 * k) < cur.length - at' by omega)
    ·simp at a1 ⊢; omega
    ·have e2 : (cur.drop at').drop (2 * k) = cur.drop (at' + 2 * k) := List.drop_drop
     rw [e2] at a2
     rw [← a2, List.append_assoc]
    ·show at' + 2 * k ≤ 4 * l.length; omega
    ·intro h; show (acc ++ _).length = at' + 2 * k; rw [List.length_append, ml, q3 h, hacc]
    ·show (acc ++ _).length ≤ cur.length; rw [List.length_append, ml]; omega
   ·have hd0 : cur.drop at' = [] := List.drop_eq_nil_of_le (by omega)
    rw [hd0, Mg.passB_nil, List.append_nil] at a2
    refine gq [] (lpK 3 sortPC [] K) (.v 21 lc <| .v 22 (bf (show ¬ (at' : Int) < (cur.length : Nat) by omega)) <| .v 18 ((w64 (z := (k : Int) * 2) (by omega)).trans (congrArg i6 (show (k : Int) * 2 = ((2 * k : Nat) : Int) by omega))) .nil) [0, 2] [(1, ovKP ho), (5, .a (.w 1)), (6, vi ((2 * k : Nat) : Int))] ([.sl 2 (pl l), .row 41 2 (pl acc)]) fun d => ?_
    have hp := Mg.passB_perm (leP o) k k0 cur.length cur (Nat.le_refl _)
    refine ih ⟨(2 * k, acc, f'), by omega, by rw [a2]; exact k1, ?_, ?_, ?_, by show 2 * k ≤ _; omega⟩ d (show l.length - 2 * k < l.length - k by omega)
    ·rw [a2, hp.length_eq]
     have : k * 2 ^ (f' + 1) = 2 * k * 2 ^ f' := by rw [Nat.pow_succ, Nat.mul_comm 2 k, Nat.mul_assoc, Nat.mul_comm 2]
     show cur.length ≤ 2 * k * 2 ^ f'
     rw [← this]; exact k2
    ·intro y hy
     rw [a2] at hy
     exact k3 y (hp.mem_iff.1 hy)
    ·rw [a2, hp.length_eq]; exact k4
  ·have e1 : cur = out := by
    cases fu with
    | zero => exact k1
    | succ f' => rw [Mg.sortG, if_neg hk] at k1; exact k1
   subst e1
   exact dn (.v 15 lc <| .v 16 (bf (show ¬ (k : Int) < (cur.length : Nat) by omega)) .nil) [0, 1]
end Go.Proofs.YtlkhneiccjhgdaaGreat
set_option maxRecDepth 100000
namespace Go.Proofs.YtlkhneiccjhgdaaGreat
open Go.Eo Go.RowKit Go.Rg
abbrev Mt := (Int × Int) × Wd.Stz
def mD (m : Mt) : List Dt := (i6 m.1.1 :: i6 m.1.2 :: (Wd.stV m.2).cells.toList).map Dt.v
abbrev mtl (l : List Mt) : List (List Dt) := l.map mD
theorem mtl_len (l : List Mt) : (mtl l).length = l.length := List.length_map _
abbrev mtA (m : Mt) : AV := .a (.v (.agg (i6 m.1.1 :: i6 m.1.2 :: (Wd.stV m.2).cells.toList).toArray))
inductive OrM where
 | a
abbrev fOrM (κ : OrM) : Nat := match κ with
 | .a => 125
abbrev ovM (κ : OrM) : AV := fv (fOrM κ)
def leMm (o : Mt → Mt → Int) (x y : Mt) : Bool := !decide (o y x < 0)
def OrdM (κ : OrM) (o : Mt → Mt → Int) (a b : List Mt) : Prop := ∀ x ∈ a, ∀ y ∈ b, FnP Tryz.prog (fOrM κ) [] [mtA y, mtA x] [] [] (vi (o y x))
abbrev ovKM {κ : OrM} {o : Mt → Mt → Int} {a b : List Mt} (_ : OrdM κ o a b) : AV := ovM κ
noncomputable abbrev mergeMB : Code := Tryz.f184.body.getD .skip
theorem mergeM_ok (κ : OrM) (o : Mt → Mt → Int) (a b : List Mt) (hl : a.length + b.length < 100000000000) (ho : OrdM κ o a b) :
  FnP Tryz.prog 184 ([.sl 20 (mtl a), .sl 20 (mtl b)]) [.a (.w 0), .a (.w 1), ovM κ] ([.dead, .dead]) [.row 206 20 (mtl (Mg.mgB (leMm o) a b))] (.a (.w 2)) := by
 obtain ⟨out, hout⟩ : ∃ out, out = Mg.mgB (leMm o) a b := ⟨_, rfl⟩
 rw [← hout]
 have la : (Value.int .i64 ((mtl a).length : Int)) = i6 a.length := by rw [mtl_len]
 have lb : (Value.int .i64 ((mtl b).length : Int)) = i6 b.length := by rw [mtl_len]
 have pos : ∀ (x : Mt) (l : List Mt), Value.bool (decide (((mtl (x :: l)).length : Int) > 0)) = .bool true := fun x l => gt_t (by rw [mtl_len]; simp)
 have app : ∀ (l : List Mt) (x : Mt), Ob.row 206 20 (mtl l ++ [mD x]) = .row 206 20 (mtl (l ++ [x])) := fun l x => by simp
 have tl : ∀ (x : Mt) (l : List Mt), Ob.sl 20 (((mtl (x :: l)).take (mtl (x :: l)).length).drop 1) = .sl 20 (mtl l) := fun x l => by rw [List.take_length]; rfl
 cases κ
 all_goals
  refine fq Tryz.func184 fun C => ?_
  refine gq [2] (lp 2 mergeMB []) (.v 9 la <| .v 11 lb <| .v 12 (w64 (z := (a.length : Int) + b.length) (by omega)) <| .k (z := (a.length : Int) + b.length) (n := a.length + b.length) (bytes := 152) 13 0 (by omega) (by unfold maxLen; omega) (by omega) (Nat.zero_le _) .nil) [0, 1, 0, 1, 2] [(0, .a (.w 2)), (1, .a (.w 3)), (2, ovKM ho), (7, .a (.w 4))]
   ([.dead, .dead, .sl 20 (mtl a), .sl 20 (mtl b), .row 206 20 (mtl [])]) fun d => ?_
  refine loop (β := { x : List Mt × List Mt × List Mt // x.2.2 ++ Mg.mgB (leMm o) x.1 x.2.1 = out ∧ (∀ y ∈ x.1, y ∈ a) ∧ (∀ y ∈ x.2.1, y ∈ b) ∧ x.1.length + x.2.1.length + x.2.2.length = a.length + b.length })
   (fun x d => ⟨d, [(0, .a (.w 2)), (1, .a (.w 3)), (2, ovKM ho), (7, .a (.w 4))], mkX ([.dead, .dead, .sl 20 (mtl x.1.1), .sl 20 (mtl x.1.2.1), .row 206 20 (mtl x.1.2.2)])⟩) (fun x => x.1.1.length + x.1.2.1.length) (by kernel_rfl) (fun x K ih d => ?_) ⟨(a, b, []), by rw [hout]; rfl, fun _ h => h, fun _ h => h, by simp⟩ d
  obtain ⟨⟨ra, rb, acc⟩, h1, h2, h3, h4⟩ := x
  simp only at h1 h2 h3 h4
  have fin : ∀ (u v : List Mt), u.length + v.length + acc.length = a.length + b.length → acc ++ u ++ v = out → (mtl acc).length + (mtl u).length ≤ maxLen ∧ ((mtl acc).length + (mtl u).length) * 152 ≤ 140737488355328 ∧ (mtl acc ++ mtl u).length + (mtl v).length ≤ maxLen ∧ ((mtl acc ++ mtl u).length + (mtl v).length) * 152 ≤ 140737488355328 ∧ Ob.row 206 20 (mtl acc ++ mtl u ++ mtl v) = .row 206 20 (mtl out) := fun u v h e => by
   simp only [List.length_append, mtl_len]; unfold maxLen
   refine ⟨by omega, by omega, by omega, by omega, ?_⟩
   rw [← e]; simp
  have grow : ∀ u : Nat, acc.length + 1 ≤ a.length + b.length → (mtl acc).length + 1 ≤ maxLen ∧ ((mtl acc).length + 1) * 152 ≤ 140737488355328 := fun x h => by rw [mtl_len]; unfold maxLen; omega
  cases ra with
  | nil =>
   obtain ⟨g1, g2, g3, g4, g5⟩ := fin [] rb h4 (by rw [← h1]; simp [Mg.mgB])
   exact dn (.a (n := (mtl acc).length + (mtl []).length) (bytes := 152) 49 g1 g2 <| .a (n := (mtl acc ++ mtl []).length + (mtl rb).length) (bytes := 152) 51 g3 g4 <| .o 1000 6 g5 .nil) [0, 1, 6]
  | cons x ra =>
   cases rb with
   | nil =>
    obtain ⟨g1, g2, g3, g4, g5⟩ := fin (x :: ra) [] h4 (by rw [← h1, Mg.mgB_nil_right]; simp)
    exact dn (.v 16 (pos x ra) <| .a (n := (mtl acc).length + (mtl (x :: ra)).length) (bytes := 152) 49 g1 g2 <| .a (n := (mtl acc ++ mtl (x :: ra)).length + (mtl []).length) (bytes := 152) 51 g3 g4 <| .o 1000 6 g5 .nil) [0, 1, 6]
   | cons y rb =>
    have hxy := ho x (h2 x (List.mem_cons_self ..)) y (h3 y (List.mem_cons_self ..))
    simp only [List.length_cons] at h4
    obtain ⟨g1, g2⟩ := grow 0 (by omega)
    have lx := mtl_len (x :: ra)
    have ly := mtl_len (y :: rb)
    by_cases c : o y x < 0
    ·refine gq [] (lpK 2 mergeMB [] K) (.v 16 (pos x ra) <| .v 20 (pos y rb) <| .i (n := 0) (len := (mtl (y :: rb)).length) 24 rfl (by rw [ly]; simp) <| .l (es := mtl (y :: rb)) (n := 0) (e := mD y) 25 rfl <| .i (n := 0) (len := (mtl (x :: ra)).length) 27 rfl (by rw [lx]; simp) <| .l (es := mtl (x :: ra)) (n := 0) (e := mD x) 28 rfl <|
      .f 29 [] [] hxy <| .v 30 (bt c) <| .i (n := 0) (len := (mtl (y :: rb)).length) 33 rfl (by rw [ly]; simp) <| .l (es := mtl (y :: rb)) (n := 0) (e := mD y) 34 rfl <| .a (n := (mtl acc).length + 1) (bytes := 152) 36 g1 g2 <| .b (lo := 1) (hi := ((mtl (y :: rb)).length : Int)) (l := 1) (h := (mtl (y :: rb)).length) (len := (mtl (y :: rb)).length) 38 false rfl rfl (by rw [ly]; simp) (Nat.le_refl _) <|
      .o 1000 6 (app acc y) <| .o 1000 7 (tl y rb) .nil) [0, 1, 2, 7, 6] [(0, .a (.w 2)), (1, .a (.w 3)), (2, ovKM ho), (7, .a (.w 4))] ([.dead, .dead, .sl 20 (mtl (x :: ra)), .sl 20 (mtl rb), .row 206 20 (mtl (acc ++ [y]))]) fun d => ?_
     exact ih ⟨(x :: ra, rb, acc ++ [y]), by rw [← h1, Mg.mgB_cons, if_neg (by simp [leMm, c])]; simp, h2, fun z hz => h3 z (List.mem_cons_of_mem _ hz), by simp; omega⟩ d (by simp)
    ·refine gq [] (lpK 2 mergeMB [] K) (.v 16 (pos x ra) <| .v 20 (pos y rb) <| .i (n := 0) (len := (mtl (y :: rb)).length) 24 rfl (by rw [ly]; simp) <| .l (es := mtl (y :: rb)) (n := 0) (e := mD y) 25 rfl <| .i (n := 0) (len := (mtl (x :: ra)).length) 27 rfl (by rw [lx]; simp) <| .l (es := mtl (x :: ra)) (n := 0) (e := mD x) 28 rfl <|
      .f 29 [] [] hxy <| .v 30 (bf c) <| .i (n := 0) (len := (mtl (x :: ra)).length) 41 rfl (by rw [lx]; simp) <| .l (es := mtl (x :: ra)) (n := 0) (e := mD x) 42 rfl <| .a (n := (mtl acc).length + 1) (bytes := 152) 44 g1 g2 <| .b (lo := 1) (hi := ((mtl (x :: ra)).length : Int)) (l := 1) (h := (mtl (x :: ra)).length) (len := (mtl (x :: ra)).length) 46 false rfl rfl (by rw [lx]; simp) (Nat.le_refl _) <|
      .o 1000 6 (app acc x) <| .o 1000 7 (tl x ra) .nil) [0, 1, 7, 3, 6] [(0, .a (.w 2)), (1, .a (.w 3)), (2, ovKM ho), (7, .a (.w 4))] ([.dead, .dead, .sl 20 (mtl ra), .sl 20 (mtl (y :: rb)), .row 206 20 (mtl (acc ++ [x]))]) fun d => ?_
     exact ih ⟨(ra, y :: rb, acc ++ [x]), by rw [← h1, Mg.mgB_cons, if_pos (by simp [leMm, c])]; simp, fun z hz => h2 z (List.mem_cons_of_mem _ hz), h3, by simp; omega⟩ d (by simp)
theorem cloneM_ok (l : List Mt) (hl : l.length < 100000000000) : FnP Tryz.prog 183 [.sl 20 (mtl l)] [.a (.w 0)] [.sl 20 (mtl l)] [.row 206 20 (mtl l)] (.a (.w 1)) := by
 refine fnpN 0 0 20 (mtl l) rfl rfl Tryz.func183 rfl (by kernel_rfl) (fun he C => ?_) (fun a n C => ?_)
 ·have : l = [] := by simpa using he
  subst this
  exact dn (.n 1000 2 206 20 .nil) [0, 1]
 ·have h := mtl_len l
  exact dn (.a (n := ([] : List (List Dt)).length + (mtl l).length) (bytes := 152) 7 (by rw [h]; unfold maxLen; simp; omega) (by rw [h]; simp; omega) .nil) [0, 2]
noncomputable abbrev sortMC : Code := Tryz.f124.body.getD .skip
theorem cut_mtl (l : List Mt) (i m k : Nat) (h : m = min (i + k) l.length) : ((mtl l).take m).drop i = mtl ((l.drop i).take k) := by
 rw [← List.map_take, ← List.map_drop]
 congr 1
 subst h
 rw [List.drop_take]
 by_cases h : i + k ≤ l.length
 ·rw [Nat.min_eq_left h]; congr 1; omega
 ·rw [Nat.min_eq_right (by omega), List.take_of_length_le (by simp), List.take_of_length_le (by simp; omega)]
theorem sortM_ok (κ : OrM) (o : Mt → Mt → Int) (l : List Mt) (hl : l.length < 10000000000) (ho : OrdM κ o l l) :
  FnP Tryz.prog 124 ([.sl 20 (mtl l)]) [.a (.w 0), ovM κ] ([.sl 20 (mtl l)]) [.row 206 20 (mtl (Mg.sortB (leMm o) l))] (.a (.w 1)) := by
 obtain ⟨out, hout⟩ : ∃ out, out = Mg.sortB (leMm o) l := ⟨_, rfl⟩
 rw [← hout]
 have hpow : l.length ≤ 1 * 2 ^ l.length := by rw [Nat.one_mul]; exact Nat.le_of_lt Nat.lt_two_pow_self
 have hm' := fun (a b : List Mt) (h1 : ∀ x ∈ a, x ∈ l) (h2 : ∀ x ∈ b, x ∈ l) (h3 : a.length + b.length < 100000000000) => mergeM_ok κ o a b h3 fun x hx y hy => ho x (h1 x hx) y (h2 y hy)
 cases κ
 all_goals
  refine fq Tryz.func124 fun C => ?_
  refine gq [3] (lp 3 sortMC []) (.f 12 [0] [0] (cloneM_ok l (by omega)) .nil) [0, 1] [(1, ovKM ho), (5, .a (.w 1)), (6, vi ((1 : Nat) : Int))] ([.sl 20 (mtl l), .row 206 20 (mtl l)]) fun d => ?_
  refine loop (β := { x : Nat × List Mt × Nat // 0 < x.1 ∧ Mg.sortG (leMm o) x.2.2 x.1 x.2.1 = out ∧ x.2.1.length ≤ x.1 * 2 ^ x.2.2 ∧ (∀ y ∈ x.2.1, y ∈ l) ∧ x.2.1.length = l.length ∧ x.1 ≤ 2 * l.length + 1 })
   (fun x d => ⟨d, [(1, ovKM ho), (5, .a (.w 1)), (6, vi (x.1.1 : Nat))], mkX ([.sl 20 (mtl l), .row 206 20 (mtl x.1.2.1)])⟩) (fun x => l.length - x.1.1) (by kernel_rfl) (fun x K ih d => ?_) ⟨(1, l, l.length), Nat.one_pos, hout.symm, hpow, fun _ h => h, rfl, by simp⟩ d
  obtain ⟨⟨k, cur, fu⟩, k0, k1, k2, k3, k4, k5⟩ := x
  simp only at k0 k1 k2 k3 k4 k5
  have lc : (Value.int .i64 ((mtl cur).length : Int)) = i6 cur.length := by rw [mtl_len]
  by_cases hk : k < cur.length
  ·obtain ⟨f', rfl⟩ : ∃ f', fu = f' + 1 := by
    cases fu with
    | zero => simp at k2; omega
    | succ f' => exact ⟨f', rfl⟩
   rw [Mg.sortG, if_pos hk] at k1
   refine gq [7] (lp 7 sortMC [K]) (.v 15 lc <| .v 16 (bt (show (k : Int) < (cur.length : Nat) by omega)) <| .z 1000 1 <| .n 1000 7 206 20 .nil) [0, 1, 2] [(1, ovKM ho), (5, .a (.w 1)), (6, vi (k : Nat)), (7, .a (.w 2)), (8, vi ((0 : Nat) : Int))] ([.sl 20 (mtl l), .sl 20 (mtl cur), .row 206 20 (mtl [])]) fun d => ?_
   refine loop (β := { x : Nat × List Mt × Nat // (cur.drop x.1).length ≤ x.2.2 ∧ x.2.1 ++ Mg.passB (leMm o) k x.2.2 (cur.drop x.1) = Mg.passB (leMm o) k cur.length cur ∧ x.1 ≤ 4 * l.length ∧ (x.1 < cur.length → x.2.1.length = x.1) ∧ x.2.1.length ≤ cur.length })
    (fun x d => ⟨d, [(1, ovKM ho), (5, .a (.w 1)), (6, vi (k : Nat)), (7, .a (.w 2)), (8, vi (x.1.1 : Nat))], mkX ([.sl 20 (mtl l), .sl 20 (mtl cur), .row 206 20 (mtl x.1.2.1)])⟩) (fun x => cur.length - x.1.1) (by kernel_rfl) (fun x K' ih' d => ?_) ⟨(0, [], cur.length), by simp, by simp, Nat.zero_le _, fun _ => rfl, Nat.zero_le _⟩ d
   obtain ⟨⟨at', acc, g⟩, a1, a2, a3, a4, a5⟩ := x
   simp only at a1 a2 a3 a4 a5
   by_cases ha : at' < cur.length
   ·obtain ⟨m, hm1⟩ : ∃ m, m = min (at' + k) cur.length := ⟨_, rfl⟩
    obtain ⟨e, he⟩ : ∃ e, e = min (at' + 2 * k) cur.length := ⟨_, rfl⟩
    have ca := cut_mtl cur at' m k hm1
    have cb : ((mtl cur).take e).drop m = mtl (((cur.drop at').drop k).take k) := by
     rw [List.drop_drop]
     by_cases h : at' + k ≤ cur.length
     ·have : m = at' + k := by omega
      subst this
      rw [cut_mtl cur _ e k (by omega)]
     ·have h1 : m = cur.length := by omega
      rw [List.drop_eq_nil_of_le (by simp; omega), List.drop_eq_nil_of_le (by omega), List.take_nil]; rfl
    have hg : cur.drop at' ≠ [] := by simp; omega
    obtain ⟨g', rfl⟩ : ∃ g', g = g' + 1 := by
     cases g with
     | zero => simp at a1; omega
     | succ g' => exact ⟨g', rfl⟩
    rw [Mg.passB_step _ _ _ hg] at a2
    have q1 : ((cur.drop at').take k).length ≤ cur.length - at' := by simp; omega
    have q2 : ((cur.drop at').take k).length + (((cur.drop at').drop k).take k).length ≤ cur.length - at' := by simp; omega
    have q3 : at' + 2 * k < cur.length → ((cur.drop at').take k).length + (((cur.drop at').drop k).take k).length = 2 * k := by simp; omega
    have hacc := a4 ha
    have M := hm' ((cur.drop at').take k) (((cur.drop at').drop k).take k) (fun x hx => k3 x (List.mem_of_mem_drop (List.mem_of_mem_take hx))) (fun x hx => k3 x (List.mem_of_mem_drop (List.mem_of_mem_drop (List.mem_of_mem_take hx)))) (by omega)
    have ml := Mg.mgB_len (leMm o) ((cur.drop at').take k) (((cur.drop at').drop k).take k)
    rw [← ca, ← cb] at M
    have hc := mtl_len cur
    have z1 := mtl_len acc
    have z2 := mtl_len (Mg.mgB (leMm o) ((cur.drop at').take k) (((cur.drop at').drop k).take k))
    refine gq [] (lpK 7 sortMC [K] K') (.v 21 lc <| .v 22 (bt (show (at' : Int) < (cur.length : Nat) by omega)) <| .v 29 (w64 (z := (at' : Int) + k) (by omega)) <| .v 31 lc <| .m 32 (fun w _ => mn ((at' : Int) + k) cur.length w) <| .v 32 (congrArg i6 (show min ((at' : Int) + k) cur.length = (m : Nat) by omega)) <|
     .v 35 (w64 (z := 2 * (k : Int)) (by omega)) <| .v 36 (w64 (z := (at' : Int) + 2 * (k : Int)) (by omega)) <| .v 38 lc <| .m 39 (fun w _ => mn ((at' : Int) + 2 * (k : Int)) cur.length w) <| .v 39 (congrArg i6 (show min ((at' : Int) + 2 * (k : Int)) cur.length = (e : Nat) by omega)) <|
     .b (lo := (at' : Int)) (hi := (m : Int)) (l := at') (h := m) (len := (mtl cur).length) 44 false rfl rfl (by omega) (by rw [hc]; omega) <| .b (lo := (m : Int)) (hi := (e : Int)) (l := m) (h := e) (len := (mtl cur).length) 48 false rfl rfl (by omega) (by rw [hc]; omega) <|
     .f 50 [3, 4] [] M <| .a (n := (mtl acc).length + (mtl (Mg.mgB (leMm o) ((cur.drop at').take k) (((cur.drop at').drop k).take k))).length) (bytes := 152) 51 (by unfold maxLen; omega) (by omega) <| .v 25 (w64 (z := 2 * (k : Int)) (by omega)) <| .v 26 ((w64 (z := (at' : Int) + 2 * (k : Int)) (by omega)).trans (congrArg i6 (show (at' : Int) + 2 * (k : Int) = ((at' + 2 * k : Nat) : Int) by omega))) <|
     .o (x := .row 206 20 (mtl acc ++ mtl (Mg.mgB (leMm o) ((cur.drop at').take k) (((cur.drop at').drop k).take k)))) (y := .row 206 20 (mtl (acc ++ Mg.mgB (leMm o) ((cur.drop at').take k) (((cur.drop at').drop k).take k)))) 1000 6 (by rw [← List.map_append]) .nil) [0, 1, 6] [(1, ovKM ho), (5, .a (.w 1)), (6, vi (k : Nat)), (7, .a (.w 2)), (8, vi ((at' + 2 * k : Nat) : Int))] ([.sl 20 (mtl l), .sl 20 (mtl cur), .row 206 20 (mtl (acc ++ Mg.mgB (leMm o) ((cur.drop at').take k) (((cur.drop at').drop k).take k)))]) fun d => ?_
    refine ih' ⟨(at' + 2 * k, acc ++ Mg.mgB (leMm o) ((cur.drop at').take k) (((cur.drop at').drop k).take k), g'), ?_, ?_, ?_, ?_, ?_⟩ d (show cur.length - (at' + 2 * k) < cur.length - at' by omega)
    ·simp at a1 ⊢; omega
    ·have e2 : (cur.drop at').drop (2 * k) = cur.drop (at' + 2 * k) := List.drop_drop
     rw [e2] at a2
     rw [← a2, List.append_assoc]
    ·show at' + 2 * k ≤ 4 * l.length; omega
    ·intro h; show (acc ++ _).length = at' + 2 * k; rw [List.length_append, ml, q3 h, hacc]
    ·show (acc ++ _).length ≤ cur.length; rw [List.length_append, ml]; omega
   ·have hd0 : cur.drop at' = [] := List.drop_eq_nil_of_le (by omega)
    rw [hd0, Mg.passB_nil, List.append_nil] at a2
    refine gq [] (lpK 3 sortMC [] K) (.v 21 lc <| .v 22 (bf (show ¬ (at' : Int) < (cur.length : Nat) by omega)) <| .v 18 ((w64 (z := (k : Int) * 2) (by omega)).trans (congrArg i6 (show (k : Int) * 2 = ((2 * k : Nat) : Int) by omega))) .nil) [0, 2] [(1, ovKM ho), (5, .a (.w 1)), (6, vi ((2 * k : Nat) : Int))] ([.sl 20 (mtl l), .row 206 20 (mtl acc)]) fun d => ?_
    have hp := Mg.passB_perm (leMm o) k k0 cur.length cur (Nat.le_refl _)
    refine ih ⟨(2 * k, acc, f'), by omega, by rw [a2]; exact k1, ?_, ?_, ?_, by show 2 * k ≤ _; omega⟩ d (show l.length - 2 * k < l.length - k by omega)
    ·rw [a2, hp.length_eq]
     have : k * 2 ^ (f' + 1) = 2 * k * 2 ^ f' := by rw [Nat.pow_succ, Nat.mul_comm 2 k, Nat.mul_assoc, Nat.mul_comm 2]
     show cur.length ≤ 2 * k * 2 ^ f'
     rw [← this]; exact k2
    ·intro y hy
     rw [a2] at hy
     exact k3 y (hp.mem_iff.1 hy)
    ·rw [a2, hp.length_eq]; exact k4
  ·have e1 : cur = out := by
    cases fu with
    | zero => exact k1
    | succ f' => rw [Mg.sortG, if_neg hk] at k1; exact k1
   subst e1
   exact dn (.v 15 lc <| .v 16 (bf (show ¬ (k : Int) < (cur.length : Nat) by omega)) .nil) [0, 1]
end Go.Proofs.YtlkhneiccjhgdaaGreat
set_option maxRecDepth 100000
namespace Go.Proofs.YtlkhneiccjhgdaaGreat
open Go.Eo Go.RowKit Go.Rg
theorem ordPc (a b : List (Int × Int)) : OrdP .c (fun p q => pcm p.1 p.2 q.1 q.2) a b := fun x _ y _ => ptcmp_ok y.1 y.2 x.1 x.2
abbrev ptcV : Value := .func (.func 77) #[] #[]
def smO (p q : Int × Int) : Bool := pcm p.1 p.2 q.1 q.2 == 0
def smH (p q : Int × Int) : Bool := p.2 == q.2
theorem sameO_ok (p q : Int × Int) : FnP Tryz.prog 139 [.ro [.v ptcV] 139] [pA p.1 p.2, pA q.1 q.2, .a (.p 0 0)] [.ro [.v ptcV] 139] [] (vb (smO p q)) :=
 fq Tryz.func139 fun C => dn (.f 9 [] [] (ptcmp_ok p.1 p.2 q.1 q.2) .nil) [0]
theorem sameH_ok (p q : Int × Int) : FnP Tryz.prog 81 [] [pA p.1 p.2, pA q.1 q.2] [] [] (vb (smH p q)) :=
 fq Tryz.func81 fun C => dn .nil []
noncomputable abbrev runsB : Code := Tryz.f142.body.getD .skip
theorem get_q {α : Type} (l : List α) (d : α) {i : Nat} (h : i < l.length) : l[i]? = some (l.getD i d) := by
 rw [List.getD_eq_getElem?_getD, List.getElem?_eq_getElem h]; rfl
theorem pl_cut (l : List (Int × Int)) (f i : Nat) : ((pl l).take i).drop f = pl ((l.take i).drop f) := by rw [← List.map_take, ← List.map_drop]
def rnEO (l : List (Int × Int)) (k : Nat) : List AV × List Ob := ([.a (.w 4)], [.sl 2 (pl ((Mg.grpB smO l).getD k []))])
theorem runsO_ok (l : List (Int × Int)) (hl : l.length < 100000000000) : SeqP Tryz.prog 142 [.p 0 0, .p 1 0] [.ro [.w 2] 22, .ro [.f (.func 139) 3 0] 146, .sl 2 (pl l), .ro [.v ptcV] 139] (Mg.grpB smO l).length (rnEO l) := by
 refine sq Tryz.func142 fun p0 C hp hA => ?_
 have hlen := pl_len l
 have hv : (Value.int .i64 ((pl l).length : Int)) = i6 l.length := by rw [hlen]
 refine gq [2] (lpA 2 runsB [] []) .nil [0, 1, 2, 3] [(0, yv p0.l), (1, .a (.p 0 0)), (2, .a (.p 1 0)), (4, vi ((0 : Nat) : Int)), (5, vi ((1 : Nat) : Int))] [.ro [.w 2] 22, .ro [.f (.func 139) 3 0] 146, .sl 2 (pl l), .ro [.v ptcV] 139] fun d => ?_
 let p := prW p0 (Mg.grpB smO l).length 4 (rnEO l)
 have start : ∀ (x : Nat × Nat × Nat) C, (At p true x.1 C ∧ Mg.rsT smO l x.2.1 x.2.2 = (Mg.grpB smO l).drop x.1 ∧ x.2.1 < x.2.2 ∧ x.2.2 ≤ l.length + 1 ∧ x.1 ≤ (Mg.grpB smO l).length) → ∀ d, Eo.Good Tryz.prog Tryz.f142.ntmps 4 (itF Tryz.prog Tryz.f142 p) C (lpA 2 runsB [] []) ⟨d, [(0, yv p0.l), (1, .a (.p 0 0)), (2, .a (.p 1 0)), (4, vi (x.2.1 : Nat)), (5, vi (x.2.2 : Nat))], mkX [.ro [.w 2] 22, .ro [.f (.func 139) 3 0] 146, .sl 2 (pl l), .ro [.v ptcV] 139]⟩ := by
  refine loopA (fun (x : Nat × Nat × Nat) C => At p true x.1 C ∧ Mg.rsT smO l x.2.1 x.2.2 = (Mg.grpB smO l).drop x.1 ∧ x.2.1 < x.2.2 ∧ x.2.2 ≤ l.length + 1 ∧ x.1 ≤ (Mg.grpB smO l).length) (fun x C h => ⟨h.1.m, h.1.r, rfl⟩) (fun x d => ⟨d, [(0, yv p0.l), (1, .a (.p 0 0)), (2, .a (.p 1 0)), (4, vi (x.2.1 : Nat)), (5, vi (x.2.2 : Nat))], mkX [.ro [.w 2] 22, .ro [.f (.func 139) 3 0] 146, .sl 2 (pl l), .ro [.v ptcV] 139]⟩) (fun x => l.length + 1 - x.2.2) (by kernel_rfl) fun x K ih C hx d => ?_
  obtain ⟨k, f, i⟩ := x
  obtain ⟨hA, hr, hfi, hi, hk⟩ := hx
  simp only at hA hr hfi hi hk
  by_cases h : i ≤ l.length
  ·have g1 := get_q l (0, 0) (show i - 1 < l.length by omega)
   by_cases h2 : i < l.length
   ·have g2 := get_q l (0, 0) h2
    have S := sameO_ok (l.getD (i - 1) (0, 0)) (l.getD i (0, 0))
    cases hs : smO (l.getD (i - 1) (0, 0)) (l.getD i (0, 0)) with
    | true =>
     rw [hs] at S
     have e := Mg.rsT_same (by omega) g1 g2 hs (show f ≤ i by omega)
     refine gq [] (lpKA 2 runsB [] [] K) (.v 8 hv <| .v 9 (bt (show (i : Int) ≤ (l.length : Nat) by omega)) <| .v 14 hv <| .v 15 (bt (show (i : Int) < (l.length : Nat) by omega)) <| .v 20 (w64 (z := (i : Int) - 1) (by omega)) <| .i (z := (i : Int) - 1) (n := i - 1) (len := (pl l).length) 21 (by omega) (by rw [hlen]; omega) <| .l 22 (pl_at l (show i - 1 < l.length by omega)) <| .i (z := (i : Int)) (n := i) (len := (pl l).length) 25 rfl (by rw [hlen]; exact h2) <| .l 26 (pl_at l h2) <| .f 27 [3] [0] S <| .v 11 (w64 (z := (i : Int) + 1) (by omega)) .nil) [0, 1, 2, 3] [(0, yv p0.l), (1, .a (.p 0 0)), (2, .a (.p 1 0)), (4, vi (f : Nat)), (5, vi ((i + 1 : Nat) : Int))] [.ro [.w 2] 22, .ro [.f (.func 139) 3 0] 146, .sl 2 (pl l), .ro [.v ptcV] 139] fun d => ?_
     exact ih (k, f, i + 1) C ⟨hA, by simp only; rw [← e, hr], by simp only; omega, by simp only; omega, hk⟩ (by simp only; omega) d
    | false =>
     rw [hs] at S
     have e := Mg.rsT_cut (f := f) (by omega) g1 g2 hs
     rw [hr] at e
     have hkl : k < (Mg.grpB smO l).length := by
      refine Nat.lt_of_not_le fun h => ?_
      rw [List.drop_eq_nil_of_le h] at e; cases e
     rw [List.drop_eq_getElem_cons hkl] at e
     obtain ⟨e1, e2⟩ := List.cons.inj e
     have eg : (Mg.grpB smO l).getD k [] = (l.take i).drop f := by rw [List.getD_eq_getElem?_getD, List.getElem?_eq_getElem hkl]; exact e1
     have CL := fnp_fz [true] (cloneP_ok ((l.take i).drop f) (by simp; omega))
     rw [← pl_cut] at CL
     have hE : rnEO l k = ([.a (.w 4)], [.sl 2 (((pl l).take i).drop f)]) := by unfold rnEO; rw [eg, pl_cut]
     refine goY hm hp (fun _ _ => rfl) hA hkl (by kernel_rfl) 5 80 (.v 8 hv <| .v 9 (bt (show (i : Int) ≤ (l.length : Nat) by omega)) <| .v 14 hv <| .v 15 (bt (show (i : Int) < (l.length : Nat) by omega)) <| .v 20 (w64 (z := (i : Int) - 1) (by omega)) <| .i (z := (i : Int) - 1) (n := i - 1) (len := (pl l).length) 21 (by omega) (by rw [hlen]; omega) <| .l 22 (pl_at l (show i - 1 < l.length by omega)) <| .i (z := (i : Int)) (n := i) (len := (pl l).length) 25 rfl (by rw [hlen]; exact h2) <| .l 26 (pl_at l h2) <| .f 27 [3] [0] S .nil) 6 [5] (fun W D => .b (lo := (f : Int)) (hi := (i : Int)) (l := f) (h := i) (len := (pl l).length) 33 false rfl rfl (by omega) (by rw [hlen]; omega) <| .f 34 [4] [0] CL .nil) rfl (by kernel_rfl) (by show eB _ (rnEO l k) = true; rw [hE]; kernel_rfl) (fun b => by show _ = rhsY _ _ (rnEO l k) _ _; rw [hE]; kernel_rfl) fun C' b hA' => ?_
     cases b with
     | false => exact dnI hp hA' ⟨by omega, hkl⟩ .nil
     | true =>
      refine gq [] (lpKA 2 runsB [] [] K) (.v 11 (w64 (z := (i : Int) + 1) (by omega)) .nil) [0, 1, 2, 3] [(0, yv p0.l), (1, .a (.p 0 0)), (2, .a (.p 1 0)), (4, vi (i : Nat)), (5, vi ((i + 1 : Nat) : Int))] [.ro [.w 2] 22, .ro [.f (.func 139) 3 0] 146, .sl 2 (pl l), .ro [.v ptcV] 139] fun d => ?_
      exact ih (k + 1, i, i + 1) C' ⟨hA', e2.symm, by simp only; omega, by simp only; omega, hkl⟩ (by simp only; omega) d
   ·have ei : i = l.length := by omega
    have e : (Mg.grpB smO l).drop k = (l.take i).drop f :: [] := by rw [← hr, ei]; exact Mg.rsT_last _ _ _ (by omega)
    have hkl : k < (Mg.grpB smO l).length := by
     refine Nat.lt_of_not_le fun h => ?_
     rw [List.drop_eq_nil_of_le h] at e; cases e
    rw [List.drop_eq_getElem_cons hkl] at e
    obtain ⟨e1, e2⟩ := List.cons.inj e
    rw [← Mg.rsT_done smO l i (i + 1) (by omega)] at e2
    have eg : (Mg.grpB smO l).getD k [] = (l.take i).drop f := by rw [List.getD_eq_getElem?_getD, List.getElem?_eq_getElem hkl]; exact e1
    have CL := fnp_fz [true] (cloneP_ok ((l.take i).drop f) (by simp; omega))
    rw [← pl_cut] at CL
    have hE : rnEO l k = ([.a (.w 4)], [.sl 2 (((pl l).take i).drop f)]) := by unfold rnEO; rw [eg, pl_cut]
    refine goY hm hp (fun _ _ => rfl) hA hkl (by kernel_rfl) 5 80 (.v 8 hv <| .v 9 (bt (show (i : Int) ≤ (l.length : Nat) by omega)) <| .v 14 hv <| .v 15 (bf (show ¬ (i : Int) < (l.length : Nat) by omega)) .nil) 6 [5] (fun W D => .b (lo := (f : Int)) (hi := (i : Int)) (l := f) (h := i) (len := (pl l).length) 33 false rfl rfl (by omega) (by rw [hlen]; omega) <| .f 34 [4] [0] CL .nil) rfl (by kernel_rfl) (by show eB _ (rnEO l k) = true; rw [hE]; kernel_rfl) (fun b => by show _ = rhsY _ _ (rnEO l k) _ _; rw [hE]; kernel_rfl) fun C' b hA' => ?_
    cases b with
    | false => exact dnI hp hA' ⟨by omega, hkl⟩ .nil
    | true =>
     refine gq [] (lpKA 2 runsB [] [] K) (.v 11 (w64 (z := (i : Int) + 1) (by omega)) .nil) [0, 1, 2, 3] [(0, yv p0.l), (1, .a (.p 0 0)), (2, .a (.p 1 0)), (4, vi (i : Nat)), (5, vi ((i + 1 : Nat) : Int))] [.ro [.w 2] 22, .ro [.f (.func 139) 3 0] 146, .sl 2 (pl l), .ro [.v ptcV] 139] fun d => ?_
     exact ih (k + 1, i, i + 1) C' ⟨hA', e2.symm, by simp only; omega, by simp only; omega, hkl⟩ (by simp only; omega) d
  ·have ei : i = l.length + 1 := by omega
   have e := Mg.rsT_done smO l f i (by omega)
   rw [hr] at e
   have ek : k = (Mg.grpB smO l).length := by
    have := congrArg List.length e
    rw [List.length_drop, List.length_nil] at this; omega
   exact dnI hp hA ek (.v 8 hv <| .v 9 (bf (show ¬ (i : Int) ≤ (l.length : Nat) by omega)) .nil)
 exact start (0, 0, 1) C ⟨hA, by simp only; rw [Mg.rsT_start]; rfl, by simp, by simp, Nat.zero_le _⟩ d
def rnEH (l : List (Int × Int)) (k : Nat) : List AV × List Ob := ([.a (.w 3)], [.sl 2 (pl ((Mg.grpB smH l).getD k []))])
theorem runsH_ok (l : List (Int × Int)) (hl : l.length < 100000000000) : SeqP Tryz.prog 142 [.p 0 0, .p 1 0] [.ro [.w 2] 22, .ro [.v (.func (.func 81) #[] #[])] 146, .sl 2 (pl l)] (Mg.grpB smH l).length (rnEH l) := by
 refine sq Tryz.func142 fun p0 C hp hA => ?_
 have hlen := pl_len l
 have hv : (Value.int .i64 ((pl l).length : Int)) = i6 l.length := by rw [hlen]
 refine gq [2] (lpA 2 runsB [] []) .nil [0, 1, 2] [(0, yv p0.l), (1, .a (.p 0 0)), (2, .a (.p 1 0)), (4, vi ((0 : Nat) : Int)), (5, vi ((1 : Nat) : Int))] [.ro [.w 2] 22, .ro [.v (.func (.func 81) #[] #[])] 146, .sl 2 (pl l)] fun d => ?_
 let p := prW p0 (Mg.grpB smH l).length 3 (rnEH l)
 have start : ∀ (x : Nat × Nat × Nat) C, (At p true x.1 C ∧ Mg.rsT smH l x.2.1 x.2.2 = (Mg.grpB smH l).drop x.1 ∧ x.2.1 < x.2.2 ∧ x.2.2 ≤ l.length + 1 ∧ x.1 ≤ (Mg.grpB smH l).length) → ∀ d, Eo.Good Tryz.prog Tryz.f142.ntmps 3 (itF Tryz.prog Tryz.f142 p) C (lpA 2 runsB [] []) ⟨d, [(0, yv p0.l), (1, .a (.p 0 0)), (2, .a (.p 1 0)), (4, vi (x.2.1 : Nat)), (5, vi (x.2.2 : Nat))], mkX [.ro [.w 2] 22, .ro [.v (.func (.func 81) #[] #[])] 146, .sl 2 (pl l)]⟩ := by
  refine loopA (fun (x : Nat × Nat × Nat) C => At p true x.1 C ∧ Mg.rsT smH l x.2.1 x.2.2 = (Mg.grpB smH l).drop x.1 ∧ x.2.1 < x.2.2 ∧ x.2.2 ≤ l.length + 1 ∧ x.1 ≤ (Mg.grpB smH l).length) (fun x C h => ⟨h.1.m, h.1.r, rfl⟩) (fun x d => ⟨d, [(0, yv p0.l), (1, .a (.p 0 0)), (2, .a (.p 1 0)), (4, vi (x.2.1 : Nat)), (5, vi (x.2.2 : Nat))], mkX [.ro [.w 2] 22, .ro [.v (.func (.func 81) #[] #[])] 146, .sl 2 (pl l)]⟩) (fun x => l.length + 1 - x.2.2) (by kernel_rfl) fun x K ih C hx d => ?_
  obtain ⟨k, f, i⟩ := x
  obtain ⟨hA, hr, hfi, hi, hk⟩ := hx
  simp only at hA hr hfi hi hk
  by_cases h : i ≤ l.length
  ·have g1 := get_q l (0, 0) (show i - 1 < l.length by omega)
   by_cases h2 : i < l.length
   ·have g2 := get_q l (0, 0) h2
    have S := sameH_ok (l.getD (i - 1) (0, 0)) (l.getD i (0, 0))
    cases hs : smH (l.getD (i - 1) (0, 0)) (l.getD i (0, 0)) with
    | true =>
     rw [hs] at S
     have e := Mg.rsT_same (by omega) g1 g2 hs (show f ≤ i by omega)
     refine gq [] (lpKA 2 runsB [] [] K) (.v 8 hv <| .v 9 (bt (show (i : Int) ≤ (l.length : Nat) by omega)) <| .v 14 hv <| .v 15 (bt (show (i : Int) < (l.length : Nat) by omega)) <| .v 20 (w64 (z := (i : Int) - 1) (by omega)) <| .i (z := (i : Int) - 1) (n := i - 1) (len := (pl l).length) 21 (by omega) (by rw [hlen]; omega) <| .l 22 (pl_at l (show i - 1 < l.length by omega)) <| .i (z := (i : Int)) (n := i) (len := (pl l).length) 25 rfl (by rw [hlen]; exact h2) <| .l 26 (pl_at l h2) <| .f 27 [] [] S <| .v 11 (w64 (z := (i : Int) + 1) (by omega)) .nil) [0, 1, 2] [(0, yv p0.l), (1, .a (.p 0 0)), (2, .a (.p 1 0)), (4, vi (f : Nat)), (5, vi ((i + 1 : Nat) : Int))] [.ro [.w 2] 22, .ro [.v (.func (.func 81) #[] #[])] 146, .sl 2 (pl l)] fun d => ?_
     exact ih (k, f, i + 1) C ⟨hA, by simp only; rw [← e, hr], by simp only; omega, by simp only; omega, hk⟩ (by simp only; omega) d
    | false =>
     rw [hs] at S
     have e := Mg.rsT_cut (f := f) (by omega) g1 g2 hs
     rw [hr] at e
     have hkl : k < (Mg.grpB smH l).length := by
      refine Nat.lt_of_not_le fun h => ?_
      rw [List.drop_eq_nil_of_le h] at e; cases e
     rw [List.drop_eq_getElem_cons hkl] at e
     obtain ⟨e1, e2⟩ := List.cons.inj e
     have eg : (Mg.grpB smH l).getD k [] = (l.take i).drop f := by rw [List.getD_eq_getElem?_getD, List.getElem?_eq_getElem hkl]; exact e1
     have CL := fnp_fz [true] (cloneP_ok ((l.take i).drop f) (by simp; omega))
     rw [← pl_cut] at CL
     have hE : rnEH l k = ([.a (.w 3)], [.sl 2 (((pl l).take i).drop f)]) := by unfold rnEH; rw [eg, pl_cut]
     refine goY hm hp (fun _ _ => rfl) hA hkl (by kernel_rfl) 5 80 (.v 8 hv <| .v 9 (bt (show (i : Int) ≤ (l.length : Nat) by omega)) <| .v 14 hv <| .v 15 (bt (show (i : Int) < (l.length : Nat) by omega)) <| .v 20 (w64 (z := (i : Int) - 1) (by omega)) <| .i (z := (i : Int) - 1) (n := i - 1) (len := (pl l).length) 21 (by omega) (by rw [hlen]; omega) <| .l 22 (pl_at l (show i - 1 < l.length by omega)) <| .i (z := (i : Int)) (n := i) (len := (pl l).length) 25 rfl (by rw [hlen]; exact h2) <| .l 26 (pl_at l h2) <| .f 27 [] [] S .nil) 6 [4] (fun W D => .b (lo := (f : Int)) (hi := (i : Int)) (l := f) (h := i) (len := (pl l).length) 33 false rfl rfl (by omega) (by rw [hlen]; omega) <| .f 34 [3] [0] CL .nil) rfl (by kernel_rfl) (by show eB _ (rnEH l k) = true; rw [hE]; kernel_rfl) (fun b => by show _ = rhsY _ _ (rnEH l k) _ _; rw [hE]; kernel_rfl) fun C' b hA' => ?_
     cases b with
     | false => exact dnI hp hA' ⟨by omega, hkl⟩ .nil
     | true =>
      refine gq [] (lpKA 2 runsB [] [] K) (.v 11 (w64 (z := (i : Int) + 1) (by omega)) .nil) [0, 1, 2] [(0, yv p0.l), (1, .a (.p 0 0)), (2, .a (.p 1 0)), (4, vi (i : Nat)), (5, vi ((i + 1 : Nat) : Int))] [.ro [.w 2] 22, .ro [.v (.func (.func 81) #[] #[])] 146, .sl 2 (pl l)] fun d => ?_
      exact ih (k + 1, i, i + 1) C' ⟨hA', e2.symm, by simp only; omega, by simp only; omega, hkl⟩ (by simp only; omega) d
   ·have ei : i = l.length := by omega
    have e : (Mg.grpB smH l).drop k = (l.take i).drop f :: [] := by rw [← hr, ei]; exact Mg.rsT_last _ _ _ (by omega)
    have hkl : k < (Mg.grpB smH l).length := by
     refine Nat.lt_of_not_le fun h => ?_
     rw [List.drop_eq_nil_of_le h] at e; cases e
    rw [List.drop_eq_getElem_cons hkl] at e
    obtain ⟨e1, e2⟩ := List.cons.inj e
    rw [← Mg.rsT_done smH l i (i + 1) (by omega)] at e2
    have eg : (Mg.grpB smH l).getD k [] = (l.take i).drop f := by rw [List.getD_eq_getElem?_getD, List.getElem?_eq_getElem hkl]; exact e1
    have CL := fnp_fz [true] (cloneP_ok ((l.take i).drop f) (by simp; omega))
    rw [← pl_cut] at CL
    have hE : rnEH l k = ([.a (.w 3)], [.sl 2 (((pl l).take i).drop f)]) := by unfold rnEH; rw [eg, pl_cut]
    refine goY hm hp (fun _ _ => rfl) hA hkl (by kernel_rfl) 5 80 (.v 8 hv <| .v 9 (bt (show (i : Int) ≤ (l.length : Nat) by omega)) <| .v 14 hv <| .v 15 (bf (show ¬ (i : Int) < (l.length : Nat) by omega)) .nil) 6 [4] (fun W D => .b (lo := (f : Int)) (hi := (i : Int)) (l := f) (h := i) (len := (pl l).length) 33 false rfl rfl (by omega) (by rw [hlen]; omega) <| .f 34 [3] [0] CL .nil) rfl (by kernel_rfl) (by show eB _ (rnEH l k) = true; rw [hE]; kernel_rfl) (fun b => by show _ = rhsY _ _ (rnEH l k) _ _; rw [hE]; kernel_rfl) fun C' b hA' => ?_
    cases b with
    | false => exact dnI hp hA' ⟨by omega, hkl⟩ .nil
    | true =>
     refine gq [] (lpKA 2 runsB [] [] K) (.v 11 (w64 (z := (i : Int) + 1) (by omega)) .nil) [0, 1, 2] [(0, yv p0.l), (1, .a (.p 0 0)), (2, .a (.p 1 0)), (4, vi (i : Nat)), (5, vi ((i + 1 : Nat) : Int))] [.ro [.w 2] 22, .ro [.v (.func (.func 81) #[] #[])] 146, .sl 2 (pl l)] fun d => ?_
     exact ih (k + 1, i, i + 1) C' ⟨hA', e2.symm, by simp only; omega, by simp only; omega, hkl⟩ (by simp only; omega) d
  ·have ei : i = l.length + 1 := by omega
   have e := Mg.rsT_done smH l f i (by omega)
   rw [hr] at e
   have ek : k = (Mg.grpB smH l).length := by
    have := congrArg List.length e
    rw [List.length_drop, List.length_nil] at this; omega
   exact dnI hp hA ek (.v 8 hv <| .v 9 (bf (show ¬ (i : Int) ≤ (l.length : Nat) by omega)) .nil)
 exact start (0, 0, 1) C ⟨hA, by simp only; rw [Mg.rsT_start]; rfl, by simp, by simp, Nat.zero_le _⟩ d
end Go.Proofs.YtlkhneiccjhgdaaGreat
set_option maxRecDepth 100000
namespace Go.Proofs.YtlkhneiccjhgdaaGreat
open Go.Eo Go.RowKit Go.Rg
theorem runsO (l : List (Int × Int)) : FnP Tryz.prog 78 [.sl 2 (pl l), .ro [.v ptcV] 139] [.a (.w 0), .f (.func 139) [] [.p 1 0]] [.sl 2 (pl l), .ro [.v ptcV] 139] [.ro [.w 0] 22, .ro [.f (.func 139) 1 0] 146] (.f (.func 142) [] [.p 2 0, .p 3 0]) :=
 fq Tryz.func78 fun C => dn (.z 1000 2 <| .z 1000 3 .nil) [0, 1, 2, 3]
theorem runsH (l : List (Int × Int)) : FnP Tryz.prog 78 [.sl 2 (pl l)] [.a (.w 0), fv 81] [.sl 2 (pl l)] [.ro [.w 0] 22, .ro [.v (.func (.func 81) #[] #[])] 146] (.f (.func 142) [] [.p 1 0, .p 2 0]) :=
 fq Tryz.func78 fun C => dn (.z 1000 1 <| .z 1000 2 .nil) [0, 1, 2]
def pcP (p q : Int × Int) : Int := pcm p.1 p.2 q.1 q.2
def srtP (l : List (Int × Int)) : List (Int × Int) := Mg.sortB (leP pcP) l
def onP (l : List (Int × Int)) : List (Int × Int) := (Mg.grpB smO (srtP l)).map (·.headD (0, 0))
noncomputable abbrev onceC : Code := Tryz.f76.body.getD .skip
abbrev onX (l : List (Int × Int)) (k : Nat) : List Ob := [.sl 2 (pl l), .ro [.v ptcV] 139, .box [.w 6] 22, .sl 2 (pl (srtP l)), .ro [.w 3] 22, .ro [.f (.func 139) 1 0] 146, .row 41 2 (pl (((Mg.grpB smO (srtP l)).take k).map (·.headD (0, 0))))]
theorem onceP_ok (l : List (Int × Int)) (hl : l.length < 1000000000) : FnP Tryz.prog 76 [.sl 2 (pl l)] [.a (.w 0), .a (.v ptcV)] [.sl 2 (pl l)] [.row 41 2 (pl (onP l))] (.a (.w 1)) := by
 refine fqM Tryz.func76 fun C hC => ?_
 have SO : FnP Tryz.prog 79 [.sl 2 (pl l)] [.a (.w 0), .a (.v ptcV)] [.sl 2 (pl l)] [.sl 2 (pl (srtP l))] (.a (.w 1)) := fnp_fz [true] (sortP_ok .c pcP l (by omega) (ordPc l l))
 have ls : (srtP l).length = l.length := Mg.sortB_len _ _
 refine gq [3] (rgK 3 onceC []) (.z 2 1 <| .f 9 [0] [0] SO <| .f 11 [3, 1] [0, 1] (runsO (srtP l)) <| .q 1000 2 0 41 2 .nil) [0, 1, 2, 3, 4, 5, 6] [(5, .a (.p 2 0)), (11, .f (.func 142) [] [.p 4 0, .p 5 0])] (onX l 0) fun d => ?_
 refine rng hm (reb_finM _ _ _ _) hC (runsO_ok (srtP l) (by omega)) 6 [4, 5, 3, 1] (onX l) (by kernel_rfl) (by kernel_rfl) (by kernel_rfl) (fun k => by kernel_rfl) (fun k => by kernel_rfl) (fun k => by kernel_rfl) (fun k C' K hk hdf ih => ?_) (fun C' hC' _ => ?_)
 ·have es := take_map_succ (·.headD (0, 0)) (Mg.grpB smO (srtP l)) [] hk
  have hne := Mg.grpB_ne smO (srtP l) ((Mg.grpB smO (srtP l)).getD k []) (by rw [List.getD_eq_getElem?_getD, List.getElem?_eq_getElem hk]; exact List.getElem_mem _)
  have gl := Mg.grpB_len smO (srtP l)
  have z : (pl (((Mg.grpB smO (srtP l)).take k).map (·.headD (0, 0)))).length = k := by rw [pl_len, List.length_map, List.length_take]; omega
  have hE : rnEO (srtP l) k = ([.a (.w 4)], [.sl 2 (pl ((Mg.grpB smO (srtP l)).getD k []))]) := rfl
  rw [hE]
  revert hne ih
  unfold onX
  rw [es]
  generalize (Mg.grpB smO (srtP l)).getD k [] = g
  intro ih hne
  cases g with
  | nil => exact absurd rfl hne
  | cons p g =>
   have lp : (pl (p :: g)).length = g.length + 1 := by rw [pl_len]; rfl
   exact gq [] ([.a K]) (.i (z := 0) (n := 0) (len := (pl (p :: g)).length) 15 rfl (by rw [lp]; omega) <| .l (es := pl (p :: g)) (n := 0) (e := [.v (i6 p.1), .v (i6 p.2)]) 16 rfl <| .a (n := (pl (((Mg.grpB smO (srtP l)).take k).map (·.headD (0, 0)))).length + 1) (bytes := 16) 18 (by rw [z]; unfold maxLen; omega) (by rw [z]; omega) <|
    .o (x := .row 41 2 (pl (((Mg.grpB smO (srtP l)).take k).map (·.headD (0, 0))) ++ [[.v (i6 p.1), .v (i6 p.2)]])) (y := .row 41 2 (pl (((Mg.grpB smO (srtP l)).take k).map (·.headD (0, 0)) ++ [p]))) 1000 9 (by simp) .nil) [0, 1, 2, 3, 4, 5, 9] [] _ ih
 ·have e : ((Mg.grpB smO (srtP l)).take (Mg.grpB smO (srtP l)).length).map (·.headD (0, 0)) = onP l := by rw [List.take_length]; rfl
  unfold onX
  rw [e]
  exact dnM .nil [0, 6]
end Go.Proofs.YtlkhneiccjhgdaaGreat
set_option maxRecDepth 100000
namespace Go.Proofs.YtlkhneiccjhgdaaGreat
open Go.Eo Go.RowKit Go.Rg
def pcR (p q : Int × Int) : Int := pcm p.2 p.1 q.2 q.1
theorem byRow_ok (p q : Int × Int) : FnP Pg 80 [] [pA p.1 p.2, pA q.1 q.2] [] [] (vi (pcR p q)) :=
 fq Tryz.func80 fun C => dn (.f 9 [] [] (cmp_ok p.2 q.2) <| .f 14 [] [] (cmp_ok p.1 q.1) <| .f 16 [2] [0] (or2_ok (cm p.2 q.2) (cm p.1 q.1)) .nil) []
abbrev rwl (l : List (Int × List Int)) : List (List Dt) := l.map fun r => [.v (i6 r.1), .s 1 (il r.2)]
def hCs (l : List (Int × Int)) : List (Int × Int) := onP l
def hSr (l : List (Int × Int)) : List (Int × Int) := Mg.sortB (leP pcR) (hCs l)
def rowG (g : List (Int × Int)) : Int × List Int := ((g.headD (0, 0)).2, g.map (·.1))
def hRs (l : List (Int × Int)) : List (Int × List Int) := (Mg.grpB smH (hSr l)).map rowG
noncomputable abbrev newB : Code := Tryz.f30.body.getD .skip
noncomputable abbrev newIn : Code := match rgK 5 newB [] with
 | .c (.rangeFunc _ _ _ b) :: _ => b
 | _ => .skip
abbrev nX (l : List (Int × Int)) (k : Nat) : List Ob := [.sl 2 (pl l), .sl 2 (pl (hCs l)), .box [.w 1, .w 7] 142, .box [.p 2 0] 57, .sl 2 (pl (hSr l)), .ro [.w 4] 22, .ro [.v (.func (.func 81) #[] #[])] 146, .row 148 2 (rwl (((Mg.grpB smH (hSr l)).take k).map rowG))]
abbrev nY (l : List (Int × Int)) (A : List (Int × List Int)) (p : Int × Int) (g : List (Int × Int)) (i : Nat) : List Ob := [.sl 2 (pl l), .sl 2 (pl (hCs l)), .box [.w 1, .w 7] 142, .box [.p 2 0] 57, .sl 2 (pl (hSr l)), .ro [.w 4] 22, .ro [.v (.func (.func 81) #[] #[])] 146, .row 148 2 (rwl A), .sl 2 (pl (p :: g)), .box [.v (i6 p.2), .w 10] 148, .row 3 1 (il (((p :: g).take i).map (·.1)))]
theorem hnew_ok (l : List (Int × Int)) (hl : l.length < 1000000000) (h : l.any (fun p => !Wd.ptB p.1 p.2) = false) : FnP Pg 30 [.sl 2 (pl l)] [.a (.w 0)] [.sl 2 (pl l)] [.ro [.w 2, .w 3] 142, .sl 2 (pl (hCs l)), .sl 2 (rwl (hRs l))] (.t [.a (.p 1 0), .a (.v (i6 0))]) := by
 have c := cop_ok .h l (by omega)
 rw [show l.any (tPk .h) = false from h] at c
 have lc : (hCs l).length ≤ l.length := by
  unfold hCs onP
  rw [List.length_map]
  refine Nat.le_trans (Mg.grpB_len _ _) ?_
  unfold srtP
  rw [Mg.sortB_len]
  exact Nat.le_refl _
 have ls : (hSr l).length = (hCs l).length := Mg.sortB_len _ _
 have ON : FnP Pg 76 [.sl 2 (pl l)] [.a (.w 0), .a (.v ptcV)] [.sl 2 (pl l)] [.sl 2 (pl (hCs l))] (.a (.w 1)) := fnp_fz [true] (onceP_ok l hl)
 have SO : FnP Pg 79 [.sl 2 (pl (hCs l))] [.a (.w 0), ovP .r] [.sl 2 (pl (hCs l))] [.sl 2 (pl (hSr l))] (.a (.w 1)) := fnp_fz [true] (sortP_ok .r pcR (hCs l) (by omega) (fun x _ y _ => byRow_ok y x))
 refine fqM Tryz.func30 fun C hC => ?_
 refine gq [5] (rgK 5 newB []) (.f 10 [0] [0] c <| .f 12 [0] [0] ON <| .f 19 [1] [0] SO <| .f 20 [4] [0] (runsH (hSr l)) <| .q 1000 2 1 148 2 .nil) [0, 1, 2, 3, 4, 5, 6, 7] [(4, .a (.p 3 0)), (20, .f (.func 142) [] [.p 5 0, .p 6 0])] (nX l 0) fun d => ?_
 refine rng hm (reb_finM _ _ _ _) hC (runsH_ok (hSr l) (by omega)) 7 [5, 6, 4] (nX l) (by kernel_rfl) (by kernel_rfl) (by kernel_rfl) (fun k => by kernel_rfl) (fun k => by kernel_rfl) (fun k => by kernel_rfl) (fun k C' K hk hdf ih => ?_) (fun C' hC' _ => ?_)
 ·have es := take_map_succ rowG (Mg.grpB smH (hSr l)) [] hk
  have hne := Mg.grpB_ne smH (hSr l) ((Mg.grpB smH (hSr l)).getD k []) (by rw [List.getD_eq_getElem?_getD, List.getElem?_eq_getElem hk]; exact List.getElem_mem _)
  have gl := Mg.grpB_len smH (hSr l)
  have gl2 := Mg.grpB_len smH (hSr l)
  have z : (rwl (((Mg.grpB smH (hSr l)).take k).map rowG)).length ≤ l.length := by rw [List.length_map, List.length_map, List.length_take]; omega
  have lg : ((Mg.grpB smH (hSr l)).getD k []).length ≤ (hSr l).length := by
   have hm' : (Mg.grpB smH (hSr l)).getD k [] ∈ Mg.grpB smH (hSr l) := by rw [List.getD_eq_getElem?_getD, List.getElem?_eq_getElem hk]; exact List.getElem_mem _
   have e := Mg.grpB_flat smH (hSr l)
   have := (List.sublist_flatten_of_mem hm').length_le
   rw [e] at this; exact this
  have hE : rnEH (hSr l) k = ([.a (.w 3)], [.sl 2 (pl ((Mg.grpB smH (hSr l)).getD k []))]) := rfl
  rw [hE]
  revert hne ih lg z
  unfold nX
  rw [es]
  generalize (Mg.grpB smH (hSr l)).getD k [] = g
  generalize ((Mg.grpB smH (hSr l)).take k).map rowG = A
  intro ih hne lg z
  cases g with
  | nil => exact absurd rfl hne
  | cons p g =>
   have hlen : (pl (p :: g)).length = (p :: g).length := pl_len _
   have lp' : (p :: g).length = g.length + 1 := rfl
   have hv : (Value.int .i64 ((pl (p :: g)).length : Int)) = i6 (p :: g).length := by rw [hlen]
   refine gq [8] (lpA 8 newIn [] [.a K]) (.i (z := 0) (n := 0) (len := (pl (p :: g)).length) 23 rfl (by rw [hlen]; exact Nat.succ_pos _) <| .l (es := pl (p :: g)) (n := 0) (e := [.v (i6 p.1), .v (i6 p.2)]) 25 rfl <| .v 28 hv <| .q 1000 9 1 3 1 .nil) [0, 1, 2, 3, 4, 5, 6, 7, 8, 9, 10] [(4, .a (.p 3 0)), (6, .a (.p 9 0)), (27, .a (.w 8)), (28, vi (p :: g).length), (29, vi ((0 : Nat) : Int))]
    (nY l A p g 0) fun d => ?_
   refine loopA (fun (i : Nat) C => C = C' ∧ i ≤ (p :: g).length) (m := C'.m) (r0 := C'.r0) (Q := noF.Q C') (fun i C h => by rw [h.1]; exact ⟨rfl, rfl, rfl⟩) (fun i d => ⟨d, [(4, .a (.p 3 0)), (6, .a (.p 9 0)), (27, .a (.w 8)), (28, vi (p :: g).length), (29, vi ((i : Nat) : Int))], mkX (nY l A p g i)⟩) (fun i => (p :: g).length - i) (by kernel_rfl) (fun i K' ih2 C2 h2 d => ?_) 0 C' ⟨rfl, Nat.zero_le _⟩ d
   obtain ⟨rfl, hi⟩ := h2
   by_cases h : i < (p :: g).length
   ·have e1 : ((p :: g).take (i + 1)).map (·.1) = ((p :: g).take i).map (·.1) ++ [((p :: g).getD i (0, 0)).1] := take_map_succ (·.1) (p :: g) (0, 0) h
    have z1 : (il (((p :: g).take i).map (·.1))).length = i := by rw [List.length_map, List.length_map, List.length_take]; omega
    refine gq [] (lpKA 8 newIn [] [.a K] K') (.v 30 (bt (show (i : Int) < ((p :: g).length : Nat) by omega)) <| .i (z := (i : Int)) (n := i) (len := (pl (p :: g)).length) 31 rfl (by rw [hlen]; exact h) <| .l 32 (pl_at (p :: g) h) <| .a (n := (il (((p :: g).take i).map (·.1))).length + 1) (bytes := 8) 38 (by rw [z1]; unfold maxLen; omega) (by rw [z1]; omega) <| .v 40 (w64 (z := (i : Int) + 1) (by omega)) <|
     .o (x := .row 3 1 (il (((p :: g).take i).map (·.1)) ++ [[.v (i6 ((p :: g).getD i (0, 0)).1)]])) (y := .row 3 1 (il (((p :: g).take (i + 1)).map (·.1)))) 1000 13 (by rw [e1]; simp [il]) .nil) [0, 1, 2, 3, 4, 5, 6, 7, 8, 9, 13] [(4, .a (.p 3 0)), (6, .a (.p 9 0)), (27, .a (.w 8)), (28, vi (p :: g).length), (29, vi ((i + 1 : Nat) : Int))] (nY l A p g (i + 1)) fun d => ?_
    exact ih2 (i + 1) _ ⟨rfl, h⟩ (by omega) d
   ·have e : i = (p :: g).length := by omega
    subst e
    have e2 : ((p :: g).take (p :: g).length).map (·.1) = (p :: g).map (·.1) := by rw [List.take_length]
    unfold nY
    rw [e2]
    refine gq [] [.a K] (.v 30 (bf (show ¬ (((p :: g).length : Nat) : Int) < ((p :: g).length : Nat) by omega)) <| .z 12 10 <| .a (n := (rwl A).length + 1) (bytes := 32) 48 (by unfold maxLen; omega) (by omega) <|
     .o (x := .row 148 2 (rwl A ++ [[.v (i6 p.2), .s 1 (il ((p :: g).map (·.1)))]])) (y := .row 148 2 (rwl (A ++ [rowG (p :: g)]))) 1000 12 (by simp [rwl, rowG, il]) .nil) [0, 1, 2, 3, 4, 5, 6, 12] [] _ ih
 ·have e : ((Mg.grpB smH (hSr l)).take (Mg.grpB smH (hSr l)).length).map rowG = hRs l := by rw [List.take_length]; rfl
  unfold nX
  rw [e]
  exact dnM (.z 1000 7 <| .z 1000 2 .nil) [0, 2, 1, 7]
end Go.Proofs.YtlkhneiccjhgdaaGreat
set_option maxRecDepth 100000
namespace Go.Proofs.YtlkhneiccjhgdaaGreat
open Go.Eo Go.RowKit Go.Rg
theorem rwl_at (l : List (Int × List Int)) {k : Nat} (h : k < l.length) : (rwl l)[k]? = some [.v (i6 (l.getD k (0, [])).1), .s 1 (il (l.getD k (0, [])).2)] := map_at (fun r : Int × List Int => [Dt.v (i6 r.1), Dt.s 1 (il r.2)]) l (0, []) h
theorem byY_ok (y ky : Int) (xs : List Int) : FnP Pg 179 [.sl 1 (il xs)] [.g [.v (i6 y), .w 0], .a (.v (.agg #[i6 ky, .slice none 0 0]))] [.sl 1 (il xs)] [] (vi (cm y ky)) :=
 fq Tryz.func179 fun C => dn (.f 9 [] [] (cmp_ok y ky) .nil) [0]
noncomputable abbrev fdPB : Code := Tryz.f95.body.getD .skip
noncomputable abbrev fdIB : Code := Tryz.f180.body.getD .skip
theorem findI_ok (l : List Int) (ky : Int) (o : Nat → Int) (n : Nat) (hl : l.length < 100000000000) (hn : n ≤ l.length)
  (ho : ∀ i, i < l.length → FnP Pg 141 [] [vi (l.getD i 0), vi ky] [] [] (vi (o i))) (h1 : ∀ i, i < n → o i < 0) (h2 : ∀ i, n ≤ i → i < l.length → ¬ o i < 0) :
  FnP Pg 180 [.sl 1 (il l)] [.a (.w 0), vi ky, fv 141] [.sl 1 (il l)] [] (.a (.v (.tuple #[i6 n, .bool (decide (n < l.length) && decide (o n = 0))]))) := by
 refine fq Tryz.func180 fun C => ?_
 have hlen : (il l).length = l.length := List.length_map _
 have hv : (Value.int .i64 ((il l).length : Int)) = i6 l.length := by rw [hlen]
 refine gq [2] (lp 2 fdIB []) (.v 12 hv .nil) [0] [(0, .a (.w 0)), (1, vi ky), (2, fv 141), (8, vi ((0 : Nat) : Int)), (9, vi ((l.length : Nat) : Int))] [.sl 1 (il l)] fun d => ?_
 refine loop (β := { x : Nat × Nat // x.1 ≤ n ∧ n ≤ x.2 ∧ x.2 ≤ l.length }) (fun x d => ⟨d, [(0, .a (.w 0)), (1, vi ky), (2, fv 141), (8, vi ((x.1.1 : Nat) : Int)), (9, vi ((x.1.2 : Nat) : Int))], mkX [.sl 1 (il l)]⟩) (fun x => x.1.2 - x.1.1) (by kernel_rfl) (fun x K ih d => ?_) ⟨(0, l.length), Nat.zero_le _, hn, Nat.le_refl _⟩ d
 obtain ⟨⟨a, b⟩, ha, hb, hbl⟩ := x
 simp only at ha hb hbl
 by_cases h : a < b
 ·obtain ⟨k, hk⟩ : ∃ k, k = a + (b - a) / 2 := ⟨_, rfl⟩
  have hkl : k < l.length := by omega
  have HO := ho k hkl
  have its := fun (r : List It) (R : Its Pg C.W C.D r) => (.v 15 (bt (show (a : Int) < (b : Nat) by omega)) <| .v 19 (w64 (z := (b : Int) - a) (by omega)) <| .v 20 (half_eq (show a ≤ b by omega) (by omega)) <| .v 21 (x := .int .i64 (IntKind.i64.wrap ((a : Int) + (((b - a) / 2 : Nat) : Int)))) (y := i6 (k : Nat)) (by rw [w64 (by omega)]; exact congrArg i6 (by omega)) <|
   .i (z := (k : Int)) (n := k) (len := (il l).length) 25 rfl (by rw [hlen]; exact hkl) <| .l 26 (il_at l hkl) <| .f 28 [] [] HO R : Its Pg C.W C.D _)
  by_cases hc : o k < 0
  ·refine gq [] (lpK 2 fdIB [] K) (its _ (.v 29 (bt hc) <| .v 31 (w64 (z := (k : Int) + 1) (by omega)) .nil)) [0] [(0, .a (.w 0)), (1, vi ky), (2, fv 141), (8, vi ((k + 1 : Nat) : Int)), (9, vi ((b : Nat) : Int))] [.sl 1 (il l)] fun d => ?_
   exact ih ⟨(k + 1, b), Nat.lt_of_not_le fun hh => h2 k hh hkl hc, hb, hbl⟩ d (by simp only; omega)
  ·refine gq [] (lpK 2 fdIB [] K) (its _ (.v 29 (bf hc) .nil)) [0] [(0, .a (.w 0)), (1, vi ky), (2, fv 141), (8, vi ((a : Nat) : Int)), (9, vi ((k : Nat) : Int))] [.sl 1 (il l)] fun d => ?_
   exact ih ⟨(a, k), ha, Nat.le_of_not_lt fun hh => hc (h1 k hh), by simp only; omega⟩ d (by simp only; omega)
 ·have e : a = n := by omega
  subst e
  by_cases hc : a < l.length
  ·have HO := ho a hc
   rw [decide_eq_true hc, Bool.true_and]
   exact dn (.v 15 (bf (show ¬ (a : Int) < (b : Nat) by omega)) <| .v 36 hv <| .v 37 (bt (show (a : Int) < (l.length : Nat) by omega)) <| .i (z := (a : Int)) (n := a) (len := (il l).length) 42 rfl (by rw [hlen]; exact hc) <| .l 43 (il_at l hc) <| .f 45 [] [] HO .nil) [0]
  ·rw [decide_eq_false hc, Bool.false_and]
   exact dn (.v 15 (bf (show ¬ (a : Int) < (b : Nat) by omega)) <| .v 36 hv <| .v 37 (bf (show ¬ (a : Int) < (l.length : Nat) by omega)) .nil) [0]
noncomputable abbrev fdRB : Code := Tryz.f178.body.getD .skip
theorem findR_ok (l : List (Int × List Int)) (ky : Int) (o : Nat → Int) (n : Nat) (hl : l.length < 100000000000) (hn : n ≤ l.length)
  (ho : ∀ i, i < l.length → FnP Pg 179 [.sl 1 (il (l.getD i (0, [])).2)] [.g [.v (i6 (l.getD i (0, [])).1), .w 0], .a (.v (.agg #[i6 ky, .slice none 0 0]))] [.sl 1 (il (l.getD i (0, [])).2)] [] (vi (o i))) (h1 : ∀ i, i < n → o i < 0) (h2 : ∀ i, n ≤ i → i < l.length → ¬ o i < 0) :
  FnP Pg 178 [.sl 2 (rwl l)] [.a (.w 0), .a (.v (.agg #[i6 ky, .slice none 0 0])), fv 179] [.sl 2 (rwl l)] [] (.a (.v (.tuple #[i6 n, .bool (decide (n < l.length) && decide (o n = 0))]))) := by
 refine fq Tryz.func178 fun C => ?_
 have hlen : (rwl l).length = l.length := List.length_map _
 have hv : (Value.int .i64 ((rwl l).length : Int)) = i6 l.length := by rw [hlen]
 refine gq [2] (lp 2 fdRB []) (.v 12 hv .nil) [0, 1] [(0, .a (.w 0)), (2, fv 179), (4, .a (.p 1 0)), (8, vi ((0 : Nat) : Int)), (9, vi ((l.length : Nat) : Int))] [.sl 2 (rwl l), .box [.v (i6 ky), nilS] 148] fun d => ?_
 refine loop (β := { x : Nat × Nat // x.1 ≤ n ∧ n ≤ x.2 ∧ x.2 ≤ l.length }) (fun x d => ⟨d, [(0, .a (.w 0)), (2, fv 179), (4, .a (.p 1 0)), (8, vi ((x.1.1 : Nat) : Int)), (9, vi ((x.1.2 : Nat) : Int))], mkX [.sl 2 (rwl l), .box [.v (i6 ky), nilS] 148]⟩) (fun x => x.1.2 - x.1.1) (by kernel_rfl) (fun x K ih d => ?_) ⟨(0, l.length), Nat.zero_le _, hn, Nat.le_refl _⟩ d
 obtain ⟨⟨a, b⟩, ha, hb, hbl⟩ := x
 simp only at ha hb hbl
 by_cases h : a < b
 ·obtain ⟨k, hk⟩ : ∃ k, k = a + (b - a) / 2 := ⟨_, rfl⟩
  have hkl : k < l.length := by omega
  have HO := ho k hkl
  have its := fun (r : List It) (R : Its Pg C.W C.D r) => (.v 15 (bt (show (a : Int) < (b : Nat) by omega)) <| .v 19 (w64 (z := (b : Int) - a) (by omega)) <| .v 20 (half_eq (show a ≤ b by omega) (by omega)) <| .v 21 (x := .int .i64 (IntKind.i64.wrap ((a : Int) + (((b - a) / 2 : Nat) : Int)))) (y := i6 (k : Nat)) (by rw [w64 (by omega)]; exact congrArg i6 (by omega)) <|
   .i (z := (k : Int)) (n := k) (len := (rwl l).length) 25 rfl (by rw [hlen]; exact hkl) <| .l 26 (rwl_at l hkl) <| .f 28 [2] [0] HO R : Its Pg C.W C.D _)
  by_cases hc : o k < 0
  ·refine gq [] (lpK 2 fdRB [] K) (its _ (.v 29 (bt hc) <| .v 31 (w64 (z := (k : Int) + 1) (by omega)) .nil)) [0, 1] [(0, .a (.w 0)), (2, fv 179), (4, .a (.p 1 0)), (8, vi ((k + 1 : Nat) : Int)), (9, vi ((b : Nat) : Int))] [.sl 2 (rwl l), .box [.v (i6 ky), nilS] 148] fun d => ?_
   exact ih ⟨(k + 1, b), Nat.lt_of_not_le fun hh => h2 k hh hkl hc, hb, hbl⟩ d (by simp only; omega)
  ·refine gq [] (lpK 2 fdRB [] K) (its _ (.v 29 (bf hc) .nil)) [0, 1] [(0, .a (.w 0)), (2, fv 179), (4, .a (.p 1 0)), (8, vi ((a : Nat) : Int)), (9, vi ((k : Nat) : Int))] [.sl 2 (rwl l), .box [.v (i6 ky), nilS] 148] fun d => ?_
   exact ih ⟨(a, k), ha, Nat.le_of_not_lt fun hh => hc (h1 k hh), by simp only; omega⟩ d (by simp only; omega)
 ·have e : a = n := by omega
  subst e
  by_cases hc : a < l.length
  ·have HO := ho a hc
   rw [decide_eq_true hc, Bool.true_and]
   exact dn (.v 15 (bf (show ¬ (a : Int) < (b : Nat) by omega)) <| .v 36 hv <| .v 37 (bt (show (a : Int) < (l.length : Nat) by omega)) <| .i (z := (a : Int)) (n := a) (len := (rwl l).length) 42 rfl (by rw [hlen]; exact hc) <| .l 43 (rwl_at l hc) <| .f 45 [2] [0] HO .nil) [0]
  ·rw [decide_eq_false hc, Bool.false_and]
   exact dn (.v 15 (bf (show ¬ (a : Int) < (b : Nat) by omega)) <| .v 36 hv <| .v 37 (bf (show ¬ (a : Int) < (l.length : Nat) by omega)) .nil) [0]
end Go.Proofs.YtlkhneiccjhgdaaGreat
set_option maxRecDepth 100000
namespace Go.Proofs.YtlkhneiccjhgdaaGreat
open Go.Eo Go.RowKit Go.Rg
noncomputable abbrev neB : Code := Tryz.f177.body.getD .skip
abbrev setO (cs : List (Int × Int)) (rows : List (Int × List Int)) (j : Nat) : List Ob := [.ro [.w (j + 1), .w (j + 2)] 142, .sl 2 (pl cs), .sl 2 (rwl rows)]
abbrev neO (cs : List (Int × Int)) (rows : List (Int × List Int)) (lx ly hx hy : Int) : List Ob := [.ro [.p 3 0] 57, .ro [.v (i6 lx), .v (i6 ly)] 41, .ro [.v (i6 hx), .v (i6 hy)] 41] ++ setO cs rows 3
theorem near_ok (cs : List (Int × Int)) (rows : List (Int × List Int)) (lx ly hx hy : Int) : FnP Pg 122 (setO cs rows 0) [.a (.p 0 0), pA lx ly, pA hx hy] (setO cs rows 0)
  [.ro [.p 0 0] 57, .ro [.v (i6 lx), .v (i6 ly)] 41, .ro [.v (i6 hx), .v (i6 hy)] 41] (.f (.func 177) [] [.p 3 0, .p 4 0, .p 5 0]) :=
 fq Tryz.func122 fun C => dn (.z 1000 3 <| .z 1000 4 <| .z 1000 5 .nil) [0, 1, 2, 3, 4, 5]
def neE (rows : List (Int × List Int)) (lx ly hx hy : Int) (k : Nat) : List AV × List Ob := ([pA ((Wd.nearB rows lx ly hx hy).getD k (0, 0)).1 ((Wd.nearB rows lx ly hx hy).getD k (0, 0)).2], [])
theorem rising_find {l : List Int} (h : Wd.Rising l) (k : Int) : (∀ i, i < Wd.lowB l k → cm (l.getD i 0) k < 0) ∧ ∀ i, Wd.lowB l k ≤ i → i < l.length → ¬ cm (l.getD i 0) k < 0 := by
 refine ⟨fun i hi => ?_, fun i h1 h2 => ?_⟩
 ·have hl := Wd.lowB_le l k
  have e : l[i]? = some (l.getD i 0) := get_q l 0 (by omega)
  rw [cm_lt ((Wd.lowB_lt l k h i _ e).2 hi)]; decide
 ·have e : l[i]? = some (l.getD i 0) := get_q l 0 h2
  have : ¬ l.getD i 0 < k := fun hh => by have := (Wd.lowB_lt l k h i _ e).1 hh; omega
  unfold cm; rw [if_neg this]; split <;> decide
theorem rwl_cut (l : List (Int × List Int)) (f : Nat) : ((rwl l).take (rwl l).length).drop f = rwl (l.drop f) := by rw [List.take_length, ← List.map_drop]
theorem il_cut (l : List Int) (f : Nat) : ((il l).take (il l).length).drop f = il (l.drop f) := by rw [List.take_length, ← List.map_drop]
theorem drop_get {α : Type} {l r : List α} {k : Nat} {x d : α} (h : l.drop k = x :: r) : k < l.length ∧ l.getD k d = x ∧ l.drop (k + 1) = r := by
 have hk : k < l.length := by
  refine Nat.lt_of_not_le fun hh => ?_
  rw [List.drop_eq_nil_of_le hh] at h; cases h
 rw [List.drop_eq_getElem_cons hk] at h
 obtain ⟨e1, e2⟩ := List.cons.inj h
 exact ⟨hk, by rw [List.getD_eq_getElem?_getD, List.getElem?_eq_getElem hk]; exact e1, e2⟩
theorem drop_end {α : Type} {l : List α} {k : Nat} (h : l.drop k = []) (hk : k ≤ l.length) : k = l.length := by
 have := congrArg List.length h
 rw [List.length_drop, List.length_nil] at this; omega
abbrev neL (l : Nat) (n i : Nat) : List (Nat × AV) := [(0, yv l), (1, .a (.p 0 0)), (2, .a (.p 1 0)), (3, .a (.p 2 0)), (29, .a (.w 6)), (30, vi ((n : Nat) : Int)), (31, vi ((i : Nat) : Int))]
theorem near1_ok (cs : List (Int × Int)) (rows : List (Int × List Int)) (lx ly hx hy : Int) (hl : rows.length < 10000000000) (hl2 : ∀ r ∈ rows, r.2.length < 10000000000) (hry : Wd.Rising (rows.map (·.1))) (hrx : ∀ r ∈ rows, Wd.Rising r.2) :
  SeqP Pg 177 [.p 0 0, .p 1 0, .p 2 0] (neO cs rows lx ly hx hy) (Wd.nearB rows lx ly hx hy).length (neE rows lx ly hx hy) := by
 refine sq Tryz.func177 fun p0 C hp hA => ?_
 obtain ⟨f, hf⟩ : ∃ f, f = Wd.lowB (rows.map (·.1)) ly := ⟨_, rfl⟩
 have hfl : f ≤ rows.length := by have := Wd.lowB_le (rows.map (·.1)) ly; rw [List.length_map] at this; omega
 have gm : ∀ i, (rows.map (·.1)).getD i 0 = (rows.getD i (0, [])).1 := fun i => by
  rw [List.getD_eq_getElem?_getD, List.getD_eq_getElem?_getD, List.getElem?_map]; cases rows[i]? <;> rfl
 have F := findR_ok rows ly (fun i => cm (rows.getD i (0, [])).1 ly) f (by omega) hfl (fun i _ => byY_ok _ _ _)
  (fun i hi => by rw [← gm]; exact (rising_find hry ly).1 i (hf ▸ hi)) (fun i h1 h2 => by rw [← gm]; exact (rising_find hry ly).2 i (hf ▸ h1) (by rw [List.length_map]; exact h2))
 have lR : (rwl (rows.drop f)).length = (rows.drop f).length := List.length_map _
 have hvR : (Value.int .i64 ((((rwl rows).take (rwl rows).length).drop f).length : Int)) = i6 (rows.drop f).length := by rw [rwl_cut, lR]
 have fR : (rwl rows).length = rows.length := List.length_map _
 have hEnd : Wd.nearB rows lx ly hx hy = Wd.nearRest lx hx hy (rows.drop f) := by unfold Wd.nearB; rw [hf]
 have hRx : ∀ r ∈ rows.drop f, Wd.Rising r.2 ∧ r.2.length < 10000000000 := fun r hr => ⟨hrx r (List.mem_of_mem_drop hr), hl2 r (List.mem_of_mem_drop hr)⟩
 have hRl : (rows.drop f).length ≤ rows.length := by rw [List.length_drop]; omega
 refine gq [2] (lpA 2 neB [] []) (.f 21 [5] [0] F <| .b (lo := (f : Int)) (hi := ((rwl rows).length : Int)) (l := f) (h := (rwl rows).length) (len := (rwl rows).length) 29 false rfl rfl (by rw [fR]; exact hfl) (Nat.le_refl _) <| .v 30 hvR <|
  .o (x := .sl 2 (((rwl rows).take (rwl rows).length).drop f)) (y := .sl 2 (rwl (rows.drop f))) 1000 6 (by rw [rwl_cut]) .nil) [0, 1, 2, 3, 4, 5, 6] (neL p0.l (rows.drop f).length 0) (neO cs rows lx ly hx hy ++ [.sl 2 (rwl (rows.drop f))]) fun d => ?_
 clear hvR fR F gm
 generalize rows.drop f = R at *
 let p := prW p0 (Wd.nearB rows lx ly hx hy).length 6 (neE rows lx ly hx hy)
 refine loopA (F := itF Pg Tryz.f177 p) (Q := (itF Pg Tryz.f177 p).Q C) (fun (x : Nat × Nat) C => At p true x.1 C ∧ x.2 ≤ R.length ∧ x.1 ≤ p.n ∧ (Wd.nearB rows lx ly hx hy).drop x.1 = Wd.nearRest lx hx hy (R.drop x.2)) (fun x C h => ⟨h.1.m, h.1.r, rfl⟩) (fun x d => ⟨d, neL p0.l R.length x.2, mkX (neO cs rows lx ly hx hy ++ [.sl 2 (rwl R)])⟩) (fun x => R.length - x.2) (by kernel_rfl) (fun x K ih C hx d => ?_) (0, 0) C ⟨hA, Nat.zero_le _, Nat.zero_le _, by rw [hEnd]; rfl⟩ d
 obtain ⟨k, i⟩ := x
 obtain ⟨hA, hi, hk, hr⟩ := hx
 simp only at hA hi hk hr
 by_cases h : i < R.length
 ·have hq := get_q R (0, []) h
  have hm' : R.getD i (0, []) ∈ R := List.mem_of_getElem? hq
  obtain ⟨hrx, hrl⟩ := hRx _ hm'
  have at_i := rwl_at R h
  obtain ⟨r, er⟩ : ∃ r, r = R.getD i (0, []) := ⟨_, rfl⟩
  rw [← er] at hrx hrl at_i hq
  clear hm' er
  obtain ⟨y, xs⟩ := r
  simp only at hrx hrl at_i
  by_cases hy' : y > hy
  ·rw [Wd.nearRest_stop hq (by simp only; omega)] at hr
   exact dnI hp hA (drop_end hr hk) (.v 32 (bt (show (i : Int) < (R.length : Nat) by omega)) <| .i (z := (i : Int)) (n := i) (len := (rwl R).length) 33 rfl (by rw [lR]; exact h) <| .l 34 at_i <| .v 39 (bt hy') .nil)
  ·rw [Wd.nearRest_go hq (by simp only; omega)] at hr
   unfold Wd.rowNear at hr
   simp only at hr
   obtain ⟨a, ha⟩ : ∃ a, a = Wd.lowB xs lx := ⟨_, rfl⟩
   rw [← ha] at hr
   have hal : a ≤ xs.length := ha ▸ Wd.lowB_le xs lx
   have F := findI_ok xs lx (fun i => cm (xs.getD i 0) lx) a (by omega) hal (fun i _ => cmp_ok _ _) (fun i hi => (rising_find hrx lx).1 i (ha ▸ hi)) (fun i h1 h2 => (rising_find hrx lx).2 i (ha ▸ h1) h2)
   have fX : (il xs).length = xs.length := List.length_map _
   have lX : (il (xs.drop a)).length = (xs.drop a).length := List.length_map _
   have hvX : (Value.int .i64 ((((il xs).take (il xs).length).drop a).length : Int)) = i6 (xs.drop a).length := by rw [il_cut, lX]
   refine gq [7] (lpA 7 neB [K] []) (.v 32 (bt (show (i : Int) < (R.length : Nat) by omega)) <| .i (z := (i : Int)) (n := i) (len := (rwl R).length) 33 rfl (by rw [lR]; exact h) <| .l 34 at_i <| .v 39 (bf hy') <| .f 45 [7] [0] F <| .b (lo := (a : Int)) (hi := ((il xs).length : Int)) (l := a) (h := (il xs).length) (len := (il xs).length) 51 false rfl rfl (by rw [fX]; exact hal) (Nat.le_refl _) <| .v 52 hvX <|
    .o (x := .sl 1 (((il xs).take (il xs).length).drop a)) (y := .sl 1 (il (xs.drop a))) 1000 9 (by rw [il_cut]) .nil) [0, 1, 2, 3, 4, 5, 6, 7, 8, 9] (neL p0.l R.length i ++ [(8, .a (.p 8 0)), (51, .a (.w 9)), (52, vi (xs.drop a).length), (53, vi ((0 : Nat) : Int))]) (neO cs rows lx ly hx hy ++ [.sl 2 (rwl R), .sl 1 (il xs), .box [.v (i6 y), .w 7] 148, .sl 1 (il (xs.drop a))]) fun d => ?_
   have hSl : (xs.drop a).length ≤ xs.length := by rw [List.length_drop]; omega
   clear hvX fX F
   generalize xs.drop a = S at *
   refine loopA (F := itF Pg Tryz.f177 p) (Q := (itF Pg Tryz.f177 p).Q C) (fun (x : Nat × Nat) C => At p true x.1 C ∧ x.2 ≤ S.length ∧ x.1 ≤ p.n ∧ (Wd.nearB rows lx ly hx hy).drop x.1 = Wd.inR y hx (S.drop x.2) ++ Wd.nearRest lx hx hy (R.drop (i + 1))) (fun x C h => ⟨h.1.m, h.1.r, rfl⟩) (fun x d => ⟨d, neL p0.l R.length i ++ [(8, .a (.p 8 0)), (51, .a (.w 9)), (52, vi S.length), (53, vi ((x.2 : Nat) : Int))], mkX (neO cs rows lx ly hx hy ++ [.sl 2 (rwl R), .sl 1 (il xs), .box [.v (i6 y), .w 7] 148, .sl 1 (il S)])⟩) (fun x => S.length - x.2) (by kernel_rfl) (fun x K2 ih2 C hx d => ?_) (k, 0) C ⟨hA, Nat.zero_le _, hk, hr⟩ d
   clear hA hk hr
   obtain ⟨k, j⟩ := x
   obtain ⟨hA, hj, hk, hr⟩ := hx
   simp only at hA hj hk hr
   by_cases h' : j < S.length
   ·have hq := get_q S 0 h'
    have at_j := il_at S h'
    obtain ⟨x, ex⟩ : ∃ x, x = S.getD j 0 := ⟨_, rfl⟩
    rw [← ex] at at_j hq
    clear ex
    by_cases hx' : x > hx
    ·rw [Wd.inR_stop hq hx', List.nil_append] at hr
     refine gq [] (lpKA 2 neB [] [] K) (.v 54 (bt (show (j : Int) < (S.length : Nat) by omega)) <| .i (z := (j : Int)) (n := j) (len := (il S).length) 55 rfl (by rw [lX]; exact h') <| .l 56 at_j <| .v 60 (bt hx') <| .v 69 (w64 (z := (i : Int) + 1) (by omega)) .nil) [0, 1, 2, 3, 4, 5, 6] (neL p0.l R.length (i + 1)) (neO cs rows lx ly hx hy ++ [.sl 2 (rwl R)]) fun d => ?_
     exact ih (k, i + 1) C ⟨hA, h, hk, hr⟩ (by simp only; omega) d
    ·rw [Wd.inR_go hq (by omega), List.cons_append] at hr
     obtain ⟨g1, g2, g3⟩ := drop_get (d := (0, 0)) hr
     have hE : neE rows lx ly hx hy k = ([pA x y], []) := by unfold neE; rw [g2]
     refine goY hm hp (fun _ _ => rfl) hA g1 (by kernel_rfl) 10 80 (.v 54 (bt (show (j : Int) < (S.length : Nat) by omega)) <| .i (z := (j : Int)) (n := j) (len := (il S).length) 55 rfl (by rw [lX]; exact h') <| .l 56 at_j <| .v 60 (bf hx') .nil) 5 [] (fun W D => .nil) rfl (by kernel_rfl) (by show eB _ (neE rows lx ly hx hy k) = true; rw [hE]; kernel_rfl) (fun b => by show _ = rhsY _ _ (neE rows lx ly hx hy k) _ _; rw [hE]; kernel_rfl) fun C' b hA' => ?_
     cases b with
     | false => exact dnI hp hA' ⟨by omega, g1⟩ .nil
     | true =>
      refine gq [] (lpKA 7 neB [K] [] K2) (.v 68 (w64 (z := (j : Int) + 1) (by omega)) .nil) [0, 1, 2, 3, 4, 5, 6, 7, 8, 9] (neL p0.l R.length i ++ [(8, .a (.p 8 0)), (51, .a (.w 9)), (52, vi S.length), (53, vi ((j + 1 : Nat) : Int))]) (neO cs rows lx ly hx hy ++ [.sl 2 (rwl R), .sl 1 (il xs), .box [.v (i6 y), .w 7] 148, .sl 1 (il S)]) fun d => ?_
      exact ih2 (k + 1, j + 1) C' ⟨hA', h', g1, g3⟩ (by simp only; omega) d
   ·rw [Wd.inR_nil (by omega), List.nil_append] at hr
    refine gq [] (lpKA 2 neB [] [] K) (.v 54 (bf (show ¬ (j : Int) < (S.length : Nat) by omega)) <| .v 69 (w64 (z := (i : Int) + 1) (by omega)) .nil) [0, 1, 2, 3, 4, 5, 6] (neL p0.l R.length (i + 1)) (neO cs rows lx ly hx hy ++ [.sl 2 (rwl R)]) fun d => ?_
    exact ih (k, i + 1) C ⟨hA, h, hk, hr⟩ (by simp only; omega) d
 ·rw [show R.drop i = [] from List.drop_eq_nil_of_le (by omega), Wd.nearRest_nil] at hr
  exact dnI hp hA (drop_end hr hk) (.v 32 (bf (show ¬ (i : Int) < (R.length : Nat) by omega)) .nil)
end Go.Proofs.YtlkhneiccjhgdaaGreat
set_option maxRecDepth 100000
namespace Go.Proofs.YtlkhneiccjhgdaaGreat
open Go.RowKit Go.Rg Go.Wd
theorem gtn {x y : Int} (h : ¬ y < x) : Value.bool (decide (x > y)) = .bool false := by rw [decide_eq_false (show ¬ x > y from h)]
theorem ngw {x : Int} (h : -9223372036854775808 ≤ -x ∧ -x ≤ 9223372036854775807) : Value.int .i64 (IntKind.i64.wrap (0 - x)) = i6 (-x) := by rw [Int.zero_sub]; exact w64 h
abbrev stC (s : Stz) : List Eo.AC := (stL s).map .v
theorem stfrom_ok (s : Stz) (n d : Int) (o : Bool) (hr : Wd.Ok n d) (ho : s.Ok) : Eo.FnP Pg 227 [.box (stC s) 202] [.a (.p 0 0), .a (.v (rt n d)), vb o] [.box (stC (fromZ s n d o)) 202] [] unit := by
 obtain ⟨fn, fd, tn, td, op, ot⟩ := s
 have L := pless_any n d fn fd hr ho.f
 unfold fromZ
 simp only
 by_cases h1 : 0 < cmpR n d fn fd
 ·rw [if_pos h1]
  exact fq Tryz.func227 fun C => dn (.c 12 L <| .v 15 (gt_t h1) .nil) [0]
 ·rw [if_neg h1]
  by_cases h2 : cmpR n d fn fd = 0
  ·rw [if_pos h2]
   cases op <;> exact fq Tryz.func227 fun C => dn (.c 12 L <| .v 15 (gtn h1) <| .v 26 (et h2) .nil) [0]
  ·rw [if_neg h2]
   exact fq Tryz.func227 fun C => dn (.c 12 L <| .v 15 (gtn h1) <| .v 26 (ef h2) .nil) [0]
theorem stto_ok (s : Stz) (n d : Int) (o : Bool) (hr : Wd.Ok n d) (ho : s.Ok) : Eo.FnP Pg 229 [.box (stC s) 202] [.a (.p 0 0), .a (.v (rt n d)), vb o] [.box (stC (toZ s n d o)) 202] [] unit := by
 obtain ⟨fn, fd, tn, td, op, ot⟩ := s
 have L := pless_any n d tn td hr ho.t
 unfold toZ
 simp only
 by_cases h1 : cmpR n d tn td < 0
 ·rw [if_pos h1]
  exact fq Tryz.func229 fun C => dn (.c 12 L <| .v 15 (bt h1) .nil) [0]
 ·rw [if_neg h1]
  by_cases h2 : cmpR n d tn td = 0
  ·rw [if_pos h2]
   cases ot <;> exact fq Tryz.func229 fun C => dn (.c 12 L <| .v 15 (bf h1) <| .v 26 (et h2) .nil) [0]
  ·rw [if_neg h2]
   exact fq Tryz.func229 fun C => dn (.c 12 L <| .v 15 (bf h1) <| .v 26 (ef h2) .nil) [0]
theorem stband_ok (s : Stz) (a way low high : Int) (hs : s.Ok) (hb : BandOk a way low high) : Eo.FnP Pg 181 [.box (stC s) 202] [.a (.p 0 0), vi a, vi way, vi low, vi high] [.box (stC (bandZ s a way low high).1) 202] [] (vb (bandZ s a way low high).2) := by
 have := hb.a1; have := hb.a2; have := hb.w1; have := hb.w2; have := hb.l1; have := hb.l2; have := hb.h1; have := hb.h2
 have a2 := w64 (z := 2 * a) (by omega)
 have w2 := w64 (z := 2 * way) (by omega)
 unfold bandZ
 by_cases c1 : 0 < way
 ·rw [if_pos c1]
  have r1 : Wd.Ok (low - 2 * a) (2 * way) := ⟨by omega, by omega, by omega, by omega⟩
  have r2 : Wd.Ok (high - 2 * a) (2 * way) := ⟨by omega, by omega, by omega, by omega⟩
  exact fq Tryz.func181 fun C => dn (.v 12 a2 <| .v 14 w2 <| .v 25 (gt_t (show 0 < 2 * way by omega)) <| .v 29 (w64 (z := low - 2 * a) (by omega)) <| .c 31 (bound_any (low - 2 * a) (2 * way) (by omega) (by omega) (by omega) (by omega)) <| .f 32 [0] [] (stfrom_ok s (low - 2 * a) (2 * way) false r1 hs) <|
   .v 36 (w64 (z := high - 2 * a) (by omega)) <| .c 38 (bound_any (high - 2 * a) (2 * way) (by omega) (by omega) (by omega) (by omega)) <| .f 39 [0] [] (stto_ok (fromZ s (low - 2 * a) (2 * way) false) (high - 2 * a) (2 * way) true r2 (fromZ_ok hs r1)) .nil) [0]
 ·rw [if_neg c1]
  by_cases c2 : way < 0
  ·rw [if_pos c2]
   have r1 : Wd.Ok (2 * a - high) (-(2 * way)) := ⟨by omega, by omega, by omega, by omega⟩
   have r2 : Wd.Ok (2 * a - low) (-(2 * way)) := ⟨by omega, by omega, by omega, by omega⟩
   exact fq Tryz.func181 fun C => dn (.v 12 a2 <| .v 14 w2 <| .v 25 (gtn (show ¬ 0 < 2 * way by omega)) <| .v 42 (bt (show 2 * way < 0 by omega)) <| .v 46 (w64 (z := 2 * a - high) (by omega)) <| .v 48 (ngw (x := 2 * way) (by omega)) <| .c 49 (bound_any (2 * a - high) (-(2 * way)) (by omega) (by omega) (by omega) (by omega)) <| .f 50 [0] [] (stfrom_ok s (2 * a - high) (-(2 * way)) true r1 hs) <|
    .v 54 (w64 (z := 2 * a - low) (by omega)) <| .v 56 (ngw (x := 2 * way) (by omega)) <| .c 57 (bound_any (2 * a - low) (-(2 * way)) (by omega) (by omega) (by omega) (by omega)) <| .f 58 [0] [] (stto_ok (fromZ s (2 * a - high) (-(2 * way)) true) (2 * a - low) (-(2 * way)) false r2 (fromZ_ok hs r1)) .nil) [0]
  ·rw [if_neg c2]
   by_cases g1 : low ≤ 2 * a
   ·by_cases g2 : 2 * a < high
    ·rw [decide_eq_true g1, decide_eq_true g2]
     exact fq Tryz.func181 fun C => dn (.v 12 a2 <| .v 14 w2 <| .v 25 (gtn (show ¬ 0 < 2 * way by omega)) <| .v 42 (bf (show ¬ 2 * way < 0 by omega)) <| .v 17 (bt (show 2 * a ≥ low by omega)) <| .v 21 (bt g2) .nil) [0]
    ·rw [decide_eq_true g1, decide_eq_false g2]
     exact fq Tryz.func181 fun C => dn (.v 12 a2 <| .v 14 w2 <| .v 25 (gtn (show ¬ 0 < 2 * way by omega)) <| .v 42 (bf (show ¬ 2 * way < 0 by omega)) <| .v 17 (bt (show 2 * a ≥ low by omega)) <| .v 21 (bf g2) .nil) [0]
   ·rw [decide_eq_false g1]
    exact fq Tryz.func181 fun C => dn (.v 12 a2 <| .v 14 w2 <| .v 25 (gtn (show ¬ 0 < 2 * way by omega)) <| .v 42 (bf (show ¬ 2 * way < 0 by omega)) <| .v 17 (bf (show ¬ 2 * a ≥ low by omega)) .nil) [0]
theorem stsome_ok (s : Stz) (hs : s.Ok) : Eo.FnP Pg 182 [.box (stC s) 202] [.a (.p 0 0)] [.box (stC s) 202] [] (vb (someZ s)) := by
 obtain ⟨fn, fd, tn, td, op, ot⟩ := s
 have L := pless_any fn fd tn td hs.f hs.t
 unfold someZ
 simp only
 by_cases h1 : cmpR fn fd tn td < 0
 ·rw [decide_eq_true h1]
  exact fq Tryz.func182 fun C => dn (.c 12 L <| .v 14 (bt h1) .nil) [0]
 ·rw [decide_eq_false h1]
  by_cases h2 : cmpR fn fd tn td = 0
  ·rw [decide_eq_true h2]
   cases op
   ·cases ot <;> exact fq Tryz.func182 fun C => dn (.c 12 L <| .v 14 (bf h1) <| .v 17 (et h2) .nil) [0]
   ·exact fq Tryz.func182 fun C => dn (.c 12 L <| .v 14 (bf h1) <| .v 17 (et h2) .nil) [0]
  ·rw [decide_eq_false h2]
   exact fq Tryz.func182 fun C => dn (.c 12 L <| .v 14 (bf h1) <| .v 17 (ef h2) .nil) [0]
theorem stahead_ok (s t : Stz) (hs : s.Ok) (ht : t.Ok) : Eo.FnP Pg 126 [] [.a (.v (stV s)), .a (.v (stV t))] [] [] (vi (aheadZ s t)) := by
 obtain ⟨fn, fd, tn, td, op, ot⟩ := s
 obtain ⟨fn', fd', tn', td', op', ot'⟩ := t
 have L := ratCmp_any fn fd fn' fd' hs.f ht.f
 unfold aheadZ
 simp only
 by_cases h1 : cmpR fn fd fn' fd' = 0
 ·rw [if_neg (fun h => h h1)]
  rw [h1] at L
  cases op <;> cases op' <;> exact fq Tryz.func126 fun C => dn (.c 12 L .nil) []
 ·rw [if_pos h1]
  exact fq Tryz.func126 fun C => dn (.c 12 L <| .v 20 (nt h1) .nil) []
def cutR : Option Stz → Value
 | some z => .tuple #[stV z, .bool true]
 | none => .tuple #[st0V, .bool false]
theorem stcut_ok (a b c d cx cy size : Int) (hg : sgB a b c d = true) (hc : ptB cx cy = true) (hs : szB size = true) : Eo.FnP Pg 123 [] [.a (.v (gV a b c d)), .a (.v (pV cx cy)), vi size] [] [] (.a (.v (cutR (cutZ a b c d cx cy size)))) := by
 have S1 := psize_any size true hs
 have S2 := sgRight_any a b c d true hg
 have S3 := ptRight_any cx cy true hc
 unfold sgB ptB at hg
 unfold ptB at hc
 simp only [Bool.and_eq_true] at hg hc
 rw [szB_iff] at hs
 have px := prod_bd (c := cx) (inB_iff.1 hc.1).1 (inB_iff.1 hc.1).2 hs.1 hs.2
 have py := prod_bd (c := cy) (inB_iff.1 hc.2).1 (inB_iff.1 hc.2).2 hs.1 hs.2
 have bx := bandOk_of hg.1.1 hg.2.1 px hs.1 hs.2
 have by' := bandOk_of hg.1.2 hg.2.2 py hs.1 hs.2
 have B1 := stband_ok whole a (c - a) (2 * cx * size - size) (2 * cx * size + size) whole_ok bx
 have o1 := bandZ_ok (s := whole) whole_ok bx
 have := inB_iff.1 hc.1; have := inB_iff.1 hc.2; have := inB_iff.1 hg.1.1; have := inB_iff.1 hg.1.2; have := inB_iff.1 hg.2.1; have := inB_iff.1 hg.2.2
 have its := fun (C : Eo.Cx) (r : List Eo.It) (R : Eo.Its Pg C.W C.D r) => (.c 12 S1 <| .c 16 S2 <| .c 21 S3 <| .c 25 (ratOf_any 0 (by decide) (by decide)) <| .c 26 (ratOf_any 1 (by decide) (by decide)) <| .v 30 (w64 (z := 2 * cx) (by omega)) <| .v 32 (w64 (z := 2 * cx * size) (by omega)) <| .v 35 (w64 (z := 2 * cy) (by omega)) <| .v 37 (w64 (z := 2 * cy * size) (by omega)) <|
  .v 47 (w64 (z := c - a) (by omega)) <| .v 50 (w64 (z := 2 * cx * size - size) (by omega)) <| .v 53 (w64 (z := 2 * cx * size + size) (by omega)) <| .f 54 [3] [] B1 R : Eo.Its Pg C.W C.D _)
 unfold cutZ
 revert B1 o1 its
 generalize bandZ whole a (c - a) (2 * cx * size - size) (2 * cx * size + size) = z1
 obtain ⟨z1, r1⟩ := z1
 intro B1 o1 its
 simp only at B1 o1 its ⊢
 cases r1 with
 | false => exact fq Tryz.func123 fun C => dn (its C _ .nil) []
 | true =>
  have B2 := stband_ok z1 b (d - b) (2 * cy * size - size) (2 * cy * size + size) o1 by'
  have o2 := bandZ_ok (s := z1) o1 by'
  rw [if_pos rfl]
  revert B2 o2
  generalize bandZ z1 b (d - b) (2 * cy * size - size) (2 * cy * size + size) = z2
  obtain ⟨z2, r2⟩ := z2
  intro B2 o2
  simp only at B2 o2 ⊢
  have it2 := fun (C : Eo.Cx) (r : List Eo.It) (R : Eo.Its Pg C.W C.D r) => (its C _ (.v 66 (w64 (z := d - b) (by omega)) <| .v 69 (w64 (z := 2 * cy * size - size) (by omega)) <| .v 72 (w64 (z := 2 * cy * size + size) (by omega)) <| .f 73 [3] [] B2 R) : Eo.Its Pg C.W C.D _)
  cases r2 with
  | false => exact fq Tryz.func123 fun C => dn (it2 C _ .nil) []
  | true =>
   have B3 := stsome_ok z2 o2
   rw [if_pos rfl]
   cases h3 : someZ z2 with
   | false => rw [h3] at B3; exact fq Tryz.func123 fun C => dn (it2 C _ (.f 77 [3] [0] B3 .nil)) []
   | true => rw [h3] at B3; exact fq Tryz.func123 fun C => dn (it2 C _ (.f 77 [3] [0] B3 .nil)) []
end Go.Proofs.YtlkhneiccjhgdaaGreat
set_option maxRecDepth 100000
namespace Go.Proofs.YtlkhneiccjhgdaaGreat
open Go.Eo Go.RowKit Go.Rg
noncomputable abbrev ofBd : Code := Tryz.f63.body.getD .skip
theorem of1_ok (x y : Mt) (hx : x.2.Ok) (hy : y.2.Ok) : FnP Pg 125 [] [mtA x, mtA y] [] [] (vi (Wd.aheadZ x.2 y.2)) :=
 fq Tryz.func125 fun C => dn (.f 9 [] [] (stahead_ok x.2 y.2 hx hy) .nil) []
theorem cut_ok (a b c d cx cy size : Int) (hg : Wd.sgB a b c d = true) (hc : Wd.ptB cx cy = true) (hs : Wd.szB size = true) : FnP Pg 123 [] [gA a b c d, pA cx cy, vi size] [] [] (.a (.v (cutR (Wd.cutZ a b c d cx cy size)))) := stcut_ok a b c d cx cy size hg hc hs
theorem box_ok (a b c d size : Int) (hg : Wd.sgB a b c d = true) (hs : Wd.szB size = true) : FnP Pg 121 [] [gA a b c d, vi size] [] [] (.a (.v (.tuple #[Wd.pV (min (Wd.cellZ a 1 size) (Wd.cellZ c 1 size)) (min (Wd.cellZ b 1 size) (Wd.cellZ d 1 size)), Wd.pV (max (Wd.cellZ a 1 size) (Wd.cellZ c 1 size)) (max (Wd.cellZ b 1 size) (Wd.cellZ d 1 size)), i6 0]))) :=
 fnp_of (args := [Wd.gV a b c d, i6 size]) fun w => box_any a b c d size hg hs w
abbrev ofX (cs : List (Int × Int)) (rows : List (Int × List Int)) (a b c d size lx ly hx hy : Int) (m : List Mt) : List Ob := setO cs rows 0 ++ [.box [.v (i6 a), .v (i6 b), .v (i6 c), .v (i6 d)] 43, .box [.v (i6 size)] 3, .box [.w 9] 197,
 .ro [.p 0 0] 57, .ro [.v (i6 lx), .v (i6 ly)] 41, .ro [.v (i6 hx), .v (i6 hy)] 41, .row 206 20 (mtl m)]
noncomputable abbrev ofIn : Code := match rgK 6 ofBd [] with
 | .c (.rangeFunc _ _ _ b) :: _ => b
 | _ => .skip
theorem mets_take {a b c d size : Int} {l : List (Int × Int)} {k : Nat} (h : k < l.length) : metsB a b c d size (l.take (k + 1)) = metsB a b c d size (l.take k) ++ (match Wd.cutZ a b c d (l.getD k (0, 0)).1 (l.getD k (0, 0)).2 size with | some s => [((l.getD k (0, 0)), s)] | none => []) := by
 unfold metsB
 rw [List.take_add_one, List.getElem?_eq_getElem h, Option.toList_some, List.filterMap_append, List.getD_eq_getElem?_getD, List.getElem?_eq_getElem h, Option.getD_some]
 congr 1
 unfold metOf
 rw [List.filterMap_cons, List.filterMap_nil]
 cases Wd.cutZ a b c d l[k].1 l[k].2 size <;> rfl
theorem mets_len (a b c d size : Int) (l : List (Int × Int)) : (metsB a b c d size l).length ≤ l.length := List.length_filterMap_le _ _
theorem mtl_at (l : List Mt) {k : Nat} (h : k < l.length) : (mtl l)[k]? = some (mD (l.getD k ((0, 0), ⟨0, 0, 0, 0, false, false⟩))) := map_at mD l _ h
theorem chof_ok (cs : List (Int × Int)) (rows : List (Int × List Int)) (a b c d size : Int) (hg : Wd.sgB a b c d = true) (hs : Wd.szB size = true) (hl : rows.length < 10000000000) (hl2 : ∀ r ∈ rows, r.2.length < 10000000000) (hry : Wd.Rising (rows.map (·.1))) (hrx : ∀ r ∈ rows, Wd.Rising r.2)
  (hpt : ∀ p ∈ nearS a b c d size rows, Wd.ptB p.1 p.2 = true) (hn : (nearS a b c d size rows).length < 1000000000) :
  FnP Pg 63 (setO cs rows 0) [gA a b c d, .a (.p 0 0), vi size] (setO cs rows 0) [.row 41 2 (pl (ofB a b c d size rows))] (.t [.a (.w 3), .a (.v (i6 0))]) := by
 have BX := box_ok a b c d size hg hs
 obtain ⟨near, hnear⟩ : ∃ near, near = nearS a b c d size rows := ⟨_, rfl⟩
 have hof : ofB a b c d size rows = (Mg.sortB (fun x y : Mt => !decide (Wd.aheadZ y.2 x.2 < 0)) (metsB a b c d size near)).map (·.1) := by rw [hnear]; rfl
 have hnr : near = Wd.nearB rows (min (Wd.cellZ a 1 size) (Wd.cellZ c 1 size)) (min (Wd.cellZ b 1 size) (Wd.cellZ d 1 size)) (max (Wd.cellZ a 1 size) (Wd.cellZ c 1 size)) (max (Wd.cellZ b 1 size) (Wd.cellZ d 1 size)) := hnear
 rw [← hnear] at hpt hn
 rw [hof]
 clear hnear hof
 generalize min (Wd.cellZ a 1 size) (Wd.cellZ c 1 size) = lx at *
 generalize min (Wd.cellZ b 1 size) (Wd.cellZ d 1 size) = ly at *
 generalize max (Wd.cellZ a 1 size) (Wd.cellZ c 1 size) = hx at *
 generalize max (Wd.cellZ b 1 size) (Wd.cellZ d 1 size) = hy at *
 refine fqM Tryz.func63 fun C hC => ?_
 refine gq [6] (rgK 6 ofBd []) (.f 21 [] [] BX <| .f 31 [0, 1, 2] [0, 1, 2] (near_ok cs rows lx ly hx hy) <| .q 1000 7 0 206 20 .nil) [0, 1, 2, 3, 4, 7, 8, 9, 10, 11] [(3, .a (.p 3 0)), (5, .a (.p 4 0)), (11, .a (.p 5 0)), (31, .f (.func 177) [] [.p 6 0, .p 7 0, .p 8 0])] (ofX cs rows a b c d size lx ly hx hy (metsB a b c d size (near.take 0))) fun d' => ?_
 refine rng hm (reb_finM _ _ _ _) hC (near1_ok cs rows lx ly hx hy hl hl2 hry hrx) 9 [6, 7, 8, 0, 1, 2] (fun k => ofX cs rows a b c d size lx ly hx hy (metsB a b c d size (near.take k))) (by kernel_rfl) (by kernel_rfl) (by kernel_rfl) (fun k => by kernel_rfl) (fun k => by kernel_rfl) (fun k => by kernel_rfl) (fun k C' K hk hdf ih => ?_) (fun C' hC' _ => ?_)
 ·rw [← hnr] at hk
  have es := mets_take (a := a) (b := b) (c := c) (d := d) (size := size) hk
  have hp := hpt (near.getD k (0, 0)) (by rw [List.getD_eq_getElem?_getD, List.getElem?_eq_getElem hk]; exact List.getElem_mem _)
  have CU := cut_ok a b c d (near.getD k (0, 0)).1 (near.getD k (0, 0)).2 size hg hp hs
  have z := mets_len a b c d size (near.take k)
  rw [List.length_take] at z
  have hE : neE rows lx ly hx hy k = ([pA (near.getD k (0, 0)).1 (near.getD k (0, 0)).2], []) := by unfold neE; rw [← hnr]
  rw [hE]
  try simp only at ih
  rw [es] at ih
  revert CU ih
  cases Wd.cutZ a b c d (near.getD k (0, 0)).1 (near.getD k (0, 0)).2 size with
  | none =>
   intro ih CU
   rw [List.append_nil] at ih
   exact gq [] [.a K] (.f 37 [] [] CU .nil) [0, 1, 2, 3, 4, 5, 6, 7, 8, 9] [] _ ih
  | some s =>
   intro ih CU
   generalize metsB a b c d size (near.take k) = m at *
   refine gq [] [.a K] (.f 37 [] [] CU <| .a (n := (mtl m).length + 1) (bytes := 152) 46 (by rw [mtl_len]; unfold maxLen; omega) (by rw [mtl_len]; omega) <| .o (x := .row 206 20 (mtl m ++ [mD (near.getD k (0, 0), s)])) (y := .row 206 20 (mtl (m ++ [(near.getD k (0, 0), s)]))) 1000 13 (by simp) .nil) [0, 1, 2, 3, 4, 5, 6, 7, 8, 13] [] _ ih
 ·rw [← hnr]
  simp only [List.take_length]
  have z := mets_len a b c d size near
  have hOk : ∀ m ∈ metsB a b c d size near, m.2.Ok := fun m hm' => by
   unfold metsB at hm'
   obtain ⟨p, hp, e⟩ := List.mem_filterMap.1 hm'
   unfold metOf at e
   cases hz : Wd.cutZ a b c d p.1 p.2 size with
   | none => rw [hz] at e; cases e
   | some s => rw [hz] at e; cases e; exact Wd.cutZ_ok hg (hpt p hp) hs hz
  generalize metsB a b c d size near = m at *
  have SO : FnP Pg 124 [.sl 20 (mtl m)] [.a (.w 0), ovM .a] [.sl 20 (mtl m)] [.sl 20 (mtl (Mg.sortB (leMm fun x y => Wd.aheadZ x.2 y.2) m))] (.a (.w 1)) := fnp_fz [true] (sortM_ok .a (fun x y => Wd.aheadZ x.2 y.2) m (by omega) (fun x hx y hy => of1_ok y x (hOk y hy) (hOk x hx)))
  have hl3 : (Mg.sortB (leMm fun x y => Wd.aheadZ x.2 y.2) m).length = m.length := Mg.sortB_len _ _
  show Eo.Good _ _ _ (finFM _ _ _ (_ ++ [.row 41 2 (pl ((Mg.sortB (leMm fun x y => Wd.aheadZ x.2 y.2) m).map (·.1)))]) _) _ _ _
  generalize Mg.sortB (leMm fun x y => Wd.aheadZ x.2 y.2) m = S at *
  have lS := mtl_len S
  have hv : (Value.int .i64 ((mtl S).length : Int)) = i6 S.length := by rw [lS]
  refine gq [12] (lp 12 ofBd []) (.z 11 9 <| .f 48 [9] [0] SO <| .v 49 hv <| .n 1000 15 41 2 .nil) [0, 1, 2, 10, 11] [(15, .a (.w 4)), (48, .a (.w 3)), (49, vi S.length), (50, vi ((0 : Nat) : Int))] (setO cs rows 0 ++ [.sl 20 (mtl S), .row 41 2 (pl ((S.take 0).map (·.1)))]) fun d' => ?_
  refine loop (β := { i : Nat // i ≤ S.length }) (fun x d => ⟨d, [(15, .a (.w 4)), (48, .a (.w 3)), (49, vi S.length), (50, vi ((x.1 : Nat) : Int))], mkX (setO cs rows 0 ++ [.sl 20 (mtl S), .row 41 2 (pl ((S.take x.1).map (·.1)))])⟩) (fun x => S.length - x.1) (by kernel_rfl) (fun x K ih d => ?_) ⟨0, Nat.zero_le _⟩ d'
  obtain ⟨i, hi⟩ := x
  try simp only at hi
  by_cases h : i < S.length
  ·have es := take_map_succ (·.1) S ((0, 0), ⟨0, 0, 0, 0, false, false⟩) h
   have at_i := mtl_at S h
   have z2 : (pl ((S.take i).map (·.1))).length = i := by rw [pl_len, List.length_map, List.length_take]; omega
   refine gq [] (lpK 12 ofBd [] K) (.v 51 (bt (show (i : Int) < (S.length : Nat) by omega)) <| .i (z := (i : Int)) (n := i) (len := (mtl S).length) 52 rfl (by rw [lS]; exact h) <| .l 53 at_i <| .a (n := (pl ((S.take i).map (·.1))).length + 1) (bytes := 16) 58 (by rw [z2]; unfold maxLen; omega) (by rw [z2]; omega) <| .v 59 (w64 (z := (i : Int) + 1) (by omega)) <|
    .o (x := .row 41 2 (pl ((S.take i).map (·.1)) ++ [[.v (i6 (S.getD i ((0, 0), ⟨0, 0, 0, 0, false, false⟩)).1.1), .v (i6 (S.getD i ((0, 0), ⟨0, 0, 0, 0, false, false⟩)).1.2)]])) (y := .row 41 2 (pl ((S.take (i + 1)).map (·.1)))) 1000 7 (by rw [es]; simp [pl]) .nil) [0, 1, 2, 3, 7] [(15, .a (.w 4)), (48, .a (.w 3)), (49, vi S.length), (50, vi ((i + 1 : Nat) : Int))] (setO cs rows 0 ++ [.sl 20 (mtl S), .row 41 2 (pl ((S.take (i + 1)).map (·.1)))]) fun d => ?_
   exact ih ⟨i + 1, h⟩ d (by simp only; omega)
  ·have e : (S.take i).map (·.1) = S.map (·.1) := by rw [List.take_of_length_le (by omega)]
   rw [e]
   exact dnM (.v 51 (bf (show ¬ (i : Int) < (S.length : Nat) by omega)) .nil) [0, 1, 2, 4]
end Go.Proofs.YtlkhneiccjhgdaaGreat
