/- Chains: Steps, Join, Centres, by the engine; lists of points and of chains compared. -/
import Derived.Test.YtlkhneiccjhgdaaGreatGRp
import Derived.Test.YtlkhneiccjhgdaaGreatGRo
import Derived.Test.YtlkhneiccjhgdaaGreatGRm
import Derived.Test.YtlkhneiccjhgdaaGreatGRf
set_option linter.unusedVariables false
set_option linter.unusedSimpArgs false
set_option maxRecDepth 100000
namespace Go.Proofs.YtlkhneiccjhgdaaGreat
open Go.Eo Go.RowKit Go.Rg
theorem steps_ok (l : List (Int × Int)) : FnP Pg 35 [.sl 2 (pl l)] [.a (.w 0)] [.sl 2 (pl l)] [.ro [.w 0] 22] (.f (.func 85) [] [.p 1 0]) :=
 fq Tryz.func35 fun C => dn (.z 1000 1 .nil) [0, 1]
abbrev gP (l : List (Int × Int)) (k : Nat) : Int × Int := l.getD k (0, 0)
def stE (l : List (Int × Int)) (k : Nat) : List AV × List Ob := ([pA (gP l k).1 (gP l k).2, pA (gP l (k + 1)).1 (gP l (k + 1)).2], [])
noncomputable abbrev stpB : Code := Tryz.f85.body.getD .skip
theorem steps1_ok (l : List (Int × Int)) (hl : l.length < 1000000000000) : SeqP Pg 85 [.p 0 0] [.ro [.w 1] 22, .sl 2 (pl l)] (l.length - 1) (stE l) := by
 refine sq Tryz.func85 fun p0 C hp hA => ?_
 have hlen := pl_len l
 have hv : (Value.int .i64 ((pl l).length : Int)) = i6 l.length := by rw [hlen]
 refine gq [1] (lpA 1 stpB [] []) .nil [0, 1] [(0, yv p0.l), (1, .a (.p 0 0)), (3, vi (((0 : Nat) : Int) + 1))] [.ro [.w 1] 22, .sl 2 (pl l)] fun d => ?_
 let p := prW p0 (l.length - 1) 2 (stE l)
 refine loopA (F := itF Pg Tryz.f85 p) (Q := (itF Pg Tryz.f85 p).Q C) (fun x C => At p true x C ∧ x ≤ l.length - 1) (fun x C h => ⟨h.1.m, h.1.r, rfl⟩) (fun x d => ⟨d, [(0, yv p0.l), (1, .a (.p 0 0)), (3, vi (((x : Nat) : Int) + 1))], mkX [.ro [.w 1] 22, .sl 2 (pl l)]⟩) (fun x => l.length - x) (by kernel_rfl) (fun x K ih C hx d => ?_) 0 C ⟨hA, Nat.zero_le _⟩ d
 obtain ⟨hA, hx⟩ := hx
 by_cases h : x < l.length - 1
 ·have h1 : x < l.length := by omega
  have h2 : x + 1 < l.length := by omega
  refine goY hm hp (fun _ _ => rfl) hA h (by kernel_rfl) 3 80 (.v 6 hv <| .v 7 (bt (show (x : Int) + 1 < (l.length : Nat) by omega)) .nil) 10 [] (fun W D => .v 13 (w64 (z := (x : Int) + 1 - 1) (by omega)) <| .i (z := (x : Int) + 1 - 1) (n := x) (len := (pl l).length) 14 (by omega) (by rw [hlen]; exact h1) <| .l 15 (pl_at l h1) <| .i (z := (x : Int) + 1) (n := x + 1) (len := (pl l).length) 18 (by omega) (by rw [hlen]; exact h2) <| .l 19 (pl_at l h2) .nil) rfl (by kernel_rfl) (by kernel_rfl) (fun b => by kernel_rfl) fun C' b hA' => ?_
  cases b with
  | false => exact dnI hp hA' ⟨by omega, h⟩ .nil
  | true =>
   refine gq [] (lpKA 1 stpB [] [] K) (.v 9 (w64 (z := (x : Int) + 1 + 1) (by omega)) .nil) [0, 1] [(0, yv p0.l), (1, .a (.p 0 0)), (3, vi ((x : Int) + 1 + 1))] [.ro [.w 1] 22, .sl 2 (pl l)] fun d => ?_
   exact ih (x + 1) C' ⟨hA', h⟩ (by omega) d
 ·exact dnI hp hA (show x = l.length - 1 by omega) (.v 6 hv <| .v 7 (bf (show ¬ (x : Int) + 1 < (l.length : Nat) by omega)) .nil)
def cenOk (x y size : Int) : Bool := Wd.szB size && Wd.ptB x y && Wd.ptB (x * size) (y * size)
theorem cen_ok (x y size : Int) (h : cenOk x y size = true) : FnP Pg 32 [] [pA x y, vi size] [] [] (.a (.v (.tuple #[Wd.pV (x * size) (y * size), i6 0]))) := by
 unfold cenOk at h
 simp only [Bool.and_eq_true] at h
 obtain ⟨⟨h1, h2⟩, h3⟩ := h
 have b : -2199023255552 ≤ x * size ∧ x * size ≤ 2199023255552 ∧ -2199023255552 ≤ y * size ∧ y * size ≤ 2199023255552 := by
  unfold Wd.ptB Wd.inB at h3; simp only [Bool.and_eq_true, decide_eq_true_eq] at h3; omega
 have S := psize_any size _ h1
 have P := ptRight_any x y _ h2
 have P' := ptRight_any (x * size) (y * size) _ h3
 exact fq Tryz.func32 fun C => dn (.v 10 (w64 (z := x * size) (by omega)) <| .v 14 (w64 (z := y * size) (by omega)) <| .c 17 S <| .c 21 P <| .c 26 P' .nil) []
noncomputable abbrev cnB : Code := Tryz.f25.body.getD .skip
def cenL (size : Int) (p : Int × Int) : Int × Int := (p.1 * size, p.2 * size)
theorem cens_ok (l : List (Int × Int)) (size : Int) (hl : l.length < 1000000000) (h : ∀ p ∈ l, cenOk p.1 p.2 size = true) : FnP Pg 25 [.sl 2 (pl l)] [.a (.w 0), vi size] [.sl 2 (pl l)] [.row 41 2 (pl (l.map (cenL size)))] (.t [.a (.w 1), .a (.v (i6 0))]) := by
 refine fq Tryz.func25 fun C => ?_
 have hlen := pl_len l
 have hv : (Value.int .i64 ((pl l).length : Int)) = i6 l.length := by rw [hlen]
 refine gq [3] (lp 3 cnB []) (.v 12 hv <| .n 1000 6 41 2 .nil) [0, 1] [(1, vi size), (6, .a (.w 1)), (11, .a (.w 0)), (12, vi l.length), (13, vi ((0 : Nat) : Int))] [.sl 2 (pl l), .row 41 2 (pl ((l.take 0).map (cenL size)))] fun d => ?_
 refine loop (β := { i : Nat // i ≤ l.length }) (fun x d => ⟨d, [(1, vi size), (6, .a (.w 1)), (11, .a (.w 0)), (12, vi l.length), (13, vi ((x.1 : Nat) : Int))], mkX [.sl 2 (pl l), .row 41 2 (pl ((l.take x.1).map (cenL size)))]⟩) (fun x => l.length - x.1) (by kernel_rfl) (fun x K ih d => ?_) ⟨0, Nat.zero_le _⟩ d
 obtain ⟨i, hi⟩ := x
 try simp only at hi
 by_cases hx : i < l.length
 ·have es := take_map_succ (cenL size) l (0, 0) hx
  have z2 : (pl ((l.take i).map (cenL size))).length = i := by rw [pl_len, List.length_map, List.length_take]; omega
  have CE := cen_ok (l.getD i (0, 0)).1 (l.getD i (0, 0)).2 size (h _ (List.mem_of_getElem? (get_q l (0, 0) hx)))
  refine gq [] (lpK 3 cnB [] K) (.v 14 (bt (show (i : Int) < (l.length : Nat) by omega)) <| .i (z := (i : Int)) (n := i) (len := (pl l).length) 15 rfl (by rw [hlen]; exact hx) <| .l 16 (pl_at l hx) <| .f 20 [] [] CE <| .a (n := (pl ((l.take i).map (cenL size))).length + 1) (bytes := 16) 29 (by rw [z2]; unfold maxLen; omega) (by rw [z2]; omega) <| .v 30 (w64 (z := (i : Int) + 1) (by omega)) <|
   .o (x := .row 41 2 (pl ((l.take i).map (cenL size)) ++ [[.v (i6 ((l.getD i (0, 0)).1 * size)), .v (i6 ((l.getD i (0, 0)).2 * size))]])) (y := .row 41 2 (pl ((l.take (i + 1)).map (cenL size)))) 1000 5 (by rw [es]; simp [pl, cenL]) .nil) [0, 5] [(1, vi size), (6, .a (.w 1)), (11, .a (.w 0)), (12, vi l.length), (13, vi ((i + 1 : Nat) : Int))] [.sl 2 (pl l), .row 41 2 (pl ((l.take (i + 1)).map (cenL size)))] fun d => ?_
  exact ih ⟨i + 1, hx⟩ d (by simp only; omega)
 ·have e : (l.take i).map (cenL size) = l.map (cenL size) := by rw [List.take_of_length_le (by omega)]
  rw [e]
  exact dn (.v 14 (bf (show ¬ (i : Int) < (l.length : Nat) by omega)) .nil) [0, 1]
end Go.Proofs.YtlkhneiccjhgdaaGreat
set_option maxRecDepth 100000
namespace Go.Proofs.YtlkhneiccjhgdaaGreat
open Go.Eo Go.RowKit Go.Rg
abbrev pll (l : List (List (Int × Int))) : List (List Dt) := l.map fun c => [.s 2 (pl c)]
theorem pll_at (l : List (List (Int × Int))) {k : Nat} (h : k < l.length) : (pll l)[k]? = some [.s 2 (pl (l.getD k []))] := map_at (fun c : List (Int × Int) => [Dt.s 2 (pl c)]) l [] h
theorem pll_len (l : List (List (Int × Int))) : (pll l).length = l.length := List.length_map _
noncomputable abbrev jnB : Code := Tryz.f146.body.getD .skip
theorem flatten_take {α : Type} (L : List (List α)) {i : Nat} (h : i < L.length) : (L.take (i + 1)).flatten = (L.take i).flatten ++ L.getD i [] := by
 rw [List.take_add_one, List.getElem?_eq_getElem h, Option.toList_some, List.flatten_append, List.getD_eq_getElem?_getD, List.getElem?_eq_getElem h]; simp
theorem flatten_take_len {α : Type} (L : List (List α)) (i : Nat) : (L.take i).flatten.length ≤ L.flatten.length := by
 have := congrArg (fun l => (List.flatten l).length) (List.take_append_drop i L)
 simp only [List.flatten_append, List.length_append] at this
 omega
theorem join_ok (L : List (List (Int × Int))) (hl : L.flatten.length < 1000000000) (hL : L.length < 1000000000) :
  FnP Pg 146 [.sl 1 (pll L)] [.a (.w 0)] [.sl 1 (pll L)] [.row 41 2 (pl (Wd.joinB L.flatten))] (.a (.w 1)) := by
 refine fq Tryz.func146 fun C => ?_
 have hlen := pll_len L
 have hv : (Value.int .i64 ((pll L).length : Int)) = i6 L.length := by rw [hlen]
 refine gq [3] (lp 3 jnB []) (.v 10 hv <| .n 1000 3 41 2 .nil) [0, 1] [(3, .a (.w 1)), (9, .a (.w 0)), (10, vi L.length), (11, vi ((0 : Nat) : Int))] [.sl 1 (pll L), .row 41 2 (pl (Wd.joinB (L.take 0).flatten))] fun d => ?_
 refine loop (β := { i : Nat // i ≤ L.length }) (fun x d => ⟨d, [(3, .a (.w 1)), (9, .a (.w 0)), (10, vi L.length), (11, vi ((x.1 : Nat) : Int))], mkX [.sl 1 (pll L), .row 41 2 (pl (Wd.joinB (L.take x.1).flatten))]⟩) (fun x => L.length - x.1) (by kernel_rfl) (fun x K ih d => ?_) ⟨0, Nat.zero_le _⟩ d
 obtain ⟨i, hi⟩ := x
 try simp only at hi
 by_cases hx : i < L.length
 ·obtain ⟨c, hc⟩ : ∃ c, c = L.getD i [] := ⟨_, rfl⟩
  have at_i := pll_at L hx
  rw [← hc] at at_i
  have efl := flatten_take L hx
  have lf := flatten_take_len L (i + 1)
  rw [efl, ← hc] at lf
  rw [← hc] at efl
  generalize (L.take i).flatten = F at *
  have hcl := pl_len c
  have hvc : (Value.int .i64 ((pl c).length : Int)) = i6 c.length := by rw [hcl]
  rw [List.length_append] at lf
  refine gq [6] (lp 6 jnB [K]) (.v 12 (bt (show (i : Int) < (L.length : Nat) by omega)) <| .i (z := (i : Int)) (n := i) (len := (pll L).length) 13 rfl (by rw [hlen]; exact hx) <| .l 14 at_i <| .v 16 hvc <|
   .o (x := .row 41 2 (pl (Wd.joinB F))) (y := .row 41 2 (pl (Wd.joinB (F ++ c.take 0)))) 1000 1 (by rw [List.take_zero, List.append_nil]) .nil) [0, 1, 2] [(3, .a (.w 1)), (9, .a (.w 0)), (10, vi L.length), (11, vi ((i : Nat) : Int)), (15, .a (.w 2)), (16, vi c.length), (17, vi ((0 : Nat) : Int))] [.sl 1 (pll L), .row 41 2 (pl (Wd.joinB (F ++ c.take 0))), .sl 2 (pl c)] fun d => ?_
  refine loop (β := { j : Nat // j ≤ c.length }) (fun x d => ⟨d, [(3, .a (.w 1)), (9, .a (.w 0)), (10, vi L.length), (11, vi ((i : Nat) : Int)), (15, .a (.w 2)), (16, vi c.length), (17, vi ((x.1 : Nat) : Int))], mkX [.sl 1 (pll L), .row 41 2 (pl (Wd.joinB (F ++ c.take x.1))), .sl 2 (pl c)]⟩) (fun x => c.length - x.1) (by kernel_rfl) (fun x K2 ih2 d => ?_) ⟨0, Nat.zero_le _⟩ d
  obtain ⟨j, hj⟩ := x
  try simp only at hj
  by_cases hx' : j < c.length
  ·have es : Wd.joinB (F ++ c.take (j + 1)) = Wd.jstep (Wd.joinB (F ++ c.take j)) (c.getD j (0, 0)) := by
    rw [List.take_add_one, List.getElem?_eq_getElem hx', Option.toList_some, ← List.append_assoc, Wd.joinB_snoc, List.getD_eq_getElem?_getD, List.getElem?_eq_getElem hx', Option.getD_some]
   have at_j := pl_at c hx'
   have lo := Wd.joinB_len (F ++ c.take j)
   rw [List.length_append, List.length_take] at lo
   have ih2' := ih2 ⟨j + 1, hx'⟩
   simp only at ih2'
   rw [es] at ih2'
   generalize c.getD j (0, 0) = p at *
   show Eo.Good _ _ _ _ _ _ ⟨_, _, mkX [.sl 1 (pll L), .row 41 2 (pl (Wd.joinB (F ++ c.take j))), .sl 2 (pl c)]⟩
   generalize Wd.joinB (F ++ c.take j) = out at *
   rcases List.eq_nil_or_concat out with rfl | ⟨o, q, rfl⟩
   ·refine gq [] (lpK 6 jnB [K] K2) (.v 18 (bt (show (j : Int) < (c.length : Nat) by omega)) <| .i (z := (j : Int)) (n := j) (len := (pl c).length) 19 rfl (by rw [hcl]; exact hx') <| .l 20 at_j <| .a (n := 1) (bytes := 16) 37 (by unfold maxLen; omega) (by omega) <| .v 38 (w64 (z := (j : Int) + 1) (by omega)) .nil) [0, 5, 2] [(3, .a (.w 1)), (9, .a (.w 0)), (10, vi L.length), (11, vi ((i : Nat) : Int)), (15, .a (.w 2)), (16, vi c.length), (17, vi ((j + 1 : Nat) : Int))] [.sl 1 (pll L), .row 41 2 (pl (Wd.jstep [] p)), .sl 2 (pl c)] fun d => ?_
    exact ih2' d (by omega)
   ·rw [List.concat_eq_append] at *
    have ho : (pl (o ++ [q])).length = o.length + 1 := by rw [pl_len, List.length_append]; rfl
    have hvo : (Value.int .i64 ((pl (o ++ [q])).length : Int)) = i6 ((o.length : Int) + 1) := by rw [ho]; rfl
    have at_q : (pl (o ++ [q]))[o.length]? = some [.v (i6 q.1), .v (i6 q.2)] := by simp [pl]
    have js : Wd.jstep (o ++ [q]) p = if (decide (q.1 = p.1) && decide (q.2 = p.2)) = true then o ++ [q] else o ++ [q] ++ [p] := by
     unfold Wd.jstep
     rw [List.getLast?_concat]
     simp only
     by_cases e : q = p
     ·subst e; simp
     ·have : ¬ (q.1 = p.1 ∧ q.2 = p.2) := fun h => e (Prod.ext h.1 h.2)
      have h2 : (q == p) = false := by simpa using e
      rw [h2]
      simp only [Bool.and_eq_true, decide_eq_true_eq, this, if_false, Bool.false_eq_true]
    rw [List.length_append, List.length_singleton] at lo
    cases hqp : (decide (q.1 = p.1) && decide (q.2 = p.2)) with
    | true =>
     rw [js, if_pos hqp] at ih2'
     refine gq [] (lpK 6 jnB [K] K2) (.v 18 (bt (show (j : Int) < (c.length : Nat) by omega)) <| .i (z := (j : Int)) (n := j) (len := (pl c).length) 19 rfl (by rw [hcl]; exact hx') <| .l 20 at_j <| .v 22 hvo <| .v 24 (ef (show (o.length : Int) + 1 ≠ 0 by omega)) <| .v 28 (w64 (z := (o.length : Int) + 1 - 1) (by omega)) <| .i (z := (o.length : Int) + 1 - 1) (n := o.length) (len := (pl (o ++ [q])).length) 29 (by omega) (by rw [ho]; omega) <| .l 30 at_q <| .m 32 (fun w _ => nep_t (.tmp 30) (.tmp 31) q.1 q.2 p.1 p.2 w) <| .v 33 (x := .bool (!(decide (q.1 = p.1) && decide (q.2 = p.2)))) (y := .bool false) (by rw [hqp]; rfl) <| .v 38 (w64 (z := (j : Int) + 1) (by omega)) .nil) [0, 1, 2] [(3, .a (.w 1)), (9, .a (.w 0)), (10, vi L.length), (11, vi ((i : Nat) : Int)), (15, .a (.w 2)), (16, vi c.length), (17, vi ((j + 1 : Nat) : Int))] [.sl 1 (pll L), .row 41 2 (pl (o ++ [q])), .sl 2 (pl c)] fun d => ?_
     exact ih2' d (by omega)
    | false =>
     rw [js, if_neg (by rw [hqp]; decide)] at ih2'
     refine gq [] (lpK 6 jnB [K] K2) (.v 18 (bt (show (j : Int) < (c.length : Nat) by omega)) <| .i (z := (j : Int)) (n := j) (len := (pl c).length) 19 rfl (by rw [hcl]; exact hx') <| .l 20 at_j <| .v 22 hvo <| .v 24 (ef (show (o.length : Int) + 1 ≠ 0 by omega)) <| .v 28 (w64 (z := (o.length : Int) + 1 - 1) (by omega)) <| .i (z := (o.length : Int) + 1 - 1) (n := o.length) (len := (pl (o ++ [q])).length) 29 (by omega) (by rw [ho]; omega) <| .l 30 at_q <| .m 32 (fun w _ => nep_t (.tmp 30) (.tmp 31) q.1 q.2 p.1 p.2 w) <| .v 33 (x := .bool (!(decide (q.1 = p.1) && decide (q.2 = p.2)))) (y := .bool true) (by rw [hqp]; rfl) <| .a (n := (pl (o ++ [q])).length + 1) (bytes := 16) 37 (by rw [ho]; unfold maxLen; omega) (by rw [ho]; omega) <| .v 38 (w64 (z := (j : Int) + 1) (by omega)) <|
      .o (x := .row 41 2 (pl (o ++ [q]) ++ [[.v (i6 p.1), .v (i6 p.2)]])) (y := .row 41 2 (pl (o ++ [q] ++ [p]))) 1000 5 (by simp [pl]) .nil) [0, 5, 2] [(3, .a (.w 1)), (9, .a (.w 0)), (10, vi L.length), (11, vi ((i : Nat) : Int)), (15, .a (.w 2)), (16, vi c.length), (17, vi ((j + 1 : Nat) : Int))] [.sl 1 (pll L), .row 41 2 (pl (o ++ [q] ++ [p])), .sl 2 (pl c)] fun d => ?_
     exact ih2' d (by omega)
  ·have e : F ++ c.take j = (L.take (i + 1)).flatten := by rw [List.take_of_length_le (by omega), efl]
   show Eo.Good _ _ _ _ _ _ ⟨_, _, mkX [.sl 1 (pll L), .row 41 2 (pl (Wd.joinB (F ++ c.take j))), .sl 2 (pl c)]⟩
   rw [e]
   refine gq [] (lpK 3 jnB [] K) (.v 18 (bf (show ¬ (j : Int) < (c.length : Nat) by omega)) <| .v 39 (w64 (z := (i : Int) + 1) (by omega)) .nil) [0, 1] [(3, .a (.w 1)), (9, .a (.w 0)), (10, vi L.length), (11, vi ((i + 1 : Nat) : Int))] [.sl 1 (pll L), .row 41 2 (pl (Wd.joinB (L.take (i + 1)).flatten))] fun d => ?_
   exact ih ⟨i + 1, hx⟩ d (by simp only; omega)
 ·have e : (L.take i).flatten = L.flatten := by rw [List.take_of_length_le (by omega)]
  rw [e]
  exact dn (.v 12 (bf (show ¬ (i : Int) < (L.length : Nat) by omega)) .nil) [0, 1]
end Go.Proofs.YtlkhneiccjhgdaaGreat
set_option maxRecDepth 100000
namespace Go.Proofs.YtlkhneiccjhgdaaGreat
open Go.Eo Go.RowKit Go.Rg
theorem take_eq_succ {α : Type} {a b : List α} {i : Nat} {d : α} (h : a.take i = b.take i) (ha : i < a.length) (hb : i < b.length) (he : a.getD i d = b.getD i d) : a.take (i + 1) = b.take (i + 1) := by
 rw [List.take_add_one, List.take_add_one, h, List.getElem?_eq_getElem ha, List.getElem?_eq_getElem hb]
 rw [List.getD_eq_getElem?_getD, List.getD_eq_getElem?_getD, List.getElem?_eq_getElem ha, List.getElem?_eq_getElem hb, Option.getD_some, Option.getD_some] at he
 rw [he]
theorem nep_c {a b c d : Int} {k : Bool} (x y : Operand) (h : (decide (a = c) && decide (b = d)) = k) (w : World) : (eqQ .neq x y (.agg #[i6 a, i6 b]) (.agg #[i6 c, i6 d])).run Tryz.prog w = .ok (.value (.bool !k)) w := by rw [← h]; exact nep_t x y a b c d w
noncomputable abbrev eqPB : Code := Tryz.f100.body.getD .skip
theorem eqlP_ok (a b : List (Int × Int)) (ha : a.length < 100000000000) : FnP Pg 100 [.sl 2 (pl a), .sl 2 (pl b)] [.a (.w 0), .a (.w 1)] [.sl 2 (pl a), .sl 2 (pl b)] [] (vb (decide (a = b))) := by
 obtain ⟨r, hr⟩ : ∃ r, r = decide (a = b) := ⟨_, rfl⟩
 rw [← hr]
 refine fq Tryz.func100 fun C => ?_
 have la := pl_len a
 have lb := pl_len b
 have va : (Value.int .i64 ((pl a).length : Int)) = i6 a.length := by rw [la]
 have vb' : (Value.int .i64 ((pl b).length : Int)) = i6 b.length := by rw [lb]
 by_cases hlen : a.length = b.length
 ·refine gq [4] (lp 4 eqPB []) (.v 7 va <| .v 9 vb' <| .v 10 (nf (show (a.length : Int) = b.length by omega)) <| .v 12 va .nil) [0, 1] [(0, .a (.w 0)), (1, .a (.w 1)), (12, vi a.length), (13, vi ((0 : Nat) : Int))] [.sl 2 (pl a), .sl 2 (pl b)] fun d => ?_
  refine loop (β := { i : Nat // i ≤ a.length ∧ a.take i = b.take i }) (fun x d => ⟨d, [(0, .a (.w 0)), (1, .a (.w 1)), (12, vi a.length), (13, vi ((x.1 : Nat) : Int))], mkX [.sl 2 (pl a), .sl 2 (pl b)]⟩) (fun x => a.length - x.1) (by kernel_rfl) (fun x K ih d => ?_) ⟨0, Nat.zero_le _, rfl⟩ d
  obtain ⟨i, hi, he⟩ := x
  try simp only at hi he
  by_cases hx : i < a.length
  ·have hx2 : i < b.length := by omega
   have at_a := pl_at a hx
   have at_b := pl_at b hx2
   have key : a.getD i (0, 0) = b.getD i (0, 0) → a.take (i + 1) = b.take (i + 1) := take_eq_succ he hx hx2
   have key2 : a.getD i (0, 0) ≠ b.getD i (0, 0) → r = false := fun h => by rw [hr]; exact decide_eq_false fun e => h (by rw [e])
   generalize a.getD i (0, 0) = p at *
   generalize b.getD i (0, 0) = q at *
   cases hpq : (decide (p.1 = q.1) && decide (p.2 = q.2)) with
   | true =>
    have e : p = q := by simp only [Bool.and_eq_true, decide_eq_true_eq] at hpq; exact Prod.ext hpq.1 hpq.2
    refine gq [] (lpK 4 eqPB [] K) (.v 14 (bt (show (i : Int) < (a.length : Nat) by omega)) <| .i (z := (i : Int)) (n := i) (len := (pl a).length) 18 rfl (by rw [la]; exact hx) <| .l 19 at_a <| .i (z := (i : Int)) (n := i) (len := (pl b).length) 22 rfl (by rw [lb]; exact hx2) <| .l 23 at_b <| .m 24 (fun w _ => nep_c (.tmp 19) (.tmp 23) hpq w) <| .v 25 (w64 (z := (i : Int) + 1) (by omega)) <| .nil) [0, 1] [(0, .a (.w 0)), (1, .a (.w 1)), (12, vi a.length), (13, vi ((i + 1 : Nat) : Int))] [.sl 2 (pl a), .sl 2 (pl b)] fun d => ?_
    exact ih ⟨i + 1, hx, key e⟩ d (by simp only; omega)
   | false =>
    rw [key2 fun e => by subst e; simp at hpq]
    exact dn (.v 14 (bt (show (i : Int) < (a.length : Nat) by omega)) <| .i (z := (i : Int)) (n := i) (len := (pl a).length) 18 rfl (by rw [la]; exact hx) <| .l 19 at_a <| .i (z := (i : Int)) (n := i) (len := (pl b).length) 22 rfl (by rw [lb]; exact hx2) <| .l 23 at_b <| .m 24 (fun w _ => nep_c (.tmp 19) (.tmp 23) hpq w) .nil) [0, 1]
  ·have e : r = true := by
    rw [hr]; exact decide_eq_true (by rwa [List.take_of_length_le (by omega), List.take_of_length_le (by omega)] at he)
   rw [e]
   exact dn (.v 14 (bf (show ¬ (i : Int) < (a.length : Nat) by omega)) .nil) [0, 1]
 ·have e : r = false := by rw [hr]; exact decide_eq_false fun e => hlen (by rw [e])
  rw [e]
  exact dn (.v 7 va <| .v 9 vb' <| .v 10 (nt (show (a.length : Int) ≠ b.length by omega)) .nil) [0, 1]
noncomputable abbrev eqCB : Code := Tryz.f127.body.getD .skip
abbrev eqV : AV := fv 100
theorem eqlC_ok (a b : List (List (Int × Int))) (ha : a.length < 100000000000) (hs : ∀ c ∈ a, c.length < 100000000000) : FnP Pg 127 [.sl 1 (pll a), .sl 1 (pll b)] [.a (.w 0), .a (.w 1), eqV] [.sl 1 (pll a), .sl 1 (pll b)] [] (vb (decide (a = b))) := by
 obtain ⟨r, hr⟩ : ∃ r, r = decide (a = b) := ⟨_, rfl⟩
 rw [← hr]
 refine fq Tryz.func127 fun C => ?_
 have la := pll_len a
 have lb := pll_len b
 have va : (Value.int .i64 ((pll a).length : Int)) = i6 a.length := by rw [la]
 have vb' : (Value.int .i64 ((pll b).length : Int)) = i6 b.length := by rw [lb]
 by_cases hlen : a.length = b.length
 ·refine gq [4] (lp 4 eqCB []) (.v 11 va <| .v 13 vb' <| .v 14 (nf (show (a.length : Int) = b.length by omega)) <| .v 16 va .nil) [0, 1] [(1, .a (.w 1)), (2, eqV), (15, .a (.w 0)), (16, vi a.length), (17, vi ((0 : Nat) : Int))] [.sl 1 (pll a), .sl 1 (pll b)] fun d => ?_
  refine loop (β := { i : Nat // i ≤ a.length ∧ a.take i = b.take i }) (fun x d => ⟨d, [(1, .a (.w 1)), (2, eqV), (15, .a (.w 0)), (16, vi a.length), (17, vi ((x.1 : Nat) : Int))], mkX [.sl 1 (pll a), .sl 1 (pll b)]⟩) (fun x => a.length - x.1) (by kernel_rfl) (fun x K ih d => ?_) ⟨0, Nat.zero_le _, rfl⟩ d
  obtain ⟨i, hi, he⟩ := x
  try simp only at hi he
  by_cases hx : i < a.length
  ·have hx2 : i < b.length := by omega
   have at_a := pll_at a hx
   have at_b := pll_at b hx2
   have key : a.getD i [] = b.getD i [] → a.take (i + 1) = b.take (i + 1) := take_eq_succ he hx hx2
   have key2 : a.getD i [] ≠ b.getD i [] → r = false := fun h => by rw [hr]; exact decide_eq_false fun e => h (by rw [e])
   have E := eqlP_ok (a.getD i []) (b.getD i []) (hs _ (List.mem_of_getElem? (get_q a [] hx)))
   generalize a.getD i [] = p at *
   generalize b.getD i [] = q at *
   by_cases hpq : p = q
   ·rw [decide_eq_true hpq] at E
    refine gq [] (lpK 4 eqCB [] K) (.v 18 (bt (show (i : Int) < (a.length : Nat) by omega)) <| .i (z := (i : Int)) (n := i) (len := (pll a).length) 20 rfl (by rw [la]; exact hx) <| .l 21 at_a <| .i (z := (i : Int)) (n := i) (len := (pll b).length) 24 rfl (by rw [lb]; exact hx2) <| .l 25 at_b <| .f 29 [2, 3] [0, 1] E <| .v 31 (w64 (z := (i : Int) + 1) (by omega)) <| .nil) [0, 1] [(1, .a (.w 1)), (2, eqV), (15, .a (.w 0)), (16, vi a.length), (17, vi ((i + 1 : Nat) : Int))] [.sl 1 (pll a), .sl 1 (pll b)] fun d => ?_
    exact ih ⟨i + 1, hx, key hpq⟩ d (by simp only; omega)
   ·rw [decide_eq_false hpq] at E
    rw [key2 hpq]
    exact dn (.v 18 (bt (show (i : Int) < (a.length : Nat) by omega)) <| .i (z := (i : Int)) (n := i) (len := (pll a).length) 20 rfl (by rw [la]; exact hx) <| .l 21 at_a <| .i (z := (i : Int)) (n := i) (len := (pll b).length) 24 rfl (by rw [lb]; exact hx2) <| .l 25 at_b <| .f 29 [2, 3] [0, 1] E .nil) [0, 1]
  ·have e : r = true := by
    rw [hr]; exact decide_eq_true (by rwa [List.take_of_length_le (by omega), List.take_of_length_le (by omega)] at he)
   rw [e]
   exact dn (.v 18 (bf (show ¬ (i : Int) < (a.length : Nat) by omega)) .nil) [0, 1]
 ·have e : r = false := by rw [hr]; exact decide_eq_false fun e => hlen (by rw [e])
  rw [e]
  exact dn (.v 11 va <| .v 13 vb' <| .v 14 (nt (show (a.length : Int) ≠ b.length by omega)) .nil) [0, 1]
theorem same_ok (a b : List (List (Int × Int))) (ha : a.length < 100000000000) (hs : ∀ c ∈ a, c.length < 100000000000) : FnP Pg 64 [.sl 1 (pll a), .sl 1 (pll b)] [.a (.w 0), .a (.w 1)] [.sl 1 (pll a), .sl 1 (pll b)] [] (vb (decide (a = b))) :=
 fq Tryz.func64 fun C => dn (.f 7 [0, 1] [0, 1] (eqlC_ok a b ha hs) .nil) [0, 1]
theorem setAll_ok (cs : List (Int × Int)) (rows : List (Int × List Int)) : FnP Pg 31 (setO cs rows 0) [.a (.p 0 0)] (setO cs rows 0) [.ro [.w 1] 22] (.f (.func 145) [] [.p 3 0]) :=
 fq Tryz.func31 fun C => dn (.f 7 [1] [0] (show FnP Pg 82 [.sl 2 (pl cs)] [.a (.w 0)] [.sl 2 (pl cs)] [.ro [.w 0] 22] (.f (.func 145) [] [.p 1 0]) from
  fq Tryz.func82 fun C => dn (.z 1000 1 .nil) [0, 1]) .nil) [0, 1, 2, 3]
def alE (l : List (Int × Int)) (k : Nat) : List AV × List Ob := ([vi ((k : Nat) : Int), pA (gP l k).1 (gP l k).2], [])
noncomputable abbrev alB : Code := Tryz.f145.body.getD .skip
theorem all1_ok (l : List (Int × Int)) (hl : l.length < 1000000000000) : SeqP Pg 145 [.p 0 0] [.ro [.w 1] 22, .sl 2 (pl l)] l.length (alE l) := by
 refine sq Tryz.func145 fun p0 C hp hA => ?_
 have hlen := pl_len l
 have hv : (Value.int .i64 ((pl l).length : Int)) = i6 l.length := by rw [hlen]
 refine gq [1] (lpA 1 alB [] []) (.v 6 hv .nil) [0, 1] [(0, yv p0.l), (5, .a (.w 1)), (6, vi l.length), (7, vi ((0 : Nat) : Int))] [.ro [.w 1] 22, .sl 2 (pl l)] fun d => ?_
 let p := prW p0 l.length 2 (alE l)
 refine loopA (F := itF Pg Tryz.f145 p) (Q := (itF Pg Tryz.f145 p).Q C) (fun x C => At p true x C ∧ x ≤ l.length) (fun x C h => ⟨h.1.m, h.1.r, rfl⟩) (fun x d => ⟨d, [(0, yv p0.l), (5, .a (.w 1)), (6, vi l.length), (7, vi ((x : Nat) : Int))], mkX [.ro [.w 1] 22, .sl 2 (pl l)]⟩) (fun x => l.length - x) (by kernel_rfl) (fun x K ih C hx d => ?_) 0 C ⟨hA, Nat.zero_le _⟩ d
 obtain ⟨hA, hx⟩ := hx
 by_cases h : x < l.length
 ·refine goY hm hp (fun _ _ => rfl) hA h (by kernel_rfl) 3 80 (.v 8 (bt (show (x : Int) < (l.length : Nat) by omega)) <| .i (z := (x : Int)) (n := x) (len := (pl l).length) 10 rfl (by rw [hlen]; exact h) <| .l 11 (pl_at l h) .nil) 3 [] (fun W D => .nil) rfl (by kernel_rfl) (by kernel_rfl) (fun b => by kernel_rfl) fun C' b hA' => ?_
  cases b with
  | false => exact dnI hp hA' ⟨by omega, h⟩ .nil
  | true =>
   refine gq [] (lpKA 1 alB [] [] K) (.v 17 (w64 (z := (x : Int) + 1) (by omega)) .nil) [0, 1] [(0, yv p0.l), (5, .a (.w 1)), (6, vi l.length), (7, vi ((x + 1 : Nat) : Int))] [.ro [.w 1] 22, .sl 2 (pl l)] fun d => ?_
   exact ih (x + 1) C' ⟨hA', h⟩ (by omega) d
 ·exact dnI hp hA (show x = l.length by omega) (.v 8 (bf (show ¬ (x : Int) < (l.length : Nat) by omega)) .nil)
end Go.Proofs.YtlkhneiccjhgdaaGreat
set_option maxRecDepth 100000
namespace Go.Proofs.YtlkhneiccjhgdaaGreat
open Go.Eo Go.RowKit Go.Rg
structure SetOk (M : Nat) (rows : List (Int × List Int)) : Prop where
 m : M ≤ 10000
 hl : rows.length ≤ M
 h2 : ∀ r ∈ rows, r.2.length ≤ M
 ry : Wd.Rising (rows.map (·.1))
 rx : ∀ r ∈ rows, Wd.Rising r.2
 pt : ∀ lx ly hx hy, ∀ p ∈ Wd.nearB rows lx ly hx hy, Wd.ptB p.1 p.2 = true
 ln : ∀ lx ly hx hy, (Wd.nearB rows lx ly hx hy).length ≤ M
theorem SetOk.of {M : Nat} {cs : List (Int × Int)} {rows : List (Int × List Int)} (h : SetOk M rows) {a b c d size : Int} (hg : Wd.sgB a b c d = true) (hs : Wd.szB size = true) :
  FnP Pg 63 (setO cs rows 0) [gA a b c d, .a (.p 0 0), vi size] (setO cs rows 0) [.row 41 2 (pl (ofB a b c d size rows))] (.t [.a (.w 3), .a (.v (i6 0))]) :=
 have hm' := h.m
 chof_ok cs rows a b c d size hg hs (by have := h.hl; omega) (fun r hr => by have := h.h2 r hr; omega) h.ry h.rx (h.pt _ _ _ _) (by have := h.ln (min (Wd.cellZ a 1 size) (Wd.cellZ c 1 size)) (min (Wd.cellZ b 1 size) (Wd.cellZ d 1 size)) (max (Wd.cellZ a 1 size) (Wd.cellZ c 1 size)) (max (Wd.cellZ b 1 size) (Wd.cellZ d 1 size)); unfold nearS; omega)
theorem SetOk.len {M : Nat} {rows : List (Int × List Int)} (h : SetOk M rows) (a b c d size : Int) : (ofB a b c d size rows).length ≤ M := by
 unfold ofB
 rw [List.length_map, Mg.sortB_len]
 refine Nat.le_trans (mets_len a b c d size _) ?_
 exact h.ln _ _ _ _
def partB (size : Int) (rows : List (Int × List Int)) (m : List (Int × Int)) (k : Nat) : List (Int × Int) := ofB (gP m k).1 (gP m k).2 (gP m (k + 1)).1 (gP m (k + 1)).2 size rows
def partsB (size : Int) (rows : List (Int × List Int)) (m : List (Int × Int)) (n : Nat) : List (List (Int × Int)) := (List.range n).map (partB size rows m)
def againB (size : Int) (rows : List (Int × List Int)) (c : List (Int × Int)) : List (Int × Int) :=
 if c.length < 2 then c else Wd.joinB (partsB size rows (c.map (cenL size)) (c.length - 1)).flatten
theorem parts_succ (size : Int) (rows : List (Int × List Int)) (m : List (Int × Int)) (n : Nat) : partsB size rows m (n + 1) = partsB size rows m n ++ [partB size rows m n] := by unfold partsB; rw [List.range_succ]; simp
theorem parts_len (size : Int) (rows : List (Int × List Int)) (m : List (Int × Int)) (n : Nat) : (partsB size rows m n).length = n := by unfold partsB; simp
theorem parts_flat {M : Nat} {rows : List (Int × List Int)} (h : SetOk M rows) (size : Int) (m : List (Int × Int)) : ∀ n, (partsB size rows m n).flatten.length ≤ n * M
 | 0 => by unfold partsB; simp
 | n + 1 => by
  have := parts_flat h size m n
  have h2 : (partB size rows m n).length ≤ M := h.len _ _ _ _ _
  have h3 : [partB size rows m n].flatten.length = (partB size rows m n).length := by simp
  rw [parts_succ, List.flatten_append, List.length_append, Nat.succ_mul, h3]
  omega
noncomputable abbrev agB : Code := Tryz.f84.body.getD .skip
noncomputable abbrev agIn : Code := match rgK 6 agB [] with
 | .c (.rangeFunc _ _ _ b) :: _ => b
 | _ => .skip
abbrev agX (cs : List (Int × Int)) (rows : List (Int × List Int)) (size : Int) (c m : List (Int × Int)) (P : List (List (Int × Int))) : List Ob := [.sl 2 (pl c)] ++ setO cs rows 1 ++ [.box [.p 1 0] 57, .box [.v (i6 size)] 3, .box [nilS] 22, .box [.v (i6 0)] 31, .sl 2 (pl m), .box [.w 11] 28, .ro [.w 8] 22, .row 22 1 (pll P)]
theorem again_ok (cs : List (Int × Int)) (rows : List (Int × List Int)) (size : Int) (c : List (Int × Int)) {M : Nat} (hS : SetOk M rows) (hs : Wd.szB size = true) (hc : c.length ≤ 10000) (hcen : ∀ p ∈ c, cenOk p.1 p.2 size = true) :
  FnP Pg 84 ([.sl 2 (pl c)] ++ setO cs rows 1) [.a (.w 0), .a (.p 1 0), vi size] ([.sl 2 (pl c)] ++ setO cs rows 1) [.row 41 2 (pl (againB size rows c))] (.t [.a (.w 4), .a (.v (i6 0))]) := by
 have hlen := pl_len c
 have hv : (Value.int .i64 ((pl c).length : Int)) = i6 c.length := by rw [hlen]
 have CE := cens_ok c size (by omega) hcen
 by_cases h2 : c.length < 2
 ·have e : againB size rows c = c := if_pos h2
  rw [e]
  exact fq Tryz.func84 fun C => dn (.f 18 [0] [0] CE <| .v 25 hv <| .v 26 (bt (show (c.length : Int) < 2 by omega)) <| .f 29 [0] [0] (cloneP_ok c (by omega)) .nil) [0, 1, 2, 3, 9]
 ·have e : againB size rows c = Wd.joinB (partsB size rows (c.map (cenL size)) (c.length - 1)).flatten := if_neg h2
  rw [e]
  have CE' := fnp_fz [true] CE
  have hml : (c.map (cenL size)).length = c.length := List.length_map _
  have hsg : ∀ k, k < c.length - 1 → Wd.sgB (gP (c.map (cenL size)) k).1 (gP (c.map (cenL size)) k).2 (gP (c.map (cenL size)) (k + 1)).1 (gP (c.map (cenL size)) (k + 1)).2 = true := fun k hk => by
   have one : ∀ j, j < c.length → Wd.ptB (gP (c.map (cenL size)) j).1 (gP (c.map (cenL size)) j).2 = true := fun j hj => by
    have := hcen (c.getD j (0, 0)) (List.mem_of_getElem? (get_q c (0, 0) hj))
    unfold cenOk at this
    simp only [Bool.and_eq_true] at this
    have e : gP (c.map (cenL size)) j = cenL size (c.getD j (0, 0)) := by
     unfold gP; rw [List.getD_eq_getElem?_getD, List.getD_eq_getElem?_getD, List.getElem?_map, List.getElem?_eq_getElem hj]; rfl
    rw [e]; exact this.2
   unfold Wd.sgB
   rw [one k (by omega), one (k + 1) (by omega)]; rfl
  generalize c.map (cenL size) = m at *
  refine fqM Tryz.func84 fun C hC => ?_
  refine gq [6] (rgK 6 agB []) (.f 18 [0] [0] CE' <| .v 25 hv <| .v 26 (bf (show ¬ (c.length : Int) < 2 by omega)) <| .f 32 [8] [0] (steps_ok m) <| .q 1000 9 0 22 1 .nil) [0, 1, 2, 3, 4, 5, 6, 7, 8, 9, 10, 11] [(4, .a (.p 4 0)), (5, .a (.p 5 0)), (6, .a (.p 6 0)), (7, .a (.p 7 0)), (10, .a (.p 9 0)), (32, .f (.func 85) [] [.p 10 0])] (agX cs rows size c m (partsB size rows m 0)) fun d => ?_
  refine rng hm (reb_finM _ _ _ _) hC (steps1_ok m (by omega)) 11 [10, 8] (fun k => agX cs rows size c m (partsB size rows m k)) (by kernel_rfl) (by kernel_rfl) (by kernel_rfl) (fun k => by kernel_rfl) (fun k => by kernel_rfl) (fun k => by kernel_rfl) (fun k C' K hk hdf ih => ?_) (fun C' hC' _ => ?_)
  ·have OF := hS.of (cs := cs) (hsg k (by omega)) hs
   have z : (pll (partsB size rows m k)).length = k := by rw [pll_len, parts_len]
   have es := parts_succ size rows m k
   refine gq [] [.a K] (.f 41 [1, 2, 3] [0, 1, 2] OF <| .z 11 14 <| .a (n := (pll (partsB size rows m k)).length + 1) (bytes := 24) 50 (by rw [z]; unfold maxLen; omega) (by rw [z]; omega) <| .o (x := .row 22 1 (pll (partsB size rows m k) ++ [[.s 2 (pl (partB size rows m k))]])) (y := .row 22 1 (pll (partsB size rows m (k + 1)))) 1000 16 (by rw [es]; simp [pll]) .nil) [0, 1, 2, 3, 4, 5, 6, 7, 8, 9, 10, 16] [] _ ih
  ·rw [hml]
   have lf := parts_flat hS size m (c.length - 1)
   have : (c.length - 1) * M ≤ 10000 * 10000 := Nat.mul_le_mul (by omega) hS.m
   have lp' := parts_len size rows m (c.length - 1)
   generalize partsB size rows m (c.length - 1) = P at *
   have JN := join_ok P (by omega) (by omega)
   exact dnM (.z 12 11 <| .f 52 [11] [0] JN .nil) [0, 1, 2, 3, 12]
end Go.Proofs.YtlkhneiccjhgdaaGreat
set_option maxRecDepth 100000
namespace Go.Proofs.YtlkhneiccjhgdaaGreat
open Go.Eo Go.RowKit Go.Rg
theorem look_sub {segs : List E4} {ss : List Int} {i k : Int} {p : S3} {qs q' : List S3} (h : LookR segs ss i k p qs q') {u : S3} (hu : u ∈ qs) : u ∈ q' := by
 unfold LookR at h
 split at h
 ·rw [h]; exact hu
 ·split at h
  ·exact h.sub hu
  ·rw [h]; exact hu
theorem stepL_sub {segs : List E4} {x y : LS} (h : StepL segs x y) {u : S3} (hu : u ∈ x.s.qs) : u = x.hd ∨ u ∈ y.s.qs := by
 rw [h.ne] at hu
 rcases List.mem_cons.1 hu with e | hu
 ·exact .inl e
 ·obtain ⟨q1, h1, h2⟩ := h.lk
  have := look_sub h1 hu
  split at h2
  ·rw [h2]; exact .inr this
  ·exact .inr (look_sub h2 this)
theorem run_all {segs : List E4} {c : List S3} {x0 : LS} {N : Nat} {S : Nat → LS} (h : Run segs c x0 N S) : ∀ (n k : Nat), N - k ≤ n → k ≤ N → ∀ u ∈ (S k).s.qs, ∃ j, j < N ∧ (S j).hd = u := by
 intro n
 induction n with
 | zero =>
  intro k h1 h2 u hu
  rw [show k = N by omega, h.e] at hu; cases hu
 | succ n ih =>
  intro k h1 h2 u hu
  by_cases hk : k < N
  ·rcases stepL_sub (h.st k hk) hu with e | e
   ·exact ⟨k, hk, e.symm⟩
   ·exact ih (k + 1) (by omega) hk u e
  ·rw [show k = N by omega, h.e] at hu; cases hu
section
variable {ps : List (Int × Int)} {segs : List E4} {N : Nat} {S : Nat → LS}
def spots (S : Nat → LS) (N : Nat) : List S3 := (List.range N).map fun k => (S k).hd
theorem spots_has (h : EachR ps segs N S) : ∀ v ∈ vsF ps segs, ∃ u ∈ spots S N, sc3 v u = 0 := fun v hv => by
 obtain ⟨u, h1, h2⟩ := h.kn.h v hv
 obtain ⟨j, h3, h4⟩ := run_all h.run N 0 (by omega) (Nat.zero_le _) u h1
 exact ⟨u, List.mem_map.2 ⟨j, List.mem_range.2 h3, h4⟩, h2⟩
theorem hd_mem {x y : LS} (h : StepL segs x y) : x.hd ∈ x.s.qs := by rw [h.ne]; exact List.mem_cons_self ..
theorem spots_in (h : EachR ps segs N S) : ∀ u ∈ spots S N, u ∈ cand ps segs ∧ Ok3 u := fun u hu => by
 obtain ⟨j, h1, rfl⟩ := List.mem_map.1 hu
 have hj := List.mem_range.1 h1
 obtain ⟨m, h2, _⟩ := h.run.ok j (Nat.le_of_lt hj)
 have := hd_mem (h.run.st j hj)
 exact ⟨h2.c _ this, h2.s.ok _ this⟩
end
end Go.Proofs.YtlkhneiccjhgdaaGreat
set_option maxRecDepth 100000
namespace Go.Proofs.YtlkhneiccjhgdaaGreat
open Go.Eo Go.RowKit Go.Rg
noncomputable abbrev nxB : Code := Tryz.f33.body.getD .skip
def nextB (size : Int) (rows : List (Int × List Int)) (l : List (List (Int × Int))) : List (List (Int × Int)) := l.map (againB size rows)
structure ChsOk (size : Int) (l : List (List (Int × Int))) : Prop where
 n : l.length ≤ 10000
 c : ∀ c ∈ l, c.length ≤ 10000 ∧ ∀ p ∈ c, cenOk p.1 p.2 size = true
theorem next_ok (cs : List (Int × Int)) (rows : List (Int × List Int)) (size : Int) (l : List (List (Int × Int))) {M : Nat} (hS : SetOk M rows) (hs : Wd.szB size = true) (hl : ChsOk size l) :
  FnP Pg 33 ([.sl 1 (pll l)] ++ setO cs rows 1) [.a (.w 0), .a (.p 1 0), vi size] ([.sl 1 (pll l)] ++ setO cs rows 1) [.row 22 1 (pll (nextB size rows l))] (.t [.a (.w 4), .a (.v (i6 0))]) := by
 have hln := hl.n
 have hlen := pll_len l
 have hv : (Value.int .i64 ((pll l).length : Int)) = i6 l.length := by rw [hlen]
 refine fq Tryz.func33 fun C => ?_
 refine gq [3] (lp 3 nxB []) (.v 14 hv <| .n 1000 8 22 1 .nil) [0, 1, 2, 3, 4] [(1, .a (.p 1 0)), (2, vi size), (8, .a (.w 4)), (13, .a (.w 0)), (14, vi l.length), (15, vi ((0 : Nat) : Int))] ([.sl 1 (pll l)] ++ setO cs rows 1 ++ [.row 22 1 (pll ((l.take 0).map (againB size rows)))]) fun d => ?_
 refine loop (β := { i : Nat // i ≤ l.length }) (fun x d => ⟨d, [(1, .a (.p 1 0)), (2, vi size), (8, .a (.w 4)), (13, .a (.w 0)), (14, vi l.length), (15, vi ((x.1 : Nat) : Int))], mkX ([.sl 1 (pll l)] ++ setO cs rows 1 ++ [.row 22 1 (pll ((l.take x.1).map (againB size rows)))])⟩) (fun x => l.length - x.1) (by kernel_rfl) (fun x K ih d => ?_) ⟨0, Nat.zero_le _⟩ d
 obtain ⟨i, hi⟩ := x
 try simp only at hi
 by_cases hx : i < l.length
 ·have es := take_map_succ (againB size rows) l [] hx
  have z : (pll ((l.take i).map (againB size rows))).length = i := by rw [pll_len, List.length_map, List.length_take]; omega
  obtain ⟨c1, c2⟩ := hl.c (l.getD i []) (List.mem_of_getElem? (get_q l [] hx))
  have AG := again_ok cs rows size (l.getD i []) hS hs c1 c2
  refine gq [] (lpK 3 nxB [] K) (.v 16 (bt (show (i : Int) < (l.length : Nat) by omega)) <| .i (z := (i : Int)) (n := i) (len := (pll l).length) 17 rfl (by rw [hlen]; exact hx) <| .l 18 (pll_at l hx) <| .f 23 [5, 1, 2, 3] [0, 1, 2, 3] AG <| .z 8 6 <| .a (n := (pll ((l.take i).map (againB size rows))).length + 1) (bytes := 24) 32 (by rw [z]; unfold maxLen; omega) (by rw [z]; omega) <| .v 33 (w64 (z := (i : Int) + 1) (by omega)) <|
   .o (x := .row 22 1 (pll ((l.take i).map (againB size rows)) ++ [[.s 2 (pl (againB size rows (l.getD i [])))]])) (y := .row 22 1 (pll ((l.take (i + 1)).map (againB size rows)))) 1000 8 (by rw [es]; simp [pll]) .nil) [0, 1, 2, 3, 8] [(1, .a (.p 1 0)), (2, vi size), (8, .a (.w 4)), (13, .a (.w 0)), (14, vi l.length), (15, vi ((i + 1 : Nat) : Int))] ([.sl 1 (pll l)] ++ setO cs rows 1 ++ [.row 22 1 (pll ((l.take (i + 1)).map (againB size rows)))]) fun d => ?_
  exact ih ⟨i + 1, hx⟩ d (by simp only; omega)
 ·have e : (l.take i).map (againB size rows) = nextB size rows l := by rw [List.take_of_length_le (by omega)]; rfl
  rw [e]
  exact dn (.v 16 (bf (show ¬ (i : Int) < (l.length : Nat) by omega)) .nil) [0, 1, 2, 3, 4]
theorem settled_ok (cs : List (Int × Int)) (rows : List (Int × List Int)) (size : Int) (l : List (List (Int × Int))) {M : Nat} (hS : SetOk M rows) (hs : Wd.szB size = true) (hl : ChsOk size l) :
  FnP Pg 34 ([.sl 1 (pll l)] ++ setO cs rows 1) [.a (.w 0), .a (.p 1 0), vi size] ([.sl 1 (pll l)] ++ setO cs rows 1) [] (vb (decide (l = nextB size rows l))) := by
 have NX := fnp_fz [true] (next_ok cs rows size l hS hs hl)
 have hln := hl.n
 have SA := same_ok l (nextB size rows l) (by omega) (fun c hc => by have := (hl.c c hc).1; omega)
 exact fq Tryz.func34 fun C => dn (.f 13 [0, 1, 2, 3] [0, 1, 2, 3] NX <| .f 21 [0, 4] [0, 1] SA .nil) [0, 1, 2, 3]
def beyB (ps : List (Int × Int)) (ss : List E4) : Bool := ps.any (tPk .b) || ss.any (tSk .b)
theorem beyond_ok (ps : List (Int × Int)) (ss : List E4) (hp : ps.length < 100000000000) (hs : ss.length < 100000000000) : FnP Pg 119 [.sl 2 (pl ps), .sl 4 (gl ss)] [.a (.w 0), .a (.w 1)] [.sl 2 (pl ps), .sl 4 (gl ss)] [] (vb (beyB ps ss)) := by
 have u1 := cop_ok .b ps hp
 have u2 := cos_ok .b ss hs
 unfold beyB
 revert u1
 cases ps.any (tPk .b) with
 | true => intro u1; exact fq Tryz.func119 fun C => dn (.f 6 [0] [0] u1 .nil) [0, 1]
 | false => intro u1; exact fq Tryz.func119 fun C => dn (.f 6 [0] [0] u1 <| .f 9 [1] [0] u2 .nil) [0, 1]
def evC (size : Int) (p : S3) : Int × Int := (Wd.cellZ p.1 p.2.2 size, Wd.cellZ p.2.1 p.2.2 size)
theorem pof_ok {p : S3} {size : Int} (h : Ok3 p) (hs : Wd.szB size = true) : FnP Pg 37 [] [sp3 p, vi size] [] [] (.a (.v (.tuple #[Wd.pV (evC size p).1 (evC size p).2, i6 0]))) :=
 fnp_of (args := [Wd.sV p.1 p.2.1 p.2.2, i6 size]) fun w => pixOf_any p.1 p.2.1 p.2.2 size h hs w
theorem cell_in {n w size : Int} (hw : 0 < w) (h1 : -(w * 2199023255552) ≤ n) (h2 : n ≤ w * 2199023255552) (hs : 1 ≤ size) : Wd.inB (Wd.cellZ n w size) = true := by
 unfold Wd.inB Wd.cellZ
 obtain ⟨k, hk⟩ : ∃ k, k = w * size := ⟨_, rfl⟩
 have hk1 : w ≤ k := by rw [hk]; have := Int.mul_le_mul_of_nonneg_left hs (Int.le_of_lt hw); omega
 rw [← hk, show k + k = 2 * k by omega]
 have h3 : -2199023255552 ≤ (n + n + k) / (2 * k) := (Int.le_ediv_iff_mul_le (by omega)).2 (by omega)
 have h4 : (n + n + k) / (2 * k) < 2199023255552 + 1 := (Int.ediv_lt_iff_lt_mul (by omega)).2 (by omega)
 simp only [decide_eq_true_eq]
 omega
theorem evC_in {p : S3} {size : Int} (h : Ok3 p) (hs : Wd.szB size = true) : Wd.ptB (evC size p).1 (evC size p).2 = true := by
 have hs := (Wd.szB_iff.1 hs).1
 unfold Wd.ptB evC
 rw [cell_in h.w1 h.x1 h.x2 hs, cell_in h.w1 h.y1 h.y2 hs]; rfl
noncomputable abbrev ceB : Code := Tryz.f62.body.getD .skip
section
variable {ps : List (Int × Int)} {segs : List E4} {N : Nat} {S : Nat → LS}
def hotL (size : Int) (S : Nat → LS) (N : Nat) : List (Int × Int) := (spots S N).map (evC size)
theorem evl_at (E : List (S3 × List Int)) {k : Nat} (h : k < E.length) : (evl E)[k]? = some (evD (E.getD k ((0, 0, 0), []))) := map_at evD E _ h
theorem cells_ok {size : Int} (hs : Wd.szB size = true) (hb : beyB ps segs = false) (hmay : mayF ps segs = 0) (hR : EachR ps segs N S) (hN : N ≤ 10000) :
  FnP Pg 62 [.sl 2 (pl ps), .sl 4 (gl segs)] [.a (.w 0), .a (.w 1), vi size] [.sl 2 (pl ps), .sl 4 (gl segs)] (setO (hCs (hotL size S N)) (hRs (hotL size S N)) 2) (.t [.a (.p 2 0), .a (.v (i6 0))]) := by
 obtain ⟨h1, h2, h3, h4⟩ := may_zero hmay
 have SZ := psize_any size _ hs
 have BE := beyond_ok ps segs (by omega) (by omega)
 rw [hb] at BE
 have EV := events_ok hmay hR (by omega)
 have hL : hotL size S N = (evs segs S N).map (fun e => evC size e.1) := by unfold hotL spots evs; rw [List.map_map, List.map_map]; rfl
 have hok : ∀ e ∈ evs segs S N, Ok3 e.1 := fun e he => by
  unfold evs at he
  obtain ⟨k, hk, rfl⟩ := List.mem_map.1 he
  exact (spots_in hR (S k).hd (List.mem_map.2 ⟨k, hk, rfl⟩)).2
 have hn := evs_len segs S N
 rw [hL]
 generalize evs segs S N = E at *
 have hr : (E.map (fun e => evC size e.1)).any (fun p => !Wd.ptB p.1 p.2) = false := by
  rw [List.any_eq_false]
  intro p hp
  obtain ⟨e, he, rfl⟩ := List.mem_map.1 hp
  rw [evC_in (hok e he) hs]; decide
 have NW := hnew_ok (E.map (fun e => evC size e.1)) (by rw [List.length_map]; omega) hr
 have lE : (evl E).length = E.length := List.length_map _
 have hv : (Value.int .i64 ((evl E).length : Int)) = i6 E.length := by rw [lE]
 refine fq Tryz.func62 fun C => ?_
 refine gq [10] (lp 10 ceB []) (.c 17 SZ <| .f 22 [0, 1] [0, 1] BE <| .f 26 [0, 1] [0, 1] EV <| .v 33 hv <| .n 1000 10 41 2 .nil) [0, 1, 2, 3] [(2, vi size), (10, .a (.w 3)), (32, .a (.w 2)), (33, vi E.length), (34, vi ((0 : Nat) : Int))] [.sl 2 (pl ps), .sl 4 (gl segs), .row 194 13 (evl E), .row 41 2 (pl ((E.take 0).map (fun e => evC size e.1)))] fun d => ?_
 refine loop (β := { i : Nat // i ≤ E.length }) (fun x d => ⟨d, [(2, vi size), (10, .a (.w 3)), (32, .a (.w 2)), (33, vi E.length), (34, vi ((x.1 : Nat) : Int))], mkX [.sl 2 (pl ps), .sl 4 (gl segs), .row 194 13 (evl E), .row 41 2 (pl ((E.take x.1).map (fun e => evC size e.1)))]⟩) (fun x => E.length - x.1) (by kernel_rfl) (fun x K ih d => ?_) ⟨0, Nat.zero_le _⟩ d
 obtain ⟨i, hi⟩ := x
 try simp only at hi
 by_cases hx : i < E.length
 ·have es := take_map_succ (fun e : S3 × List Int => evC size e.1) E ((0, 0, 0), []) hx
  have z : (pl ((E.take i).map (fun e => evC size e.1))).length = i := by rw [pl_len, List.length_map, List.length_take]; omega
  have PO := pof_ok (hok (E.getD i ((0, 0, 0), [])) (List.mem_of_getElem? (get_q E _ hx))) hs
  refine gq [] (lpK 10 ceB [] K) (.v 35 (bt (show (i : Int) < (E.length : Nat) by omega)) <| .i (z := (i : Int)) (n := i) (len := (evl E).length) 36 rfl (by rw [lE]; exact hx) <| .l 37 (evl_at E hx) <| .f 42 [] [] PO <| .a (n := (pl ((E.take i).map (fun e => evC size e.1))).length + 1) (bytes := 16) 48 (by rw [z]; unfold maxLen; omega) (by rw [z]; omega) <| .v 49 (w64 (z := (i : Int) + 1) (by omega)) <|
   .o (x := .row 41 2 (pl ((E.take i).map (fun e => evC size e.1)) ++ [[.v (i6 (evC size (E.getD i ((0, 0, 0), [])).1).1), .v (i6 (evC size (E.getD i ((0, 0, 0), [])).1).2)]])) (y := .row 41 2 (pl ((E.take (i + 1)).map (fun e => evC size e.1)))) 1000 8 (by rw [es]; simp [pl]) .nil) [0, 1, 2, 8] [(2, vi size), (10, .a (.w 3)), (32, .a (.w 2)), (33, vi E.length), (34, vi ((i + 1 : Nat) : Int))] [.sl 2 (pl ps), .sl 4 (gl segs), .row 194 13 (evl E), .row 41 2 (pl ((E.take (i + 1)).map (fun e => evC size e.1)))] fun d => ?_
  exact ih ⟨i + 1, hx⟩ d (by simp only; omega)
 ·have e : (E.take i).map (fun e => evC size e.1) = E.map (fun e => evC size e.1) := by rw [List.take_of_length_le (by omega)]
  rw [e]
  exact dn (.v 35 (bf (show ¬ (i : Int) < (E.length : Nat) by omega)) <| .z 15 3 <| .f 51 [3] [0] NW .nil) [0, 1, 4, 5, 6]
end
end Go.Proofs.YtlkhneiccjhgdaaGreat
namespace Go.Proofs.YtlkhneiccjhgdaaGreat
open Go.Wd Go.Mg
theorem pcm_eq (a b c d : Int) : pcm a b c d = orZ (cmpI a c) (cmpI b d) := by
 show orF [cmpI a c, cmpI b d] = _
 unfold orF orZ orF orF
 by_cases h : cmpI a c = 0 <;> by_cases h2 : cmpI b d = 0 <;> simp [h, h2]
theorem pcP_eq : pcP = ptO := funext fun p => funext fun q => pcm_eq _ _ _ _
theorem pcR_eq : pcR = rowO := funext fun p => funext fun q => pcm_eq _ _ _ _
theorem hCs_eq (L : List (Int × Int)) : hCs L = setC L := by
 unfold hCs onP srtP setC onceB
 rw [pcP_eq]
 have : smO = fun p q => ptO p q == 0 := by unfold smO; rw [← pcP_eq]; rfl
 rw [this]; rfl
theorem hRs_eq (L : List (Int × Int)) : hRs L = setR L := by
 unfold hRs hSr setR setG
 rw [pcR_eq, hCs_eq]; rfl
theorem setOk_of {L : List (Int × Int)} {M : Nat} (hL : ∀ p ∈ L, ptB p.1 p.2 = true) (hl : L.length ≤ M) (hM : M ≤ 10000) : SetOk M (hRs L) := by
 rw [hRs_eq]
 obtain ⟨r1, r2⟩ := setR_rising L
 obtain ⟨s1, s2⟩ := setR_strict L
 have mm : ∀ lx ly hx hy, ∀ p ∈ nearB (setR L) lx ly hx hy, p ∈ L := fun lx ly hx hy p hp => (setR_mem L p).1 ((mem_nearB r1 r2).1 hp).1
 refine ⟨hM, ?_, fun r hr => ?_, r1, r2, fun lx ly hx hy p hp => hL p (mm _ _ _ _ p hp), fun lx ly hx hy => Nat.le_trans (nodup_len _ L (nearB_nodup s1 s2 lx ly hx hy) (mm lx ly hx hy)) hl⟩
 ·unfold setR setG
  rw [List.length_map]
  refine Nat.le_trans (grpB_len _ _) ?_
  rw [sortB_len]
  exact Nat.le_trans (nodup_len (setC L) L ((setC_law L).2.imp fun {p q} h e => by subst e; unfold LtP at h; omega) fun p hp => ((setC_law L).1 p).1 hp) hl
 ·have e : r.2.length = (r.2.map fun x => (x, r.1)).length := (List.length_map _).symm
  rw [e]
  refine Nat.le_trans (nodup_len _ L ?_ fun p hp => ?_) hl
  ·unfold List.Nodup
   rw [List.pairwise_map]
   exact (s2 r hr).imp fun {x y} h e => by cases e; omega
  ·obtain ⟨x, hx, rfl⟩ := List.mem_map.1 hp
   exact (setR_mem L _).1 ⟨r, hr, rfl, hx⟩
section
variable {L c : List (Int × Int)} {size sx sy : Int}
abbrev stepP (size : Int) (L : List (Int × Int)) (u v : Int × Int) : List (Int × Int) := ofB (u.1 * size) (u.2 * size) (v.1 * size) (v.2 * size) size (setR L)
theorem cen_get {k : Nat} (h : k < c.length) : gP (c.map (cenL size)) k = ((gP c k).1 * size, (gP c k).2 * size) := by
 unfold gP; rw [List.getD_eq_getElem?_getD, List.getD_eq_getElem?_getD, List.getElem?_map, List.getElem?_eq_getElem h]; rfl
theorem partB_eq {k : Nat} (h : k + 1 < c.length) : partB size (setR L) (c.map (cenL size)) k = stepP size L (gP c k) (gP c (k + 1)) := by
 unfold partB stepP; rw [cen_get (by omega), cen_get h]
theorem gP_mem {k : Nat} (h : k < c.length) : gP c k ∈ c := by unfold gP; rw [List.getD_eq_getElem?_getD, List.getElem?_eq_getElem h]; exact List.getElem_mem _
theorem step_law (hs : 1 ≤ size) (hx : sx = 1 ∨ sx = -1) (hy : sy = 1 ∨ sy = -1) {u v : Int × Int} (hu : u ∈ L) (hv : v ∈ L) (h : Mo sx sy u v) :
  (stepP size L u v).Pairwise (Mo sx sy) ∧ (stepP size L u v).head? = some u ∧ (stepP size L u v).getLast? = some v ∧ ∀ w, w ∈ stepP size L u v ↔ w ∈ L ∧ ∃ p q, 0 < q ∧ InC (u.1 * size) (u.2 * size) (v.1 * size) (v.2 * size) w.1 w.2 size p q := by
 obtain ⟨l1, l2⟩ := ofS_law (u.1 * size) (u.2 * size) (v.1 * size) (v.2 * size) size hs L
 have ex : ∀ {w : Int × Int} {p q : Int}, w ∈ L → 0 < q → InC (u.1 * size) (u.2 * size) (v.1 * size) (v.2 * size) w.1 w.2 size p q → w ∈ stepP size L u v := fun {w p q} hw hq hi => (l1 w).2 ⟨hw, cut_ex hq hi⟩
 refine ⟨l2.imp fun {p q} hb => bef_mo hs hx hy ?_ ?_ hb, bef_head hs l2 (ex hu (by decide) (inC_centre hs)) (inC_centre hs), bef_last hs l2 (ex hv (by decide) (inC_centre' hs)) (inC_centre' hs), fun w => ⟨fun hw => ?_, fun ⟨h1, p, q, h2, h3⟩ => ex h1 h2 h3⟩⟩
 ·have := Int.mul_nonneg h.1 (show 0 ≤ size by omega)
  rw [show sx * (v.1 * size - u.1 * size) = sx * (v.1 - u.1) * size by grind]; exact this
 ·have := Int.mul_nonneg h.2.1 (show 0 ≤ size by omega)
  rw [show sy * (v.2 * size - u.2 * size) = sy * (v.2 - u.2) * size by grind]; exact this
 ·obtain ⟨h1, z, hz⟩ := (l1 w).1 hw
  exact ⟨h1, cut_pt hz⟩
structure JOk (size : Int) (L c : List (Int × Int)) (sx sy : Int) (n : Nat) (J : List (Int × Int)) : Prop where
 p : J.Pairwise (Mo sx sy)
 h : J.head? = some (gP c 0)
 l : J.getLast? = some (gP c n)
 m : ∀ w ∈ J, w ∈ L ∧ ∃ k p q, k < n ∧ 0 < q ∧ InC ((gP c k).1 * size) ((gP c k).2 * size) ((gP c (k + 1)).1 * size) ((gP c (k + 1)).2 * size) w.1 w.2 size p q
 e : ∀ k, k ≤ n → gP c k ∈ J
 z : J.length = 1 + ((List.range n).map fun k => (stepP size L (gP c k) (gP c (k + 1))).length - 1).sum
theorem pair_get {R : Int × Int → Int × Int → Prop} (h : c.Pairwise R) {k : Nat} (hk : k + 1 < c.length) : R (gP c k) (gP c (k + 1)) := by
 have := List.pairwise_iff_getElem.1 h k (k + 1) (by omega) hk (by omega)
 unfold gP
 rw [List.getD_eq_getElem?_getD, List.getD_eq_getElem?_getD, List.getElem?_eq_getElem (show k < c.length by omega), List.getElem?_eq_getElem hk]
 exact this
theorem head_pos {α : Type} {l : List α} {x : α} (h : l.head? = some x) : 0 < l.length := by cases l with | nil => cases h | cons => simp
theorem joined_law (hs : 1 ≤ size) (hx : sx = 1 ∨ sx = -1) (hy : sy = 1 ∨ sy = -1) (hc : ∀ p ∈ c, p ∈ L) (hp : c.Pairwise (Mo sx sy)) : ∀ n, n + 1 < c.length → JOk size L c sx sy (n + 1) (joinB (partsB size (setR L) (c.map (cenL size)) (n + 1)).flatten)
 | 0, hn => by
  obtain ⟨k1, k2, k3, k4⟩ := step_law hs hx hy (hc _ (gP_mem (show 0 < c.length by omega))) (hc _ (gP_mem hn)) (pair_get hp hn)
  have e : joinB (partsB size (setR L) (c.map (cenL size)) 1).flatten = stepP size L (gP c 0) (gP c (0 + 1)) := by
   rw [parts_succ, partB_eq hn]
   show (([] ++ [stepP size L (gP c 0) (gP c (0 + 1))]).flatten).foldl jstep [] = _
   rw [List.nil_append, List.flatten_cons, List.flatten_nil, List.append_nil]
   exact foldl_pair (R := Mo sx sy) Mo.irr _ [] (by rw [List.nil_append]; exact k1)
  rw [e]
  refine ⟨k1, k2, k3, fun w hw => ?_, fun k hk => ?_, ?_⟩
  ·obtain ⟨h1, p, q, h2, h3⟩ := (k4 w).1 hw
   exact ⟨h1, 0, p, q, by omega, h2, h3⟩
  ·rcases Nat.lt_or_ge k 1 with h | h
   ·rw [show k = 0 by omega]; exact List.mem_of_mem_head? k2
   ·rw [show k = 0 + 1 by omega]; exact List.mem_of_getLast? k3
  ·have := head_pos k2
   simp only [Nat.zero_add, List.range_one, List.map_cons, List.map_nil, List.sum_cons, List.sum_nil] at this ⊢
   omega
 | n + 1, hn => by
  obtain ⟨j1, j2, j3, j4, j6, j5⟩ := joined_law hs hx hy hc hp n (by omega)
  obtain ⟨k1, k2, k3, k4⟩ := step_law hs hx hy (hc _ (gP_mem (show n + 1 < c.length by omega))) (hc _ (gP_mem hn)) (pair_get hp hn)
  have e : joinB (partsB size (setR L) (c.map (cenL size)) (n + 1 + 1)).flatten = (stepP size L (gP c (n + 1)) (gP c (n + 1 + 1))).foldl jstep (joinB (partsB size (setR L) (c.map (cenL size)) (n + 1)).flatten) := by
   rw [parts_succ _ _ _ (n + 1), partB_eq hn, List.flatten_append, List.flatten_cons, List.flatten_nil, List.append_nil]
   unfold joinB
   rw [List.foldl_append]
  rw [e]
  generalize joinB (partsB size (setR L) (c.map (cenL size)) (n + 1)).flatten = J at *
  obtain ⟨g1, g2⟩ := join_glue Mo.irr (fun x y z => Mo.trans hx hy) j1 k1 j3 k2
  rw [g1]
  have hne : gP c (n + 1) ≠ gP c (n + 1 + 1) := (pair_get hp hn).2.2
  have last : (J ++ (stepP size L (gP c (n + 1)) (gP c (n + 1 + 1))).tail).getLast? = some (gP c (n + 1 + 1)) := by
   revert k2 k3
   cases stepP size L (gP c (n + 1)) (gP c (n + 1 + 1)) with
   | nil => intro k2; cases k2
   | cons x t =>
    intro k2 k3
    cases k2
    cases t with
    | nil => exact absurd (Option.some.inj k3) hne
    | cons y r =>
     rw [List.tail_cons, List.getLast?_append, ← k3, List.getLast?_cons_cons]
     cases hl : (y :: r).getLast? with
     | none => simp at hl
     | some z => rfl
  refine ⟨g2, ?_, last, fun w hw => ?_, fun k hk => ?_, ?_⟩
  ·cases J with
   | nil => cases j2
   | cons x r => exact j2
  ·rcases List.mem_append.1 hw with hw | hw
   ·obtain ⟨h1, k, p, q, h2, h3⟩ := j4 w hw
    exact ⟨h1, k, p, q, by omega, h3⟩
   ·obtain ⟨h1, p, q, h2, h3⟩ := (k4 w).1 (List.mem_of_mem_tail hw)
    exact ⟨h1, n + 1, p, q, by omega, h2, h3⟩
  ·rcases Nat.lt_or_ge k (n + 1 + 1) with h | h
   ·exact List.mem_append_left _ (j6 k (by omega))
   ·rw [show k = n + 1 + 1 by omega]; exact List.mem_of_getLast? last
  ·rw [List.length_append, List.length_tail, j5, List.range_succ (n := n + 1), List.map_append, List.sum_append]
   simp only [List.map_cons, List.map_nil, List.sum_cons, List.sum_nil]
   omega
structure ChInv (L c : List (Int × Int)) : Prop where
 m : ∀ p ∈ c, p ∈ L
 o : ∃ sx sy : Int, (sx = 1 ∨ sx = -1) ∧ (sy = 1 ∨ sy = -1) ∧ c.Pairwise (Mo sx sy)
theorem ChInv.len (h : ChInv L c) : c.length ≤ L.length := by
 obtain ⟨sx, sy, _, _, h3⟩ := h.o
 exact nodup_len c L (h3.imp fun {p q} h e => h.2.2 e) h.m
theorem again_inv (hs : 1 ≤ size) (h : ChInv L c) : ChInv L (againB size (setR L) c) ∧ (againB size (setR L) c).head? = c.head? ∧ (againB size (setR L) c).getLast? = c.getLast? ∧
  (∀ w ∈ againB size (setR L) c, w ∈ c ∨ ∃ k p q, k + 1 < c.length ∧ 0 < q ∧ InC ((gP c k).1 * size) ((gP c k).2 * size) ((gP c (k + 1)).1 * size) ((gP c (k + 1)).2 * size) w.1 w.2 size p q) ∧
  (∀ w ∈ c, w ∈ againB size (setR L) c) ∧ (2 ≤ c.length → (againB size (setR L) c).length = 1 + ((List.range (c.length - 1)).map fun k => (stepP size L (gP c k) (gP c (k + 1))).length - 1).sum) := by
 unfold againB
 split
 ·rename_i h2
  exact ⟨h, rfl, rfl, fun w hw => .inl hw, fun w hw => hw, fun h3 => absurd h2 (by omega)⟩
 ·rename_i h2
  obtain ⟨sx, sy, hx, hy, hp⟩ := h.o
  obtain ⟨n, hn⟩ : ∃ n, c.length = n + 2 := ⟨c.length - 2, by omega⟩
  rw [show c.length - 1 = n + 1 by omega]
  obtain ⟨j1, j2, j3, j4, j6, j5⟩ := joined_law hs hx hy h.m hp n (by omega)
  refine ⟨⟨fun p hp => (j4 p hp).1, sx, sy, hx, hy, j1⟩, ?_, ?_, fun w hw => ?_, fun w hw => ?_, fun _ => j5⟩
  ·rw [j2, List.head?_eq_getElem?]
   unfold gP; rw [List.getD_eq_getElem?_getD, List.getElem?_eq_getElem (show 0 < c.length by omega)]; rfl
  ·rw [j3, List.getLast?_eq_getElem?, hn]
   unfold gP; rw [List.getD_eq_getElem?_getD, show n + 2 - 1 = n + 1 by omega, List.getElem?_eq_getElem (show n + 1 < c.length by omega)]; rfl
  ·obtain ⟨_, k, p, q, h3, h4⟩ := j4 w hw
   exact .inr ⟨k, p, q, by omega, h4⟩
  ·obtain ⟨k, hk, rfl⟩ := List.mem_iff_getElem.1 hw
   have := j6 k (by omega)
   unfold gP at this
   rw [List.getD_eq_getElem?_getD, List.getElem?_eq_getElem hk] at this
   exact this
end
end Go.Proofs.YtlkhneiccjhgdaaGreat
set_option maxRecDepth 100000
namespace Go.Proofs.YtlkhneiccjhgdaaGreat
open Go.Eo Go.RowKit Go.Rg
def runR (size : Int) (rows : List (Int × List Int)) : Nat → Nat → List (List (Int × Int)) → List (List (Int × Int)) × Nat × Bool
 | 0, k, l => (l, k, decide (l = nextB size rows l))
 | n + 1, k, l => if l = nextB size rows l then (l, k, true) else runR size rows n (k + 1) (nextB size rows l)
def firstB (size : Int) (rows : List (Int × List Int)) (segs : List E4) : List (List (Int × Int)) := segs.map fun s => ofB s.1 s.2.1 s.2.2.1 s.2.2.2 size rows
noncomputable abbrev ruB : Code := Tryz.f17.body.getD .skip
abbrev rX (ps : List (Int × Int)) (segs : List E4) (cs : List (Int × Int)) (rows : List (Int × List Int)) : List Ob := [.sl 2 (pl ps), .sl 4 (gl segs), .box [nilS, nilS, .v (i6 0), .v (.bool false)] 30] ++ setO cs rows 3
abbrev rX1 (ps : List (Int × Int)) (segs : List E4) (cs : List (Int × Int)) (rows : List (Int × List Int)) (l : List (Int × Int)) : List Ob := rX ps segs cs rows ++ [.box [.w 8, nilS, .v (i6 1), .v (.bool false)] 30, .ro [.w 4] 22, .row 41 2 (pl l)]
abbrev rX2 (ps : List (Int × Int)) (segs : List E4) (cs : List (Int × Int)) (rows : List (Int × List Int)) (l : List (List (Int × Int))) : List Ob := rX ps segs cs rows ++ [.box [.w 7, .w 8, .v (i6 1), .v (.bool false)] 30, .sl 2 (pl cs), .row 22 1 (pll l)]
abbrev rX3 (ps : List (Int × Int)) (segs : List E4) (cs : List (Int × Int)) (rows : List (Int × List Int)) (l : List (List (Int × Int))) (k : Nat) : List Ob := rX ps segs cs rows ++ [.box [.w 7, .w 8, .v (i6 k), .v (.bool false)] 30, .sl 2 (pl cs), .sl 1 (pll l)]
section
variable {ps : List (Int × Int)} {segs : List E4}
theorem run_ok {size : Int} {cs : List (Int × Int)} {rows : List (Int × List Int)} {M : Nat} (hs : Wd.szB size = true) (hsg : ∀ s ∈ segs, Wd.sgB s.1 s.2.1 s.2.2.1 s.2.2.2 = true) (hsl : segs.length ≤ 4096)
  (hC : FnP Pg 62 [.sl 2 (pl ps), .sl 4 (gl segs)] [.a (.w 0), .a (.w 1), vi size] [.sl 2 (pl ps), .sl 4 (gl segs)] (setO cs rows 2) (.t [.a (.p 2 0), .a (.v (i6 0))])) (hS : SetOk M rows) (hcl : cs.length ≤ 10000)
  (Inv : List (List (Int × Int)) → Prop) (hi0 : Inv (firstB size rows segs)) (hi1 : ∀ l, Inv l → Inv (nextB size rows l)) (hi2 : ∀ l, Inv l → ChsOk size l) (rounds : Nat) (hr1 : 1 ≤ rounds) (hr2 : rounds ≤ 64) :
  FnP Pg 17 [.sl 2 (pl ps), .sl 4 (gl segs)] [.a (.w 0), .a (.w 1), vi size, vi ((rounds : Nat) : Int)] [.sl 2 (pl ps), .sl 4 (gl segs)] [.sl 2 (pl cs), .sl 1 (pll (runR size rows (rounds - 1) 1 (firstB size rows segs)).1)]
   (.t [.g [.w 2, .w 3, .v (i6 (runR size rows (rounds - 1) 1 (firstB size rows segs)).2.1), .v (.bool (runR size rows (rounds - 1) 1 (firstB size rows segs)).2.2)], .a (.v (i6 0))]) := by
 obtain ⟨R, hR⟩ : ∃ R, R = runR size rows (rounds - 1) 1 (firstB size rows segs) := ⟨_, rfl⟩
 rw [← hR]
 have AL := setAll_ok cs rows
 refine fqM Tryz.func17 fun C hC0 => ?_
 refine gq [8] (rgK 8 ruB []) (.v 22 (bf (show ¬ (rounds : Int) < 1 by omega)) <| .v 25 (gt_f (show ¬ (64 : Int) < (rounds : Nat) by omega)) <| .f 32 [0, 1] [0, 1] hC <| .f 41 [3, 4, 5] [0, 1, 2] AL <| .q 1000 6 0 41 2 .nil) [0, 1, 2, 3, 4, 5, 6, 7, 8] [(0, .a (.w 0)), (1, .a (.w 1)), (2, vi size), (3, vi ((rounds : Nat) : Int)), (8, .a (.p 2 0)), (10, .a (.p 3 0)), (12, .a (.p 6 0)), (41, .f (.func 145) [] [.p 7 0])] (rX1 ps segs cs rows (cs.take 0)) fun d => ?_
 refine rng hm (reb_finM _ _ _ _) hC0 (all1_ok cs (by omega)) 8 [7, 4] (fun k => rX1 ps segs cs rows (cs.take k)) (by kernel_rfl) (by kernel_rfl) (by kernel_rfl) (fun k => by kernel_rfl) (fun k => by kernel_rfl) (fun k => by kernel_rfl) (fun k C' K hk hdf ih => ?_) (fun C' hC' _ => ?_)
 ·have z : (pl (cs.take k)).length = k := by rw [pl_len, List.length_take]; omega
  have es : cs.take (k + 1) = cs.take k ++ [gP cs k] := by
   rw [List.take_add_one, List.getElem?_eq_getElem hk]; unfold gP; rw [List.getD_eq_getElem?_getD, List.getElem?_eq_getElem hk]; rfl
  exact gq [] [.a K] (.a (n := (pl (cs.take k)).length + 1) (bytes := 16) 48 (by rw [z]; unfold maxLen; omega) (by rw [z]; omega) <| .o (x := .row 41 2 (pl (cs.take k) ++ [[.v (i6 (gP cs k).1), .v (i6 (gP cs k).2)]])) (y := .row 41 2 (pl (cs.take (k + 1)))) 1000 11 (by rw [es]; simp [pl]) .nil) [0, 1, 2, 3, 4, 5, 6, 7, 11] [] _ ih
 ·simp only [List.take_length]
  have hlen := gl_len segs
  have hv : (Value.int .i64 ((gl segs).length : Int)) = i6 segs.length := by rw [hlen]
  refine gq [11] (lp 11 ruB []) (.v 51 hv <| .z 1000 8 <| .q 1000 6 1 22 1 .nil) [0, 1, 2, 3, 4, 5, 6, 8, 9] [(2, vi size), (3, vi ((rounds : Nat) : Int)), (8, .a (.p 2 0)), (10, .a (.p 3 0)), (12, .a (.p 6 0)), (50, .a (.w 1)), (51, vi segs.length), (52, vi ((0 : Nat) : Int))] (rX2 ps segs cs rows (firstB size rows (segs.take 0))) fun d => ?_
  refine loop (β := { i : Nat // i ≤ segs.length }) (fun x d => ⟨d, [(2, vi size), (3, vi ((rounds : Nat) : Int)), (8, .a (.p 2 0)), (10, .a (.p 3 0)), (12, .a (.p 6 0)), (50, .a (.w 1)), (51, vi segs.length), (52, vi ((x.1 : Nat) : Int))], mkX (rX2 ps segs cs rows (firstB size rows (segs.take x.1)))⟩) (fun x => segs.length - x.1) (by kernel_rfl) (fun x K ih d => ?_) ⟨0, Nat.zero_le _⟩ d
  obtain ⟨i, hi⟩ := x
  try simp only at hi
  by_cases hx : i < segs.length
  ·have es : firstB size rows (segs.take (i + 1)) = firstB size rows (segs.take i) ++ [ofB (segs.getD i (0, 0, 0, 0)).1 (segs.getD i (0, 0, 0, 0)).2.1 (segs.getD i (0, 0, 0, 0)).2.2.1 (segs.getD i (0, 0, 0, 0)).2.2.2 size rows] := take_map_succ _ segs (0, 0, 0, 0) hx
   have z : (pll (firstB size rows (segs.take i))).length = i := by unfold firstB; rw [pll_len, List.length_map, List.length_take]; omega
   have OF := hS.of (cs := cs) (hsg (segs.getD i (0, 0, 0, 0)) (List.mem_of_getElem? (get_q segs _ hx))) hs
   have at_i := gl_at segs hx
   generalize segs.getD i (0, 0, 0, 0) = s at *
   refine gq [] (lpK 11 ruB [] K) (.v 53 (bt (show (i : Int) < (segs.length : Nat) by omega)) <| .i (z := (i : Int)) (n := i) (len := (gl segs).length) 54 rfl (by rw [hlen]; exact hx) <| .l 55 at_i <| .f 60 [3, 4, 5] [0, 1, 2] OF <| .z 16 10 <| .a (n := (pll (firstB size rows (segs.take i))).length + 1) (bytes := 24) 71 (by rw [z]; unfold maxLen; omega) (by rw [z]; omega) <| .v 73 (w64 (z := (i : Int) + 1) (by omega)) <|
    .o (x := .row 22 1 (pll (firstB size rows (segs.take i)) ++ [[.s 2 (pl (ofB s.1 s.2.1 s.2.2.1 s.2.2.2 size rows))]])) (y := .row 22 1 (pll (firstB size rows (segs.take (i + 1))))) 1000 12 (by rw [es]; simp [pll]) .nil) [0, 1, 2, 3, 4, 5, 6, 7, 12] [(2, vi size), (3, vi ((rounds : Nat) : Int)), (8, .a (.p 2 0)), (10, .a (.p 3 0)), (12, .a (.p 6 0)), (50, .a (.w 1)), (51, vi segs.length), (52, vi ((i + 1 : Nat) : Int))] (rX2 ps segs cs rows (firstB size rows (segs.take (i + 1)))) fun d => ?_
   exact ih ⟨i + 1, hx⟩ d (by simp only; omega)
  ·have e : segs.take i = segs := List.take_of_length_le (by omega)
   rw [e]
   refine gq [18] (lp 18 ruB []) (.v 53 (bf (show ¬ (i : Int) < (segs.length : Nat) by omega)) <| .z 1000 8 .nil) [0, 1, 2, 3, 4, 5, 6, 7, 8] [(2, vi size), (3, vi ((rounds : Nat) : Int)), (8, .a (.p 2 0)), (10, .a (.p 3 0)), (12, .a (.p 6 0))] (rX3 ps segs cs rows (firstB size rows segs) 1) fun d => ?_
   refine loop (β := { x : Nat × List (List (Int × Int)) // 1 ≤ x.1 ∧ x.1 ≤ rounds ∧ Inv x.2 ∧ runR size rows (rounds - x.1) x.1 x.2 = R }) (fun x d => ⟨d, [(2, vi size), (3, vi ((rounds : Nat) : Int)), (8, .a (.p 2 0)), (10, .a (.p 3 0)), (12, .a (.p 6 0))], mkX (rX3 ps segs cs rows x.1.2 x.1.1)⟩) (fun x => rounds - x.1.1) (by kernel_rfl) (fun x K ih d => ?_) ⟨(1, firstB size rows segs), Nat.le_refl _, hr1, hi0, hR.symm⟩ d
   obtain ⟨⟨k, l⟩, k1, k2, k3, k4⟩ := x
   simp only at k1 k2 k3 k4
   show Eo.Good _ _ _ _ _ _ ⟨_, _, mkX (rX3 ps segs cs rows l k)⟩
   have NX := fnp_fz [true] (next_ok cs rows size l hS hs (hi2 l k3))
   have hl := hi2 l k3
   have hln := hl.n
   have SA := same_ok l (nextB size rows l) (by omega) (fun c hc => by have := (hl.c c hc).1; omega)
   by_cases he : l = nextB size rows l
   ·rw [decide_eq_true he] at SA
    have : R = (l, k, true) := by
     rw [← k4]
     cases rounds - k with
     | zero => unfold runR; rw [decide_eq_true he]
     | succ n => unfold runR; rw [if_pos he]
    rw [this]
    exact dnM (.f 79 [8, 3, 4, 5] [0, 1, 2, 3] NX <| .f 91 [8, 9] [0, 1] SA .nil) [0, 1, 7, 8]
   ·rw [decide_eq_false he] at SA
    by_cases hk : k = rounds
    ·have : R = (l, k, false) := by
      rw [← k4, show rounds - k = 0 by omega]
      unfold runR; rw [decide_eq_false he]
     rw [this]
     exact dnM (.f 79 [8, 3, 4, 5] [0, 1, 2, 3] NX <| .f 91 [8, 9] [0, 1] SA <| .v 98 (et (show ((k : Nat) : Int) = (rounds : Nat) by omega)) .nil) [0, 1, 7, 8]
    ·refine gq [] (lpK 18 ruB [] K) (.f 79 [8, 3, 4, 5] [0, 1, 2, 3] NX <| .f 91 [8, 9] [0, 1] SA <| .v 98 (ef (show ((k : Nat) : Int) ≠ (rounds : Nat) by omega)) <| .v 104 (w64 (z := (k : Int) + 1) (by omega)) .nil) [0, 1, 2, 3, 4, 5, 6, 7, 9] [(2, vi size), (3, vi ((rounds : Nat) : Int)), (8, .a (.p 2 0)), (10, .a (.p 3 0)), (12, .a (.p 6 0))] (rX3 ps segs cs rows (nextB size rows l) (k + 1)) fun d => ?_
     refine ih ⟨(k + 1, nextB size rows l), by simp only; omega, by simp only; omega, hi1 l k3, ?_⟩ d (by simp only; omega)
     simp only
     rw [← k4, show rounds - k = (rounds - (k + 1)) + 1 by omega]
     conv => rhs; unfold runR
     rw [if_neg he]
end
end Go.Proofs.YtlkhneiccjhgdaaGreat
namespace Go.Proofs.YtlkhneiccjhgdaaGreat
open Go.Wd Go.Mg
section
variable {L : List (Int × Int)} {size : Int}
theorem sign_ex (x : Int) : ∃ s : Int, (s = 1 ∨ s = -1) ∧ 0 ≤ s * x := by
 by_cases h : 0 ≤ x
 ·exact ⟨1, .inl rfl, by omega⟩
 ·exact ⟨-1, .inr rfl, by omega⟩
structure ChSeg (L : List (Int × Int)) (size : Int) (s : E4) (k : Int) (c : List (Int × Int)) : Prop where
 i : ChInv L c
 h : c.head? = some (cellZ s.1 1 size, cellZ s.2.1 1 size)
 l : c.getLast? = some (cellZ s.2.2.1 1 size, cellZ s.2.2.2 1 size)
 n : ∀ w ∈ c, Nr s.1 s.2.1 s.2.2.1 s.2.2.2 w.1 w.2 size k
theorem first_law (hs : 1 ≤ size) {s : E4} (h1 : (cellZ s.1 1 size, cellZ s.2.1 1 size) ∈ L) (h2 : (cellZ s.2.2.1 1 size, cellZ s.2.2.2 1 size) ∈ L) : ChSeg L size s 1 (ofB s.1 s.2.1 s.2.2.1 s.2.2.2 size (setR L)) := by
 obtain ⟨a, b, c, d⟩ := s
 simp only at h1 h2 ⊢
 obtain ⟨l1, l2⟩ := ofS_law a b c d size hs L
 obtain ⟨sx, hx, kx⟩ := sign_ex (c - a)
 obtain ⟨sy, hy, ky⟩ := sign_ex (d - b)
 refine ⟨⟨fun p hp => ((l1 p).1 hp).1, sx, sy, hx, hy, l2.imp fun {p q} hb => bef_mo hs hx hy kx ky hb⟩, bef_head hs l2 ((l1 _).2 ⟨h1, cut_ex (by decide) (inC_begin hs)⟩) (inC_begin hs), bef_last hs l2 ((l1 _).2 ⟨h2, cut_ex (by decide) (inC_end hs)⟩) (inC_end hs), fun w hw => ?_⟩
 obtain ⟨_, z, hz⟩ := (l1 w).1 hw
 obtain ⟨p, q, hq, hi⟩ := cut_pt hz
 exact nr_first hq hi
theorem round_law (hs : 1 ≤ size) {s : E4} {k : Int} {c : List (Int × Int)} (h : ChSeg L size s k c) : ChSeg L size s (k + 1) (againB size (setR L) c) := by
 obtain ⟨g1, g2, g3, g4, _⟩ := again_inv hs h.i
 refine ⟨g1, g2.trans h.h, g3.trans h.l, fun w hw => ?_⟩
 rcases g4 w hw with h1 | ⟨j, p, q, hj, hq, hi⟩
 ·exact nr_mono (by omega) (h.n w h1)
 ·exact nr_step (h.n _ (gP_mem (by omega))) (h.n _ (gP_mem hj)) hq hi
structure AllSeg (L : List (Int × Int)) (size : Int) (segs : List E4) (k : Nat) (l : List (List (Int × Int))) : Prop where
 n : l.length = segs.length
 c : ∀ i, i < segs.length → ChSeg L size (segs.getD i (0, 0, 0, 0)) k (l.getD i [])
theorem getD_map' {α β : Type} (f : α → β) (l : List α) (d : α) (e : β) {i : Nat} (h : i < l.length) : (l.map f).getD i e = f (l.getD i d) := by
 rw [List.getD_eq_getElem?_getD, List.getD_eq_getElem?_getD, List.getElem?_map, List.getElem?_eq_getElem h]; rfl
theorem all_first (hs : 1 ≤ size) {segs : List E4} (h : ∀ s ∈ segs, (cellZ s.1 1 size, cellZ s.2.1 1 size) ∈ L ∧ (cellZ s.2.2.1 1 size, cellZ s.2.2.2 1 size) ∈ L) : AllSeg L size segs 1 (firstB size (setR L) segs) := by
 refine ⟨List.length_map _, fun i hi => ?_⟩
 unfold firstB
 rw [getD_map' _ segs (0, 0, 0, 0) [] hi]
 obtain ⟨h1, h2⟩ := h (segs.getD i (0, 0, 0, 0)) (List.mem_of_getElem? (get_q segs _ hi))
 exact first_law hs h1 h2
theorem all_round (hs : 1 ≤ size) {segs : List E4} {k : Nat} {l : List (List (Int × Int))} (h : AllSeg L size segs k l) : AllSeg L size segs (k + 1) (nextB size (setR L) l) := by
 refine ⟨(List.length_map _).trans h.n, fun i hi => ?_⟩
 unfold nextB
 rw [getD_map' _ l [] [] (by rw [h.n]; exact hi)]
 exact round_law hs (h.c i hi)
theorem run_law (hs : 1 ≤ size) {segs : List E4} : ∀ (n k : Nat) (l : List (List (Int × Int))), AllSeg L size segs k l → ∃ j, j ≤ n ∧ (runR size (setR L) n k l).2.1 = k + j ∧ AllSeg L size segs (k + j) (runR size (setR L) n k l).1 ∧
  (runR size (setR L) n k l).2.2 = decide ((runR size (setR L) n k l).1 = nextB size (setR L) (runR size (setR L) n k l).1)
 | 0, k, l, h => ⟨0, Nat.le_refl _, rfl, h, rfl⟩
 | n + 1, k, l, h => by
  unfold runR
  split
  ·rename_i e
   exact ⟨0, Nat.zero_le _, rfl, h, (decide_eq_true e).symm⟩
  ·obtain ⟨j, h1, h2, h3, h4⟩ := run_law hs n (k + 1) (nextB size (setR L) l) (all_round hs h)
   exact ⟨j + 1, by omega, by rw [h2]; omega, by rw [show k + (j + 1) = k + 1 + j by omega]; exact h3, h4⟩
theorem map_fix {α : Type} (f : α → α) : ∀ l : List α, l = l.map f ↔ ∀ x ∈ l, f x = x
 | [] => by simp
 | x :: l => by
  rw [List.map_cons, List.cons.injEq, map_fix f l]
  simp only [List.mem_cons, forall_eq_or_imp]
  exact ⟨fun ⟨h1, h2⟩ => ⟨h1.symm, h2⟩, fun ⟨h1, h2⟩ => ⟨h1.symm, h2⟩⟩
def AloneC (size : Int) (L c : List (Int × Int)) : Prop := ∀ k, k + 1 < c.length → ∀ w ∈ stepP size L (gP c k) (gP c (k + 1)), w = gP c k ∨ w = gP c (k + 1)
theorem Mo.asym {sx sy : Int} (hx : sx = 1 ∨ sx = -1) (hy : sy = 1 ∨ sy = -1) (p q : Int × Int) (h : Mo sx sy p q) : ¬ Mo sx sy q p := fun k => Mo.irr p (Mo.trans hx hy h k)
theorem sum_one : ∀ (l : List Nat), (∀ x ∈ l, 1 ≤ x) → l.sum = l.length → ∀ x ∈ l, x = 1
 | [], _, _, x, hx => by cases hx
 | y :: l, h1, h2, x, hx => by
  have hy := h1 y (List.mem_cons_self ..)
  have hl : ∀ m : List Nat, (∀ x ∈ m, 1 ≤ x) → m.length ≤ m.sum := fun m hm => by
   induction m with
   | nil => simp
   | cons z m ih =>
    have := hm z (List.mem_cons_self ..)
    have := ih fun x hx => hm x (List.mem_cons_of_mem _ hx)
    rw [List.length_cons, List.sum_cons]; omega
  have := hl l fun x hx => h1 x (List.mem_cons_of_mem _ hx)
  rw [List.sum_cons, List.length_cons] at h2
  rcases List.mem_cons.1 hx with rfl | hx
  ·omega
  ·exact sum_one l (fun x hx => h1 x (List.mem_cons_of_mem _ hx)) (by omega) x hx
theorem fixed_iff (hs : 1 ≤ size) {c : List (Int × Int)} (h : ChInv L c) : againB size (setR L) c = c ↔ AloneC size L c := by
 obtain ⟨g1, g2, g3, g4, g5, g6⟩ := again_inv hs h
 obtain ⟨sx, sy, hx, hy, hp⟩ := h.o
 have st : ∀ k, k + 1 < c.length → _ := fun k hk => step_law (size := size) hs hx hy (h.m _ (gP_mem (show k < c.length by omega))) (h.m _ (gP_mem hk)) (pair_get hp hk)
 constructor
 ·intro e k hk w hw
  obtain ⟨k1, k2, k3, k4⟩ := st k hk
  have h2 := g6 (by omega)
  rw [e] at h2
  have ge : ∀ x ∈ (List.range (c.length - 1)).map (fun k => (stepP size L (gP c k) (gP c (k + 1))).length - 1), 1 ≤ x := fun x hx => by
   obtain ⟨j, hj, rfl⟩ := List.mem_map.1 hx
   have hj := List.mem_range.1 hj
   obtain ⟨k1, k2, k3, k4⟩ := st j (by omega)
   have hne := (pair_get hp (show j + 1 < c.length by omega)).2.2
   revert k2 k3 hne
   generalize gP c j = u
   generalize gP c (j + 1) = v
   cases stepP size L u v with
   | nil => intro k2; cases k2
   | cons x t =>
    cases t with
    | nil => intro k2 k3 hne; cases k2; cases k3; exact absurd rfl hne
    | cons y t => intro _ _ _; simp
  have one := sum_one _ ge (by rw [List.length_map, List.length_range]; omega) _ (List.mem_map.2 ⟨k, List.mem_range.2 (by omega), rfl⟩)
  have hne := (pair_get hp hk).2.2
  revert k2 k3 one hw hne
  generalize gP c k = u
  generalize gP c (k + 1) = v
  cases stepP size L u v with
  | nil => intro hw; cases hw
  | cons x t =>
   cases t with
   | nil => intro _ k2 k3 _ hne; cases k2; cases k3; exact absurd rfl hne
   | cons y t =>
    cases t with
    | nil =>
     intro hw k2 k3 _ _
     cases k2; cases k3
     simpa using hw
    | cons z t => intro _ _ _ one _; simp at one
 ·intro ha
  obtain ⟨sx', sy', hx', hy', hp'⟩ := g1.o
  by_cases h2 : c.length < 2
  ·exact if_pos h2
  ·-- the same way: both lists are in one order, and have the same cells
   have sub : ∀ w ∈ againB size (setR L) c, w ∈ c := fun w hw => by
    rcases g4 w hw with hw | ⟨k, p, q, hk, hq, hi⟩
    ·exact hw
    ·have hw2 := (st k hk).2.2.2 w
     rcases ha k hk w (hw2.2 ⟨g1.m w hw, p, q, hq, hi⟩) with e | e
     ·rw [e]; exact gP_mem (by omega)
     ·rw [e]; exact gP_mem hk
   have hagain : (againB size (setR L) c).Pairwise (Mo sx sy) := by
    unfold againB
    rw [if_neg h2]
    obtain ⟨n, hn⟩ : ∃ n, c.length = n + 2 := ⟨c.length - 2, by omega⟩
    rw [show c.length - 1 = n + 1 by omega]
    exact (joined_law hs hx hy h.m hp n (by omega)).p
   exact sorted_unique Mo.irr (Mo.asym hx hy) hagain hp fun x => ⟨sub x, g5 x⟩
end
end Go.Proofs.YtlkhneiccjhgdaaGreat
namespace Go.Proofs.YtlkhneiccjhgdaaGreat
open Go.Wd Go.Mg
theorem scm_le {x y w x' y' w' : Int} (h : scm x y w x' y' w' ≤ 0) : x * w' ≤ x' * w ∧ (x * w' = x' * w → y * w' ≤ y' * w) := by
 unfold scm at h
 rw [orF2] at h
 split at h
 ·rename_i h1
  have h1 := cm_0.1 h1
  exact ⟨Int.le_of_eq h1, fun _ => cm_le0.1 h⟩
 ·rename_i h1
  have := cm_le0.1 h
  exact ⟨this, fun e => absurd (cm_0.2 e) h1⟩
structure Wn (B : Int) (p : S3) : Prop where
 w : 0 < p.2.2
 x1 : -(p.2.2 * B) ≤ p.1
 x2 : p.1 ≤ p.2.2 * B
 y1 : -(p.2.2 * B) ≤ p.2.1
 y2 : p.2.1 ≤ p.2.2 * B
structure Eb (B : Int) (e : E4) : Prop where
 a : -B ≤ e.1 ∧ e.1 ≤ B
 b : -B ≤ e.2.1 ∧ e.2.1 ≤ B
 c : -B ≤ e.2.2.1 ∧ e.2.2.1 ≤ B
 d : -B ≤ e.2.2.2 ∧ e.2.2.2 ≤ B
theorem Eb.ends {B : Int} {s : E4} (h : Eb B s) : Eb B (ends4 s) := by
 unfold ends4 endsF
 cases decide (pcm s.2.2.1 s.2.2.2 s.1 s.2.1 < 0)
 ·exact ⟨h.a, h.b, h.c, h.d⟩
 ·exact ⟨h.c, h.d, h.a, h.b⟩
theorem Eb.one {B x y : Int} (h1 : -B ≤ x ∧ x ≤ B) (h2 : -B ≤ y ∧ y ≤ B) : Wn B (x, y, 1) := ⟨show (0 : Int) < 1 by decide, by simp only; omega, by simp only; omega, by simp only; omega, by simp only; omega⟩
theorem mul_in {B w v : Int} (hw : 0 < w) (h : -B ≤ v ∧ v ≤ B) : -(w * B) ≤ v * w ∧ v * w ≤ w * B := by
 have h1 := Int.mul_le_mul_of_nonneg_left h.1 (Int.le_of_lt hw)
 have h2 := Int.mul_le_mul_of_nonneg_left h.2 (Int.le_of_lt hw)
 rw [Int.mul_neg] at h1
 rw [Int.mul_comm v w]; exact ⟨h1, h2⟩
theorem holds_wn {B : Int} {s : E4} (hs : Eb B s) {x y w : Int} (hw : 0 < w) (h : holdsB s.1 s.2.1 s.2.2.1 s.2.2.2 x y w = true) : Wn B (x, y, w) := by
 unfold holdsB at h
 simp only [Bool.and_eq_true, decide_eq_true_eq] at h
 obtain ⟨h0, h1, h2⟩ := h
 have he := hs.ends
 have h0 := cm_0.1 h0
 unfold sideN wayF at h0
 unfold ends4 at he
 generalize endsF s.1 s.2.1 s.2.2.1 s.2.2.2 = e at *
 obtain ⟨a, b, c, d⟩ := e
 simp only at h0 h1 h2
 obtain ⟨l1, l2⟩ := scm_le h1
 obtain ⟨u1, u2⟩ := scm_le h2
 rw [Int.mul_one] at l1 l2 u1 u2
 rw [Int.mul_one] at l2 u2
 have ma := mul_in hw he.a
 have mb := mul_in hw he.b
 have mc := mul_in hw he.c
 have md := mul_in hw he.d
 simp only at ma mb mc md
 have hx : -(w * B) ≤ x ∧ x ≤ w * B := ⟨by omega, by omega⟩
 have hac : a ≤ c := by
  refine Int.not_lt.1 fun h => ?_
  have := Int.mul_lt_mul_of_pos_right h hw
  omega
 have hy : -(w * B) ≤ y ∧ y ≤ w * B := by
  rcases Int.lt_or_eq_of_le hac with h | h
  ·have hd : 0 < c - a := by omega
   -- between the two ends
   have k1 : (c - a) * (y - b * w) = (d - b) * (x - a * w) := by omega
   have k2 : 0 ≤ x - a * w := by omega
   have k3 : x - a * w ≤ (c - a) * w := by rw [Int.sub_mul]; omega
   rcases Int.le_total 0 (d - b) with g | g
   ·have m1 := Int.mul_nonneg g k2
    have m2 := Int.mul_le_mul_of_nonneg_left k3 g
    have e2 : (d - b) * ((c - a) * w) = (c - a) * (d * w - b * w) := by grind
    have n1 : 0 ≤ y - b * w := Int.not_lt.1 fun hn => by have := Int.mul_neg_of_pos_of_neg hd hn; omega
    have n2 : y - b * w ≤ d * w - b * w := Int.le_of_mul_le_mul_left (by omega) hd
    omega
   ·have m1 := Int.mul_nonpos_of_nonpos_of_nonneg g k2
    have m2 := Int.mul_le_mul_of_nonpos_left g k3
    have e2 : (d - b) * ((c - a) * w) = (c - a) * (d * w - b * w) := by grind
    have n1 : y - b * w ≤ 0 := Int.not_lt.1 fun hn => by have := Int.mul_pos hd hn; omega
    have n2 : d * w - b * w ≤ y - b * w := Int.le_of_mul_le_mul_left (by omega) hd
    omega
  ·subst h
   have e1 : x = a * w := by omega
   have := l2 (by omega)
   have := u2 (by omega)
   omega
 exact ⟨hw, hx.1, hx.2, hy.1, hy.2⟩
theorem meet_wn {B : Int} {s t : E4} (h : Sr4 s) (k : Sr4 t) (hs : Eb B s) (ht : Eb B t) : (meet4 s t).1 = 1 → Wn B (m3 (meet4 s t)) := by
 let P : E4 → Prop := fun m => m.1 = 1 → Wn B (m3 m)
 have z : P (0, 0, 0, 0) := fun e => absurd e (by decide)
 have he := hs.ends
 have ke := ht.ends
 show P (meet4 s t)
 unfold meet4 meetF
 refine pbif (P := P) (fun _ _ => Eb.one hs.a hs.b) fun _ => pbif (P := P) (fun _ _ => Eb.one ht.a ht.b) fun _ => pbif (P := P) (fun _ => z) fun _ => pbif (P := P) (fun _ => pbif (P := P) (fun _ => ?_) fun _ => z) fun hsl => pbif (P := P) (fun hb => ?_) fun _ => z
 ·unfold sharedF shK
  refine pbif (P := P) (fun _ _ => ?_) fun _ => pbif (P := P) (fun _ e => absurd e (by decide)) fun _ => z
  unfold frF
  exact pbif (P := fun f : Int × Int => Wn B (f.1, f.2, 1)) (fun _ => Eb.one ke.a ke.b) fun _ => Eb.one he.a he.b
 ·intro _
  simp only [Bool.and_eq_true] at hb
  have hc := cross4_w h k (fun e => by rw [decide_eq_true e] at hsl; cases hsl)
  exact holds_wn hs hc.1 hb.2.1
theorem cellW_spec {n w size : Int} (hs : 1 ≤ size) (hw : 0 < w) : (2 * cellZ n w size * size - size) * w ≤ 2 * n ∧ 2 * n < (2 * cellZ n w size * size + size) * w := by
 unfold cellZ
 obtain ⟨k, hk⟩ : ∃ k, k = w * size := ⟨_, rfl⟩
 have hk1 : 0 < k := hk ▸ Int.mul_pos hw (by omega)
 rw [← hk, show k + k = 2 * k by omega]
 have h1 := Int.emod_add_mul_ediv (n + n + k) (2 * k)
 have h2 := Int.emod_nonneg (n + n + k) (show 2 * k ≠ 0 by omega)
 have h3 := Int.emod_lt_of_pos (n + n + k) (show 0 < 2 * k by omega)
 generalize (n + n + k) / (2 * k) = q at *
 have e1 : (2 * q * size - size) * w = 2 * k * q - k := by rw [hk]; grind
 have e2 : (2 * q * size + size) * w = 2 * k * q + k := by rw [hk]; grind
 omega
theorem cell_cen {n w size : Int} (hs : 1 ≤ size) (hs2 : size ≤ 1048576) (hw : 0 < w) (h1 : -(w * 1099511627775) ≤ n) (h2 : n ≤ w * 1099511627775) : inB (cellZ n w size) = true ∧ inB (cellZ n w size * size) = true := by
 obtain ⟨a1, a2⟩ := cellW_spec (n := n) hs hw
 generalize cellZ n w size = k at *
 have b1 : 2 * k * size - size ≤ 2 * 1099511627775 := Int.le_of_mul_le_mul_right (a := w) (by rw [show 2 * 1099511627775 * w = 2 * (w * 1099511627775) by grind]; omega) hw
 have b2 : -(2 * 1099511627775) < 2 * k * size + size := by
  refine Int.not_le.1 fun h => ?_
  have := Int.mul_le_mul_of_nonneg_right h (Int.le_of_lt hw)
  rw [show -(2 * 1099511627775) * w = -(2 * (w * 1099511627775)) by grind] at this
  omega
 have e : 2 * k * size = 2 * (k * size) := by grind
 have c1 : k ≤ 2199023255552 := by
  refine Int.not_lt.1 fun h => ?_
  have := Int.mul_le_mul_of_nonneg_right (show (2199023255553 : Int) ≤ k by omega) (show 0 ≤ size by omega)
  omega
 have c2 : -2199023255552 ≤ k := by
  refine Int.not_lt.1 fun h => ?_
  have := Int.mul_le_mul_of_nonneg_right (show k ≤ (-2199023255553 : Int) by omega) (show 0 ≤ size by omega)
  omega
 unfold inB
 simp only [decide_eq_true_eq]
 omega
theorem cen_of {p : S3} {size : Int} (h : Wn 1099511627775 p) (hs : szB size = true) : cenOk (evC size p).1 (evC size p).2 size = true := by
 obtain ⟨s1, s2⟩ := szB_iff.1 hs
 obtain ⟨a1, a2⟩ := cell_cen s1 s2 h.w h.x1 h.x2
 obtain ⟨b1, b2⟩ := cell_cen s1 s2 h.w h.y1 h.y2
 unfold cenOk ptB evC
 simp only at a1 a2 b1 b2 ⊢
 rw [hs, a1, a2, b1, b2]; rfl
theorem cell_eq {n w n' w' size : Int} (hs : 1 ≤ size) (hw : 0 < w) (hw' : 0 < w') (h : n * w' = n' * w) : cellZ n w size = cellZ n' w' size := by
 obtain ⟨a1, a2⟩ := cellW_spec (n := n) hs hw
 obtain ⟨b1, b2⟩ := cellW_spec (n := n') hs hw'
 generalize cellZ n w size = k at *
 generalize cellZ n' w' size = k' at *
 have one : ∀ {k k' n n' w w' : Int}, 0 < w → 0 < w' → n * w' = n' * w → (2 * k * size - size) * w ≤ 2 * n → 2 * n' < (2 * k' * size + size) * w' → k ≤ k' := fun {k k' n n' w w'} hw hw' h x1 x2 => by
  refine Int.not_lt.1 fun hlt => ?_
  have y1 := Int.mul_le_mul_of_nonneg_right x1 (Int.le_of_lt hw')
  have y2 := Int.mul_lt_mul_of_pos_right x2 hw
  have y3 : (2 * k' * size + size) ≤ (2 * k * size - size) := by
   have := Int.mul_le_mul_of_nonneg_right (show k' + 1 ≤ k by omega) (show 0 ≤ 2 * size by omega)
   have e1 : (k' + 1) * (2 * size) = 2 * k' * size + 2 * size := by grind
   have e2 : k * (2 * size) = 2 * k * size := by grind
   omega
  have y4 := Int.mul_le_mul_of_nonneg_right y3 (Int.le_of_lt (Int.mul_pos hw hw'))
  have e1 : (2 * k' * size + size) * w' * w = (2 * k' * size + size) * (w * w') := by grind
  have e2 : (2 * k * size - size) * w * w' = (2 * k * size - size) * (w * w') := by grind
  have e3 : 2 * n * w' = 2 * (n * w') := by grind
  have e4 : 2 * n' * w = 2 * (n' * w) := by grind
  omega
 have c1 := one hw hw' h a1 b2
 have c2 := one hw' hw h.symm b1 a2
 omega
theorem ev_eq {p q : S3} {size : Int} (hs : 1 ≤ size) (hp : 0 < p.2.2) (hq : 0 < q.2.2) (h : sc3 p q = 0) : evC size p = evC size q := by
 obtain ⟨h1, h2⟩ := sc3_eq.1 h
 exact Prod.ext (cell_eq hs hp hq h1) (cell_eq hs hp hq h2)
end Go.Proofs.YtlkhneiccjhgdaaGreat
namespace Go.Proofs.YtlkhneiccjhgdaaGreat
open Go.Wd Go.Mg Go.Eo Go.RowKit Go.Rg
section
variable {ps : List (Int × Int)} {segs : List E4} {size : Int}
structure HotL (ps : List (Int × Int)) (segs : List E4) (size : Int) (L : List (Int × Int)) : Prop where
 pt : ∀ p ∈ L, ptB p.1 p.2 = true
 cen : ∀ p ∈ L, cenOk p.1 p.2 size = true
 has : ∀ v ∈ vsF ps segs, evC size v ∈ L
 ins : ∀ p ∈ L, ∃ u ∈ cand ps segs, p = evC size u
 len : L.length ≤ 10000
theorem uB_iff {n : Int} : uB n = true ↔ -1099511627775 ≤ n ∧ n ≤ 1099511627775 := by unfold uB; simp only [Bool.and_eq_true, decide_eq_true_eq, ge_iff_le]
theorem uB_in {n : Int} (h : uB n = true) : inB n = true := inB_iff.2 (by have := uB_iff.1 h; omega)
structure Fine (ps : List (Int × Int)) (segs : List E4) : Prop where
 p : ∀ p ∈ ps, uB p.1 = true ∧ uB p.2 = true
 s : ∀ s ∈ segs, uB s.1 = true ∧ uB s.2.1 = true ∧ uB s.2.2.1 = true ∧ uB s.2.2.2 = true
theorem fine_of (h : beyB ps segs = false) : Fine ps segs := by
 unfold beyB at h
 rw [Bool.or_eq_false_iff, List.any_eq_false, List.any_eq_false] at h
 refine ⟨fun p hp => ?_, fun s hs => ?_⟩
 ·have := h.1 p hp
  simp only [tPk, wiB, Bool.not_eq_true', Bool.not_eq_false, Bool.and_eq_true, Bool.not_eq_true] at this
  simpa using this
 ·have := h.2 s hs
  simp only [tSk, wiB, Bool.or_eq_true, Bool.not_eq_true', not_or, Bool.not_eq_false, Bool.and_eq_true] at this
  exact ⟨this.1.1, this.1.2, this.2.1, this.2.2⟩
theorem Fine.eb (h : Fine ps segs) {s : E4} (hs : s ∈ segs) : Eb 1099511627775 s := by
 obtain ⟨h1, h2, h3, h4⟩ := h.s s hs
 exact ⟨uB_iff.1 h1, uB_iff.1 h2, uB_iff.1 h3, uB_iff.1 h4⟩
theorem Fine.sg (h : Fine ps segs) {s : E4} (hs : s ∈ segs) : sgB s.1 s.2.1 s.2.2.1 s.2.2.2 = true := by
 obtain ⟨h1, h2, h3, h4⟩ := h.s s hs
 unfold sgB ptB
 rw [uB_in h1, uB_in h2, uB_in h3, uB_in h4]; rfl
theorem Fine.may (h : Fine ps segs) (hp : ps.length ≤ 4096) (hs : segs.length ≤ 4096) : mayF ps segs = 0 := by
 unfold mayF
 rw [if_neg (by omega)]
 have h1 : ps.any (tPk .m) = false := List.any_eq_false.2 fun p hp => by
  obtain ⟨h1, h2⟩ := h.p p hp
  simp only [tPk, ptB, uB_in h1, uB_in h2]; decide
 have h2 : segs.any (tSk .m) = false := List.any_eq_false.2 fun s hs => by
  simp only [tSk, h.sg hs]; decide
 rw [h1, h2]; rfl
theorem Fine.cand (h : Fine ps segs) (hg : Segs segs) : ∀ u ∈ cand ps segs, Wn 1099511627775 u := fun u hu => by
 unfold Proofs.YtlkhneiccjhgdaaGreat.cand vsF at hu
 rcases List.mem_append.1 hu with hu | hu
 ·rcases List.mem_append.1 hu with hu | hu
  ·obtain ⟨p, hp, rfl⟩ := List.mem_map.1 hu
   obtain ⟨h1, h2⟩ := h.p p hp
   exact Eb.one (uB_iff.1 h1) (uB_iff.1 h2)
  ·obtain ⟨t, ht, hu⟩ := List.mem_flatMap.1 hu
   have := (h.eb ht).ends
   simp only [List.mem_cons, List.not_mem_nil, or_false] at hu
   rcases hu with rfl | rfl
   ·exact Eb.one this.a this.b
   ·exact Eb.one this.c this.d
 ·unfold meets at hu
  obtain ⟨t, ht, hu⟩ := List.mem_flatMap.1 hu
  obtain ⟨v, hv, rfl⟩ := List.mem_map.1 hu
  obtain ⟨hv, hm'⟩ := List.mem_filter.1 hv
  have sr : ∀ {t : E4}, t ∈ segs → Sr4 t := fun {t} ht => by
   obtain ⟨k, hk, e⟩ := List.mem_iff_getElem.1 ht
   have := hg k hk
   rwa [List.getD_eq_getElem?_getD, List.getElem?_eq_getElem hk, Option.getD_some, e] at this
  exact meet_wn (sr ht) (sr hv) (h.eb ht) (h.eb hv) (by simpa using hm')
theorem hot_ex (hs : szB size = true) (hb : beyB ps segs = false) (hp : ps.length ≤ 4000) (hl : segs.length ≤ 70) :
  ∃ L, HotL ps segs size L ∧ FnP Pg 62 [.sl 2 (pl ps), .sl 4 (gl segs)] [.a (.w 0), .a (.w 1), vi size] [.sl 2 (pl ps), .sl 4 (gl segs)] (setO (setC L) (setR L) 2) (.t [.a (.p 2 0), .a (.v (i6 0))]) := by
 have hf := fine_of hb
 have hm0 := hf.may (by omega) (by omega)
 obtain ⟨N, S, hR, h1, h2⟩ := each_ex hm0
 obtain ⟨_, _, _, hg⟩ := may_zero hm0
 have hss := Nat.mul_le_mul hl hl
 have hCe := cells_ok hs hb hm0 hR (show N ≤ 10000 by omega)
 rw [hCs_eq, hRs_eq] at hCe
 have s1 := (szB_iff.1 hs).1
 have hc := hf.cand hg
 refine ⟨hotL size S N, ⟨fun p hp => ?_, fun p hp => ?_, fun v hv => ?_, fun p hp => ?_, ?_⟩, hCe⟩
 ·obtain ⟨u, hu, rfl⟩ := List.mem_map.1 hp
  exact evC_in (spots_in hR u hu).2 hs
 ·obtain ⟨u, hu, rfl⟩ := List.mem_map.1 hp
  exact cen_of (hc u (spots_in hR u hu).1) hs
 ·obtain ⟨u, hu, e⟩ := spots_has hR v hv
  have w1 := (hc v (List.mem_append_left _ hv)).w
  have w2 := (hc u (spots_in hR u hu).1).w
  rw [ev_eq s1 w1 w2 e]
  exact List.mem_map_of_mem hu
 ·obtain ⟨u, hu, rfl⟩ := List.mem_map.1 hp
  exact ⟨u, (spots_in hR u hu).1, rfl⟩
 ·unfold hotL spots
  rw [List.length_map, List.length_map, List.length_range]; omega
theorem HotL.seg {L : List (Int × Int)} (h : HotL ps segs size L) : ∀ s ∈ segs, (cellZ s.1 1 size, cellZ s.2.1 1 size) ∈ L ∧ (cellZ s.2.2.1 1 size, cellZ s.2.2.2 1 size) ∈ L := fun s hs => by
 have h1 := h.has (lowS s) (List.mem_append_right _ (List.mem_flatMap.2 ⟨s, hs, by simp⟩))
 have h2 := h.has (highS s) (List.mem_append_right _ (List.mem_flatMap.2 ⟨s, hs, by simp⟩))
 unfold lowS highS ends4 endsF at *
 revert h1 h2
 cases decide (pcm s.2.2.1 s.2.2.2 s.1 s.2.1 < 0)
 ·exact fun h1 h2 => ⟨h1, h2⟩
 ·exact fun h1 h2 => ⟨h2, h1⟩
theorem HotL.set {L : List (Int × Int)} (h : HotL ps segs size L) : SetOk 10000 (setR L) := by
 have := setOk_of h.pt h.len (Nat.le_refl _)
 rwa [hRs_eq] at this
theorem AllSeg.ok {L : List (Int × Int)} (hH : HotL ps segs size L) (hl : segs.length ≤ 70) {k : Nat} {l : List (List (Int × Int))} (h : AllSeg L size segs k l) : ChsOk size l := by
 have hn := h.n
 refine ⟨by omega, fun c hc => ?_⟩
 obtain ⟨i, hi, e⟩ := List.mem_iff_getElem.1 hc
 have hi' : i < segs.length := by omega
 have := (h.c i hi').i
 rw [List.getD_eq_getElem?_getD, List.getElem?_eq_getElem hi, Option.getD_some, e] at this
 have h1 := this.len
 have h2 := hH.len
 exact ⟨by omega, fun p hp => hH.cen p (this.m p hp)⟩
theorem runF_ex (hs : szB size = true) (hb : beyB ps segs = false) (hp : ps.length ≤ 4000) (hl : segs.length ≤ 70) : ∃ L, HotL ps segs size L ∧ ∀ rounds : Nat, 1 ≤ rounds → rounds ≤ 64 →
  FnP Pg 17 [.sl 2 (pl ps), .sl 4 (gl segs)] [.a (.w 0), .a (.w 1), vi size, vi ((rounds : Nat) : Int)] [.sl 2 (pl ps), .sl 4 (gl segs)] [.sl 2 (pl (setC L)), .sl 1 (pll (runR size (setR L) (rounds - 1) 1 (firstB size (setR L) segs)).1)]
   (.t [.g [.w 2, .w 3, .v (i6 (runR size (setR L) (rounds - 1) 1 (firstB size (setR L) segs)).2.1), .v (.bool (runR size (setR L) (rounds - 1) 1 (firstB size (setR L) segs)).2.2)], .a (.v (i6 0))]) := by
 obtain ⟨L, hH, hC⟩ := hot_ex hs hb hp hl
 have hf := fine_of hb
 have s1 := (szB_iff.1 hs).1
 have hcl : (setC L).length ≤ 10000 := Nat.le_trans (nodup_len (setC L) L ((setC_law L).2.imp fun {p q} h e => by subst e; unfold LtP at h; omega) fun p hp => ((setC_law L).1 p).1 hp) hH.len
 exact ⟨L, hH, fun rounds r1 r2 => run_ok hs (fun s h => hf.sg h) (by omega) hC hH.set hcl (fun l => ∃ k : Nat, AllSeg L size segs k l) ⟨1, all_first s1 hH.seg⟩ (fun l ⟨k, h⟩ => ⟨k + 1, all_round s1 h⟩) (fun l ⟨k, h⟩ => h.ok hH hl) rounds r1 r2⟩
end
end Go.Proofs.YtlkhneiccjhgdaaGreat
set_option maxRecDepth 100000
namespace Go.Proofs.YtlkhneiccjhgdaaGreat
open Go.Eo Go.RowKit Go.Rg
abbrev caV (size rounds : Int) : AV := .g [.w 0, .w 1, .v (i6 size), .v (i6 rounds)]
abbrev caO (ps : List (Int × Int)) (ss : List E4) : List Ob := [.sl 2 (pl ps), .sl 4 (gl ss)]
def smallB (ps : List (Int × Int)) (ss : List E4) : Bool := decide ((ps.length : Int) ≤ 12) && decide ((ss.length : Int) ≤ 10)
theorem small_ok (ps : List (Int × Int)) (ss : List E4) (size rounds : Int) : FnP Pg 15 (caO ps ss) [caV size rounds] (caO ps ss) [] (vb (smallB ps ss)) := by
 have hv : (Value.int .i64 ((pl ps).length : Int)) = i6 ps.length := by rw [pl_len]
 have hw : (Value.int .i64 ((gl ss).length : Int)) = i6 ss.length := by rw [gl_len]
 unfold smallB
 by_cases h : (ps.length : Int) ≤ 12
 ·rw [decide_eq_true h, Bool.true_and]
  exact fq Tryz.func15 fun C => dn (.v 5 hv <| .v 6 (bt h) <| .v 10 hw .nil) [0, 1]
 ·rw [decide_eq_false h, Bool.false_and]
  exact fq Tryz.func15 fun C => dn (.v 5 hv <| .v 6 (bf h) .nil) [0, 1]
theorem unit18_ok (n : Int) : FnP Pg 65 [] [vi n] [] [] (vb (uB n)) := by
 unfold uB
 by_cases c1 : n ≥ -1099511627775
 ·rw [decide_eq_true c1, Bool.true_and]
  exact fq Tryz.func65 fun C => dn (.v 4 (bt c1) .nil) []
 ·rw [decide_eq_false c1, Bool.false_and]
  exact fq Tryz.func65 fun C => dn (.v 4 (bf c1) .nil) []
def wrongF (ps : List (Int × Int)) (ss : List E4) (size rounds : Int) : Int :=
 if rounds < 1 ∨ rounds > 64 ∨ size < 1 ∨ size > 1048576 then 20 else if beyB ps ss then 11 else 0
noncomputable abbrev wrB : Code := Tryz.f18.body.getD .skip
theorem wrong_ok (ps : List (Int × Int)) (ss : List E4) (size rounds : Int) (hp : ps.length < 1000000000) (hs : ss.length < 1000000000) : FnP Pg 18 (caO ps ss) [caV size rounds] (caO ps ss) [] (vi (wrongF ps ss size rounds)) := by
 unfold wrongF
 by_cases o1 : rounds < 1
 ·rw [if_pos (.inl o1)]
  exact fq Tryz.func18 fun C => dn (.v 9 (bt o1) .nil) [0, 1]
 by_cases o2 : rounds > 64
 ·rw [if_pos (.inr (.inl o2))]
  exact fq Tryz.func18 fun C => dn (.v 9 (bf o1) <| .v 13 (bt o2) .nil) [0, 1]
 by_cases o3 : size < 1
 ·rw [if_pos (.inr (.inr (.inl o3)))]
  exact fq Tryz.func18 fun C => dn (.v 9 (bf o1) <| .v 13 (bf o2) <| .v 18 (bt o3) .nil) [0, 1]
 by_cases o4 : size > 1048576
 ·rw [if_pos (.inr (.inr (.inr o4)))]
  exact fq Tryz.func18 fun C => dn (.v 9 (bf o1) <| .v 13 (bf o2) <| .v 18 (bf o3) <| .v 23 (bt o4) .nil) [0, 1]
 rw [if_neg (by simp only [not_or]; exact ⟨o1, o2, o3, o4⟩)]
 obtain ⟨r, hr⟩ : ∃ r : Int, r = if beyB ps ss = true then 11 else 0 := ⟨_, rfl⟩
 rw [← hr]
 have hlen := pl_len ps
 have hv : (Value.int .i64 ((pl ps).length : Int)) = i6 ps.length := by rw [hlen]
 have glen := gl_len ss
 have gv : (Value.int .i64 ((gl ss).length : Int)) = i6 ss.length := by rw [glen]
 have badP : ∀ i, i < ps.length → (uB (ps.getD i (0, 0)).1 && uB (ps.getD i (0, 0)).2) = false → r = 11 := fun i hi h => by
  rw [hr, if_pos]
  unfold beyB
  rw [Bool.or_eq_true]
  refine .inl (List.any_eq_true.2 ⟨ps.getD i (0, 0), List.mem_of_getElem? (get_q ps _ hi), ?_⟩)
  simp only [tPk, wiB]; rw [h]; rfl
 have badS : ∀ i, i < ss.length → ((uB (ss.getD i (0, 0, 0, 0)).1 && uB (ss.getD i (0, 0, 0, 0)).2.1) && (uB (ss.getD i (0, 0, 0, 0)).2.2.1 && uB (ss.getD i (0, 0, 0, 0)).2.2.2)) = false → r = 11 := fun i hi h => by
  rw [hr, if_pos]
  unfold beyB
  rw [Bool.or_eq_true]
  refine .inr (List.any_eq_true.2 ⟨ss.getD i (0, 0, 0, 0), List.mem_of_getElem? (get_q ss _ hi), ?_⟩)
  simp only [tSk, wiB]
  rw [Bool.and_eq_false_iff] at h
  rcases h with h | h <;> rw [h] <;> simp
 refine fq Tryz.func18 fun C => ?_
 refine gq [4] (lp 4 wrB []) (.v 9 (bf o1) <| .v 13 (bf o2) <| .v 18 (bf o3) <| .v 23 (bf o4) <| .v 27 hv .nil) [0, 1, 2] [(1, .a (.p 2 0)), (26, .a (.w 0)), (27, vi ps.length), (28, vi ((0 : Nat) : Int))] (caO ps ss ++ [.box [.w 0, .w 1, .v (i6 size), .v (i6 rounds)] 25]) fun d => ?_
 refine loop (β := { i : Nat // i ≤ ps.length ∧ ∀ k, k < i → (uB (ps.getD k (0, 0)).1 && uB (ps.getD k (0, 0)).2) = true }) (fun x d => ⟨d, [(1, .a (.p 2 0)), (26, .a (.w 0)), (27, vi ps.length), (28, vi ((x.1 : Nat) : Int))], mkX (caO ps ss ++ [.box [.w 0, .w 1, .v (i6 size), .v (i6 rounds)] 25])⟩) (fun x => ps.length - x.1) (by kernel_rfl) (fun x K ih d => ?_) ⟨0, Nat.zero_le _, fun k hk => absurd hk (Nat.not_lt_zero _)⟩ d
 obtain ⟨i, hi, hgood⟩ := x
 try simp only at hi hgood
 by_cases hx : i < ps.length
 ·have at_i := pl_at ps hx
  have bad := badP i hx
  have U1 := unit18_ok (ps.getD i (0, 0)).1
  have U2 := unit18_ok (ps.getD i (0, 0)).2
  have ok : (uB (ps.getD i (0, 0)).1 && uB (ps.getD i (0, 0)).2) = true → ∀ k, k < i + 1 → (uB (ps.getD k (0, 0)).1 && uB (ps.getD k (0, 0)).2) = true := fun h k hk => by
   rcases Nat.lt_or_ge k i with h' | h'
   ·exact hgood k h'
   ·rw [show k = i by omega]; exact h
  revert U1 U2 bad ok
  cases uB (ps.getD i (0, 0)).1
  ·intro bad U1 U2 ok
   rw [bad rfl]
   exact dn (.v 29 (bt (show (i : Int) < (ps.length : Nat) by omega)) <| .i (z := (i : Int)) (n := i) (len := (pl ps).length) 30 rfl (by rw [hlen]; exact hx) <| .l 31 at_i <| .f 34 [] [] U1 .nil) [0, 1]
  ·cases uB (ps.getD i (0, 0)).2
   ·intro bad U1 U2 ok
    rw [bad rfl]
    exact dn (.v 29 (bt (show (i : Int) < (ps.length : Nat) by omega)) <| .i (z := (i : Int)) (n := i) (len := (pl ps).length) 30 rfl (by rw [hlen]; exact hx) <| .l 31 at_i <| .f 34 [] [] U1 <| .f 39 [] [] U2 .nil) [0, 1]
   ·intro bad U1 U2 ok
    refine gq [] (lpK 4 wrB [] K) (.v 29 (bt (show (i : Int) < (ps.length : Nat) by omega)) <| .i (z := (i : Int)) (n := i) (len := (pl ps).length) 30 rfl (by rw [hlen]; exact hx) <| .l 31 at_i <| .f 34 [] [] U1 <| .f 39 [] [] U2 <| .v 42 (w64 (z := (i : Int) + 1) (by omega)) .nil) [0, 1, 2] [(1, .a (.p 2 0)), (26, .a (.w 0)), (27, vi ps.length), (28, vi ((i + 1 : Nat) : Int))] (caO ps ss ++ [.box [.w 0, .w 1, .v (i6 size), .v (i6 rounds)] 25]) fun d => ?_
    exact ih ⟨i + 1, hx, ok rfl⟩ d (by simp only; omega)
 ·have allP : ps.any (tPk .b) = false := List.any_eq_false.2 fun p hp => by
   obtain ⟨k, hk, e⟩ := List.mem_iff_getElem.1 hp
   have := hgood k (by omega)
   rw [List.getD_eq_getElem?_getD, List.getElem?_eq_getElem hk, Option.getD_some, e] at this
   simp only [tPk, wiB]; rw [this]; decide
  refine gq [10] (lp 10 wrB []) (.v 29 (bf (show ¬ (i : Int) < (ps.length : Nat) by omega)) <| .v 45 gv .nil) [0, 1] [(44, .a (.w 1)), (45, vi ss.length), (46, vi ((0 : Nat) : Int))] (caO ps ss) fun d => ?_
  refine loop (β := { i : Nat // i ≤ ss.length ∧ ∀ k, k < i → ((uB (ss.getD k (0, 0, 0, 0)).1 && uB (ss.getD k (0, 0, 0, 0)).2.1) && (uB (ss.getD k (0, 0, 0, 0)).2.2.1 && uB (ss.getD k (0, 0, 0, 0)).2.2.2)) = true }) (fun x d => ⟨d, [(44, .a (.w 1)), (45, vi ss.length), (46, vi ((x.1 : Nat) : Int))], mkX (caO ps ss)⟩) (fun x => ss.length - x.1) (by kernel_rfl) (fun x K2 ih2 d => ?_) ⟨0, Nat.zero_le _, fun k hk => absurd hk (Nat.not_lt_zero _)⟩ d
  obtain ⟨j, hj, hgoodS⟩ := x
  try simp only at hj hgoodS
  by_cases hx' : j < ss.length
  ·have at_j := gl_at ss hx'
   have bad := badS j hx'
   have U1 := unit18_ok (ss.getD j (0, 0, 0, 0)).1
   have U2 := unit18_ok (ss.getD j (0, 0, 0, 0)).2.1
   have U3 := unit18_ok (ss.getD j (0, 0, 0, 0)).2.2.1
   have U4 := unit18_ok (ss.getD j (0, 0, 0, 0)).2.2.2
   have ok : ((uB (ss.getD j (0, 0, 0, 0)).1 && uB (ss.getD j (0, 0, 0, 0)).2.1) && (uB (ss.getD j (0, 0, 0, 0)).2.2.1 && uB (ss.getD j (0, 0, 0, 0)).2.2.2)) = true → ∀ k, k < j + 1 → ((uB (ss.getD k (0, 0, 0, 0)).1 && uB (ss.getD k (0, 0, 0, 0)).2.1) && (uB (ss.getD k (0, 0, 0, 0)).2.2.1 && uB (ss.getD k (0, 0, 0, 0)).2.2.2)) = true := fun h k hk => by
    rcases Nat.lt_or_ge k j with h' | h'
    ·exact hgoodS k h'
    ·rw [show k = j by omega]; exact h
   have its := fun (r : List It) (R : Its Pg C.W C.D r) => (.v 47 (bt (show (j : Int) < (ss.length : Nat) by omega)) <| .i (z := (j : Int)) (n := j) (len := (gl ss).length) 48 rfl (by rw [glen]; exact hx') <| .l 49 at_j R : Its Pg C.W C.D _)
   revert U1 U2 U3 U4 bad ok
   cases uB (ss.getD j (0, 0, 0, 0)).1
   ·intro bad U1 U2 U3 U4 ok
    rw [bad rfl]
    exact dn (its _ (.f 53 [] [] U1 .nil)) [0, 1]
   cases uB (ss.getD j (0, 0, 0, 0)).2.1
   ·intro bad U1 U2 U3 U4 ok
    rw [bad rfl]
    exact dn (its _ (.f 53 [] [] U1 <| .f 59 [] [] U2 .nil)) [0, 1]
   cases uB (ss.getD j (0, 0, 0, 0)).2.2.1
   ·intro bad U1 U2 U3 U4 ok
    rw [bad rfl]
    exact dn (its _ (.f 53 [] [] U1 <| .f 59 [] [] U2 <| .f 66 [] [] U3 .nil)) [0, 1]
   cases uB (ss.getD j (0, 0, 0, 0)).2.2.2
   ·intro bad U1 U2 U3 U4 ok
    rw [bad rfl]
    exact dn (its _ (.f 53 [] [] U1 <| .f 59 [] [] U2 <| .f 66 [] [] U3 <| .f 73 [] [] U4 .nil)) [0, 1]
   intro bad U1 U2 U3 U4 ok
   refine gq [] (lpK 10 wrB [] K2) (its _ (.f 53 [] [] U1 <| .f 59 [] [] U2 <| .f 66 [] [] U3 <| .f 73 [] [] U4 <| .v 76 (w64 (z := (j : Int) + 1) (by omega)) .nil)) [0, 1] [(44, .a (.w 1)), (45, vi ss.length), (46, vi ((j + 1 : Nat) : Int))] (caO ps ss) fun d => ?_
   exact ih2 ⟨j + 1, hx', ok rfl⟩ d (by simp only; omega)
  ·have allS : ss.any (tSk .b) = false := List.any_eq_false.2 fun s hs => by
    obtain ⟨k, hk, e⟩ := List.mem_iff_getElem.1 hs
    have := hgoodS k (by omega)
    rw [List.getD_eq_getElem?_getD, List.getElem?_eq_getElem hk, Option.getD_some, e] at this
    rw [Bool.and_eq_true] at this
    simp only [tSk, wiB]; rw [this.1, this.2]; decide
   have e : r = 0 := by rw [hr, if_neg]; unfold beyB; rw [allP, allS]; decide
   rw [e]
   exact dn (.v 47 (bf (show ¬ (j : Int) < (ss.length : Nat) by omega)) .nil) [0, 1]
end Go.Proofs.YtlkhneiccjhgdaaGreat
namespace Go.Eo
open Go Go.RowKit Go.Rg
section
variable {P : Program} {f : FuncId}
theorem fnp_fa {X X' ns : List Ob} {args : List AV} {r : AV} (bs : List Bool) (Ts : List TypeId) (h : FnP P f X args X' ns r) (hs : allSl X = true) (h1 : Nat.beq bs.length X.length = true) (h2 : Nat.beq Ts.length X.length = true) : FnP P f (rdo bs X Ts) args X' ns r := by
 have h1 := Nat.eq_of_beq_eq_true h1
 have h2 := Nat.eq_of_beq_eq_true h2
 have hlen := rdo_len h1 h2
 obtain ⟨hin, hl, hf⟩ := h
 have hsl : ∀ (j : Nat) (o : Ob), X[j]? = some o → ∃ z es, o = .sl z es := fun j o ho => by
  unfold allSl at hs
  rw [List.all_eq_true] at hs
  have := hs o (List.mem_of_getElem? ho)
  cases o with
  | sl z es => exact ⟨z, es, rfl⟩
  | _ => cases this
 refine ⟨by rw [hlen]; exact hin, hl.trans hlen.symm, fun η ι w hM => ?_⟩
 let ι1 : Nat → Prop := fun g => ι g ∨ Muts η (rdo bs X Ts) g
 have hX : ∀ (j : Nat) (o : Ob), X[j]? = some o → ∃ ob, (rdo bs X Ts)[j]? = some ob := fun j o ho => ⟨_, List.getElem?_eq_getElem (by rw [hlen]; exact (List.getElem?_eq_some_iff.1 ho).1)⟩
 have hM1 : Mem η ι1 w X := by
  refine ⟨fun j o ho => ?_, fun j j' ob ob' g ho ho' hm hm' => ?_, fun j ob g ho hm => ?_, fun g hg => ?_⟩
  ·obtain ⟨z, es, rfl⟩ := hsl j o ho
   obtain ⟨ob, hob⟩ := hX j _ ho
   obtain ⟨o', h3, h4⟩ := rdo_get hob
   rw [ho] at h3; cases h3
   have hk := hM.ok j ob hob
   rcases h4 with rfl | ⟨T, z', es', e, rfl⟩
   ·exact Rd.mono (fun g hg => .inl hg) (fun _ _ => rfl) hk
   ·cases e
    exact own_rd (ι := ι) (ι' := ι1) hk (fun g hg => .inl hg) (fun g hg => .inr ⟨j, _, hob, hg⟩)
  ·obtain ⟨z, es, rfl⟩ := hsl j ob ho; cases hm
  ·obtain ⟨z, es, rfl⟩ := hsl j ob ho; cases hm
  ·rcases hg with hg | ⟨j, ob, ho, hm⟩
   ·exact hM.il g hg
   ·exact mb_lt (hM.ok j ob ho) hm
 have hno : ∀ g, ¬ Muts η X g := fun g ⟨j, o, ho, hm⟩ => by
  obtain ⟨z, es, rfl⟩ := hsl j o ho; cases hm
 refine (hf η ι1 w hM1).mono fun e w' ⟨η', ι', k1, k2, k3, k4, k5, k6, k7⟩ => ?_
 refine ⟨η', ι', k1, fun j hj => k2 j (by omega), k3, ⟨k4.os, k4.tape, k4.output, k4.size, fun k _ hk => k4.same k (hno k) hk⟩, fun g hg => k5 g (.inl hg), fun g hg => ?_, fun g hg => ?_⟩
 ·rcases k6 g hg with (h | h) | h | h
  ·exact .inl h
  ·exact .inr (.inl h)
  ·exact absurd h (hno g)
  ·exact .inr (.inr h)
 ·rcases k7 g hg with h | h
  ·exact absurd h (hno g)
  ·exact .inr h
theorem calls_rdr {X : List Ob} {args : List AV} {r : Value} (h : FnP P f X args X [] (.a (.v r))) (hs : allSl X = true) (η : Nat → Value) (w : World)
  (hη : ∀ (j z : Nat) (es : List (List Dt)), X[j]? = some (.sl z es) → Rd w (fun g => g < w.heap.size) (η j) (.s z es)) : Calls P f (args.map (·.c η)).toArray w fun e w' => e = .returned r ∧ Below w.heap.size w w' := by
 have hsl : ∀ (j : Nat) (o : Ob), X[j]? = some o → ∃ z es, o = .sl z es := fun j o ho => by
  unfold allSl at hs
  rw [List.all_eq_true] at hs
  have := hs o (List.mem_of_getElem? ho)
  cases o with
  | sl z es => exact ⟨z, es, rfl⟩
  | _ => cases this
 obtain ⟨_, _, hf⟩ := h
 have hno : ∀ g, ¬ Muts η X g := fun g ⟨j, o, ho, hm⟩ => by
  obtain ⟨z, es, rfl⟩ := hsl j o ho; cases hm
 refine (hf η (fun g => g < w.heap.size) w ⟨fun j o ho => ?_, fun j j' ob ob' g ho ho' hm hm' => ?_, fun j ob g ho hm => ?_, fun g hg => hg⟩).mono fun e w' ⟨η', ι', k1, _, _, k4, _⟩ => ⟨k1, ?_⟩
 ·obtain ⟨z, es, rfl⟩ := hsl j o ho; exact hη j z es ho
 ·obtain ⟨z, es, rfl⟩ := hsl j ob ho; cases hm
 ·obtain ⟨z, es, rfl⟩ := hsl j ob ho; cases hm
 ·exact ⟨k4.os, k4.tape, k4.output, k4.size, fun k hk => k4.same k (hno k) hk⟩
end
end Go.Eo
set_option maxRecDepth 100000
namespace Go.Proofs.YtlkhneiccjhgdaaGreat
open Go.Eo Go.RowKit Go.Rg
theorem setR_of {L C : List (Int × Int)} (h : setC L = C) : setR L = ((Mg.grpB (fun p q : Int × Int => p.2 == q.2) (Mg.sortB (fun x y => !decide (rowO y x < 0)) C)).map rowOf) := by subst h; rfl
theorem setC_of {L C : List (Int × Int)} (hC : C.Pairwise LtP) (h1 : ∀ p ∈ L, p ∈ C) (h2 : ∀ p ∈ C, p ∈ L) : setC L = C :=
 Mg.sorted_unique (fun x h => by unfold LtP at h; omega) (fun x y h k => by unfold LtP at h k; omega) (setC_law L).2 hC fun x => by rw [(setC_law L).1]; exact ⟨h1 x, h2 x⟩
theorem run_opt (rounds : Int) (h : rounds < 1) (size : Int) : FnP Pg 17 [] [.a nilS, .a nilS, vi size, vi rounds] [] [] (.a (.v (.tuple #[.agg #[.slice none 0 0, .slice none 0 0, i6 0, .bool false], i6 20]))) :=
 fq Tryz.func17 fun C => dn (.v 22 (bt h) .nil) []
abbrev aP : List (Int × Int) := [(10, 3)]
abbrev aS : List E4 := [(0, 0, 20, 6)]
abbrev aC : List (Int × Int) := [(0, 0), (1, 0), (2, 1)]
theorem aCand : cand aP aS = [(10, 3, 1), (0, 0, 1), (20, 6, 1)] := by decide +kernel
theorem aRun : FnP Pg 17 [.row 41 2 (pl aP), .row 43 4 (gl aS)] [.a (.w 0), .a (.w 1), vi 10, vi ((3 : Nat) : Int)] (caO aP aS) [.sl 2 (pl aC), .sl 1 (pll [aC])] (.t [.g [.w 2, .w 3, .v (i6 ((1 : Nat) : Int)), .v (.bool true)], .a (.v (i6 0))]) := by
 obtain ⟨L, hH, hF⟩ := runF_ex (ps := aP) (segs := aS) (size := 10) (by decide) (by decide) (by decide) (by decide)
 have c1 : setC L = aC := by
  refine setC_of (by simp [LtP]) (fun p hp => ?_) (fun p hp => ?_)
  ·obtain ⟨u, hu, rfl⟩ := hH.ins p hp
   rw [aCand] at hu
   simp only [List.mem_cons, List.not_mem_nil, or_false] at hu
   rcases hu with rfl | rfl | rfl <;> decide
  ·have hh : ∀ v ∈ vsF aP aS, evC 10 v ∈ L := hH.has
   have e : vsF aP aS = [(10, 3, 1), (0, 0, 1), (20, 6, 1)] := by decide +kernel
   rw [e] at hh
   simp only [List.mem_cons, List.not_mem_nil, or_false] at hp
   rcases hp with rfl | rfl | rfl
   ·exact hh (0, 0, 1) (by decide)
   ·exact hh (10, 3, 1) (by decide)
   ·exact hh (20, 6, 1) (by decide)
 have c2 := setR_of c1
 have F := hF 3 (by decide) (by decide)
 rw [c1, c2] at F
 have e : runR 10 ((Mg.grpB (fun p q : Int × Int => p.2 == q.2) (Mg.sortB (fun x y => !decide (rowO y x < 0)) aC)).map rowOf) (3 - 1) 1 (firstB 10 ((Mg.grpB (fun p q : Int × Int => p.2 == q.2) (Mg.sortB (fun x y => !decide (rowO y x < 0)) aC)).map rowOf) aS) = ([aC], 1, true) := by decide +kernel
 rw [e] at F
 exact fnp_fa [true, true] [41, 43] F rfl rfl rfl
theorem awake18_ok : FnP Pg 16 [] [] [] [] (vb true) :=
 fq Tryz.func16 fun C => dn (.f 11 [0, 1] [] aRun <| .f 15 [] [] (run_opt 0 (by decide) 10) <| .i 35 (z := 0) (n := 0) (len := (pll [aC]).length) rfl (by decide) <| .l 36 (pll_at [aC] (k := 0) (by decide)) .nil) []
end Go.Proofs.YtlkhneiccjhgdaaGreat
