/- Where a key stands in a row of keys that rises: plain laws. No program in sight. -/
import Derived.Test.YtlkhneiccjhgdaaGreatGRa
import Derived.Test.YtlkhneiccjhgdaaGreatGRb
import Derived.Deep.Cut
import Derived.Test.YtlkhneiccjhgdaaGreatGRk
import Derived.Test.YtlkhneiccjhgdaaGreatGRi
import GoSem.ClaimData
set_option linter.unusedVariables false
set_option linter.unusedSimpArgs false
set_option maxRecDepth 100000
namespace Go.Wd
open Go
structure Stz where
 fn : Int
 fd : Int
 tn : Int
 td : Int
 op : Bool
 ot : Bool
def stL (s : Stz) : List Value := [u64 (lb (tc s.fn) 0), u64 (lb (tc s.fn) 1), u64 (lb (tc s.fn) 2), u64 (lb (tc s.fn) 3), u64 (lb (tc s.fd) 0), u64 (lb (tc s.fd) 1), u64 (lb (tc s.fd) 2), u64 (lb (tc s.fd) 3), u64 (lb (tc s.tn) 0), u64 (lb (tc s.tn) 1), u64 (lb (tc s.tn) 2), u64 (lb (tc s.tn) 3), u64 (lb (tc s.td) 0), u64 (lb (tc s.td) 1), u64 (lb (tc s.td) 2), u64 (lb (tc s.td) 3), .bool s.op, .bool s.ot]
abbrev stV (s : Stz) : Value := .agg #[u64 (lb (tc s.fn) 0), u64 (lb (tc s.fn) 1), u64 (lb (tc s.fn) 2), u64 (lb (tc s.fn) 3), u64 (lb (tc s.fd) 0), u64 (lb (tc s.fd) 1), u64 (lb (tc s.fd) 2), u64 (lb (tc s.fd) 3), u64 (lb (tc s.tn) 0), u64 (lb (tc s.tn) 1), u64 (lb (tc s.tn) 2), u64 (lb (tc s.tn) 3), u64 (lb (tc s.td) 0), u64 (lb (tc s.td) 1), u64 (lb (tc s.td) 2), u64 (lb (tc s.td) 3), .bool s.op, .bool s.ot]
structure Stz.Ok (s : Stz) : Prop where
 f : Wd.Ok s.fn s.fd
 t : Wd.Ok s.tn s.td
def fromZ (s : Stz) (n d : Int) (o : Bool) : Stz := if 0 < cmpR n d s.fn s.fd then { s with fn := n, fd := d, op := o } else if cmpR n d s.fn s.fd = 0 then { s with op := s.op || o } else s
def toZ (s : Stz) (n d : Int) (o : Bool) : Stz := if cmpR n d s.tn s.td < 0 then { s with tn := n, td := d, ot := o } else if cmpR n d s.tn s.td = 0 then { s with ot := s.ot || o } else s
theorem fromZ_ok {s : Stz} {n d : Int} {o : Bool} (h : s.Ok) (hr : Wd.Ok n d) : (fromZ s n d o).Ok := by
 unfold fromZ; split
 ·exact ⟨hr, h.t⟩
 ·split
  ·exact ⟨h.f, h.t⟩
  ·exact h
theorem toZ_ok {s : Stz} {n d : Int} {o : Bool} (h : s.Ok) (hr : Wd.Ok n d) : (toZ s n d o).Ok := by
 unfold toZ; split
 ·exact ⟨h.f, hr⟩
 ·split
  ·exact ⟨h.f, h.t⟩
  ·exact h
end Go.Wd
namespace Go.Rg
open Go Go.RowKit Go.Wd
end Go.Rg
namespace Go.Proofs.YtlkhneiccjhgdaaGreat
open Go.RowKit Go.Rg Go.Wd
attribute [local go_sem] Oper.semAt_some
end Go.Proofs.YtlkhneiccjhgdaaGreat
namespace Go.Wd
open Go
def bandZ (s : Stz) (a way low high : Int) : Stz × Bool :=
 if 0 < way then (toZ (fromZ s (low - 2 * a) (2 * way) false) (high - 2 * a) (2 * way) true, true)
 else if way < 0 then (toZ (fromZ s (2 * a - high) (-(2 * way)) true) (2 * a - low) (-(2 * way)) false, true)
 else (s, decide (low ≤ 2 * a) && decide (2 * a < high))
structure BandOk (a way low high : Int) : Prop where
 a1 : -2199023255552 ≤ a
 a2 : a ≤ 2199023255552
 w1 : -4398046511104 ≤ way
 w2 : way ≤ 4398046511104
 l1 : -4611686018429485056 ≤ low
 l2 : low ≤ 4611686018429485056
 h1 : -4611686018429485056 ≤ high
 h2 : high ≤ 4611686018429485056
theorem bandZ_ok {s : Stz} {a way low high : Int} (h : s.Ok) (b : BandOk a way low high) : (bandZ s a way low high).1.Ok := by
 have := b.a1; have := b.a2; have := b.w1; have := b.w2; have := b.l1; have := b.l2; have := b.h1; have := b.h2
 unfold bandZ
 split
 ·exact toZ_ok (fromZ_ok h ⟨by omega, by omega, by omega, by omega⟩) ⟨by omega, by omega, by omega, by omega⟩
 ·split
  ·exact toZ_ok (fromZ_ok h ⟨by omega, by omega, by omega, by omega⟩) ⟨by omega, by omega, by omega, by omega⟩
  ·exact h
def someZ (s : Stz) : Bool := decide (cmpR s.fn s.fd s.tn s.td < 0) || (decide (cmpR s.fn s.fd s.tn s.td = 0) && (!s.op && !s.ot))
def aheadZ (s t : Stz) : Int := if cmpR s.fn s.fd t.fn t.fd ≠ 0 then cmpR s.fn s.fd t.fn t.fd else if s.op = t.op then 0 else if t.op then -1 else 1
end Go.Wd
namespace Go.Proofs.YtlkhneiccjhgdaaGreat
open Go.RowKit Go.Rg Go.Wd
attribute [local go_sem] Oper.semAt_some
end Go.Proofs.YtlkhneiccjhgdaaGreat
namespace Go.Wd
open Go
abbrev st0V : Value := .agg #[.int .u64 0, .int .u64 0, .int .u64 0, .int .u64 0, .int .u64 0, .int .u64 0, .int .u64 0, .int .u64 0, .int .u64 0, .int .u64 0, .int .u64 0, .int .u64 0, .int .u64 0, .int .u64 0, .int .u64 0, .int .u64 0, .bool false, .bool false]
def whole : Stz := ⟨0, 1, 1, 1, false, false⟩
theorem whole_ok : whole.Ok := ⟨⟨by decide, by decide, by decide, by decide⟩, ⟨by decide, by decide, by decide, by decide⟩⟩
def cutZ (a b c d cx cy size : Int) : Option Stz :=
 if (bandZ whole a (c - a) (2 * cx * size - size) (2 * cx * size + size)).2 then
  if (bandZ (bandZ whole a (c - a) (2 * cx * size - size) (2 * cx * size + size)).1 b (d - b) (2 * cy * size - size) (2 * cy * size + size)).2 then
   if someZ (bandZ (bandZ whole a (c - a) (2 * cx * size - size) (2 * cx * size + size)).1 b (d - b) (2 * cy * size - size) (2 * cy * size + size)).1 then
    some (bandZ (bandZ whole a (c - a) (2 * cx * size - size) (2 * cx * size + size)).1 b (d - b) (2 * cy * size - size) (2 * cy * size + size)).1
   else none
  else none
 else none
theorem prod_bd {c size : Int} (h1 : -2199023255552 ≤ c) (h2 : c ≤ 2199023255552) (s1 : 1 ≤ size) (s2 : size ≤ 1048576) : -4611686018427387904 ≤ 2 * c * size ∧ 2 * c * size ≤ 4611686018427387904 := by
 have h : (2 * c * size).natAbs ≤ 4398046511104 * 1048576 := by
  rw [Int.natAbs_mul]; exact Nat.mul_le_mul (by omega) (by omega)
 omega
theorem bandOk_of {a c x size : Int} (h1 : inB a = true) (h2 : inB c = true) (hx : -4611686018427387904 ≤ x ∧ x ≤ 4611686018427387904) (s1 : 1 ≤ size) (s2 : size ≤ 1048576) : BandOk a (c - a) (x - size) (x + size) := by
 rw [inB_iff] at h1 h2
 exact ⟨by omega, by omega, by omega, by omega, by omega, by omega, by omega, by omega⟩
theorem cutZ_ok {a b c d cx cy size : Int} {z : Stz} (hg : sgB a b c d = true) (hc : ptB cx cy = true) (hs : szB size = true) (h : cutZ a b c d cx cy size = some z) : z.Ok := by
 unfold sgB ptB at hg
 unfold ptB at hc
 simp only [Bool.and_eq_true] at hg hc
 rw [szB_iff] at hs
 have px := prod_bd (c := cx) (inB_iff.1 hc.1).1 (inB_iff.1 hc.1).2 hs.1 hs.2
 have py := prod_bd (c := cy) (inB_iff.1 hc.2).1 (inB_iff.1 hc.2).2 hs.1 hs.2
 unfold cutZ at h
 split at h
 ·split at h
  ·split at h
   ·cases h
    exact bandZ_ok (bandZ_ok whole_ok (bandOk_of hg.1.1 hg.2.1 px hs.1 hs.2)) (bandOk_of hg.1.2 hg.2.2 py hs.1 hs.2)
   ·cases h
  ·cases h
 ·cases h
end Go.Wd
namespace Go.Rg
open Go Go.RowKit Go.Wd
end Go.Rg
namespace Go.Proofs.YtlkhneiccjhgdaaGreat
open Go.RowKit Go.Rg Go.Wd
attribute [local go_sem] Oper.semAt_some
end Go.Proofs.YtlkhneiccjhgdaaGreat
namespace Go.Wd
open Go
def lowB : List Int → Int → Nat
 | [], _ => 0
 | x :: r, k => if x < k then lowB r k + 1 else 0
def Rising (ks : List Int) : Prop := ∀ (i j : Nat) (x y : Int), i ≤ j → ks[i]? = some x → ks[j]? = some y → x ≤ y
theorem Rising.tail {x : Int} {r : List Int} (h : Rising (x :: r)) : Rising r := fun i j a b hij hi hj => h (i + 1) (j + 1) a b (by omega) (by simpa using hi) (by simpa using hj)
theorem lowB_le : ∀ (ks : List Int) (k : Int), lowB ks k ≤ ks.length
 | [], _ => Nat.le_refl _
 | x :: r, k => by
  have := lowB_le r k
  unfold lowB; split
  ·simp; omega
  ·omega
theorem lowB_lt : ∀ (ks : List Int) (k : Int), Rising ks → ∀ i x, ks[i]? = some x → (x < k ↔ i < lowB ks k)
 | [], k, _, i, x, h => by simp at h
 | y :: r, k, hr, i, x, h => by
  unfold lowB
  by_cases hy : y < k
  ·rw [if_pos hy]
   cases i with
   | zero => simp at h; subst h; simp [hy]
   | succ i =>
    have := lowB_lt r k hr.tail i x (by simpa using h)
    rw [this]; omega
  ·rw [if_neg hy]
   have := hr 0 i y x (by omega) rfl h
   constructor <;> intro h2 <;> omega
end Go.Wd
namespace Go.Wd
def inR (y hx : Int) (xs : List Int) : List (Int × Int) := (xs.takeWhile fun x => decide (x ≤ hx)).map fun x => (x, y)
def rowNear (lx hx : Int) (r : Int × List Int) : List (Int × Int) := inR r.1 hx (r.2.drop (lowB r.2 lx))
def nearRest (lx hx hy : Int) (rows : List (Int × List Int)) : List (Int × Int) := (rows.takeWhile fun r => decide (r.1 ≤ hy)).flatMap (rowNear lx hx)
def nearB (rows : List (Int × List Int)) (lx ly hx hy : Int) : List (Int × Int) := nearRest lx hx hy (rows.drop (lowB (rows.map (·.1)) ly))
theorem nearRest_nil (lx hx hy : Int) : nearRest lx hx hy [] = [] := rfl
theorem nearRest_stop {lx hx hy : Int} {rows : List (Int × List Int)} {i : Nat} {r : Int × List Int} (h : rows[i]? = some r) (hr : hy < r.1) : nearRest lx hx hy (rows.drop i) = [] := by
 have hl := (List.getElem?_eq_some_iff.1 h).1
 have e : rows.drop i = r :: rows.drop (i + 1) := by rw [List.drop_eq_getElem_cons hl]; congr 1; exact (List.getElem?_eq_some_iff.1 h).2
 unfold nearRest
 rw [e, List.takeWhile_cons, if_neg (by simp; omega)]
 rfl
theorem nearRest_go {lx hx hy : Int} {rows : List (Int × List Int)} {i : Nat} {r : Int × List Int} (h : rows[i]? = some r) (hr : r.1 ≤ hy) : nearRest lx hx hy (rows.drop i) = rowNear lx hx r ++ nearRest lx hx hy (rows.drop (i + 1)) := by
 have hl := (List.getElem?_eq_some_iff.1 h).1
 have e : rows.drop i = r :: rows.drop (i + 1) := by rw [List.drop_eq_getElem_cons hl]; congr 1; exact (List.getElem?_eq_some_iff.1 h).2
 unfold nearRest
 rw [e, List.takeWhile_cons, if_pos (by simpa using hr)]
 rfl
theorem inR_stop {y hx : Int} {xs : List Int} {i : Nat} {x : Int} (h : xs[i]? = some x) (hr : hx < x) : inR y hx (xs.drop i) = [] := by
 have hl := (List.getElem?_eq_some_iff.1 h).1
 have e : xs.drop i = x :: xs.drop (i + 1) := by rw [List.drop_eq_getElem_cons hl]; congr 1; exact (List.getElem?_eq_some_iff.1 h).2
 unfold inR
 rw [e, List.takeWhile_cons, if_neg (by simp; omega)]
 rfl
theorem inR_go {y hx : Int} {xs : List Int} {i : Nat} {x : Int} (h : xs[i]? = some x) (hr : x ≤ hx) : inR y hx (xs.drop i) = (x, y) :: inR y hx (xs.drop (i + 1)) := by
 have hl := (List.getElem?_eq_some_iff.1 h).1
 have e : xs.drop i = x :: xs.drop (i + 1) := by rw [List.drop_eq_getElem_cons hl]; congr 1; exact (List.getElem?_eq_some_iff.1 h).2
 unfold inR
 rw [e, List.takeWhile_cons, if_pos (by simpa using hr)]
 rfl
theorem inR_nil {y hx : Int} {xs : List Int} {i : Nat} (h : xs.length ≤ i) : inR y hx (xs.drop i) = [] := by rw [List.drop_of_length_le h]; rfl
end Go.Wd
namespace Go.Mg
variable {α : Type}
def grpA (sm : α → α → Bool) : List α → α → List α → List (List α)
 | cur, _, [] => [cur]
 | cur, x, y :: t => if sm x y then grpA sm (cur ++ [y]) y t else cur :: grpA sm [y] y t
def grpB (sm : α → α → Bool) : List α → List (List α)
 | [] => []
 | x :: t => grpA sm [x] x t
def rsT (sm : α → α → Bool) (ps : List α) (f i : Nat) : List (List α) :=
 if i ≤ ps.length then (match ps[i-1]? with | some x => grpA sm ((ps.take i).drop f) x (ps.drop i) | none => []) else []
theorem rsT_start (sm : α → α → Bool) (ps : List α) : rsT sm ps 0 1 = grpB sm ps := by
 cases ps with
 | nil => unfold rsT; simp [grpB]
 | cons x t => unfold rsT; simp [grpB]
theorem rsT_done (sm : α → α → Bool) (ps : List α) (f i : Nat) (h : ps.length < i) : rsT sm ps f i = [] := by unfold rsT; rw [if_neg (by omega)]
theorem rsT_last (sm : α → α → Bool) (ps : List α) (f : Nat) (h : 0 < ps.length) : rsT sm ps f ps.length = [(ps.take ps.length).drop f] := by
 unfold rsT
 rw [if_pos (Nat.le_refl _), List.getElem?_eq_getElem (show ps.length - 1 < ps.length by omega), List.drop_length]
 rfl
theorem drop_cons_at {ps : List α} {i : Nat} {y : α} (h : ps[i]? = some y) : ps.drop i = y :: ps.drop (i + 1) := by
 have hl := (List.getElem?_eq_some_iff.1 h).1
 rw [List.drop_eq_getElem_cons hl]; congr 1; exact (List.getElem?_eq_some_iff.1 h).2
theorem take_snoc_at {ps : List α} {i : Nat} {y : α} (h : ps[i]? = some y) : ps.take (i + 1) = ps.take i ++ [y] := by rw [List.take_add_one, h]; rfl
theorem rsT_same {sm : α → α → Bool} {ps : List α} {f i : Nat} {x y : α} (h1 : 1 ≤ i) (hx : ps[i-1]? = some x) (hy : ps[i]? = some y) (hs : sm x y = true) (hf : f ≤ i) : rsT sm ps f i = rsT sm ps f (i + 1) := by
 have hl := (List.getElem?_eq_some_iff.1 hy).1
 unfold rsT
 rw [if_pos (by omega), if_pos (by omega), hx, Nat.add_sub_cancel, hy, drop_cons_at hy]
 simp only [grpA, hs, if_true]
 rw [take_snoc_at hy, List.drop_append_of_le_length (by rw [List.length_take]; omega)]
theorem rsT_cut {sm : α → α → Bool} {ps : List α} {f i : Nat} {x y : α} (h1 : 1 ≤ i) (hx : ps[i-1]? = some x) (hy : ps[i]? = some y) (hs : sm x y = false) : rsT sm ps f i = (ps.take i).drop f :: rsT sm ps i (i + 1) := by
 have hl := (List.getElem?_eq_some_iff.1 hy).1
 unfold rsT
 rw [if_pos (by omega), if_pos (by omega), hx, Nat.add_sub_cancel, hy, drop_cons_at hy]
 have e : (ps.take (i + 1)).drop i = [y] := by
  rw [take_snoc_at hy, List.drop_append, List.drop_of_length_le (by rw [List.length_take]; omega), List.length_take, show i - min i ps.length = 0 by omega]; rfl
 simp only [grpA, hs]
 rw [e]
 rfl
theorem grpA_flat (sm : α → α → Bool) : ∀ (cur : List α) (x : α) (t : List α), (grpA sm cur x t).flatten = cur ++ t
 | cur, x, [] => by simp [grpA]
 | cur, x, y :: t => by
  rw [grpA]
  split
  ·rw [grpA_flat sm]; simp
  ·rw [List.flatten_cons, grpA_flat sm]; simp
theorem grpB_flat (sm : α → α → Bool) (ps : List α) : (grpB sm ps).flatten = ps := by
 cases ps with
 | nil => rfl
 | cons x t => rw [grpB, grpA_flat]; rfl
theorem grpA_ne (sm : α → α → Bool) : ∀ (cur : List α) (x : α) (t : List α), cur ≠ [] → ∀ g ∈ grpA sm cur x t, g ≠ []
 | cur, x, [], hc, g, hg => by simp [grpA] at hg; subst hg; exact hc
 | cur, x, y :: t, hc, g, hg => by
  rw [grpA] at hg
  split at hg
  ·exact grpA_ne sm _ y t (by simp) g hg
  ·rcases List.mem_cons.1 hg with rfl | h
   ·exact hc
   ·exact grpA_ne sm _ y t (by simp) g h
theorem grpB_ne (sm : α → α → Bool) (ps : List α) : ∀ g ∈ grpB sm ps, g ≠ [] := by
 cases ps with
 | nil => intro g hg; cases hg
 | cons x t => exact grpA_ne sm [x] x t (by simp)
theorem grpA_len (sm : α → α → Bool) : ∀ (cur : List α) (x : α) (t : List α), (grpA sm cur x t).length ≤ t.length + 1
 | cur, x, [] => by simp [grpA]
 | cur, x, y :: t => by
  rw [grpA]
  split
  ·have := grpA_len sm (cur ++ [y]) y t; simp only [List.length_cons]; omega
  ·have := grpA_len sm [y] y t; simp only [List.length_cons]; omega
theorem grpB_len (sm : α → α → Bool) (ps : List α) : (grpB sm ps).length ≤ ps.length := by
 cases ps with
 | nil => simp [grpB]
 | cons x t => exact grpA_len sm [x] x t
end Go.Mg
namespace Go.Mg
variable {α : Type}
def mgX (le : α → α → Bool) (x : α) (rest : List α → List α) (xa : List α) : List α → List α
 | [] => xa
 | y :: b => if le x y then x :: rest (y :: b) else y :: mgX le x rest xa b
def mgB (le : α → α → Bool) : List α → List α → List α
 | [], b => b
 | x :: a, b => mgX le x (mgB le a) (x :: a) b
theorem mgB_nil (le : α → α → Bool) (b : List α) : mgB le [] b = b := rfl
theorem mgB_nil_right (le : α → α → Bool) (a : List α) : mgB le a [] = a := by cases a <;> rfl
theorem mgB_cons (le : α → α → Bool) (x y : α) (a b : List α) : mgB le (x :: a) (y :: b) = if le x y then x :: mgB le a (y :: b) else y :: mgB le (x :: a) b := rfl
theorem mgB_perm (le : α → α → Bool) : ∀ a b : List α, List.Perm (mgB le a b) (a ++ b)
 | [], b => by rw [mgB_nil]; exact List.Perm.refl _
 | x :: a, [] => by rw [mgB_nil_right, List.append_nil]
 | x :: a, y :: b => by
  rw [mgB_cons]
  split
  ·exact (mgB_perm le a (y :: b)).cons x
  ·exact ((mgB_perm le (x :: a) b).cons y).trans List.perm_middle.symm
theorem mgB_len (le : α → α → Bool) (a b : List α) : (mgB le a b).length = a.length + b.length := by rw [(mgB_perm le a b).length_eq, List.length_append]
theorem mgB_mem {le : α → α → Bool} {a b : List α} {x : α} : x ∈ mgB le a b ↔ x ∈ a ∨ x ∈ b := by rw [(mgB_perm le a b).mem_iff, List.mem_append]
def passB (le : α → α → Bool) (k : Nat) : Nat → List α → List α
 | 0, _ => []
 | f + 1, l => if l.isEmpty then [] else mgB le (l.take k) ((l.drop k).take k) ++ passB le k f (l.drop (2 * k))
theorem passB_nil (le : α → α → Bool) (k f : Nat) : passB le k f [] = [] := by cases f <;> rfl
theorem passB_step (le : α → α → Bool) (k f : Nat) {l : List α} (h : l ≠ []) : passB le k (f + 1) l = mgB le (l.take k) ((l.drop k).take k) ++ passB le k f (l.drop (2 * k)) := by
 rw [passB, if_neg (by simpa using h)]
theorem passB_perm (le : α → α → Bool) (k : Nat) (hk : 0 < k) : ∀ (f : Nat) (l : List α), l.length ≤ f → List.Perm (passB le k f l) l
 | 0, l, h => by rw [List.eq_nil_of_length_eq_zero (Nat.le_zero.1 h)]; exact List.Perm.refl _
 | f + 1, l, h => by
  by_cases hl : l = []
  ·subst hl; rw [passB_nil]
  ·have hp := List.length_pos_iff.2 hl
   rw [passB_step le k f hl]
   have h1 := mgB_perm le (l.take k) ((l.drop k).take k)
   have h2 := passB_perm le k hk f (l.drop (2 * k)) (by rw [List.length_drop]; omega)
   refine (h1.append h2).trans ?_
   rw [show l.drop (2 * k) = (l.drop k).drop k by rw [List.drop_drop]; congr 1; omega, List.append_assoc, List.take_append_drop, List.take_append_drop]
def sortG (le : α → α → Bool) : Nat → Nat → List α → List α
 | 0, _, l => l
 | f + 1, k, l => if k < l.length then sortG le f (2 * k) (passB le k l.length l) else l
def sortB (le : α → α → Bool) (l : List α) : List α := sortG le l.length 1 l
theorem sortG_perm (le : α → α → Bool) : ∀ (f k : Nat) (l : List α), 0 < k → List.Perm (sortG le f k l) l
 | 0, k, l, hk => List.Perm.refl _
 | f + 1, k, l, hk => by
  rw [sortG]
  split
  ·exact (sortG_perm le f (2 * k) _ (by omega)).trans (passB_perm le k hk _ l (Nat.le_refl _))
  ·exact List.Perm.refl _
theorem sortB_perm (le : α → α → Bool) (l : List α) : List.Perm (sortB le l) l := sortG_perm le _ _ _ (by omega)
theorem sortB_len (le : α → α → Bool) (l : List α) : (sortB le l).length = l.length := (sortB_perm le l).length_eq
end Go.Mg
namespace Go.Wd
def orZ (x y : Int) : Int := if x = 0 then y else x
def jstep (out : List (Int × Int)) (p : Int × Int) : List (Int × Int) := match out.getLast? with | some q => if q == p then out else out ++ [p] | none => out ++ [p]
def joinB (l : List (Int × Int)) : List (Int × Int) := l.foldl jstep []
theorem joinB_snoc (l : List (Int × Int)) (p : Int × Int) : joinB (l ++ [p]) = jstep (joinB l) p := by unfold joinB; rw [List.foldl_append]; rfl
theorem jstep_len (out : List (Int × Int)) (p : Int × Int) : (jstep out p).length ≤ out.length + 1 := by unfold jstep; split <;> (try split) <;> simp
theorem foldl_jstep_len : ∀ (l out : List (Int × Int)), (l.foldl jstep out).length ≤ out.length + l.length
 | [], out => by simp
 | p :: t, out => by have h1 := foldl_jstep_len t (jstep out p); have h2 := jstep_len out p; simp only [List.foldl_cons, List.length_cons]; omega
theorem joinB_len (l : List (Int × Int)) : (joinB l).length ≤ l.length := by have := foldl_jstep_len l []; simpa [joinB] using this
end Go.Wd
namespace Go.Proofs.YtlkhneiccjhgdaaGreat
open Go.Wd Go.Mg
def onceB (ord : (Int × Int) → (Int × Int) → Int) (ps : List (Int × Int)) : List (Int × Int) := (grpB (fun p q => ord p q == 0) (sortB (fun x y => !decide (ord y x < 0)) ps)).map (fun g => g.headD (0, 0))
def ptO (p q : Int × Int) : Int := orZ (cmpI p.1 q.1) (cmpI p.2 q.2)
def rowO (p q : Int × Int) : Int := orZ (cmpI p.2 q.2) (cmpI p.1 q.1)
def setC (ps : List (Int × Int)) : List (Int × Int) := onceB ptO ps
def setG (ps : List (Int × Int)) : List (List (Int × Int)) := grpB (fun p q => p.2 == q.2) (sortB (fun x y => !decide (rowO y x < 0)) (setC ps))
def rowOf (g : List (Int × Int)) : Int × List Int := ((g.headD (0, 0)).2, g.map (·.1))
def setR (ps : List (Int × Int)) : List (Int × List Int) := (setG ps).map rowOf
def metOf (a b c d size : Int) (p : Int × Int) : Option ((Int × Int) × Stz) := (cutZ a b c d p.1 p.2 size).map fun s => (p, s)
def metsB (a b c d size : Int) (l : List (Int × Int)) : List ((Int × Int) × Stz) := l.filterMap (metOf a b c d size)
def nearS (a b c d size : Int) (rows : List (Int × List Int)) : List (Int × Int) := nearB rows (min (cellZ a 1 size) (cellZ c 1 size)) (min (cellZ b 1 size) (cellZ d 1 size)) (max (cellZ a 1 size) (cellZ c 1 size)) (max (cellZ b 1 size) (cellZ d 1 size))
def ofB (a b c d size : Int) (rows : List (Int × List Int)) : List (Int × Int) := (sortB (fun x y : (Int × Int) × Stz => !decide (aheadZ y.2 x.2 < 0)) (metsB a b c d size (nearS a b c d size rows))).map (·.1)
end Go.Proofs.YtlkhneiccjhgdaaGreat
