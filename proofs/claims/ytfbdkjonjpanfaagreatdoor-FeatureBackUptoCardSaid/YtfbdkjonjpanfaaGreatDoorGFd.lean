/- Plain laws on features: the points, lines and rings of geometries; a way's segments. No program in sight. -/
import Derived.Test.YtfbdkjonjpanfaaGreatDoorGFn
import Derived.Test.YtfbdkjonjpanfaaGreatDoorGFb
import Derived.Test.YtfbdkjonjpanfaaGreatDoorUpd
import Derived.Test.YtfbdkjonjpanfaaGreatDoorWktG
import Derived.Deep.RegionHeld
import Derived.Test.YtfbdkjonjpanfaaGreatDoorHeld
import Derived.Test.YtfbdkjonjpanfaaGreatDoorApp
import Derived.BigQuiet

set_option linter.unusedVariables false
set_option linter.unusedSimpArgs false
namespace Go.Proofs.YtfbdkjonjpanfaaGreatDoor
open Go.RowKit Go.Rg

namespace Ft
abbrev Pt := Int × Int
/-- a feature -/
structure Fe where
  pts : List Pt
  lines : List (List Pt)
  rings : List (List Pt)
def Fe.no : Fe := ⟨[], [], []⟩
/-- the cells of points -/
def flat (l : List Pt) : List Value := l.flatMap fun p => [.int .i64 p.1, .int .i64 p.2]
theorem flat_len (l : List Pt) : (flat l).length = l.length * 2 := by
  induction l with
  | nil => rfl
  | cons p l ih => unfold flat at *; rw [List.flatMap_cons, List.length_append, ih, List.length_cons]; simp; omega
theorem flat_append (l m : List Pt) : flat (l ++ m) = flat l ++ flat m := by unfold flat; rw [List.flatMap_append]
theorem flat_snoc (l : List Pt) (p : Pt) : flat (l ++ [p]) = flat l ++ [.int .i64 p.1, .int .i64 p.2] := by rw [flat_append]; rfl
theorem flat_at {l : List Pt} {t : Nat} {p : Pt} (h : l[t]? = some p) : (flat l)[t * 2]? = some (.int .i64 p.1) ∧ (flat l)[t * 2 + 1]? = some (.int .i64 p.2) := by
  induction l generalizing t with
  | nil => cases h
  | cons c l ih =>
    cases t with
    | zero => simp at h; subst h; exact ⟨rfl, rfl⟩
    | succ t =>
      have := ih (t := t) (by simpa using h)
      have e : ∀ i, (flat (c :: l))[i + 2]? = (flat l)[i]? := fun i => rfl
      rw [show (t + 1) * 2 = t * 2 + 2 from by omega, show t * 2 + 2 + 1 = t * 2 + 1 + 2 from rfl, e, e]
      exact this
theorem flat_one (l : List Pt) : ∀ u ∈ flat l, u.oneCell' = true := by
  intro u hu
  unfold flat at hu
  rw [List.mem_flatMap] at hu
  obtain ⟨p, _, hp⟩ := hu
  simp only [List.mem_cons, List.not_mem_nil, or_false] at hp
  rcases hp with rfl | rfl <;> rfl

/-! ### Geometries, scaled -/
def one (fine : Int) (p : Wk.Pr) : Pt := ((Dc.scaleP p.1 fine).1, (Dc.scaleP p.2 fine).1)
def scl (fine : Int) (l : List Wk.Pr) : List Pt := l.map (one fine)
def err (e : Int) (fine : Int) (p : Wk.Pr) : Bool := (Dc.scaleP p.1 fine).2 == e || (Dc.scaleP p.2 fine).2 == e
def errs (e : Int) (fine : Int) (l : List Wk.Pr) : Bool := l.any (err e fine)
theorem scl_take (fine : Int) (l : List Wk.Pr) (k : Nat) (p : Wk.Pr) (h : l[k]? = some p) : scl fine (l.take (k + 1)) = scl fine (l.take k) ++ [one fine p] := by
  unfold scl; rw [List.take_add_one, h, List.map_append]; rfl
theorem errs_take (e fine : Int) (l : List Wk.Pr) (k : Nat) (p : Wk.Pr) (h : l[k]? = some p) : errs e fine (l.take (k + 1)) = (errs e fine (l.take k) || err e fine p) := by
  unfold errs; rw [List.take_add_one, h, List.any_append]; simp
theorem scl_len (fine : Int) (l : List Wk.Pr) : (scl fine l).length = l.length := by unfold scl; rw [List.length_map]

def addL (kind : Int) (f : Fe) (l : List Pt) : Fe :=
  if l = [] then f else if kind = 1 ∨ kind = 4 then { f with pts := f.pts ++ l } else if kind = 2 ∨ kind = 5 then { f with lines := f.lines ++ [l] } else { f with rings := f.rings ++ [l] }
def addG (fine : Int) (kind : Int) (f : Fe) (ls : List (List Wk.Pr)) : Fe := ls.foldl (fun f l => addL kind f (scl fine l)) f
theorem addG_take (fine kind : Int) (f : Fe) (ls : List (List Wk.Pr)) (k : Nat) (l : List Wk.Pr) (h : ls[k]? = some l) : addG fine kind f (ls.take (k + 1)) = addL kind (addG fine kind f (ls.take k)) (scl fine l) := by
  unfold addG; rw [List.take_add_one, h, List.foldl_append]; rfl
def errL (e fine : Int) (ls : List (List Wk.Pr)) : Bool := ls.any (errs e fine)
theorem errL_take (e fine : Int) (ls : List (List Wk.Pr)) (k : Nat) (l : List Wk.Pr) (h : ls[k]? = some l) : errL e fine (ls.take (k + 1)) = (errL e fine (ls.take k) || errs e fine l) := by
  unfold errL; rw [List.take_add_one, h, List.any_append]; simp

/-- the features so far: those that are done, and the last one -/
abbrev Acc := List Fe × Fe
/-- the next geometry: none begins where the first one is a collection -/
def next (fine : Int) (i : Nat) (a : Option Acc) (g : GA) : Option Acc :=
  if i = 0 ∧ g.kind = 7 then a
  else if g.level ≤ 1 then some (match a with | .none => ([], addG fine g.kind .no g.lists) | .some (d, f) => (d ++ [f], addG fine g.kind .no g.lists))
  else a.map fun (d, f) => (d, addG fine g.kind f g.lists)
def accN (fine : Int) : List GA → Nat → Option Acc
  | _, 0 => .none
  | l, k + 1 => match l[k]? with | .none => accN fine l k | .some g => next fine k (accN fine l k) g
def outs (a : Option Acc) : List Fe := match a with | .none => [] | .some (d, f) => d ++ [f]
/-- the features of right geometries -/
def from_ (fine : Int) (l : List GA) : List Fe := outs (accN fine l l.length)
def errG (e fine : Int) (l : List GA) (k : Nat) : Bool := (l.take k).any fun g => !(g.kind == 7) && errL e fine g.lists
theorem accN_succ (fine : Int) (l : List GA) (k : Nat) (g : GA) (h : l[k]? = some g) : accN fine l (k + 1) = next fine k (accN fine l k) g := by
  rw [accN, h]

/-- where the last feature is not begun there is none to be added to -/
theorem begun (fine : Int) (l : List GA) (hr : Wk.RightA l) (k : Nat) (g : GA) (h : l[k]? = some g) (hl : ¬ g.level ≤ 1) (h0 : ¬ (k = 0 ∧ g.kind = 7)) : ∃ a, accN fine l k = some a := by
  have hall := hr.2
  have hk : k < l.length := (List.getElem?_eq_some_iff.1 h).1
  have key : ∀ i, 1 ≤ i → i < l.length → (∃ a, accN fine l i = some a) ∨ (i = 1 ∧ ∃ g0, l[0]? = some g0 ∧ g0.kind = 7) := by
    intro i
    induction i with
    | zero => intro h; omega
    | succ i ih =>
      intro _ hi
      obtain ⟨gi, hgi⟩ : ∃ g, l[i]? = some g := ⟨_, List.getElem?_eq_getElem (by omega)⟩
      rw [accN_succ fine l i gi hgi]
      unfold next
      by_cases h1 : i = 0 ∧ gi.kind = 7
      · obtain ⟨rfl, h7⟩ := h1
        exact .inr ⟨rfl, gi, hgi, h7⟩
      · rw [if_neg h1]
        left
        by_cases h2 : gi.level ≤ 1
        · rw [if_pos h2]; exact ⟨_, rfl⟩
        · rw [if_neg h2]
          by_cases hi0 : i = 0
          · subst hi0
            have := hall 0 (by omega)
            unfold Wk.okAt Wk.prevA at this
            rw [hgi, if_pos rfl] at this
            simp [Wk.okA, Wk.levA] at this
            omega
          · rcases ih (by omega) (by omega) with ⟨a, ha⟩ | ⟨rfl, g0, hg0, h7⟩
            · rw [ha]; exact ⟨_, rfl⟩
            · exfalso
              have q0 := hall 0 (by omega)
              have q1 := hall 1 (by omega)
              unfold Wk.okAt Wk.prevA at q0 q1
              rw [hg0, if_pos rfl] at q0
              rw [hgi, if_neg (by decide), hg0] at q1
              simp [Wk.okA, Wk.levA, Wk.mostA, h7] at q0 q1
              omega
  by_cases hk0 : k = 0
  · subst hk0
    exfalso
    have := hall 0 hk
    unfold Wk.okAt Wk.prevA at this
    rw [h, if_pos rfl] at this
    simp [Wk.okA, Wk.levA] at this
    omega
  · rcases key k (by omega) hk with h1 | ⟨rfl, g0, hg0, h7⟩
    · exact h1
    · exfalso
      have q0 := hall 0 (by omega)
      have q1 := hall 1 hk
      unfold Wk.okAt Wk.prevA at q0 q1
      rw [hg0, if_pos rfl] at q0
      rw [h, if_neg (by decide), hg0] at q1
      simp [Wk.okA, Wk.levA, Wk.mostA, h7] at q0 q1
      omega

/-! ### Ways -/
/-- the segments of a list of points, as the document has them -/
def way (l : List Pt) (ring : Bool) : List (Nat × Nat) :=
  if l.length = 1 then [(0, 0)] else (List.range (l.length - 1)).map (fun i => (i, i + 1)) ++ (if ring ∧ 1 < l.length ∧ l.head? ≠ l.getLast? then [(l.length - 1, 0)] else [])
def segs (f : Fe) : List (Pt × Pt) := (f.lines.map fun l => (way l false).map fun z => (l.getD z.1 (0, 0), l.getD z.2 (0, 0))).flatten ++ (f.rings.map fun l => (way l true).map fun z => (l.getD z.1 (0, 0), l.getD z.2 (0, 0))).flatten
def count (f : Fe) : Nat := f.pts.length + (f.lines.map List.length).sum + (f.rings.map List.length).sum
end Ft
end Go.Proofs.YtfbdkjonjpanfaaGreatDoor

set_option linter.unusedVariables false
set_option linter.unusedSimpArgs false
namespace Go.Rg
open Go Go.RowKit
theorem RdT.block_lt {T : TypeId} {w : World} {v : Value} {n : Nat} {xs : List Value} (h : RdT T w v n xs) {g : Nat} (hg : v.ownBlock = some g) : g < w.heap.size := by
  rcases h with ⟨rfl, _⟩ | ⟨g', off, cap, cs, fz, rfl, h2, _⟩
  · cases hg
  · cases hg; exact (Array.getElem?_eq_some_iff.1 h2).1
theorem RdT.at_block {T : TypeId} {w w' : World} {v : Value} {n : Nat} {xs : List Value} (h : RdT T w v n xs) (hs : ∀ g, v.ownBlock = some g → w'.heap[g]? = w.heap[g]?) : RdT T w' v n xs := by
  rcases h with h | ⟨g, off, cap, cs, fz, rfl, h2, h3⟩
  · exact .inl h
  · exact .inr ⟨g, off, cap, cs, fz, rfl, (hs g rfl).trans h2, h3⟩
theorem RdT.grown_ne {T : TypeId} {w w' : World} {v : Value} {n : Nat} {xs : List Value} {row : Option Nat} (h : RdT T w v n xs) (hg : w.grownBy w' row) (hne : ∀ g, v.ownBlock = some g → row ≠ some g) : RdT T w' v n xs :=
  h.at_block fun g e => hg.block g (h.block_lt e) (fun e2 => hne g e e2.symm)
theorem own_at {w w' : World} {base e size n : Nat} {v : Value} {xs : List Value} (h : w.ownsRow base e size v n xs) (hs : ∀ g, v.ownBlock = some g → w'.heap[g]? = w.heap[g]?) : w'.ownsRow base e size v n xs := by
  refine ⟨h.1, ?_⟩
  rcases h.2 with h2 | ⟨g, cap, cur, rfl, hb, hg, r⟩
  · exact .inl h2
  · exact .inr ⟨g, cap, cur, rfl, hb, (hs g rfl).trans hg, r⟩
theorem own_grown_ne {w w' : World} {base e size n : Nat} {v : Value} {xs : List Value} {row : Option Nat} (h : w.ownsRow base e size v n xs) (hg : w.grownBy w' row) (hne : ∀ g, v.ownBlock = some g → row ≠ some g) : w'.ownsRow base e size v n xs :=
  own_at h fun g e => hg.block g (h.lt g e).2 (fun e2 => hne g e e2.symm)
/-- a cell of a slice of the call's own is set -/
theorem own_setN {w : World} {base e size g n cap : Nat} {xs : List Value} (h : w.ownsRow base e size (.slice (some ⟨g, 0, none⟩) n cap) n xs) (j : Nat) (u : Value) : (w.setCell ⟨g, j, none⟩ u).ownsRow base e size (.slice (some ⟨g, 0, none⟩) n cap) n (xs.set j u) := by
  obtain ⟨hl, h⟩ := h
  refine ⟨by simpa using hl, ?_⟩
  rcases h with ⟨h, _⟩ | ⟨g', cap', cur, hv, hb, hg, hn, hc, hs, ht⟩
  · cases h
  · cases hv
    refine .inr ⟨g, cap, cur.setIfInBounds j u, rfl, hb, ?_, hn, hc, by simpa using hs, ?_⟩
    · simp only [World.setCell]
      rw [Array.getElem?_modify, if_pos rfl, hg]
      rfl
    · rw [← ht, Array.toList_setIfInBounds, List.take_set]
theorem own_type {w : World} {base e size g n cap : Nat} {xs : List Value} (h : w.ownsRow base e size (.slice (some ⟨g, 0, none⟩) n cap) n xs) : ∃ cur, w.heap[g]? = some (.cells cur e (0, 0)) := by
  rcases h.2 with ⟨h, _⟩ | ⟨g', cap', cur, hv, hb, hg, _⟩
  · cases h
  · cases hv; exact ⟨cur, hg⟩
end Go.Rg
namespace Go.Proofs.YtfbdkjonjpanfaaGreatDoor
open Go.RowKit Go.Rg Ft

/-- the type of a point, of a slice of points -/
abbrev tP : TypeId := 47
abbrev tL : TypeId := 34
abbrev tF : TypeId := 37

/-- lists of points, as they read -/
def Els (w : World) (vs : List Value) (ls : List (List Pt)) : Prop := ∀ (i : Nat) (l : List Pt), ls[i]? = some l → ∃ u, vs[i]? = some u ∧ RdT tP w u l.length (flat l)
def Lists (w : World) (v : Value) (ls : List (List Pt)) : Prop := ∃ vs, vs.length = ls.length ∧ RdT tL w v ls.length vs ∧ Els w vs ls
/-- a feature, as it reads -/
def FeT (w : World) (pv lv rv : Value) (f : Fe) : Prop := RdT tP w pv f.pts.length (flat f.pts) ∧ Lists w lv f.lines ∧ Lists w rv f.rings
/-- the same, its blocks below one -/
def ElsB (w : World) (B : Nat) (vs : List Value) (ls : List (List Pt)) : Prop := ∀ (i : Nat) (l : List Pt), ls[i]? = some l → ∃ u, vs[i]? = some u ∧ RdT tP w u l.length (flat l) ∧ ∀ g, u.ownBlock = some g → g < B
def ListsB (w : World) (B : Nat) (v : Value) (ls : List (List Pt)) : Prop := ∃ vs, vs.length = ls.length ∧ RdT tL w v ls.length vs ∧ (∀ g, v.ownBlock = some g → g < B) ∧ ElsB w B vs ls
def FeB (w : World) (B : Nat) (pv lv rv : Value) (f : Fe) : Prop := (RdT tP w pv f.pts.length (flat f.pts) ∧ ∀ g, pv.ownBlock = some g → g < B) ∧ ListsB w B lv f.lines ∧ ListsB w B rv f.rings
/-- blocks of points, and of slices of points, below one stay -/
def KeepB (B : Nat) (w w' : World) : Prop := ∀ (g : Nat) (cs : Array Value) (T : TypeId) (fz : Nat × Nat), g < B → (T = tP ∨ T = tL) → w.heap[g]? = some (.cells cs T fz) → w'.heap[g]? = some (.cells cs T fz)

theorem KeepB.refl (B : Nat) (w : World) : KeepB B w w := fun _ _ _ _ _ _ h => h
theorem KeepB.trans {B : Nat} {a b c : World} (h : KeepB B a b) (k : KeepB B b c) : KeepB B a c := fun g cs T fz hg hT x => k g cs T fz hg hT (h g cs T fz hg hT x)
theorem KeepB.mono {B B' : Nat} {a b : World} (h : KeepB B a b) (hb : B' ≤ B) : KeepB B' a b := fun g cs T fz hg hT x => h g cs T fz (by omega) hT x
theorem KeepB.of {B : Nat} {a b : World} (h1 : KeepT tP a b) (h2 : KeepT tL a b) : KeepB B a b := fun g cs T fz _ hT x => by
  rcases hT with rfl | rfl
  · exact h1 _ _ _ x
  · exact h2 _ _ _ x
theorem KeepB.call {B : Nat} {a b : World} (h : Below a.heap.size a b) : KeepB B a b := .of (.call h) (.call h)
theorem KeepB.grown {B : Nat} {a b : World} {row : Option Nat} (h : a.grownBy b row) (hr : ∀ g, row = some g → B ≤ g) : KeepB B a b := fun g cs T fz hg _ x =>
  (h.block g (Array.getElem?_eq_some_iff.1 x).1 (fun e => by have := hr g e.symm; omega)).trans x
theorem RdT.keepB {T : TypeId} {B : Nat} {a b : World} {v : Value} {n : Nat} {xs : List Value} (h : RdT T a v n xs) (hT : T = tP ∨ T = tL) (hB : ∀ g, v.ownBlock = some g → g < B) (k : KeepB B a b) : RdT T b v n xs := by
  rcases h with h | ⟨g, off, cap, cs, fz, rfl, h2, h3⟩
  · exact .inl h
  · exact .inr ⟨g, off, cap, cs, fz, rfl, k g cs T fz (hB g rfl) hT h2, h3⟩
theorem ListsB.keep {B : Nat} {a b : World} {v : Value} {ls : List (List Pt)} (h : ListsB a B v ls) (k : KeepB B a b) : ListsB b B v ls := by
  obtain ⟨vs, h1, h2, h3, h4⟩ := h
  refine ⟨vs, h1, RdT.keepB h2 (.inr rfl) h3 k, h3, fun i l hl => ?_⟩
  obtain ⟨u, h5, h6, h7⟩ := h4 i l hl
  exact ⟨u, h5, RdT.keepB h6 (.inl rfl) h7 k, h7⟩
theorem FeB.keep {B : Nat} {a b : World} {pv lv rv : Value} {f : Fe} (h : FeB a B pv lv rv f) (k : KeepB B a b) : FeB b B pv lv rv f := ⟨⟨RdT.keepB h.1.1 (.inl rfl) h.1.2 k, h.1.2⟩, h.2.1.keep k, h.2.2.keep k⟩
theorem ListsB.mono {B B' : Nat} {a : World} {v : Value} {ls : List (List Pt)} (h : ListsB a B v ls) (hB : B ≤ B') : ListsB a B' v ls := by
  obtain ⟨vs, h1, h2, h3, h4⟩ := h
  refine ⟨vs, h1, h2, fun g e => Nat.lt_of_lt_of_le (h3 g e) hB, fun i l hl => ?_⟩
  obtain ⟨u, h5, h6, h7⟩ := h4 i l hl
  exact ⟨u, h5, h6, fun g e => Nat.lt_of_lt_of_le (h7 g e) hB⟩
theorem FeB.mono {B B' : Nat} {a : World} {pv lv rv : Value} {f : Fe} (h : FeB a B pv lv rv f) (hB : B ≤ B') : FeB a B' pv lv rv f := ⟨⟨h.1.1, fun g e => Nat.lt_of_lt_of_le (h.1.2 g e) hB⟩, h.2.1.mono hB, h.2.2.mono hB⟩
theorem FeB.feT {B : Nat} {a : World} {pv lv rv : Value} {f : Fe} (h : FeB a B pv lv rv f) : FeT a pv lv rv f := by
  have e : ∀ {v : Value} {ls : List (List Pt)}, ListsB a B v ls → Lists a v ls := by
    rintro v ls ⟨vs, h1, h2, _, h4⟩
    exact ⟨vs, h1, h2, fun i l hl => by obtain ⟨u, h5, h6, _⟩ := h4 i l hl; exact ⟨u, h5, h6⟩⟩
  exact ⟨h.1.1, e h.2.1, e h.2.2⟩
theorem Lists.keep {a b : World} {v : Value} {ls : List (List Pt)} (h : Lists a v ls) (h1 : KeepT tP a b) (h2 : KeepT tL a b) : Lists b v ls := by
  obtain ⟨vs, q1, q2, q3⟩ := h
  exact ⟨vs, q1, q2.keep h2, fun i l hl => by obtain ⟨u, h5, h6⟩ := q3 i l hl; exact ⟨u, h5, h6.keep h1⟩⟩
theorem FeT.keep {a b : World} {pv lv rv : Value} {f : Fe} (h : FeT a pv lv rv f) (h1 : KeepT tP a b) (h2 : KeepT tL a b) : FeT b pv lv rv f := ⟨h.1.keep h1, h.2.1.keep h1 h2, h.2.2.keep h1 h2⟩

/-- THE LAST FEATURE, which grows: its slices are the call's own, from block B on -/
structure Last (w : World) (B : Nat) (pv lv rv : Value) (f : Fe) (vs us : List Value) : Prop where
  op : w.ownsRow B tP 2 pv f.pts.length (flat f.pts)
  ol : w.ownsRow B tL 1 lv f.lines.length vs
  or : w.ownsRow B tL 1 rv f.rings.length us
  lr : ∀ g, lv.ownBlock = some g → rv.ownBlock ≠ some g
  el : ∀ (i : Nat) (l : List Pt), f.lines[i]? = some l → ∃ u, vs[i]? = some u ∧ RdT tP w u l.length (flat l) ∧ ∀ g, u.ownBlock = some g → pv.ownBlock ≠ some g
  er : ∀ (i : Nat) (l : List Pt), f.rings[i]? = some l → ∃ u, us[i]? = some u ∧ RdT tP w u l.length (flat l) ∧ ∀ g, u.ownBlock = some g → pv.ownBlock ≠ some g

theorem Last.none (w : World) (B : Nat) : Last w B (.slice none 0 0) (.slice none 0 0) (.slice none 0 0) .no [] [] :=
  ⟨World.ownsRow_nil _ _ _ _, World.ownsRow_nil _ _ _ _, World.ownsRow_nil _ _ _ _, (fun g e => by cases e), (fun i l h => by cases h), (fun i l h => by cases h)⟩
section
variable {w w' : World} {B : Nat} {pv lv rv : Value} {f : Fe} {vs us : List Value}
theorem Last.keep (h : Last w B pv lv rv f vs us) (h1 : KeepT tP w w') (h2 : KeepT tL w w') : Last w' B pv lv rv f vs us :=
  ⟨own_keep h.op h1, own_keep h.ol h2, own_keep h.or h2, h.lr,
    (fun i l hl => by obtain ⟨u, a, b, c⟩ := h.el i l hl; exact ⟨u, a, b.keep h1, c⟩), (fun i l hl => by obtain ⟨u, a, b, c⟩ := h.er i l hl; exact ⟨u, a, b.keep h1, c⟩)⟩
theorem Last.call (h : Last w B pv lv rv f vs us) (hb : Below w.heap.size w w') : Last w' B pv lv rv f vs us := h.keep (.call hb) (.call hb)
theorem moves_ne {v v' u : Value} (hm : Moves w v v') (hlt : ∀ g, u.ownBlock = some g → g < w.heap.size) (hne : ∀ g, u.ownBlock = some g → v.ownBlock ≠ some g) : ∀ g, u.ownBlock = some g → v'.ownBlock ≠ some g := by
  intro g hg e
  rcases hm with hm | ⟨g', hm, hs⟩
  · exact hne g hg (hm ▸ e)
  · rw [hm] at e; cases e
    have := hlt g hg; omega
/-- points are put to its points -/
theorem Last.addP (h : Last w B pv lv rv f vs us) {l : List Pt} {v' : Value} (ho : w'.ownsRow B tP 2 v' (f.pts.length + l.length) (flat f.pts ++ flat l)) (hg : w.grownBy w' pv.ownBlock) (hm : Moves w pv v') : Last w' B v' lv rv { f with pts := f.pts ++ l } vs us := by
  have hk : KeepT tL w w' := KeepT.grown h.op (by decide) hg
  refine ⟨?_, own_keep h.ol hk, own_keep h.or hk, h.lr, fun i l hl => ?_, fun i l hl => ?_⟩
  · rw [List.length_append, flat_append]; exact ho
  · obtain ⟨u, a, b, c⟩ := h.el i l hl
    exact ⟨u, a, b.grown_ne hg c, moves_ne hm (fun g e => b.block_lt e) c⟩
  · obtain ⟨u, a, b, c⟩ := h.er i l hl
    exact ⟨u, a, b.grown_ne hg c, moves_ne hm (fun g e => b.block_lt e) c⟩
theorem els_snoc {ls : List (List Pt)} {l : List Pt} {vs : List Value} {u : Value} (hv : vs.length = ls.length) (P : Value → List Pt → Prop) (h : ∀ (i : Nat) (l : List Pt), ls[i]? = some l → ∃ u, vs[i]? = some u ∧ P u l) (hu : P u l) : ∀ (i : Nat) (m : List Pt), (ls ++ [l])[i]? = some m → ∃ x, (vs ++ [u])[i]? = some x ∧ P x m := by
  intro i m hi
  rw [List.getElem?_append] at hi ⊢
  split at hi
  · rename_i hlt
    obtain ⟨x, h1, h2⟩ := h i m hi
    rw [if_pos (by omega)]
    exact ⟨x, h1, h2⟩
  · rename_i hlt
    rw [if_neg (by omega)]
    have : i - ls.length = 0 := by
      rcases Nat.eq_zero_or_pos (i - ls.length) with h | h
      · exact h
      · rw [List.getElem?_eq_none (by simp; omega)] at hi; cases hi
    rw [this] at hi
    rw [show i - vs.length = 0 from by omega]
    simp at hi
    subst hi
    exact ⟨u, rfl, hu⟩
theorem Last.lens (h : Last w B pv lv rv f vs us) : vs.length = f.lines.length ∧ us.length = f.rings.length := ⟨by have := h.ol.1; omega, by have := h.or.1; omega⟩
/-- a list of points is put to its lines -/
theorem Last.addL (h : Last w B pv lv rv f vs us) {l : List Pt} {u v' : Value} (hu : RdT tP w u l.length (flat l)) (hup : ∀ g, u.ownBlock = some g → pv.ownBlock ≠ some g) (ho : w'.ownsRow B tL 1 v' (f.lines.length + 1) (vs ++ [u])) (hg : w.grownBy w' lv.ownBlock) (hm : Moves w lv v') :
    Last w' B pv v' rv { f with lines := f.lines ++ [l] } (vs ++ [u]) us := by
  have hk : KeepT tP w w' := KeepT.grown h.ol (by decide) hg
  refine ⟨own_keep h.op hk, ?_, own_grown_ne h.or hg (fun g e e2 => h.lr g e2 e), ?_, ?_, fun i l hl => ?_⟩
  · rw [List.length_append]; exact ho
  · intro g hg' e
    exact moves_ne hm (fun g e => (h.or.lt g e).2) (fun g e e2 => h.lr g e2 e) g e hg'
  · exact els_snoc h.lens.1 (fun u l => RdT tP w' u l.length (flat l) ∧ ∀ g, u.ownBlock = some g → pv.ownBlock ≠ some g) (fun i l hl => by obtain ⟨u, a, b, c⟩ := h.el i l hl; exact ⟨u, a, b.keep hk, c⟩) ⟨hu.keep hk, hup⟩
  · obtain ⟨u, a, b, c⟩ := h.er i l hl
    exact ⟨u, a, b.keep hk, c⟩
/-- a list of points is put to its rings -/
theorem Last.addR (h : Last w B pv lv rv f vs us) {l : List Pt} {u v' : Value} (hu : RdT tP w u l.length (flat l)) (hup : ∀ g, u.ownBlock = some g → pv.ownBlock ≠ some g) (ho : w'.ownsRow B tL 1 v' (f.rings.length + 1) (us ++ [u])) (hg : w.grownBy w' rv.ownBlock) (hm : Moves w rv v') :
    Last w' B pv lv v' { f with rings := f.rings ++ [l] } vs (us ++ [u]) := by
  have hk : KeepT tP w w' := KeepT.grown h.or (by decide) hg
  refine ⟨own_keep h.op hk, own_grown_ne h.ol hg (fun g e e2 => h.lr g e e2), ?_, ?_, fun i l hl => ?_, ?_⟩
  · rw [List.length_append]; exact ho
  · intro g hg' e
    exact moves_ne hm (fun g e => (h.ol.lt g e).2) (fun g e e2 => h.lr g e e2) g hg' e
  · obtain ⟨u, a, b, c⟩ := h.el i l hl
    exact ⟨u, a, b.keep hk, c⟩
  · exact els_snoc h.lens.2 (fun u l => RdT tP w' u l.length (flat l) ∧ ∀ g, u.ownBlock = some g → pv.ownBlock ≠ some g) (fun i l hl => by obtain ⟨u, a, b, c⟩ := h.er i l hl; exact ⟨u, a, b.keep hk, c⟩) ⟨hu.keep hk, hup⟩
/-- the last one is done -/
theorem Last.done (h : Last w B pv lv rv f vs us) : FeB w w.heap.size pv lv rv f := by
  refine ⟨⟨RdT.of_own h.op, fun g e => (h.op.lt g e).2⟩, ⟨vs, h.lens.1, RdT.of_own h.ol, fun g e => (h.ol.lt g e).2, fun i l hl => ?_⟩, ⟨us, h.lens.2, RdT.of_own h.or, fun g e => (h.or.lt g e).2, fun i l hl => ?_⟩⟩
  · obtain ⟨u, a, b, c⟩ := h.el i l hl
    exact ⟨u, a, b, fun g e => b.block_lt e⟩
  · obtain ⟨u, a, b, c⟩ := h.er i l hl
    exact ⟨u, a, b, fun g e => b.block_lt e⟩
end
end Go.Proofs.YtfbdkjonjpanfaaGreatDoor

namespace Go.Rg
open Go
def nthO : List Oper → Nat → Option Oper
  | [], _ => none
  | x :: _, 0 => some x
  | _ :: l, n + 1 => nthO l n
theorem nthO_eq : ∀ (l : List Oper) (n : Nat), nthO l n = l.toArray[n]?
  | [], n => by simp [nthO]
  | x :: l, 0 => by simp [nthO]
  | x :: l, n + 1 => by rw [nthO, nthO_eq l n]; simp
theorem takeL {P : Program} {l : List Oper} {Q : Exit → Act → World → Prop} {md : Region.Mode} {S : World → Prop} (i : Nat) {oi : Oper} {v : Value} {fuel : Nat} {listed : Array Bool} {a : Act} {w : World} (hi : nthO l i = some oi)
    (hs : Region.noSelect l.toArray = true) (hf : Region.free md l.toArray listed i = true) (hr : (Region.ready md l.toArray listed).contains i = true)
    (hQ : ∀ c a w, Q (.panic c) (a.put oi.dst v) w → Q (.panic c) a w) (hw : Region.wanted oi (yielded l.toArray a.tmps) = true) (hS : S w) (hy : ∀ w, S w → (execOp a.eval oi).run P w = .ok (.value v) w)
    (h : wpAnyH P md l.toArray Q S fuel (listed.setIfInBounds i true) (a.put oi.dst v) w) : wpAnyH P md l.toArray Q S (fuel + 1) listed a w :=
  wpAnyH_take (nthO_eq l i ▸ hi) hs hf hr hQ (Or.inl ⟨hw, hy⟩) hS h
theorem skipL {P : Program} {l : List Oper} {Q : Exit → Act → World → Prop} {md : Region.Mode} {S : World → Prop} (i : Nat) {oi : Oper} {fuel : Nat} {listed : Array Bool} {a : Act} {w : World} (hi : nthO l i = some oi)
    (hs : Region.noSelect l.toArray = true) (hf : Region.free md l.toArray listed i = true) (hr : (Region.ready md l.toArray listed).contains i = true)
    (hQ : ∀ c a w, Q (.panic c) (a.put oi.dst undef) w → Q (.panic c) a w) (hw : Region.wanted oi (yielded l.toArray a.tmps) = false) (hS : S w)
    (h : wpAnyH P md l.toArray Q S fuel (listed.setIfInBounds i true) (a.put oi.dst undef) w) : wpAnyH P md l.toArray Q S (fuel + 1) listed a w :=
  wpAnyH_take (nthO_eq l i ▸ hi) hs hf hr hQ (Or.inr ⟨hw, rfl⟩) hS h
theorem consL {P : Program} {l : List Oper} {Q : Exit → Act → World → Prop} {md : Region.Mode} {S : World → Prop} {fuel : Nat} {listed : Array Bool} {a : Act} {w : World} (i : Nat) {o : Oper} (hn : Region.ready md l.toArray listed = [i]) (ho : nthO l i = some o)
    (hw : Region.wanted o (yielded l.toArray a.tmps) = true)
    (h : ∀ K' : Act → World → Prop, Shut (∀ a w, S w → (S w → wpAnyH P md l.toArray Q S fuel (listed.setIfInBounds i true) a w) → K' a w) → Oper.wp P o a w K' Q) : wpAnyH P md l.toArray Q S (fuel + 1) listed a w :=
  wpAnyH_ready hn (by simp) (AllReadyH.cons (nthO_eq l i ▸ ho) (fun K hK => by rw [if_pos hw]; exact h K hK) AllReadyH.nil)
end Go.Rg

set_option linter.unusedVariables false
namespace Go.Rg
open Go Go.RowKit
theorem heldG_go {P : Program} {id : Nat} {Q : Exit → Act → World → Prop} {a : Act} {w : World} {l : List Oper} (S : World → Prop) (late : Nat → Bool) (hm : P.follows .mixedOrders = true) (hS : S w.drew)
    (h : S w.drew → wpAnyG P .any l.toArray Q S late l.toArray.size (Array.replicate l.toArray.size false) a w.drew) : (Code.region id l.toArray true).wp P Q a w :=
  wp_region_any hm (wpAny_of_G _ _ _ _ (h hS))
theorem takeG {P : Program} {l : List Oper} {Q : Exit → Act → World → Prop} {md : Region.Mode} {S : World → Prop} {late : Nat → Bool} (i : Nat) {oi : Oper} {v : Value} {fuel : Nat} {listed : Array Bool} {a : Act} {w : World} (D : List Nat) (hi : nthO l i = some oi)
    (hs : Region.noSelect l.toArray = true) (hf : Region.free md l.toArray listed i = true) (hr : (Region.ready md l.toArray listed).contains i = true)
    (hD : waitsD md l.toArray late D i listed = true) (hDs : D.all (fun j => decide (j < l.toArray.size)) = true)
    (hQ : ∀ c a w, Q (.panic c) (a.put oi.dst v) w → Q (.panic c) a w) (hw : Region.wanted oi (yielded l.toArray a.tmps) = true) (hS : S w) (hy : ∀ w, S w → (execOp a.eval oi).run P w = .ok (.value v) w)
    (h : wpAnyG P md l.toArray Q S late fuel (listed.setIfInBounds i true) (a.put oi.dst v) w) : wpAnyG P md l.toArray Q S late (fuel + 1) listed a w :=
  wpAnyG_takeD D (nthO_eq l i ▸ hi) hs hf hr hD hDs hQ (Or.inl ⟨hw, hy⟩) hS h
theorem skipG {P : Program} {l : List Oper} {Q : Exit → Act → World → Prop} {md : Region.Mode} {S : World → Prop} {late : Nat → Bool} (i : Nat) {oi : Oper} {fuel : Nat} {listed : Array Bool} {a : Act} {w : World} (D : List Nat) (hi : nthO l i = some oi)
    (hs : Region.noSelect l.toArray = true) (hf : Region.free md l.toArray listed i = true) (hr : (Region.ready md l.toArray listed).contains i = true)
    (hD : waitsD md l.toArray late D i listed = true) (hDs : D.all (fun j => decide (j < l.toArray.size)) = true)
    (hQ : ∀ c a w, Q (.panic c) (a.put oi.dst undef) w → Q (.panic c) a w) (hw : Region.wanted oi (yielded l.toArray a.tmps) = false) (hS : S w)
    (h : wpAnyG P md l.toArray Q S late fuel (listed.setIfInBounds i true) (a.put oi.dst undef) w) : wpAnyG P md l.toArray Q S late (fuel + 1) listed a w :=
  wpAnyG_takeD D (nthO_eq l i ▸ hi) hs hf hr hD hDs hQ (Or.inr ⟨hw, rfl⟩) hS h
theorem consG {P : Program} {l : List Oper} {Q : Exit → Act → World → Prop} {md : Region.Mode} {S : World → Prop} {late : Nat → Bool} {fuel : Nat} {listed : Array Bool} {a : Act} {w : World} (i : Nat) {o : Oper} (hn : Region.ready md l.toArray listed = [i]) (ho : nthO l i = some o)
    (hw : Region.wanted o (yielded l.toArray a.tmps) = true)
    (h : ∀ K' : Act → World → Prop, Shut (∀ a w, (late i = false → S w) → ((late i = false → S w) → wpAnyG P md l.toArray Q S late fuel (listed.setIfInBounds i true) a w) → K' a w) → Oper.wp P o a w K' Q) : wpAnyG P md l.toArray Q S late (fuel + 1) listed a w :=
  wpAnyG_ready hn (by simp) (AllReadyG.cons (nthO_eq l i ▸ ho) (fun K hK => by rw [if_pos hw]; exact h K (fun a w hS hW => hK.out a w hS (hW hS))) AllReadyG.nil)
end Go.Rg
namespace Go.Rg
open Go Go.RowKit
theorem consL2 {P : Program} {l : List Oper} {Q : Exit → Act → World → Prop} {md : Region.Mode} {S : World → Prop} {fuel : Nat} {listed : Array Bool} {a : Act} {w : World} (i j : Nat) {o p : Oper} (hn : Region.ready md l.toArray listed = [i, j]) (ho : nthO l i = some o) (hp : nthO l j = some p)
    (hw : Region.wanted o (yielded l.toArray a.tmps) = true) (hv : Region.wanted p (yielded l.toArray a.tmps) = true)
    (h : ∀ K' : Act → World → Prop, Shut (∀ a w, S w → (S w → wpAnyH P md l.toArray Q S fuel (listed.setIfInBounds i true) a w) → K' a w) → Oper.wp P o a w K' Q)
    (h2 : ∀ K' : Act → World → Prop, Shut (∀ a w, S w → (S w → wpAnyH P md l.toArray Q S fuel (listed.setIfInBounds j true) a w) → K' a w) → Oper.wp P p a w K' Q) : wpAnyH P md l.toArray Q S (fuel + 1) listed a w :=
  wpAnyH_ready hn (by simp) (AllReadyH.cons (nthO_eq l i ▸ ho) (fun K hK => by rw [if_pos hw]; exact h K hK) (AllReadyH.cons (nthO_eq l j ▸ hp) (fun K hK => by rw [if_pos hv]; exact h2 K hK) AllReadyH.nil))
end Go.Rg
namespace Go.Rg
open Go Go.RowKit
/-- an append, as a step of a drawn region that is written out -/
theorem wp_append2 {P : Program} (w : World) {o : Oper} {a : Act} {K : Act → World → Prop} {Q : Exit → Act → World → Prop}
    (s x : Operand) (t : TypeId) (hop : o.op = Op.call { callee := Callee.builtin Builtin.append, args := #[s, x], argTypes := #[t, t] })
    (base : Nat) (e : TypeId) (z : Value) (size bytes : Nat) (h1 : P.underlying t = some (.slice e)) (hinfo : (P.info? e).map (fun i => (i.zero, i.size, i.bytes)) = some (some z, size, bytes)) (h6 : z.cells.size = size) (h7 : 0 < size)
    (v : Value) (k : Nat) (xs : List Value) (hs : a.eval s = v) (hown : w.ownsRow base e size v k xs) (xv : Value) (B m : Nat) (news : List Value) (hx : a.eval x = xv) (hr : Reads w B xv m news) (hn : news.length = m * size)
    (h1c : ∀ u ∈ news, u.oneCell' = true) (b1 : k + m ≤ maxLen) (b2 : (k + m) * bytes ≤ 140737488355328) (b3 : base ≤ w.heap.size)
    (hK : ∀ v' w', w'.ownsRow base e size v' (k + m) (xs ++ news) → w.grownBy w' v.ownBlock → Moves w v v' → K (a.put o.dst v') w') : Oper.wp P o a w K Q := by
  obtain ⟨i, hi, hz, hsz, hby⟩ := info_parts hinfo
  obtain ⟨v', w', hrun, r1, r2, r3⟩ := run_append2 (P := P) w base t o.type e i z size bytes h1 hi hz hsz hby h6 h7 v k xs hown xv B m news hr hn h1c b1 b2 b3
  unfold Oper.wp execOp
  simp only [hop, resolve, invoke, builtin, Sem.run_bind, Sem.run_pure, Result.andThen_ok, List.map_toArray, List.map_cons, List.map_nil, hs, hx, hrun]
  exact hK _ _ r1 r2 r3
end Go.Rg

set_option linter.unusedVariables false
set_option linter.unusedSimpArgs false
namespace Go.Rg
open Go Go.RowKit

def ReadsE (w : World) (B : Nat) (v : Value) (n : Nat) (xs : List Value) : Prop := Reads w B v n xs ∨ (n = 0 ∧ xs = [] ∧ ∃ (a : Addr) (c : Nat), v = .slice (some a) 0 c)
theorem ReadsE.mono {w : World} {B B' : Nat} {v : Value} {n : Nat} {xs : List Value} (h : ReadsE w B v n xs) (hB : B ≤ B') : ReadsE w B' v n xs := h.imp (·.mono hB) id
theorem ReadsE.below {w w' : World} {B : Nat} {v : Value} {n : Nat} {xs : List Value} (h : ReadsE w B v n xs) (hb : Below B w w') : ReadsE w' B v n xs := h.imp (·.below hb) id
theorem ReadsE.form {w : World} {B : Nat} {v : Value} {n : Nat} {xs : List Value} (h : ReadsE w B v n xs) : ∃ a c, v = .slice a n c := by
  rcases h with (⟨rfl, rfl, _⟩ | ⟨g, off, c, rfl, _⟩) | ⟨rfl, _, a, c, rfl⟩
  · exact ⟨_, _, rfl⟩
  · exact ⟨_, _, rfl⟩
  · exact ⟨_, _, rfl⟩
theorem ReadsE.get {w : World} {B : Nat} {a : Option Addr} {n c : Nat} {xs : List Value} (h : ReadsE w B (.slice a n c) n xs) (hn : n ≠ 0) : ∃ g off, a = some ⟨g, off, none⟩ ∧ g < B ∧ n ≤ c ∧ c ≤ maxLen ∧ ∀ j x, xs[j]? = some x → w.cell? ⟨g, off + j, none⟩ = some x := by
  rcases h with (⟨_, h, _⟩ | ⟨g, off, c', e, h1, h2, h3, h4⟩) | ⟨h, _⟩
  · exact absurd h hn
  · injection e with e1 e2 e3
    subst e1 e3
    exact ⟨g, off, rfl, h1, h2, h3, h4⟩
  · exact absurd h hn

section
variable {P : Program} (w : World)
theorem run_append2E (base : Nat) (t ty e : TypeId) (i : TypeInfo) (z : Value) (size bytes : Nat) (ht : P.underlying t = some (.slice e)) (hi : P.info? e = some i) (hz : i.zero = some z)
    (hsize : i.size = size) (hby : i.bytes = bytes) (hzs : z.cells.size = size) (hsz : 0 < size)
    (v : Value) (n : Nat) (xs : List Value) (hown : w.ownsRow base e size v n xs)
    (x : Value) (B m : Nat) (news : List Value) (hx : ReadsE w B x m news) (hl : news.length = m * size) (h1 : ∀ u ∈ news, u.oneCell' = true)
    (h63 : n + m ≤ maxLen) (hbytes : (n + m) * bytes ≤ 140737488355328) (hbase : base ≤ w.heap.size) :
    ∃ v' w', (Builtin.append_ #[t, t] ty #[v, x]).run P w = .ok v' w' ∧ w'.ownsRow base e size v' (n + m) (xs ++ news) ∧ w.grownBy w' v.ownBlock ∧ Moves w v v' := by
  rcases hx with hx | ⟨rfl, rfl, a, c, rfl⟩
  · exact run_append2 w base t ty e i z size bytes ht hi hz hsize hby hzs hsz v n xs hown x B m news hx hl h1 h63 hbytes hbase
  · have hnews : ∀ (j : Nat) (u : Value), ([] : List Value)[j]? = some u → w.cell? (a.add j) = some u := fun j u h => by simp at h
    obtain ⟨v', w', hr, h2, h3, h4⟩ := run_append_own (P := P) w base t ty e i z size bytes ht hi hz hsize hby hzs hsz v n xs hown a 0 c [] hl hnews h1 h63 hbytes hbase
    refine ⟨v', w', hr, h2, h3, ?_⟩
    subst hsize
    subst hby
    rcases hown.2 with ⟨rfl, rfl⟩ | ⟨g, cap, cur, rfl, hbg, hg, hnc, hcm, hcs, htake⟩
    · have := h4.2 ⟨rfl, rfl⟩
      subst this
      exact .inl rfl
    · have hfit : n * i.size + ([] : List Value).length ≤ cur.size := by rw [hcs]; simpa using Nat.mul_le_mul_right _ hnc
      have hr2 := run_append_room (P := P) w t ty e i ht hi g n cap cur hg a 0 c [] hl hnews h1 (by omega) hfit
      rw [hr2] at hr
      cases hr
      exact .inl rfl
end
theorem wpList_append2E {P : Program} (w : World) {ops : Array Oper} {rest : List Oper} {o : Oper} {a : Act} {Q : Exit → Act → World → Prop}
    (hg : o.guard = none) (s x : Operand) (t : TypeId) (hop : o.op = Op.call { callee := Callee.builtin Builtin.append, args := #[s, x], argTypes := #[t, t] })
    (base : Nat) (e : TypeId) (z : Value) (size bytes : Nat) (h1 : P.underlying t = some (.slice e)) (hinfo : (P.info? e).map (fun i => (i.zero, i.size, i.bytes)) = some (some z, size, bytes)) (h6 : z.cells.size = size) (h7 : 0 < size)
    (v : Value) (k : Nat) (xs : List Value) (hs : a.eval s = v) (hown : w.ownsRow base e size v k xs) (xv : Value) (B m : Nat) (news : List Value) (hx : a.eval x = xv) (hr : ReadsE w B xv m news) (hn : news.length = m * size)
    (h1c : ∀ u ∈ news, u.oneCell' = true) (b1 : k + m ≤ maxLen) (b2 : (k + m) * bytes ≤ 140737488355328) (b3 : base ≤ w.heap.size)
    (hK : ∀ v' w', w'.ownsRow base e size v' (k + m) (xs ++ news) → w.grownBy w' v.ownBlock → Moves w v v' → wpList P ops Q rest (a.put o.dst v') w') :
    wpList P ops Q (o :: rest) a w := by
  obtain ⟨i, hi, hz, hsz, hby⟩ := info_parts hinfo
  refine wpList_plain hg fun K hK' => ?_
  obtain ⟨v', w', hrun, r1, r2, r3⟩ := run_append2E (P := P) w base t o.type e i z size bytes h1 hi hz hsz hby h6 h7 v k xs hown xv B m news hr hn h1c b1 b2 b3
  unfold Oper.wp execOp
  simp only [hop, resolve, invoke, builtin, Sem.run_bind, Sem.run_pure, Result.andThen_ok, List.map_toArray, List.map_cons, List.map_nil, hs, hx, hrun]
  exact hK' _ _ (hK v' w' r1 r2 r3)
/-- an append, as a step of a drawn region that is written out -/
theorem wp_append2E {P : Program} (w : World) {o : Oper} {a : Act} {K : Act → World → Prop} {Q : Exit → Act → World → Prop}
    (s x : Operand) (t : TypeId) (hop : o.op = Op.call { callee := Callee.builtin Builtin.append, args := #[s, x], argTypes := #[t, t] })
    (base : Nat) (e : TypeId) (z : Value) (size bytes : Nat) (h1 : P.underlying t = some (.slice e)) (hinfo : (P.info? e).map (fun i => (i.zero, i.size, i.bytes)) = some (some z, size, bytes)) (h6 : z.cells.size = size) (h7 : 0 < size)
    (v : Value) (k : Nat) (xs : List Value) (hs : a.eval s = v) (hown : w.ownsRow base e size v k xs) (xv : Value) (B m : Nat) (news : List Value) (hx : a.eval x = xv) (hr : ReadsE w B xv m news) (hn : news.length = m * size)
    (h1c : ∀ u ∈ news, u.oneCell' = true) (b1 : k + m ≤ maxLen) (b2 : (k + m) * bytes ≤ 140737488355328) (b3 : base ≤ w.heap.size)
    (hK : ∀ v' w', w'.ownsRow base e size v' (k + m) (xs ++ news) → w.grownBy w' v.ownBlock → Moves w v v' → K (a.put o.dst v') w') : Oper.wp P o a w K Q := by
  obtain ⟨i, hi, hz, hsz, hby⟩ := info_parts hinfo
  obtain ⟨v', w', hrun, r1, r2, r3⟩ := run_append2E (P := P) w base t o.type e i z size bytes h1 hi hz hsz hby h6 h7 v k xs hown xv B m news hr hn h1c b1 b2 b3
  unfold Oper.wp execOp
  simp only [hop, resolve, invoke, builtin, Sem.run_bind, Sem.run_pure, Result.andThen_ok, List.map_toArray, List.map_cons, List.map_nil, hs, hx, hrun]
  exact hK _ _ r1 r2 r3
end Go.Rg
