/- A range over a function: the law that these proofs use. What an iterator owes ('SeqI'), what a loop over it owes ('wp_range'). No program in sight. -/
import Derived.RangeFuncNested
import Derived.RangeFuncBound
import Derived.RangeFuncCalls
import Derived.RangeFuncLeaves
import Derived.WalkKit
import Derived.OwnWalkIn
import Derived.Sort.QuietTacIn
import Derived.OrdersHeld
import Derived.Deep.RegionHeld
import Derived.Test.YtlkhneiccjhgdaaGreatShelf
import Derived.Deep.LoopGhost
import Derived.BigQuiet
import Derived.BigFrame
import Derived.Handy
import Derived.Deep.RegionHeld3
import Derived.Lib.Hide
import Derived.Laws.Externs
import Derived.Laws.Bits64
import Derived.Still
import Derived.Deep.MidRow
import Derived.Laws.MakeOwn
import Derived.Great.BuildSlice
import Derived.Deep.WholeRow
set_option linter.unusedVariables false
set_option linter.unusedSimpArgs false
set_option maxRecDepth 100000
namespace Go.Rg
open Go Go.RowKit
theorem tdA {α : Type} (l : List α) (i : Nat) (a : α) : l.toArray.setIfInBounds i a = (l.set i a).toArray := List.setIfInBounds_toArray l i a
theorem tdB {α : Type} (a : α) (l : List α) (b : α) : (a :: l).set 0 b = b :: l := rfl
theorem tdC {α : Type} (a : α) (l : List α) (n : Nat) (b : α) : (a :: l).set (n + 1) b = a :: l.set n b := rfl
theorem td : (∀ (a : Act) (d : Tmp) (v : Value), a.put (some d) v = { a with tmps := a.tmps.setIfInBounds d v }) ∧ (∀ (a : Act) (v : Value), a.put none v = a) ∧ (∀ (α : Type) (l : List α) (i : Nat) (a : α), l.toArray.setIfInBounds i a = (l.set i a).toArray) ∧ (∀ (α : Type) (a : α) (l : List α) (b : α), (a :: l).set 0 b = b :: l) ∧ (∀ (α : Type) (a : α) (l : List α) (n : Nat) (b : α), (a :: l).set (n + 1) b = a :: l.set n b) :=
 ⟨fun _ _ _ => rfl, fun _ _ => rfl, fun _ => tdA, fun _ => tdB, fun _ => tdC⟩
def WF (r : Option Nat) : Fence := { fn := fun _ => True, depth := none, alive := false, round := r }
@[simp] theorem WF_round (r : Option Nat) : (WF r).round = r := rfl
@[simp] theorem WF_depth (r : Option Nat) : (WF r).depth = none := rfl
@[simp] theorem WF_fn (r : Option Nat) (f : Nat) : (WF r).fn f = True := rfl
@[simp] theorem WF_inRound (r : Option Nat) (l : Nat) : (WF r).inRound l = WF (some l) := rfl
theorem calls_iff {r : Option Nat} {m : Nat} {P : Program} {f : FuncId} {args : Array Value} {w : World} {R : Ending → World → Prop} :
  CallsIn (WF r) m P f args w R ↔ Calls P f args w R := callsIn_wide (n := m)
structure Kept (S : Nat → Prop) (W W' : World) : Prop where
 os : W'.os = W.os
 tape : W'.tape = W.tape
 output : W'.output = W.output
 size : W.heap.size ≤ W'.heap.size
 same : ∀ k, S k → W'.heap[k]? = W.heap[k]?
theorem Kept.refl (S : Nat → Prop) (W : World) : Kept S W W := ⟨rfl, rfl, rfl, Nat.le_refl _, fun _ _ => rfl⟩
theorem Kept.trans {S : Nat → Prop} {A B C : World} (h : Kept S A B) (k : Kept S B C) : Kept S A C :=
 ⟨k.os.trans h.os, k.tape.trans h.tape, k.output.trans h.output, Nat.le_trans h.size k.size, fun i hi => (k.same i hi).trans (h.same i hi)⟩
theorem Kept.mono {S T : Nat → Prop} {A B : World} (h : Kept S A B) (ht : ∀ k, T k → S k) : Kept T A B := ⟨h.os, h.tape, h.output, h.size, fun k hk => h.same k (ht k hk)⟩
theorem Kept.of_below {B : Nat} {A C : World} (h : Below B A C) : Kept (· < B) A C := ⟨h.os, h.tape, h.output, h.size, fun k hk => h.block k hk⟩
theorem Kept.below {B : Nat} {A C : World} (h : Kept (· < B) A C) : Below B A C := ⟨h.os, h.tape, h.output, h.size, fun k hk => h.same k hk⟩
structure Ext (B : Nat) (W W' : World) : Prop where
 below : Below B W W'
 cells : ∀ (k : Nat) (o : Obj), W.heap[k]? = some o → o.isCells = true → W'.heap[k]? = some o
theorem Ext.refl (B : Nat) (W : World) : Ext B W W := ⟨Below.refl _ _, fun _ _ h _ => h⟩
theorem Ext.trans {B : Nat} {X Y Z : World} (h : Ext B X Y) (k : Ext B Y Z) : Ext B X Z := ⟨h.below.trans k.below, fun i o hi ho => k.cells i o (h.cells i o hi ho) ho⟩
theorem Ext.mono {B B' : Nat} {X Y : World} (h : Ext B X Y) (hB : B' ≤ B) : Ext B' X Y := ⟨h.below.mono hB, h.cells⟩
theorem Ext.size {B : Nat} {X Y : World} (h : Ext B X Y) : X.heap.size ≤ Y.heap.size := h.below.size
theorem Ext.of_below {X Y : World} (h : Below X.heap.size X Y) : Ext X.heap.size X Y := ⟨h, fun k o hk _ => (h.block k (Array.getElem?_eq_some_iff.1 hk).1).trans hk⟩
theorem Ext.putObj {B : Nat} {W : World} {l : Nat} {o : Obj} (hB : B ≤ l) (hl : W.heap[l]? = some o) (ho : o.isCells = false) (o' : Obj) : Ext B W (W.putObj l o') :=
 ⟨(Below.refl B W).grown (grownBy_putObj' W l o') (by have := (Array.getElem?_eq_some_iff.1 hl).1; omega) (fun k e => by cases e; omega), fun k o2 hk hc => by
  by_cases e : k = l
  ·subst e; rw [hl] at hk; cases hk; rw [ho] at hc; cases hc
  ·exact (World.putObj_heap_other e).trans hk⟩
theorem Ext.cell {B : Nat} {X Y : World} (h : Ext B X Y) {a : Addr} {v : Value} (hc : X.cell? a = some v) : Y.cell? a = some v := by
 obtain ⟨o, ho, hcs⟩ := cells_of_cell hc
 exact (World.cell?_of_block ((h.cells _ _ ho hcs).trans ho.symm)).trans hc
theorem Ext.frozen {B : Nat} {X Y : World} (h : Ext B X Y) {a : Addr} {v : Value} (hc : X.cell? a = some v) : Y.frozen? a = X.frozen? a := by
 obtain ⟨o, ho, hcs⟩ := cells_of_cell hc
 exact World.frozen?_of_block ((h.cells _ _ ho hcs).trans ho.symm)
structure Eff (B : Nat) (S : Nat → Prop) (W W' : World) : Prop where
 kept : Kept S W W'
 others : ∀ (k : Nat) (o : Obj), B ≤ k → W.heap[k]? = some o → o.isCells = false → W'.heap[k]? = some o
theorem Eff.refl (B : Nat) (S : Nat → Prop) (W : World) : Eff B S W W := ⟨Kept.refl _ _, fun _ _ _ h _ => h⟩
theorem Eff.trans {B : Nat} {S : Nat → Prop} {X Y Z : World} (h : Eff B S X Y) (k : Eff B S Y Z) : Eff B S X Z := ⟨h.kept.trans k.kept, fun i o hB hi ho => k.others i o hB (h.others i o hB hi ho) ho⟩
theorem Eff.mono {B B' : Nat} {S T : Nat → Prop} {X Y : World} (h : Eff B S X Y) (hB : B ≤ B') (ht : ∀ k, T k → S k) : Eff B' T X Y := ⟨h.kept.mono ht, fun k o hk => h.others k o (Nat.le_trans hB hk)⟩
theorem Eff.of_below {B : Nat} {S : Nat → Prop} {X Y : World} (h : Below X.heap.size X Y) (hS : ∀ k, S k → k < X.heap.size) : Eff B S X Y :=
 ⟨⟨h.os, h.tape, h.output, h.size, fun k hk => h.block k (hS k hk)⟩, fun k o _ hk _ => (h.block k (Array.getElem?_eq_some_iff.1 hk).1).trans hk⟩
theorem Eff.alloc {B : Nat} {S : Nat → Prop} {A W : World} (h : Eff B S A W) (hS : ∀ k, S k → k < W.heap.size) (o : Obj) : Eff B S A (W.alloc o) :=
 h.trans (Eff.of_below ((Below.refl _ W).alloc (Nat.le_refl _) o) hS)
theorem Eff.drew {B : Nat} {S : Nat → Prop} {A W : World} (h : Eff B S A W) : Eff B S A W.drew := ⟨⟨h.kept.os, h.kept.tape, h.kept.output, h.kept.size, h.kept.same⟩, h.others⟩
theorem Eff.setCell {B : Nat} {S : Nat → Prop} {A W : World} (h : Eff B S A W) (a : Addr) (ha : ¬ S a.block) (v : Value) : Eff B S A (W.setCell a v) :=
 h.trans ⟨⟨rfl, rfl, rfl, by simp [World.setCell], fun k hk => Below.heap_setCell _ _ _ _ (fun e => ha (e ▸ hk))⟩, fun k o _ => (KeepsOthers.setCell W a v).same k o⟩
theorem Eff.call {B : Nat} {S : Nat → Prop} {A W W' : World} (h : Eff B S A W) (hb : Below W.heap.size W W') (hS : ∀ k, S k → k < W.heap.size) : Eff B S A W' := h.trans (Eff.of_below hb hS)
theorem Eff.grown {B : Nat} {S : Nat → Prop} {A W W' : World} {row : Option Nat} (h : Eff B S A W) (hg : W.grownBy W' row) (hS : ∀ k, S k → k < W.heap.size) (hrow : ∀ k, row = some k → ¬ S k) (hc : ∀ k o, row = some k → W.heap[k]? = some o → o.isCells = true) : Eff B S A W' :=
 h.trans ⟨⟨hg.os, hg.tape, hg.output, hg.size, fun k hk => hg.block k (hS k hk) (fun e => hrow k e.symm hk)⟩, fun k o _ => (KeepsOthers.of_grownBy hg hc).same k o⟩
def grow (O : Nat → Prop) (X Y : World) : Nat → Prop := fun j => O j ∨ (X.heap.size ≤ j ∧ j < Y.heap.size)
def both (S O : Nat → Prop) : Nat → Prop := fun j => S j ∨ O j
def roundEnd (B : Nat) (S : Nat → Prop) (I : World → Prop) (Ix : Code → World → Prop) (W : World) : Exit → Act → World → Prop
 | .normal, _, W' => Eff B S W W' ∧ I W'
 | .ret, _, W' => Eff B S W W' ∧ Ix .ret W'
 | .exit id, _, W' => Eff B S W W' ∧ Ix (.exit id) W'
 | .goto t, _, W' => Eff B S W W' ∧ Ix (.goto t) W'
 | .panic _, _, _ => False
 | .outgrown, _, _ => False
section
variable {P : Program}
theorem round_law {r0 : Option Nat} {l m : Nat} {fn : FuncId} {rec : Loop} {S : Nat → Prop} {x : Array Value} {W : World} {I : World → Prop} {Ix : Code → World → Prop} {B : Nat}
  (hl : W.heap[l]? = some (.loop rec)) (hr : rec.state = .ready) (hp : rec.pending = none) (hx : x.size = rec.params.size) (hS : ¬ S l) (hB : B ≤ l)
  (hI : ∀ X Y, I X → Ext B X Y → I Y) (hIx : ∀ c X Y, Ix c X → Ext B X Y → Ix c Y)
  (h : rec.assign.wpIn (WF (some l)) 0 P (Exit.then (fun a' Wa => Eff B S W Wa ∧ ∀ Wb, Ext B Wa Wb → Kept S Wa Wb → Wb.heap.size = Wa.heap.size → (∃ r, Wb.heap[l]? = some (.loop r)) → rec.body.wpIn (WF (some l)) 0 P (roundEnd B S I Ix Wb) a' Wb) (fun _ _ _ => False))
   { tmps := (rec.params.zip x).foldl (fun t (p, v) => t.setIfInBounds p v) rec.tmps, defers := [] } W) :
  YieldAt (WF r0) 0 P l x W fun e W' =>
   (e = .returned (.bool true) ∧ I W' ∧ W'.heap[l]? = some (.loop rec) ∧ Kept S W W' ∧ (∀ k o, k ≠ l → B ≤ k → W.heap[k]? = some o → o.isCells = false → W'.heap[k]? = some o)) ∨
   (e = .returned (.bool false) ∧ (∃ c, Ix c W' ∧ W'.heap[l]? = some (.loop { rec with state := .done, pending := some c })) ∧ Kept S W W' ∧ (∀ k o, k ≠ l → B ≤ k → W.heap[k]? = some o → o.isCells = false → W'.heap[k]? = some o)) := by
 have hlt : l < W.heap.size := (Array.getElem?_eq_some_iff.1 hl).1
 refine ⟨_, _, _, _, run_yield hl hx, roundIn_of_wpIn (F := WF r0) trivial (wpIn_mono h ?_)⟩
 rintro e a' Wa hq
 cases e with
 | normal =>
  obtain ⟨he, hb⟩ := hq
  have hla := he.others l _ hB hl rfl
  refine ⟨_, run_beginRound hla hr, ?_⟩
  have hlta : l < Wa.heap.size := (Array.getElem?_eq_some_iff.1 hla).1
  have keptb : ∀ o, Kept S Wa (Wa.putObj l o) := fun o => ⟨rfl, rfl, rfl, by simp, fun k hk => World.putObj_heap_other (fun e => hS (e ▸ hk))⟩
  have hl2 : (Wa.putObj l (.loop { rec with state := .busy })).heap[l]? = some (.loop { rec with state := .busy }) := World.putObj_heap_same hlta
  have hx2 : Ext B Wa (Wa.putObj l (.loop { rec with state := .busy })) := Ext.putObj hB hla rfl _
  have hbody := hb _ hx2 (keptb _) (by simp) ⟨_, hl2⟩
  refine wpIn_mono hbody ?_
  rintro e2 a2 Wc hq2
  have others : Eff B S (Wa.putObj l (.loop { rec with state := .busy })) Wc → ∀ k o o', k ≠ l → B ≤ k → W.heap[k]? = some o → o.isCells = false → (Wc.putObj l o').heap[k]? = some o := fun hE k o o' hk hBk ho hc =>
   (World.putObj_heap_other hk).trans (hE.others k o hBk ((World.putObj_heap_other hk).trans (he.others k o hBk ho hc)) hc)
  have kept : Eff B S (Wa.putObj l (.loop { rec with state := .busy })) Wc → ∀ o, Kept S W (Wc.putObj l o) := fun hE o =>
   ((he.kept.trans (keptb _)).trans hE.kept).trans ⟨rfl, rfl, rfl, by simp, fun k hk => World.putObj_heap_other (fun e => hS (e ▸ hk))⟩
  have stop : ∀ c, Eff B S (Wa.putObj l (.loop { rec with state := .busy })) Wc → Ix c Wc → ∃ v w', (Instr.endRound l (some c)).run P Wc = .ok v w' ∧ ((Ending.returned v = .returned (.bool true) ∧ I w' ∧ w'.heap[l]? = some (.loop rec) ∧ Kept S W w' ∧ (∀ k o, k ≠ l → B ≤ k → W.heap[k]? = some o → o.isCells = false → w'.heap[k]? = some o)) ∨
    (Ending.returned v = .returned (.bool false) ∧ (∃ c, Ix c w' ∧ w'.heap[l]? = some (.loop { rec with state := .done, pending := some c })) ∧ Kept S W w' ∧ (∀ k o, k ≠ l → B ≤ k → W.heap[k]? = some o → o.isCells = false → w'.heap[k]? = some o))) := fun c hE hi => by
   have hl3 := hE.others l _ hB hl2 rfl
   exact ⟨_, _, run_endRound (some c) hl3, .inr ⟨rfl, ⟨c, hIx c _ _ hi (Ext.putObj hB hl3 rfl _), World.putObj_heap_same (Array.getElem?_eq_some_iff.1 hl3).1⟩, kept hE _, fun k o hk hBk ho hc => others hE k o _ hk hBk ho hc⟩⟩
  cases e2 with
  | normal =>
   obtain ⟨hE, hi⟩ := hq2
   have hl3 := hE.others l _ hB hl2 rfl
   refine ⟨_, _, run_endRound none hl3, .inl ⟨rfl, hI _ _ hi (Ext.putObj hB hl3 rfl _), ?_, kept hE _, fun k o hk hBk ho hc => others hE k o _ hk hBk ho hc⟩⟩
   rw [World.putObj_heap_same (Array.getElem?_eq_some_iff.1 hl3).1]
   obtain ⟨st, pe, f2, t2, p2, a3, b3, d3⟩ := rec
   simp only at hr hp
   subst hr hp
   rfl
  | ret => exact stop .ret hq2.1 hq2.2
  | exit id => exact stop (.exit id) hq2.1 hq2.2
  | goto t => exact stop (.goto t) hq2.1 hq2.2
  | panic ch => exact hq2.elim
  | outgrown => exact hq2.elim
 | exit id => exact hq.elim
 | goto t => exact hq.elim
 | ret => exact hq.elim
 | panic ch => exact hq.elim
 | outgrown => exact hq.elim
end
end Go.Rg
namespace Go
theorem hH {p : Prop} (h : p) : RowKit.Hid p := h
end Go
namespace Go.Rg
open Go Go.RowKit
def Blk (w : World) (b : Nat) (cs : List Value) (t : TypeId) : Prop := w.heap[b]? = some (.cells cs.toArray t (0, 0))
theorem Blk.lt {w : World} {b : Nat} {cs : List Value} {t : TypeId} (h : Blk w b cs t) : b < w.heap.size := (Array.getElem?_eq_some_iff.1 h).1
theorem Blk.cell {w : World} {b : Nat} {cs : List Value} {t : TypeId} (h : Blk w b cs t) {j : Nat} {v : Value} (hj : cs[j]? = some v) : w.cell? ⟨b, j, none⟩ = some v := by
 unfold Blk at h
 simp [World.cell?, h, hj]
theorem Blk.frozen {w : World} {b : Nat} {cs : List Value} {t : TypeId} (h : Blk w b cs t) (o : Nat) : w.frozen? ⟨b, o, none⟩ = false := by
 unfold Blk at h
 simp [World.frozen?, h]
theorem Blk.of_same {w w' : World} {b : Nat} {cs : List Value} {t : TypeId} (h : Blk w b cs t) (hs : w'.heap[b]? = w.heap[b]?) : Blk w' b cs t := hs.trans h
theorem Blk.ext {B : Nat} {w w' : World} {b : Nat} {cs : List Value} {t : TypeId} (h : Blk w b cs t) (hx : Ext B w w') : Blk w' b cs t := hx.cells _ _ h rfl
theorem Blk.below {B : Nat} {w w' : World} {b : Nat} {cs : List Value} {t : TypeId} (h : Blk w b cs t) (hb : Below B w w') (hB : b < B) : Blk w' b cs t := h.of_same (hb.block b hB)
theorem Blk.call {w w' : World} {b : Nat} {cs : List Value} {t : TypeId} (h : Blk w b cs t) (hb : Below w.heap.size w w') : Blk w' b cs t := h.below hb h.lt
theorem Blk.alloc {w : World} {b : Nat} {cs : List Value} {t : TypeId} (h : Blk w b cs t) (o : Obj) : Blk (w.alloc o) b cs t := h.of_same (Below.heap_alloc w o b h.lt)
theorem Blk.drew {w : World} {b : Nat} {cs : List Value} {t : TypeId} (h : Blk w b cs t) : Blk w.drew b cs t := h
theorem Blk.new (w : World) (cs : List Value) (t : TypeId) : Blk (w.alloc (.cells cs.toArray t)) w.heap.size cs t := World.alloc_heap_new w _
theorem Blk.other {w : World} {b : Nat} {cs : List Value} {t : TypeId} (h : Blk w b cs t) (a : Addr) (hne : b ≠ a.block) (v : Value) : Blk (w.setCell a v) b cs t := h.of_same (Below.heap_setCell w a v b hne)
theorem Blk.set {w : World} {b : Nat} {cs : List Value} {t : TypeId} (h : Blk w b cs t) (j : Nat) (v : Value) : Blk (w.setCell ⟨b, j, none⟩ v) b (cs.set j v) t := by
 have hlt := h.lt
 unfold Blk at *
 simp only [World.setCell]
 rw [Array.getElem?_modify, if_pos rfl, h]
 simp
theorem Blk.grown {w w' : World} {row : Option Nat} {b : Nat} {cs : List Value} {t : TypeId} (h : Blk w b cs t) (hg : w.grownBy w' row) (hne : some b ≠ row) : Blk w' b cs t := h.of_same (hg.block b h.lt hne)
def Reads (w : World) (B : Nat) (v : Value) (n : Nat) (xs : List Value) : Prop :=
 (v = .slice none 0 0 ∧ n = 0 ∧ xs = []) ∨
 ∃ g off cap, v = .slice (some ⟨g, off, none⟩) n cap ∧ g < B ∧ n ≤ cap ∧ cap ≤ maxLen ∧ ∀ j x, xs[j]? = some x → w.cell? ⟨g, off + j, none⟩ = some x
theorem Reads.mono {w : World} {B B' : Nat} {v : Value} {n : Nat} {xs : List Value} (h : Reads w B v n xs) (hB : B ≤ B') : Reads w B' v n xs := by
 rcases h with h | ⟨g, off, cap, h1, h2, h3⟩
 ·exact .inl h
 ·exact .inr ⟨g, off, cap, h1, by omega, h3⟩
theorem Reads.below {w w' : World} {B : Nat} {v : Value} {n : Nat} {xs : List Value} (h : Reads w B v n xs) (hb : Below B w w') : Reads w' B v n xs := by
 rcases h with h | ⟨g, off, cap, h1, h2, h3, h4, h5⟩
 ·exact .inl h
 ·exact .inr ⟨g, off, cap, h1, h2, h3, h4, fun j x hj => (hb.cell (p := ⟨g, off + j, none⟩) h2).trans (h5 j x hj)⟩
theorem Reads.ext {w w' : World} {B B' : Nat} {v : Value} {n : Nat} {xs : List Value} (h : Reads w B v n xs) (hx : Ext B' w w') : Reads w' B v n xs := by
 rcases h with h | ⟨g, off, cap, h1, h2, h3, h4, h5⟩
 ·exact .inl h
 ·exact .inr ⟨g, off, cap, h1, h2, h3, h4, fun j x hj => hx.cell (h5 j x hj)⟩
theorem Reads.kept {w w' : World} {B : Nat} {S : Nat → Prop} {v : Value} {n : Nat} {xs : List Value} (h : Reads w B v n xs) (hx : Kept S w w') (hS : ∀ k, k < B → S k) : Reads w' B v n xs :=
 h.below (hx.mono hS).below
theorem Reads.of_own {w : World} {base e size : Nat} {v : Value} {n : Nat} {xs : List Value} (h : w.ownsRow base e size v n xs) : Reads w w.heap.size v n xs := by
 obtain ⟨hl, h⟩ := h
 rcases h with ⟨rfl, rfl⟩ | ⟨g, cap, cur, rfl, hb, hg, hn, hc, hs, ht⟩
 ·exact .inl ⟨rfl, rfl, List.eq_nil_of_length_eq_zero (by simpa using hl)⟩
 ·refine .inr ⟨g, 0, cap, rfl, (Array.getElem?_eq_some_iff.1 hg).1, hn, hc, fun j x hj => ?_⟩
  rw [← ht, List.getElem?_take] at hj
  split at hj
  ·simp [World.cell?, hg, ← hj]
  ·cases hj
theorem allocs_size (os : List Obj) (w : World) : (os.foldl World.alloc w).heap.size = w.heap.size + os.length := by
 induction os generalizing w with
 | nil => rfl
 | cons o os ih => rw [List.foldl_cons, ih, World.size_alloc, List.length_cons]; omega
theorem allocs_below (os : List Obj) (w : World) : Below w.heap.size w (os.foldl World.alloc w) := by
 induction os generalizing w with
 | nil => exact Below.refl _ _
 | cons o os ih => exact ((Below.refl _ w).alloc (Nat.le_refl _) o).trans ((ih (w.alloc o)).mono (by simp))
theorem allocs_at (os : List Obj) (w : World) (i : Nat) (o : Obj) (h : os[i]? = some o) : (os.foldl World.alloc w).heap[w.heap.size + i]? = some o := by
 induction os generalizing w i with
 | nil => simp at h
 | cons p os ih =>
  cases i with
  | zero =>
   simp only [List.getElem?_cons_zero, Option.some.injEq] at h
   subst h
   rw [List.foldl_cons, (allocs_below os (w.alloc p)).block _ (by simp)]
   exact World.alloc_heap_new w p
  | succ i =>
   have := ih (w.alloc p) i (by simpa using h)
   rw [World.size_alloc] at this
   rw [List.foldl_cons, show w.heap.size + (i + 1) = w.heap.size + 1 + i from by omega]
   exact this
theorem Blk.allocs {w w' : World} (os : List Obj) (hw : os.foldl World.alloc w = w') (i : Nat) {cs : List Value} {t : TypeId} (h : os[i]? = some (.cells cs.toArray t (0, 0))) : Blk w' (w.heap.size + i) cs t := by
 subst hw; exact allocs_at os w i _ h
theorem aZ {os : List Obj} {w W0 : World} (h : os.foldl World.alloc w = W0) : w.heap.size + os.length ≤ W0.heap.size := by rw [← h, allocs_size]; exact Nat.le_refl _
theorem aB {os : List Obj} {w W0 : World} (h : os.foldl World.alloc w = W0) : Below w.heap.size w W0 := h ▸ allocs_below _ w
theorem lL {a b c : Nat} (h : a < b) (k : b ≤ c) : a < c := by omega
theorem Blk.put {w : World} {b : Nat} {cs : List Value} {t : TypeId} (h : Blk w b cs t) {D : Nat} (hne : b ≠ D) (o : Obj) : Blk (w.putObj D o) b cs t := h.of_same (World.putObj_heap_other hne)
end Go.Rg
namespace Go.Rg
open Go Go.RowKit
def Moves (w : World) (v v' : Value) : Prop := v'.ownBlock = v.ownBlock ∨ ∃ g, v'.ownBlock = some g ∧ w.heap.size ≤ g
theorem cells_add {w : World} {g off : Nat} {news : List Value} (h : ∀ j x, news[j]? = some x → w.cell? ⟨g, off + j, none⟩ = some x) : ∀ j u, news[j]? = some u → w.cell? ((⟨g, off, none⟩ : Addr).add j) = some u := by
 intro j u hu
 have hadd : (⟨g, off, none⟩ : Addr).add j = ⟨g, off + j, none⟩ := by unfold Addr.add; split <;> simp_all
 rw [hadd]
 exact h j u hu
section
variable {P : Program} (w : World)
theorem run_append2 (base : Nat) (t ty e : TypeId) (i : TypeInfo) (z : Value) (size bytes : Nat) (ht : P.underlying t = some (.slice e)) (hi : P.info? e = some i) (hz : i.zero = some z)
  (hsize : i.size = size) (hby : i.bytes = bytes) (hzs : z.cells.size = size) (hsz : 0 < size)
  (v : Value) (n : Nat) (xs : List Value) (hown : w.ownsRow base e size v n xs)
  (x : Value) (B m : Nat) (news : List Value) (hx : Reads w B x m news) (hl : news.length = m * size) (h1 : ∀ u ∈ news, u.oneCell' = true)
  (h63 : n + m ≤ maxLen) (hbytes : (n + m) * bytes ≤ 140737488355328) (hbase : base ≤ w.heap.size) :
  ∃ v' w', (Builtin.append_ #[t, t] ty #[v, x]).run P w = .ok v' w' ∧ w'.ownsRow base e size v' (n + m) (xs ++ news) ∧ w.grownBy w' v.ownBlock ∧ Moves w v v' := by
 rcases hx with ⟨rfl, rfl, rfl⟩ | ⟨ga, off, c, rfl, _, _, _, hc⟩
 ·rcases hown.2 with ⟨rfl, rfl⟩ | ⟨g, cap, cur, rfl, hbg, hg, hnc, hcm, hcs, htake⟩
  ·refine ⟨.slice none 0 0, w, ?_, by simpa using hown, ⟨rfl, rfl, rfl, Nat.le_refl _, fun _ _ _ => rfl⟩, .inl rfl⟩
   simp [Builtin.append_, run_underlying ht, sizeOf, typeInfo, hi, Builtin.lenOf, Builtin.firstCells]
  ·refine ⟨.slice (some ⟨g, 0, none⟩) n cap, w, ?_, by simpa using hown, ⟨rfl, rfl, rfl, Nat.le_refl _, fun _ _ _ => rfl⟩, .inl rfl⟩
   simp [Builtin.append_, run_underlying ht, sizeOf, typeInfo, hi, Builtin.lenOf, Builtin.firstCells, hnc, storeCells]
 ·have hnews := cells_add hc
  obtain ⟨v', w', hr, h2, h3, h4⟩ := run_append_own (P := P) w base t ty e i z size bytes ht hi hz hsize hby hzs hsz v n xs hown ⟨ga, off, none⟩ m c news hl hnews h1 h63 hbytes hbase
  refine ⟨v', w', hr, h2, h3, ?_⟩
  subst hsize
  subst hby
  have hsmall : n + m ≤ 9223372036854775807 := by simp only [maxLen] at h63; omega
  rcases hown.2 with ⟨rfl, rfl⟩ | ⟨g, cap, cur, rfl, hbg, hg, hnc, hcm, hcs, htake⟩
  ·by_cases hm : m = 0
   ·have := h4.2 ⟨rfl, hm⟩
    subst this
    exact .inl rfl
   ·have hr2 := run_append_nil (P := P) w t ty e i z ht hi hz ⟨ga, off, none⟩ m c news hl hnews (by omega) (by omega) (by have hb := hbytes; simp only [Nat.zero_add] at hb; omega)
    rw [hr2] at hr
    cases hr
    exact .inr ⟨_, rfl, Nat.le_refl _⟩
  ·by_cases hroom : n + m ≤ cap
   ·have hfit : n * i.size + news.length ≤ cur.size := by rw [hl, hcs, ← Nat.add_mul]; exact Nat.mul_le_mul_right _ hroom
    have hr2 := run_append_room (P := P) w t ty e i ht hi g n cap cur hg ⟨ga, off, none⟩ m c news hl hnews h1 hroom hfit
    rw [hr2] at hr
    cases hr
    exact .inl rfl
   ·have holds : ∀ j u, xs[j]? = some u → w.cell? ((⟨g, 0, none⟩ : Addr).add j) = some u := hown.cells (g := g) rfl
    have hr2 := run_append_grow (P := P) w t ty e i z ht hi hz ⟨g, 0, none⟩ n cap xs hown.1 holds ⟨ga, off, none⟩ m c news hl hnews (by omega) (by omega) (growslice_fits (by omega) hbytes)
    rw [hr2] at hr
    cases hr
    exact .inr ⟨_, rfl, Nat.le_refl _⟩
end
def BytesAt (w : World) (b : Nat) (l : List UInt8) : Prop := ∀ j c, l[j]? = some c → w.cell? ⟨b, j, none⟩ = some (.int .u8 (c.toNat : Int)) ∧ w.frozen? ⟨b, j, none⟩ = false
theorem BytesAt.set {w : World} {b : Nat} {l : List UInt8} (h : BytesAt w b l) (k : Nat) (c : UInt8) : BytesAt (w.setCell ⟨b, k, none⟩ (.int .u8 (c.toNat : Int))) b (l.set k c) := by
 intro j d hj
 rw [List.getElem?_set] at hj
 split at hj
 ·rename_i e
  subst e
  split at hj
  ·rename_i hlt
   cases hj
   obtain ⟨h1, h2⟩ := h k l[k] (List.getElem?_eq_getElem hlt)
   exact ⟨World.cell?_setCell_same' _ _ _ (by rw [h1]; rfl), by rw [World.frozen?_setCell]; exact h2⟩
  ·cases hj
 ·rename_i e
  obtain ⟨h1, h2⟩ := h j d hj
  exact ⟨by rw [World.cell?_setCell_other (h := fun h => e (by cases h; rfl))]; exact h1, by rw [World.frozen?_setCell]; exact h2⟩
end Go.Rg
namespace Go.Rg
open Go Go.RowKit
structure Upd (R : Nat) (W W' : World) : Prop where
 os : W'.os = W.os
 tape : W'.tape = W.tape
 output : W'.output = W.output
 size : W.heap.size ≤ W'.heap.size
 same : ∀ k, k ≠ R → k < W.heap.size → W'.heap[k]? = W.heap[k]?
theorem Upd.refl (R : Nat) (W : World) : Upd R W W := ⟨rfl, rfl, rfl, Nat.le_refl _, fun _ _ _ => rfl⟩
theorem Upd.trans {R : Nat} {A B C : World} (h : Upd R A B) (k : Upd R B C) : Upd R A C :=
 ⟨k.os.trans h.os, k.tape.trans h.tape, k.output.trans h.output, Nat.le_trans h.size k.size, fun i hi hl => (k.same i hi (Nat.lt_of_lt_of_le hl h.size)).trans (h.same i hi hl)⟩
theorem Upd.of_below {R : Nat} {A B : World} (h : Below A.heap.size A B) : Upd R A B := ⟨h.os, h.tape, h.output, h.size, fun k _ hk => h.block k hk⟩
theorem Upd.call {R : Nat} {A B C : World} (h : Upd R A B) (k : Below B.heap.size B C) : Upd R A C := h.trans (.of_below k)
theorem Upd.alloc {R : Nat} {A B : World} (h : Upd R A B) (o : Obj) : Upd R A (B.alloc o) := h.call ((Below.refl _ B).alloc (Nat.le_refl _) o)
theorem Upd.drew {R : Nat} {A B : World} (h : Upd R A B) : Upd R A B.drew := ⟨h.os, h.tape, h.output, h.size, h.same⟩
theorem Upd.set {R : Nat} {A B : World} (h : Upd R A B) (o : Nat) (v : Value) : Upd R A (B.setCell ⟨R, o, none⟩ v) :=
 h.trans ⟨rfl, rfl, rfl, by simp [World.setCell], fun k hk _ => Below.heap_setCell _ _ _ _ hk⟩
theorem Upd.grown {R : Nat} {A B C : World} {row : Option Nat} (h : Upd R A B) (hg : B.grownBy C row) (hr : ∀ k, row = some k → A.heap.size ≤ k) : Upd R A C :=
 ⟨hg.os.trans h.os, hg.tape.trans h.tape, hg.output.trans h.output, Nat.le_trans h.size hg.size, fun k hk hl => (hg.block k (Nat.lt_of_lt_of_le hl h.size) (fun e => by have := hr k e.symm; omega)).trans (h.same k hk hl)⟩
theorem Upd.below {R B : Nat} {W W' : World} (h : Upd R W W') (hB : B ≤ R) (hs : B ≤ W.heap.size) : Below B W W' := ⟨h.os, h.tape, h.output, h.size, fun k hk => h.same k (by omega) (by omega)⟩
theorem Upd.kept {R : Nat} {S : Nat → Prop} {W W' : World} (h : Upd R W W') (hR : ¬ S R) (hS : ∀ k, S k → k < W.heap.size) : Kept S W W' := ⟨h.os, h.tape, h.output, h.size, fun k hk => h.same k (fun e => hR (e ▸ hk)) (hS k hk)⟩
theorem Blk.upd {R : Nat} {w w' : World} {b : Nat} {cs : List Value} {t : TypeId} (h : Blk w b cs t) (hx : Upd R w w') (hb : b ≠ R) : Blk w' b cs t := h.of_same (hx.same b hb h.lt)
def Rds (R : Nat) (w : World) (v : Value) (n : Nat) (xs : List Value) : Prop :=
 (v = .slice none 0 0 ∧ n = 0 ∧ xs = []) ∨
 ∃ g off cap, v = .slice (some ⟨g, off, none⟩) n cap ∧ g ≠ R ∧ g < w.heap.size ∧ n ≤ cap ∧ cap ≤ maxLen ∧ ∀ j x, xs[j]? = some x → w.cell? ⟨g, off + j, none⟩ = some x
theorem Rds.nil (R : Nat) (w : World) : Rds R w (.slice none 0 0) 0 [] := .inl ⟨rfl, rfl, rfl⟩
theorem Rds.upd {R : Nat} {w w' : World} {v : Value} {n : Nat} {xs : List Value} (h : Rds R w v n xs) (hx : Upd R w w') : Rds R w' v n xs := by
 rcases h with h | ⟨g, off, cap, h1, h2, h3, h4, h5, h6⟩
 ·exact .inl h
 ·exact .inr ⟨g, off, cap, h1, h2, Nat.lt_of_lt_of_le h3 hx.size, h4, h5, fun j x hj => (World.cell?_of_block (hx.same g h2 h3)).trans (h6 j x hj)⟩
theorem Rds.ext {R B : Nat} {w w' : World} {v : Value} {n : Nat} {xs : List Value} (h : Rds R w v n xs) (hx : Ext B w w') : Rds R w' v n xs := by
 rcases h with h | ⟨g, off, cap, h1, h2, h3, h4, h5, h6⟩
 ·exact .inl h
 ·exact .inr ⟨g, off, cap, h1, h2, Nat.lt_of_lt_of_le h3 hx.size, h4, h5, fun j x hj => hx.cell (h6 j x hj)⟩
theorem Rds.call {R : Nat} {w w' : World} {v : Value} {n : Nat} {xs : List Value} (h : Rds R w v n xs) (hx : Below w.heap.size w w') : Rds R w' v n xs := h.upd (.of_below hx)
theorem Rds.alloc {R : Nat} {w : World} {v : Value} {n : Nat} {xs : List Value} (h : Rds R w v n xs) (o : Obj) : Rds R (w.alloc o) v n xs := h.call ((Below.refl _ w).alloc (Nat.le_refl _) o)
theorem Rds.of_own {R : Nat} {w : World} {base e size : Nat} {v : Value} {n : Nat} {xs : List Value} (h : w.ownsRow base e size v n xs) (hR : R < base) : Rds R w v n xs := by
 have hr := Reads.of_own h
 rcases hr with hr | ⟨g, off, cap, h1, h2, h3⟩
 ·exact .inl hr
 ·exact .inr ⟨g, off, cap, h1, by have := (h.lt g (by rw [h1]; rfl)).1; omega, h2, h3⟩
def RdT (T : TypeId) (w : World) (v : Value) (n : Nat) (xs : List Value) : Prop :=
 (v = .slice none 0 0 ∧ n = 0 ∧ xs = []) ∨
 ∃ g off cap cs fz, v = .slice (some ⟨g, off, none⟩) n cap ∧ w.heap[g]? = some (.cells cs T fz) ∧ n ≤ cap ∧ cap ≤ maxLen ∧ ∀ j x, xs[j]? = some x → cs[off + j]? = some x
def KeepT (T : TypeId) (w w' : World) : Prop := ∀ (g : Nat) (cs : Array Value) (fz : Nat × Nat), w.heap[g]? = some (.cells cs T fz) → w'.heap[g]? = some (.cells cs T fz)
theorem KeepT.refl (T : TypeId) (w : World) : KeepT T w w := fun _ _ _ h => h
theorem KeepT.trans {T : TypeId} {a b c : World} (h : KeepT T a b) (k : KeepT T b c) : KeepT T a c := fun g cs fz x => k g cs fz (h g cs fz x)
theorem KeepT.ext {T : TypeId} {B : Nat} {a b : World} (h : Ext B a b) : KeepT T a b := fun g cs fz x => h.cells g _ x rfl
theorem KeepT.call {T : TypeId} {a b : World} (h : Below a.heap.size a b) : KeepT T a b := fun g cs fz x => (h.block g (Array.getElem?_eq_some_iff.1 x).1).trans x
theorem KeepT.alloc {T : TypeId} {a : World} (o : Obj) : KeepT T a (a.alloc o) := .call ((Below.refl _ a).alloc (Nat.le_refl _) o)
theorem KeepT.upd {T T' : TypeId} {R : Nat} {cs : List Value} {a b : World} (hR : Blk a R cs T') (hT : T' ≠ T) (h : Upd R a b) : KeepT T a b := fun g cs fz x => by
 have hg : g ≠ R := by rintro rfl; unfold Blk at hR; rw [hR] at x; cases x; exact hT rfl
 exact (h.same g hg (Array.getElem?_eq_some_iff.1 x).1).trans x
theorem KeepT.set {T T' : TypeId} {cs : List Value} {a : World} (p : Addr) (hR : Blk a p.block cs T') (hT : T' ≠ T) (v : Value) : KeepT T a (a.setCell p v) := fun g cs fz x => by
 have hg : g ≠ p.block := by rintro rfl; unfold Blk at hR; rw [hR] at x; cases x; exact hT rfl
 exact (Below.heap_setCell a p v g hg).trans x
theorem KeepT.grown {T e : TypeId} {a b : World} {base size n : Nat} {v : Value} {xs : List Value} (ho : a.ownsRow base e size v n xs) (hT : e ≠ T) (h : a.grownBy b v.ownBlock) : KeepT T a b := fun g cs fz x => by
 refine (h.block g (Array.getElem?_eq_some_iff.1 x).1 (fun hr => ?_)).trans x
 rcases ho.2 with ⟨rfl, _⟩ | ⟨g', cap, cur, rfl, _, hg', _⟩
 ·simp [Value.ownBlock] at hr
 ·simp [Value.ownBlock] at hr
  subst hr
  rw [hg'] at x; cases x; exact hT rfl
theorem RdT.nil (T : TypeId) (w : World) : RdT T w (.slice none 0 0) 0 [] := .inl ⟨rfl, rfl, rfl⟩
theorem RdT.keep {T : TypeId} {w w' : World} {v : Value} {n : Nat} {xs : List Value} (h : RdT T w v n xs) (hx : KeepT T w w') : RdT T w' v n xs := by
 rcases h with h | ⟨g, off, cap, cs, fz, h1, h2, h3⟩
 ·exact .inl h
 ·exact .inr ⟨g, off, cap, cs, fz, h1, hx _ _ _ h2, h3⟩
theorem RdT.of_own {e : TypeId} {w : World} {base size n : Nat} {v : Value} {xs : List Value} (h : w.ownsRow base e size v n xs) : RdT e w v n xs := by
 obtain ⟨hl, h⟩ := h
 rcases h with ⟨rfl, rfl⟩ | ⟨g, cap, cur, rfl, hb, hg, hn, hc, hs, ht⟩
 ·exact .inl ⟨rfl, rfl, List.eq_nil_of_length_eq_zero (by simpa using hl)⟩
 ·refine .inr ⟨g, 0, cap, cur, _, rfl, hg, hn, hc, fun j x hj => ?_⟩
  rw [← ht, List.getElem?_take] at hj
  split at hj
  ·simpa using hj
  ·cases hj
theorem RdT.new {W : World} (cs : List Value) (t : TypeId) (n c : Nat) (hn : n ≤ c) (hc : c ≤ maxLen) : RdT t (W.alloc (.cells cs.toArray t)) (.slice (some ⟨W.heap.size, 0, none⟩) n c) n cs :=
 .inr ⟨_, 0, c, cs.toArray, _, rfl, World.alloc_heap_new W _, hn, hc, fun j x hj => by rw [Nat.zero_add]; simpa using hj⟩
theorem RdT.lt {T : TypeId} {w : World} {v : Value} {n : Nat} {xs : List Value} (h : RdT T w v n xs) : n ≤ maxLen := by
 rcases h with ⟨_, rfl, _⟩ | ⟨g, off, cap, cs, fz, h1, h2, h3, h4, h5⟩
 ·exact Nat.zero_le _
 ·omega
end Go.Rg
namespace Go.Wd
open Go
abbrev B : Nat := 18446744073709551616
abbrev B4 : Nat := 115792089237316195423570985008687907853269984665640564039457584007913129639936
abbrev H4 : Nat := 57896044618658097711785492504343953926634992332820282019728792003956564819968
def lb (n i : Nat) : Nat := n / B ^ i % B
theorem lb_lt (n i : Nat) : lb n i < B := Nat.mod_lt _ (by decide)
def ws (k n : Nat) : List Nat := (List.range k).map (lb n)
abbrev u64 (n : Nat) : Value := .int .u64 (n : Int)
def uL (n : Nat) : List Value := [u64 (lb n 0), u64 (lb n 1), u64 (lb n 2), u64 (lb n 3)]
abbrev U (n : Nat) : Value := .agg #[u64 (lb n 0), u64 (lb n 1), u64 (lb n 2), u64 (lb n 3)]
theorem uL_at (n i : Nat) (h : i < 4) : (uL n)[i]? = some (u64 (lb n i)) := by
 have : i = 0 ∨ i = 1 ∨ i = 2 ∨ i = 3 := by omega
 rcases this with rfl | rfl | rfl | rfl <;> rfl
theorem mod_succ (n i : Nat) : n % B ^ (i + 1) = n % B ^ i + B ^ i * lb n i := by
 unfold lb
 rw [Nat.pow_succ, Nat.mod_mul]
theorem div_succ (n i : Nat) : n / B ^ (i + 1) = n / B ^ i / B := by rw [Nat.pow_succ, Nat.div_div_eq_div_mul]
def car (a b c i : Nat) : Nat := (a % B ^ i + b % B ^ i + c) / B ^ i
theorem car_zero (a b c : Nat) : car a b c 0 = c := by unfold car; simp [Nat.mod_one]
theorem car_succ (a b c i : Nat) : car a b c (i + 1) = (lb a i + lb b i + car a b c i) / B := by
 unfold car
 rw [mod_succ, mod_succ, Nat.pow_succ, ← Nat.div_div_eq_div_mul]
 congr 1
 have hp : 0 < B ^ i := Nat.pow_pos (by decide)
 rw [show a % B ^ i + B ^ i * lb a i + (b % B ^ i + B ^ i * lb b i) + c = (a % B ^ i + b % B ^ i + c) + B ^ i * (lb a i + lb b i) by rw [Nat.mul_add]; omega]
 rw [Nat.add_mul_div_left _ _ hp]
 omega
theorem car_le (a b c i : Nat) (hc : c ≤ 1) : car a b c i ≤ 1 := by
 unfold car
 have hp : 0 < B ^ i := Nat.pow_pos (by decide)
 have h1 := Nat.mod_lt a hp
 have h2 := Nat.mod_lt b hp
 have : (a % B ^ i + b % B ^ i + c) / B ^ i < 2 := by rw [Nat.div_lt_iff_lt_mul hp]; omega
 omega
theorem lb_add (a b c i : Nat) : lb (a + b + c) i = (lb a i + lb b i + car a b c i) % B := by
 have hp : 0 < B ^ i := Nat.pow_pos (by decide)
 have e : a + b + c = (a % B ^ i + b % B ^ i + c) + B ^ i * (a / B ^ i + b / B ^ i) := by
  have h1 := Nat.mod_add_div a (B ^ i)
  have h2 := Nat.mod_add_div b (B ^ i)
  rw [Nat.mul_add]; omega
 have e2 : (a + b + c) / B ^ i = car a b c i + (a / B ^ i + b / B ^ i) := by
  conv => lhs; rw [e]
  rw [Nat.add_mul_div_left _ _ hp]; rfl
 unfold lb
 rw [e2]
 generalize a / B ^ i = x
 generalize b / B ^ i = y
 generalize car a b c i = k
 show (k + (x + y)) % 18446744073709551616 = (x % 18446744073709551616 + y % 18446744073709551616 + k) % 18446744073709551616
 omega
theorem lb_ext {a b : Nat} (h : ∀ i, i < 4 → lb a i = lb b i) : a % B4 = b % B4 := by
 have key : ∀ n : Nat, n % B4 = lb n 0 + B * lb n 1 + B ^ 2 * lb n 2 + B ^ 3 * lb n 3 := by
  intro n
  have e : B4 = B ^ (3 + 1) := by decide
  rw [e, mod_succ, show (3 : Nat) = 2 + 1 from rfl, mod_succ, show (2 : Nat) = 1 + 1 from rfl, mod_succ, show (1 : Nat) = 0 + 1 from rfl, mod_succ]
  simp [Nat.mod_one]
 rw [key a, key b, h 0 (by omega), h 1 (by omega), h 2 (by omega), h 3 (by omega)]
theorem lb_mod (n i : Nat) (h : i < 4) : lb (n % B4) i = lb n i := by
 unfold lb
 have : i = 0 ∨ i = 1 ∨ i = 2 ∨ i = 3 := by omega
 rcases this with rfl | rfl | rfl | rfl <;> simp only [B, B4, Nat.reducePow] <;> omega
theorem U_mod (n : Nat) : U (n % B4) = U n := by
 unfold U; rw [lb_mod n 0 (by omega), lb_mod n 1 (by omega), lb_mod n 2 (by omega), lb_mod n 3 (by omega)]
theorem U_eq {a b : Nat} (h : a % B4 = b % B4) : U a = U b := by rw [← U_mod a, h, U_mod]
def tc (z : Int) : Nat := (z % (B4 : Int)).toNat
abbrev wI (z : Int) : Value := U (tc z)
theorem tc_cast (z : Int) : (tc z : Int) = z % (B4 : Int) := by
 unfold tc
 exact Int.toNat_of_nonneg (Int.emod_nonneg _ (by decide))
theorem tc_lt (z : Int) : tc z < B4 := by
 have h := tc_cast z
 have := Int.emod_lt_of_pos z (show (0 : Int) < (B4 : Int) by decide)
 omega
def sumL (s i : Nat) : List Value := (List.range 4).map fun j => if j < i then u64 (lb s j) else u64 0
theorem sumL_set (s i : Nat) (h : i < 4) : (sumL s i).set i (u64 (lb s i)) = sumL s (i + 1) := by
 have : i = 0 ∨ i = 1 ∨ i = 2 ∨ i = 3 := by omega
 rcases this with rfl | rfl | rfl | rfl <;> rfl
theorem sumL_at (s i j : Nat) (h : j < 4) : (sumL s i)[j]? = some (if j < i then u64 (lb s j) else u64 0) := by
 have : j = 0 ∨ j = 1 ∨ j = 2 ∨ j = 3 := by omega
 rcases this with rfl | rfl | rfl | rfl <;> rfl
theorem wI_nonneg {n : Int} (h1 : 0 ≤ n) (h2 : n ≤ 9223372036854775807) : wI n = .agg #[.int .u64 n, .int .u64 0, .int .u64 0, .int .u64 0] := by
 obtain ⟨k, rfl⟩ := Int.eq_ofNat_of_zero_le h1
 have hb : tc (k : Int) = k := by
  have := tc_cast (k : Int)
  simp only [B4] at this
  omega
 unfold wI U u64 lb
 rw [hb]
 have e0 : k / B ^ 0 % B = k := by simp only [B, Nat.reducePow, Nat.div_one]; omega
 have e1 : k / B ^ 1 % B = 0 := by simp only [B, Nat.reducePow]; omega
 have e2 : k / B ^ 2 % B = 0 := by simp only [B, Nat.reducePow]; omega
 have e3 : k / B ^ 3 % B = 0 := by simp only [B, Nat.reducePow]; omega
 rw [e0, e1, e2, e3]
 rfl
theorem wI_neg {n : Int} (h1 : -9223372036854775808 ≤ n) (h2 : n < 0) : wI n = .agg #[.int .u64 (n + 18446744073709551616), .int .u64 18446744073709551615, .int .u64 18446744073709551615, .int .u64 18446744073709551615] := by
 obtain ⟨k, hk⟩ : ∃ k : Nat, n = -(k : Int) := ⟨n.natAbs, by omega⟩
 have hb : tc n = 115792089237316195423570985008687907853269984665640564039457584007913129639936 - k := by
  have := tc_cast n
  simp only [B4] at this
  omega
 unfold wI U u64 lb
 rw [hb]
 have e0 : (115792089237316195423570985008687907853269984665640564039457584007913129639936 - k) / B ^ 0 % B = 18446744073709551616 - k := by simp only [B, Nat.reducePow, Nat.div_one]; omega
 have e1 : (115792089237316195423570985008687907853269984665640564039457584007913129639936 - k) / B ^ 1 % B = 18446744073709551615 := by simp only [B, Nat.reducePow]; omega
 have e2 : (115792089237316195423570985008687907853269984665640564039457584007913129639936 - k) / B ^ 2 % B = 18446744073709551615 := by simp only [B, Nat.reducePow]; omega
 have e3 : (115792089237316195423570985008687907853269984665640564039457584007913129639936 - k) / B ^ 3 % B = 18446744073709551615 := by simp only [B, Nat.reducePow]; omega
 rw [e0, e1, e2, e3]
 have : ((18446744073709551616 - k : Nat) : Int) = n + 18446744073709551616 := by omega
 rw [this]
 rfl
end Go.Wd
namespace Go.Rg
open Go Go.RowKit
def plainOp (o : Oper) : Bool := match o.op with | .defer _ => false | _ => true
theorem plainOp_spec {o : Oper} (h : plainOp o = true) (c : Call) : o.op ≠ .defer c := by
 intro e; unfold plainOp at h; rw [e] at h; cases h
theorem wpIn_round {P : Program} {n : Nat} {o : Oper} (l : Nat) (hp : plainOp o = true) {a : Act} {w : World} {K : Act → World → Prop} {Q : Exit → Act → World → Prop} (h : o.wpIn (WF none) n P a w K Q) : o.wpIn (WF (some l)) n P a w K Q := by
 unfold Oper.wpIn at *
 refine ⟨fun f _ => trivial, ?_⟩
 have e1 : o.semAt (WF (some l)).round a.eval = o.semAt (WF none).round a.eval := by
  show Oper.semAt (some l) a.eval o = Oper.semAt none a.eval o
  rw [Oper.semAt_some l _ _ (plainOp_spec hp)]
  rfl
 rw [e1]
 exact h.2
end Go.Rg
namespace Go.Rg
open Go Go.RowKit
theorem wpIn_of_wp {P : Program} {n : Nat} {o : Oper} {a : Act} {w : World} {K : Act → World → Prop} {Q : Exit → Act → World → Prop} (h : o.wp P a w K Q) : o.wpIn (WF none) n P a w K Q := by
 unfold Oper.wpIn
 unfold Oper.wp at h
 refine ⟨fun _ _ => trivial, ?_⟩
 show o.uponIn (WF none) n P a K Q ((execOp a.eval o).run P w)
 generalize (execOp a.eval o).run P w = r at *
 cases r with
 | ok n w' =>
  cases n with
  | value v => exact h
  | skip => exact h
  | defer d => exact h
  | enter f args =>
   refine ⟨fun h => absurd h (by simp), (callsIn_wide.2 h).mono ?_⟩
   intro e w' he
   cases e <;> exact he
  | row row args => exact ⟨fun h => absurd h (by simp), fun c cs _ => let ⟨v, w', r, s⟩ := h c cs; ⟨v, w', r, stepsIn_wide.2 s⟩⟩
  | _ => exact h.elim
 | halt x w' =>
  cases x <;> exact h
section
variable {P : Program} {ops : Array Oper} {Q : Exit → Act → World → Prop} {md : Region.Mode} {S : World → Prop} {late : Nat → Bool}
def wpAnyG (P : Program) (md : Region.Mode) (ops : Array Oper) (Q : Exit → Act → World → Prop) (S : World → Prop) (late : Nat → Bool) : Nat → Array Bool → Act → World → Prop
 | 0, listed, a, w => Region.ready md ops listed = [] ∧ Q .normal a w
 | fuel + 1, listed, a, w => (Region.ready md ops listed = [] → Q .normal a w) ∧
  ∀ i ∈ Region.ready md ops listed, wpOp P ops Q i (fun a' w' => (late i = false → S w') ∧ wpAnyG P md ops Q S late fuel (listed.setIfInBounds i true) a' w') a w
def waits (md : Region.Mode) (ops : Array Oper) (late : Nat → Bool) (i : Nat) : Bool :=
 (List.range ops.size).all fun j => !late j || (match ops[j]? with | none => true | some o => o.after.any fun e => Region.binds md e && e.on == i)
def AllReadyG (P : Program) (md : Region.Mode) (ops : Array Oper) (Q : Exit → Act → World → Prop) (S : World → Prop) (late : Nat → Bool) (fuel : Nat) (listed : Array Bool) (a : Act) (w : World) (rs : List Nat) : Prop :=
 ∀ i ∈ rs, wpOp P ops Q i (fun a' w' => (late i = false → S w') ∧ wpAnyG P md ops Q S late fuel (listed.setIfInBounds i true) a' w') a w
theorem AllReadyG.nil {fuel : Nat} {listed : Array Bool} {a : Act} {w : World} : AllReadyG P md ops Q S late fuel listed a w [] := fun _ h => by cases h
theorem AllReadyG.cons {fuel : Nat} {listed : Array Bool} {a : Act} {w : World} {i : Nat} {o : Oper} {rs : List Nat} (ho : ops[i]? = some o)
  (h : ∀ K' : Act → World → Prop, Shut (∀ a w, (late i = false → S w) → wpAnyG P md ops Q S late fuel (listed.setIfInBounds i true) a w → K' a w) → if Region.wanted o (yielded ops a.tmps) = true then Oper.wp P o a w K' Q else K' (a.put o.dst undef) w)
  (hs : AllReadyG P md ops Q S late fuel listed a w rs) : AllReadyG P md ops Q S late fuel listed a w (i :: rs) := fun j hj => by
 rcases List.mem_cons.1 hj with rfl | hj
 ·exact wpOp_step ho (fun K' hK => h K' (fun a w hS hW => hK a w ⟨hS, hW⟩))
 ·exact hs j hj
end
end Go.Rg
namespace Go.Proofs.YtlkhneiccjhgdaaGreat
open Go.RowKit Go.Rg Go.Wd
attribute [local go_sem] Oper.semAt_some
theorem wideOf_any (n : Int) (h1 : -9223372036854775808 ≤ n) (h2 : n ≤ 9223372036854775807) (w : World) :
  Calls Tryz.prog 88 #[.int .i64 n] w fun e w' => e = .returned (wI n) ∧ Below w.heap.size w w' := by
 go_enter Tryz.func88, Tryz.ntmps88
 by_cases hn : n < 0
 ·go_wp2_with fail
  go_rounds 4
  go_returns
  have e : IntKind.u64.wrap n = n + 18446744073709551616 := by rw [IntKind.wrap_u64]; omega
  refine ⟨by rw [wI_neg h1 hn, e], by go_grown⟩
 ·go_wp2_with fail
  go_returns
  exact ⟨by rw [wI_nonneg (by omega) h2], by go_grown⟩
theorem add64_any (x y c : Nat) (hc : c ≤ 1) (w : World) :
  (callFunc 239 #[.int .u64 (x : Int), .int .u64 (y : Int), .int .u64 (c : Int)]).run Tryz.prog w =
   .ok (.value (.tuple #[u64 ((x + y + c) % 18446744073709551616), u64 ((x + y + c) / 18446744073709551616)])) w := by
 rw [run_callFunc_extern Tryz.func239 (by kernel_rfl) (by kernel_rfl) (by kernel_rfl) (e := add64Entry) (by kernel_rfl), run_add64 x y c (by omega) (by omega) (by omega) (by omega)]
 simp only [Result.andThen]
 unfold u64
 congr 5 <;> omega
theorem four {T' : TypeId} {X : World} {b : Nat} {cs : List Value} (h : Blk X b cs T') (v0 v1 v2 v3 : Value) :
  (∀ B, B ≤ b → ∀ {w : World}, Below B w X → Below B w ((((X.setCell ⟨b, 0, none⟩ v0).setCell ⟨b, 1, none⟩ v1).setCell ⟨b, 2, none⟩ v2).setCell ⟨b, 3, none⟩ v3)) ∧
  Blk ((((X.setCell ⟨b, 0, none⟩ v0).setCell ⟨b, 1, none⟩ v1).setCell ⟨b, 2, none⟩ v2).setCell ⟨b, 3, none⟩ v3) b ((((cs.set 0 v0).set 1 v1).set 2 v2).set 3 v3) T' :=
 ⟨fun B hB w hw => (((hw.setCell (p := ⟨b, 0, none⟩) hB v0).setCell (p := ⟨b, 1, none⟩) hB v1).setCell (p := ⟨b, 2, none⟩) hB v2).setCell (p := ⟨b, 3, none⟩) hB v3, (((h.set 0 v0).set 1 v1).set 2 v2).set 3 v3⟩
theorem widePlus_any (a b c : Nat) (hc : c ≤ 1) (w : World) :
  Calls Tryz.prog 207 #[U a, U b, u64 c] w fun e w' => e = .returned (U (a + b + c)) ∧ Below w.heap.size w w' := by
 obtain ⟨W0, hW0⟩ : ∃ W0, [.cells #[u64 (lb a 0), u64 (lb a 1), u64 (lb a 2), u64 (lb a 3)] 76, .cells #[u64 (lb b 0), u64 (lb b 1), u64 (lb b 2), u64 (lb b 3)] 76, .cells #[.int .u64 0, .int .u64 0, .int .u64 0, .int .u64 0] 76, .cells #[.int .u64 0, .int .u64 0, .int .u64 0, .int .u64 0] 76].foldl World.alloc w = W0 := ⟨_, rfl⟩
 have B0 : Blk W0 w.heap.size (uL a) 76 := Blk.allocs _ hW0 0 rfl
 have B1 : Blk W0 (w.heap.size + 1) (uL b) 76 := Blk.allocs _ hW0 1 rfl
 have B2 : Blk W0 (w.heap.size + 2) (sumL (a + b + c) 0) 76 := Blk.allocs _ hW0 2 rfl
 have B3 : Blk W0 (w.heap.size + 3) (sumL (a + b + c) 0) 76 := Blk.allocs _ hW0 3 rfl
 have hBel : Below w.heap.size w W0 := hW0 ▸ allocs_below _ w
 have Hc := hH hc
 unfold U
 simp only [List.foldl_cons, List.foldl_nil] at hW0
 clear hc
 go_enter Tryz.func207, Tryz.ntmps207
 go_wp2_with fail
 go_loopg [2, 9] 4 (fun q s2 s9 wx => ∃ i : Nat, i + q = 4 ∧ s9 = .int .i64 (i : Int) ∧ s2 = u64 (car a b c i) ∧ Hid (Blk wx w.heap.size (uL a) 76) ∧ Hid (Blk wx (w.heap.size + 1) (uL b) 76) ∧ Hid (Blk wx (w.heap.size + 2) (sumL (a + b + c) 0) 76) ∧ Hid (Blk wx (w.heap.size + 3) (sumL (a + b + c) i) 76) ∧ Hid (Below w.heap.size w wx))
 case atStart => exact ⟨0, by omega, rfl, by rw [car_zero], B0, B1, B2, B3, hBel⟩
 case round =>
  clear B0 B1 B2 B3 hBel hW0
  obtain ⟨i, hiq, rfl, rfl, H0, H1, H2, H3, HB⟩ := hrel
  cases gk with
  | zero =>
   have hin : i = 4 := by omega
   subst hin
   have q0 : wr.cell? ⟨w.heap.size + 1 + 1 + 1, 0, none⟩ = some (u64 (lb (a + b + c) 0)) := H3.out.cell (j := 0) rfl
   have q1 : wr.cell? ⟨w.heap.size + 1 + 1 + 1, 1, none⟩ = some (u64 (lb (a + b + c) 1)) := H3.out.cell (j := 1) rfl
   have q2 : wr.cell? ⟨w.heap.size + 1 + 1 + 1, 2, none⟩ = some (u64 (lb (a + b + c) 2)) := H3.out.cell (j := 2) rfl
   have q3 : wr.cell? ⟨w.heap.size + 1 + 1 + 1, 3, none⟩ = some (u64 (lb (a + b + c) 3)) := H3.out.cell (j := 3) rfl
   have r0 : wr.cell? ⟨w.heap.size + 1 + 1, 0, none⟩ = some (.int .u64 0) := H2.out.cell (j := 0) rfl
   have r1 : wr.cell? ⟨w.heap.size + 1 + 1, 1, none⟩ = some (.int .u64 0) := H2.out.cell (j := 1) rfl
   have r2 : wr.cell? ⟨w.heap.size + 1 + 1, 2, none⟩ = some (.int .u64 0) := H2.out.cell (j := 2) rfl
   have r3 : wr.cell? ⟨w.heap.size + 1 + 1, 3, none⟩ = some (.int .u64 0) := H2.out.cell (j := 3) rfl
   have f0 : ∀ k, wr.frozen? ⟨w.heap.size + 1 + 1, k, none⟩ = false := fun k => H2.out.frozen k
   go_wp2_with fail
   have hF := four H2.out (u64 (lb (a + b + c) 0)) (u64 (lb (a + b + c) 1)) (u64 (lb (a + b + c) 2)) (u64 (lb (a + b + c) 3))
   have s0 := hF.2.cell (j := 0) rfl
   have s1 := hF.2.cell (j := 1) rfl
   have s2 := hF.2.cell (j := 2) rfl
   have s3 := hF.2.cell (j := 3) rfl
   refine bodyPost_ret (v := .agg #[u64 (lb (a + b + c) 0), u64 (lb (a + b + c) 1), u64 (lb (a + b + c) 2), u64 (lb (a + b + c) 3)]) (by simp [results, Tryz.results207, go_sem, s0, s1, s2, s3]) rfl ⟨rfl, ?_⟩
   exact hF.1 _ (by show _ ≤ w.heap.size + 2; omega) HB.out
  | succ q =>
   have hin : i < 4 := by omega
   have a0 : wr.cell? ⟨w.heap.size, i, none⟩ = some (u64 (lb a i)) := H0.out.cell (uL_at a i hin)
   have b0 : wr.cell? ⟨w.heap.size + 1, i, none⟩ = some (u64 (lb b i)) := H1.out.cell (uL_at b i hin)
   have q0 : wr.cell? ⟨w.heap.size + 1 + 1 + 1, i, none⟩ = some (.int .u64 0) := by
    have := H3.out.cell (sumL_at (a + b + c) i i hin)
    rw [if_neg (Nat.lt_irrefl _)] at this
    exact this
   have f0 : ∀ k, wr.frozen? ⟨w.heap.size + 1 + 1 + 1, k, none⟩ = false := fun k => H3.out.frozen k
   have hadd : ∀ wx : World, (callFunc 239 #[u64 (lb a i), u64 (lb b i), u64 (car a b c i)]).run Tryz.prog wx = .ok (.value (.tuple #[u64 (lb (a + b + c) i), u64 (car a b c (i + 1))])) wx := fun wx => by
    rw [add64_any _ _ _ (car_le _ _ _ _ Hc.out), lb_add, car_succ]
   go_wp2_with fail
   go_region_held3 (fun w' => w'.cell? ⟨w.heap.size, i, none⟩ = some (u64 (lb a i)) ∧ w'.cell? ⟨w.heap.size + 1, i, none⟩ = some (u64 (lb b i))) (first | exact ⟨(H0.out.other ⟨w.heap.size + 1 + 1 + 1, i, none⟩ (by show w.heap.size ≠ w.heap.size + 1 + 1 + 1; omega) _).drew.cell (uL_at a i hin), (H1.out.other ⟨w.heap.size + 1 + 1 + 1, i, none⟩ (by show w.heap.size + 1 ≠ w.heap.size + 1 + 1 + 1; omega) _).drew.cell (uL_at b i hin)⟩ | go_keep) (fail)
   have K0 : Hid (Blk _ w.heap.size (uL a) 76) := (H0.out.other ⟨w.heap.size + 1 + 1 + 1, i, none⟩ (by show w.heap.size ≠ w.heap.size + 1 + 1 + 1; omega) (u64 (lb (a + b + c) i))).drew
   have K1 : Hid (Blk _ (w.heap.size + 1) (uL b) 76) := (H1.out.other ⟨w.heap.size + 1 + 1 + 1, i, none⟩ (by show w.heap.size + 1 ≠ w.heap.size + 1 + 1 + 1; omega) (u64 (lb (a + b + c) i))).drew
   have K2 : Hid (Blk _ (w.heap.size + 2) (sumL (a + b + c) 0) 76) := (H2.out.other ⟨w.heap.size + 1 + 1 + 1, i, none⟩ (by show w.heap.size + 2 ≠ w.heap.size + 1 + 1 + 1; omega) (u64 (lb (a + b + c) i))).drew
   have K3 : Hid (Blk (wr.setCell ⟨w.heap.size + 1 + 1 + 1, i, none⟩ (u64 (lb (a + b + c) i))).drew (w.heap.size + 3) (sumL (a + b + c) (i + 1)) 76) := by
    have := (H3.out.set i (u64 (lb (a + b + c) i))).drew
    rw [sumL_set _ _ hin] at this
    exact this
   have KB : Hid (Below w.heap.size w _) := (HB.out.setCell (p := ⟨w.heap.size + 1 + 1 + 1, i, none⟩) (by show _ ≤ w.heap.size + 1 + 1 + 1; omega) (u64 (lb (a + b + c) i))).drew
   clear H0 H1 H2 H3 HB a0 b0 q0 f0
   go_wp2_with fail
   go_roundg q
   case measure => omega
   case rel => exact ⟨i + 1, by omega, by first | rfl | simp, rfl, K0, K1, K2, K3, KB⟩
end Go.Proofs.YtlkhneiccjhgdaaGreat
namespace Go.Rg
open Go Go.RowKit Go.Wd
theorem kc {B : Nat} {a b : World} {q i : Nat} {v : Value} (h : Below B a b) (hq : q < B) (hc : a.cell? ⟨q, i, none⟩ = some v) : b.cell? ⟨q, i, none⟩ = some v := (World.cell?_of_block (h.block q hq)).trans hc
theorem ks {X : World} {q i : Nat} {v : Value} (a : Addr) (u : Value) (hne : q ≠ a.block) (hc : X.cell? ⟨q, i, none⟩ = some v) : (X.setCell a u).cell? ⟨q, i, none⟩ = some v :=
 (World.cell?_of_block (a := ⟨q, i, none⟩) (Below.heap_setCell _ _ _ _ hne)).trans hc
theorem c4 {w : World} {b : Nat} {a0 a1 a2 a3 : Value} {t : TypeId} (h : Blk w b [a0, a1, a2, a3] t) :
  w.cell? ⟨b, 0, none⟩ = some a0 ∧ w.cell? ⟨b, 1, none⟩ = some a1 ∧ w.cell? ⟨b, 2, none⟩ = some a2 ∧ w.cell? ⟨b, 3, none⟩ = some a3 := ⟨h.cell rfl, h.cell rfl, h.cell rfl, h.cell rfl⟩
theorem f4 {w : World} {b : Nat} {cs : List Value} {t : TypeId} (h : Blk w b cs t) :
  w.frozen? ⟨b, 0, none⟩ = false ∧ w.frozen? ⟨b, 1, none⟩ = false ∧ w.frozen? ⟨b, 2, none⟩ = false ∧ w.frozen? ⟨b, 3, none⟩ = false := ⟨h.frozen _, h.frozen _, h.frozen _, h.frozen _⟩
theorem s4 {T' : TypeId} {X : World} {b : Nat} {cs : List Value} (h : Blk X b cs T') (v0 v1 v2 v3 : Value) :
  (∀ B, B ≤ b → ∀ {w : World}, Below B w X → Below B w ((((X.setCell ⟨b, 0, none⟩ v0).setCell ⟨b, 1, none⟩ v1).setCell ⟨b, 2, none⟩ v2).setCell ⟨b, 3, none⟩ v3)) ∧
  Blk ((((X.setCell ⟨b, 0, none⟩ v0).setCell ⟨b, 1, none⟩ v1).setCell ⟨b, 2, none⟩ v2).setCell ⟨b, 3, none⟩ v3) b ((((cs.set 0 v0).set 1 v1).set 2 v2).set 3 v3) T' :=
 ⟨fun B hB w hw => (((hw.setCell (p := ⟨b, 0, none⟩) hB v0).setCell (p := ⟨b, 1, none⟩) hB v1).setCell (p := ⟨b, 2, none⟩) hB v2).setCell (p := ⟨b, 3, none⟩) hB v3, (((h.set 0 v0).set 1 v1).set 2 v2).set 3 v3⟩
theorem o4 {T' : TypeId} {X : World} {b b' : Nat} {cs : List Value} (h : Blk X b' cs T') (hne : b' ≠ b) (v0 v1 v2 v3 : Value) :
  Blk ((((X.setCell ⟨b, 0, none⟩ v0).setCell ⟨b, 1, none⟩ v1).setCell ⟨b, 2, none⟩ v2).setCell ⟨b, 3, none⟩ v3) b' cs T' :=
 (((h.other ⟨b, 0, none⟩ hne v0).other ⟨b, 1, none⟩ hne v1).other ⟨b, 2, none⟩ hne v2).other ⟨b, 3, none⟩ hne v3
end Go.Rg
namespace Go.Wd
open Go
def Fit (z : Int) : Prop := -(H4 : Int) ≤ z ∧ z < (H4 : Int)
theorem tc_add (x y : Int) (c : Nat) : U (tc x + tc y + c) = wI (x + y + c) := by
 unfold wI
 apply U_eq
 have h1 := tc_cast x
 have h2 := tc_cast y
 have h3 := tc_cast (x + y + c)
 simp only [B4] at h1 h2 h3 ⊢
 omega
theorem tc_not (x : Int) : B4 - 1 - tc x = tc (-x - 1) := by
 have h1 := tc_cast x
 have h2 := tc_cast (-x - 1)
 have h3 := tc_lt x
 simp only [B4] at h1 h2 h3 ⊢
 omega
theorem lb_not (n i : Nat) (h : n < B4) (hi : i < 4) : lb (B4 - 1 - n) i = B - 1 - lb n i := by
 have h3 := h
 have : i = 0 ∨ i = 1 ∨ i = 2 ∨ i = 3 := by omega
 unfold lb
 rcases this with rfl | rfl | rfl | rfl <;> simp only [B, B4, Nat.reducePow, Nat.div_one] at h3 ⊢ <;> omega
theorem tc_neg (z : Int) (hz : Fit z) : decide (z < 0) = decide (9223372036854775808 ≤ lb (tc z) 3) := by
 have h1 := tc_cast z
 have h2 := tc_lt z
 unfold Fit at hz
 unfold lb
 simp only [B, B4, H4, Nat.reducePow] at h1 h2 hz ⊢
 rw [decide_eq_decide]
 omega
end Go.Wd
namespace Go.Rg
open Go Go.RowKit
theorem stays {X w' : World} (h : Below X.heap.size X w') : Below X.heap.size X w' ∧ ∀ q i : Nat, q < X.heap.size → w'.cell? ⟨q, i, none⟩ = X.cell? ⟨q, i, none⟩ := ⟨h, fun q i hq => World.cell?_of_block (h.block q hq)⟩
end Go.Rg
namespace Go.Proofs.YtlkhneiccjhgdaaGreat
open Go.RowKit Go.Rg Go.Wd
attribute [local go_sem] Oper.semAt_some
theorem xor_top (n : Nat) (h : n < 18446744073709551616) : bits .xor .u64 IntKind.u64.max (n : Int) = ((18446744073709551615 - n : Nat) : Int) := by
 have e : IntKind.u64.max = ((18446744073709551615 : Nat) : Int) := by decide
 rw [e, bits_xor_u64_nat _ _ (by decide) h]
 congr 1
 apply Nat.eq_of_testBit_eq
 intro i
 have e1 : 18446744073709551615 - n = 2 ^ 64 - (n + 1) := by omega
 have e2 : (18446744073709551615 : Nat) = 2 ^ 64 - 1 := by decide
 rw [e1, Nat.testBit_xor, e2, Nat.testBit_two_pow_sub_one, Nat.testBit_two_pow_sub_succ h]
 by_cases hi : i < 64
 ·simp [hi]
 ·have : n.testBit i = false := Nat.testBit_lt_two_pow (Nat.lt_of_lt_of_le h (by have : 2 ^ 64 ≤ 2 ^ i := Nat.pow_le_pow_right (by decide) (by omega); exact this))
  simp [hi, this]
theorem wideNeg_any (z : Int) (hz : Fit z) (w : World) :
  Calls Tryz.prog 200 #[wI z] w fun e w' => e = .returned (.bool (decide (z < 0))) ∧ Below w.heap.size w w' := by
 have h := tc_neg z hz
 have hl := lb_lt (tc z) 3
 unfold wI U
 go_enter Tryz.func200, Tryz.ntmps200
 go_wp2_with fail
 go_ret
 refine ⟨?_, by go_grown⟩
 rw [h]
 have e : ((lb (tc z) 3 : Int) / 9223372036854775808 != 0) = decide (9223372036854775808 ≤ lb (tc z) 3) := by
  rw [Bool.eq_iff_iff]
  simp only [bne_iff_ne, ne_eq, decide_eq_true_eq]
  omega
 rw [← e]
 rfl
theorem wideTurned_any (z : Int) (w : World) :
  Calls Tryz.prog 208 #[wI z] w fun e w' => e = .returned (wI (-z - 1)) ∧ Below w.heap.size w w' := by
 unfold wI
 rw [← tc_not]
 have h0 := lb_not (tc z) 0 (tc_lt z) (by omega)
 have h1 := lb_not (tc z) 1 (tc_lt z) (by omega)
 have h2 := lb_not (tc z) 2 (tc_lt z) (by omega)
 have h3 := lb_not (tc z) 3 (tc_lt z) (by omega)
 have l0 := lb_lt (tc z) 0
 have l1 := lb_lt (tc z) 1
 have l2 := lb_lt (tc z) 2
 have l3 := lb_lt (tc z) 3
 unfold U
 rw [h0, h1, h2, h3]
 go_enter Tryz.func208, Tryz.ntmps208
 go_wp2_with fail
 go_rounds 5
 go_returns
 rw [xor_top _ l0, xor_top _ l1, xor_top _ l2, xor_top _ l3]
 exact ⟨rfl, by go_grown⟩
theorem wideKept_any (z : Int) (b : Bool) (w : World) :
  Calls Tryz.prog 240 #[wI z, .bool b] w fun e w' => e = .returned (.tuple #[if b then wI z else wI 0, .bool b]) ∧ Below w.heap.size w w' := by
 unfold wI U
 go_enter Tryz.func240, Tryz.ntmps240
 cases b with
 | false =>
  go_wp2_with fail
  go_returns
  exact ⟨rfl, by go_grown⟩
 | true =>
  go_wp2_with fail
  go_returns
  exact ⟨rfl, by go_grown⟩
end Go.Proofs.YtlkhneiccjhgdaaGreat
namespace Go.Rg
open Go Go.RowKit
structure Stay (D : List Nat) (W W' : World) : Prop where
 os : W'.os = W.os
 tape : W'.tape = W.tape
 output : W'.output = W.output
 size : W.heap.size ≤ W'.heap.size
 same : ∀ k, k ∉ D → k < W.heap.size → W'.heap[k]? = W.heap[k]?
theorem Stay.refl (D : List Nat) (W : World) : Stay D W W := ⟨rfl, rfl, rfl, Nat.le_refl _, fun _ _ _ => rfl⟩
theorem Stay.call {D : List Nat} {A B C : World} (h : Stay D A B) (k : Below B.heap.size B C) : Stay D A C :=
 ⟨k.os.trans h.os, k.tape.trans h.tape, k.output.trans h.output, Nat.le_trans h.size k.size, fun i hi hl => (k.block i (Nat.lt_of_lt_of_le hl h.size)).trans (h.same i hi hl)⟩
theorem Stay.alloc {D : List Nat} {A B : World} (h : Stay D A B) (o : Obj) : Stay D A (B.alloc o) := h.call ((Below.refl _ B).alloc (Nat.le_refl _) o)
theorem Stay.drew {D : List Nat} {A B : World} (h : Stay D A B) : Stay D A B.drew := ⟨h.os, h.tape, h.output, h.size, h.same⟩
theorem Stay.below {D : List Nat} {A B : World} (h : Stay D A B) {n : Nat} (hn : n ≤ A.heap.size) (hD : ∀ d ∈ D, n ≤ d) : Below n A B :=
 ⟨h.os, h.tape, h.output, h.size, fun k hk => h.same k (fun hd => by have := hD k hd; omega) (by omega)⟩
theorem Stay.all {A B : World} (h : Stay [] A B) : Below A.heap.size A B := h.below (Nat.le_refl _) (fun d hd => by cases hd)
theorem Blk.stay {D : List Nat} {w w' : World} {b : Nat} {cs : List Value} {t : TypeId} (h : Blk w b cs t) (hs : Stay D w w') (hb : b ∉ D) : Blk w' b cs t := h.of_same (hs.same b hb h.lt)
theorem Blk.y {D : List Nat} {w w' : World} {b : Nat} {cs : List Value} {t : TypeId} (h : Blk w b cs t) (hs : Stay D w w') (hb : b ∉ D := by simp <;> omega) : Blk w' b cs t := h.stay hs hb
structure Only (b : Nat) (n : Obj) (w w' : World) : Prop where
 os : w'.os = w.os
 tape : w'.tape = w.tape
 output : w'.output = w.output
 size : w'.heap.size = w.heap.size
 new : w'.heap[b]? = some n
 same : ∀ k, k ≠ b → w'.heap[k]? = w.heap[k]?
def putL : List Value → Nat → List Value → List Value
 | cs, _, [] => cs
 | cs, o, v :: r => putL (cs.set o v) (o + 1) r
theorem setCells_only (b : Nat) (t : TypeId) : ∀ (vs : List Value) (o : Nat) (cs : List Value) (w : World), Blk w b cs t → Only b (.cells (putL cs o vs).toArray t (0, 0)) w (w.setCells b o vs)
 | [], o, cs, w, h => ⟨rfl, rfl, rfl, rfl, h, fun _ _ => rfl⟩
 | v :: r, o, cs, w, h => by
  have ih := setCells_only b t r (o + 1) _ _ (h.set o v)
  exact ⟨ih.os, ih.tape, ih.output, by rw [World.setCells, ih.size]; simp [World.setCell], ih.new, fun k hk => (ih.same k hk).trans (Below.heap_setCell w ⟨b, o, none⟩ v k hk)⟩
theorem store_only {P : Program} {t T : TypeId} {b o : Nat} {cs : List Value} {u : Value} (hi : (P.info? t).map (·.size) = some u.cells.size) (h1 : u.cells.all (·.oneCell') = true) (hl : o + u.cells.size ≤ cs.length) (w : World)
  (h : w.heap[b]? = some (.cells cs.toArray T (0, 0))) : ∃ w', (Instr.storeAt t (.pointer (some ⟨b, o, none⟩)) u).run P w = .ok () w' ∧ Only b (.cells (putL cs o u.cells.toList).toArray T (0, 0)) w w' := by
 have hb : Blk w b cs T := h
 refine ⟨w.setCells b o u.cells.toList, ?_, setCells_only b T _ o cs w hb⟩
 have := run_storeCells_cells (P := P) b o u.cells.toList 0 w (fun j hj => by
   have hj' : o + j < cs.length := by simp at hj; omega
   rw [hb.cell (j := o + 0 + j) (v := cs[o + j]) (by rw [show o + 0 + j = o + j by omega]; exact List.getElem?_eq_getElem hj')]; rfl) (fun j hj => hb.frozen _) (fun v hv => (Array.all_eq_true_iff_forall_mem.1 h1) v (by simpa using hv))
 cases hq : P.info? t with
 | none => simp [hq] at hi
 | some i =>
  have hs : u.cells.size = i.size := by simp [hq] at hi; omega
  simp only [Nat.add_zero] at this
  simp [Instr.storeAt, Instr.sureAddr, storeVar, sizeOf, typeInfo, hq, hs, this]
theorem alloc_run {P : Program} {T : TypeId} {z : Value} {n : Nat} (h : (P.info? T).map (fun i => (i.zero, i.size)) = some (some z, n)) (w : World) :
  (Instr.alloc T true (.tuple #[])).run P w = .ok (.pointer (some ⟨w.heap.size, 0, none⟩)) (w.alloc (.cells z.cells T (0, 0))) := by
 have h1 := (zero_of_info h).1 w
 simp only [Instr.alloc, Sem.run_bind, h1, Result.andThen_ok, newVar, newRow, run_newObj_alloc, Sem.run_pure]
theorem Only.stay {b : Nat} {n : Obj} {w w' : World} (h : Only b n w w') : Stay [b] w w' :=
 ⟨h.os, h.tape, h.output, Nat.le_of_eq h.size.symm, fun k hk _ => h.same k (fun e => hk (by simp [e]))⟩
end Go.Rg
