/- A range over a function: the law that these proofs use. What an iterator owes ('SeqI'), what a loop over it owes ('wp_range'). No program in sight. -/
import Derived.RangeFuncNested
import Derived.RangeFuncBound
import Derived.RangeFuncCalls
import Derived.RangeFuncLeaves
import Derived.WalkKit
import Derived.OwnWalkIn
import Derived.Sort.QuietTacIn
import Derived.OrdersHeld
import Derived.Deep.RegionHeld
set_option linter.unusedVariables false
set_option linter.unusedSimpArgs false
namespace Go.Rg
open Go Go.RowKit
theorem tdA {α : Type} (l : List α) (i : Nat) (a : α) : l.toArray.setIfInBounds i a = (l.set i a).toArray := List.setIfInBounds_toArray l i a
theorem tdB {α : Type} (a : α) (l : List α) (b : α) : (a :: l).set 0 b = b :: l := rfl
theorem tdC {α : Type} (a : α) (l : List α) (n : Nat) (b : α) : (a :: l).set (n + 1) b = a :: l.set n b := rfl
theorem td : (∀ (a : Act) (d : Tmp) (v : Value), a.put (some d) v = { a with tmps := a.tmps.setIfInBounds d v }) ∧ (∀ (a : Act) (v : Value), a.put none v = a) ∧ (∀ (α : Type) (l : List α) (i : Nat) (a : α), l.toArray.setIfInBounds i a = (l.set i a).toArray) ∧ (∀ (α : Type) (a : α) (l : List α) (b : α), (a :: l).set 0 b = b :: l) ∧ (∀ (α : Type) (a : α) (l : List α) (n : Nat) (b : α), (a :: l).set (n + 1) b = a :: l.set n b) :=
 ⟨fun _ _ _ => rfl, fun _ _ => rfl, fun _ => tdA, fun _ => tdB, fun _ => tdC⟩
def WF (r : Option Nat) : Fence := { fn := fun _ => True, depth := none, alive := false, round := r }
@[simp] theorem WF_round (r : Option Nat) : (WF r).round = r := rfl
@[simp] theorem WF_depth (r : Option Nat) : (WF r).depth = none := rfl
@[simp] theorem WF_fn (r : Option Nat) (f : Nat) : (WF r).fn f = True := rfl
@[simp] theorem WF_inRound (r : Option Nat) (l : Nat) : (WF r).inRound l = WF (some l) := rfl
theorem calls_iff {r : Option Nat} {m : Nat} {P : Program} {f : FuncId} {args : Array Value} {w : World} {R : Ending → World → Prop} :
  CallsIn (WF r) m P f args w R ↔ Calls P f args w R := callsIn_wide (n := m)
structure Kept (S : Nat → Prop) (W W' : World) : Prop where
 os : W'.os = W.os
 tape : W'.tape = W.tape
 output : W'.output = W.output
 size : W.heap.size ≤ W'.heap.size
 same : ∀ k, S k → W'.heap[k]? = W.heap[k]?
theorem Kept.refl (S : Nat → Prop) (W : World) : Kept S W W := ⟨rfl, rfl, rfl, Nat.le_refl _, fun _ _ => rfl⟩
theorem Kept.trans {S : Nat → Prop} {A B C : World} (h : Kept S A B) (k : Kept S B C) : Kept S A C :=
 ⟨k.os.trans h.os, k.tape.trans h.tape, k.output.trans h.output, Nat.le_trans h.size k.size, fun i hi => (k.same i hi).trans (h.same i hi)⟩
theorem Kept.mono {S T : Nat → Prop} {A B : World} (h : Kept S A B) (ht : ∀ k, T k → S k) : Kept T A B := ⟨h.os, h.tape, h.output, h.size, fun k hk => h.same k (ht k hk)⟩
theorem Kept.of_below {B : Nat} {A C : World} (h : Below B A C) : Kept (· < B) A C := ⟨h.os, h.tape, h.output, h.size, fun k hk => h.block k hk⟩
theorem Kept.below {B : Nat} {A C : World} (h : Kept (· < B) A C) : Below B A C := ⟨h.os, h.tape, h.output, h.size, fun k hk => h.same k hk⟩
structure Ext (B : Nat) (W W' : World) : Prop where
 below : Below B W W'
 cells : ∀ (k : Nat) (o : Obj), W.heap[k]? = some o → o.isCells = true → W'.heap[k]? = some o
theorem Ext.refl (B : Nat) (W : World) : Ext B W W := ⟨Below.refl _ _, fun _ _ h _ => h⟩
theorem Ext.trans {B : Nat} {X Y Z : World} (h : Ext B X Y) (k : Ext B Y Z) : Ext B X Z := ⟨h.below.trans k.below, fun i o hi ho => k.cells i o (h.cells i o hi ho) ho⟩
theorem Ext.mono {B B' : Nat} {X Y : World} (h : Ext B X Y) (hB : B' ≤ B) : Ext B' X Y := ⟨h.below.mono hB, h.cells⟩
theorem Ext.size {B : Nat} {X Y : World} (h : Ext B X Y) : X.heap.size ≤ Y.heap.size := h.below.size
theorem Ext.of_below {X Y : World} (h : Below X.heap.size X Y) : Ext X.heap.size X Y := ⟨h, fun k o hk _ => (h.block k (Array.getElem?_eq_some_iff.1 hk).1).trans hk⟩
theorem Ext.of_below' {B : Nat} {X Y : World} (h : Below X.heap.size X Y) (hB : B ≤ X.heap.size) : Ext B X Y := (Ext.of_below h).mono hB
theorem Ext.putObj {B : Nat} {W : World} {l : Nat} {o : Obj} (hB : B ≤ l) (hl : W.heap[l]? = some o) (ho : o.isCells = false) (o' : Obj) : Ext B W (W.putObj l o') :=
 ⟨(Below.refl B W).grown (grownBy_putObj' W l o') (by have := (Array.getElem?_eq_some_iff.1 hl).1; omega) (fun k e => by cases e; omega), fun k o2 hk hc => by
  by_cases e : k = l
  ·subst e; rw [hl] at hk; cases hk; rw [ho] at hc; cases hc
  ·exact (World.putObj_heap_other e).trans hk⟩
theorem Ext.cell {B : Nat} {X Y : World} (h : Ext B X Y) {a : Addr} {v : Value} (hc : X.cell? a = some v) : Y.cell? a = some v := by
 obtain ⟨o, ho, hcs⟩ := cells_of_cell hc
 exact (World.cell?_of_block ((h.cells _ _ ho hcs).trans ho.symm)).trans hc
theorem Ext.frozen {B : Nat} {X Y : World} (h : Ext B X Y) {a : Addr} {v : Value} (hc : X.cell? a = some v) : Y.frozen? a = X.frozen? a := by
 obtain ⟨o, ho, hcs⟩ := cells_of_cell hc
 exact World.frozen?_of_block ((h.cells _ _ ho hcs).trans ho.symm)
structure Eff (B : Nat) (S : Nat → Prop) (W W' : World) : Prop where
 kept : Kept S W W'
 others : ∀ (k : Nat) (o : Obj), B ≤ k → W.heap[k]? = some o → o.isCells = false → W'.heap[k]? = some o
theorem Eff.refl (B : Nat) (S : Nat → Prop) (W : World) : Eff B S W W := ⟨Kept.refl _ _, fun _ _ _ h _ => h⟩
theorem Eff.trans {B : Nat} {S : Nat → Prop} {X Y Z : World} (h : Eff B S X Y) (k : Eff B S Y Z) : Eff B S X Z := ⟨h.kept.trans k.kept, fun i o hB hi ho => k.others i o hB (h.others i o hB hi ho) ho⟩
theorem Eff.mono {B B' : Nat} {S T : Nat → Prop} {X Y : World} (h : Eff B S X Y) (hB : B ≤ B') (ht : ∀ k, T k → S k) : Eff B' T X Y := ⟨h.kept.mono ht, fun k o hk => h.others k o (Nat.le_trans hB hk)⟩
theorem Eff.of_below {B : Nat} {S : Nat → Prop} {X Y : World} (h : Below X.heap.size X Y) (hS : ∀ k, S k → k < X.heap.size) : Eff B S X Y :=
 ⟨⟨h.os, h.tape, h.output, h.size, fun k hk => h.block k (hS k hk)⟩, fun k o _ hk _ => (h.block k (Array.getElem?_eq_some_iff.1 hk).1).trans hk⟩
theorem Eff.alloc {B : Nat} {S : Nat → Prop} {A W : World} (h : Eff B S A W) (hS : ∀ k, S k → k < W.heap.size) (o : Obj) : Eff B S A (W.alloc o) :=
 h.trans (Eff.of_below ((Below.refl _ W).alloc (Nat.le_refl _) o) hS)
theorem Eff.drew {B : Nat} {S : Nat → Prop} {A W : World} (h : Eff B S A W) : Eff B S A W.drew := ⟨⟨h.kept.os, h.kept.tape, h.kept.output, h.kept.size, h.kept.same⟩, h.others⟩
theorem Eff.setCell {B : Nat} {S : Nat → Prop} {A W : World} (h : Eff B S A W) (a : Addr) (ha : ¬ S a.block) (v : Value) : Eff B S A (W.setCell a v) :=
 h.trans ⟨⟨rfl, rfl, rfl, by simp [World.setCell], fun k hk => Below.heap_setCell _ _ _ _ (fun e => ha (e ▸ hk))⟩, fun k o _ => (KeepsOthers.setCell W a v).same k o⟩
theorem Eff.call {B : Nat} {S : Nat → Prop} {A W W' : World} (h : Eff B S A W) (hb : Below W.heap.size W W') (hS : ∀ k, S k → k < W.heap.size) : Eff B S A W' := h.trans (Eff.of_below hb hS)
theorem Eff.grown {B : Nat} {S : Nat → Prop} {A W W' : World} {row : Option Nat} (h : Eff B S A W) (hg : W.grownBy W' row) (hS : ∀ k, S k → k < W.heap.size) (hrow : ∀ k, row = some k → ¬ S k) (hc : ∀ k o, row = some k → W.heap[k]? = some o → o.isCells = true) : Eff B S A W' :=
 h.trans ⟨⟨hg.os, hg.tape, hg.output, hg.size, fun k hk => hg.block k (hS k hk) (fun e => hrow k e.symm hk)⟩, fun k o _ => (KeepsOthers.of_grownBy hg hc).same k o⟩
def grow (O : Nat → Prop) (X Y : World) : Nat → Prop := fun j => O j ∨ (X.heap.size ≤ j ∧ j < Y.heap.size)
def both (S O : Nat → Prop) : Nat → Prop := fun j => S j ∨ O j
def SeqI (P : Program) (gf : Nat) (lb : Array Value) (encs : List (Array Value)) (S : Nat → Prop) (w : World) : Prop :=
 ∀ (l : Nat) (J : Nat → (Nat → Prop) → World → Prop) (Jx : Nat → World → Prop) (W : World), Kept S w W →
  (∀ k O O' X Y, J k O X → Ext W.heap.size X Y → (∀ j, O' j → grow O X Y j) → J k O' Y) → (∀ k X Y, Jx k X → Ext W.heap.size X Y → Jx k Y) →
  (∀ k x O X, encs[k]? = some x → Kept S W X → (∀ j, O j → W.heap.size ≤ j ∧ j < X.heap.size) → J k O X → YieldAt (WF none) 0 P l x X fun e X' =>
   (e = .returned (.bool true) ∧ J (k + 1) O X' ∧ Eff W.heap.size (both S O) X X') ∨ (e = .returned (.bool false) ∧ Jx (k + 1) X' ∧ Eff W.heap.size (both S O) X X')) →
  J 0 (fun _ => False) W →
  CallsIn (WF none) 0 P gf (#[.func (.yield l) #[] #[]] ++ lb) W fun e W' => (∃ v, e = .returned v) ∧ Kept S W W' ∧ ((∃ O, (∀ j, O j → W.heap.size ≤ j ∧ j < W'.heap.size) ∧ J encs.length O W') ∨ ∃ k, 0 < k ∧ k ≤ encs.length ∧ Jx k W')
def roundEnd (B : Nat) (S : Nat → Prop) (I : World → Prop) (Ix : Code → World → Prop) (W : World) : Exit → Act → World → Prop
 | .normal, _, W' => Eff B S W W' ∧ I W'
 | .ret, _, W' => Eff B S W W' ∧ Ix .ret W'
 | .exit id, _, W' => Eff B S W W' ∧ Ix (.exit id) W'
 | .goto t, _, W' => Eff B S W W' ∧ Ix (.goto t) W'
 | .panic _, _, _ => False
 | .outgrown, _, _ => False
section
variable {P : Program}
theorem round_law {r0 : Option Nat} {l m : Nat} {fn : FuncId} {rec : Loop} {S : Nat → Prop} {x : Array Value} {W : World} {I : World → Prop} {Ix : Code → World → Prop} {B : Nat}
  (hl : W.heap[l]? = some (.loop rec)) (hr : rec.state = .ready) (hp : rec.pending = none) (hx : x.size = rec.params.size) (hS : ¬ S l) (hB : B ≤ l)
  (hI : ∀ X Y, I X → Ext B X Y → I Y) (hIx : ∀ c X Y, Ix c X → Ext B X Y → Ix c Y)
  (h : rec.assign.wpIn (WF (some l)) 0 P (Exit.then (fun a' Wa => Eff B S W Wa ∧ ∀ Wb, Ext B Wa Wb → Kept S Wa Wb → Wb.heap.size = Wa.heap.size → (∃ r, Wb.heap[l]? = some (.loop r)) → rec.body.wpIn (WF (some l)) 0 P (roundEnd B S I Ix Wb) a' Wb) (fun _ _ _ => False))
   { tmps := (rec.params.zip x).foldl (fun t (p, v) => t.setIfInBounds p v) rec.tmps, defers := [] } W) :
  YieldAt (WF r0) 0 P l x W fun e W' =>
   (e = .returned (.bool true) ∧ I W' ∧ W'.heap[l]? = some (.loop rec) ∧ Kept S W W' ∧ (∀ k o, k ≠ l → B ≤ k → W.heap[k]? = some o → o.isCells = false → W'.heap[k]? = some o)) ∨
   (e = .returned (.bool false) ∧ (∃ c, Ix c W' ∧ W'.heap[l]? = some (.loop { rec with state := .done, pending := some c })) ∧ Kept S W W' ∧ (∀ k o, k ≠ l → B ≤ k → W.heap[k]? = some o → o.isCells = false → W'.heap[k]? = some o)) := by
 have hlt : l < W.heap.size := (Array.getElem?_eq_some_iff.1 hl).1
 refine ⟨_, _, _, _, run_yield hl hx, roundIn_of_wpIn (F := WF r0) trivial (wpIn_mono h ?_)⟩
 rintro e a' Wa hq
 cases e with
 | normal =>
  obtain ⟨he, hb⟩ := hq
  have hla := he.others l _ hB hl rfl
  refine ⟨_, run_beginRound hla hr, ?_⟩
  have hlta : l < Wa.heap.size := (Array.getElem?_eq_some_iff.1 hla).1
  have keptb : ∀ o, Kept S Wa (Wa.putObj l o) := fun o => ⟨rfl, rfl, rfl, by simp, fun k hk => World.putObj_heap_other (fun e => hS (e ▸ hk))⟩
  have hl2 : (Wa.putObj l (.loop { rec with state := .busy })).heap[l]? = some (.loop { rec with state := .busy }) := World.putObj_heap_same hlta
  have hx2 : Ext B Wa (Wa.putObj l (.loop { rec with state := .busy })) := Ext.putObj hB hla rfl _
  have hbody := hb _ hx2 (keptb _) (by simp) ⟨_, hl2⟩
  refine wpIn_mono hbody ?_
  rintro e2 a2 Wc hq2
  have others : Eff B S (Wa.putObj l (.loop { rec with state := .busy })) Wc → ∀ k o o', k ≠ l → B ≤ k → W.heap[k]? = some o → o.isCells = false → (Wc.putObj l o').heap[k]? = some o := fun hE k o o' hk hBk ho hc =>
   (World.putObj_heap_other hk).trans (hE.others k o hBk ((World.putObj_heap_other hk).trans (he.others k o hBk ho hc)) hc)
  have kept : Eff B S (Wa.putObj l (.loop { rec with state := .busy })) Wc → ∀ o, Kept S W (Wc.putObj l o) := fun hE o =>
   ((he.kept.trans (keptb _)).trans hE.kept).trans ⟨rfl, rfl, rfl, by simp, fun k hk => World.putObj_heap_other (fun e => hS (e ▸ hk))⟩
  have stop : ∀ c, Eff B S (Wa.putObj l (.loop { rec with state := .busy })) Wc → Ix c Wc → ∃ v w', (Instr.endRound l (some c)).run P Wc = .ok v w' ∧ ((Ending.returned v = .returned (.bool true) ∧ I w' ∧ w'.heap[l]? = some (.loop rec) ∧ Kept S W w' ∧ (∀ k o, k ≠ l → B ≤ k → W.heap[k]? = some o → o.isCells = false → w'.heap[k]? = some o)) ∨
    (Ending.returned v = .returned (.bool false) ∧ (∃ c, Ix c w' ∧ w'.heap[l]? = some (.loop { rec with state := .done, pending := some c })) ∧ Kept S W w' ∧ (∀ k o, k ≠ l → B ≤ k → W.heap[k]? = some o → o.isCells = false → w'.heap[k]? = some o))) := fun c hE hi => by
   have hl3 := hE.others l _ hB hl2 rfl
   exact ⟨_, _, run_endRound (some c) hl3, .inr ⟨rfl, ⟨c, hIx c _ _ hi (Ext.putObj hB hl3 rfl _), World.putObj_heap_same (Array.getElem?_eq_some_iff.1 hl3).1⟩, kept hE _, fun k o hk hBk ho hc => others hE k o _ hk hBk ho hc⟩⟩
  cases e2 with
  | normal =>
   obtain ⟨hE, hi⟩ := hq2
   have hl3 := hE.others l _ hB hl2 rfl
   refine ⟨_, _, run_endRound none hl3, .inl ⟨rfl, hI _ _ hi (Ext.putObj hB hl3 rfl _), ?_, kept hE _, fun k o hk hBk ho hc => others hE k o _ hk hBk ho hc⟩⟩
   rw [World.putObj_heap_same (Array.getElem?_eq_some_iff.1 hl3).1]
   obtain ⟨st, pe, f2, t2, p2, a3, b3, d3⟩ := rec
   simp only at hr hp
   subst hr hp
   rfl
  | ret => exact stop .ret hq2.1 hq2.2
  | exit id => exact stop (.exit id) hq2.1 hq2.2
  | goto t => exact stop (.goto t) hq2.1 hq2.2
  | panic ch => exact hq2.elim
  | outgrown => exact hq2.elim
 | exit id => exact hq.elim
 | goto t => exact hq.elim
 | ret => exact hq.elim
 | panic ch => exact hq.elim
 | outgrown => exact hq.elim
theorem wp_range {g : Operand} {ps : Array Tmp} {assign body : Code} {Q : Exit → Act → World → Prop} {a : Act} {w : World} {gf : Nat} {lb : Array Value}
  (hg : a.eval g = .func (.func gf) #[] lb) (eg : ∀ args w, (callFunc gf args).run P w = .ok (.enter gf args) w)
  {encs : List (Array Value)} {S : Nat → Prop} {w0 : World} (hseq : SeqI P gf lb encs S w0) (hw0 : Kept S w0 w) (hS : ∀ k, S k → k < w.heap.size) (hps : ∀ x ∈ encs, x.size = ps.size)
  (I : Nat → (Nat → Prop) → World → Prop) (Ix : Code → Nat → World → Prop) (hI : ∀ k O O' X Y, I k O X → Ext w.heap.size X Y → (∀ j, O' j → grow O X Y j) → I k O' Y) (hIx : ∀ c k X Y, Ix c k X → Ext w.heap.size X Y → Ix c k Y) (h0 : I 0 (fun _ => False) w)
  (hround : ∀ (l k : Nat) (x : Array Value) (O : Nat → Prop) (W : World), w.heap.size < l → l < W.heap.size → encs[k]? = some x → Kept S w W → (∀ j, O j → l < j ∧ j < W.heap.size) → I k O W →
   assign.wpIn (WF (some l)) 0 P (Exit.then (fun a' Wa => Eff w.heap.size (both S O) W Wa ∧ ∀ Wb, Ext w.heap.size Wa Wb → Kept (both S O) Wa Wb → Wb.heap.size = Wa.heap.size → (∃ r, Wb.heap[l]? = some (.loop r)) → body.wpIn (WF (some l)) 0 P (roundEnd w.heap.size (both S O) (I (k + 1) O) (fun c => Ix c (k + 1)) Wb) a' Wb) (fun _ _ _ => False))
    { tmps := (ps.zip x).foldl (fun t (p, v) => t.setIfInBounds p v) a.tmps, defers := [] } W)
  (hdone : ∀ (O : Nat → Prop) (W : World), Kept S w W → w.heap.size < W.heap.size → I encs.length O W → W.heap[w.heap.size]? = some (.deferred (some [])) → Q .normal { a with defers := { target := .collected w.heap.size, args := #[] } :: a.defers } W)
  (hstop : ∀ (c : Code) (k : Nat) (W : World), Kept S w W → w.heap.size < W.heap.size → 0 < k → k ≤ encs.length → Ix c k W → W.heap[w.heap.size]? = some (.deferred (some [])) → c.wpIn (WF none) 0 P Q { a with defers := { target := .collected w.heap.size, args := #[] } :: a.defers } W) :
  (Code.rangeFunc g ps assign body).wpIn (WF none) 0 P Q a w := by
 refine wpIn_rangeFunc ?_
 intro fn hfn
 obtain ⟨rec, hrec⟩ : ∃ rec : Loop, rec = { state := .ready, pending := none, fn, tmps := a.tmps, params := ps, assign, body, defers := w.heap.size } := ⟨_, rfl⟩
 obtain ⟨W1, hW1⟩ : ∃ W1, (w.alloc (.deferred (some []))).alloc (.loop rec) = W1 := ⟨_, rfl⟩
 have hsz : W1.heap.size = w.heap.size + 2 := by rw [← hW1]; simp
 have hL1 : W1.heap[w.heap.size + 1]? = some (.loop rec) := by
  rw [← hW1]; have := World.alloc_heap_new (w.alloc (.deferred (some []))) (.loop rec); rwa [World.size_alloc] at this
 have hK1 : W1.heap[w.heap.size]? = some (.deferred (some [])) := by
  rw [← hW1]; exact (Below.heap_alloc _ _ _ (by simp)).trans (World.alloc_heap_new w _)
 have hb1 : Below w.heap.size w W1 := by rw [← hW1]; exact ((Below.refl _ w).alloc (Nat.le_refl _) _).alloc (by simp) _
 have hk1 : Kept S w W1 := (Kept.of_below hb1).mono hS
 have hI1 : I 0 (fun _ => False) W1 := hI _ _ _ _ _ h0 (Ext.of_below hb1) (fun _ h => h.elim)
 have hput : ∀ (W : World) (o : Obj), Kept S W (W.putObj (w.heap.size + 1) o) := fun W o => ⟨rfl, rfl, rfl, by simp, fun k hk => World.putObj_heap_other (by have := hS k hk; omega)⟩
 refine ⟨w.heap.size + 1, [{ target := .collected w.heap.size, args := #[] }], W1, { target := .fn (.func gf) lb, args := #[.func (.yield (w.heap.size + 1)) #[] #[]] }, W1, gf,
  #[.func (.yield (w.heap.size + 1)) #[] #[]] ++ lb, W1, ?_, ?_, ?_, ?_, (fun h => absurd h (by simp)), ?_⟩
 ·rw [← hW1, hrec]; exact run_enterLoop_outer _ _ _ _ _
 ·simp only [resolve, hg]
  simp [go_sem]
 ·intro f' _; trivial
 ·simp [invoke, go_sem, eg]
 ·refine (hseq (w.heap.size + 1)
   (fun k O W => I k O W ∧ Kept S w W ∧ W.heap[w.heap.size + 1]? = some (.loop rec) ∧ W.heap[w.heap.size]? = some (.deferred (some [])))
   (fun k W => Kept S w W ∧ (∃ c, Ix c k W ∧ W.heap[w.heap.size + 1]? = some (.loop { rec with state := .done, pending := some c })) ∧ W.heap[w.heap.size]? = some (.deferred (some [])))
   W1 (hw0.trans hk1) ?_ ?_ ?_ ⟨hI1, hk1, hL1, hK1⟩).mono ?_
  ·rintro k O O' X Y ⟨h1, h2, h3, h4⟩ hx hO
   exact ⟨hI _ _ _ _ _ h1 (hx.mono (by omega)) hO, h2.trans ((Kept.of_below hx.below).mono (fun i hi => by have := hS i hi; omega)), (hx.below.block _ (by omega)).trans h3, (hx.below.block _ (by omega)).trans h4⟩
  ·rintro k X Y ⟨h2, ⟨c, h1, h3⟩, h4⟩ hx
   exact ⟨h2.trans ((Kept.of_below hx.below).mono (fun i hi => by have := hS i hi; omega)), ⟨c, hIx _ _ _ _ h1 (hx.mono (by omega)), (hx.below.block _ (by omega)).trans h3⟩, (hx.below.block _ (by omega)).trans h4⟩
  ·rintro k x O X hx hk hOb ⟨h1, h2, h3, h4⟩
   have hps' := hps x (List.mem_of_getElem? hx)
   have hOl : ¬ both S O (w.heap.size + 1) := by
    rintro (h | h)
    ·have := hS _ h; omega
    ·have := (hOb _ h).1; omega
   have := round_law (P := P) (r0 := none) (fn := fn) (l := w.heap.size + 1) (m := 0) (rec := rec) (S := both S O) (x := x) (W := X) (I := I (k + 1) O) (Ix := fun c => Ix c (k + 1)) (B := w.heap.size) h3 (by rw [hrec]) (by rw [hrec]) (by rw [hrec]; exact hps') hOl (by omega) (fun X Y h hx => hI _ _ _ _ _ h hx (fun j hj => .inl hj)) (fun c => hIx c _)
    (by
     rw [hrec]
     exact hround _ k x O X (by omega) (Array.getElem?_eq_some_iff.1 h3).1 hx h2 (fun j hj => ⟨by have := (hOb j hj).1; omega, (hOb j hj).2⟩) h1)
   obtain ⟨f1, t1, a1, b1, hy, hR⟩ := this
   refine ⟨f1, t1, a1, b1, hy, hR.mono ?_⟩
   have hSm : ∀ X', Kept (both S O) X X' → Kept S X X' := fun X' h => h.mono (fun j hj => .inl hj)
   rintro e X' (⟨rfl, hi, hl, hkk, ho⟩ | ⟨rfl, hc, hkk, ho⟩)
   ·exact .inl ⟨rfl, ⟨hi, h2.trans (hSm _ hkk), hl, ho _ _ (by omega) (Nat.le_refl _) h4 rfl⟩, hkk, fun j o hj => ho j o (by omega) (by omega)⟩
   ·exact .inr ⟨rfl, ⟨h2.trans (hSm _ hkk), hc, ho _ _ (by omega) (Nat.le_refl _) h4 rfl⟩, hkk, fun j o hj => ho j o (by omega) (by omega)⟩
  ·rintro e W2 ⟨⟨v, rfl⟩, hkk, (⟨O, hO, hi, h2, hl, hk⟩ | ⟨k, hk0, hkl, h2, ⟨c, hi, hl⟩, hk⟩)⟩
   ·have hlt := (Array.getElem?_eq_some_iff.1 hl).1
    have hend := run_endLoop (P := P) hl (by rw [hrec]; simp)
    have hpe : rec.pending = none := by rw [hrec]
    rw [hpe] at hend
    exact ⟨none, W2.putObj (w.heap.size + 1) (.loop { rec with state := .exhausted, pending := none }), hend, hdone O _ (h2.trans (hput _ _)) (by simp; omega) (hI _ _ _ _ _ hi (Ext.putObj (by omega) hl rfl _) (fun j hj => .inl hj)) ((World.putObj_heap_other (by omega)).trans hk)⟩
   ·have hlt := (Array.getElem?_eq_some_iff.1 hl).1
    have hend := run_endLoop (P := P) hl (by simp)
    exact ⟨some c, W2.putObj (w.heap.size + 1) (.loop { { rec with state := .done, pending := some c } with state := .exhausted }), hend, hstop c k _ (h2.trans (hput _ _)) (by simp; omega) hk0 hkl (hIx _ _ _ _ hi (Ext.putObj (by omega) hl rfl _)) ((World.putObj_heap_other (by omega)).trans hk)⟩
end
end Go.Rg
namespace Go
theorem hH {p : Prop} (h : p) : RowKit.Hid p := h
end Go
namespace Go.Rg
open Go Go.RowKit
def Blk (w : World) (b : Nat) (cs : List Value) (t : TypeId) : Prop := w.heap[b]? = some (.cells cs.toArray t (0, 0))
theorem Blk.lt {w : World} {b : Nat} {cs : List Value} {t : TypeId} (h : Blk w b cs t) : b < w.heap.size := (Array.getElem?_eq_some_iff.1 h).1
theorem Blk.cell {w : World} {b : Nat} {cs : List Value} {t : TypeId} (h : Blk w b cs t) {j : Nat} {v : Value} (hj : cs[j]? = some v) : w.cell? ⟨b, j, none⟩ = some v := by
 unfold Blk at h
 simp [World.cell?, h, hj]
theorem Blk.frozen {w : World} {b : Nat} {cs : List Value} {t : TypeId} (h : Blk w b cs t) (o : Nat) : w.frozen? ⟨b, o, none⟩ = false := by
 unfold Blk at h
 simp [World.frozen?, h]
theorem Blk.of_same {w w' : World} {b : Nat} {cs : List Value} {t : TypeId} (h : Blk w b cs t) (hs : w'.heap[b]? = w.heap[b]?) : Blk w' b cs t := hs.trans h
theorem Blk.ext {B : Nat} {w w' : World} {b : Nat} {cs : List Value} {t : TypeId} (h : Blk w b cs t) (hx : Ext B w w') : Blk w' b cs t := hx.cells _ _ h rfl
theorem Blk.below {B : Nat} {w w' : World} {b : Nat} {cs : List Value} {t : TypeId} (h : Blk w b cs t) (hb : Below B w w') (hB : b < B) : Blk w' b cs t := h.of_same (hb.block b hB)
theorem Blk.call {w w' : World} {b : Nat} {cs : List Value} {t : TypeId} (h : Blk w b cs t) (hb : Below w.heap.size w w') : Blk w' b cs t := h.below hb h.lt
theorem Blk.alloc {w : World} {b : Nat} {cs : List Value} {t : TypeId} (h : Blk w b cs t) (o : Obj) : Blk (w.alloc o) b cs t := h.of_same (Below.heap_alloc w o b h.lt)
theorem Blk.drew {w : World} {b : Nat} {cs : List Value} {t : TypeId} (h : Blk w b cs t) : Blk w.drew b cs t := h
theorem Blk.new (w : World) (cs : List Value) (t : TypeId) : Blk (w.alloc (.cells cs.toArray t)) w.heap.size cs t := World.alloc_heap_new w _
theorem Blk.other {w : World} {b : Nat} {cs : List Value} {t : TypeId} (h : Blk w b cs t) (a : Addr) (hne : b ≠ a.block) (v : Value) : Blk (w.setCell a v) b cs t := h.of_same (Below.heap_setCell w a v b hne)
theorem Blk.set {w : World} {b : Nat} {cs : List Value} {t : TypeId} (h : Blk w b cs t) (j : Nat) (v : Value) : Blk (w.setCell ⟨b, j, none⟩ v) b (cs.set j v) t := by
 have hlt := h.lt
 unfold Blk at *
 simp only [World.setCell]
 rw [Array.getElem?_modify, if_pos rfl, h]
 simp
theorem Blk.grown {w w' : World} {row : Option Nat} {b : Nat} {cs : List Value} {t : TypeId} (h : Blk w b cs t) (hg : w.grownBy w' row) (hne : some b ≠ row) : Blk w' b cs t := h.of_same (hg.block b h.lt hne)
def Reads (w : World) (B : Nat) (v : Value) (n : Nat) (xs : List Value) : Prop :=
 (v = .slice none 0 0 ∧ n = 0 ∧ xs = []) ∨
 ∃ g off cap, v = .slice (some ⟨g, off, none⟩) n cap ∧ g < B ∧ n ≤ cap ∧ cap ≤ maxLen ∧ ∀ j x, xs[j]? = some x → w.cell? ⟨g, off + j, none⟩ = some x
theorem Reads.mono {w : World} {B B' : Nat} {v : Value} {n : Nat} {xs : List Value} (h : Reads w B v n xs) (hB : B ≤ B') : Reads w B' v n xs := by
 rcases h with h | ⟨g, off, cap, h1, h2, h3⟩
 ·exact .inl h
 ·exact .inr ⟨g, off, cap, h1, by omega, h3⟩
theorem Reads.below {w w' : World} {B : Nat} {v : Value} {n : Nat} {xs : List Value} (h : Reads w B v n xs) (hb : Below B w w') : Reads w' B v n xs := by
 rcases h with h | ⟨g, off, cap, h1, h2, h3, h4, h5⟩
 ·exact .inl h
 ·exact .inr ⟨g, off, cap, h1, h2, h3, h4, fun j x hj => (hb.cell (p := ⟨g, off + j, none⟩) h2).trans (h5 j x hj)⟩
theorem Reads.ext {w w' : World} {B B' : Nat} {v : Value} {n : Nat} {xs : List Value} (h : Reads w B v n xs) (hx : Ext B' w w') : Reads w' B v n xs := by
 rcases h with h | ⟨g, off, cap, h1, h2, h3, h4, h5⟩
 ·exact .inl h
 ·exact .inr ⟨g, off, cap, h1, h2, h3, h4, fun j x hj => hx.cell (h5 j x hj)⟩
theorem Reads.kept {w w' : World} {B : Nat} {S : Nat → Prop} {v : Value} {n : Nat} {xs : List Value} (h : Reads w B v n xs) (hx : Kept S w w') (hS : ∀ k, k < B → S k) : Reads w' B v n xs :=
 h.below (hx.mono hS).below
theorem Reads.of_own {w : World} {base e size : Nat} {v : Value} {n : Nat} {xs : List Value} (h : w.ownsRow base e size v n xs) : Reads w w.heap.size v n xs := by
 obtain ⟨hl, h⟩ := h
 rcases h with ⟨rfl, rfl⟩ | ⟨g, cap, cur, rfl, hb, hg, hn, hc, hs, ht⟩
 ·exact .inl ⟨rfl, rfl, List.eq_nil_of_length_eq_zero (by simpa using hl)⟩
 ·refine .inr ⟨g, 0, cap, rfl, (Array.getElem?_eq_some_iff.1 hg).1, hn, hc, fun j x hj => ?_⟩
  rw [← ht, List.getElem?_take] at hj
  split at hj
  ·simp [World.cell?, hg, ← hj]
  ·cases hj
theorem own_ext {B : Nat} {w w' : World} {base e size : Nat} {v : Value} {n : Nat} {xs : List Value} (h : w.ownsRow base e size v n xs) (hx : Ext B w w') : w'.ownsRow base e size v n xs := by
 refine ⟨h.1, ?_⟩
 rcases h.2 with h2 | ⟨g, cap, cur, hv, hb, hg, r⟩
 ·exact .inl h2
 ·exact .inr ⟨g, cap, cur, hv, hb, hx.cells _ _ hg rfl, r⟩
theorem own_other {w : World} {base e size : Nat} {v : Value} {n : Nat} {xs : List Value} (h : w.ownsRow base e size v n xs) (a : Addr) (ha : a.block < base) (u : Value) : (w.setCell a u).ownsRow base e size v n xs :=
 ownsRow_setCell_below h ha u
theorem own_call {w w' : World} {base e size : Nat} {v : Value} {n : Nat} {xs : List Value} (h : w.ownsRow base e size v n xs) (hb : Below w.heap.size w w') : w'.ownsRow base e size v n xs := own_ext h (Ext.of_below hb)
theorem allocs_size (os : List Obj) (w : World) : (os.foldl World.alloc w).heap.size = w.heap.size + os.length := by
 induction os generalizing w with
 | nil => rfl
 | cons o os ih => rw [List.foldl_cons, ih, World.size_alloc, List.length_cons]; omega
theorem allocs_below (os : List Obj) (w : World) : Below w.heap.size w (os.foldl World.alloc w) := by
 induction os generalizing w with
 | nil => exact Below.refl _ _
 | cons o os ih => exact ((Below.refl _ w).alloc (Nat.le_refl _) o).trans ((ih (w.alloc o)).mono (by simp))
theorem allocs_at (os : List Obj) (w : World) (i : Nat) (o : Obj) (h : os[i]? = some o) : (os.foldl World.alloc w).heap[w.heap.size + i]? = some o := by
 induction os generalizing w i with
 | nil => simp at h
 | cons p os ih =>
  cases i with
  | zero =>
   simp only [List.getElem?_cons_zero, Option.some.injEq] at h
   subst h
   rw [List.foldl_cons, (allocs_below os (w.alloc p)).block _ (by simp)]
   exact World.alloc_heap_new w p
  | succ i =>
   have := ih (w.alloc p) i (by simpa using h)
   rw [World.size_alloc] at this
   rw [List.foldl_cons, show w.heap.size + (i + 1) = w.heap.size + 1 + i from by omega]
   exact this
theorem Blk.allocs {w w' : World} (os : List Obj) (hw : os.foldl World.alloc w = w') (i : Nat) {cs : List Value} {t : TypeId} (h : os[i]? = some (.cells cs.toArray t (0, 0))) : Blk w' (w.heap.size + i) cs t := by
 subst hw; exact allocs_at os w i _ h
theorem aZ {os : List Obj} {w W0 : World} (h : os.foldl World.alloc w = W0) : w.heap.size + os.length ≤ W0.heap.size := by rw [← h, allocs_size]; exact Nat.le_refl _
theorem aB {os : List Obj} {w W0 : World} (h : os.foldl World.alloc w = W0) : Below w.heap.size w W0 := h ▸ allocs_below _ w
theorem lL {a b c : Nat} (h : a < b) (k : b ≤ c) : a < c := by omega
theorem Blk.appended {w w' : World} {v : Value} {base e size n : Nat} {xs : List Value} {b : Nat} {cs : List Value} {t : TypeId} (h : Blk w b cs t) (hown : w.ownsRow base e size v n xs) (hb : b < base) (hg : w.grownBy w' v.ownBlock) : Blk w' b cs t :=
 h.grown hg (fun e => by have := (hown.lt b e.symm).1; omega)
theorem own_form {w : World} {base e size n : Nat} {v : Value} {xs : List Value} (h : w.ownsRow base e size v n xs) : ∃ a cap, v = .slice a n cap := by
 rcases h.2 with ⟨rfl, rfl⟩ | ⟨g, cap, cur, rfl, _⟩
 ·exact ⟨_, _, rfl⟩
 ·exact ⟨_, _, rfl⟩
theorem Blk.put {w : World} {b : Nat} {cs : List Value} {t : TypeId} (h : Blk w b cs t) {D : Nat} (hne : b ≠ D) (o : Obj) : Blk (w.putObj D o) b cs t := h.of_same (World.putObj_heap_other hne)
theorem put_below {B D : Nat} {X W : World} (h : Below B X W) (hB : B ≤ D) {o o' : Obj} (hD : W.heap[D]? = some o) (ho : o.isCells = false) : Below B X (W.putObj D o') := h.trans (Ext.putObj hB hD ho o').below
end Go.Rg
namespace Go.Rg
open Go Go.RowKit
def Moves (w : World) (v v' : Value) : Prop := v'.ownBlock = v.ownBlock ∨ ∃ g, v'.ownBlock = some g ∧ w.heap.size ≤ g
theorem cells_add {w : World} {g off : Nat} {news : List Value} (h : ∀ j x, news[j]? = some x → w.cell? ⟨g, off + j, none⟩ = some x) : ∀ j u, news[j]? = some u → w.cell? ((⟨g, off, none⟩ : Addr).add j) = some u := by
 intro j u hu
 have hadd : (⟨g, off, none⟩ : Addr).add j = ⟨g, off + j, none⟩ := by unfold Addr.add; split <;> simp_all
 rw [hadd]
 exact h j u hu
section
variable {P : Program} (w : World)
theorem run_append2 (base : Nat) (t ty e : TypeId) (i : TypeInfo) (z : Value) (size bytes : Nat) (ht : P.underlying t = some (.slice e)) (hi : P.info? e = some i) (hz : i.zero = some z)
  (hsize : i.size = size) (hby : i.bytes = bytes) (hzs : z.cells.size = size) (hsz : 0 < size)
  (v : Value) (n : Nat) (xs : List Value) (hown : w.ownsRow base e size v n xs)
  (x : Value) (B m : Nat) (news : List Value) (hx : Reads w B x m news) (hl : news.length = m * size) (h1 : ∀ u ∈ news, u.oneCell' = true)
  (h63 : n + m ≤ maxLen) (hbytes : (n + m) * bytes ≤ 140737488355328) (hbase : base ≤ w.heap.size) :
  ∃ v' w', (Builtin.append_ #[t, t] ty #[v, x]).run P w = .ok v' w' ∧ w'.ownsRow base e size v' (n + m) (xs ++ news) ∧ w.grownBy w' v.ownBlock ∧ Moves w v v' := by
 rcases hx with ⟨rfl, rfl, rfl⟩ | ⟨ga, off, c, rfl, _, _, _, hc⟩
 ·rcases hown.2 with ⟨rfl, rfl⟩ | ⟨g, cap, cur, rfl, hbg, hg, hnc, hcm, hcs, htake⟩
  ·refine ⟨.slice none 0 0, w, ?_, by simpa using hown, ⟨rfl, rfl, rfl, Nat.le_refl _, fun _ _ _ => rfl⟩, .inl rfl⟩
   simp [Builtin.append_, run_underlying ht, sizeOf, typeInfo, hi, Builtin.lenOf, Builtin.firstCells]
  ·refine ⟨.slice (some ⟨g, 0, none⟩) n cap, w, ?_, by simpa using hown, ⟨rfl, rfl, rfl, Nat.le_refl _, fun _ _ _ => rfl⟩, .inl rfl⟩
   simp [Builtin.append_, run_underlying ht, sizeOf, typeInfo, hi, Builtin.lenOf, Builtin.firstCells, hnc, storeCells]
 ·have hnews := cells_add hc
  obtain ⟨v', w', hr, h2, h3, h4⟩ := run_append_own (P := P) w base t ty e i z size bytes ht hi hz hsize hby hzs hsz v n xs hown ⟨ga, off, none⟩ m c news hl hnews h1 h63 hbytes hbase
  refine ⟨v', w', hr, h2, h3, ?_⟩
  subst hsize
  subst hby
  have hsmall : n + m ≤ 9223372036854775807 := by simp only [maxLen] at h63; omega
  rcases hown.2 with ⟨rfl, rfl⟩ | ⟨g, cap, cur, rfl, hbg, hg, hnc, hcm, hcs, htake⟩
  ·by_cases hm : m = 0
   ·have := h4.2 ⟨rfl, hm⟩
    subst this
    exact .inl rfl
   ·have hr2 := run_append_nil (P := P) w t ty e i z ht hi hz ⟨ga, off, none⟩ m c news hl hnews (by omega) (by omega) (by have hb := hbytes; simp only [Nat.zero_add] at hb; omega)
    rw [hr2] at hr
    cases hr
    exact .inr ⟨_, rfl, Nat.le_refl _⟩
  ·by_cases hroom : n + m ≤ cap
   ·have hfit : n * i.size + news.length ≤ cur.size := by rw [hl, hcs, ← Nat.add_mul]; exact Nat.mul_le_mul_right _ hroom
    have hr2 := run_append_room (P := P) w t ty e i ht hi g n cap cur hg ⟨ga, off, none⟩ m c news hl hnews h1 hroom hfit
    rw [hr2] at hr
    cases hr
    exact .inl rfl
   ·have holds : ∀ j u, xs[j]? = some u → w.cell? ((⟨g, 0, none⟩ : Addr).add j) = some u := hown.cells (g := g) rfl
    have hr2 := run_append_grow (P := P) w t ty e i z ht hi hz ⟨g, 0, none⟩ n cap xs hown.1 holds ⟨ga, off, none⟩ m c news hl hnews (by omega) (by omega) (growslice_fits (by omega) hbytes)
    rw [hr2] at hr
    cases hr
    exact .inr ⟨_, rfl, Nat.le_refl _⟩
end
theorem wpListIn_append2 {F : Fence} {n : Nat} {P : Program} (w : World) {ops : Array Oper} {rest : List Oper} {o : Oper} {a : Act} {Q : Exit → Act → World → Prop}
  (hg : o.guard = none) (s x : Operand) (t : TypeId) (hop : o.op = Op.call { callee := Callee.builtin Builtin.append, args := #[s, x], argTypes := #[t, t] })
  (base : Nat) (e : TypeId) (z : Value) (size bytes : Nat) (h1 : P.underlying t = some (.slice e)) (hinfo : (P.info? e).map (fun i => (i.zero, i.size, i.bytes)) = some (some z, size, bytes)) (h6 : z.cells.size = size) (h7 : 0 < size)
  (v : Value) (k : Nat) (xs : List Value) (hs : a.eval s = v) (hown : w.ownsRow base e size v k xs) (xv : Value) (B m : Nat) (news : List Value) (hx : a.eval x = xv) (hr : Reads w B xv m news) (hn : news.length = m * size)
  (h1c : ∀ u ∈ news, u.oneCell' = true) (b1 : k + m ≤ maxLen) (b2 : (k + m) * bytes ≤ 140737488355328) (b3 : base ≤ w.heap.size)
  (hK : ∀ v' w', w'.ownsRow base e size v' (k + m) (xs ++ news) → w.grownBy w' v.ownBlock → Moves w v v' → wpListIn F n P ops Q rest (a.put o.dst v') w') :
  wpListIn F n P ops Q (o :: rest) a w := by
 obtain ⟨i, hi, hz, hsz, hby⟩ := info_parts hinfo
 refine wpListIn_plain hg fun K hK' => ?_
 obtain ⟨v', w', hrun, r1, r2, r3⟩ := run_append2 (P := P) w base t o.type e i z size bytes h1 hi hz hsz hby h6 h7 v k xs hown xv B m news hr hn h1c b1 b2 b3
 unfold Oper.wpIn
 refine ⟨?_, ?_⟩
 ·simp [Oper.about, hop, resolve, Target.leads, Sem.run_pure]
 ·rw [Oper.semAt_plain F _ _ (by rw [hop]; intro c hc'; cases hc')]
  simp [execOp, hop, resolve, invoke, builtin, hs, hx, hrun, Result.andThen]
  exact hK' _ _ (hK v' w' r1 r2 r3)
theorem wpList_append2 {P : Program} (w : World) {ops : Array Oper} {rest : List Oper} {o : Oper} {a : Act} {Q : Exit → Act → World → Prop}
  (hg : o.guard = none) (s x : Operand) (t : TypeId) (hop : o.op = Op.call { callee := Callee.builtin Builtin.append, args := #[s, x], argTypes := #[t, t] })
  (base : Nat) (e : TypeId) (z : Value) (size bytes : Nat) (h1 : P.underlying t = some (.slice e)) (hinfo : (P.info? e).map (fun i => (i.zero, i.size, i.bytes)) = some (some z, size, bytes)) (h6 : z.cells.size = size) (h7 : 0 < size)
  (v : Value) (k : Nat) (xs : List Value) (hs : a.eval s = v) (hown : w.ownsRow base e size v k xs) (xv : Value) (B m : Nat) (news : List Value) (hx : a.eval x = xv) (hr : Reads w B xv m news) (hn : news.length = m * size)
  (h1c : ∀ u ∈ news, u.oneCell' = true) (b1 : k + m ≤ maxLen) (b2 : (k + m) * bytes ≤ 140737488355328) (b3 : base ≤ w.heap.size)
  (hK : ∀ v' w', w'.ownsRow base e size v' (k + m) (xs ++ news) → w.grownBy w' v.ownBlock → Moves w v v' → wpList P ops Q rest (a.put o.dst v') w') :
  wpList P ops Q (o :: rest) a w := by
 obtain ⟨i, hi, hz, hsz, hby⟩ := info_parts hinfo
 refine wpList_plain hg fun K hK' => ?_
 obtain ⟨v', w', hrun, r1, r2, r3⟩ := run_append2 (P := P) w base t o.type e i z size bytes h1 hi hz hsz hby h6 h7 v k xs hown xv B m news hr hn h1c b1 b2 b3
 unfold Oper.wp execOp
 simp only [hop, resolve, invoke, builtin, Sem.run_bind, Sem.run_pure, Result.andThen_ok, List.map_toArray, List.map_cons, List.map_nil, hs, hx, hrun]
 exact hK' _ _ (hK v' w' r1 r2 r3)
theorem reads_new (W : World) (cs : List Value) (t : TypeId) (n c : Nat) (hn : n ≤ c) (hc : c ≤ maxLen) : Reads (W.alloc (.cells cs.toArray t)) (W.heap.size + 1) (.slice (some ⟨W.heap.size, 0, none⟩) n c) n cs :=
 .inr ⟨_, 0, c, rfl, by omega, hn, hc, fun j x hj => by rw [Nat.zero_add]; exact (Blk.new W cs t).cell hj⟩
def u8s (l : List UInt8) : List Value := l.map fun c => .int .u8 (c.toNat : Int)
def BytesAt (w : World) (b : Nat) (l : List UInt8) : Prop := ∀ j c, l[j]? = some c → w.cell? ⟨b, j, none⟩ = some (.int .u8 (c.toNat : Int)) ∧ w.frozen? ⟨b, j, none⟩ = false
theorem BytesAt.set {w : World} {b : Nat} {l : List UInt8} (h : BytesAt w b l) (k : Nat) (c : UInt8) : BytesAt (w.setCell ⟨b, k, none⟩ (.int .u8 (c.toNat : Int))) b (l.set k c) := by
 intro j d hj
 rw [List.getElem?_set] at hj
 split at hj
 ·rename_i e
  subst e
  split at hj
  ·rename_i hlt
   cases hj
   obtain ⟨h1, h2⟩ := h k l[k] (List.getElem?_eq_getElem hlt)
   exact ⟨World.cell?_setCell_same' _ _ _ (by rw [h1]; rfl), by rw [World.frozen?_setCell]; exact h2⟩
  ·cases hj
 ·rename_i e
  obtain ⟨h1, h2⟩ := h j d hj
  exact ⟨by rw [World.cell?_setCell_other (h := fun h => e (by cases h; rfl))]; exact h1, by rw [World.frozen?_setCell]; exact h2⟩
theorem BytesAt.reads {w : World} {b : Nat} {l : List UInt8} (h : BytesAt w b l) (hb : b < w.heap.size) (cap : Nat) (h1 : l.length ≤ cap) (h2 : cap ≤ maxLen) : Reads w w.heap.size (.slice (some ⟨b, 0, none⟩) l.length cap) l.length (u8s l) :=
 .inr ⟨b, 0, cap, rfl, hb, h1, h2, fun j x hj => by
  unfold u8s at hj
  rw [List.getElem?_map] at hj
  obtain ⟨c, hc, rfl⟩ := Option.map_eq_some_iff.1 hj
  rw [Nat.zero_add]
  exact (h j c hc).1⟩
end Go.Rg
namespace Go.Rg
open Go Go.RowKit
structure Upd (R : Nat) (W W' : World) : Prop where
 os : W'.os = W.os
 tape : W'.tape = W.tape
 output : W'.output = W.output
 size : W.heap.size ≤ W'.heap.size
 same : ∀ k, k ≠ R → k < W.heap.size → W'.heap[k]? = W.heap[k]?
theorem Upd.refl (R : Nat) (W : World) : Upd R W W := ⟨rfl, rfl, rfl, Nat.le_refl _, fun _ _ _ => rfl⟩
theorem Upd.trans {R : Nat} {A B C : World} (h : Upd R A B) (k : Upd R B C) : Upd R A C :=
 ⟨k.os.trans h.os, k.tape.trans h.tape, k.output.trans h.output, Nat.le_trans h.size k.size, fun i hi hl => (k.same i hi (Nat.lt_of_lt_of_le hl h.size)).trans (h.same i hi hl)⟩
theorem Upd.of_below {R : Nat} {A B : World} (h : Below A.heap.size A B) : Upd R A B := ⟨h.os, h.tape, h.output, h.size, fun k _ hk => h.block k hk⟩
theorem Upd.call {R : Nat} {A B C : World} (h : Upd R A B) (k : Below B.heap.size B C) : Upd R A C := h.trans (.of_below k)
theorem Upd.alloc {R : Nat} {A B : World} (h : Upd R A B) (o : Obj) : Upd R A (B.alloc o) := h.call ((Below.refl _ B).alloc (Nat.le_refl _) o)
theorem Upd.drew {R : Nat} {A B : World} (h : Upd R A B) : Upd R A B.drew := ⟨h.os, h.tape, h.output, h.size, h.same⟩
theorem Upd.set {R : Nat} {A B : World} (h : Upd R A B) (o : Nat) (v : Value) : Upd R A (B.setCell ⟨R, o, none⟩ v) :=
 h.trans ⟨rfl, rfl, rfl, by simp [World.setCell], fun k hk _ => Below.heap_setCell _ _ _ _ hk⟩
theorem Upd.grown {R : Nat} {A B C : World} {row : Option Nat} (h : Upd R A B) (hg : B.grownBy C row) (hr : ∀ k, row = some k → A.heap.size ≤ k) : Upd R A C :=
 ⟨hg.os.trans h.os, hg.tape.trans h.tape, hg.output.trans h.output, Nat.le_trans h.size hg.size, fun k hk hl => (hg.block k (Nat.lt_of_lt_of_le hl h.size) (fun e => by have := hr k e.symm; omega)).trans (h.same k hk hl)⟩
theorem Upd.below {R B : Nat} {W W' : World} (h : Upd R W W') (hB : B ≤ R) (hs : B ≤ W.heap.size) : Below B W W' := ⟨h.os, h.tape, h.output, h.size, fun k hk => h.same k (by omega) (by omega)⟩
theorem Upd.kept {R : Nat} {S : Nat → Prop} {W W' : World} (h : Upd R W W') (hR : ¬ S R) (hS : ∀ k, S k → k < W.heap.size) : Kept S W W' := ⟨h.os, h.tape, h.output, h.size, fun k hk => h.same k (fun e => hR (e ▸ hk)) (hS k hk)⟩
theorem Blk.upd {R : Nat} {w w' : World} {b : Nat} {cs : List Value} {t : TypeId} (h : Blk w b cs t) (hx : Upd R w w') (hb : b ≠ R) : Blk w' b cs t := h.of_same (hx.same b hb h.lt)
def Rds (R : Nat) (w : World) (v : Value) (n : Nat) (xs : List Value) : Prop :=
 (v = .slice none 0 0 ∧ n = 0 ∧ xs = []) ∨
 ∃ g off cap, v = .slice (some ⟨g, off, none⟩) n cap ∧ g ≠ R ∧ g < w.heap.size ∧ n ≤ cap ∧ cap ≤ maxLen ∧ ∀ j x, xs[j]? = some x → w.cell? ⟨g, off + j, none⟩ = some x
theorem Rds.nil (R : Nat) (w : World) : Rds R w (.slice none 0 0) 0 [] := .inl ⟨rfl, rfl, rfl⟩
theorem Rds.reads {R : Nat} {w : World} {v : Value} {n : Nat} {xs : List Value} (h : Rds R w v n xs) : Reads w w.heap.size v n xs := by
 rcases h with h | ⟨g, off, cap, h1, h2, h3⟩
 ·exact .inl h
 ·exact .inr ⟨g, off, cap, h1, h3⟩
theorem Rds.upd {R : Nat} {w w' : World} {v : Value} {n : Nat} {xs : List Value} (h : Rds R w v n xs) (hx : Upd R w w') : Rds R w' v n xs := by
 rcases h with h | ⟨g, off, cap, h1, h2, h3, h4, h5, h6⟩
 ·exact .inl h
 ·exact .inr ⟨g, off, cap, h1, h2, Nat.lt_of_lt_of_le h3 hx.size, h4, h5, fun j x hj => (World.cell?_of_block (hx.same g h2 h3)).trans (h6 j x hj)⟩
theorem Rds.ext {R B : Nat} {w w' : World} {v : Value} {n : Nat} {xs : List Value} (h : Rds R w v n xs) (hx : Ext B w w') : Rds R w' v n xs := by
 rcases h with h | ⟨g, off, cap, h1, h2, h3, h4, h5, h6⟩
 ·exact .inl h
 ·exact .inr ⟨g, off, cap, h1, h2, Nat.lt_of_lt_of_le h3 hx.size, h4, h5, fun j x hj => hx.cell (h6 j x hj)⟩
theorem Rds.call {R : Nat} {w w' : World} {v : Value} {n : Nat} {xs : List Value} (h : Rds R w v n xs) (hx : Below w.heap.size w w') : Rds R w' v n xs := h.upd (.of_below hx)
theorem Rds.alloc {R : Nat} {w : World} {v : Value} {n : Nat} {xs : List Value} (h : Rds R w v n xs) (o : Obj) : Rds R (w.alloc o) v n xs := h.call ((Below.refl _ w).alloc (Nat.le_refl _) o)
theorem Rds.of_own {R : Nat} {w : World} {base e size : Nat} {v : Value} {n : Nat} {xs : List Value} (h : w.ownsRow base e size v n xs) (hR : R < base) : Rds R w v n xs := by
 have hr := Reads.of_own h
 rcases hr with hr | ⟨g, off, cap, h1, h2, h3⟩
 ·exact .inl hr
 ·exact .inr ⟨g, off, cap, h1, by have := (h.lt g (by rw [h1]; rfl)).1; omega, h2, h3⟩
def RdT (T : TypeId) (w : World) (v : Value) (n : Nat) (xs : List Value) : Prop :=
 (v = .slice none 0 0 ∧ n = 0 ∧ xs = []) ∨
 ∃ g off cap cs fz, v = .slice (some ⟨g, off, none⟩) n cap ∧ w.heap[g]? = some (.cells cs T fz) ∧ n ≤ cap ∧ cap ≤ maxLen ∧ ∀ j x, xs[j]? = some x → cs[off + j]? = some x
def KeepT (T : TypeId) (w w' : World) : Prop := ∀ (g : Nat) (cs : Array Value) (fz : Nat × Nat), w.heap[g]? = some (.cells cs T fz) → w'.heap[g]? = some (.cells cs T fz)
theorem KeepT.refl (T : TypeId) (w : World) : KeepT T w w := fun _ _ _ h => h
theorem KeepT.trans {T : TypeId} {a b c : World} (h : KeepT T a b) (k : KeepT T b c) : KeepT T a c := fun g cs fz x => k g cs fz (h g cs fz x)
theorem KeepT.ext {T : TypeId} {B : Nat} {a b : World} (h : Ext B a b) : KeepT T a b := fun g cs fz x => h.cells g _ x rfl
theorem KeepT.call {T : TypeId} {a b : World} (h : Below a.heap.size a b) : KeepT T a b := fun g cs fz x => (h.block g (Array.getElem?_eq_some_iff.1 x).1).trans x
theorem KeepT.alloc {T : TypeId} {a : World} (o : Obj) : KeepT T a (a.alloc o) := .call ((Below.refl _ a).alloc (Nat.le_refl _) o)
theorem KeepT.upd {T T' : TypeId} {R : Nat} {cs : List Value} {a b : World} (hR : Blk a R cs T') (hT : T' ≠ T) (h : Upd R a b) : KeepT T a b := fun g cs fz x => by
 have hg : g ≠ R := by rintro rfl; unfold Blk at hR; rw [hR] at x; cases x; exact hT rfl
 exact (h.same g hg (Array.getElem?_eq_some_iff.1 x).1).trans x
theorem KeepT.set {T T' : TypeId} {cs : List Value} {a : World} (p : Addr) (hR : Blk a p.block cs T') (hT : T' ≠ T) (v : Value) : KeepT T a (a.setCell p v) := fun g cs fz x => by
 have hg : g ≠ p.block := by rintro rfl; unfold Blk at hR; rw [hR] at x; cases x; exact hT rfl
 exact (Below.heap_setCell a p v g hg).trans x
theorem KeepT.grown {T e : TypeId} {a b : World} {base size n : Nat} {v : Value} {xs : List Value} (ho : a.ownsRow base e size v n xs) (hT : e ≠ T) (h : a.grownBy b v.ownBlock) : KeepT T a b := fun g cs fz x => by
 refine (h.block g (Array.getElem?_eq_some_iff.1 x).1 (fun hr => ?_)).trans x
 rcases ho.2 with ⟨rfl, _⟩ | ⟨g', cap, cur, rfl, _, hg', _⟩
 ·simp [Value.ownBlock] at hr
 ·simp [Value.ownBlock] at hr
  subst hr
  rw [hg'] at x; cases x; exact hT rfl
theorem RdT.nil (T : TypeId) (w : World) : RdT T w (.slice none 0 0) 0 [] := .inl ⟨rfl, rfl, rfl⟩
theorem RdT.keep {T : TypeId} {w w' : World} {v : Value} {n : Nat} {xs : List Value} (h : RdT T w v n xs) (hx : KeepT T w w') : RdT T w' v n xs := by
 rcases h with h | ⟨g, off, cap, cs, fz, h1, h2, h3⟩
 ·exact .inl h
 ·exact .inr ⟨g, off, cap, cs, fz, h1, hx _ _ _ h2, h3⟩
theorem RdT.reads {T : TypeId} {w : World} {v : Value} {n : Nat} {xs : List Value} (h : RdT T w v n xs) : Reads w w.heap.size v n xs := by
 rcases h with h | ⟨g, off, cap, cs, fz, h1, h2, h3, h4, h5⟩
 ·exact .inl h
 ·exact .inr ⟨g, off, cap, h1, (Array.getElem?_eq_some_iff.1 h2).1, h3, h4, fun j x hj => by simp [World.cell?, h2, h5 j x hj]⟩
theorem RdT.of_own {e : TypeId} {w : World} {base size n : Nat} {v : Value} {xs : List Value} (h : w.ownsRow base e size v n xs) : RdT e w v n xs := by
 obtain ⟨hl, h⟩ := h
 rcases h with ⟨rfl, rfl⟩ | ⟨g, cap, cur, rfl, hb, hg, hn, hc, hs, ht⟩
 ·exact .inl ⟨rfl, rfl, List.eq_nil_of_length_eq_zero (by simpa using hl)⟩
 ·refine .inr ⟨g, 0, cap, cur, _, rfl, hg, hn, hc, fun j x hj => ?_⟩
  rw [← ht, List.getElem?_take] at hj
  split at hj
  ·simpa using hj
  ·cases hj
theorem RdT.new {W : World} (cs : List Value) (t : TypeId) (n c : Nat) (hn : n ≤ c) (hc : c ≤ maxLen) : RdT t (W.alloc (.cells cs.toArray t)) (.slice (some ⟨W.heap.size, 0, none⟩) n c) n cs :=
 .inr ⟨_, 0, c, cs.toArray, _, rfl, World.alloc_heap_new W _, hn, hc, fun j x hj => by rw [Nat.zero_add]; simpa using hj⟩
theorem RdT.lt {T : TypeId} {w : World} {v : Value} {n : Nat} {xs : List Value} (h : RdT T w v n xs) : n ≤ maxLen := by
 rcases h with ⟨_, rfl, _⟩ | ⟨g, off, cap, cs, fz, h1, h2, h3, h4, h5⟩
 ·exact Nat.zero_le _
 ·omega
end Go.Rg
namespace Go.Wd
open Go
abbrev B : Nat := 18446744073709551616
abbrev B4 : Nat := 115792089237316195423570985008687907853269984665640564039457584007913129639936
abbrev H4 : Nat := 57896044618658097711785492504343953926634992332820282019728792003956564819968
def lb (n i : Nat) : Nat := n / B ^ i % B
theorem lb_lt (n i : Nat) : lb n i < B := Nat.mod_lt _ (by decide)
def ws (k n : Nat) : List Nat := (List.range k).map (lb n)
abbrev u64 (n : Nat) : Value := .int .u64 (n : Int)
def uL (n : Nat) : List Value := [u64 (lb n 0), u64 (lb n 1), u64 (lb n 2), u64 (lb n 3)]
abbrev U (n : Nat) : Value := .agg #[u64 (lb n 0), u64 (lb n 1), u64 (lb n 2), u64 (lb n 3)]
theorem uL_at (n i : Nat) (h : i < 4) : (uL n)[i]? = some (u64 (lb n i)) := by
 have : i = 0 ∨ i = 1 ∨ i = 2 ∨ i = 3 := by omega
 rcases this with rfl | rfl | rfl | rfl <;> rfl
theorem mod_succ (n i : Nat) : n % B ^ (i + 1) = n % B ^ i + B ^ i * lb n i := by
 unfold lb
 rw [Nat.pow_succ, Nat.mod_mul]
theorem div_succ (n i : Nat) : n / B ^ (i + 1) = n / B ^ i / B := by rw [Nat.pow_succ, Nat.div_div_eq_div_mul]
def car (a b c i : Nat) : Nat := (a % B ^ i + b % B ^ i + c) / B ^ i
theorem car_zero (a b c : Nat) : car a b c 0 = c := by unfold car; simp [Nat.mod_one]
theorem car_succ (a b c i : Nat) : car a b c (i + 1) = (lb a i + lb b i + car a b c i) / B := by
 unfold car
 rw [mod_succ, mod_succ, Nat.pow_succ, ← Nat.div_div_eq_div_mul]
 congr 1
 have hp : 0 < B ^ i := Nat.pow_pos (by decide)
 rw [show a % B ^ i + B ^ i * lb a i + (b % B ^ i + B ^ i * lb b i) + c = (a % B ^ i + b % B ^ i + c) + B ^ i * (lb a i + lb b i) by rw [Nat.mul_add]; omega]
 rw [Nat.add_mul_div_left _ _ hp]
 omega
theorem car_le (a b c i : Nat) (hc : c ≤ 1) : car a b c i ≤ 1 := by
 unfold car
 have hp : 0 < B ^ i := Nat.pow_pos (by decide)
 have h1 := Nat.mod_lt a hp
 have h2 := Nat.mod_lt b hp
 have : (a % B ^ i + b % B ^ i + c) / B ^ i < 2 := by rw [Nat.div_lt_iff_lt_mul hp]; omega
 omega
theorem lb_add (a b c i : Nat) : lb (a + b + c) i = (lb a i + lb b i + car a b c i) % B := by
 have hp : 0 < B ^ i := Nat.pow_pos (by decide)
 have e : a + b + c = (a % B ^ i + b % B ^ i + c) + B ^ i * (a / B ^ i + b / B ^ i) := by
  have h1 := Nat.mod_add_div a (B ^ i)
  have h2 := Nat.mod_add_div b (B ^ i)
  rw [Nat.mul_add]; omega
 have e2 : (a + b + c) / B ^ i = car a b c i + (a / B ^ i + b / B ^ i) := by
  conv => lhs; rw [e]
  rw [Nat.add_mul_div_left _ _ hp]; rfl
 unfold lb
 rw [e2]
 generalize a / B ^ i = x
 generalize b / B ^ i = y
 generalize car a b c i = k
 show (k + (x + y)) % 18446744073709551616 = (x % 18446744073709551616 + y % 18446744073709551616 + k) % 18446744073709551616
 omega
theorem lb_ext {a b : Nat} (h : ∀ i, i < 4 → lb a i = lb b i) : a % B4 = b % B4 := by
 have key : ∀ n : Nat, n % B4 = lb n 0 + B * lb n 1 + B ^ 2 * lb n 2 + B ^ 3 * lb n 3 := by
  intro n
  have e : B4 = B ^ (3 + 1) := by decide
  rw [e, mod_succ, show (3 : Nat) = 2 + 1 from rfl, mod_succ, show (2 : Nat) = 1 + 1 from rfl, mod_succ, show (1 : Nat) = 0 + 1 from rfl, mod_succ]
  simp [Nat.mod_one]
 rw [key a, key b, h 0 (by omega), h 1 (by omega), h 2 (by omega), h 3 (by omega)]
theorem lb_mod (n i : Nat) (h : i < 4) : lb (n % B4) i = lb n i := by
 unfold lb
 have : i = 0 ∨ i = 1 ∨ i = 2 ∨ i = 3 := by omega
 rcases this with rfl | rfl | rfl | rfl <;> simp only [B, B4, Nat.reducePow] <;> omega
theorem U_mod (n : Nat) : U (n % B4) = U n := by
 unfold U; rw [lb_mod n 0 (by omega), lb_mod n 1 (by omega), lb_mod n 2 (by omega), lb_mod n 3 (by omega)]
theorem U_eq {a b : Nat} (h : a % B4 = b % B4) : U a = U b := by rw [← U_mod a, h, U_mod]
def tc (z : Int) : Nat := (z % (B4 : Int)).toNat
abbrev wI (z : Int) : Value := U (tc z)
theorem tc_cast (z : Int) : (tc z : Int) = z % (B4 : Int) := by
 unfold tc
 exact Int.toNat_of_nonneg (Int.emod_nonneg _ (by decide))
theorem tc_lt (z : Int) : tc z < B4 := by
 have h := tc_cast z
 have := Int.emod_lt_of_pos z (show (0 : Int) < (B4 : Int) by decide)
 omega
def sumL (s i : Nat) : List Value := (List.range 4).map fun j => if j < i then u64 (lb s j) else u64 0
theorem sumL_set (s i : Nat) (h : i < 4) : (sumL s i).set i (u64 (lb s i)) = sumL s (i + 1) := by
 have : i = 0 ∨ i = 1 ∨ i = 2 ∨ i = 3 := by omega
 rcases this with rfl | rfl | rfl | rfl <;> rfl
theorem sumL_at (s i j : Nat) (h : j < 4) : (sumL s i)[j]? = some (if j < i then u64 (lb s j) else u64 0) := by
 have : j = 0 ∨ j = 1 ∨ j = 2 ∨ j = 3 := by omega
 rcases this with rfl | rfl | rfl | rfl <;> rfl
theorem wI_nonneg {n : Int} (h1 : 0 ≤ n) (h2 : n ≤ 9223372036854775807) : wI n = .agg #[.int .u64 n, .int .u64 0, .int .u64 0, .int .u64 0] := by
 obtain ⟨k, rfl⟩ := Int.eq_ofNat_of_zero_le h1
 have hb : tc (k : Int) = k := by
  have := tc_cast (k : Int)
  simp only [B4] at this
  omega
 unfold wI U u64 lb
 rw [hb]
 have e0 : k / B ^ 0 % B = k := by simp only [B, Nat.reducePow, Nat.div_one]; omega
 have e1 : k / B ^ 1 % B = 0 := by simp only [B, Nat.reducePow]; omega
 have e2 : k / B ^ 2 % B = 0 := by simp only [B, Nat.reducePow]; omega
 have e3 : k / B ^ 3 % B = 0 := by simp only [B, Nat.reducePow]; omega
 rw [e0, e1, e2, e3]
 rfl
theorem wI_neg {n : Int} (h1 : -9223372036854775808 ≤ n) (h2 : n < 0) : wI n = .agg #[.int .u64 (n + 18446744073709551616), .int .u64 18446744073709551615, .int .u64 18446744073709551615, .int .u64 18446744073709551615] := by
 obtain ⟨k, hk⟩ : ∃ k : Nat, n = -(k : Int) := ⟨n.natAbs, by omega⟩
 have hb : tc n = 115792089237316195423570985008687907853269984665640564039457584007913129639936 - k := by
  have := tc_cast n
  simp only [B4] at this
  omega
 unfold wI U u64 lb
 rw [hb]
 have e0 : (115792089237316195423570985008687907853269984665640564039457584007913129639936 - k) / B ^ 0 % B = 18446744073709551616 - k := by simp only [B, Nat.reducePow, Nat.div_one]; omega
 have e1 : (115792089237316195423570985008687907853269984665640564039457584007913129639936 - k) / B ^ 1 % B = 18446744073709551615 := by simp only [B, Nat.reducePow]; omega
 have e2 : (115792089237316195423570985008687907853269984665640564039457584007913129639936 - k) / B ^ 2 % B = 18446744073709551615 := by simp only [B, Nat.reducePow]; omega
 have e3 : (115792089237316195423570985008687907853269984665640564039457584007913129639936 - k) / B ^ 3 % B = 18446744073709551615 := by simp only [B, Nat.reducePow]; omega
 rw [e0, e1, e2, e3]
 have : ((18446744073709551616 - k : Nat) : Int) = n + 18446744073709551616 := by omega
 rw [this]
 rfl
end Go.Wd
namespace Go.Rg
open Go Go.RowKit
def plainOp (o : Oper) : Bool := match o.op with | .defer _ => false | _ => true
theorem plainOp_spec {o : Oper} (h : plainOp o = true) (c : Call) : o.op ≠ .defer c := by
 intro e; unfold plainOp at h; rw [e] at h; cases h
theorem wpIn_round {P : Program} {n : Nat} {o : Oper} (l : Nat) (hp : plainOp o = true) {a : Act} {w : World} {K : Act → World → Prop} {Q : Exit → Act → World → Prop} (h : o.wpIn (WF none) n P a w K Q) : o.wpIn (WF (some l)) n P a w K Q := by
 unfold Oper.wpIn at *
 refine ⟨fun f _ => trivial, ?_⟩
 have e1 : o.semAt (WF (some l)).round a.eval = o.semAt (WF none).round a.eval := by
  show Oper.semAt (some l) a.eval o = Oper.semAt none a.eval o
  rw [Oper.semAt_some l _ _ (plainOp_spec hp)]
  rfl
 rw [e1]
 exact h.2
theorem wpAny_round {P : Program} {n : Nat} {md : Region.Mode} {ops : Array Oper} {Q : Exit → Act → World → Prop} (l : Nat) (hp : ∀ (i : Nat) (o : Oper), ops[i]? = some o → plainOp o = true) :
  ∀ (fuel : Nat) (listed : Array Bool) (a : Act) (w : World), wpAnyIn (WF none) n P md ops Q fuel listed a w → wpAnyIn (WF (some l)) n P md ops Q fuel listed a w := by
 intro fuel
 induction fuel with
 | zero => intro listed a w h; exact h
 | succ fuel ih =>
  intro listed a w h
  refine ⟨h.1, fun i hi => ?_⟩
  have h2 := wpOpIn_mono (fun a w h => ih _ a w h) (h.2 i hi)
  unfold wpOpIn at *
  split
  ·rename_i ho
   simp only [ho] at h2
   exact h2
  ·rename_i o ho
   simp only [ho] at h2
   split
   ·rename_i hw
    simp only [hw, if_true] at h2
    exact wpIn_round l (hp i o ho) h2
   ·rename_i hw
    simp only [hw] at h2
    exact ⟨fun f _ => trivial, h2.2⟩
end Go.Rg
namespace Go.Rg
open Go Go.RowKit
theorem wpIn_of_wp {P : Program} {n : Nat} {o : Oper} {a : Act} {w : World} {K : Act → World → Prop} {Q : Exit → Act → World → Prop} (h : o.wp P a w K Q) : o.wpIn (WF none) n P a w K Q := by
 unfold Oper.wpIn
 unfold Oper.wp at h
 refine ⟨fun _ _ => trivial, ?_⟩
 show o.uponIn (WF none) n P a K Q ((execOp a.eval o).run P w)
 generalize (execOp a.eval o).run P w = r at *
 cases r with
 | ok n w' =>
  cases n with
  | value v => exact h
  | skip => exact h
  | defer d => exact h
  | enter f args =>
   refine ⟨fun h => absurd h (by simp), (callsIn_wide.2 h).mono ?_⟩
   intro e w' he
   cases e <;> exact he
  | row row args => exact ⟨fun h => absurd h (by simp), fun c cs _ => let ⟨v, w', r, s⟩ := h c cs; ⟨v, w', r, stepsIn_wide.2 s⟩⟩
  | _ => exact h.elim
 | halt x w' =>
  cases x <;> exact h
theorem wpAnyIn_of_wpAny {P : Program} {n : Nat} {md : Region.Mode} {ops : Array Oper} {Q : Exit → Act → World → Prop} (hL : ¬ LetsOut Q) :
  ∀ (fuel : Nat) (listed : Array Bool) (a : Act) (w : World), wpAny P md ops Q fuel listed a w → wpAnyIn (WF none) n P md ops Q fuel listed a w := by
 intro fuel
 induction fuel with
 | zero => intro listed a w h; exact h
 | succ fuel ih =>
  intro listed a w h
  refine ⟨h.1, fun i hi => ?_⟩
  have h2 := wpOp_mono (fun a w h => ih _ a w h) (h.2 i hi)
  unfold wpOp at h2
  unfold wpOpIn
  split
  ·rename_i ho
   simp only [ho] at h2
   exact h2
  ·rename_i o ho
   simp only [ho] at h2
   split
   ·rename_i hw
    simp only [hw, if_true] at h2
    exact wpIn_of_wp (h2.resolve_right (fun h => hL h.2))
   ·rename_i hw
    simp only [hw] at h2
    exact ⟨fun f _ => trivial, h2⟩
section
variable {P : Program} {ops : Array Oper} {Q : Exit → Act → World → Prop} {md : Region.Mode} {S : World → Prop} {late : Nat → Bool}
def wpAnyG (P : Program) (md : Region.Mode) (ops : Array Oper) (Q : Exit → Act → World → Prop) (S : World → Prop) (late : Nat → Bool) : Nat → Array Bool → Act → World → Prop
 | 0, listed, a, w => Region.ready md ops listed = [] ∧ Q .normal a w
 | fuel + 1, listed, a, w => (Region.ready md ops listed = [] → Q .normal a w) ∧
  ∀ i ∈ Region.ready md ops listed, wpOp P ops Q i (fun a' w' => (late i = false → S w') ∧ wpAnyG P md ops Q S late fuel (listed.setIfInBounds i true) a' w') a w
theorem wpAny_of_G : ∀ (fuel : Nat) (listed : Array Bool) (a : Act) (w : World), wpAnyG P md ops Q S late fuel listed a w → wpAny P md ops Q fuel listed a w := by
 intro fuel
 induction fuel with
 | zero => intro listed a w h; exact h
 | succ fuel ih => intro listed a w h; exact ⟨h.1, fun i hi => wpOp_mono (fun a' w' h' => ih _ a' w' h'.2) (h.2 i hi)⟩
def waits (md : Region.Mode) (ops : Array Oper) (late : Nat → Bool) (i : Nat) : Bool :=
 (List.range ops.size).all fun j => !late j || (match ops[j]? with | none => true | some o => o.after.any fun e => Region.binds md e && e.on == i)
def AllReadyG (P : Program) (md : Region.Mode) (ops : Array Oper) (Q : Exit → Act → World → Prop) (S : World → Prop) (late : Nat → Bool) (fuel : Nat) (listed : Array Bool) (a : Act) (w : World) (rs : List Nat) : Prop :=
 ∀ i ∈ rs, wpOp P ops Q i (fun a' w' => (late i = false → S w') ∧ wpAnyG P md ops Q S late fuel (listed.setIfInBounds i true) a' w') a w
theorem AllReadyG.nil {fuel : Nat} {listed : Array Bool} {a : Act} {w : World} : AllReadyG P md ops Q S late fuel listed a w [] := fun _ h => by cases h
theorem AllReadyG.cons {fuel : Nat} {listed : Array Bool} {a : Act} {w : World} {i : Nat} {o : Oper} {rs : List Nat} (ho : ops[i]? = some o)
  (h : ∀ K' : Act → World → Prop, Shut (∀ a w, (late i = false → S w) → wpAnyG P md ops Q S late fuel (listed.setIfInBounds i true) a w → K' a w) → if Region.wanted o (yielded ops a.tmps) = true then Oper.wp P o a w K' Q else K' (a.put o.dst undef) w)
  (hs : AllReadyG P md ops Q S late fuel listed a w rs) : AllReadyG P md ops Q S late fuel listed a w (i :: rs) := fun j hj => by
 rcases List.mem_cons.1 hj with rfl | hj
 ·exact wpOp_step ho (fun K' hK => h K' (fun a w hS hW => hK a w ⟨hS, hW⟩))
 ·exact hs j hj
theorem wpAnyG_ready {rs : List Nat} {fuel : Nat} {listed : Array Bool} {a : Act} {w : World} (hr : Region.ready md ops listed = rs) (hne : rs ≠ [])
  (h : AllReadyG P md ops Q S late fuel listed a w rs) : wpAnyG P md ops Q S late (fuel + 1) listed a w := ⟨fun h0 => absurd (hr ▸ h0) hne, hr ▸ h⟩
theorem wpAnyG_done {listed : Array Bool} {a : Act} {w : World} (hr : Region.ready md ops listed = []) (h : Q .normal a w) : ∀ fuel, wpAnyG P md ops Q S late fuel listed a w
 | 0 => ⟨hr, h⟩
 | _ + 1 => ⟨fun _ => h, by rw [hr]; simp⟩
def waitsD (md : Region.Mode) (ops : Array Oper) (late : Nat → Bool) (D : List Nat) (i : Nat) (listed : Array Bool) : Bool :=
 (List.range ops.size).all fun j => (!late j || (D.contains j && j != i)) &&
  (!D.contains j || (!listed.getD j true && (j == i || match ops[j]? with | none => false | some o => o.after.any fun e => Region.binds md e && D.contains e.on)))
theorem wpAnyG_firstD {i : Nat} {oi : Oper} {v : Value} {D : List Nat} (hi : ops[i]? = some oi) (hsel : ∀ (j : Nat) (o : Oper) cs b, ops[j]? = some o → o.op ≠ .select cs b)
  (hQ : ∀ c a w, Q (.panic c) (a.put oi.dst v) w → Q (.panic c) a w)
  (hl : ∀ j, j < ops.size → late j = true → j ∈ D ∧ j ≠ i) (hd : ∀ j oj, ops[j]? = some oj → j ∈ D → j ≠ i → ∃ e ∈ oj.after, Region.binds md e = true ∧ e.on ∈ D) :
  ∀ (fuel : Nat) (listed : Array Bool) (a : Act) (w : World), (∀ j ∈ D, j < ops.size → listed.getD j true = false) → (∀ j ∈ D, j < ops.size) →
   (∀ j oj, ops[j]? = some oj → j ≠ i → listed.getD j true = false → (∀ e ∈ oj.after, Region.binds md e = true → e.on ≠ i) → oi.apart ops oj = true) →
   i ∈ Region.ready md ops listed → YieldsIf P ops S oi v a → S w →
   wpAnyG P md ops Q S late fuel (listed.setIfInBounds i true) (a.put oi.dst v) w → wpAnyG P md ops Q S late (fuel + 1) listed a w := by
 intro fuel
 induction fuel with
 | zero =>
  intro listed a w _ _ _ hr hy hS H
  refine ⟨fun h => (by rw [h] at hr; cases hr), fun j hj => ?_⟩
  by_cases e : j = i
  ·rw [e]; exact hy.wpOp hi hS ⟨fun _ => hS, H⟩
  ·have h1 := ready_mono hj e
   rw [H.1] at h1
   cases h1
 | succ fuel ih =>
  intro listed a w hu hDs hfree hr hy hS H
  refine ⟨fun h => (by rw [h] at hr; cases hr), fun j hj => ?_⟩
  by_cases e : j = i
  ·rw [e]; exact hy.wpOp hi hS ⟨fun _ => hS, H⟩
  ·obtain ⟨hun, oj, hoj, hall⟩ := mem_ready.1 hj
   have hlt : j < ops.size := (Array.getElem?_eq_some_iff.1 hoj).1
   have hjD : j ∉ D := fun hj => by
    obtain ⟨e, he, hb, hon⟩ := hd j oj hoj hj (by assumption)
    have h1 := hall e he hb
    have h0 := hu _ hon (hDs _ hon)
    rcases Nat.lt_or_ge e.on listed.size with h' | h'
    ·simp [h'] at h0 h1; rw [h0] at h1; cases h1
    ·simp [Array.getElem?_eq_none h'] at h1
   have hlj : late j = false := by
    cases hlt' : late j with
    | false => rfl
    | true => exact absurd (hl j hlt hlt').1 hjD
   have hno : ∀ e ∈ oj.after, Region.binds md e = true → e.on ≠ i := by
    intro e he hb heq
    have h1 := hall e he hb
    have h0 := (mem_ready.1 hr).1
    rw [heq] at h1
    rcases Nat.lt_or_ge i listed.size with h' | h'
    ·simp [h'] at h0 h1; rw [h0] at h1; cases h1
    ·simp [Array.getElem?_eq_none h'] at h1
   refine wpOp_mono (fun a' w' h3 => ⟨fun _ => h3.2.1 hlj, ih (listed.setIfInBounds j true) a' w' ?_ hDs ?_ (ready_mono hr (Ne.symm e)) h3.1 (h3.2.1 hlj) ?_⟩)
    (wpOp_putIf hoj (hfree j oj hoj e hun hno) (fun cs b => hsel i oi cs b hi) (fun cs b => hsel j oj cs b hoj) hQ hy (H.2 j (ready_mono hj e)))
   ·intro k hk hkl
    rw [getD_set_ne true (show ¬ j = k from fun e => hjD (by rw [e]; exact hk))]
    exact hu k hk hkl
   ·intro k ok hk hki hunk hnok
    refine hfree k ok hk hki ?_ hnok
    by_cases hjk : j = k
    ·rw [← hjk]; exact hun
    ·rwa [getD_set_ne true hjk] at hunk
   ·rw [Array.setIfInBounds_comm _ _ e]
    exact h3.2.2
theorem wpAnyG_takeD {i : Nat} {oi : Oper} {v : Value} {fuel : Nat} {listed : Array Bool} {a : Act} {w : World} (D : List Nat) (hi : ops[i]? = some oi)
  (hs : Region.noSelect ops = true) (hf : Region.free md ops listed i = true) (hr : (Region.ready md ops listed).contains i = true) (hD : waitsD md ops late D i listed = true) (hDs : D.all (fun j => decide (j < ops.size)) = true)
  (hQ : ∀ c a w, Q (.panic c) (a.put oi.dst v) w → Q (.panic c) a w) (hy : YieldsIf P ops S oi v a) (hS : S w)
  (h : wpAnyG P md ops Q S late fuel (listed.setIfInBounds i true) (a.put oi.dst v) w) : wpAnyG P md ops Q S late (fuel + 1) listed a w := by
 unfold waitsD at hD
 rw [List.all_eq_true] at hD hDs
 have hds : ∀ j ∈ D, j < ops.size := fun j hj => by simpa using hDs j hj
 have key := fun j (hj : j < ops.size) => hD j (List.mem_range.2 hj)
 refine wpAnyG_firstD (D := D) hi (Region.noSelect_spec hs) hQ ?_ ?_ fuel listed a w ?_ hds (Region.free_spec hi hf) (by simpa using hr) hy hS h
 ·intro j hj hl
  have := key j hj
  simp [hl] at this
  exact this.1
 ·intro j oj hoj hjD hne
  have := key j (Array.getElem?_eq_some_iff.1 hoj).1
  simp only [Bool.and_eq_true, Bool.or_eq_true, Bool.not_eq_true', hoj] at this
  have h2 := this.2
  rcases h2 with h2 | ⟨_, h2 | h2⟩
  ·rw [List.contains_iff_mem.2 hjD] at h2; cases h2
  ·exact absurd (by simpa using h2) hne
  ·rw [Array.any_eq_true'] at h2
   obtain ⟨e, he, hb⟩ := h2
   rw [Bool.and_eq_true] at hb
   exact ⟨e, he, hb.1, List.contains_iff_mem.1 hb.2⟩
 ·intro j hjD hj
  have := key j hj
  simp only [Bool.and_eq_true, Bool.or_eq_true, Bool.not_eq_true'] at this
  rcases this.2 with h2 | ⟨h2, _⟩
  ·rw [List.contains_iff_mem.2 hjD] at h2; cases h2
  ·exact h2
end
theorem heldG_round {P : Program} {n : Nat} {id : Nat} {r0 : Option Nat} {Q : Exit → Act → World → Prop} {a : Act} {w : World} {l : List Oper} (S : World → Prop) (late : Nat → Bool) (hm : P.follows .mixedOrders = true) (hL : ¬ LetsOut Q) (hp : l.all plainOp = true)
  (h : wpAnyG P .any l.toArray Q S late l.toArray.size (Array.replicate l.toArray.size false) a w.drew) : (Code.region id l.toArray true).wpIn (WF r0) n P Q a w := by
 have h1 := wpAnyIn_of_wpAny (n := n) hL _ _ _ _ (wpAny_of_G _ _ _ _ h)
 refine wpIn_region_any hm ?_
 cases r0 with
 | none => exact h1
 | some l0 =>
  refine wpAny_round l0 (fun i o ho => ?_) _ _ _ _ h1
  rw [List.all_eq_true] at hp
  exact hp o (by simpa using List.mem_of_getElem? (by simpa using ho))
end Go.Rg
