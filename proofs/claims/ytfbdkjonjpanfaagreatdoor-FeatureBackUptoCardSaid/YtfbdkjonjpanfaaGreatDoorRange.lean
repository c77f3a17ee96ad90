/- A range over a function: the law that these proofs use. What an iterator owes ('SeqI'), what a loop over it owes ('wp_range'). No program in sight. -/
import Derived.RangeFuncNested
import Derived.RangeFuncBound
import Derived.RangeFuncCalls
import Derived.RangeFuncLeaves
set_option linter.unusedVariables false
set_option linter.unusedSimpArgs false
namespace Go.Rg
open Go Go.RowKit

/-- the widest fence, in a round or in none -/
def WF (r : Option Nat) : Fence := { fn := fun _ => True, depth := none, alive := false, round := r }

@[simp] theorem WF_round (r : Option Nat) : (WF r).round = r := rfl
@[simp] theorem WF_depth (r : Option Nat) : (WF r).depth = none := rfl
@[simp] theorem WF_fn (r : Option Nat) (f : Nat) : (WF r).fn f = True := rfl
@[simp] theorem WF_inRound (r : Option Nat) (l : Nat) : (WF r).inRound l = WF (some l) := rfl
theorem calls_iff {r : Option Nat} {m : Nat} {P : Program} {f : FuncId} {args : Array Value} {w : World} {R : Ending → World → Prop} :
    CallsIn (WF r) m P f args w R ↔ Calls P f args w R := callsIn_wide (n := m)

/-- blocks of a kind are as they were -/
structure Kept (S : Nat → Prop) (W W' : World) : Prop where
  os : W'.os = W.os
  tape : W'.tape = W.tape
  output : W'.output = W.output
  size : W.heap.size ≤ W'.heap.size
  same : ∀ k, S k → W'.heap[k]? = W.heap[k]?

theorem Kept.refl (S : Nat → Prop) (W : World) : Kept S W W := ⟨rfl, rfl, rfl, Nat.le_refl _, fun _ _ => rfl⟩
theorem Kept.trans {S : Nat → Prop} {A B C : World} (h : Kept S A B) (k : Kept S B C) : Kept S A C :=
  ⟨k.os.trans h.os, k.tape.trans h.tape, k.output.trans h.output, Nat.le_trans h.size k.size, fun i hi => (k.same i hi).trans (h.same i hi)⟩
theorem Kept.mono {S T : Nat → Prop} {A B : World} (h : Kept S A B) (ht : ∀ k, T k → S k) : Kept T A B := ⟨h.os, h.tape, h.output, h.size, fun k hk => h.same k (ht k hk)⟩
theorem Kept.of_below {B : Nat} {A C : World} (h : Below B A C) : Kept (· < B) A C := ⟨h.os, h.tape, h.output, h.size, fun k hk => h.block k hk⟩
theorem Kept.below {B : Nat} {A C : World} (h : Kept (· < B) A C) : Below B A C := ⟨h.os, h.tape, h.output, h.size, fun k hk => h.same k hk⟩

/-- whatever was cells is as it was, and whatever lay below B -/
structure Ext (B : Nat) (W W' : World) : Prop where
  below : Below B W W'
  cells : ∀ (k : Nat) (o : Obj), W.heap[k]? = some o → o.isCells = true → W'.heap[k]? = some o

theorem Ext.refl (B : Nat) (W : World) : Ext B W W := ⟨Below.refl _ _, fun _ _ h _ => h⟩
theorem Ext.trans {B : Nat} {X Y Z : World} (h : Ext B X Y) (k : Ext B Y Z) : Ext B X Z := ⟨h.below.trans k.below, fun i o hi ho => k.cells i o (h.cells i o hi ho) ho⟩
theorem Ext.mono {B B' : Nat} {X Y : World} (h : Ext B X Y) (hB : B' ≤ B) : Ext B' X Y := ⟨h.below.mono hB, h.cells⟩
theorem Ext.size {B : Nat} {X Y : World} (h : Ext B X Y) : X.heap.size ≤ Y.heap.size := h.below.size
theorem Ext.of_below {X Y : World} (h : Below X.heap.size X Y) : Ext X.heap.size X Y := ⟨h, fun k o hk _ => (h.block k (Array.getElem?_eq_some_iff.1 hk).1).trans hk⟩
theorem Ext.of_below' {B : Nat} {X Y : World} (h : Below X.heap.size X Y) (hB : B ≤ X.heap.size) : Ext B X Y := (Ext.of_below h).mono hB
theorem Ext.putObj {B : Nat} {W : World} {l : Nat} {o : Obj} (hB : B ≤ l) (hl : W.heap[l]? = some o) (ho : o.isCells = false) (o' : Obj) : Ext B W (W.putObj l o') :=
  ⟨(Below.refl B W).grown (grownBy_putObj' W l o') (by have := (Array.getElem?_eq_some_iff.1 hl).1; omega) (fun k e => by cases e; omega), fun k o2 hk hc => by
    by_cases e : k = l
    · subst e; rw [hl] at hk; cases hk; rw [ho] at hc; cases hc
    · exact (World.putObj_heap_other e).trans hk⟩
theorem Ext.cell {B : Nat} {X Y : World} (h : Ext B X Y) {a : Addr} {v : Value} (hc : X.cell? a = some v) : Y.cell? a = some v := by
  obtain ⟨o, ho, hcs⟩ := cells_of_cell hc
  exact (World.cell?_of_block ((h.cells _ _ ho hcs).trans ho.symm)).trans hc
theorem Ext.frozen {B : Nat} {X Y : World} (h : Ext B X Y) {a : Addr} {v : Value} (hc : X.cell? a = some v) : Y.frozen? a = X.frozen? a := by
  obtain ⟨o, ho, hcs⟩ := cells_of_cell hc
  exact World.frozen?_of_block ((h.cells _ _ ho hcs).trans ho.symm)

/-- what a piece of code may do: whatever is no cells from B on, and the blocks of S, stay as they were -/
structure Eff (B : Nat) (S : Nat → Prop) (W W' : World) : Prop where
  kept : Kept S W W'
  others : ∀ (k : Nat) (o : Obj), B ≤ k → W.heap[k]? = some o → o.isCells = false → W'.heap[k]? = some o

theorem Eff.refl (B : Nat) (S : Nat → Prop) (W : World) : Eff B S W W := ⟨Kept.refl _ _, fun _ _ _ h _ => h⟩
theorem Eff.trans {B : Nat} {S : Nat → Prop} {X Y Z : World} (h : Eff B S X Y) (k : Eff B S Y Z) : Eff B S X Z := ⟨h.kept.trans k.kept, fun i o hB hi ho => k.others i o hB (h.others i o hB hi ho) ho⟩
theorem Eff.mono {B B' : Nat} {S T : Nat → Prop} {X Y : World} (h : Eff B S X Y) (hB : B ≤ B') (ht : ∀ k, T k → S k) : Eff B' T X Y := ⟨h.kept.mono ht, fun k o hk => h.others k o (Nat.le_trans hB hk)⟩
theorem Eff.of_below {B : Nat} {S : Nat → Prop} {X Y : World} (h : Below X.heap.size X Y) (hS : ∀ k, S k → k < X.heap.size) : Eff B S X Y :=
  ⟨⟨h.os, h.tape, h.output, h.size, fun k hk => h.block k (hS k hk)⟩, fun k o _ hk _ => (h.block k (Array.getElem?_eq_some_iff.1 hk).1).trans hk⟩
theorem Eff.alloc {B : Nat} {S : Nat → Prop} {A W : World} (h : Eff B S A W) (hS : ∀ k, S k → k < W.heap.size) (o : Obj) : Eff B S A (W.alloc o) :=
  h.trans (Eff.of_below ((Below.refl _ W).alloc (Nat.le_refl _) o) hS)
theorem Eff.drew {B : Nat} {S : Nat → Prop} {A W : World} (h : Eff B S A W) : Eff B S A W.drew := ⟨⟨h.kept.os, h.kept.tape, h.kept.output, h.kept.size, h.kept.same⟩, h.others⟩
theorem Eff.setCell {B : Nat} {S : Nat → Prop} {A W : World} (h : Eff B S A W) (a : Addr) (ha : ¬ S a.block) (v : Value) : Eff B S A (W.setCell a v) :=
  h.trans ⟨⟨rfl, rfl, rfl, by simp [World.setCell], fun k hk => Below.heap_setCell _ _ _ _ (fun e => ha (e ▸ hk))⟩, fun k o _ => (KeepsOthers.setCell W a v).same k o⟩
theorem Eff.call {B : Nat} {S : Nat → Prop} {A W W' : World} (h : Eff B S A W) (hb : Below W.heap.size W W') (hS : ∀ k, S k → k < W.heap.size) : Eff B S A W' := h.trans (Eff.of_below hb hS)
theorem Eff.grown {B : Nat} {S : Nat → Prop} {A W W' : World} {row : Option Nat} (h : Eff B S A W) (hg : W.grownBy W' row) (hS : ∀ k, S k → k < W.heap.size) (hrow : ∀ k, row = some k → ¬ S k) (hc : ∀ k o, row = some k → W.heap[k]? = some o → o.isCells = true) : Eff B S A W' :=
  h.trans ⟨⟨hg.os, hg.tape, hg.output, hg.size, fun k hk => hg.block k (hS k hk) (fun e => hrow k e.symm hk)⟩, fun k o _ => (KeepsOthers.of_grownBy hg hc).same k o⟩

/-- the blocks of O, and those that have come since -/
def grow (O : Nat → Prop) (X Y : World) : Nat → Prop := fun j => O j ∨ (X.heap.size ≤ j ∧ j < Y.heap.size)
def both (S O : Nat → Prop) : Nat → Prop := fun j => S j ∨ O j

/-- WHAT AN ITERATOR OWES: it hands out these, one behind the other, as far as it is asked; what the caller says of cells, and of what lay there when the iterator was called, stays true while the iterator goes on. S: the blocks that a loop's body must leave as they are; O: those that the iterator has made since, which the body leaves too. -/
def SeqI (P : Program) (gf : Nat) (lb : Array Value) (encs : List (Array Value)) (S : Nat → Prop) (w : World) : Prop :=
  ∀ (l : Nat) (J : Nat → (Nat → Prop) → World → Prop) (Jx : Nat → World → Prop) (W : World), Kept S w W →
    (∀ k O O' X Y, J k O X → Ext W.heap.size X Y → (∀ j, O' j → grow O X Y j) → J k O' Y) → (∀ k X Y, Jx k X → Ext W.heap.size X Y → Jx k Y) →
    (∀ k x O X, encs[k]? = some x → Kept S W X → (∀ j, O j → W.heap.size ≤ j ∧ j < X.heap.size) → J k O X → YieldAt (WF none) 0 P l x X fun e X' =>
      (e = .returned (.bool true) ∧ J (k + 1) O X' ∧ Eff W.heap.size (both S O) X X') ∨ (e = .returned (.bool false) ∧ Jx (k + 1) X' ∧ Eff W.heap.size (both S O) X X')) →
    J 0 (fun _ => False) W →
    CallsIn (WF none) 0 P gf (#[.func (.yield l) #[] #[]] ++ lb) W fun e W' => (∃ v, e = .returned v) ∧ Kept S W W' ∧ ((∃ O, (∀ j, O j → W.heap.size ≤ j ∧ j < W'.heap.size) ∧ J encs.length O W') ∨ ∃ k, 0 < k ∧ k ≤ encs.length ∧ Jx k W')

/-- how a round's body may be left: it goes on with the next one, or jumps away -/
def roundEnd (B : Nat) (S : Nat → Prop) (I : World → Prop) (Ix : Code → World → Prop) (W : World) : Exit → Act → World → Prop
  | .normal, _, W' => Eff B S W W' ∧ I W'
  | .ret, _, W' => Eff B S W W' ∧ Ix .ret W'
  | .exit id, _, W' => Eff B S W W' ∧ Ix (.exit id) W'
  | .goto t, _, W' => Eff B S W W' ∧ Ix (.goto t) W'
  | .panic _, _, _ => False
  | .outgrown, _, _ => False

/-- the marks that an activation bears behind such a loop -/
def marks (r : Option Nat) (D : Nat) : List Deferred := match r with | none => [{ target := .collected D, args := #[] }] | some _ => []

section
variable {P : Program}

theorem round_law {r0 : Option Nat} {l m : Nat} {fn : FuncId} {rec : Loop} {S : Nat → Prop} {x : Array Value} {W : World} {I : World → Prop} {Ix : Code → World → Prop} {B : Nat}
    (hl : W.heap[l]? = some (.loop rec)) (hr : rec.state = .ready) (hp : rec.pending = none) (hx : x.size = rec.params.size) (hS : ¬ S l) (hB : B ≤ l)
    (hI : ∀ X Y, I X → Ext B X Y → I Y) (hIx : ∀ c X Y, Ix c X → Ext B X Y → Ix c Y)
    (h : rec.assign.wpIn (WF (some l)) 0 P (Exit.then (fun a' Wa => Eff B S W Wa ∧ ∀ Wb, Ext B Wa Wb → Kept S Wa Wb → Wb.heap.size = Wa.heap.size → (∃ r, Wb.heap[l]? = some (.loop r)) → rec.body.wpIn (WF (some l)) 0 P (roundEnd B S I Ix Wb) a' Wb) (fun _ _ _ => False))
      { tmps := (rec.params.zip x).foldl (fun t (p, v) => t.setIfInBounds p v) rec.tmps, defers := [] } W) :
    YieldAt (WF r0) 0 P l x W fun e W' =>
      (e = .returned (.bool true) ∧ I W' ∧ W'.heap[l]? = some (.loop rec) ∧ Kept S W W' ∧ (∀ k o, k ≠ l → B ≤ k → W.heap[k]? = some o → o.isCells = false → W'.heap[k]? = some o)) ∨
      (e = .returned (.bool false) ∧ (∃ c, Ix c W' ∧ W'.heap[l]? = some (.loop { rec with state := .done, pending := some c })) ∧ Kept S W W' ∧ (∀ k o, k ≠ l → B ≤ k → W.heap[k]? = some o → o.isCells = false → W'.heap[k]? = some o)) := by
  have hlt : l < W.heap.size := (Array.getElem?_eq_some_iff.1 hl).1
  refine ⟨_, _, _, _, run_yield hl hx, roundIn_of_wpIn (F := WF r0) trivial (wpIn_mono h ?_)⟩
  rintro e a' Wa hq
  cases e with
  | normal =>
    obtain ⟨he, hb⟩ := hq
    have hla := he.others l _ hB hl rfl
    refine ⟨_, run_beginRound hla hr, ?_⟩
    have hlta : l < Wa.heap.size := (Array.getElem?_eq_some_iff.1 hla).1
    have keptb : ∀ o, Kept S Wa (Wa.putObj l o) := fun o => ⟨rfl, rfl, rfl, by simp, fun k hk => World.putObj_heap_other (fun e => hS (e ▸ hk))⟩
    have hl2 : (Wa.putObj l (.loop { rec with state := .busy })).heap[l]? = some (.loop { rec with state := .busy }) := World.putObj_heap_same hlta
    have hx2 : Ext B Wa (Wa.putObj l (.loop { rec with state := .busy })) := Ext.putObj hB hla rfl _
    have hbody := hb _ hx2 (keptb _) (by simp) ⟨_, hl2⟩
    refine wpIn_mono hbody ?_
    rintro e2 a2 Wc hq2
    have others : Eff B S (Wa.putObj l (.loop { rec with state := .busy })) Wc → ∀ k o o', k ≠ l → B ≤ k → W.heap[k]? = some o → o.isCells = false → (Wc.putObj l o').heap[k]? = some o := fun hE k o o' hk hBk ho hc =>
      (World.putObj_heap_other hk).trans (hE.others k o hBk ((World.putObj_heap_other hk).trans (he.others k o hBk ho hc)) hc)
    have kept : Eff B S (Wa.putObj l (.loop { rec with state := .busy })) Wc → ∀ o, Kept S W (Wc.putObj l o) := fun hE o =>
      ((he.kept.trans (keptb _)).trans hE.kept).trans ⟨rfl, rfl, rfl, by simp, fun k hk => World.putObj_heap_other (fun e => hS (e ▸ hk))⟩
    have stop : ∀ c, Eff B S (Wa.putObj l (.loop { rec with state := .busy })) Wc → Ix c Wc → ∃ v w', (Instr.endRound l (some c)).run P Wc = .ok v w' ∧ ((Ending.returned v = .returned (.bool true) ∧ I w' ∧ w'.heap[l]? = some (.loop rec) ∧ Kept S W w' ∧ (∀ k o, k ≠ l → B ≤ k → W.heap[k]? = some o → o.isCells = false → w'.heap[k]? = some o)) ∨
        (Ending.returned v = .returned (.bool false) ∧ (∃ c, Ix c w' ∧ w'.heap[l]? = some (.loop { rec with state := .done, pending := some c })) ∧ Kept S W w' ∧ (∀ k o, k ≠ l → B ≤ k → W.heap[k]? = some o → o.isCells = false → w'.heap[k]? = some o))) := fun c hE hi => by
      have hl3 := hE.others l _ hB hl2 rfl
      exact ⟨_, _, run_endRound (some c) hl3, .inr ⟨rfl, ⟨c, hIx c _ _ hi (Ext.putObj hB hl3 rfl _), World.putObj_heap_same (Array.getElem?_eq_some_iff.1 hl3).1⟩, kept hE _, fun k o hk hBk ho hc => others hE k o _ hk hBk ho hc⟩⟩
    cases e2 with
    | normal =>
      obtain ⟨hE, hi⟩ := hq2
      have hl3 := hE.others l _ hB hl2 rfl
      refine ⟨_, _, run_endRound none hl3, .inl ⟨rfl, hI _ _ hi (Ext.putObj hB hl3 rfl _), ?_, kept hE _, fun k o hk hBk ho hc => others hE k o _ hk hBk ho hc⟩⟩
      rw [World.putObj_heap_same (Array.getElem?_eq_some_iff.1 hl3).1]
      obtain ⟨st, pe, f2, t2, p2, a3, b3, d3⟩ := rec
      simp only at hr hp
      subst hr hp
      rfl
    | ret => exact stop .ret hq2.1 hq2.2
    | exit id => exact stop (.exit id) hq2.1 hq2.2
    | goto t => exact stop (.goto t) hq2.1 hq2.2
    | panic ch => exact hq2.elim
    | outgrown => exact hq2.elim
  | exit id => exact hq.elim
  | goto t => exact hq.elim
  | ret => exact hq.elim
  | panic ch => exact hq.elim
  | outgrown => exact hq.elim

/-- the loop over an iterator, at an activation's own level -/
theorem wp_range {g : Operand} {ps : Array Tmp} {assign body : Code} {Q : Exit → Act → World → Prop} {a : Act} {w : World} {gf : Nat} {lb : Array Value}
    (hg : a.eval g = .func (.func gf) #[] lb) (eg : ∀ args w, (callFunc gf args).run P w = .ok (.enter gf args) w)
    {encs : List (Array Value)} {S : Nat → Prop} {w0 : World} (hseq : SeqI P gf lb encs S w0) (hw0 : Kept S w0 w) (hS : ∀ k, S k → k < w.heap.size) (hps : ∀ x ∈ encs, x.size = ps.size)
    (I : Nat → (Nat → Prop) → World → Prop) (Ix : Code → Nat → World → Prop) (hI : ∀ k O O' X Y, I k O X → Ext w.heap.size X Y → (∀ j, O' j → grow O X Y j) → I k O' Y) (hIx : ∀ c k X Y, Ix c k X → Ext w.heap.size X Y → Ix c k Y) (h0 : I 0 (fun _ => False) w)
    (hround : ∀ (l k : Nat) (x : Array Value) (O : Nat → Prop) (W : World), w.heap.size < l → l < W.heap.size → encs[k]? = some x → Kept S w W → (∀ j, O j → l < j ∧ j < W.heap.size) → I k O W →
      assign.wpIn (WF (some l)) 0 P (Exit.then (fun a' Wa => Eff w.heap.size (both S O) W Wa ∧ ∀ Wb, Ext w.heap.size Wa Wb → Kept (both S O) Wa Wb → Wb.heap.size = Wa.heap.size → (∃ r, Wb.heap[l]? = some (.loop r)) → body.wpIn (WF (some l)) 0 P (roundEnd w.heap.size (both S O) (I (k + 1) O) (fun c => Ix c (k + 1)) Wb) a' Wb) (fun _ _ _ => False))
        { tmps := (ps.zip x).foldl (fun t (p, v) => t.setIfInBounds p v) a.tmps, defers := [] } W)
    (hdone : ∀ (O : Nat → Prop) (W : World), Kept S w W → w.heap.size < W.heap.size → I encs.length O W → W.heap[w.heap.size]? = some (.deferred (some [])) → Q .normal { a with defers := { target := .collected w.heap.size, args := #[] } :: a.defers } W)
    (hstop : ∀ (c : Code) (k : Nat) (W : World), Kept S w W → w.heap.size < W.heap.size → 0 < k → k ≤ encs.length → Ix c k W → W.heap[w.heap.size]? = some (.deferred (some [])) → c.wpIn (WF none) 0 P Q { a with defers := { target := .collected w.heap.size, args := #[] } :: a.defers } W) :
    (Code.rangeFunc g ps assign body).wpIn (WF none) 0 P Q a w := by
  refine wpIn_rangeFunc ?_
  intro fn hfn
  obtain ⟨rec, hrec⟩ : ∃ rec : Loop, rec = { state := .ready, pending := none, fn, tmps := a.tmps, params := ps, assign, body, defers := w.heap.size } := ⟨_, rfl⟩
  obtain ⟨W1, hW1⟩ : ∃ W1, (w.alloc (.deferred (some []))).alloc (.loop rec) = W1 := ⟨_, rfl⟩
  have hsz : W1.heap.size = w.heap.size + 2 := by rw [← hW1]; simp
  have hL1 : W1.heap[w.heap.size + 1]? = some (.loop rec) := by
    rw [← hW1]; have := World.alloc_heap_new (w.alloc (.deferred (some []))) (.loop rec); rwa [World.size_alloc] at this
  have hK1 : W1.heap[w.heap.size]? = some (.deferred (some [])) := by
    rw [← hW1]; exact (Below.heap_alloc _ _ _ (by simp)).trans (World.alloc_heap_new w _)
  have hb1 : Below w.heap.size w W1 := by rw [← hW1]; exact ((Below.refl _ w).alloc (Nat.le_refl _) _).alloc (by simp) _
  have hk1 : Kept S w W1 := (Kept.of_below hb1).mono hS
  have hI1 : I 0 (fun _ => False) W1 := hI _ _ _ _ _ h0 (Ext.of_below hb1) (fun _ h => h.elim)
  have hput : ∀ (W : World) (o : Obj), Kept S W (W.putObj (w.heap.size + 1) o) := fun W o => ⟨rfl, rfl, rfl, by simp, fun k hk => World.putObj_heap_other (by have := hS k hk; omega)⟩
  refine ⟨w.heap.size + 1, [{ target := .collected w.heap.size, args := #[] }], W1, { target := .fn (.func gf) lb, args := #[.func (.yield (w.heap.size + 1)) #[] #[]] }, W1, gf,
    #[.func (.yield (w.heap.size + 1)) #[] #[]] ++ lb, W1, ?_, ?_, ?_, ?_, (fun h => absurd h (by simp)), ?_⟩
  · rw [← hW1, hrec]; exact run_enterLoop_outer _ _ _ _ _
  · simp only [resolve, hg]
    simp [go_sem]
  · intro f' _; trivial
  · simp [invoke, go_sem, eg]
  · refine (hseq (w.heap.size + 1)
      (fun k O W => I k O W ∧ Kept S w W ∧ W.heap[w.heap.size + 1]? = some (.loop rec) ∧ W.heap[w.heap.size]? = some (.deferred (some [])))
      (fun k W => Kept S w W ∧ (∃ c, Ix c k W ∧ W.heap[w.heap.size + 1]? = some (.loop { rec with state := .done, pending := some c })) ∧ W.heap[w.heap.size]? = some (.deferred (some [])))
      W1 (hw0.trans hk1) ?_ ?_ ?_ ⟨hI1, hk1, hL1, hK1⟩).mono ?_
    · rintro k O O' X Y ⟨h1, h2, h3, h4⟩ hx hO
      exact ⟨hI _ _ _ _ _ h1 (hx.mono (by omega)) hO, h2.trans ((Kept.of_below hx.below).mono (fun i hi => by have := hS i hi; omega)), (hx.below.block _ (by omega)).trans h3, (hx.below.block _ (by omega)).trans h4⟩
    · rintro k X Y ⟨h2, ⟨c, h1, h3⟩, h4⟩ hx
      exact ⟨h2.trans ((Kept.of_below hx.below).mono (fun i hi => by have := hS i hi; omega)), ⟨c, hIx _ _ _ _ h1 (hx.mono (by omega)), (hx.below.block _ (by omega)).trans h3⟩, (hx.below.block _ (by omega)).trans h4⟩
    · rintro k x O X hx hk hOb ⟨h1, h2, h3, h4⟩
      have hps' := hps x (List.mem_of_getElem? hx)
      have hOl : ¬ both S O (w.heap.size + 1) := by
        rintro (h | h)
        · have := hS _ h; omega
        · have := (hOb _ h).1; omega
      have := round_law (P := P) (r0 := none) (fn := fn) (l := w.heap.size + 1) (m := 0) (rec := rec) (S := both S O) (x := x) (W := X) (I := I (k + 1) O) (Ix := fun c => Ix c (k + 1)) (B := w.heap.size) h3 (by rw [hrec]) (by rw [hrec]) (by rw [hrec]; exact hps') hOl (by omega) (fun X Y h hx => hI _ _ _ _ _ h hx (fun j hj => .inl hj)) (fun c => hIx c _)
        (by
          rw [hrec]
          exact hround _ k x O X (by omega) (Array.getElem?_eq_some_iff.1 h3).1 hx h2 (fun j hj => ⟨by have := (hOb j hj).1; omega, (hOb j hj).2⟩) h1)
      obtain ⟨f1, t1, a1, b1, hy, hR⟩ := this
      refine ⟨f1, t1, a1, b1, hy, hR.mono ?_⟩
      have hSm : ∀ X', Kept (both S O) X X' → Kept S X X' := fun X' h => h.mono (fun j hj => .inl hj)
      rintro e X' (⟨rfl, hi, hl, hkk, ho⟩ | ⟨rfl, hc, hkk, ho⟩)
      · exact .inl ⟨rfl, ⟨hi, h2.trans (hSm _ hkk), hl, ho _ _ (by omega) (Nat.le_refl _) h4 rfl⟩, hkk, fun j o hj => ho j o (by omega) (by omega)⟩
      · exact .inr ⟨rfl, ⟨h2.trans (hSm _ hkk), hc, ho _ _ (by omega) (Nat.le_refl _) h4 rfl⟩, hkk, fun j o hj => ho j o (by omega) (by omega)⟩
    · rintro e W2 ⟨⟨v, rfl⟩, hkk, (⟨O, hO, hi, h2, hl, hk⟩ | ⟨k, hk0, hkl, h2, ⟨c, hi, hl⟩, hk⟩)⟩
      · have hlt := (Array.getElem?_eq_some_iff.1 hl).1
        have hend := run_endLoop (P := P) hl (by rw [hrec]; simp)
        have hpe : rec.pending = none := by rw [hrec]
        rw [hpe] at hend
        exact ⟨none, W2.putObj (w.heap.size + 1) (.loop { rec with state := .exhausted, pending := none }), hend, hdone O _ (h2.trans (hput _ _)) (by simp; omega) (hI _ _ _ _ _ hi (Ext.putObj (by omega) hl rfl _) (fun j hj => .inl hj)) ((World.putObj_heap_other (by omega)).trans hk)⟩
      · have hlt := (Array.getElem?_eq_some_iff.1 hl).1
        have hend := run_endLoop (P := P) hl (by simp)
        exact ⟨some c, W2.putObj (w.heap.size + 1) (.loop { { rec with state := .done, pending := some c } with state := .exhausted }), hend, hstop c k _ (h2.trans (hput _ _)) (by simp; omega) hk0 hkl (hIx _ _ _ _ hi (Ext.putObj (by omega) hl rfl _)) ((World.putObj_heap_other (by omega)).trans hk)⟩
end
end Go.Rg
