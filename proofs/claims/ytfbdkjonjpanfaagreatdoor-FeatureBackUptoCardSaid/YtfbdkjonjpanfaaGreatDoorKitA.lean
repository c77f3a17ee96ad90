/- Memory and types, as many walks ask for them. No program in sight but its types. -/
import Derived.Test.YtfbdkjonjpanfaaGreatDoorUpd
import Derived.Test.YtfbdkjonjpanfaaGreatDoorWktG
import Derived.Test.YtfbdkjonjpanfaaGreatDoorLexB
import Derived.Test.YtfbdkjonjpanfaaGreatDoorPureR
set_option linter.unusedVariables false
set_option linter.unusedSimpArgs false
namespace Go.Proofs.YtfbdkjonjpanfaaGreatDoor
open Go.RowKit Go.Rg

def strs (l : List Lx.Str) : List Value := l.map fun s => .string ⟨s.toArray⟩

theorem intsN_one (l : List Nat) : ∀ u ∈ intsN l, u.oneCell' = true := by
  intro u hu; unfold intsN at hu; obtain ⟨n, _, rfl⟩ := List.mem_map.1 hu; rfl
theorem strs_one (l : List Lx.Str) : ∀ u ∈ strs l, u.oneCell' = true := by
  intro u hu; unfold strs at hu; obtain ⟨n, _, rfl⟩ := List.mem_map.1 hu; rfl
theorem rdT_one {T : TypeId} {w : World} {v : Value} {n : Nat} {xs : List Value} (h : RdT T w v n xs) : v.oneCell' = true := by
  obtain ⟨a, c, rfl⟩ := pair_form (R := 0) h; rfl
theorem cells5 {w : World} {b : Nat} {a0 a1 a2 a3 a4 : Value} {t : TypeId} (h : Blk w b [a0, a1, a2, a3, a4] t) :
    w.cell? ⟨b, 0, none⟩ = some a0 ∧ w.cell? ⟨b, 1, none⟩ = some a1 ∧ w.cell? ⟨b, 2, none⟩ = some a2 ∧ w.cell? ⟨b, 3, none⟩ = some a3 ∧ w.cell? ⟨b, 4, none⟩ = some a4 :=
  ⟨h.cell rfl, h.cell rfl, h.cell rfl, h.cell rfl, h.cell rfl⟩
theorem frozen5 {w : World} {b : Nat} {cs : List Value} {t : TypeId} (h : Blk w b cs t) :
    w.frozen? ⟨b, 0, none⟩ = false ∧ w.frozen? ⟨b, 1, none⟩ = false ∧ w.frozen? ⟨b, 2, none⟩ = false ∧ w.frozen? ⟨b, 3, none⟩ = false ∧ w.frozen? ⟨b, 4, none⟩ = false :=
  ⟨h.frozen _, h.frozen _, h.frozen _, h.frozen _, h.frozen _⟩
theorem cells3 {w : World} {b : Nat} {a0 a1 a2 : Value} {t : TypeId} (h : Blk w b [a0, a1, a2] t) :
    w.cell? ⟨b, 0, none⟩ = some a0 ∧ w.cell? ⟨b, 1, none⟩ = some a1 ∧ w.cell? ⟨b, 2, none⟩ = some a2 := ⟨h.cell rfl, h.cell rfl, h.cell rfl⟩
theorem own_set {w : World} {base e g n cap : Nat} {xs : List Value} (h : w.ownsRow base e 1 (.slice (some ⟨g, 0, none⟩) n cap) n xs) (j : Nat) (u : Value) : (w.setCell ⟨g, j, none⟩ u).ownsRow base e 1 (.slice (some ⟨g, 0, none⟩) n cap) n (xs.set j u) := by
  obtain ⟨hl, h⟩ := h
  refine ⟨by simpa using hl, ?_⟩
  rcases h with ⟨h, _⟩ | ⟨g', cap', cur, hv, hb, hg, hn, hc, hs, ht⟩
  · cases h
  · cases hv
    refine .inr ⟨g, cap, cur.setIfInBounds j u, rfl, hb, ?_, hn, hc, by simpa using hs, ?_⟩
    · simp only [World.setCell]
      rw [Array.getElem?_modify, if_pos rfl, hg]
      rfl
    · rw [← ht, Array.toList_setIfInBounds, List.take_set]
theorem own_cons {w : World} {base e n : Nat} {v : Value} {xs : List Value} (h : w.ownsRow base e 1 v (n + 1) xs) : ∃ g cap, v = .slice (some ⟨g, 0, none⟩) (n + 1) cap ∧ base ≤ g ∧ g < w.heap.size ∧ n + 1 ≤ cap ∧ cap ≤ maxLen ∧ (∀ j, w.frozen? ⟨g, j, none⟩ = false) ∧ ∀ j x, xs[j]? = some x → w.cell? ⟨g, j, none⟩ = some x := by
  rcases h.2 with ⟨_, h⟩ | ⟨g, cap, cur, rfl, hb, hg, hn, hcm, hs, ht⟩
  · omega
  · refine ⟨g, cap, rfl, hb, (Array.getElem?_eq_some_iff.1 hg).1, hn, hcm, fun j => by simp [World.frozen?, hg], fun j x hj => ?_⟩
    rw [← ht, List.getElem?_take] at hj
    split at hj
    · simp [World.cell?, hg, ← hj]
    · cases hj

theorem own_empty {W : World} (e : TypeId) (size base : Nat) (hb : base ≤ W.heap.size) : (W.alloc (.cells #[] e)).ownsRow base e size (.slice (some ⟨W.heap.size, 0, none⟩) 0 0) 0 [] :=
  ⟨by simp, .inr ⟨W.heap.size, 0, #[], rfl, hb, World.alloc_heap_new W _, Nat.le_refl _, Nat.zero_le _, by simp, by simp⟩⟩

/-- five stores into a block: whatever is of another type stays -/
theorem five {T' : TypeId} {X : World} {b : Nat} {cs : List Value} (h : Blk X b cs T') (v0 v1 v2 v3 v4 : Value) :
    (∀ T, T' ≠ T → KeepT T X (((((X.setCell ⟨b, 0, none⟩ v0).setCell ⟨b, 1, none⟩ v1).setCell ⟨b, 2, none⟩ v2).setCell ⟨b, 3, none⟩ v3).setCell ⟨b, 4, none⟩ v4)) ∧
    (∀ B, B ≤ b → Below B X (((((X.setCell ⟨b, 0, none⟩ v0).setCell ⟨b, 1, none⟩ v1).setCell ⟨b, 2, none⟩ v2).setCell ⟨b, 3, none⟩ v3).setCell ⟨b, 4, none⟩ v4)) ∧
    Blk (((((X.setCell ⟨b, 0, none⟩ v0).setCell ⟨b, 1, none⟩ v1).setCell ⟨b, 2, none⟩ v2).setCell ⟨b, 3, none⟩ v3).setCell ⟨b, 4, none⟩ v4) b (((((cs.set 0 v0).set 1 v1).set 2 v2).set 3 v3).set 4 v4) T' := by
  have h0 := h.set 0 v0
  have h1 := h0.set 1 v1
  have h2 := h1.set 2 v2
  have h3 := h2.set 3 v3
  refine ⟨fun T hT => ((((KeepT.set ⟨b, 0, none⟩ h hT v0).trans (KeepT.set ⟨b, 1, none⟩ h0 hT v1)).trans (KeepT.set ⟨b, 2, none⟩ h1 hT v2)).trans (KeepT.set ⟨b, 3, none⟩ h2 hT v3)).trans (KeepT.set ⟨b, 4, none⟩ h3 hT v4), fun B hB => ?_, h3.set 4 v4⟩
  exact (((((Below.refl B X).setCell (p := ⟨b, 0, none⟩) hB v0).setCell (p := ⟨b, 1, none⟩) hB v1).setCell (p := ⟨b, 2, none⟩) hB v2).setCell (p := ⟨b, 3, none⟩) hB v3).setCell (p := ⟨b, 4, none⟩) hB v4
theorem five_other {T' : TypeId} {X : World} {b b' : Nat} {cs : List Value} (h : Blk X b' cs T') (hne : b' ≠ b) (v0 v1 v2 v3 v4 : Value) :
    Blk (((((X.setCell ⟨b, 0, none⟩ v0).setCell ⟨b, 1, none⟩ v1).setCell ⟨b, 2, none⟩ v2).setCell ⟨b, 3, none⟩ v3).setCell ⟨b, 4, none⟩ v4) b' cs T' :=
  ((((h.other ⟨b, 0, none⟩ hne v0).other ⟨b, 1, none⟩ hne v1).other ⟨b, 2, none⟩ hne v2).other ⟨b, 3, none⟩ hne v3).other ⟨b, 4, none⟩ hne v4
theorem three {T' : TypeId} {X : World} {b : Nat} {cs : List Value} (h : Blk X b cs T') (v0 v1 v2 : Value) :
    (∀ T, T' ≠ T → KeepT T X (((X.setCell ⟨b, 0, none⟩ v0).setCell ⟨b, 1, none⟩ v1).setCell ⟨b, 2, none⟩ v2)) ∧
    (∀ B, B ≤ b → Below B X (((X.setCell ⟨b, 0, none⟩ v0).setCell ⟨b, 1, none⟩ v1).setCell ⟨b, 2, none⟩ v2)) ∧
    Blk (((X.setCell ⟨b, 0, none⟩ v0).setCell ⟨b, 1, none⟩ v1).setCell ⟨b, 2, none⟩ v2) b (((cs.set 0 v0).set 1 v1).set 2 v2) T' := by
  have h0 := h.set 0 v0
  have h1 := h0.set 1 v1
  refine ⟨fun T hT => ((KeepT.set ⟨b, 0, none⟩ h hT v0).trans (KeepT.set ⟨b, 1, none⟩ h0 hT v1)).trans (KeepT.set ⟨b, 2, none⟩ h1 hT v2), fun B hB => ?_, h1.set 2 v2⟩
  exact (((Below.refl B X).setCell (p := ⟨b, 0, none⟩) hB v0).setCell (p := ⟨b, 1, none⟩) hB v1).setCell (p := ⟨b, 2, none⟩) hB v2

theorem info_str : (Tryz.prog.info? 9).map (fun i => (i.zero, i.size, i.bytes)) = some (some (.string ⟨#[]⟩), 1, 16) := by kernel_rfl

theorem olds (W : World) (b : Nat) (h : b < W.heap.size) :
    (∀ (o : Obj) (i : Nat), (W.alloc o).cell? ⟨b, i, none⟩ = W.cell? ⟨b, i, none⟩) ∧ (∀ (o : Obj) (i : Nat), (W.alloc o).frozen? ⟨b, i, none⟩ = W.frozen? ⟨b, i, none⟩) ∧
    (∀ (o o' : Obj) (i : Nat), ((W.alloc o).alloc o').cell? ⟨b, i, none⟩ = W.cell? ⟨b, i, none⟩) ∧ (∀ (o o' : Obj) (i : Nat), ((W.alloc o).alloc o').frozen? ⟨b, i, none⟩ = W.frozen? ⟨b, i, none⟩) := by
  have h1 : ∀ o, (W.alloc o).heap[b]? = W.heap[b]? := fun o => Below.heap_alloc W o b h
  have h2 : ∀ o o', ((W.alloc o).alloc o').heap[b]? = W.heap[b]? := fun o o' => (Below.heap_alloc _ o' b (by simp; omega)).trans (h1 o)
  exact ⟨fun o i => World.cell?_of_block (h1 o), fun o i => World.frozen?_of_block (h1 o), fun o o' i => World.cell?_of_block (h2 o o'), fun o o' i => World.frozen?_of_block (h2 o o')⟩

theorem keepc {B : Nat} {a b : World} {q i : Nat} {v : Value} (h : Below B a b) (hq : q < B) (hc : a.cell? ⟨q, i, none⟩ = some v) : b.cell? ⟨q, i, none⟩ = some v := (World.cell?_of_block (h.block q hq)).trans hc
theorem keepf {B : Nat} {a b : World} {q i : Nat} (h : Below B a b) (hq : q < B) (hc : a.frozen? ⟨q, i, none⟩ = false) : b.frozen? ⟨q, i, none⟩ = false := (World.frozen?_of_block (h.block q hq)).trans hc

theorem keeps3 {X : World} {b q i : Nat} {v v0 v1 v2 : Value} (hne : q ≠ b) (hc : X.cell? ⟨q, i, none⟩ = some v) : (((X.setCell ⟨b, 0, none⟩ v0).setCell ⟨b, 1, none⟩ v1).setCell ⟨b, 2, none⟩ v2).cell? ⟨q, i, none⟩ = some v := by
  have h : ((((X.setCell ⟨b, 0, none⟩ v0).setCell ⟨b, 1, none⟩ v1).setCell ⟨b, 2, none⟩ v2)).heap[q]? = X.heap[q]? := by
    rw [Below.heap_setCell _ _ _ _ hne, Below.heap_setCell _ _ _ _ hne, Below.heap_setCell _ _ _ _ hne]
  exact (World.cell?_of_block (a := ⟨q, i, none⟩) h).trans hc

theorem below3 {B b : Nat} {w X : World} (h : Below B w X) (hb : B ≤ b) (v0 v1 v2 : Value) : Below B w (((X.setCell ⟨b, 0, none⟩ v0).setCell ⟨b, 1, none⟩ v1).setCell ⟨b, 2, none⟩ v2) :=
  ((h.setCell (p := ⟨b, 0, none⟩) hb v0).setCell (p := ⟨b, 1, none⟩) hb v1).setCell (p := ⟨b, 2, none⟩) hb v2
theorem below2 (w : World) (o o' : Obj) : Below w.heap.size w ((w.alloc o).alloc o') := ((Below.refl _ w).alloc (Nat.le_refl _) _).alloc (by simp) _

end Go.Proofs.YtfbdkjonjpanfaaGreatDoor
