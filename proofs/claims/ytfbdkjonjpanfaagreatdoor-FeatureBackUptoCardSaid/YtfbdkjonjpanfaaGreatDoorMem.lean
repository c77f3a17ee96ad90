/- Memory, as these proofs speak of it: a block known whole; a slice that reads as a list of cells. No program in sight. -/
import Derived.Test.YtfbdkjonjpanfaaGreatDoorRange
import Derived.WalkKit
set_option linter.unusedVariables false
set_option linter.unusedSimpArgs false
namespace Go.Rg
open Go Go.RowKit

/-- block b holds just these cells, and may be written -/
def Blk (w : World) (b : Nat) (cs : List Value) (t : TypeId) : Prop := w.heap[b]? = some (.cells cs.toArray t (0, 0))

theorem Blk.lt {w : World} {b : Nat} {cs : List Value} {t : TypeId} (h : Blk w b cs t) : b < w.heap.size := (Array.getElem?_eq_some_iff.1 h).1
theorem Blk.cell {w : World} {b : Nat} {cs : List Value} {t : TypeId} (h : Blk w b cs t) {j : Nat} {v : Value} (hj : cs[j]? = some v) : w.cell? ⟨b, j, none⟩ = some v := by
  unfold Blk at h
  simp [World.cell?, h, hj]
theorem Blk.frozen {w : World} {b : Nat} {cs : List Value} {t : TypeId} (h : Blk w b cs t) (o : Nat) : w.frozen? ⟨b, o, none⟩ = false := by
  unfold Blk at h
  simp [World.frozen?, h]
theorem Blk.of_same {w w' : World} {b : Nat} {cs : List Value} {t : TypeId} (h : Blk w b cs t) (hs : w'.heap[b]? = w.heap[b]?) : Blk w' b cs t := hs.trans h
theorem Blk.ext {B : Nat} {w w' : World} {b : Nat} {cs : List Value} {t : TypeId} (h : Blk w b cs t) (hx : Ext B w w') : Blk w' b cs t := hx.cells _ _ h rfl
theorem Blk.below {B : Nat} {w w' : World} {b : Nat} {cs : List Value} {t : TypeId} (h : Blk w b cs t) (hb : Below B w w') (hB : b < B) : Blk w' b cs t := h.of_same (hb.block b hB)
theorem Blk.call {w w' : World} {b : Nat} {cs : List Value} {t : TypeId} (h : Blk w b cs t) (hb : Below w.heap.size w w') : Blk w' b cs t := h.below hb h.lt
theorem Blk.alloc {w : World} {b : Nat} {cs : List Value} {t : TypeId} (h : Blk w b cs t) (o : Obj) : Blk (w.alloc o) b cs t := h.of_same (Below.heap_alloc w o b h.lt)
theorem Blk.drew {w : World} {b : Nat} {cs : List Value} {t : TypeId} (h : Blk w b cs t) : Blk w.drew b cs t := h
theorem Blk.new (w : World) (cs : List Value) (t : TypeId) : Blk (w.alloc (.cells cs.toArray t)) w.heap.size cs t := World.alloc_heap_new w _
theorem Blk.other {w : World} {b : Nat} {cs : List Value} {t : TypeId} (h : Blk w b cs t) (a : Addr) (hne : b ≠ a.block) (v : Value) : Blk (w.setCell a v) b cs t := h.of_same (Below.heap_setCell w a v b hne)
theorem Blk.set {w : World} {b : Nat} {cs : List Value} {t : TypeId} (h : Blk w b cs t) (j : Nat) (v : Value) : Blk (w.setCell ⟨b, j, none⟩ v) b (cs.set j v) t := by
  have hlt := h.lt
  unfold Blk at *
  simp only [World.setCell]
  rw [Array.getElem?_modify, if_pos rfl, h]
  simp
theorem Blk.grown {w w' : World} {row : Option Nat} {b : Nat} {cs : List Value} {t : TypeId} (h : Blk w b cs t) (hg : w.grownBy w' row) (hne : some b ≠ row) : Blk w' b cs t := h.of_same (hg.block b h.lt hne)

/-- v is a slice of n elements whose cells, in blocks below B, are xs -/
def Reads (w : World) (B : Nat) (v : Value) (n : Nat) (xs : List Value) : Prop :=
  (v = .slice none 0 0 ∧ n = 0 ∧ xs = []) ∨
  ∃ g off cap, v = .slice (some ⟨g, off, none⟩) n cap ∧ g < B ∧ n ≤ cap ∧ cap ≤ maxLen ∧ ∀ j x, xs[j]? = some x → w.cell? ⟨g, off + j, none⟩ = some x

theorem Reads.mono {w : World} {B B' : Nat} {v : Value} {n : Nat} {xs : List Value} (h : Reads w B v n xs) (hB : B ≤ B') : Reads w B' v n xs := by
  rcases h with h | ⟨g, off, cap, h1, h2, h3⟩
  · exact .inl h
  · exact .inr ⟨g, off, cap, h1, by omega, h3⟩
theorem Reads.below {w w' : World} {B : Nat} {v : Value} {n : Nat} {xs : List Value} (h : Reads w B v n xs) (hb : Below B w w') : Reads w' B v n xs := by
  rcases h with h | ⟨g, off, cap, h1, h2, h3, h4, h5⟩
  · exact .inl h
  · exact .inr ⟨g, off, cap, h1, h2, h3, h4, fun j x hj => (hb.cell (p := ⟨g, off + j, none⟩) h2).trans (h5 j x hj)⟩
theorem Reads.ext {w w' : World} {B B' : Nat} {v : Value} {n : Nat} {xs : List Value} (h : Reads w B v n xs) (hx : Ext B' w w') : Reads w' B v n xs := by
  rcases h with h | ⟨g, off, cap, h1, h2, h3, h4, h5⟩
  · exact .inl h
  · exact .inr ⟨g, off, cap, h1, h2, h3, h4, fun j x hj => hx.cell (h5 j x hj)⟩
theorem Reads.kept {w w' : World} {B : Nat} {S : Nat → Prop} {v : Value} {n : Nat} {xs : List Value} (h : Reads w B v n xs) (hx : Kept S w w') (hS : ∀ k, k < B → S k) : Reads w' B v n xs :=
  h.below (hx.mono hS).below

theorem Reads.of_own {w : World} {base e size : Nat} {v : Value} {n : Nat} {xs : List Value} (h : w.ownsRow base e size v n xs) : Reads w w.heap.size v n xs := by
  obtain ⟨hl, h⟩ := h
  rcases h with ⟨rfl, rfl⟩ | ⟨g, cap, cur, rfl, hb, hg, hn, hc, hs, ht⟩
  · exact .inl ⟨rfl, rfl, List.eq_nil_of_length_eq_zero (by simpa using hl)⟩
  · refine .inr ⟨g, 0, cap, rfl, (Array.getElem?_eq_some_iff.1 hg).1, hn, hc, fun j x hj => ?_⟩
    rw [← ht, List.getElem?_take] at hj
    split at hj
    · simp [World.cell?, hg, ← hj]
    · cases hj

theorem own_ext {B : Nat} {w w' : World} {base e size : Nat} {v : Value} {n : Nat} {xs : List Value} (h : w.ownsRow base e size v n xs) (hx : Ext B w w') : w'.ownsRow base e size v n xs := by
  refine ⟨h.1, ?_⟩
  rcases h.2 with h2 | ⟨g, cap, cur, hv, hb, hg, r⟩
  · exact .inl h2
  · exact .inr ⟨g, cap, cur, hv, hb, hx.cells _ _ hg rfl, r⟩
theorem own_other {w : World} {base e size : Nat} {v : Value} {n : Nat} {xs : List Value} (h : w.ownsRow base e size v n xs) (a : Addr) (ha : a.block < base) (u : Value) : (w.setCell a u).ownsRow base e size v n xs :=
  ownsRow_setCell_below h ha u
theorem own_call {w w' : World} {base e size : Nat} {v : Value} {n : Nat} {xs : List Value} (h : w.ownsRow base e size v n xs) (hb : Below w.heap.size w w') : w'.ownsRow base e size v n xs := own_ext h (Ext.of_below hb)

/-- several new blocks, one behind the other -/
theorem allocs_size (os : List Obj) (w : World) : (os.foldl World.alloc w).heap.size = w.heap.size + os.length := by
  induction os generalizing w with
  | nil => rfl
  | cons o os ih => rw [List.foldl_cons, ih, World.size_alloc, List.length_cons]; omega
theorem allocs_below (os : List Obj) (w : World) : Below w.heap.size w (os.foldl World.alloc w) := by
  induction os generalizing w with
  | nil => exact Below.refl _ _
  | cons o os ih => exact ((Below.refl _ w).alloc (Nat.le_refl _) o).trans ((ih (w.alloc o)).mono (by simp))
theorem allocs_at (os : List Obj) (w : World) (i : Nat) (o : Obj) (h : os[i]? = some o) : (os.foldl World.alloc w).heap[w.heap.size + i]? = some o := by
  induction os generalizing w i with
  | nil => simp at h
  | cons p os ih =>
    cases i with
    | zero =>
      simp only [List.getElem?_cons_zero, Option.some.injEq] at h
      subst h
      rw [List.foldl_cons, (allocs_below os (w.alloc p)).block _ (by simp)]
      exact World.alloc_heap_new w p
    | succ i =>
      have := ih (w.alloc p) i (by simpa using h)
      rw [World.size_alloc] at this
      rw [List.foldl_cons, show w.heap.size + (i + 1) = w.heap.size + 1 + i from by omega]
      exact this
theorem Blk.allocs {w w' : World} (os : List Obj) (hw : os.foldl World.alloc w = w') (i : Nat) {cs : List Value} {t : TypeId} (h : os[i]? = some (.cells cs.toArray t (0, 0))) : Blk w' (w.heap.size + i) cs t := by
  subst hw; exact allocs_at os w i _ h

theorem cells_new (W : World) (cs : List Value) (t : TypeId) : ∀ j u, cs[j]? = some u → (W.alloc (.cells cs.toArray t)).cell? ((⟨W.heap.size, 0, none⟩ : Addr).add j) = some u := by
  intro j u hu
  have hadd : (⟨W.heap.size, 0, none⟩ : Addr).add j = ⟨W.heap.size, j, none⟩ := by unfold Addr.add; split <;> simp_all
  rw [hadd]
  exact (Blk.new W cs t).cell hu

/-- what an append leaves of another block -/
theorem Blk.appended {w w' : World} {v : Value} {base e size n : Nat} {xs : List Value} {b : Nat} {cs : List Value} {t : TypeId} (h : Blk w b cs t) (hown : w.ownsRow base e size v n xs) (hb : b < base) (hg : w.grownBy w' v.ownBlock) : Blk w' b cs t :=
  h.grown hg (fun e => by have := (hown.lt b e.symm).1; omega)

theorem own_form {w : World} {base e size n : Nat} {v : Value} {xs : List Value} (h : w.ownsRow base e size v n xs) : ∃ a cap, v = .slice a n cap := by
  rcases h.2 with ⟨rfl, rfl⟩ | ⟨g, cap, cur, rfl, _⟩
  · exact ⟨_, _, rfl⟩
  · exact ⟨_, _, rfl⟩

theorem Blk.put {w : World} {b : Nat} {cs : List Value} {t : TypeId} (h : Blk w b cs t) {D : Nat} (hne : b ≠ D) (o : Obj) : Blk (w.putObj D o) b cs t := h.of_same (World.putObj_heap_other hne)
theorem put_below {B D : Nat} {X W : World} (h : Below B X W) (hB : B ≤ D) {o o' : Obj} (hD : W.heap[D]? = some o) (ho : o.isCells = false) : Below B X (W.putObj D o') := h.trans (Ext.putObj hB hD ho o').below
theorem put_ext {D : Nat} {W : World} {o : Obj} (hD : W.heap[D]? = some o) (ho : o.isCells = false) (o' : Obj) : Ext 0 W (W.putObj D o') := Ext.putObj (Nat.zero_le _) hD ho o'
theorem set_other {w : World} {D : Nat} {o : Obj} (h : w.heap[D]? = some o) (ho : o.isCells = false) (a : Addr) (v : Value) : (w.setCell a v).heap[D]? = some o := (KeepsOthers.setCell w a v).same D o h ho

end Go.Rg
