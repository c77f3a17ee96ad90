/- Memory round one block that changes: all else stays. No program in sight. -/
import Derived.Test.YtfbdkjonjpanfaaGreatDoorApp
set_option linter.unusedVariables false
set_option linter.unusedSimpArgs false
namespace Go.Rg
open Go Go.RowKit

/-- whatever lies in memory, but block R, stays -/
structure Upd (R : Nat) (W W' : World) : Prop where
  os : W'.os = W.os
  tape : W'.tape = W.tape
  output : W'.output = W.output
  size : W.heap.size ≤ W'.heap.size
  same : ∀ k, k ≠ R → k < W.heap.size → W'.heap[k]? = W.heap[k]?

theorem Upd.refl (R : Nat) (W : World) : Upd R W W := ⟨rfl, rfl, rfl, Nat.le_refl _, fun _ _ _ => rfl⟩
theorem Upd.trans {R : Nat} {A B C : World} (h : Upd R A B) (k : Upd R B C) : Upd R A C :=
  ⟨k.os.trans h.os, k.tape.trans h.tape, k.output.trans h.output, Nat.le_trans h.size k.size, fun i hi hl => (k.same i hi (Nat.lt_of_lt_of_le hl h.size)).trans (h.same i hi hl)⟩
theorem Upd.of_below {R : Nat} {A B : World} (h : Below A.heap.size A B) : Upd R A B := ⟨h.os, h.tape, h.output, h.size, fun k _ hk => h.block k hk⟩
theorem Upd.call {R : Nat} {A B C : World} (h : Upd R A B) (k : Below B.heap.size B C) : Upd R A C := h.trans (.of_below k)
theorem Upd.alloc {R : Nat} {A B : World} (h : Upd R A B) (o : Obj) : Upd R A (B.alloc o) := h.call ((Below.refl _ B).alloc (Nat.le_refl _) o)
theorem Upd.drew {R : Nat} {A B : World} (h : Upd R A B) : Upd R A B.drew := ⟨h.os, h.tape, h.output, h.size, h.same⟩
theorem Upd.set {R : Nat} {A B : World} (h : Upd R A B) (o : Nat) (v : Value) : Upd R A (B.setCell ⟨R, o, none⟩ v) :=
  h.trans ⟨rfl, rfl, rfl, by simp [World.setCell], fun k hk _ => Below.heap_setCell _ _ _ _ hk⟩
theorem Upd.setNew {R : Nat} {A B : World} (h : Upd R A B) (a : Addr) (ha : A.heap.size ≤ a.block) (v : Value) : Upd R A (B.setCell a v) :=
  ⟨h.os, h.tape, h.output, by have := h.size; simpa [World.setCell] using this, fun k hk hl => (Below.heap_setCell _ _ _ _ (by omega)).trans (h.same k hk hl)⟩
theorem Upd.grown {R : Nat} {A B C : World} {row : Option Nat} (h : Upd R A B) (hg : B.grownBy C row) (hr : ∀ k, row = some k → A.heap.size ≤ k) : Upd R A C :=
  ⟨hg.os.trans h.os, hg.tape.trans h.tape, hg.output.trans h.output, Nat.le_trans h.size hg.size, fun k hk hl => (hg.block k (Nat.lt_of_lt_of_le hl h.size) (fun e => by have := hr k e.symm; omega)).trans (h.same k hk hl)⟩
theorem Upd.below {R B : Nat} {W W' : World} (h : Upd R W W') (hB : B ≤ R) (hs : B ≤ W.heap.size) : Below B W W' := ⟨h.os, h.tape, h.output, h.size, fun k hk => h.same k (by omega) (by omega)⟩
theorem Upd.kept {R : Nat} {S : Nat → Prop} {W W' : World} (h : Upd R W W') (hR : ¬ S R) (hS : ∀ k, S k → k < W.heap.size) : Kept S W W' := ⟨h.os, h.tape, h.output, h.size, fun k hk => h.same k (fun e => hR (e ▸ hk)) (hS k hk)⟩
theorem Blk.upd {R : Nat} {w w' : World} {b : Nat} {cs : List Value} {t : TypeId} (h : Blk w b cs t) (hx : Upd R w w') (hb : b ≠ R) : Blk w' b cs t := h.of_same (hx.same b hb h.lt)

/-- v reads as xs, and lies not in block R -/
def Rds (R : Nat) (w : World) (v : Value) (n : Nat) (xs : List Value) : Prop :=
  (v = .slice none 0 0 ∧ n = 0 ∧ xs = []) ∨
  ∃ g off cap, v = .slice (some ⟨g, off, none⟩) n cap ∧ g ≠ R ∧ g < w.heap.size ∧ n ≤ cap ∧ cap ≤ maxLen ∧ ∀ j x, xs[j]? = some x → w.cell? ⟨g, off + j, none⟩ = some x

theorem Rds.nil (R : Nat) (w : World) : Rds R w (.slice none 0 0) 0 [] := .inl ⟨rfl, rfl, rfl⟩
theorem Rds.reads {R : Nat} {w : World} {v : Value} {n : Nat} {xs : List Value} (h : Rds R w v n xs) : Reads w w.heap.size v n xs := by
  rcases h with h | ⟨g, off, cap, h1, h2, h3⟩
  · exact .inl h
  · exact .inr ⟨g, off, cap, h1, h3⟩
theorem Rds.upd {R : Nat} {w w' : World} {v : Value} {n : Nat} {xs : List Value} (h : Rds R w v n xs) (hx : Upd R w w') : Rds R w' v n xs := by
  rcases h with h | ⟨g, off, cap, h1, h2, h3, h4, h5, h6⟩
  · exact .inl h
  · exact .inr ⟨g, off, cap, h1, h2, Nat.lt_of_lt_of_le h3 hx.size, h4, h5, fun j x hj => (World.cell?_of_block (hx.same g h2 h3)).trans (h6 j x hj)⟩
theorem Rds.ext {R B : Nat} {w w' : World} {v : Value} {n : Nat} {xs : List Value} (h : Rds R w v n xs) (hx : Ext B w w') : Rds R w' v n xs := by
  rcases h with h | ⟨g, off, cap, h1, h2, h3, h4, h5, h6⟩
  · exact .inl h
  · exact .inr ⟨g, off, cap, h1, h2, Nat.lt_of_lt_of_le h3 hx.size, h4, h5, fun j x hj => hx.cell (h6 j x hj)⟩
theorem Rds.call {R : Nat} {w w' : World} {v : Value} {n : Nat} {xs : List Value} (h : Rds R w v n xs) (hx : Below w.heap.size w w') : Rds R w' v n xs := h.upd (.of_below hx)
theorem Rds.alloc {R : Nat} {w : World} {v : Value} {n : Nat} {xs : List Value} (h : Rds R w v n xs) (o : Obj) : Rds R (w.alloc o) v n xs := h.call ((Below.refl _ w).alloc (Nat.le_refl _) o)
theorem Rds.of_reads {R : Nat} {w : World} {v : Value} {n : Nat} {xs : List Value} (h : Reads w R v n xs) (hR : R < w.heap.size) : Rds R w v n xs := by
  rcases h with h | ⟨g, off, cap, h1, h2, h3⟩
  · exact .inl h
  · exact .inr ⟨g, off, cap, h1, by omega, by omega, h3⟩
theorem Rds.of_own {R : Nat} {w : World} {base e size : Nat} {v : Value} {n : Nat} {xs : List Value} (h : w.ownsRow base e size v n xs) (hR : R < base) : Rds R w v n xs := by
  have hr := Reads.of_own h
  rcases hr with hr | ⟨g, off, cap, h1, h2, h3⟩
  · exact .inl hr
  · exact .inr ⟨g, off, cap, h1, by have := (h.lt g (by rw [h1]; rfl)).1; omega, h2, h3⟩
theorem own_upd {R : Nat} {w w' : World} {base e size : Nat} {v : Value} {n : Nat} {xs : List Value} (h : w.ownsRow base e size v n xs) (hx : Upd R w w') (hR : R < base) : w'.ownsRow base e size v n xs := by
  refine ⟨h.1, ?_⟩
  rcases h.2 with h2 | ⟨g, cap, cur, hv, hb, hg, r⟩
  · exact .inl h2
  · exact .inr ⟨g, cap, cur, hv, hb, (hx.same g (by omega) (Array.getElem?_eq_some_iff.1 hg).1).trans hg, r⟩

/-- an append, as a step of a region that draws its order -/
theorem step_append2 {P : Program} (w : World) {ops : Array Oper} {o : Oper} {a : Act} {K : Act → World → Prop} {Q : Exit → Act → World → Prop}
    (hwant : Region.wanted o (yielded ops a.tmps) = true) (s x : Operand) (t : TypeId) (hop : o.op = Op.call { callee := Callee.builtin Builtin.append, args := #[s, x], argTypes := #[t, t] })
    (base : Nat) (e : TypeId) (z : Value) (size bytes : Nat) (h1 : P.underlying t = some (.slice e)) (hinfo : (P.info? e).map (fun i => (i.zero, i.size, i.bytes)) = some (some z, size, bytes)) (h6 : z.cells.size = size) (h7 : 0 < size)
    (v : Value) (k : Nat) (xs : List Value) (hs : a.eval s = v) (hown : w.ownsRow base e size v k xs) (xv : Value) (B m : Nat) (news : List Value) (hx : a.eval x = xv) (hr : Reads w B xv m news) (hn : news.length = m * size)
    (h1c : ∀ u ∈ news, u.oneCell' = true) (b1 : k + m ≤ maxLen) (b2 : (k + m) * bytes ≤ 140737488355328) (b3 : base ≤ w.heap.size)
    (hK : ∀ v' w', w'.ownsRow base e size v' (k + m) (xs ++ news) → w.grownBy w' v.ownBlock → Moves w v v' → K (a.put o.dst v') w') :
    if Region.wanted o (yielded ops a.tmps) = true then Oper.wp P o a w K Q else K (a.put o.dst undef) w := by
  rw [if_pos hwant]
  obtain ⟨i, hi, hz, hsz, hby⟩ := info_parts hinfo
  obtain ⟨v', w', hrun, r1, r2, r3⟩ := run_append2 (P := P) w base t o.type e i z size bytes h1 hi hz hsz hby h6 h7 v k xs hown xv B m news hr hn h1c b1 b2 b3
  unfold Oper.wp execOp
  simp only [hop, resolve, invoke, builtin, Sem.run_bind, Sem.run_pure, Result.andThen_ok, List.map_toArray, List.map_cons, List.map_nil, hs, hx, hrun]
  exact hK _ _ r1 r2 r3
/-- v reads as xs, in a block whose cells are of type T -/
def RdT (T : TypeId) (w : World) (v : Value) (n : Nat) (xs : List Value) : Prop :=
  (v = .slice none 0 0 ∧ n = 0 ∧ xs = []) ∨
  ∃ g off cap cs fz, v = .slice (some ⟨g, off, none⟩) n cap ∧ w.heap[g]? = some (.cells cs T fz) ∧ n ≤ cap ∧ cap ≤ maxLen ∧ ∀ j x, xs[j]? = some x → cs[off + j]? = some x

/-- all blocks whose cells are of type T stay -/
def KeepT (T : TypeId) (w w' : World) : Prop := ∀ (g : Nat) (cs : Array Value) (fz : Nat × Nat), w.heap[g]? = some (.cells cs T fz) → w'.heap[g]? = some (.cells cs T fz)

theorem KeepT.refl (T : TypeId) (w : World) : KeepT T w w := fun _ _ _ h => h
theorem KeepT.trans {T : TypeId} {a b c : World} (h : KeepT T a b) (k : KeepT T b c) : KeepT T a c := fun g cs fz x => k g cs fz (h g cs fz x)
theorem KeepT.ext {T : TypeId} {B : Nat} {a b : World} (h : Ext B a b) : KeepT T a b := fun g cs fz x => h.cells g _ x rfl
theorem KeepT.call {T : TypeId} {a b : World} (h : Below a.heap.size a b) : KeepT T a b := fun g cs fz x => (h.block g (Array.getElem?_eq_some_iff.1 x).1).trans x
theorem KeepT.alloc {T : TypeId} {a : World} (o : Obj) : KeepT T a (a.alloc o) := .call ((Below.refl _ a).alloc (Nat.le_refl _) o)
theorem KeepT.upd {T T' : TypeId} {R : Nat} {cs : List Value} {a b : World} (hR : Blk a R cs T') (hT : T' ≠ T) (h : Upd R a b) : KeepT T a b := fun g cs fz x => by
  have hg : g ≠ R := by rintro rfl; unfold Blk at hR; rw [hR] at x; cases x; exact hT rfl
  exact (h.same g hg (Array.getElem?_eq_some_iff.1 x).1).trans x
theorem KeepT.set {T T' : TypeId} {cs : List Value} {a : World} (p : Addr) (hR : Blk a p.block cs T') (hT : T' ≠ T) (v : Value) : KeepT T a (a.setCell p v) := fun g cs fz x => by
  have hg : g ≠ p.block := by rintro rfl; unfold Blk at hR; rw [hR] at x; cases x; exact hT rfl
  exact (Below.heap_setCell a p v g hg).trans x
theorem KeepT.grown {T e : TypeId} {a b : World} {base size n : Nat} {v : Value} {xs : List Value} (ho : a.ownsRow base e size v n xs) (hT : e ≠ T) (h : a.grownBy b v.ownBlock) : KeepT T a b := fun g cs fz x => by
  refine (h.block g (Array.getElem?_eq_some_iff.1 x).1 (fun hr => ?_)).trans x
  rcases ho.2 with ⟨rfl, _⟩ | ⟨g', cap, cur, rfl, _, hg', _⟩
  · simp [Value.ownBlock] at hr
  · simp [Value.ownBlock] at hr
    subst hr
    rw [hg'] at x; cases x; exact hT rfl
theorem RdT.nil (T : TypeId) (w : World) : RdT T w (.slice none 0 0) 0 [] := .inl ⟨rfl, rfl, rfl⟩
theorem RdT.keep {T : TypeId} {w w' : World} {v : Value} {n : Nat} {xs : List Value} (h : RdT T w v n xs) (hx : KeepT T w w') : RdT T w' v n xs := by
  rcases h with h | ⟨g, off, cap, cs, fz, h1, h2, h3⟩
  · exact .inl h
  · exact .inr ⟨g, off, cap, cs, fz, h1, hx _ _ _ h2, h3⟩
theorem RdT.reads {T : TypeId} {w : World} {v : Value} {n : Nat} {xs : List Value} (h : RdT T w v n xs) : Reads w w.heap.size v n xs := by
  rcases h with h | ⟨g, off, cap, cs, fz, h1, h2, h3, h4, h5⟩
  · exact .inl h
  · exact .inr ⟨g, off, cap, h1, (Array.getElem?_eq_some_iff.1 h2).1, h3, h4, fun j x hj => by simp [World.cell?, h2, h5 j x hj]⟩
theorem RdT.of_own {e : TypeId} {w : World} {base size n : Nat} {v : Value} {xs : List Value} (h : w.ownsRow base e size v n xs) : RdT e w v n xs := by
  obtain ⟨hl, h⟩ := h
  rcases h with ⟨rfl, rfl⟩ | ⟨g, cap, cur, rfl, hb, hg, hn, hc, hs, ht⟩
  · exact .inl ⟨rfl, rfl, List.eq_nil_of_length_eq_zero (by simpa using hl)⟩
  · refine .inr ⟨g, 0, cap, cur, _, rfl, hg, hn, hc, fun j x hj => ?_⟩
    rw [← ht, List.getElem?_take] at hj
    split at hj
    · simpa using hj
    · cases hj
theorem RdT.new {W : World} (cs : List Value) (t : TypeId) (n c : Nat) (hn : n ≤ c) (hc : c ≤ maxLen) : RdT t (W.alloc (.cells cs.toArray t)) (.slice (some ⟨W.heap.size, 0, none⟩) n c) n cs :=
  .inr ⟨_, 0, c, cs.toArray, _, rfl, World.alloc_heap_new W _, hn, hc, fun j x hj => by rw [Nat.zero_add]; simpa using hj⟩
theorem RdT.lt {T : TypeId} {w : World} {v : Value} {n : Nat} {xs : List Value} (h : RdT T w v n xs) : n ≤ maxLen := by
  rcases h with ⟨_, rfl, _⟩ | ⟨g, off, cap, cs, fz, h1, h2, h3, h4, h5⟩
  · exact Nat.zero_le _
  · omega
end Go.Rg
