/- Taking an operation of a drawn region that is written out. No condition of its own. -/
import Derived.Deep.RegionHeld
import Derived.Test.YthbplhglfjlngaaGCa
import Derived.BigQuiet
import Derived.Test.YthbplhglfjlngaaGCg
import Derived.Great.FillDense
import Derived.Test.YthbplhglfjlngaaGCb
import Derived.Laws.Cover3
import Derived.Deep.Cut
import Derived.Sort.CutIn

namespace Go.Rg
open Go
def nthO : List Oper → Nat → Option Oper
  | [], _ => none
  | x :: _, 0 => some x
  | _ :: l, n + 1 => nthO l n
theorem nthO_eq : ∀ (l : List Oper) (n : Nat), nthO l n = l.toArray[n]?
  | [], n => by simp [nthO]
  | x :: l, 0 => by simp [nthO]
  | x :: l, n + 1 => by rw [nthO, nthO_eq l n]; simp
theorem takeL {P : Program} {l : List Oper} {Q : Exit → Act → World → Prop} {md : Region.Mode} {S : World → Prop} (i : Nat) {oi : Oper} {v : Value} {fuel : Nat} {listed : Array Bool} {a : Act} {w : World} (hi : nthO l i = some oi)
    (hs : Region.noSelect l.toArray = true) (hf : Region.free md l.toArray listed i = true) (hr : (Region.ready md l.toArray listed).contains i = true)
    (hQ : ∀ c a w, Q (.panic c) (a.put oi.dst v) w → Q (.panic c) a w) (hw : Region.wanted oi (yielded l.toArray a.tmps) = true) (hS : S w) (hy : ∀ w, S w → (execOp a.eval oi).run P w = .ok (.value v) w)
    (h : wpAnyH P md l.toArray Q S fuel (listed.setIfInBounds i true) (a.put oi.dst v) w) : wpAnyH P md l.toArray Q S (fuel + 1) listed a w :=
  wpAnyH_take (nthO_eq l i ▸ hi) hs hf hr hQ (Or.inl ⟨hw, hy⟩) hS h
theorem skipL {P : Program} {l : List Oper} {Q : Exit → Act → World → Prop} {md : Region.Mode} {S : World → Prop} (i : Nat) {oi : Oper} {fuel : Nat} {listed : Array Bool} {a : Act} {w : World} (hi : nthO l i = some oi)
    (hs : Region.noSelect l.toArray = true) (hf : Region.free md l.toArray listed i = true) (hr : (Region.ready md l.toArray listed).contains i = true)
    (hQ : ∀ c a w, Q (.panic c) (a.put oi.dst undef) w → Q (.panic c) a w) (hw : Region.wanted oi (yielded l.toArray a.tmps) = false) (hS : S w)
    (h : wpAnyH P md l.toArray Q S fuel (listed.setIfInBounds i true) (a.put oi.dst undef) w) : wpAnyH P md l.toArray Q S (fuel + 1) listed a w :=
  wpAnyH_take (nthO_eq l i ▸ hi) hs hf hr hQ (Or.inr ⟨hw, rfl⟩) hS h
theorem consL {P : Program} {l : List Oper} {Q : Exit → Act → World → Prop} {md : Region.Mode} {S : World → Prop} {fuel : Nat} {listed : Array Bool} {a : Act} {w : World} (i : Nat) {o : Oper} (hn : Region.ready md l.toArray listed = [i]) (ho : nthO l i = some o)
    (hw : Region.wanted o (yielded l.toArray a.tmps) = true)
    (h : ∀ K' : Act → World → Prop, Shut (∀ a w, S w → (S w → wpAnyH P md l.toArray Q S fuel (listed.setIfInBounds i true) a w) → K' a w) → Oper.wp P o a w K' Q) : wpAnyH P md l.toArray Q S (fuel + 1) listed a w :=
  wpAnyH_ready hn (by simp) (AllReadyH.cons (nthO_eq l i ▸ ho) (fun K hK => by rw [if_pos hw]; exact h K hK) AllReadyH.nil)
end Go.Rg

set_option linter.unusedVariables false
namespace Go.Rg
open Go Go.RowKit
theorem heldG_go {P : Program} {id : Nat} {Q : Exit → Act → World → Prop} {a : Act} {w : World} {l : List Oper} (S : World → Prop) (late : Nat → Bool) (hm : P.follows .mixedOrders = true) (hS : S w.drew)
    (h : S w.drew → wpAnyG P .any l.toArray Q S late l.toArray.size (Array.replicate l.toArray.size false) a w.drew) : (Code.region id l.toArray true).wp P Q a w :=
  wp_region_any hm (wpAny_of_G _ _ _ _ (h hS))
theorem takeG {P : Program} {l : List Oper} {Q : Exit → Act → World → Prop} {md : Region.Mode} {S : World → Prop} {late : Nat → Bool} (i : Nat) {oi : Oper} {v : Value} {fuel : Nat} {listed : Array Bool} {a : Act} {w : World} (D : List Nat) (hi : nthO l i = some oi)
    (hs : Region.noSelect l.toArray = true) (hf : Region.free md l.toArray listed i = true) (hr : (Region.ready md l.toArray listed).contains i = true)
    (hD : waitsD md l.toArray late D i listed = true) (hDs : D.all (fun j => decide (j < l.toArray.size)) = true)
    (hQ : ∀ c a w, Q (.panic c) (a.put oi.dst v) w → Q (.panic c) a w) (hw : Region.wanted oi (yielded l.toArray a.tmps) = true) (hS : S w) (hy : ∀ w, S w → (execOp a.eval oi).run P w = .ok (.value v) w)
    (h : wpAnyG P md l.toArray Q S late fuel (listed.setIfInBounds i true) (a.put oi.dst v) w) : wpAnyG P md l.toArray Q S late (fuel + 1) listed a w :=
  wpAnyG_takeD D (nthO_eq l i ▸ hi) hs hf hr hD hDs hQ (Or.inl ⟨hw, hy⟩) hS h
theorem skipG {P : Program} {l : List Oper} {Q : Exit → Act → World → Prop} {md : Region.Mode} {S : World → Prop} {late : Nat → Bool} (i : Nat) {oi : Oper} {fuel : Nat} {listed : Array Bool} {a : Act} {w : World} (D : List Nat) (hi : nthO l i = some oi)
    (hs : Region.noSelect l.toArray = true) (hf : Region.free md l.toArray listed i = true) (hr : (Region.ready md l.toArray listed).contains i = true)
    (hD : waitsD md l.toArray late D i listed = true) (hDs : D.all (fun j => decide (j < l.toArray.size)) = true)
    (hQ : ∀ c a w, Q (.panic c) (a.put oi.dst undef) w → Q (.panic c) a w) (hw : Region.wanted oi (yielded l.toArray a.tmps) = false) (hS : S w)
    (h : wpAnyG P md l.toArray Q S late fuel (listed.setIfInBounds i true) (a.put oi.dst undef) w) : wpAnyG P md l.toArray Q S late (fuel + 1) listed a w :=
  wpAnyG_takeD D (nthO_eq l i ▸ hi) hs hf hr hD hDs hQ (Or.inr ⟨hw, rfl⟩) hS h
theorem consG {P : Program} {l : List Oper} {Q : Exit → Act → World → Prop} {md : Region.Mode} {S : World → Prop} {late : Nat → Bool} {fuel : Nat} {listed : Array Bool} {a : Act} {w : World} (i : Nat) {o : Oper} (hn : Region.ready md l.toArray listed = [i]) (ho : nthO l i = some o)
    (hw : Region.wanted o (yielded l.toArray a.tmps) = true)
    (h : ∀ K' : Act → World → Prop, Shut (∀ a w, (late i = false → S w) → ((late i = false → S w) → wpAnyG P md l.toArray Q S late fuel (listed.setIfInBounds i true) a w) → K' a w) → Oper.wp P o a w K' Q) : wpAnyG P md l.toArray Q S late (fuel + 1) listed a w :=
  wpAnyG_ready hn (by simp) (AllReadyG.cons (nthO_eq l i ▸ ho) (fun K hK => by rw [if_pos hw]; exact h K (fun a w hS hW => hK.out a w hS (hW hS))) AllReadyG.nil)
end Go.Rg
namespace Go.Rg
open Go Go.RowKit
theorem consL2 {P : Program} {l : List Oper} {Q : Exit → Act → World → Prop} {md : Region.Mode} {S : World → Prop} {fuel : Nat} {listed : Array Bool} {a : Act} {w : World} (i j : Nat) {o p : Oper} (hn : Region.ready md l.toArray listed = [i, j]) (ho : nthO l i = some o) (hp : nthO l j = some p)
    (hw : Region.wanted o (yielded l.toArray a.tmps) = true) (hv : Region.wanted p (yielded l.toArray a.tmps) = true)
    (h : ∀ K' : Act → World → Prop, Shut (∀ a w, S w → (S w → wpAnyH P md l.toArray Q S fuel (listed.setIfInBounds i true) a w) → K' a w) → Oper.wp P o a w K' Q)
    (h2 : ∀ K' : Act → World → Prop, Shut (∀ a w, S w → (S w → wpAnyH P md l.toArray Q S fuel (listed.setIfInBounds j true) a w) → K' a w) → Oper.wp P p a w K' Q) : wpAnyH P md l.toArray Q S (fuel + 1) listed a w :=
  wpAnyH_ready hn (by simp) (AllReadyH.cons (nthO_eq l i ▸ ho) (fun K hK => by rw [if_pos hw]; exact h K hK) (AllReadyH.cons (nthO_eq l j ▸ hp) (fun K hK => by rw [if_pos hv]; exact h2 K hK) AllReadyH.nil))
end Go.Rg
namespace Go.Rg
open Go Go.RowKit
/-- an append, as a step of a drawn region that is written out -/
theorem wp_append2 {P : Program} (w : World) {o : Oper} {a : Act} {K : Act → World → Prop} {Q : Exit → Act → World → Prop}
    (s x : Operand) (t : TypeId) (hop : o.op = Op.call { callee := Callee.builtin Builtin.append, args := #[s, x], argTypes := #[t, t] })
    (base : Nat) (e : TypeId) (z : Value) (size bytes : Nat) (h1 : P.underlying t = some (.slice e)) (hinfo : (P.info? e).map (fun i => (i.zero, i.size, i.bytes)) = some (some z, size, bytes)) (h6 : z.cells.size = size) (h7 : 0 < size)
    (v : Value) (k : Nat) (xs : List Value) (hs : a.eval s = v) (hown : w.ownsRow base e size v k xs) (xv : Value) (B m : Nat) (news : List Value) (hx : a.eval x = xv) (hr : Reads w B xv m news) (hn : news.length = m * size)
    (h1c : ∀ u ∈ news, u.oneCell' = true) (b1 : k + m ≤ maxLen) (b2 : (k + m) * bytes ≤ 140737488355328) (b3 : base ≤ w.heap.size)
    (hK : ∀ v' w', w'.ownsRow base e size v' (k + m) (xs ++ news) → w.grownBy w' v.ownBlock → Moves w v v' → K (a.put o.dst v') w') : Oper.wp P o a w K Q := by
  obtain ⟨i, hi, hz, hsz, hby⟩ := info_parts hinfo
  obtain ⟨v', w', hrun, r1, r2, r3⟩ := run_append2 (P := P) w base t o.type e i z size bytes h1 hi hz hsz hby h6 h7 v k xs hown xv B m news hr hn h1c b1 b2 b3
  unfold Oper.wp execOp
  simp only [hop, resolve, invoke, builtin, Sem.run_bind, Sem.run_pure, Result.andThen_ok, List.map_toArray, List.map_cons, List.map_nil, hs, hx, hrun]
  exact hK _ _ r1 r2 r3
end Go.Rg

set_option linter.unusedVariables false
set_option linter.unusedSimpArgs false
namespace Go.Rg
open Go Go.RowKit

def ReadsE (w : World) (B : Nat) (v : Value) (n : Nat) (xs : List Value) : Prop := Reads w B v n xs ∨ (n = 0 ∧ xs = [] ∧ ∃ (a : Addr) (c : Nat), v = .slice (some a) 0 c)
theorem ReadsE.mono {w : World} {B B' : Nat} {v : Value} {n : Nat} {xs : List Value} (h : ReadsE w B v n xs) (hB : B ≤ B') : ReadsE w B' v n xs := h.imp (·.mono hB) id
theorem ReadsE.below {w w' : World} {B : Nat} {v : Value} {n : Nat} {xs : List Value} (h : ReadsE w B v n xs) (hb : Below B w w') : ReadsE w' B v n xs := h.imp (·.below hb) id
theorem ReadsE.form {w : World} {B : Nat} {v : Value} {n : Nat} {xs : List Value} (h : ReadsE w B v n xs) : ∃ a c, v = .slice a n c := by
  rcases h with (⟨rfl, rfl, _⟩ | ⟨g, off, c, rfl, _⟩) | ⟨rfl, _, a, c, rfl⟩
  · exact ⟨_, _, rfl⟩
  · exact ⟨_, _, rfl⟩
  · exact ⟨_, _, rfl⟩
theorem ReadsE.get {w : World} {B : Nat} {a : Option Addr} {n c : Nat} {xs : List Value} (h : ReadsE w B (.slice a n c) n xs) (hn : n ≠ 0) : ∃ g off, a = some ⟨g, off, none⟩ ∧ g < B ∧ n ≤ c ∧ c ≤ maxLen ∧ ∀ j x, xs[j]? = some x → w.cell? ⟨g, off + j, none⟩ = some x := by
  rcases h with (⟨_, h, _⟩ | ⟨g, off, c', e, h1, h2, h3, h4⟩) | ⟨h, _⟩
  · exact absurd h hn
  · injection e with e1 e2 e3
    subst e1 e3
    exact ⟨g, off, rfl, h1, h2, h3, h4⟩
  · exact absurd h hn

section
variable {P : Program} (w : World)
theorem run_append2E (base : Nat) (t ty e : TypeId) (i : TypeInfo) (z : Value) (size bytes : Nat) (ht : P.underlying t = some (.slice e)) (hi : P.info? e = some i) (hz : i.zero = some z)
    (hsize : i.size = size) (hby : i.bytes = bytes) (hzs : z.cells.size = size) (hsz : 0 < size)
    (v : Value) (n : Nat) (xs : List Value) (hown : w.ownsRow base e size v n xs)
    (x : Value) (B m : Nat) (news : List Value) (hx : ReadsE w B x m news) (hl : news.length = m * size) (h1 : ∀ u ∈ news, u.oneCell' = true)
    (h63 : n + m ≤ maxLen) (hbytes : (n + m) * bytes ≤ 140737488355328) (hbase : base ≤ w.heap.size) :
    ∃ v' w', (Builtin.append_ #[t, t] ty #[v, x]).run P w = .ok v' w' ∧ w'.ownsRow base e size v' (n + m) (xs ++ news) ∧ w.grownBy w' v.ownBlock ∧ Moves w v v' := by
  rcases hx with hx | ⟨rfl, rfl, a, c, rfl⟩
  · exact run_append2 w base t ty e i z size bytes ht hi hz hsize hby hzs hsz v n xs hown x B m news hx hl h1 h63 hbytes hbase
  · have hnews : ∀ (j : Nat) (u : Value), ([] : List Value)[j]? = some u → w.cell? (a.add j) = some u := fun j u h => by simp at h
    obtain ⟨v', w', hr, h2, h3, h4⟩ := run_append_own (P := P) w base t ty e i z size bytes ht hi hz hsize hby hzs hsz v n xs hown a 0 c [] hl hnews h1 h63 hbytes hbase
    refine ⟨v', w', hr, h2, h3, ?_⟩
    subst hsize
    subst hby
    rcases hown.2 with ⟨rfl, rfl⟩ | ⟨g, cap, cur, rfl, hbg, hg, hnc, hcm, hcs, htake⟩
    · have := h4.2 ⟨rfl, rfl⟩
      subst this
      exact .inl rfl
    · have hfit : n * i.size + ([] : List Value).length ≤ cur.size := by rw [hcs]; simpa using Nat.mul_le_mul_right _ hnc
      have hr2 := run_append_room (P := P) w t ty e i ht hi g n cap cur hg a 0 c [] hl hnews h1 (by omega) hfit
      rw [hr2] at hr
      cases hr
      exact .inl rfl
end
theorem wpList_append2E {P : Program} (w : World) {ops : Array Oper} {rest : List Oper} {o : Oper} {a : Act} {Q : Exit → Act → World → Prop}
    (hg : o.guard = none) (s x : Operand) (t : TypeId) (hop : o.op = Op.call { callee := Callee.builtin Builtin.append, args := #[s, x], argTypes := #[t, t] })
    (base : Nat) (e : TypeId) (z : Value) (size bytes : Nat) (h1 : P.underlying t = some (.slice e)) (hinfo : (P.info? e).map (fun i => (i.zero, i.size, i.bytes)) = some (some z, size, bytes)) (h6 : z.cells.size = size) (h7 : 0 < size)
    (v : Value) (k : Nat) (xs : List Value) (hs : a.eval s = v) (hown : w.ownsRow base e size v k xs) (xv : Value) (B m : Nat) (news : List Value) (hx : a.eval x = xv) (hr : ReadsE w B xv m news) (hn : news.length = m * size)
    (h1c : ∀ u ∈ news, u.oneCell' = true) (b1 : k + m ≤ maxLen) (b2 : (k + m) * bytes ≤ 140737488355328) (b3 : base ≤ w.heap.size)
    (hK : ∀ v' w', w'.ownsRow base e size v' (k + m) (xs ++ news) → w.grownBy w' v.ownBlock → Moves w v v' → wpList P ops Q rest (a.put o.dst v') w') :
    wpList P ops Q (o :: rest) a w := by
  obtain ⟨i, hi, hz, hsz, hby⟩ := info_parts hinfo
  refine wpList_plain hg fun K hK' => ?_
  obtain ⟨v', w', hrun, r1, r2, r3⟩ := run_append2E (P := P) w base t o.type e i z size bytes h1 hi hz hsz hby h6 h7 v k xs hown xv B m news hr hn h1c b1 b2 b3
  unfold Oper.wp execOp
  simp only [hop, resolve, invoke, builtin, Sem.run_bind, Sem.run_pure, Result.andThen_ok, List.map_toArray, List.map_cons, List.map_nil, hs, hx, hrun]
  exact hK' _ _ (hK v' w' r1 r2 r3)
/-- an append, as a step of a drawn region that is written out -/
theorem wp_append2E {P : Program} (w : World) {o : Oper} {a : Act} {K : Act → World → Prop} {Q : Exit → Act → World → Prop}
    (s x : Operand) (t : TypeId) (hop : o.op = Op.call { callee := Callee.builtin Builtin.append, args := #[s, x], argTypes := #[t, t] })
    (base : Nat) (e : TypeId) (z : Value) (size bytes : Nat) (h1 : P.underlying t = some (.slice e)) (hinfo : (P.info? e).map (fun i => (i.zero, i.size, i.bytes)) = some (some z, size, bytes)) (h6 : z.cells.size = size) (h7 : 0 < size)
    (v : Value) (k : Nat) (xs : List Value) (hs : a.eval s = v) (hown : w.ownsRow base e size v k xs) (xv : Value) (B m : Nat) (news : List Value) (hx : a.eval x = xv) (hr : ReadsE w B xv m news) (hn : news.length = m * size)
    (h1c : ∀ u ∈ news, u.oneCell' = true) (b1 : k + m ≤ maxLen) (b2 : (k + m) * bytes ≤ 140737488355328) (b3 : base ≤ w.heap.size)
    (hK : ∀ v' w', w'.ownsRow base e size v' (k + m) (xs ++ news) → w.grownBy w' v.ownBlock → Moves w v v' → K (a.put o.dst v') w') : Oper.wp P o a w K Q := by
  obtain ⟨i, hi, hz, hsz, hby⟩ := info_parts hinfo
  obtain ⟨v', w', hrun, r1, r2, r3⟩ := run_append2E (P := P) w base t o.type e i z size bytes h1 hi hz hsz hby h6 h7 v k xs hown xv B m news hr hn h1c b1 b2 b3
  unfold Oper.wp execOp
  simp only [hop, resolve, invoke, builtin, Sem.run_bind, Sem.run_pure, Result.andThen_ok, List.map_toArray, List.map_cons, List.map_nil, hs, hx, hrun]
  exact hK _ _ r1 r2 r3
end Go.Rg

set_option linter.unusedVariables false
set_option linter.unusedSimpArgs false
namespace Go.Rg
open Go Go.RowKit
section
variable {P : Program}
theorem run_buildNone (w : World) (t e : TypeId) (n : Nat) (hu : P.underlying t = some (.slice e)) (hs : (P.info? e).map (·.size) = some n) :
    (Instr.buildSlice t 0 #[]).run P w = .ok (.slice (some ⟨w.heap.size, 0, none⟩) 0 0) (w.alloc (.cells #[] e)) := by
  cases hq : P.info? e with
  | none => simp [hq] at hs
  | some ie => simp [Instr.buildSlice, run_underlying hu, sizeOf, typeInfo, hq, Instr.fill, newRow, show (Array.range 0) = #[] from rfl]
theorem own_none (w : World) (base e size : Nat) (hb : base ≤ w.heap.size) : (w.alloc (.cells #[] e)).ownsRow base e size (.slice (some ⟨w.heap.size, 0, none⟩) 0 0) 0 [] :=
  ⟨by simp, .inr ⟨w.heap.size, 0, #[], rfl, hb, Array.getElem?_push_size, Nat.le_refl _, Nat.zero_le _, by simp, by simp⟩⟩
theorem wpList_buildNone {ops : Array Oper} {rest : List Oper} {o : Oper} {a : Act} {w : World} {Q : Exit → Act → World → Prop} (hg : o.guard = none) (t e : TypeId) (n : Nat) (ho : o.op = .buildSlice t 0 #[])
    (hu : P.underlying t = some (.slice e)) (hs : (P.info? e).map (·.size) = some n)
    (h : wpList P ops Q rest (a.put o.dst (.slice (some ⟨w.heap.size, 0, none⟩) 0 0)) (w.alloc (.cells #[] e))) : wpList P ops Q (o :: rest) a w :=
  wpList_plain hg fun _ hK => by
    unfold Oper.wp execOp
    simp only [ho, Sem.run_bind]
    simp only [Array.map_empty, List.map_toArray, List.map_nil, run_buildNone w t e n hu hs, Result.andThen_ok]
    exact hK _ _ h
end
/-- what a slice of elements reads, for an append -/
theorem SlC.readsE {w : World} {a : Option Addr} {n c sz : Nat} {es : List (List Value)} (h : SlC w (.slice a n c) sz es) (ha : ∀ g, a = some g → True) (hnn : a ≠ none) : ReadsE w w.heap.size (.slice a n c) es.length es.flatten := by
  by_cases he : es = []
  · subst he
    obtain ⟨a', c', e, _⟩ := h
    injection e with e1 e2 e3
    subst e1 e2
    cases a with
    | none => exact absurd rfl hnn
    | some x => exact .inr ⟨rfl, rfl, x, c, rfl⟩
  · exact .inl (h.reads he)
end Go.Rg

set_option linter.unusedVariables false
set_option linter.unusedSimpArgs false
namespace Go.Rg
open Go Go.RowKit
section
variable {P : Program}
theorem run_buildOne (w : World) (t e : TypeId) (x z : Value) (cs : List Value) (hu : P.underlying t = some (.slice e)) (hs : (P.info? e).map (fun i => (i.zero, i.size)) = some (some z, cs.length)) (hx : x.cells = cs.toArray)
    (hpos : 0 < cs.length) (hsm : cs.length ≤ 2 ^ 24) :
    (Instr.buildSlice t 1 #[(0, x)]).run P w = .ok (.slice (some ⟨w.heap.size, 0, none⟩) 1 1) (w.alloc (.cells cs.toArray e)) := by
  cases hq : P.info? e with
  | none => simp [hq] at hs
  | some ie =>
    simp only [hq, Option.map_some, Option.some.injEq, Prod.mk.injEq] at hs
    have hfw := Go.Great.fill_whole hpos [x] ((Array.range (1 * ie.size)).map (z.cells[· % z.cells.size]!)) (by intro v hv; simp at hv; subst hv; rw [hx]; simp) (by simp [hs.2])
    exact run_buildSlice w t e 1 #[(0, x)] cs.toArray ie z hu hq hs.1 (by rw [hs.2]; omega) (by rw [hs.2]; omega) (by
      rw [hs.2] at hfw ⊢
      simpa [hx] using hfw)
end
theorem own_one (w : World) (base e : Nat) (cs : List Value) (hb : base ≤ w.heap.size) : (w.alloc (.cells cs.toArray e)).ownsRow base e cs.length (.slice (some ⟨w.heap.size, 0, none⟩) 1 1) 1 cs :=
  ⟨by omega, .inr ⟨w.heap.size, 1, cs.toArray, rfl, hb, Array.getElem?_push_size, Nat.le_refl _, by unfold maxLen; omega, by simp, by simp⟩⟩
theorem reads_one (w : World) (e : TypeId) (cs : List Value) : ReadsE (w.alloc (.cells cs.toArray e)) (w.alloc (.cells cs.toArray e)).heap.size (.slice (some ⟨w.heap.size, 0, none⟩) 1 1) 1 cs :=
  .inl (Reads.of_own (own_one w w.heap.size e cs (Nat.le_refl _)))
end Go.Rg

set_option linter.unusedVariables false
set_option linter.unusedSimpArgs false
namespace Go.Rg
open Go Go.RowKit
section
variable {P : Program} (w : World)
/-- append of an empty slice gives the slice itself -/
theorem run_append_zero (base : Nat) (t ty e : TypeId) (i : TypeInfo) (size : Nat) (ht : P.underlying t = some (.slice e)) (hi : P.info? e = some i)
    (v : Value) (n : Nat) (xs : List Value) (hown : w.ownsRow base e size v n xs) (c : Nat) :
    (Builtin.append_ #[t, t] ty #[v, .slice none 0 c]).run P w = .ok v w := by
  rcases hown.2 with ⟨rfl, rfl⟩ | ⟨g, cap, cur, rfl, hbg, hg, hnc, hcm, hcs, htake⟩
  · simp [Builtin.append_, run_underlying ht, sizeOf, typeInfo, hi, Builtin.lenOf, Builtin.firstCells]
  · simp [Builtin.append_, run_underlying ht, sizeOf, typeInfo, hi, Builtin.lenOf, Builtin.firstCells, hnc, storeCells]
end
end Go.Rg
namespace Go.Rg
open Go Go.RowKit
section
variable {P : Program}
/-- append of the elements that a slice reads -/
theorem wpList_appendS (w : World) {ops : Array Oper} {rest : List Oper} {o : Oper} {a : Act} {Q : Exit → Act → World → Prop}
    (hg : o.guard = none) (s x : Operand) (t : TypeId) (hop : o.op = Op.call { callee := Callee.builtin Builtin.append, args := #[s, x], argTypes := #[t, t] })
    (base : Nat) (e : TypeId) (z : Value) (size bytes : Nat) (h1 : P.underlying t = some (.slice e)) (hinfo : (P.info? e).map (fun i => (i.zero, i.size, i.bytes)) = some (some z, size, bytes)) (h6 : z.cells.size = size) (h7 : 0 < size)
    (v : Value) (k : Nat) (xs : List Value) (hs : a.eval s = v) (hown : w.ownsRow base e size v k xs) (xv : Value) (es : List (List Value)) (hx : a.eval x = xv) (hr : SlC w xv size es)
    (h1c : ∀ u ∈ es.flatten, u.oneCell' = true) (b1 : k + es.length ≤ maxLen) (b2 : (k + es.length) * bytes ≤ 140737488355328) (b3 : base ≤ w.heap.size)
    (hK : ∀ v' w', w'.ownsRow base e size v' (k + es.length) (xs ++ es.flatten) → w.grownBy w' v.ownBlock → wpList P ops Q rest (a.put o.dst v') w') :
    wpList P ops Q (o :: rest) a w := by
  obtain ⟨ad, c, e', hn, hc⟩ := hr.form
  subst e'
  cases ad with
  | some q => exact wpList_append2E w hg s x t hop base e z size bytes h1 hinfo h6 h7 v k xs hs hown _ w.heap.size es.length es.flatten hx (hr.readsE (fun _ _ => trivial) (by simp)) (flat_len es size hr.choose_spec.choose_spec.2.2.2.1) h1c b1 b2 b3 (fun v' w' r1 r2 _ => hK v' w' r1 r2)
  | none =>
    have hes : es = [] := by
      by_cases he : es = []
      · exact he
      · obtain ⟨a', c', e', _, _, _, ho⟩ := hr
        obtain ⟨g, off, e1, _⟩ := ho he
        injection e' with e2
        rw [← e2] at e1; cases e1
    subst hes
    obtain ⟨i, hi, hz, hsz, hby⟩ := info_parts hinfo
    refine wpList_plain hg fun K hK' => ?_
    have hrun := run_append_zero (P := P) w base t o.type e i size h1 hi v k xs hown c
    unfold Oper.wp execOp
    simp only [hop, resolve, invoke, builtin, Sem.run_bind, Sem.run_pure, Result.andThen_ok, List.map_toArray, List.map_cons, List.map_nil, hs, hx, List.length_nil, hrun]
    exact hK' _ _ (hK v w (by simpa using hown) ⟨rfl, rfl, rfl, Nat.le_refl _, fun _ _ _ => rfl⟩)
end
end Go.Rg

set_option linter.unusedVariables false
set_option linter.unusedSimpArgs false
namespace Go.Rg
open Go Go.RowKit
section
variable {P : Program}
theorem wp_buildOne (w : World) {o : Oper} {a : Act} {K : Act → World → Prop} {Q : Exit → Act → World → Prop} (t e : TypeId) (x : Operand) (xv z : Value) (cs : List Value) (ho : o.op = .buildSlice t 1 #[(0, x)]) (hu : P.underlying t = some (.slice e))
    (hs : (P.info? e).map (fun i => (i.zero, i.size)) = some (some z, cs.length)) (hv : a.eval x = xv) (hx : xv.cells = cs.toArray) (hpos : 0 < cs.length) (hsm : cs.length ≤ 2 ^ 24)
    (hK : K (a.put o.dst (.slice (some ⟨w.heap.size, 0, none⟩) 1 1)) (w.alloc (.cells cs.toArray e))) : Oper.wp P o a w K Q := by
  have hr := run_buildOne (P := P) w t e xv z cs hu hs hx hpos hsm
  unfold Oper.wp execOp
  simp only [ho, Sem.run_bind]
  simp only [List.map_toArray, List.map_cons, List.map_nil, hv, hr, Result.andThen_ok]
  exact hK
theorem info_small {P : Program} {e : TypeId} {z : Value} {size bytes : Nat} (h : (P.info? e).map (fun i => (i.zero, i.size, i.bytes)) = some (some z, size, bytes)) : (P.info? e).map (fun i => (i.zero, i.size)) = some (some z, size) := by
  cases hq : P.info? e with
  | none => simp [hq] at h
  | some i => simp [hq] at h; simp [h]
theorem flat_one (cs : List Value) : [cs].flatten = cs := by simp
end
end Go.Rg
namespace Go.Rg
open Go Go.RowKit
section
variable {P : Program}
theorem pl_appendS (w : World) {l rest : List Oper} {o : Oper} {a : Act} {Q : Exit → Act → World → Prop}
    (hg : o.guard = none) (s x : Operand) (t : TypeId) (hop : o.op = Op.call { callee := Callee.builtin Builtin.append, args := #[s, x], argTypes := #[t, t] })
    (base : Nat) (e : TypeId) (z : Value) (size bytes : Nat) (h1 : P.underlying t = some (.slice e)) (hinfo : (P.info? e).map (fun i => (i.zero, i.size, i.bytes)) = some (some z, size, bytes)) (h6 : z.cells.size = size) (h7 : 0 < size)
    (v : Value) (k : Nat) (xs : List Value) (hs : a.eval s = v) (hown : w.ownsRow base e size v k xs) (xv : Value) (es : List (List Value)) (hx : a.eval x = xv) (hr : SlC w xv size es)
    (h1c : ∀ u ∈ es.flatten, u.oneCell' = true) (b1 : k + es.length ≤ maxLen) (b2 : (k + es.length) * bytes ≤ 140737488355328) (b3 : base ≤ w.heap.size)
    (hK : ∀ v' w', w'.ownsRow base e size v' (k + es.length) (xs ++ es.flatten) → w.grownBy w' v.ownBlock → plW P l Q rest (a.put o.dst v') w') :
    plW P l Q (o :: rest) a w := by
  unfold plW at *
  exact wpList_appendS w hg s x t hop base e z size bytes h1 hinfo h6 h7 v k xs hs hown xv es hx hr h1c b1 b2 b3 hK
end
end Go.Rg
namespace Go.Rg
open Go Go.RowKit
/-- what is behind the first element -/
theorem SlC.tail {w : World} {a : Option Addr} {n c sz : Nat} {e : List Value} {es : List (List Value)} (h : SlC w (.slice a n c) sz (e :: es)) :
    SlC w (.slice (if c = 1 then a else a.map (·.add (1 * sz))) (n - 1) (c - 1)) sz es := by
  have hl : n = (e :: es).length := by
    obtain ⟨a', c', e', _⟩ := h
    injection e' with _ h2
  have := h.sub 1 n (by rw [hl]; simp) (by rw [hl]; exact Nat.le_refl _)
  rw [hl, List.take_length] at this
  simpa [hl] using this
theorem SlC.len_eq {w : World} {a : Option Addr} {n c sz : Nat} {es : List (List Value)} (h : SlC w (.slice a n c) sz es) : n = es.length := by
  obtain ⟨a', c', e', _⟩ := h
  injection e' with _ h2
theorem SlC.head {w : World} {a : Option Addr} {n c sz : Nat} {e : List Value} {es : List (List Value)} (h : SlC w (.slice a n c) sz (e :: es)) :
    ∃ g off, a = some ⟨g, off, none⟩ ∧ g < w.heap.size ∧ w.rangeAt g off e ∧ e.length = sz := by
  obtain ⟨g, off, h1, h2, h3, h4⟩ := h.elem (i := 0) rfl
  exact ⟨g, off, h1, h2, by simpa using h3, h4⟩
end Go.Rg
namespace Go.Rg
open Go Go.RowKit
/-- append of the elements that a slice reads, as a step of a drawn region that is written out -/
theorem wp_appendS {P : Program} (w : World) {o : Oper} {a : Act} {K : Act → World → Prop} {Q : Exit → Act → World → Prop}
    (s x : Operand) (t : TypeId) (hop : o.op = Op.call { callee := Callee.builtin Builtin.append, args := #[s, x], argTypes := #[t, t] })
    (base : Nat) (e : TypeId) (z : Value) (size bytes : Nat) (h1 : P.underlying t = some (.slice e)) (hinfo : (P.info? e).map (fun i => (i.zero, i.size, i.bytes)) = some (some z, size, bytes)) (h6 : z.cells.size = size) (h7 : 0 < size)
    (v : Value) (k : Nat) (xs : List Value) (hs : a.eval s = v) (hown : w.ownsRow base e size v k xs) (xv : Value) (es : List (List Value)) (hx : a.eval x = xv) (hr : SlC w xv size es)
    (h1c : ∀ u ∈ es.flatten, u.oneCell' = true) (b1 : k + es.length ≤ maxLen) (b2 : (k + es.length) * bytes ≤ 140737488355328) (b3 : base ≤ w.heap.size)
    (hK : ∀ v' w', w'.ownsRow base e size v' (k + es.length) (xs ++ es.flatten) → w.grownBy w' v.ownBlock → K (a.put o.dst v') w') : Oper.wp P o a w K Q := by
  obtain ⟨ad, c, e', hn, hc⟩ := hr.form
  subst e'
  cases ad with
  | some q => exact wp_append2E w s x t hop base e z size bytes h1 hinfo h6 h7 v k xs hs hown _ w.heap.size es.length es.flatten hx (hr.readsE (fun _ _ => trivial) (by simp)) (flat_len es size hr.choose_spec.choose_spec.2.2.2.1) h1c b1 b2 b3 (fun v' w' r1 r2 _ => hK v' w' r1 r2)
  | none =>
    have hes : es = [] := by
      by_cases he : es = []
      · exact he
      · obtain ⟨a', c', e', _, _, _, ho⟩ := hr
        obtain ⟨g, off, e1, _⟩ := ho he
        injection e' with e2
        rw [← e2] at e1; cases e1
    subst hes
    obtain ⟨i, hi, hz, hsz, hby⟩ := info_parts hinfo
    have hrun := run_append_zero (P := P) w base t o.type e i size h1 hi v k xs hown c
    unfold Oper.wp execOp
    simp only [hop, resolve, invoke, builtin, Sem.run_bind, Sem.run_pure, Result.andThen_ok, List.map_toArray, List.map_cons, List.map_nil, hs, hx, List.length_nil, hrun]
    exact hK v w (by simpa using hown) ⟨rfl, rfl, rfl, Nat.le_refl _, fun _ _ _ => rfl⟩
/-- a piece of a list, mapped -/
theorem take_drop_map {α β : Type} (f : α → β) (l : List α) (i k n : Nat) (hn : l.length = n) (hi : i ≤ n) : (((l.map f).take (min (i + k) n)).drop i) = ((l.drop i).take k).map f := by
  rw [← List.map_take, ← List.map_drop, List.drop_take]
  congr 1
  apply List.ext_getElem?
  intro j
  rw [List.getElem?_take, List.getElem?_take, List.getElem?_drop]
  by_cases h1 : j < k
  · by_cases h2 : i + j < n
    · rw [if_pos (by omega), if_pos h1]
    · rw [if_neg (by omega), if_pos h1, List.getElem?_eq_none (by omega)]
  · rw [if_neg (by omega), if_neg h1]
theorem take_drop_map2 {α β : Type} (f : α → β) (l : List α) (i k n : Nat) (hn : l.length = n) (hi : i ≤ n) : (((l.map f).take (min (i + 2 * k) n)).drop (min (i + k) n)) = (((l.drop i).drop k).take k).map f := by
  rw [List.drop_drop]
  by_cases h : i + k ≤ n
  · rw [Nat.min_eq_left h]
    have := take_drop_map f l (i + k) k n hn h
    rw [show i + k + k = i + 2 * k by omega] at this
    exact this
  · rw [List.drop_of_length_le (by rw [List.length_take, List.length_map]; omega), List.drop_of_length_le (show l.length ≤ i + k by omega)]
    simp
end Go.Rg
namespace Go.Rg
open Go Go.RowKit
theorem exec_buildNone {P : Program} {w : World} {o : Oper} {a : Act} (t e : TypeId) (n : Nat) (ho : o.op = .buildSlice t 0 #[]) (hu : P.underlying t = some (.slice e)) (hs : (P.info? e).map (·.size) = some n) :
    (execOp a.eval o).run P w = .ok (.value (.slice (some ⟨w.heap.size, 0, none⟩) 0 0)) (w.alloc (.cells #[] e)) := by
  unfold execOp
  simp only [ho, Sem.run_bind]
  simp only [Array.map_empty, List.map_toArray, List.map_nil, run_buildNone w t e n hu hs, Result.andThen_ok]
  rfl
end Go.Rg

set_option linter.unusedVariables false
set_option linter.unusedSimpArgs false
namespace Go.Proofs.Ythbplhglfjlngaa
open Go.RowKit Go.Rg Go.Wd
attribute [local go_sem] Oper.semAt_some
theorem run_eql_slice_nil {P : Program} {w : World} (t e : TypeId) (a : Option Addr) (l c : Nat) (h : P.underlying t = some (.slice e)) : (binOp .eql t (.slice a l c) (.slice none 0 0)).run P w = .ok (.bool a.isNone) w := by
  simp only [binOp]
  simp [run_equal_slice_nil w t e a l c h]

theorem eql_clonePt (w : World) (a : Option Addr) (l c : Nat) : (binOp .eql 35 (.slice a l c) (.slice none 0 0)).run Try.prog w = .ok (.bool a.isNone) w := run_eql_slice_nil _ _ _ _ _ Try.underlying35
theorem size_clonePt : (Try.prog.info? 23).map (·.size) = some 2 := by kernel_rfl
theorem info_clonePt : (Try.prog.info? 23).map (fun i => (i.zero, i.size, i.bytes)) = some (some (.agg #[.int .i64 0, .int .i64 0]), 2, 16) := by kernel_rfl
theorem build_clonePt (w : World) : (Instr.buildSlice 35 0 #[]).run Try.prog w = .ok (.slice (some ⟨w.heap.size, 0, none⟩) 0 0) (w.alloc (.cells #[] 23)) := run_buildNone w _ _ 2 Try.underlying35 size_clonePt
attribute [local go_sem] eql_clonePt build_clonePt
set_option maxRecDepth 100000 in
theorem clonePt_any (v : Value) (es : List (List Value)) (w : World) (hv : SlC w v 2 es) (h1c : ∀ u ∈ es.flatten, u.oneCell' = true) (hb : es.length * 16 ≤ 140737488355328) :
    Calls Try.prog 78 #[v] w fun e w' => ∃ v', e = .returned v' ∧ SlC w' v' 2 es ∧ Below w.heap.size w w' := by
  obtain ⟨a, c, e, hn, hcm⟩ := hv.form
  subst e
  cases a with
  | none =>
    have hes : es = [] := by
      by_cases he : es = []
      · exact he
      · obtain ⟨a', c', e', _, _, _, ho⟩ := hv
        obtain ⟨g, off, e1, _⟩ := ho he
        injection e' with e2
        rw [← e2] at e1; cases e1
    subst hes
    go_enter Try.func78, Try.ntmps78
    go_wp2_with fail
    go_ret
    exact ⟨_, rfl, SlC.nil w 2, Below.refl _ _⟩
  | some ad =>
    have HR := Lib.hid (hv.readsE (fun _ _ => trivial) (by simp))
    have H3 : Hid (∀ e ∈ es, e.length = 2) := Lib.hid hv.choose_spec.choose_spec.2.2.2.1
    have hfl : es.flatten.length = es.length * 2 := flat_len es 2 H3.out
    obtain ⟨n, Hn⟩ : ∃ n, Hid (n = es.length) := ⟨_, Lib.hid rfl⟩
    rw [← Hn.out] at hn hb hfl HR ⊢
    have H1 := Lib.hid h1c
    obtain ⟨fl, Hf⟩ : ∃ n, Hid (n = es.flatten) := ⟨_, Lib.hid rfl⟩
    rw [← Hf.out] at HR hfl H1
    clear h1c hv
    go_enter Try.func78, Try.ntmps78
    have hbl := Below.alloc (Below.refl w.heap.size w) (Nat.le_refl _) (.cells #[] 23)
    go_wp2_with (at_builtin; refine wpList_append2E _ rfl _ _ 35 rfl w.heap.size 23 (.agg #[.int .i64 0, .int .i64 0]) 2 16 Try.underlying35 info_clonePt rfl (by decide) (.slice (some ⟨w.heap.size, 0, none⟩) 0 0) 0 _ rfl (own_none w _ _ _ (Nat.le_refl _)) _ w.heap.size n fl rfl (HR.out.below hbl) hfl H1.out (by unfold maxLen at *; omega) (by omega) hbl.size ?_; intro v' w' r1 r2 r3; clear r3)
    go_ret
    refine ⟨v', rfl, SlC.of_own (base := w.heap.size) (t := 23) ?_ H3.out, hbl.grown r2 hbl.size ?_⟩
    · rw [← Hn.out, ← Hf.out]; simpa using r1
    · intro k hk; cases hk; exact Nat.le_refl _
end Go.Proofs.Ythbplhglfjlngaa

set_option linter.unusedVariables false
set_option linter.unusedSimpArgs false
namespace Go.Rg
open Go Go.RowKit
section
variable {P : Program} {Q : Exit → Act → World → Prop} {n : Nat} {r0 : Option Nat} {ops : Array Oper}
theorem wpIn_of_wp' {o : Oper} (hp : plainOp o = true) {a : Act} {w : World} {K K' : Act → World → Prop} (hK : ∀ a w, K a w → K' a w) (h : o.wp P a w K Q) : o.wpIn (WF r0) n P a w K' Q := by
  have h1 := wpIn_of_wp (n := n) (Oper.wp_mono hK h)
  cases r0 with
  | none => exact h1
  | some l => exact wpIn_round l hp h1
theorem wpListIn_of (hL : ¬ LetsOut Q) : ∀ (l : List Oper) (a : Act) (w : World), l.all plainOp = true → wpList P ops Q l a w → wpListIn (WF r0) n P ops Q l a w
  | [], _, _, _, h => h
  | o :: r, a, w, hp, h => by
    rw [List.all_cons, Bool.and_eq_true] at hp
    unfold wpList at h
    unfold wpListIn
    split
    · rename_i hw
      simp only [hw, if_true] at h
      exact wpIn_of_wp' hp.1 (fun a w h => wpListIn_of hL r a w hp.2 h) (h.resolve_right (fun h => hL h.2))
    · rename_i hw
      simp only [hw] at h
      exact ⟨fun f _ => trivial, wpListIn_of hL r _ _ hp.2 h⟩
theorem pl_startIn {id : Nat} {l : List Oper} {a : Act} {w : World} (hL : ¬ LetsOut Q) (hp : l.all plainOp = true) (h : plW P l Q l a w) : (Code.region id l.toArray false).wpIn (WF r0) n P Q a w := by
  unfold plW at h
  exact wpIn_region_lit (wpListIn_of hL l a w hp h)
end
end Go.Rg
namespace Go.Rg
open Go Go.RowKit
section
variable {P : Program} {Q : Exit → Act → World → Prop} {l rest : List Oper} {a : Act} {w : World} {o : Oper}
/-- a region that keeps the order of its text, in a fence, by the calm law -/
theorem calm_plainIn {id n : Nat} {r0 : Option Nat} (hL : ¬ LetsOut Q) (hp : l.all plainOp = true) (hq : seqB l.toArray l.length 0 (Array.replicate l.length false) = true) (h : Every P l Q a w) : (Code.region id l.toArray false).wpIn (WF r0) n P Q a w := by
  have h1 := h w (.inl rfl)
  have e : l.toArray.size = l.length := by simp
  rw [e] at h1
  have h2 := wpOps_of_any _ _ _ _ _ hq h1
  rw [wpOps_eq_wpList l 0 (by simp)] at h2
  exact wpIn_region_lit (wpListIn_of hL l a w hp h2)
/-- any operation, as a step -/
theorem pl_op (hg : o.guard = none) (h : ∀ K' : Act → World → Prop, (∀ a w, plW P l Q rest a w → K' a w) → Oper.wp P o a w K' Q) : plW P l Q (o :: rest) a w := by
  unfold plW at *
  exact wpList_plain hg fun K' hK => h K' hK
end
end Go.Rg
namespace Go.Rg
open Go Go.RowKit
section
variable {P : Program} {Q : Exit → Act → World → Prop} {l rest : List Oper} {a : Act} {w w' : World} {o : Oper} {v : Value}
/-- an operation that makes memory, as a step -/
theorem pl_new (hw : Region.wanted o (yielded l.toArray a.tmps) = true) (hy : (execOp a.eval o).run P w = .ok (.value v) w') (h : plW P l Q rest (a.put o.dst v) w') : plW P l Q (o :: rest) a w := by
  unfold plW at *
  refine wpList_step fun K hK => ?_
  rw [if_pos hw]; unfold Oper.wp; rw [hy]; exact hK _ _ h
end
end Go.Rg

set_option linter.unusedVariables false
set_option linter.unusedSimpArgs false
namespace Go.Wd
/-- a chain goes on: a cell that it ends with is not told again -/
def jstep (out : List (Int × Int)) (p : Int × Int) : List (Int × Int) := match out.getLast? with | some q => if q == p then out else out ++ [p] | none => out ++ [p]
def joinB (l : List (Int × Int)) : List (Int × Int) := l.foldl jstep []
theorem joinB_snoc (l : List (Int × Int)) (p : Int × Int) : joinB (l ++ [p]) = jstep (joinB l) p := by unfold joinB; rw [List.foldl_append]; rfl
theorem jstep_len (out : List (Int × Int)) (p : Int × Int) : (jstep out p).length ≤ out.length + 1 := by unfold jstep; split <;> (try split) <;> simp
theorem foldl_jstep_len : ∀ (l out : List (Int × Int)), (l.foldl jstep out).length ≤ out.length + l.length
  | [], out => by simp
  | p :: t, out => by have h1 := foldl_jstep_len t (jstep out p); have h2 := jstep_len out p; simp only [List.foldl_cons, List.length_cons]; omega
theorem joinB_len (l : List (Int × Int)) : (joinB l).length ≤ l.length := by have := foldl_jstep_len l []; simpa [joinB] using this
theorem pt_eq {p q : Int × Int} (h : (p == q) = true) : p.1 = q.1 ∧ p.2 = q.2 := by have : p = q := by simpa using h
                                                                                    subst this; exact ⟨rfl, rfl⟩
theorem pt_ne {p q : Int × Int} (h : (p == q) = false) : p.1 = q.1 → ¬ p.2 = q.2 := fun h1 h2 => by
  have : p = q := Prod.ext h1 h2
  subst this; simp at h
end Go.Wd
namespace Go.Proofs.Ythbplhglfjlngaa
open Go.RowKit Go.Rg Go.Wd
attribute [local go_sem] Oper.semAt_some
theorem size_lists : (Try.prog.info? 35).map (·.size) = some 1 := by kernel_rfl

set_option maxRecDepth 100000 in
set_option maxHeartbeats 4000000 in
theorem join_any (v : Value) (vs : List Value) (pss : List (List (Int × Int))) (w : World) (hv : SlC w v 1 (vs.map fun u => [u])) (hl : vs.length = pss.length) (hp : ∀ (i : Nat) (ps : List (Int × Int)), pss[i]? = some ps → ∃ u, vs[i]? = some u ∧ SlC w u 2 (ptE ps))
    (hb : pss.flatten.length * 16 ≤ 140737488355328 - 16) :
    Calls Try.prog 11 #[v] w fun e w' => ∃ v', e = .returned v' ∧ SlC w' v' 2 (ptE (joinB pss.flatten)) ∧ Below w.heap.size w w' := by
  obtain ⟨a, c, e, hn, hcm⟩ := hv.form
  subst e
  obtain ⟨m, Hm⟩ : ∃ n, Hid (n = (vs.map fun u => [u]).length) := ⟨_, Lib.hid rfl⟩
  have Hml : Hid (m = pss.length) := Lib.hid (by rw [Hm.out, List.length_map, hl])
  rw [← Hm.out] at hv hn ⊢
  unfold maxLen at hcm
  have HV := Lib.hid hv
  have HP := Lib.hid hp
  clear hv hp hl
  go_enter Try.func11, Try.ntmps11
  go_wp2_with fail
  go_loopg [3, 11] m (fun q s3 s11 wx => ∃ (i : Nat) (out : List (Int × Int)) (av : Option Addr) (no cv : Nat), i + q = m ∧ s3 = .slice av no cv ∧ s11 = .int .i64 (i : Int) ∧ Hid (out = joinB (pss.take i).flatten) ∧ Hid (no = out.length) ∧ Hid (wx.ownsRow w.heap.size 23 2 (.slice av no cv) no (ptE out).flatten) ∧ Hid (Below w.heap.size w wx))
  case atStart => exact ⟨0, [], none, 0, 0, by omega, rfl, by first | rfl | simp, Lib.hid rfl, Lib.hid rfl, Lib.hid ⟨by simp [ptE], .inl ⟨rfl, rfl⟩⟩, Lib.hid (Below.refl _ _)⟩
  case round =>
    obtain ⟨i, out, av, no, cv, hq, rfl, rfl, Hout, Hno, HO, HB0⟩ := hrel
    cases gk with
    | zero =>
      have hi : i = m := by omega
      have t0 : ¬ (i : Int) < (m : Int) := by omega
      have hall : (pss.take i) = pss := by rw [hi, Hml.out, List.take_length]
      have HR : Hid (SlC wr (.slice av no cv) 2 (ptE (joinB pss.flatten))) := Lib.hid (by
        have h1 := Hout.out
        rw [hall] at h1
        rw [← h1]
        have h2 : (ptE out).length = no := by unfold ptE; rw [List.length_map, Hno.out]
        exact SlC.of_own (es := ptE out) (by rw [h2]; exact HO.out) (fun e he => by unfold ptE at he; obtain ⟨x, _, rfl⟩ := List.mem_map.1 he; rfl))
      clear hall hi
      go_wp2_with fail
      go_ret
      exact ⟨_, rfl, HR.out, HB0.out⟩
    | succ q =>
      have t0 : (i : Int) < (m : Int) := by omega
      obtain ⟨ps, hps⟩ : ∃ ps, pss[i]? = some ps := ⟨_, List.getElem?_eq_getElem (by rw [← Hml.out]; omega)⟩
      obtain ⟨u, hu, hsu⟩ := HP.out i ps hps
      have hue : (vs.map fun u => [u])[i]? = some [u] := by rw [List.getElem?_map, hu]; rfl
      obtain ⟨g, off, rfl, hgl, hrg, _⟩ := HV.out.elem hue
      obtain ⟨ua, uc, e, hun, huc⟩ := hsu.form
      subst e
      obtain ⟨n, Hn⟩ : ∃ n, Hid (n = (ptE ps).length) := ⟨_, Lib.hid rfl⟩
      have Hnl : Hid (n = ps.length) := Lib.hid (by rw [Hn.out]; unfold ptE; rw [List.length_map])
      rw [← Hn.out] at hsu hun hrg
      unfold maxLen at huc
      have HU := Lib.hid hsu
      have y0 : wr.cell? ⟨g, off + i, none⟩ = some (.slice ua n uc) := by
        have := rangeAt_below hrg HB0.out hgl 0 _ rfl
        simpa using this
      have Hps := Lib.hid hps
      have Htk : Hid (∀ j, (pss.take i).flatten ++ ps.take j = ((pss.take i).flatten ++ ps.take j)) := Lib.hid (fun _ => rfl)
      have Hle : Hid (∀ j, ((pss.take i).flatten ++ ps.take j).length ≤ pss.flatten.length) := Lib.hid (fun j => by
        have h1 : pss = pss.take i ++ ps :: pss.drop (i + 1) := by
          have hl := (List.getElem?_eq_some_iff.1 hps).1
          have e := (List.getElem?_eq_some_iff.1 hps).2
          rw [← e, ← List.drop_eq_getElem_cons hl, List.take_append_drop]
        have h2 := congrArg (fun l => l.flatten.length) h1
        simp only [List.flatten_append, List.flatten_cons, List.length_append] at h2
        rw [List.length_append, List.length_take]
        omega)
      clear hps hu hue hsu hrg
      rename World => W
      go_wp2_with fail
      go_loopg [3, 17] n (fun q2 s3 s17 wx => ∃ (j : Nat) (out : List (Int × Int)) (av : Option Addr) (no cv : Nat), j + q2 = n ∧ s3 = .slice av no cv ∧ s17 = .int .i64 (j : Int) ∧ Hid (out = joinB ((pss.take i).flatten ++ ps.take j)) ∧ Hid (no = out.length) ∧ Hid (wx.ownsRow w.heap.size 23 2 (.slice av no cv) no (ptE out).flatten) ∧ Hid (Below w.heap.size w wx))
      case atStart => exact ⟨0, out, av, no, cv, by omega, rfl, by first | rfl | simp, Lib.hid (by rw [Hout.out]; simp), Hno, HO, HB0⟩
      case round =>
        clear Hout Hno HO HB0 y0
        obtain ⟨j, out, av, no, cv, hq2, rfl, rfl, Hout, Hno, HO, HB1⟩ := hrel
        cases gk with
        | zero =>
          have hj : j = n := by omega
          have t1 : ¬ (j : Int) < (n : Int) := by omega
          have Hnx : Hid (out = joinB (pss.take (i + 1)).flatten) := Lib.hid (by
            rw [Hout.out, List.take_add_one, Hps.out, hj, Hnl.out, List.take_length]; simp)
          clear hj
          go_wp2_with fail
          go_roundg q
          case measure => omega
          case rel => exact ⟨i + 1, out, av, no, cv, by omega, rfl, by go_num, Hnx, Hno, HO, HB1⟩
        | succ q2 =>
          have t1 : (j : Int) < (n : Int) := by omega
          obtain ⟨p, hp⟩ : ∃ p, ps[j]? = some p := ⟨_, List.getElem?_eq_getElem (by rw [← Hnl.out]; omega)⟩
          obtain ⟨gp, op, rfl, hgp, hrp, _⟩ := HU.out.elem (ptE_at hp)
          have hel := rangeAt_below hrp HB1.out hgp
          have y2 : wr.cell? ⟨gp, op + j * 2, none⟩ = some (.int .i64 p.1) := hel 0 _ rfl
          have y3 : wr.cell? ⟨gp, op + j * 2 + 1, none⟩ = some (.int .i64 p.2) := hel 1 _ rfl
          have Hst : Hid (joinB ((pss.take i).flatten ++ ps.take (j + 1)) = jstep (joinB ((pss.take i).flatten ++ ps.take j)) p) := Lib.hid (by rw [List.take_add_one, hp, ← List.append_assoc]; exact joinB_snoc _ p)
          have Hnob : Hid (no * 16 ≤ 140737488355328 - 16) := Lib.hid (by
            have h1 := joinB_len ((pss.take i).flatten ++ ps.take j)
            have h2 := Hle.out j
            rw [Hno.out, Hout.out]; omega)
          obtain ⟨wz, hwz⟩ : ∃ wz, wr.alloc (.cells #[.int .i64 p.1, .int .i64 p.2] 23) = wz := ⟨_, rfl⟩
          have hbz : Below wr.heap.size wr wz := hwz ▸ (Below.refl _ wr).alloc (Nat.le_refl _) _
          have B7 : Blk wz wr.heap.size [.int .i64 p.1, .int .i64 p.2] 23 := hwz ▸ Blk.new _ _ _
          have HOz := Lib.hid (own_call HO.out hbz)
          have HBz : Hid (Below w.heap.size w wz) := Lib.hid (HB1.out.trans (hbz.mono HB1.out.size))
          have HB := HBz.out
          have hwz2 := HB.size
          have hzl : wr.heap.size < wz.heap.size := B7.lt
          have hnb2 : no ≤ 140737488355328 := by have := Hnob.out; omega
          clear hp hrp hel hbz
          by_cases hno : no = 0
          · have t2 : (no : Int) = 0 := by omega
            have hjs : jstep (joinB ((pss.take i).flatten ++ ps.take j)) p = joinB ((pss.take i).flatten ++ ps.take j) ++ [p] := by
              have h0 : joinB ((pss.take i).flatten ++ ps.take j) = [] := by rw [← Hout.out]; exact List.eq_nil_of_length_eq_zero (by rw [← Hno.out]; exact hno)
              rw [h0]; rfl
            clear hno
            go_upto_region 9 with (fail)
            (try rw [hwz])
            clear hwz y2 y3
            generalize wr.heap.size = b7 at *
            go_upto_region 9 with (fail)
            refine calm_go (by kernel_rfl) ?_
            refine calm_none (by kernel_rfl) ?_
            refine cV ?_ ?hy3_0 ?_
            case hy3_0 => (intro wz hSw; go_simp; all_goals (with_reducible rfl))
            (try simp only [Act.put, tdA, tdB, tdC])
            refine cV ?_ ?hy3_1 ?_
            case hy3_1 => (intro wz hSw; go_simp; all_goals (with_reducible rfl))
            (try simp only [Act.put, tdA, tdB, tdC])
            refine cV ?_ ?hy3_2 ?_
            case hy3_2 => (intro wz hSw; go_simp; all_goals (with_reducible rfl))
            (try simp only [Act.put, tdA, tdB, tdC])
            refine calm_skip (by rfl) (by rfl) ?_
            (try simp only [Act.put, tdA, tdB, tdC])
            refine calm_skip (by rfl) (by rfl) ?_
            (try simp only [Act.put, tdA, tdB, tdC])
            refine calm_skip (by rfl) (by rfl) ?_
            (try simp only [Act.put, tdA, tdB, tdC])
            refine calm_skip (by rfl) (by rfl) ?_
            (try simp only [Act.put, tdA, tdB, tdC])
            refine calm_skip (by rfl) (by rfl) ?_
            (try simp only [Act.put, tdA, tdB, tdC])
            refine calm_skip (by rfl) (by rfl) ?_
            (try simp only [Act.put, tdA, tdB, tdC])
            refine calm_skip (by rfl) (by rfl) ?_
            (try simp only [Act.put, tdA, tdB, tdC])
            refine cV ?_ ?hy3_10 ?_
            case hy3_10 => (intro wz hSw; go_simp; all_goals (with_reducible rfl))
            (try simp only [Act.put, tdA, tdB, tdC])
            refine calm_end ?_
            intro w1 hS
            have hS := Stay.of_below hS
            have B7 := B7.stay hS (by simp <;> omega)
            have hz1 : wz.heap.size ≤ w1.heap.size := hS.size
            have HB := grow_stay HB hS (by simp <;> omega) (by omega)
            have HE9 := Lib.hid hS.all
            clear hS
            go_upto_region 10 with (fail)
            refine pl_start ?_
            refine pl_val (v := ?_) (by rfl) ?hy1 ?_
            case hy1 => (go_simp; all_goals (with_reducible rfl))
            (try simp only [Act.put, tdA, tdB, tdC])
            refine pl_val (v := pV p.1 p.2) (by rfl) (load_row rfl (by rfl) B7 Try.underlying23 rfl size_clonePt) ?_
            (try simp only [Act.put, tdA, tdB, tdC])
            refine pl_op rfl ?_
            intro K' hK'
            refine wp_buildOne _ 35 23 _ (pV p.1 p.2) (.agg #[.int .i64 0, .int .i64 0]) [.int .i64 p.1, .int .i64 p.2] rfl Try.underlying35 (info_small info_clonePt) (by rfl) rfl (by simp) (by simp) ?_
            obtain ⟨wa, hwa⟩ : ∃ wa, w1.alloc (.cells [.int .i64 p.1, .int .i64 p.2].toArray 23) = wa := ⟨_, rfl⟩
            have hRN : ReadsE wa wa.heap.size (.slice (some ⟨w1.heap.size, 0, none⟩) 1 1) 1 [.int .i64 p.1, .int .i64 p.2] := hwa ▸ reads_one w1 23 [.int .i64 p.1, .int .i64 p.2]
            have hal : Below w1.heap.size w1 wa := hwa ▸ (Below.refl _ w1).alloc (Nat.le_refl _) _
            have hown := own_call (own_call HOz.out HE9.out) hal
            have HBa : Hid (Below w.heap.size w wa) := Lib.hid (HBz.out.trans ((HE9.out.trans (hal.mono HE9.out.size)).mono HBz.out.size))
            have hsa := HBa.out.size
            refine hK' _ _ ?_
            (try rw [hwa])
            clear hwa hal hK' K'
            (try simp only [Act.put, tdA, tdB, tdC])
            refine pl_op rfl ?_
            intro K' hK'
            refine wp_append2E _ _ _ 35 rfl w.heap.size 23 (.agg #[.int .i64 0, .int .i64 0]) 2 16 Try.underlying35 info_clonePt rfl (by decide) (.slice av no cv) no _ rfl hown _ _ 1 [.int .i64 p.1, .int .i64 p.2] rfl hRN rfl (by simp [Value.oneCell']) (by have := Hnob.out; unfold maxLen; omega) (by have := Hnob.out; omega) hsa ?_
            intro v' wb own' hgrow hmov
            obtain ⟨av2, cv2, rfl⟩ := own_form own'
            have HO3 := Lib.hid own'
            have HBb : Hid (Below w.heap.size w wb) := Lib.hid (HBa.out.grown hgrow hsa (fun k e => (hown.lt k e).1))
            refine hK' _ _ ?_
            clear own' hgrow hmov hK' K' hown
            (try simp only [Act.put, tdA, tdB, tdC])
            refine pl_val (v := ?_) (by rfl) ?hy6 ?_
            case hy6 => (go_simp; all_goals (with_reducible rfl))
            (try simp only [Act.put, tdA, tdB, tdC])
            refine pl_end ?_
            clear B7 HB
            go_wp2_with fail
            go_roundg q2
            case measure => omega
            case rel => exact ⟨j + 1, out ++ [p], av2, no + 1, cv2, by omega, rfl, by go_num, Lib.hid (by rw [Hst.out, hjs, Hout.out]), Lib.hid (by rw [Hno.out]; simp), Lib.hid (by unfold ptE; rw [List.map_append, List.flatten_append]; exact HO3.out), HBb⟩
          · have t2 : ¬ (no : Int) = 0 := by omega
            have d2 : decide ((no : Int) = 0) = false := decide_eq_false t2
            have d3 : ((no : Int) == 0) = false := by simpa using t2
            obtain ⟨n1, Hn1⟩ : ∃ m, Hid (m = no - 1) := ⟨_, Lib.hid rfl⟩
            have tn1 : (no : Int) - 1 = (n1 : Int) := by have := Hn1.out; omega
            have tn2 : IntKind.i64.wrap (n1 : Int) = (n1 : Int) := by rw [IntKind.wrap_i64]; have := Hn1.out; omega
            have hn1 : n1 < no := by have := Hn1.out; omega
            obtain ⟨lp, hlp⟩ : ∃ p, out[n1]? = some p := ⟨_, List.getElem?_eq_getElem (by rw [← Hno.out]; exact hn1)⟩
            have hlast : out.getLast? = some lp := by rw [List.getLast?_eq_getElem?, ← Hno.out, ← Hn1.out]; exact hlp
            have hsl : SlC wz (.slice av no cv) 2 (ptE out) := by
              have h2 : (ptE out).length = no := by unfold ptE; rw [List.length_map, Hno.out]
              exact SlC.of_own (es := ptE out) (by rw [h2]; exact HOz.out) (fun e he => by unfold ptE at he; obtain ⟨x, _, rfl⟩ := List.mem_map.1 he; rfl)
            obtain ⟨go, oo, rfl, hgo, hro, _⟩ := hsl.elem (ptE_at hlp)
            have HRl : Hid (∀ X, Below wz.heap.size wz X → X.rangeAt go (oo + n1 * 2) [.int .i64 lp.1, .int .i64 lp.2]) := Lib.hid (fun X hX => rangeAt_below hro hX hgo)
            have hjs0 : jstep (joinB ((pss.take i).flatten ++ ps.take j)) p = if lp == p then out else out ++ [p] := by rw [← Hout.out]; unfold jstep; rw [hlast]
            have Hjs := Lib.hid hjs0
            clear hlp hlast hsl hro hjs0
            go_upto_region 9 with (fail)
            (try rw [hwz])
            clear hwz y2 y3
            generalize wr.heap.size = b7 at *
            cases hlq : (lp == p) with
            | true =>
              have hjs : jstep (joinB ((pss.take i).flatten ++ ps.take j)) p = out := by rw [Hjs.out, hlq]; rfl
              go_upto_region 9 with (fail)
              refine calm_go (by kernel_rfl) ?_
              refine calm_none (by kernel_rfl) ?_
              refine cV ?_ ?hy1_0 ?_
              case hy1_0 => (intro wz hSw; go_simp; all_goals (with_reducible rfl))
              (try simp only [Act.put, tdA, tdB, tdC])
              refine cV ?_ ?hy1_1 ?_
              case hy1_1 => (intro wz hSw; go_simp; all_goals (with_reducible rfl))
              (try simp only [Act.put, tdA, tdB, tdC])
              refine cV ?_ ?hy1_2 ?_
              case hy1_2 => (intro wz hSw; go_simp; all_goals (with_reducible rfl))
              (try simp only [Act.put, tdA, tdB, tdC])
              refine cV ?_ ?hy1_3 ?_
              case hy1_3 => (intro wz hSw; go_simp; all_goals (with_reducible rfl))
              (try simp only [Act.put, tdA, tdB, tdC])
              refine cV ?_ ?hy1_4 ?_
              case hy1_4 => (intro wz hSw; go_simp; all_goals (with_reducible rfl))
              (try simp only [Act.put, tdA, tdB, tdC])
              refine cV ?_ ?hy1_5 ?_
              case hy1_5 => (intro wz hSw; have nn := tn1; have nn2 := tn2; go_simp; all_goals (with_reducible rfl))
              (try simp only [Act.put, tdA, tdB, tdC])
              refine calm_val (v := .pointer (some ⟨go, oo + n1 * 2, none⟩)) (by rfl) (by rfl) ?hy1_6 ?_
              case hy1_6 => (intro wz hSw; exact x_index (i := n1) (E := 23) (sz := 2) rfl (by rfl) (by rfl) (by omega) Try.underlying35 size_clonePt)
              (try simp only [Act.put, tdA, tdB, tdC])
              refine calm_val (v := pV lp.1 lp.2) (by rfl) (by rfl) ?hy1_7 ?_
              case hy1_7 => (intro wz hSw; exact x_row (cs := [.int .i64 lp.1, .int .i64 lp.2]) rfl (by rfl) (HRl.out _ (Stay.all hSw.1)) Try.underlying23 rfl size_clonePt)
              (try simp only [Act.put, tdA, tdB, tdC])
              refine cV ?_ ?hy1_8 ?_
              case hy1_8 => (intro wz hSw; obtain ⟨q0, q1⟩ := c2 (B7.stay hSw.1 (by simp <;> omega)); go_simp; all_goals (with_reducible rfl))
              (try simp only [Act.put, tdA, tdB, tdC])
              refine calm_val (v := .bool false) (by rfl) (by rfl) ?hy1_9 ?_
              case hy1_9 => (intro wz hSw; exact (by have e1 := (pt_eq hlq).1; have e2 := (pt_eq hlq).2; go_simp))
              (try simp only [Act.put, tdA, tdB, tdC])
              refine cV ?_ ?hy1_10 ?_
              case hy1_10 => (intro wz hSw; go_simp; all_goals (with_reducible rfl))
              (try simp only [Act.put, tdA, tdB, tdC])
              refine calm_end ?_
              intro w1 hS
              have hS := Stay.of_below hS
              have B7 := B7.stay hS (by simp <;> omega)
              have hz1 : wz.heap.size ≤ w1.heap.size := hS.size
              have HB := grow_stay HB hS (by simp <;> omega) (by omega)
              have HE9 := Lib.hid hS.all
              clear hS
              clear B7 HB
              go_wp2_with fail
              go_roundg q2
              case measure => omega
              case rel => exact ⟨j + 1, out, some ⟨go, oo, none⟩, no, cv, by omega, rfl, by go_num, Lib.hid (by rw [Hst.out, hjs]), Hno, Lib.hid (own_call HOz.out HE9.out), Lib.hid (HBz.out.trans (HE9.out.mono HBz.out.size))⟩
            | false =>
              have hjs : jstep (joinB ((pss.take i).flatten ++ ps.take j)) p = joinB ((pss.take i).flatten ++ ps.take j) ++ [p] := by rw [Hjs.out, hlq, Hout.out]; rfl
              go_upto_region 9 with (fail)
              refine calm_go (by kernel_rfl) ?_
              refine calm_none (by kernel_rfl) ?_
              refine cV ?_ ?hy2_0 ?_
              case hy2_0 => (intro wz hSw; go_simp; all_goals (with_reducible rfl))
              (try simp only [Act.put, tdA, tdB, tdC])
              refine cV ?_ ?hy2_1 ?_
              case hy2_1 => (intro wz hSw; go_simp; all_goals (with_reducible rfl))
              (try simp only [Act.put, tdA, tdB, tdC])
              refine cV ?_ ?hy2_2 ?_
              case hy2_2 => (intro wz hSw; go_simp; all_goals (with_reducible rfl))
              (try simp only [Act.put, tdA, tdB, tdC])
              refine cV ?_ ?hy2_3 ?_
              case hy2_3 => (intro wz hSw; go_simp; all_goals (with_reducible rfl))
              (try simp only [Act.put, tdA, tdB, tdC])
              refine cV ?_ ?hy2_4 ?_
              case hy2_4 => (intro wz hSw; go_simp; all_goals (with_reducible rfl))
              (try simp only [Act.put, tdA, tdB, tdC])
              refine cV ?_ ?hy2_5 ?_
              case hy2_5 => (intro wz hSw; have nn := tn1; have nn2 := tn2; go_simp; all_goals (with_reducible rfl))
              (try simp only [Act.put, tdA, tdB, tdC])
              refine calm_val (v := .pointer (some ⟨go, oo + n1 * 2, none⟩)) (by rfl) (by rfl) ?hy2_6 ?_
              case hy2_6 => (intro wz hSw; exact x_index (i := n1) (E := 23) (sz := 2) rfl (by rfl) (by rfl) (by omega) Try.underlying35 size_clonePt)
              (try simp only [Act.put, tdA, tdB, tdC])
              refine calm_val (v := pV lp.1 lp.2) (by rfl) (by rfl) ?hy2_7 ?_
              case hy2_7 => (intro wz hSw; exact x_row (cs := [.int .i64 lp.1, .int .i64 lp.2]) rfl (by rfl) (HRl.out _ (Stay.all hSw.1)) Try.underlying23 rfl size_clonePt)
              (try simp only [Act.put, tdA, tdB, tdC])
              refine cV ?_ ?hy2_8 ?_
              case hy2_8 => (intro wz hSw; obtain ⟨q0, q1⟩ := c2 (B7.stay hSw.1 (by simp <;> omega)); go_simp; all_goals (with_reducible rfl))
              (try simp only [Act.put, tdA, tdB, tdC])
              refine calm_val (v := .bool true) (by rfl) (by rfl) ?hy2_9 ?_
              case hy2_9 => (intro wz hSw; exact (by have e1 := pt_ne hlq; go_simp; all_goals exact e1))
              (try simp only [Act.put, tdA, tdB, tdC])
              refine cV ?_ ?hy2_10 ?_
              case hy2_10 => (intro wz hSw; go_simp; all_goals (with_reducible rfl))
              (try simp only [Act.put, tdA, tdB, tdC])
              refine calm_end ?_
              intro w1 hS
              have hS := Stay.of_below hS
              have B7 := B7.stay hS (by simp <;> omega)
              have hz1 : wz.heap.size ≤ w1.heap.size := hS.size
              have HB := grow_stay HB hS (by simp <;> omega) (by omega)
              have HE9 := Lib.hid hS.all
              clear hS
              go_upto_region 10 with (fail)
              refine pl_start ?_
              refine pl_val (v := ?_) (by rfl) ?hy1 ?_
              case hy1 => (go_simp; all_goals (with_reducible rfl))
              (try simp only [Act.put, tdA, tdB, tdC])
              refine pl_val (v := pV p.1 p.2) (by rfl) (load_row rfl (by rfl) B7 Try.underlying23 rfl size_clonePt) ?_
              (try simp only [Act.put, tdA, tdB, tdC])
              refine pl_op rfl ?_
              intro K' hK'
              refine wp_buildOne _ 35 23 _ (pV p.1 p.2) (.agg #[.int .i64 0, .int .i64 0]) [.int .i64 p.1, .int .i64 p.2] rfl Try.underlying35 (info_small info_clonePt) (by rfl) rfl (by simp) (by simp) ?_
              obtain ⟨wa, hwa⟩ : ∃ wa, w1.alloc (.cells [.int .i64 p.1, .int .i64 p.2].toArray 23) = wa := ⟨_, rfl⟩
              have hRN : ReadsE wa wa.heap.size (.slice (some ⟨w1.heap.size, 0, none⟩) 1 1) 1 [.int .i64 p.1, .int .i64 p.2] := hwa ▸ reads_one w1 23 [.int .i64 p.1, .int .i64 p.2]
              have hal : Below w1.heap.size w1 wa := hwa ▸ (Below.refl _ w1).alloc (Nat.le_refl _) _
              have hown := own_call (own_call HOz.out HE9.out) hal
              have HBa : Hid (Below w.heap.size w wa) := Lib.hid (HBz.out.trans ((HE9.out.trans (hal.mono HE9.out.size)).mono HBz.out.size))
              have hsa := HBa.out.size
              refine hK' _ _ ?_
              (try rw [hwa])
              clear hwa hal hK' K'
              (try simp only [Act.put, tdA, tdB, tdC])
              refine pl_op rfl ?_
              intro K' hK'
              refine wp_append2E _ _ _ 35 rfl w.heap.size 23 (.agg #[.int .i64 0, .int .i64 0]) 2 16 Try.underlying35 info_clonePt rfl (by decide) (.slice (some ⟨go, oo, none⟩) no cv) no _ rfl hown _ _ 1 [.int .i64 p.1, .int .i64 p.2] rfl hRN rfl (by simp [Value.oneCell']) (by have := Hnob.out; unfold maxLen; omega) (by have := Hnob.out; omega) hsa ?_
              intro v' wb own' hgrow hmov
              obtain ⟨av2, cv2, rfl⟩ := own_form own'
              have HO3 := Lib.hid own'
              have HBb : Hid (Below w.heap.size w wb) := Lib.hid (HBa.out.grown hgrow hsa (fun k e => (hown.lt k e).1))
              refine hK' _ _ ?_
              clear own' hgrow hmov hK' K' hown
              (try simp only [Act.put, tdA, tdB, tdC])
              refine pl_val (v := ?_) (by rfl) ?hy6 ?_
              case hy6 => (go_simp; all_goals (with_reducible rfl))
              (try simp only [Act.put, tdA, tdB, tdC])
              refine pl_end ?_
              clear B7 HB
              go_wp2_with fail
              go_roundg q2
              case measure => omega
              case rel => exact ⟨j + 1, out ++ [p], av2, no + 1, cv2, by omega, rfl, by go_num, Lib.hid (by rw [Hst.out, hjs, Hout.out]), Lib.hid (by rw [Hno.out]; simp), Lib.hid (by unfold ptE; rw [List.map_append, List.flatten_append]; exact HO3.out), HBb⟩
end Go.Proofs.Ythbplhglfjlngaa

set_option linter.unusedVariables false
set_option linter.unusedSimpArgs false
namespace Go.Rg
open Go Go.RowKit

section
variable {P : Program} {ops : Array Oper} {Q : Exit → Act → World → Prop} {md : Region.Mode} {S : World → Prop}
abbrev W0 : Fence := WF none

def wpAnyY (P : Program) (md : Region.Mode) (ops : Array Oper) (Q : Exit → Act → World → Prop) (S : World → Prop) : Nat → Array Bool → Act → World → Prop
  | 0, listed, a, w => Region.ready md ops listed = [] ∧ Q .normal a w
  | fuel + 1, listed, a, w => (Region.ready md ops listed = [] → Q .normal a w) ∧
    ∀ i ∈ Region.ready md ops listed, wpOpIn W0 0 P ops Q i (fun a' w' => S w' ∧ wpAnyY P md ops Q S fuel (listed.setIfInBounds i true) a' w') a w

theorem wpAnyIn_of_Y : ∀ (fuel : Nat) (listed : Array Bool) (a : Act) (w : World), wpAnyY P md ops Q S fuel listed a w → wpAnyIn W0 0 P md ops Q fuel listed a w := by
  intro fuel
  induction fuel with
  | zero => intro listed a w h; exact h
  | succ fuel ih => intro listed a w h; exact ⟨h.1, fun i hi => wpOpIn_mono (fun a' w' h' => ih _ a' w' h'.2) (h.2 i hi)⟩

theorem YieldsIf.wpOpIn {i : Nat} {o : Oper} {v : Value} {a : Act} (hi : ops[i]? = some o) (hy : YieldsIf P ops S o v a)
    {K : Act → World → Prop} {w : World} (hS : S w) (h : K (a.put o.dst v) w) : wpOpIn W0 0 P ops Q i K a w := by
  unfold Go.wpOpIn
  simp only [hi]
  rcases hy with ⟨hw, hv⟩ | ⟨hw, rfl⟩
  · simp only [hw, if_true, Oper.wpIn, WF_round, Oper.semAt_none, hv w hS, Oper.uponIn]
    exact ⟨fun _ _ => trivial, h⟩
  · simp only [hw, Bool.false_eq_true, if_false]
    exact ⟨fun _ _ => trivial, h⟩

theorem wpOpIn_putIf {j : Nat} {oi oj : Oper} {v : Value} (hj : ops[j]? = some oj) (hap : oi.apart ops oj = true)
    (hsi : ∀ cs b, oi.op ≠ .select cs b) (hsj : ∀ cs b, oj.op ≠ .select cs b)
    (hQ : ∀ c a w, Q (.panic c) (a.put oi.dst v) w → Q (.panic c) a w) {K : Act → World → Prop} {a : Act} {w : World}
    (hy : YieldsIf P ops S oi v a) (h : wpOpIn W0 0 P ops Q j K (a.put oi.dst v) w) :
    wpOpIn W0 0 P ops Q j (fun a' w' => YieldsIf P ops S oi v a' ∧ K (a'.put oi.dst v) w') a w := by
  obtain ⟨h1, h2, h3⟩ := Oper.apart_spec hap
  have keep : ∀ (a : Act), YieldsIf P ops S oi v a → ∀ u, YieldsIf P ops S oi v (a.put oj.dst u) := fun a hy u =>
    hy.of_same (execOp_put oi hsi a oj.dst u h3) (wanted_put oi a oj.dst u h3)
  have keepD : ∀ d, YieldsIf P ops S oi v { a with defers := d :: a.defers } := fun d => hy.of_same rfl rfl
  unfold wpOpIn at *
  simp only [hj] at *
  rw [wanted_put oj a oi.dst v h1] at h
  split
  · rename_i hw
    simp only [hw, if_true] at h
    unfold Oper.wpIn at *
    refine ⟨fun _ _ => trivial, ?_⟩
    have h := h.2
    rw [WF_round, Oper.semAt_none, execOp_put oj hsj a oi.dst v h1] at h
    rw [WF_round, Oper.semAt_none]
    generalize (execOp a.eval oj).run P w = r at *
    cases r with
    | ok x w' =>
      cases x <;> simp only [Oper.uponIn] at h ⊢
      case value u => exact ⟨keep a hy u, by rw [← Act.put_comm a v u h2]; exact h⟩
      case skip => exact ⟨keep a hy _, by rw [← Act.put_comm a v undef h2]; exact h⟩
      case defer d =>
        refine ⟨keep _ (keepD d) _, ?_⟩
        rw [← Act.put_comm _ v undef h2, ← Act.put_defers]
        exact h
      case enter f args =>
        refine ⟨h.1, CallsIn.mono h.2 fun e w'' he => ?_⟩
        cases e with
        | returned u => exact ⟨keep a hy u, by rw [← Act.put_comm a v u h2]; exact he⟩
        | panicked c => exact hQ _ _ _ he
        | outgrown => exact he
      case row row args => exact ⟨h.1, RowsIn.mono h.2 fun u w'' he => ⟨keep a hy u, by rw [← Act.put_comm a v u h2]; exact he⟩⟩
      case round l f tmps assign body =>
        refine ⟨h.1, RoundIn.mono h.2 fun e w'' he => ?_⟩
        cases e with
        | returned u => exact ⟨keep a hy u, by rw [← Act.put_comm a v u h2]; exact he⟩
        | panicked c => exact hQ _ _ _ he
        | outgrown => exact he
    | halt x w' =>
      cases x <;> simp only [Oper.uponIn] at h ⊢
      case panic u => exact hQ _ _ _ h
  · rename_i hw
    simp only [hw] at h
    exact ⟨fun _ _ => trivial, keep a hy _, by rw [← Act.put_comm a v undef h2]; exact h.2⟩

theorem wpAnyY_first {i : Nat} {oi : Oper} {v : Value} (hi : ops[i]? = some oi) (hsel : ∀ (j : Nat) (o : Oper) cs b, ops[j]? = some o → o.op ≠ .select cs b)
    (hQ : ∀ c a w, Q (.panic c) (a.put oi.dst v) w → Q (.panic c) a w) :
    ∀ (fuel : Nat) (listed : Array Bool) (a : Act) (w : World),
      (∀ j oj, ops[j]? = some oj → j ≠ i → listed.getD j true = false → (∀ e ∈ oj.after, Region.binds md e = true → e.on ≠ i) → oi.apart ops oj = true) →
      i ∈ Region.ready md ops listed → YieldsIf P ops S oi v a → S w →
      wpAnyY P md ops Q S fuel (listed.setIfInBounds i true) (a.put oi.dst v) w → wpAnyY P md ops Q S (fuel + 1) listed a w := by
  intro fuel
  induction fuel with
  | zero =>
    intro listed a w _ hr hy hS H
    refine ⟨fun h => (by rw [h] at hr; cases hr), fun j hj => ?_⟩
    by_cases hji : j = i
    · rw [hji]; exact YieldsIf.wpOpIn hi hy hS ⟨hS, H⟩
    · have := ready_mono hj hji
      rw [H.1] at this
      cases this
  | succ fuel ih =>
    intro listed a w hfree hr hy hS H
    refine ⟨fun h => (by rw [h] at hr; cases hr), fun j hj => ?_⟩
    by_cases hji : j = i
    · rw [hji]; exact YieldsIf.wpOpIn hi hy hS ⟨hS, H⟩
    · have h1 := H.2 j (ready_mono hj hji)
      obtain ⟨hjun, oj, hoj, hall⟩ := mem_ready.1 hj
      have hnot : ∀ e ∈ oj.after, Region.binds md e = true → e.on ≠ i := fun e he hb heq => by
        have h1 := hall e he hb
        have h0 := (mem_ready.1 hr).1
        rw [heq] at h1
        rcases Nat.lt_or_ge i listed.size with h' | h'
        · simp [h'] at h0 h1; rw [h0] at h1; cases h1
        · simp [Array.getElem?_eq_none h'] at h1
      have h2 := wpOpIn_putIf hoj (hfree j oj hoj hji hjun hnot) (fun cs b => hsel i oi cs b hi) (fun cs b => hsel j oj cs b hoj) hQ hy h1
      have hfree' : ∀ k ok, ops[k]? = some ok → k ≠ i → (listed.setIfInBounds j true).getD k true = false →
          (∀ e ∈ ok.after, Region.binds md e = true → e.on ≠ i) → oi.apart ops ok = true := fun k ok hk hki hun hno => by
        refine hfree k ok hk hki ?_ hno
        by_cases hjk : j = k
        · rw [← hjk]; exact hjun
        · rw [getD_set_ne true hjk] at hun; exact hun
      refine wpOpIn_mono (fun a' w' h3 => ⟨h3.2.1, ih (listed.setIfInBounds j true) a' w' hfree' (ready_mono hr (Ne.symm hji)) h3.1 h3.2.1 ?_⟩) h2
      rw [Array.setIfInBounds_comm _ _ hji]
      exact h3.2.2

theorem wpAnyY_done {listed : Array Bool} {a : Act} {w : World} (hr : Region.ready md ops listed = []) (h : Q .normal a w) : ∀ fuel, wpAnyY P md ops Q S fuel listed a w
  | 0 => ⟨hr, h⟩
  | _ + 1 => ⟨fun _ => h, by rw [hr]; simp⟩
end

theorem heldY_round {P : Program} {id : Nat} {r0 : Option Nat} {Q : Exit → Act → World → Prop} {a : Act} {w : World} {l : List Oper} (S : World → Prop) (hm : P.follows .mixedOrders = true) (hp : l.all plainOp = true) (hS : S w.drew)
    (h : S w.drew → wpAnyY P .any l.toArray Q S l.toArray.size (Array.replicate l.toArray.size false) a w.drew) : (Code.region id l.toArray true).wpIn (WF r0) 0 P Q a w := by
  have h1 := wpAnyIn_of_Y _ _ _ _ (h hS)
  refine wpIn_region_any hm ?_
  cases r0 with
  | none => exact h1
  | some l0 =>
    refine wpAny_round l0 (fun i o ho => ?_) _ _ _ _ h1
    rw [List.all_eq_true] at hp
    exact hp o (by simpa using List.mem_of_getElem? (by simpa using ho))

theorem takeY {P : Program} {l : List Oper} {Q : Exit → Act → World → Prop} {md : Region.Mode} {S : World → Prop} (i : Nat) {oi : Oper} {v : Value} {fuel : Nat} {listed : Array Bool} {a : Act} {w : World} (hi : nthO l i = some oi)
    (hs : Region.noSelect l.toArray = true) (hf : Region.free md l.toArray listed i = true) (hr : (Region.ready md l.toArray listed).contains i = true)
    (hQ : ∀ c a w, Q (.panic c) (a.put oi.dst v) w → Q (.panic c) a w) (hw : Region.wanted oi (yielded l.toArray a.tmps) = true) (hS : S w) (hy : ∀ w, S w → (execOp a.eval oi).run P w = .ok (.value v) w)
    (h : wpAnyY P md l.toArray Q S fuel (listed.setIfInBounds i true) (a.put oi.dst v) w) : wpAnyY P md l.toArray Q S (fuel + 1) listed a w :=
  wpAnyY_first (nthO_eq l i ▸ hi) (Region.noSelect_spec hs) hQ fuel listed a w (Region.free_spec (nthO_eq l i ▸ hi) hf) (by simpa using hr) (Or.inl ⟨hw, hy⟩) hS h
theorem skipY {P : Program} {l : List Oper} {Q : Exit → Act → World → Prop} {md : Region.Mode} {S : World → Prop} (i : Nat) {oi : Oper} {fuel : Nat} {listed : Array Bool} {a : Act} {w : World} (hi : nthO l i = some oi)
    (hs : Region.noSelect l.toArray = true) (hf : Region.free md l.toArray listed i = true) (hr : (Region.ready md l.toArray listed).contains i = true)
    (hQ : ∀ c a w, Q (.panic c) (a.put oi.dst undef) w → Q (.panic c) a w) (hw : Region.wanted oi (yielded l.toArray a.tmps) = false) (hS : S w)
    (h : wpAnyY P md l.toArray Q S fuel (listed.setIfInBounds i true) (a.put oi.dst undef) w) : wpAnyY P md l.toArray Q S (fuel + 1) listed a w :=
  wpAnyY_first (nthO_eq l i ▸ hi) (Region.noSelect_spec hs) hQ fuel listed a w (Region.free_spec (nthO_eq l i ▸ hi) hf) (by simpa using hr) (Or.inr ⟨hw, rfl⟩) hS h

/-- a call of yield, as a step of such a region -/
theorem yieldY {P : Program} {l : List Oper} {Q : Exit → Act → World → Prop} {md : Region.Mode} {S : World → Prop} {fuel : Nat} {listed : Array Bool} {a : Act} {w : World} (i : Nat) {o : Oper} {f : Operand} {xs : Array Operand} {ts : Array TypeId} {k : Nat} {x : Array Value} {R : Ending → World → Prop}
    (hn : Region.ready md l.toArray listed = [i]) (ho : nthO l i = some o) (hop : o.op = Op.call { callee := Callee.value f, args := xs, argTypes := ts })
    (hw : Region.wanted o (yielded l.toArray a.tmps) = true) (hf : a.eval f = .func (.yield k) #[] #[]) (hx0 : xs.toList.map a.eval = x.toList) (hY : YieldAt (WF none) 0 P k x w R)
    (hR : ∀ e w', R e w' → ∃ b, e = .returned b ∧ S w' ∧ wpAnyY P md l.toArray Q S fuel (listed.setIfInBounds i true) (a.put o.dst b) w') : wpAnyY P md l.toArray Q S (fuel + 1) listed a w := by
  have hx : xs.map a.eval = x := by apply Array.ext'; rw [Array.toList_map]; exact hx0
  refine ⟨fun h0 => (by rw [hn] at h0; cases h0), fun j hj => ?_⟩
  rw [hn] at hj
  obtain rfl : j = i := by simpa using hj
  unfold wpOpIn
  rw [← nthO_eq, ho]
  simp only [hw, if_true]
  obtain ⟨fn, tmps, assign, body, hy, hr⟩ := hY
  refine ⟨fun _ _ => trivial, ?_⟩
  have e : (execOp a.eval o).run P w = .ok (.round k fn tmps assign body) w := by
    unfold execOp
    simp only [hop, resolve, invoke, Sem.run_bind, Sem.run_pure, Result.andThen_ok, hf, hx, hy]
    simp [go_sem, hy]
  rw [WF_round, Oper.semAt_none, e]
  refine ⟨fun h => absurd h (by simp), RoundIn.mono hr fun e w' he => ?_⟩
  obtain ⟨b, rfl, h1, h2⟩ := hR e w' he
  exact ⟨h1, h2⟩
end Go.Rg

set_option linter.unusedVariables false
set_option linter.unusedSimpArgs false
namespace Go.Proofs.Ythbplhglfjlngaa
open Go.RowKit Go.Rg Go.Wd
attribute [local go_sem] Oper.semAt_some
/-- the steps of a chain -/
def stepA (ps : List (Int × Int)) : List (Array Value) := (ps.zip (ps.drop 1)).map fun z => #[pV z.1.1 z.1.2, pV z.2.1 z.2.2]
theorem stepA_len (ps : List (Int × Int)) : (stepA ps).length = ps.length - 1 := by unfold stepA; simp
theorem stepA_at {ps : List (Int × Int)} {k : Nat} {p q : Int × Int} (h1 : ps[k]? = some p) (h2 : ps[k + 1]? = some q) : (stepA ps)[k]? = some #[pV p.1 p.2, pV q.1 q.2] := by
  unfold stepA
  have h3 : (ps.zip (ps.drop 1))[k]? = some (p, q) := List.getElem?_zip_eq_some.2 ⟨h1, by rw [List.getElem?_drop, Nat.add_comm]; exact h2⟩
  rw [List.getElem?_map, h3]
  rfl
theorem enter_steps (args : Array Value) (w : World) : (callFunc 22 args).run Try.prog w = .ok (.enter 22 args) w := enters_of Try.func22 (by kernel_rfl) rfl args w
theorem stepsF_any (a : Option Addr) (n c : Nat) (w : World) : Calls Try.prog 10 #[.slice a n c] w fun e w' => e = .returned (.func (.func 22) #[] #[.pointer (some ⟨w.heap.size, 0, none⟩)]) ∧ w.alloc (.cells #[.slice a n c] 35) = w' := by
  go_enter Try.func10, Try.ntmps10
  go_wp2_with fail
  go_ret
  first | exact ⟨rfl, rfl⟩ | trace_state

set_option maxRecDepth 100000 in
set_option maxHeartbeats 4000000 in
theorem steps_seq (b : Nat) (v : Value) (ps : List (Int × Int)) (S : Nat → Prop) (w : World) (hb : Blk w b [v] 35) (hSb : S b) (hS : ∀ k, S k → k < w.heap.size) (hv : ∀ W, Kept S w W → SlC W v 2 (ptE ps)) :
    SeqI Try.prog 22 #[.pointer (some ⟨b, 0, none⟩)] (stepA ps) S w := by
  intro l J Jx W hW hJ hJx hY h0
  obtain ⟨a, c, rfl, hn, hcm⟩ := (hv w (Kept.refl _ _)).form
  have hlen : (ptE ps).length = ps.length := by unfold ptE; simp
  rw [hlen] at hn hb hv
  unfold maxLen at hcm
  obtain ⟨n, Hn⟩ : ∃ n, Hid (n = ps.length) := ⟨_, Lib.hid rfl⟩
  rw [← Hn.out] at hn hb hv
  have HV := Lib.hid hv
  have HY := Lib.hid hY
  have HJ := Lib.hid hJ
  have HJx := Lib.hid hJx
  have H0 := Lib.hid h0
  have HW := Lib.hid hW
  have HS := Lib.hid hS
  have HBb := Lib.hid hb
  clear hv hY hJ hJx h0 hW hS hb hlen
  refine callsIn_of_wp Try.func22 rfl trivial ?_ rfl
  simp only [Try.ntmps22, List.size_toArray, List.length_cons, List.length_nil, Nat.reduceAdd, Nat.reduceSub, Array.replicate_succ, Array.replicate_zero, List.push_toArray, List.append_toArray, List.nil_append, List.cons_append]
  gi_wp2_with fail
  gi_loopw [3] (fun s3 wr => ∃ i : Nat, s3 = .int .i64 (i : Int) ∧ 1 ≤ i ∧ (i ≤ n ∨ i = 1) ∧ Hid (J (i - 1) (fun _ => False) wr) ∧ Hid (Kept S W wr)) (fun s3 _ => n - (intOf s3).toNat)
  case atStart => exact ⟨1, rfl, by omega, .inr rfl, H0, Lib.hid (Kept.refl _ _)⟩
  case round =>
    obtain ⟨i, rfl, hi1, hi2, Hj, HkW⟩ := hrel
    have HK : Hid (Kept S w wr) := Lib.hid (HW.out.trans HkW.out)
    have x1 : wr.cell? ⟨b, 0, none⟩ = some (.slice a n c) := (HBb.out.of_same (HK.out.same b hSb)).cell rfl
    by_cases hlt : i < n
    · have t0 : (i : Int) < (n : Int) := by omega
      obtain ⟨i1, Hi1⟩ : ∃ m, Hid (m = i - 1) := ⟨_, Lib.hid rfl⟩
      have hi1e : i1 + 1 = i := by have := Hi1.out; omega
      have hi1n : i1 < n := by omega
      have ti1 : (i : Int) - 1 = (i1 : Int) := by omega
      have ti2 : IntKind.i64.wrap (i1 : Int) = (i1 : Int) := by rw [IntKind.wrap_i64]; omega
      obtain ⟨px, hpx⟩ : ∃ p, ps[i1]? = some p := ⟨_, List.getElem?_eq_getElem (by have := Hn.out; omega)⟩
      obtain ⟨py, hpy⟩ : ∃ p, ps[i]? = some p := ⟨_, List.getElem?_eq_getElem (by have := Hn.out; omega)⟩
      obtain ⟨g, off, rfl⟩ : ∃ g off, a = some ⟨g, off, none⟩ := by
        obtain ⟨g, off, e, _⟩ := (HV.out wr HK.out).elem (ptE_at hpx)
        exact ⟨g, off, e⟩
      have HRd : Hid (∀ X, Kept S W X → (fun X => X.cell? ⟨b, 0, none⟩ = some (.slice (some ⟨g, off, none⟩) n c) ∧ World.rangeAt X g (off + i1 * 2) [.int .i64 px.1, .int .i64 px.2] ∧ World.rangeAt X g (off + i * 2) [.int .i64 py.1, .int .i64 py.2]) X) := Lib.hid (fun X hX => by
        have hK := HW.out.trans hX
        obtain ⟨_, _, e, _, h1, _⟩ := (HV.out X hK).elem (ptE_at hpx)
        obtain ⟨_, _, e2, _, h2, _⟩ := (HV.out X hK).elem (ptE_at hpy)
        cases e; cases e2
        exact ⟨(HBb.out.of_same (hK.same b hSb)).cell rfl, h1, h2⟩)
      have HAt : Hid ((stepA ps)[i - 1]? = some #[pV px.1 px.2, pV py.1 py.2]) := Lib.hid (by rw [← Hi1.out]; exact stepA_at hpx (by rw [hi1e]; exact hpy))
      have hkl : i - 1 < (stepA ps).length := (List.getElem?_eq_some_iff.1 HAt.out).1
      have HkD : Hid (Kept S W wr.drew) := Lib.hid (HkW.out.trans ((Kept.of_below ((Below.refl wr.heap.size wr).drew)).mono (fun j hj => by have := HS.out j hj; have := HK.out.size; omega)))
      have HjD : Hid (J (i - 1) (fun _ => False) wr.drew) := Lib.hid (HJ.out _ _ _ _ _ Hj.out (Ext.of_below' ((Below.refl wr.heap.size wr).drew) HkW.out.size) (fun _ h => h.elim))
      have HYk := Lib.hid (HY.out (i - 1) #[pV px.1 px.2, pV py.1 py.2] (fun _ => False) wr.drew HAt.out HkD.out (fun _ h => h.elim) HjD.out)
      have hS3 := HRd.out wr.drew HkD.out
      have HkW := HkD
      clear hpx hpy
      gi_upto_region 3 with (fail)
      refine heldY_round (S := fun X => X.cell? ⟨b, 0, none⟩ = some (.slice (some ⟨g, off, none⟩) n c) ∧ World.rangeAt X g (off + i1 * 2) [.int .i64 px.1, .int .i64 px.2] ∧ World.rangeAt X g (off + i * 2) [.int .i64 py.1, .int .i64 py.2]) (by kernel_rfl) (by kernel_rfl) hS3 (fun hHeld => ?_)
      refine takeY 0 (v := ?_) rfl (by kernel_rfl) (by kernel_rfl) (by kernel_rfl) (fun _ _ _ h => h) (by rfl) (by assumption) ?hy0 ?_
      case hy0 => (intro w hSw; (try dsimp only at hSw); obtain ⟨z0, z1, z2⟩ := hSw; have nn := ti1; have nn2 := ti2; go_simp; all_goals (with_reducible rfl))
      (try simp only [Act.put, tdA, tdB, tdC])
      refine takeY 1 (v := ?_) rfl (by kernel_rfl) (by kernel_rfl) (by kernel_rfl) (fun _ _ _ h => h) (by rfl) (by assumption) ?hy1 ?_
      case hy1 => (intro w hSw; (try dsimp only at hSw); obtain ⟨z0, z1, z2⟩ := hSw; have nn := ti1; have nn2 := ti2; go_simp; all_goals (with_reducible rfl))
      (try simp only [Act.put, tdA, tdB, tdC])
      refine takeY 2 (v := ?_) rfl (by kernel_rfl) (by kernel_rfl) (by kernel_rfl) (fun _ _ _ h => h) (by rfl) (by assumption) ?hy2 ?_
      case hy2 => (intro w hSw; (try dsimp only at hSw); obtain ⟨z0, z1, z2⟩ := hSw; have nn := ti1; have nn2 := ti2; go_simp; all_goals (with_reducible rfl))
      (try simp only [Act.put, tdA, tdB, tdC])
      refine takeY 3 (v := ?_) rfl (by kernel_rfl) (by kernel_rfl) (by kernel_rfl) (fun _ _ _ h => h) (by rfl) (by assumption) ?hy3 ?_
      case hy3 => (intro w hSw; (try dsimp only at hSw); obtain ⟨z0, z1, z2⟩ := hSw; have nn := ti1; have nn2 := ti2; go_simp; all_goals (with_reducible rfl))
      (try simp only [Act.put, tdA, tdB, tdC])
      refine takeY 4 (v := .pointer (some ⟨g, off + i1 * 2, none⟩)) rfl (by kernel_rfl) (by kernel_rfl) (by kernel_rfl) (fun _ _ _ h => h) (by rfl) (by assumption) ?hy4 ?_
      case hy4 => (intro w hSw; exact x_index (i := i1) (E := 23) (sz := 2) rfl (by rfl) (by rfl) (by omega) Try.underlying35 size_clonePt)
      (try simp only [Act.put, tdA, tdB, tdC])
      refine takeY 5 (v := pV px.1 px.2) rfl (by kernel_rfl) (by kernel_rfl) (by kernel_rfl) (fun _ _ _ h => h) (by rfl) (by assumption) ?hy5 ?_
      case hy5 => (intro w hSw; exact x_row (cs := [.int .i64 px.1, .int .i64 px.2]) rfl (by rfl) hSw.2.1 Try.underlying23 rfl size_clonePt)
      (try simp only [Act.put, tdA, tdB, tdC])
      refine takeY 6 (v := ?_) rfl (by kernel_rfl) (by kernel_rfl) (by kernel_rfl) (fun _ _ _ h => h) (by rfl) (by assumption) ?hy6 ?_
      case hy6 => (intro w hSw; (try dsimp only at hSw); obtain ⟨z0, z1, z2⟩ := hSw; have nn := ti1; have nn2 := ti2; go_simp; all_goals (with_reducible rfl))
      (try simp only [Act.put, tdA, tdB, tdC])
      refine takeY 7 (v := ?_) rfl (by kernel_rfl) (by kernel_rfl) (by kernel_rfl) (fun _ _ _ h => h) (by rfl) (by assumption) ?hy7 ?_
      case hy7 => (intro w hSw; (try dsimp only at hSw); obtain ⟨z0, z1, z2⟩ := hSw; have nn := ti1; have nn2 := ti2; go_simp; all_goals (with_reducible rfl))
      (try simp only [Act.put, tdA, tdB, tdC])
      refine takeY 8 (v := .pointer (some ⟨g, off + i * 2, none⟩)) rfl (by kernel_rfl) (by kernel_rfl) (by kernel_rfl) (fun _ _ _ h => h) (by rfl) (by assumption) ?hy8 ?_
      case hy8 => (intro w hSw; exact x_index (i := i) (E := 23) (sz := 2) rfl (by rfl) (by rfl) (by omega) Try.underlying35 size_clonePt)
      (try simp only [Act.put, tdA, tdB, tdC])
      refine takeY 9 (v := pV py.1 py.2) rfl (by kernel_rfl) (by kernel_rfl) (by kernel_rfl) (fun _ _ _ h => h) (by rfl) (by assumption) ?hy9 ?_
      case hy9 => (intro w hSw; exact x_row (cs := [.int .i64 py.1, .int .i64 py.2]) rfl (by rfl) hSw.2.2 Try.underlying23 rfl size_clonePt)
      (try simp only [Act.put, tdA, tdB, tdC])
      refine yieldY 10 (by kernel_rfl) rfl rfl (by rfl) (by rfl) (by rfl) HYk.out ?_
      intro e w2 hR2
      rcases hR2 with ⟨rfl, hj2, hk2⟩ | ⟨rfl, hj2, hk2⟩
      · have hSn := HRd.out w2 (HkW.out.trans (hk2.kept.mono (fun j hj => .inl hj)))
        have Hj2 := Lib.hid hj2
        have Hk2 : Hid (Kept S W w2) := Lib.hid (HkW.out.trans (hk2.kept.mono (fun j hj => .inl hj)))
        clear hj2 hk2
        refine ⟨.bool true, rfl, hSn, ?_⟩
        clear hHeld
        have hHeld := hSn
        (try simp only [Act.put, tdA, tdB, tdC])
        refine takeY 11 (v := ?_) rfl (by kernel_rfl) (by kernel_rfl) (by kernel_rfl) (fun _ _ _ h => h) (by rfl) (by assumption) ?hy11 ?_
        case hy11 => (intro w hSw; (try dsimp only at hSw); obtain ⟨z0, z1, z2⟩ := hSw; have nn := ti1; have nn2 := ti2; go_simp; all_goals (with_reducible rfl))
        (try simp only [Act.put, tdA, tdB, tdC])
        refine wpAnyY_done (by kernel_rfl) ?_ _
        clear hHeld hSn
        gi_wp2_with fail
        go_roundw
        case rel => exact ⟨i + 1, by first | rfl | simp, by omega, by omega, Lib.hid (by rw [Nat.add_sub_cancel]; have := Hj2.out; rwa [show i - 1 + 1 = i by omega] at this), Hk2⟩
        case measure => simp [intOf]; omega

      · have hSn := HRd.out w2 (HkW.out.trans (hk2.kept.mono (fun j hj => .inl hj)))
        have Hj2 := Lib.hid hj2
        have Hk2 : Hid (Kept S W w2) := Lib.hid (HkW.out.trans (hk2.kept.mono (fun j hj => .inl hj)))
        clear hj2 hk2
        refine ⟨.bool false, rfl, hSn, ?_⟩
        clear hHeld
        have hHeld := hSn
        (try simp only [Act.put, tdA, tdB, tdC])
        refine takeY 11 (v := ?_) rfl (by kernel_rfl) (by kernel_rfl) (by kernel_rfl) (fun _ _ _ h => h) (by rfl) (by assumption) ?hy11 ?_
        case hy11 => (intro w hSw; (try dsimp only at hSw); obtain ⟨z0, z1, z2⟩ := hSw; have nn := ti1; have nn2 := ti2; go_simp; all_goals (with_reducible rfl))
        (try simp only [Act.put, tdA, tdB, tdC])
        refine wpAnyY_done (by kernel_rfl) ?_ _
        clear hHeld hSn
        gi_wp2_with fail
        refine bodyPost_ret (results_none rfl _ _ _) rfl ?_
        exact ⟨⟨_, rfl⟩, Hk2.out, .inr ⟨i - 1 + 1, by omega, by omega, Hj2.out⟩⟩

    · have t0 : ¬ (i : Int) < (n : Int) := by omega
      have HE : Hid (i - 1 = (stepA ps).length) := Lib.hid (by rw [stepA_len, ← Hn.out]; omega)
      gi_wp2_with fail
      refine bodyPost_end (results_none rfl _ _ _) rfl ?_
      exact ⟨⟨_, rfl⟩, HkW.out, .inl ⟨fun _ => False, fun _ h => h.elim, by rw [← HE.out]; exact Hj.out⟩⟩
end Go.Proofs.Ythbplhglfjlngaa
