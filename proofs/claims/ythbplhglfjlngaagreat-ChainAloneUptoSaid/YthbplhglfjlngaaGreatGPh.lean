/- Taking an operation of a drawn region that is written out. No condition of its own. -/
import Derived.Deep.RegionHeld
import Derived.Test.YthbplhglfjlngaaGreatGPa
import Derived.BigQuiet
import Derived.Test.YthbplhglfjlngaaGreatGPg
import Derived.Great.FillDense
import Derived.Test.YthbplhglfjlngaaGreatGPb
import Derived.Laws.Cover3
import Derived.Deep.Cut
set_option linter.unusedVariables false
set_option linter.unusedSimpArgs false
set_option maxRecDepth 100000
namespace Go.Rg
open Go
def nthO : List Oper → Nat → Option Oper
 | [], _ => none
 | x :: _, 0 => some x
 | _ :: l, n + 1 => nthO l n
theorem nthO_eq : ∀ (l : List Oper) (n : Nat), nthO l n = l.toArray[n]?
 | [], n => by simp [nthO]
 | x :: l, 0 => by simp [nthO]
 | x :: l, n + 1 => by rw [nthO, nthO_eq l n]; simp
theorem takeL {P : Program} {l : List Oper} {Q : Exit → Act → World → Prop} {md : Region.Mode} {S : World → Prop} (i : Nat) {oi : Oper} {v : Value} {fuel : Nat} {listed : Array Bool} {a : Act} {w : World} (hi : nthO l i = some oi)
  (hs : Region.noSelect l.toArray = true) (hf : Region.free md l.toArray listed i = true) (hr : (Region.ready md l.toArray listed).contains i = true)
  (hQ : ∀ c a w, Q (.panic c) (a.put oi.dst v) w → Q (.panic c) a w) (hw : Region.wanted oi (yielded l.toArray a.tmps) = true) (hS : S w) (hy : ∀ w, S w → (execOp a.eval oi).run P w = .ok (.value v) w)
  (h : wpAnyH P md l.toArray Q S fuel (listed.setIfInBounds i true) (a.put oi.dst v) w) : wpAnyH P md l.toArray Q S (fuel + 1) listed a w :=
 wpAnyH_take (nthO_eq l i ▸ hi) hs hf hr hQ (Or.inl ⟨hw, hy⟩) hS h
theorem consL {P : Program} {l : List Oper} {Q : Exit → Act → World → Prop} {md : Region.Mode} {S : World → Prop} {fuel : Nat} {listed : Array Bool} {a : Act} {w : World} (i : Nat) {o : Oper} (hn : Region.ready md l.toArray listed = [i]) (ho : nthO l i = some o)
  (hw : Region.wanted o (yielded l.toArray a.tmps) = true)
  (h : ∀ K' : Act → World → Prop, Shut (∀ a w, S w → (S w → wpAnyH P md l.toArray Q S fuel (listed.setIfInBounds i true) a w) → K' a w) → Oper.wp P o a w K' Q) : wpAnyH P md l.toArray Q S (fuel + 1) listed a w :=
 wpAnyH_ready hn (by simp) (AllReadyH.cons (nthO_eq l i ▸ ho) (fun K hK => by rw [if_pos hw]; exact h K hK) AllReadyH.nil)
end Go.Rg
namespace Go.Rg
open Go Go.RowKit
theorem takeG {P : Program} {l : List Oper} {Q : Exit → Act → World → Prop} {md : Region.Mode} {S : World → Prop} {late : Nat → Bool} (i : Nat) {oi : Oper} {v : Value} {fuel : Nat} {listed : Array Bool} {a : Act} {w : World} (D : List Nat) (hi : nthO l i = some oi)
  (hs : Region.noSelect l.toArray = true) (hf : Region.free md l.toArray listed i = true) (hr : (Region.ready md l.toArray listed).contains i = true)
  (hD : waitsD md l.toArray late D i listed = true) (hDs : D.all (fun j => decide (j < l.toArray.size)) = true)
  (hQ : ∀ c a w, Q (.panic c) (a.put oi.dst v) w → Q (.panic c) a w) (hw : Region.wanted oi (yielded l.toArray a.tmps) = true) (hS : S w) (hy : ∀ w, S w → (execOp a.eval oi).run P w = .ok (.value v) w)
  (h : wpAnyG P md l.toArray Q S late fuel (listed.setIfInBounds i true) (a.put oi.dst v) w) : wpAnyG P md l.toArray Q S late (fuel + 1) listed a w :=
 wpAnyG_takeD D (nthO_eq l i ▸ hi) hs hf hr hD hDs hQ (Or.inl ⟨hw, hy⟩) hS h
theorem consG {P : Program} {l : List Oper} {Q : Exit → Act → World → Prop} {md : Region.Mode} {S : World → Prop} {late : Nat → Bool} {fuel : Nat} {listed : Array Bool} {a : Act} {w : World} (i : Nat) {o : Oper} (hn : Region.ready md l.toArray listed = [i]) (ho : nthO l i = some o)
  (hw : Region.wanted o (yielded l.toArray a.tmps) = true)
  (h : ∀ K' : Act → World → Prop, Shut (∀ a w, (late i = false → S w) → ((late i = false → S w) → wpAnyG P md l.toArray Q S late fuel (listed.setIfInBounds i true) a w) → K' a w) → Oper.wp P o a w K' Q) : wpAnyG P md l.toArray Q S late (fuel + 1) listed a w :=
 wpAnyG_ready hn (by simp) (AllReadyG.cons (nthO_eq l i ▸ ho) (fun K hK => by rw [if_pos hw]; exact h K (fun a w hS hW => hK.out a w hS (hW hS))) AllReadyG.nil)
end Go.Rg
namespace Go.Rg
open Go Go.RowKit
end Go.Rg
namespace Go.Rg
open Go Go.RowKit
end Go.Rg
namespace Go.Rg
open Go Go.RowKit
def ReadsE (w : World) (B : Nat) (v : Value) (n : Nat) (xs : List Value) : Prop := Reads w B v n xs ∨ (n = 0 ∧ xs = [] ∧ ∃ (a : Addr) (c : Nat), v = .slice (some a) 0 c)
theorem ReadsE.mono {w : World} {B B' : Nat} {v : Value} {n : Nat} {xs : List Value} (h : ReadsE w B v n xs) (hB : B ≤ B') : ReadsE w B' v n xs := h.imp (·.mono hB) id
theorem ReadsE.below {w w' : World} {B : Nat} {v : Value} {n : Nat} {xs : List Value} (h : ReadsE w B v n xs) (hb : Below B w w') : ReadsE w' B v n xs := h.imp (·.below hb) id
theorem ReadsE.form {w : World} {B : Nat} {v : Value} {n : Nat} {xs : List Value} (h : ReadsE w B v n xs) : ∃ a c, v = .slice a n c := by
 rcases h with (⟨rfl, rfl, _⟩ | ⟨g, off, c, rfl, _⟩) | ⟨rfl, _, a, c, rfl⟩
 ·exact ⟨_, _, rfl⟩
 ·exact ⟨_, _, rfl⟩
 ·exact ⟨_, _, rfl⟩
theorem ReadsE.get {w : World} {B : Nat} {a : Option Addr} {n c : Nat} {xs : List Value} (h : ReadsE w B (.slice a n c) n xs) (hn : n ≠ 0) : ∃ g off, a = some ⟨g, off, none⟩ ∧ g < B ∧ n ≤ c ∧ c ≤ maxLen ∧ ∀ j x, xs[j]? = some x → w.cell? ⟨g, off + j, none⟩ = some x := by
 rcases h with (⟨_, h, _⟩ | ⟨g, off, c', e, h1, h2, h3, h4⟩) | ⟨h, _⟩
 ·exact absurd h hn
 ·injection e with e1 e2 e3
  subst e1 e3
  exact ⟨g, off, rfl, h1, h2, h3, h4⟩
 ·exact absurd h hn
section
variable {P : Program} (w : World)
theorem run_append2E (base : Nat) (t ty e : TypeId) (i : TypeInfo) (z : Value) (size bytes : Nat) (ht : P.underlying t = some (.slice e)) (hi : P.info? e = some i) (hz : i.zero = some z)
  (hsize : i.size = size) (hby : i.bytes = bytes) (hzs : z.cells.size = size) (hsz : 0 < size)
  (v : Value) (n : Nat) (xs : List Value) (hown : w.ownsRow base e size v n xs)
  (x : Value) (B m : Nat) (news : List Value) (hx : ReadsE w B x m news) (hl : news.length = m * size) (h1 : ∀ u ∈ news, u.oneCell' = true)
  (h63 : n + m ≤ maxLen) (hbytes : (n + m) * bytes ≤ 140737488355328) (hbase : base ≤ w.heap.size) :
  ∃ v' w', (Builtin.append_ #[t, t] ty #[v, x]).run P w = .ok v' w' ∧ w'.ownsRow base e size v' (n + m) (xs ++ news) ∧ w.grownBy w' v.ownBlock ∧ Moves w v v' := by
 rcases hx with hx | ⟨rfl, rfl, a, c, rfl⟩
 ·exact run_append2 w base t ty e i z size bytes ht hi hz hsize hby hzs hsz v n xs hown x B m news hx hl h1 h63 hbytes hbase
 ·have hnews : ∀ (j : Nat) (u : Value), ([] : List Value)[j]? = some u → w.cell? (a.add j) = some u := fun j u h => by simp at h
  obtain ⟨v', w', hr, h2, h3, h4⟩ := run_append_own (P := P) w base t ty e i z size bytes ht hi hz hsize hby hzs hsz v n xs hown a 0 c [] hl hnews h1 h63 hbytes hbase
  refine ⟨v', w', hr, h2, h3, ?_⟩
  subst hsize
  subst hby
  rcases hown.2 with ⟨rfl, rfl⟩ | ⟨g, cap, cur, rfl, hbg, hg, hnc, hcm, hcs, htake⟩
  ·have := h4.2 ⟨rfl, rfl⟩
   subst this
   exact .inl rfl
  ·have hfit : n * i.size + ([] : List Value).length ≤ cur.size := by rw [hcs]; simpa using Nat.mul_le_mul_right _ hnc
   have hr2 := run_append_room (P := P) w t ty e i ht hi g n cap cur hg a 0 c [] hl hnews h1 (by omega) hfit
   rw [hr2] at hr
   cases hr
   exact .inl rfl
end
theorem wpList_append2E {P : Program} (w : World) {ops : Array Oper} {rest : List Oper} {o : Oper} {a : Act} {Q : Exit → Act → World → Prop}
  (hg : o.guard = none) (s x : Operand) (t : TypeId) (hop : o.op = Op.call { callee := Callee.builtin Builtin.append, args := #[s, x], argTypes := #[t, t] })
  (base : Nat) (e : TypeId) (z : Value) (size bytes : Nat) (h1 : P.underlying t = some (.slice e)) (hinfo : (P.info? e).map (fun i => (i.zero, i.size, i.bytes)) = some (some z, size, bytes)) (h6 : z.cells.size = size) (h7 : 0 < size)
  (v : Value) (k : Nat) (xs : List Value) (hs : a.eval s = v) (hown : w.ownsRow base e size v k xs) (xv : Value) (B m : Nat) (news : List Value) (hx : a.eval x = xv) (hr : ReadsE w B xv m news) (hn : news.length = m * size)
  (h1c : ∀ u ∈ news, u.oneCell' = true) (b1 : k + m ≤ maxLen) (b2 : (k + m) * bytes ≤ 140737488355328) (b3 : base ≤ w.heap.size)
  (hK : ∀ v' w', w'.ownsRow base e size v' (k + m) (xs ++ news) → w.grownBy w' v.ownBlock → Moves w v v' → wpList P ops Q rest (a.put o.dst v') w') :
  wpList P ops Q (o :: rest) a w := by
 obtain ⟨i, hi, hz, hsz, hby⟩ := info_parts hinfo
 refine wpList_plain hg fun K hK' => ?_
 obtain ⟨v', w', hrun, r1, r2, r3⟩ := run_append2E (P := P) w base t o.type e i z size bytes h1 hi hz hsz hby h6 h7 v k xs hown xv B m news hr hn h1c b1 b2 b3
 unfold Oper.wp execOp
 simp only [hop, resolve, invoke, builtin, Sem.run_bind, Sem.run_pure, Result.andThen_ok, List.map_toArray, List.map_cons, List.map_nil, hs, hx, hrun]
 exact hK' _ _ (hK v' w' r1 r2 r3)
theorem wp_append2E {P : Program} (w : World) {o : Oper} {a : Act} {K : Act → World → Prop} {Q : Exit → Act → World → Prop}
  (s x : Operand) (t : TypeId) (hop : o.op = Op.call { callee := Callee.builtin Builtin.append, args := #[s, x], argTypes := #[t, t] })
  (base : Nat) (e : TypeId) (z : Value) (size bytes : Nat) (h1 : P.underlying t = some (.slice e)) (hinfo : (P.info? e).map (fun i => (i.zero, i.size, i.bytes)) = some (some z, size, bytes)) (h6 : z.cells.size = size) (h7 : 0 < size)
  (v : Value) (k : Nat) (xs : List Value) (hs : a.eval s = v) (hown : w.ownsRow base e size v k xs) (xv : Value) (B m : Nat) (news : List Value) (hx : a.eval x = xv) (hr : ReadsE w B xv m news) (hn : news.length = m * size)
  (h1c : ∀ u ∈ news, u.oneCell' = true) (b1 : k + m ≤ maxLen) (b2 : (k + m) * bytes ≤ 140737488355328) (b3 : base ≤ w.heap.size)
  (hK : ∀ v' w', w'.ownsRow base e size v' (k + m) (xs ++ news) → w.grownBy w' v.ownBlock → Moves w v v' → K (a.put o.dst v') w') : Oper.wp P o a w K Q := by
 obtain ⟨i, hi, hz, hsz, hby⟩ := info_parts hinfo
 obtain ⟨v', w', hrun, r1, r2, r3⟩ := run_append2E (P := P) w base t o.type e i z size bytes h1 hi hz hsz hby h6 h7 v k xs hown xv B m news hr hn h1c b1 b2 b3
 unfold Oper.wp execOp
 simp only [hop, resolve, invoke, builtin, Sem.run_bind, Sem.run_pure, Result.andThen_ok, List.map_toArray, List.map_cons, List.map_nil, hs, hx, hrun]
 exact hK _ _ r1 r2 r3
end Go.Rg
namespace Go.Rg
open Go Go.RowKit
section
variable {P : Program}
theorem run_buildNone (w : World) (t e : TypeId) (n : Nat) (hu : P.underlying t = some (.slice e)) (hs : (P.info? e).map (·.size) = some n) :
  (Instr.buildSlice t 0 #[]).run P w = .ok (.slice (some ⟨w.heap.size, 0, none⟩) 0 0) (w.alloc (.cells #[] e)) := by
 cases hq : P.info? e with
 | none => simp [hq] at hs
 | some ie => simp [Instr.buildSlice, run_underlying hu, sizeOf, typeInfo, hq, Instr.fill, newRow, show (Array.range 0) = #[] from rfl]
theorem own_none (w : World) (base e size : Nat) (hb : base ≤ w.heap.size) : (w.alloc (.cells #[] e)).ownsRow base e size (.slice (some ⟨w.heap.size, 0, none⟩) 0 0) 0 [] :=
 ⟨by simp, .inr ⟨w.heap.size, 0, #[], rfl, hb, Array.getElem?_push_size, Nat.le_refl _, Nat.zero_le _, by simp, by simp⟩⟩
end
theorem SlC.readsE {w : World} {a : Option Addr} {n c sz : Nat} {es : List (List Value)} (h : SlC w (.slice a n c) sz es) (ha : ∀ g, a = some g → True) (hnn : a ≠ none) : ReadsE w w.heap.size (.slice a n c) es.length es.flatten := by
 by_cases he : es = []
 ·subst he
  obtain ⟨a', c', e, _⟩ := h
  injection e with e1 e2 e3
  subst e1 e2
  cases a with
  | none => exact absurd rfl hnn
  | some x => exact .inr ⟨rfl, rfl, x, c, rfl⟩
 ·exact .inl (h.reads he)
end Go.Rg
namespace Go.Rg
open Go Go.RowKit
section
variable {P : Program}
theorem run_buildOne (w : World) (t e : TypeId) (x z : Value) (cs : List Value) (hu : P.underlying t = some (.slice e)) (hs : (P.info? e).map (fun i => (i.zero, i.size)) = some (some z, cs.length)) (hx : x.cells = cs.toArray)
  (hpos : 0 < cs.length) (hsm : cs.length ≤ 2 ^ 24) :
  (Instr.buildSlice t 1 #[(0, x)]).run P w = .ok (.slice (some ⟨w.heap.size, 0, none⟩) 1 1) (w.alloc (.cells cs.toArray e)) := by
 cases hq : P.info? e with
 | none => simp [hq] at hs
 | some ie =>
  simp only [hq, Option.map_some, Option.some.injEq, Prod.mk.injEq] at hs
  have hfw := Go.Great.fill_whole hpos [x] ((Array.range (1 * ie.size)).map (z.cells[· % z.cells.size]!)) (by intro v hv; simp at hv; subst hv; rw [hx]; simp) (by simp [hs.2])
  exact run_buildSlice w t e 1 #[(0, x)] cs.toArray ie z hu hq hs.1 (by rw [hs.2]; omega) (by rw [hs.2]; omega) (by
   rw [hs.2] at hfw ⊢
   simpa [hx] using hfw)
end
theorem own_one (w : World) (base e : Nat) (cs : List Value) (hb : base ≤ w.heap.size) : (w.alloc (.cells cs.toArray e)).ownsRow base e cs.length (.slice (some ⟨w.heap.size, 0, none⟩) 1 1) 1 cs :=
 ⟨by omega, .inr ⟨w.heap.size, 1, cs.toArray, rfl, hb, Array.getElem?_push_size, Nat.le_refl _, by unfold maxLen; omega, by simp, by simp⟩⟩
theorem reads_one (w : World) (e : TypeId) (cs : List Value) : ReadsE (w.alloc (.cells cs.toArray e)) (w.alloc (.cells cs.toArray e)).heap.size (.slice (some ⟨w.heap.size, 0, none⟩) 1 1) 1 cs :=
 .inl (Reads.of_own (own_one w w.heap.size e cs (Nat.le_refl _)))
end Go.Rg
namespace Go.Rg
open Go Go.RowKit
section
variable {P : Program} (w : World)
theorem run_append_zero (base : Nat) (t ty e : TypeId) (i : TypeInfo) (size : Nat) (ht : P.underlying t = some (.slice e)) (hi : P.info? e = some i)
  (v : Value) (n : Nat) (xs : List Value) (hown : w.ownsRow base e size v n xs) (c : Nat) :
  (Builtin.append_ #[t, t] ty #[v, .slice none 0 c]).run P w = .ok v w := by
 rcases hown.2 with ⟨rfl, rfl⟩ | ⟨g, cap, cur, rfl, hbg, hg, hnc, hcm, hcs, htake⟩
 ·simp [Builtin.append_, run_underlying ht, sizeOf, typeInfo, hi, Builtin.lenOf, Builtin.firstCells]
 ·simp [Builtin.append_, run_underlying ht, sizeOf, typeInfo, hi, Builtin.lenOf, Builtin.firstCells, hnc, storeCells]
end
end Go.Rg
namespace Go.Rg
open Go Go.RowKit
section
variable {P : Program}
theorem wpList_appendS (w : World) {ops : Array Oper} {rest : List Oper} {o : Oper} {a : Act} {Q : Exit → Act → World → Prop}
  (hg : o.guard = none) (s x : Operand) (t : TypeId) (hop : o.op = Op.call { callee := Callee.builtin Builtin.append, args := #[s, x], argTypes := #[t, t] })
  (base : Nat) (e : TypeId) (z : Value) (size bytes : Nat) (h1 : P.underlying t = some (.slice e)) (hinfo : (P.info? e).map (fun i => (i.zero, i.size, i.bytes)) = some (some z, size, bytes)) (h6 : z.cells.size = size) (h7 : 0 < size)
  (v : Value) (k : Nat) (xs : List Value) (hs : a.eval s = v) (hown : w.ownsRow base e size v k xs) (xv : Value) (es : List (List Value)) (hx : a.eval x = xv) (hr : SlC w xv size es)
  (h1c : ∀ u ∈ es.flatten, u.oneCell' = true) (b1 : k + es.length ≤ maxLen) (b2 : (k + es.length) * bytes ≤ 140737488355328) (b3 : base ≤ w.heap.size)
  (hK : ∀ v' w', w'.ownsRow base e size v' (k + es.length) (xs ++ es.flatten) → w.grownBy w' v.ownBlock → wpList P ops Q rest (a.put o.dst v') w') :
  wpList P ops Q (o :: rest) a w := by
 obtain ⟨ad, c, e', hn, hc⟩ := hr.form
 subst e'
 cases ad with
 | some q => exact wpList_append2E w hg s x t hop base e z size bytes h1 hinfo h6 h7 v k xs hs hown _ w.heap.size es.length es.flatten hx (hr.readsE (fun _ _ => trivial) (by simp)) (flat_len es size hr.choose_spec.choose_spec.2.2.2.1) h1c b1 b2 b3 (fun v' w' r1 r2 _ => hK v' w' r1 r2)
 | none =>
  have hes : es = [] := by
   by_cases he : es = []
   ·exact he
   ·obtain ⟨a', c', e', _, _, _, ho⟩ := hr
    obtain ⟨g, off, e1, _⟩ := ho he
    injection e' with e2
    rw [← e2] at e1; cases e1
  subst hes
  obtain ⟨i, hi, hz, hsz, hby⟩ := info_parts hinfo
  refine wpList_plain hg fun K hK' => ?_
  have hrun := run_append_zero (P := P) w base t o.type e i size h1 hi v k xs hown c
  unfold Oper.wp execOp
  simp only [hop, resolve, invoke, builtin, Sem.run_bind, Sem.run_pure, Result.andThen_ok, List.map_toArray, List.map_cons, List.map_nil, hs, hx, List.length_nil, hrun]
  exact hK' _ _ (hK v w (by simpa using hown) ⟨rfl, rfl, rfl, Nat.le_refl _, fun _ _ _ => rfl⟩)
end
end Go.Rg
namespace Go.Rg
open Go Go.RowKit
section
variable {P : Program}
theorem wp_buildOne (w : World) {o : Oper} {a : Act} {K : Act → World → Prop} {Q : Exit → Act → World → Prop} (t e : TypeId) (x : Operand) (xv z : Value) (cs : List Value) (ho : o.op = .buildSlice t 1 #[(0, x)]) (hu : P.underlying t = some (.slice e))
  (hs : (P.info? e).map (fun i => (i.zero, i.size)) = some (some z, cs.length)) (hv : a.eval x = xv) (hx : xv.cells = cs.toArray) (hpos : 0 < cs.length) (hsm : cs.length ≤ 2 ^ 24)
  (hK : K (a.put o.dst (.slice (some ⟨w.heap.size, 0, none⟩) 1 1)) (w.alloc (.cells cs.toArray e))) : Oper.wp P o a w K Q := by
 have hr := run_buildOne (P := P) w t e xv z cs hu hs hx hpos hsm
 unfold Oper.wp execOp
 simp only [ho, Sem.run_bind]
 simp only [List.map_toArray, List.map_cons, List.map_nil, hv, hr, Result.andThen_ok]
 exact hK
theorem info_small {P : Program} {e : TypeId} {z : Value} {size bytes : Nat} (h : (P.info? e).map (fun i => (i.zero, i.size, i.bytes)) = some (some z, size, bytes)) : (P.info? e).map (fun i => (i.zero, i.size)) = some (some z, size) := by
 cases hq : P.info? e with
 | none => simp [hq] at h
 | some i => simp [hq] at h; simp [h]
end
end Go.Rg
namespace Go.Rg
open Go Go.RowKit
section
variable {P : Program}
theorem pl_appendS (w : World) {l rest : List Oper} {o : Oper} {a : Act} {Q : Exit → Act → World → Prop}
  (hg : o.guard = none) (s x : Operand) (t : TypeId) (hop : o.op = Op.call { callee := Callee.builtin Builtin.append, args := #[s, x], argTypes := #[t, t] })
  (base : Nat) (e : TypeId) (z : Value) (size bytes : Nat) (h1 : P.underlying t = some (.slice e)) (hinfo : (P.info? e).map (fun i => (i.zero, i.size, i.bytes)) = some (some z, size, bytes)) (h6 : z.cells.size = size) (h7 : 0 < size)
  (v : Value) (k : Nat) (xs : List Value) (hs : a.eval s = v) (hown : w.ownsRow base e size v k xs) (xv : Value) (es : List (List Value)) (hx : a.eval x = xv) (hr : SlC w xv size es)
  (h1c : ∀ u ∈ es.flatten, u.oneCell' = true) (b1 : k + es.length ≤ maxLen) (b2 : (k + es.length) * bytes ≤ 140737488355328) (b3 : base ≤ w.heap.size)
  (hK : ∀ v' w', w'.ownsRow base e size v' (k + es.length) (xs ++ es.flatten) → w.grownBy w' v.ownBlock → plW P l Q rest (a.put o.dst v') w') :
  plW P l Q (o :: rest) a w := by
 unfold plW at *
 exact wpList_appendS w hg s x t hop base e z size bytes h1 hinfo h6 h7 v k xs hs hown xv es hx hr h1c b1 b2 b3 hK
end
end Go.Rg
namespace Go.Rg
open Go Go.RowKit
theorem SlC.tail {w : World} {a : Option Addr} {n c sz : Nat} {e : List Value} {es : List (List Value)} (h : SlC w (.slice a n c) sz (e :: es)) :
  SlC w (.slice (if c = 1 then a else a.map (·.add (1 * sz))) (n - 1) (c - 1)) sz es := by
 have hl : n = (e :: es).length := by
  obtain ⟨a', c', e', _⟩ := h
  injection e' with _ h2
 have := h.sub 1 n (by rw [hl]; simp) (by rw [hl]; exact Nat.le_refl _)
 rw [hl, List.take_length] at this
 simpa [hl] using this
theorem SlC.head {w : World} {a : Option Addr} {n c sz : Nat} {e : List Value} {es : List (List Value)} (h : SlC w (.slice a n c) sz (e :: es)) :
  ∃ g off, a = some ⟨g, off, none⟩ ∧ g < w.heap.size ∧ w.rangeAt g off e ∧ e.length = sz := by
 obtain ⟨g, off, h1, h2, h3, h4⟩ := h.elem (i := 0) rfl
 exact ⟨g, off, h1, h2, by simpa using h3, h4⟩
end Go.Rg
namespace Go.Rg
open Go Go.RowKit
theorem wp_appendS {P : Program} (w : World) {o : Oper} {a : Act} {K : Act → World → Prop} {Q : Exit → Act → World → Prop}
  (s x : Operand) (t : TypeId) (hop : o.op = Op.call { callee := Callee.builtin Builtin.append, args := #[s, x], argTypes := #[t, t] })
  (base : Nat) (e : TypeId) (z : Value) (size bytes : Nat) (h1 : P.underlying t = some (.slice e)) (hinfo : (P.info? e).map (fun i => (i.zero, i.size, i.bytes)) = some (some z, size, bytes)) (h6 : z.cells.size = size) (h7 : 0 < size)
  (v : Value) (k : Nat) (xs : List Value) (hs : a.eval s = v) (hown : w.ownsRow base e size v k xs) (xv : Value) (es : List (List Value)) (hx : a.eval x = xv) (hr : SlC w xv size es)
  (h1c : ∀ u ∈ es.flatten, u.oneCell' = true) (b1 : k + es.length ≤ maxLen) (b2 : (k + es.length) * bytes ≤ 140737488355328) (b3 : base ≤ w.heap.size)
  (hK : ∀ v' w', w'.ownsRow base e size v' (k + es.length) (xs ++ es.flatten) → w.grownBy w' v.ownBlock → K (a.put o.dst v') w') : Oper.wp P o a w K Q := by
 obtain ⟨ad, c, e', hn, hc⟩ := hr.form
 subst e'
 cases ad with
 | some q => exact wp_append2E w s x t hop base e z size bytes h1 hinfo h6 h7 v k xs hs hown _ w.heap.size es.length es.flatten hx (hr.readsE (fun _ _ => trivial) (by simp)) (flat_len es size hr.choose_spec.choose_spec.2.2.2.1) h1c b1 b2 b3 (fun v' w' r1 r2 _ => hK v' w' r1 r2)
 | none =>
  have hes : es = [] := by
   by_cases he : es = []
   ·exact he
   ·obtain ⟨a', c', e', _, _, _, ho⟩ := hr
    obtain ⟨g, off, e1, _⟩ := ho he
    injection e' with e2
    rw [← e2] at e1; cases e1
  subst hes
  obtain ⟨i, hi, hz, hsz, hby⟩ := info_parts hinfo
  have hrun := run_append_zero (P := P) w base t o.type e i size h1 hi v k xs hown c
  unfold Oper.wp execOp
  simp only [hop, resolve, invoke, builtin, Sem.run_bind, Sem.run_pure, Result.andThen_ok, List.map_toArray, List.map_cons, List.map_nil, hs, hx, List.length_nil, hrun]
  exact hK v w (by simpa using hown) ⟨rfl, rfl, rfl, Nat.le_refl _, fun _ _ _ => rfl⟩
theorem take_drop_map {α β : Type} (f : α → β) (l : List α) (i k n : Nat) (hn : l.length = n) (hi : i ≤ n) : (((l.map f).take (min (i + k) n)).drop i) = ((l.drop i).take k).map f := by
 rw [← List.map_take, ← List.map_drop, List.drop_take]
 congr 1
 apply List.ext_getElem?
 intro j
 rw [List.getElem?_take, List.getElem?_take, List.getElem?_drop]
 by_cases h1 : j < k
 ·by_cases h2 : i + j < n
  ·rw [if_pos (by omega), if_pos h1]
  ·rw [if_neg (by omega), if_pos h1, List.getElem?_eq_none (by omega)]
 ·rw [if_neg (by omega), if_neg h1]
theorem take_drop_map2 {α β : Type} (f : α → β) (l : List α) (i k n : Nat) (hn : l.length = n) (hi : i ≤ n) : (((l.map f).take (min (i + 2 * k) n)).drop (min (i + k) n)) = (((l.drop i).drop k).take k).map f := by
 rw [List.drop_drop]
 by_cases h : i + k ≤ n
 ·rw [Nat.min_eq_left h]
  have := take_drop_map f l (i + k) k n hn h
  rw [show i + k + k = i + 2 * k by omega] at this
  exact this
 ·rw [List.drop_of_length_le (by rw [List.length_take, List.length_map]; omega), List.drop_of_length_le (show l.length ≤ i + k by omega)]
  simp
end Go.Rg
namespace Go.Rg
open Go Go.RowKit
end Go.Rg
namespace Go.Proofs.YthbplhglfjlngaaGreat
open Go.RowKit Go.Rg Go.Wd
attribute [local go_sem] Oper.semAt_some
theorem run_eql_slice_nil {P : Program} {w : World} (t e : TypeId) (a : Option Addr) (l c : Nat) (h : P.underlying t = some (.slice e)) : (binOp .eql t (.slice a l c) (.slice none 0 0)).run P w = .ok (.bool a.isNone) w := by
 simp only [binOp]
 simp [run_equal_slice_nil w t e a l c h]
theorem eql_clonePt (w : World) (a : Option Addr) (l c : Nat) : (binOp .eql 26 (.slice a l c) (.slice none 0 0)).run Tryz.prog w = .ok (.bool a.isNone) w := run_eql_slice_nil _ _ _ _ _ Tryz.underlying26
theorem size_clonePt : (Tryz.prog.info? 23).map (·.size) = some 2 := by kernel_rfl
theorem info_clonePt : (Tryz.prog.info? 23).map (fun i => (i.zero, i.size, i.bytes)) = some (some (.agg #[.int .i64 0, .int .i64 0]), 2, 16) := by kernel_rfl
theorem build_clonePt (w : World) : (Instr.buildSlice 26 0 #[]).run Tryz.prog w = .ok (.slice (some ⟨w.heap.size, 0, none⟩) 0 0) (w.alloc (.cells #[] 23)) := run_buildNone w _ _ 2 Tryz.underlying26 size_clonePt
attribute [local go_sem] eql_clonePt build_clonePt
theorem clonePt_any (v : Value) (es : List (List Value)) (w : World) (hv : SlC w v 2 es) (h1c : ∀ u ∈ es.flatten, u.oneCell' = true) (hb : es.length * 16 ≤ 140737488355328) :
  Calls Tryz.prog 67 #[v] w fun e w' => ∃ v', e = .returned v' ∧ SlC w' v' 2 es ∧ Below w.heap.size w w' := by
 obtain ⟨a, c, e, hn, hcm⟩ := hv.form
 subst e
 cases a with
 | none =>
  have hes : es = [] := by
   by_cases he : es = []
   ·exact he
   ·obtain ⟨a', c', e', _, _, _, ho⟩ := hv
    obtain ⟨g, off, e1, _⟩ := ho he
    injection e' with e2
    rw [← e2] at e1; cases e1
  subst hes
  go_enter Tryz.func67, Tryz.ntmps67
  go_wp2_with fail
  go_ret
  exact ⟨_, rfl, SlC.nil w 2, Below.refl _ _⟩
 | some ad =>
  have HR := hH (hv.readsE (fun _ _ => trivial) (by simp))
  have H3 : Hid (∀ e ∈ es, e.length = 2) := hH hv.choose_spec.choose_spec.2.2.2.1
  have hfl : es.flatten.length = es.length * 2 := flat_len es 2 H3.out
  obtain ⟨n, Hn⟩ : ∃ n, Hid (n = es.length) := ⟨_, hH rfl⟩
  rw [← Hn.out] at hn hb hfl HR ⊢
  have H1 := hH h1c
  obtain ⟨fl, Hf⟩ : ∃ n, Hid (n = es.flatten) := ⟨_, hH rfl⟩
  rw [← Hf.out] at HR hfl H1
  clear h1c hv
  go_enter Tryz.func67, Tryz.ntmps67
  have hbl := Below.alloc (Below.refl w.heap.size w) (Nat.le_refl _) (.cells #[] 23)
  go_wp2_with (at_builtin; refine wpList_append2E _ rfl _ _ 26 rfl w.heap.size 23 (.agg #[.int .i64 0, .int .i64 0]) 2 16 Tryz.underlying26 info_clonePt rfl (by decide) (.slice (some ⟨w.heap.size, 0, none⟩) 0 0) 0 _ rfl (own_none w _ _ _ (Nat.le_refl _)) _ w.heap.size n fl rfl (HR.out.below hbl) hfl H1.out (by unfold maxLen at *; omega) (by omega) hbl.size ?_; intro v' w' r1 r2 r3; clear r3)
  go_ret
  refine ⟨v', rfl, SlC.of_own (base := w.heap.size) (t := 23) ?_ H3.out, hbl.grown r2 hbl.size ?_⟩
  ·rw [← Hn.out, ← Hf.out]; simpa using r1
  ·intro k hk; cases hk; exact Nat.le_refl _
end Go.Proofs.YthbplhglfjlngaaGreat
namespace Go.Rg
open Go Go.RowKit
section
variable {P : Program} {Q : Exit → Act → World → Prop} {n : Nat} {r0 : Option Nat} {ops : Array Oper}
theorem wpIn_of_wp' {o : Oper} (hp : plainOp o = true) {a : Act} {w : World} {K K' : Act → World → Prop} (hK : ∀ a w, K a w → K' a w) (h : o.wp P a w K Q) : o.wpIn (WF r0) n P a w K' Q := by
 have h1 := wpIn_of_wp (n := n) (Oper.wp_mono hK h)
 cases r0 with
 | none => exact h1
 | some l => exact wpIn_round l hp h1
theorem wpListIn_of (hL : ¬ LetsOut Q) : ∀ (l : List Oper) (a : Act) (w : World), l.all plainOp = true → wpList P ops Q l a w → wpListIn (WF r0) n P ops Q l a w
 | [], _, _, _, h => h
 | o :: r, a, w, hp, h => by
  rw [List.all_cons, Bool.and_eq_true] at hp
  unfold wpList at h
  unfold wpListIn
  split
  ·rename_i hw
   simp only [hw, if_true] at h
   exact wpIn_of_wp' hp.1 (fun a w h => wpListIn_of hL r a w hp.2 h) (h.resolve_right (fun h => hL h.2))
  ·rename_i hw
   simp only [hw] at h
   exact ⟨fun f _ => trivial, wpListIn_of hL r _ _ hp.2 h⟩
theorem pl_startIn {id : Nat} {l : List Oper} {a : Act} {w : World} (hL : ¬ LetsOut Q) (hp : l.all plainOp = true) (h : plW P l Q l a w) : (Code.region id l.toArray false).wpIn (WF r0) n P Q a w := by
 unfold plW at h
 exact wpIn_region_lit (wpListIn_of hL l a w hp h)
end
end Go.Rg
namespace Go.Rg
open Go Go.RowKit
section
variable {P : Program} {Q : Exit → Act → World → Prop} {l rest : List Oper} {a : Act} {w : World} {o : Oper}
theorem calm_plainIn {id n : Nat} {r0 : Option Nat} (hL : ¬ LetsOut Q) (hp : l.all plainOp = true) (hq : seqB l.toArray l.length 0 (Array.replicate l.length false) = true) (h : Every P l Q a w) : (Code.region id l.toArray false).wpIn (WF r0) n P Q a w := by
 have h1 := h w (.inl rfl)
 have e : l.toArray.size = l.length := by simp
 rw [e] at h1
 have h2 := wpOps_of_any _ _ _ _ _ hq h1
 rw [wpOps_eq_wpList l 0 (by simp)] at h2
 exact wpIn_region_lit (wpListIn_of hL l a w hp h2)
theorem pl_op (hg : o.guard = none) (h : ∀ K' : Act → World → Prop, (∀ a w, plW P l Q rest a w → K' a w) → Oper.wp P o a w K' Q) : plW P l Q (o :: rest) a w := by
 unfold plW at *
 exact wpList_plain hg fun K' hK => h K' hK
end
end Go.Rg
namespace Go.Rg
open Go Go.RowKit
section
variable {P : Program} {Q : Exit → Act → World → Prop} {l rest : List Oper} {a : Act} {w w' : World} {o : Oper} {v : Value}
end
end Go.Rg
namespace Go.Rg
open Go Go.RowKit
section
variable {P : Program} {Q : Exit → Act → World → Prop} {l rest : List Oper} {a : Act} {w : World} {o : Oper}
end
end Go.Rg
