/- slices.Clone of pairs, of ints. -/
import Derived.Test.YtegkdkilbnighaaGSp3
import Derived.Test.YtegkdkilbnighaaRfC
import Derived.Lib.SliceRun
import Derived.Test.YtegkdkilbnighaaHeld
import Derived.BigQuiet
import Derived.Test.YtegkdkilbnighaaGSp7

set_option linter.unusedVariables false
set_option linter.unusedSimpArgs false
namespace Go.Rg
open Go Go.RowKit
theorem run_append0 {P : Program} (w : World) (base : Nat) (t ty e : TypeId) (i : TypeInfo) (size : Nat) (ht : P.underlying t = some (.slice e)) (hi : P.info? e = some i) (hsize : i.size = size)
    (v : Value) (n : Nat) (xs : List Value) (hown : w.ownsRow base e size v n xs) (a : Addr) (c : Nat) :
    (Builtin.append_ #[t, t] ty #[v, .slice (some a) 0 c]).run P w = .ok v w := by
  rcases hown.2 with ⟨rfl, rfl⟩ | ⟨g, cap, cur, rfl, hbg, hg, hnc, hcm, hcs, htake⟩
  · simp [Builtin.append_, run_underlying ht, sizeOf, typeInfo, hi, Builtin.lenOf, Builtin.firstCells, loadCells, loadCellsFrom]
  · simp [Builtin.append_, run_underlying ht, sizeOf, typeInfo, hi, Builtin.lenOf, Builtin.firstCells, hnc, storeCells, loadCells, loadCellsFrom]
theorem wpList_append0 {P : Program} (w : World) {ops : Array Oper} {rest : List Oper} {o : Oper} {a : Act} {Q : Exit → Act → World → Prop}
    (hg : o.guard = none) (s x : Operand) (t : TypeId) (hop : o.op = Op.call { callee := Callee.builtin Builtin.append, args := #[s, x], argTypes := #[t, t] })
    (base : Nat) (e : TypeId) (z : Value) (size bytes : Nat) (h1 : P.underlying t = some (.slice e)) (hinfo : (P.info? e).map (fun i => (i.zero, i.size, i.bytes)) = some (some z, size, bytes))
    (v : Value) (k : Nat) (xs : List Value) (hs : a.eval s = v) (hown : w.ownsRow base e size v k xs) (ad : Addr) (c : Nat) (hx : a.eval x = .slice (some ad) 0 c)
    (hK : wpList P ops Q rest (a.put o.dst v) w) : wpList P ops Q (o :: rest) a w := by
  obtain ⟨i, hi, hz, hsz, hby⟩ := info_parts hinfo
  refine wpList_plain hg fun K hK' => ?_
  have hrun := run_append0 (P := P) w base t o.type e i size h1 hi hsz v k xs hown ad c
  unfold Oper.wp execOp
  simp only [hop, resolve, invoke, builtin, Sem.run_bind, Sem.run_pure, Result.andThen_ok, List.map_toArray, List.map_cons, List.map_nil, hs, hx, hrun]
  exact hK' _ _ hK
end Go.Rg
namespace Go.Proofs.Ytegkdkilbnighaa
open Go.RowKit Go.Rg
attribute [local go_sem] Oper.semAt_some
theorem flatP_lenC (l : List Wk.Pr) : (flatP l).length = l.length * 2 := by
  induction l with
  | nil => rfl
  | cons p l ih => simp only [flatP, List.flatMap_cons, List.length_append, prC, List.length_cons, List.length_nil] at ih ⊢; omega
theorem flatP_oneC (l : List Wk.Pr) : ∀ u ∈ flatP l, u.oneCell' = true := by
  intro u hu
  obtain ⟨p, _, hp⟩ := List.mem_flatMap.1 hu
  simp only [prC, List.mem_cons, List.not_mem_nil, or_false] at hp
  rcases hp with rfl | rfl <;> rfl
theorem intsZ_lenC (l : List Int) : (intsZ l).length = l.length := by unfold intsZ; rw [List.length_map]
theorem intsZ_oneC (l : List Int) : ∀ u ∈ intsZ l, u.oneCell' = true := by
  intro u hu
  obtain ⟨p, _, rfl⟩ := List.mem_map.1 hu
  rfl
theorem info_pairC : (Try.prog.info? 47).map (fun i => (i.zero, i.size, i.bytes)) = some (some (.agg #[.string ⟨#[]⟩, .string ⟨#[]⟩]), 2, 32) := by kernel_rfl

set_option maxRecDepth 100000 in
set_option maxHeartbeats 4000000 in
theorem cloneP_any (v : Value) (n : Nat) (xs : List Value) (w : World) (h : RdC w v n xs) (hl : xs.length = n * 2) (h1 : ∀ u ∈ xs, u.oneCell' = true) (hn : n ≤ 1000000000) :
    Calls Try.prog 37 #[v] w fun e w' => ∃ v', e = .returned v' ∧ RdT 47 w' v' n xs ∧ Below w.heap.size w w' := by
  obtain ⟨a, c, rfl, hm, ho⟩ := h
  unfold maxLen at hm
  have qn : ∀ (w : World) (a : Option Addr) (n c n' c' : Nat), (binOp .eql 48 (.slice a n c) (.slice none n' c')).run Try.prog w = .ok (.bool a.isNone) w := fun w a n c n' c' => Lib.run_eql_slice_nil w _ _ a n c n' c' Try.underlying48
  go_enter Try.func37, Try.ntmps37
  cases a with
  | none =>
    have hx : xs = [] := Classical.byContradiction fun hx => by obtain ⟨g, off, e, _⟩ := ho hx; cases e
    subst hx
    have hn0 : n = 0 := by simp at hl; omega
    subst hn0
    go_wp2_with fail
    go_ret
    exact ⟨_, rfl, RdT.nil _ _, Below.refl _ _⟩
  | some a =>
    have O1 := Lib.hid (own_empty (W := w) 47 2 w.heap.size (Nat.le_refl _))
    have hbw2 : Below w.heap.size w (w.alloc (.cells #[] 47)) := (Below.refl _ w).alloc (Nat.le_refl _) _
    have hz2 : w.heap.size ≤ (w.alloc (.cells #[] 47)).heap.size := by simp
    by_cases hx : xs = []
    · subst hx
      have hn0 : n = 0 := by simp at hl; omega
      subst hn0
      have Hb := Lib.hid hbw2
      clear ho hl h1 hbw2 hz2
      go_wp2_with (at_builtin; refine wpList_append0 _ rfl _ _ 48 rfl w.heap.size 47 (.agg #[.string ⟨#[]⟩, .string ⟨#[]⟩]) 2 32 Try.underlying48 info_pairC (.slice (some ⟨w.heap.size, 0, none⟩) 0 0) 0 _ rfl O1.out _ _ rfl ?_)
      go_wp2_with fail
      go_ret
      exact ⟨_, rfl, RdT.of_own O1.out, Hb.out⟩
    · obtain ⟨g, off, e, q1, q2, q3, q4⟩ := ho hx
      cases e
      have hR0 : Reads w w.heap.size (.slice (some ⟨g, off, none⟩) n c) n xs := .inr ⟨g, off, c, rfl, q3, q1, q2, q4⟩
      have HR : Hid (Reads (w.alloc (.cells #[] 47)) w.heap.size (.slice (some ⟨g, off, none⟩) n c) n xs) := hR0.below hbw2
      have Hl := Lib.hid hl
      have H1 := Lib.hid h1
      have Hb := Lib.hid hbw2
      clear ho hl h1 hbw2 hR0 q4 hx
      go_wp2_with (at_builtin; refine wpList_append2 _ rfl _ _ 48 rfl w.heap.size 47 (.agg #[.string ⟨#[]⟩, .string ⟨#[]⟩]) 2 32 Try.underlying48 info_pairC rfl (by decide) (.slice (some ⟨w.heap.size, 0, none⟩) 0 0) 0 _ rfl O1.out _ _ n xs rfl HR.out Hl.out H1.out (by unfold maxLen; omega) (by omega) hz2 ?_)
      intro v1 w2 own1 grow1 mov1
      have own2 : w2.ownsRow w.heap.size 47 2 v1 n xs := by simpa using own1
      have hb3 : Below w.heap.size w w2 := Hb.out.grown grow1 Hb.out.size (fun k e => by have e' : some w.heap.size = some k := e; injection e' with e''; omega)
      have Own2 := Lib.hid own2
      have Hb3 := Lib.hid hb3
      clear own1 own2 grow1 mov1 hb3 O1
      go_wp2_with fail
      go_ret
      exact ⟨_, rfl, RdT.of_own Own2.out, Hb3.out⟩

set_option maxRecDepth 100000 in
set_option maxHeartbeats 4000000 in
theorem cloneI_any (v : Value) (n : Nat) (xs : List Value) (w : World) (h : RdC w v n xs) (hl : xs.length = n * 1) (h1 : ∀ u ∈ xs, u.oneCell' = true) (hn : n ≤ 1000000000) :
    Calls Try.prog 36 #[v] w fun e w' => ∃ v', e = .returned v' ∧ RdT 3 w' v' n xs ∧ Below w.heap.size w w' := by
  obtain ⟨a, c, rfl, hm, ho⟩ := h
  unfold maxLen at hm
  have qn : ∀ (w : World) (a : Option Addr) (n c n' c' : Nat), (binOp .eql 38 (.slice a n c) (.slice none n' c')).run Try.prog w = .ok (.bool a.isNone) w := fun w a n c n' c' => Lib.run_eql_slice_nil w _ _ a n c n' c' Try.underlying38
  go_enter Try.func36, Try.ntmps36
  cases a with
  | none =>
    have hx : xs = [] := Classical.byContradiction fun hx => by obtain ⟨g, off, e, _⟩ := ho hx; cases e
    subst hx
    have hn0 : n = 0 := by simp at hl; omega
    subst hn0
    go_wp2_with fail
    go_ret
    exact ⟨_, rfl, RdT.nil _ _, Below.refl _ _⟩
  | some a =>
    have O1 := Lib.hid (own_empty (W := w) 3 1 w.heap.size (Nat.le_refl _))
    have hbw2 : Below w.heap.size w (w.alloc (.cells #[] 3)) := (Below.refl _ w).alloc (Nat.le_refl _) _
    have hz2 : w.heap.size ≤ (w.alloc (.cells #[] 3)).heap.size := by simp
    by_cases hx : xs = []
    · subst hx
      have hn0 : n = 0 := by simp at hl; omega
      subst hn0
      have Hb := Lib.hid hbw2
      clear ho hl h1 hbw2 hz2
      go_wp2_with (at_builtin; refine wpList_append0 _ rfl _ _ 38 rfl w.heap.size 3 (.int .i64 0) 1 8 Try.underlying38 info_int (.slice (some ⟨w.heap.size, 0, none⟩) 0 0) 0 _ rfl O1.out _ _ rfl ?_)
      go_wp2_with fail
      go_ret
      exact ⟨_, rfl, RdT.of_own O1.out, Hb.out⟩
    · obtain ⟨g, off, e, q1, q2, q3, q4⟩ := ho hx
      cases e
      have hR0 : Reads w w.heap.size (.slice (some ⟨g, off, none⟩) n c) n xs := .inr ⟨g, off, c, rfl, q3, q1, q2, q4⟩
      have HR : Hid (Reads (w.alloc (.cells #[] 3)) w.heap.size (.slice (some ⟨g, off, none⟩) n c) n xs) := hR0.below hbw2
      have Hl := Lib.hid hl
      have H1 := Lib.hid h1
      have Hb := Lib.hid hbw2
      clear ho hl h1 hbw2 hR0 q4 hx
      go_wp2_with (at_builtin; refine wpList_append2 _ rfl _ _ 38 rfl w.heap.size 3 (.int .i64 0) 1 8 Try.underlying38 info_int rfl (by decide) (.slice (some ⟨w.heap.size, 0, none⟩) 0 0) 0 _ rfl O1.out _ _ n xs rfl HR.out Hl.out H1.out (by unfold maxLen; omega) (by omega) hz2 ?_)
      intro v1 w2 own1 grow1 mov1
      have own2 : w2.ownsRow w.heap.size 3 1 v1 n xs := by simpa using own1
      have hb3 : Below w.heap.size w w2 := Hb.out.grown grow1 Hb.out.size (fun k e => by have e' : some w.heap.size = some k := e; injection e' with e''; omega)
      have Own2 := Lib.hid own2
      have Hb3 := Lib.hid hb3
      clear own1 own2 grow1 mov1 hb3 O1
      go_wp2_with fail
      go_ret
      exact ⟨_, rfl, RdT.of_own Own2.out, Hb3.out⟩
end Go.Proofs.Ytegkdkilbnighaa

set_option linter.unusedVariables false
set_option linter.unusedSimpArgs false
namespace Go.Rg
open Go Go.RowKit
theorem heldG_plain2 {P : Program} {id : Nat} {Q : Exit → Act → World → Prop} {a : Act} {w : World} {l : List Oper} (S : World → Prop) (late : Nat → Bool) (hm : P.follows .mixedOrders = true)
    (h : wpAnyG P .any l.toArray Q S late l.toArray.size (Array.replicate l.toArray.size false) a w.drew) : (Code.region id l.toArray true).wp P Q a w :=
  wp_region_any hm (wpAny_of_G _ _ _ _ h)
end Go.Rg
namespace Go.Proofs.Ytegkdkilbnighaa
open Go.RowKit Go.Rg
attribute [local go_sem] Oper.semAt_some

/-- lists of pairs in memory that no store of another type touches -/
def LsT (w : World) (vs : List Value) (ls : List (List Wk.Pr)) : Prop := vs.length = ls.length ∧ ∀ (i : Nat) (l : List Wk.Pr), ls[i]? = some l → ∃ v, vs[i]? = some v ∧ RdT 47 w v l.length (flatP l)
theorem LsT.keep {w w' : World} {vs : List Value} {ls : List (List Wk.Pr)} (h : LsT w vs ls) (hk : KeepT 47 w w') : LsT w' vs ls := ⟨h.1, fun i l hl => by
  obtain ⟨v, h1, h2⟩ := h.2 i l hl; exact ⟨v, h1, h2.keep hk⟩⟩
theorem LsT.toC {w : World} {vs : List Value} {ls : List (List Wk.Pr)} (h : LsT w vs ls) : LsC w vs ls := fun i l hl => by
  obtain ⟨v, h1, h2⟩ := h.2 i l hl; exact ⟨v, h1, .of h2⟩
theorem LsT.nil (w : World) : LsT w [] [] := ⟨rfl, fun i l hl => by simp at hl⟩
theorem snoc_at {A : Type} {l : List A} {a x : A} {i : Nat} (h : (l ++ [a])[i]? = some x) : l[i]? = some x ∨ (i = l.length ∧ x = a) := by
  rcases Nat.lt_or_ge i l.length with h1 | h1
  · rw [List.getElem?_append_left h1] at h; exact .inl h
  · rw [List.getElem?_append_right h1] at h
    have hi : i - l.length = 0 := Nat.eq_zero_of_not_pos fun hp => by
      rw [List.getElem?_eq_none (by simp; omega)] at h; cases h
    rw [hi] at h
    simp only [List.getElem?_cons_zero, Option.some.injEq] at h
    exact .inr ⟨by omega, h.symm⟩
theorem LsT.snoc {w : World} {vs : List Value} {ls : List (List Wk.Pr)} {v : Value} {l : List Wk.Pr} (h : LsT w vs ls) (hv : RdT 47 w v l.length (flatP l)) : LsT w (vs ++ [v]) (ls ++ [l]) :=
  ⟨by rw [List.length_append, List.length_append, h.1]; rfl, fun i x hx => by
    rcases snoc_at hx with h1 | ⟨h1, rfl⟩
    · obtain ⟨u, q1, q2⟩ := h.2 i x h1
      exact ⟨u, by rw [List.getElem?_append_left (List.getElem?_eq_some_iff.1 q1).1]; exact q1, q2⟩
    · exact ⟨v, by rw [h1, ← h.1, List.getElem?_append_right (Nat.le_refl _), Nat.sub_self]; rfl, hv⟩⟩
def BdT (w : World) (lv zv : Value) (g : GA) : Prop := ∃ vs, RdT 48 w lv g.lists.length vs ∧ LsT w vs g.lists ∧ RdT 3 w zv g.sizes.length (intsZ g.sizes)
theorem BdT.keep {w w' : World} {lv zv : Value} {g : GA} (h : BdT w lv zv g) (h1 : KeepT 48 w w') (h2 : KeepT 47 w w') (h3 : KeepT 3 w w') : BdT w' lv zv g := by
  obtain ⟨vs, a, b, c⟩ := h; exact ⟨vs, a.keep h1, b.keep h2, c.keep h3⟩
theorem BdT.toC {w : World} {lv zv : Value} {g : GA} (h : BdT w lv zv g) : BdA w lv zv g := by
  obtain ⟨vs, a, b, c⟩ := h; exact ⟨vs, b.1, .of a, b.toC, .of c⟩
def GsT (w : World) (cs : List Value) (l : List GA) : Prop := cs.length = l.length * 4 ∧ ∀ (i : Nat) (g : GA), l[i]? = some g → ∃ lv zv, cs[i * 4]? = some (.int .i64 g.kind) ∧ cs[i * 4 + 1]? = some (.int .i64 g.level) ∧ cs[i * 4 + 2]? = some lv ∧ cs[i * 4 + 3]? = some zv ∧ BdT w lv zv g
theorem GsT.keep {w w' : World} {cs : List Value} {l : List GA} (h : GsT w cs l) (h1 : KeepT 48 w w') (h2 : KeepT 47 w w') (h3 : KeepT 3 w w') : GsT w' cs l := ⟨h.1, fun i g hg => by
  obtain ⟨lv, zv, q1, q2, q3, q4, q5⟩ := h.2 i g hg; exact ⟨lv, zv, q1, q2, q3, q4, q5.keep h1 h2 h3⟩⟩
theorem GsT.toC {w : World} {cs : List Value} {l : List GA} (h : GsT w cs l) : GsC w cs l := fun i g hg => by
  obtain ⟨lv, zv, q1, q2, q3, q4, q5⟩ := h.2 i g hg; exact ⟨lv, zv, q1, q2, q3, q4, q5.toC⟩
theorem GsT.snoc {w : World} {cs : List Value} {l : List GA} {g : GA} {lv zv : Value} (h : GsT w cs l) (hg : BdT w lv zv g) : GsT w (cs ++ [.int .i64 g.kind, .int .i64 g.level, lv, zv]) (l ++ [g]) := by
  refine ⟨by rw [List.length_append, List.length_append, h.1]; simp; omega, fun i x hx => ?_⟩
  rcases snoc_at hx with h1 | ⟨h1, rfl⟩
  · obtain ⟨u, z, q1, q2, q3, q4, q5⟩ := h.2 i x h1
    have hlt : i < l.length := (List.getElem?_eq_some_iff.1 h1).1
    have hc := h.1
    refine ⟨u, z, ?_, ?_, ?_, ?_, q5⟩
    · rw [List.getElem?_append_left (by omega)]; exact q1
    · rw [List.getElem?_append_left (by omega)]; exact q2
    · rw [List.getElem?_append_left (by omega)]; exact q3
    · rw [List.getElem?_append_left (by omega)]; exact q4
  · subst h1
    have hc := h.1
    refine ⟨lv, zv, ?_, ?_, ?_, ?_, hg⟩
    · rw [List.getElem?_append_right (by omega), hc, Nat.sub_self]; rfl
    · rw [List.getElem?_append_right (by omega), hc, Nat.add_sub_cancel_left]; rfl
    · rw [List.getElem?_append_right (by omega), hc, Nat.add_sub_cancel_left]; rfl
    · rw [List.getElem?_append_right (by omega), hc, Nat.add_sub_cancel_left]; rfl

namespace Wk
/-- a geometry as it stands in a collection of all -/
def lone (g : GA) : GA := ⟨g.kind, 1, g.lists, g.sizes⟩
def colA (l : List GA) : List GA := ⟨7, 0, [], []⟩ :: (l.filter fun g => g.kind != 7).map lone
theorem colA_succ (l : List GA) (i : Nat) (g : GA) (h : l[i]? = some g) : colA (l.take (i + 1)) = if g.kind = 7 then colA (l.take i) else colA (l.take i) ++ [lone g] := by
  unfold colA
  rw [List.take_add_one, h]
  simp only [Option.toList_some, List.filter_append, List.map_append]
  by_cases h7 : g.kind = 7
  · rw [if_pos h7]
    have : (g.kind != 7) = false := by rw [h7]; rfl
    simp [List.filter_cons, this]
  · rw [if_neg h7]
    have : (g.kind != 7) = true := by simpa using h7
    simp [List.filter_cons, this]
theorem colA_len (l : List GA) (i : Nat) : (colA (l.take i)).length ≤ i + 1 := by
  unfold colA
  have h1 := List.length_filter_le (fun g : GA => g.kind != 7) (l.take i)
  have h2 := List.length_take_le i l
  simp only [List.length_cons, List.length_map]; omega
end Wk

/-- what Collect keeps in memory between its rounds -/
def colM (w X : World) (ov : Value) (os : List GA) : Prop := Below w.heap.size w X ∧ ∃ cs, X.ownsRow w.heap.size 40 4 ov os.length cs ∧ GsT X cs os
theorem colM.start (w : World) : colM w (w.alloc (.cells #[.int .i64 7, .int .i64 0, .slice none 0 0, .slice none 0 0] 40)) (.slice (some ⟨w.heap.size, 0, none⟩) 1 1) (Wk.colA []) := by
  refine ⟨(Below.refl _ w).alloc (Nat.le_refl _) _, [.int .i64 7, .int .i64 0, .slice none 0 0, .slice none 0 0], ⟨by simp [Wk.colA], .inr ⟨w.heap.size, 1, _, rfl, Nat.le_refl _, World.alloc_heap_new w _, by simp [Wk.colA], by decide, rfl, rfl⟩⟩, rfl, fun i g hg => ?_⟩
  cases i with
  | zero => cases hg; exact ⟨_, _, rfl, rfl, rfl, rfl, [], .nil _ _, LsT.nil _, .nil _ _⟩
  | succ i => simp [Wk.colA] at hg

theorem colM.append {w X Y : World} {ov ov' : Value} {os : List GA} {cs : List Value} {g : GA} {lv zv : Value} (h : Below w.heap.size w X) (ho : X.ownsRow w.heap.size 40 4 ov os.length cs) (hg : GsT X cs os) (hb : BdT X lv zv g)
    (ho' : Y.ownsRow w.heap.size 40 4 ov' (os.length + 1) (cs ++ [.int .i64 g.kind, .int .i64 g.level, lv, zv])) (hgr : X.grownBy Y ov.ownBlock) : colM w Y ov' (os ++ [g]) :=
  ⟨h.grown hgr h.size (fun k e => (ho.lt k e).1), _, by rw [List.length_append]; exact ho', (hg.snoc hb).keep (.grown ho (by decide) hgr) (.grown ho (by decide) hgr) (.grown ho (by decide) hgr)⟩

theorem cell4 {X : World} {b q i : Nat} {v : Value} (hne : q ≠ b) (v0 v1 v2 v3 : Value) (h : X.cell? ⟨q, i, none⟩ = some v) : ((((X.setCell ⟨b, 0, none⟩ v0).setCell ⟨b, 1, none⟩ v1).setCell ⟨b, 2, none⟩ v2).setCell ⟨b, 3, none⟩ v3).cell? ⟨q, i, none⟩ = some v := by
  have e : ∀ (Y : World) (j : Nat) (u : Value), (Y.setCell ⟨b, j, none⟩ u).cell? ⟨q, i, none⟩ = Y.cell? ⟨q, i, none⟩ := fun Y j u => World.cell?_of_block (Below.heap_setCell _ _ _ _ hne)
  rw [e, e, e, e]; exact h
theorem cells4 {w : World} {b : Nat} {a0 a1 a2 a3 : Value} {t : TypeId} (h : Blk w b [a0, a1, a2, a3] t) :
    w.cell? ⟨b, 0, none⟩ = some a0 ∧ w.cell? ⟨b, 1, none⟩ = some a1 ∧ w.cell? ⟨b, 2, none⟩ = some a2 ∧ w.cell? ⟨b, 3, none⟩ = some a3 :=
  ⟨h.cell rfl, h.cell rfl, h.cell rfl, h.cell rfl⟩
theorem frozen4 {w : World} {b : Nat} {cs : List Value} {t : TypeId} (h : Blk w b cs t) :
    w.frozen? ⟨b, 0, none⟩ = false ∧ w.frozen? ⟨b, 1, none⟩ = false ∧ w.frozen? ⟨b, 2, none⟩ = false ∧ w.frozen? ⟨b, 3, none⟩ = false :=
  ⟨h.frozen _, h.frozen _, h.frozen _, h.frozen _⟩

/-- the box of a new geometry, as it stands behind its making -/
theorem box_after {Wb w5 : World} {kk : Int} {zv : Value} {zn : Nat} {zs : List Value} (hb : Below Wb.heap.size Wb w5) (hr : RdT 3 w5 zv zn zs) :
    ∃ X b6, w5.alloc (.cells #[.int .i64 kk, .int .i64 1, .slice none 0 0, zv] 40) = X ∧ w5.heap.size = b6 ∧
      Blk X b6 [.int .i64 kk, .int .i64 1, .slice none 0 0, zv] 40 ∧ RdT 3 X zv zn zs ∧ Below Wb.heap.size Wb X ∧ Wb.heap.size ≤ b6 :=
  ⟨_, _, rfl, rfl, Blk.new w5 _ _, hr.keep (.alloc _), hb.alloc hb.size _, hb.size⟩
theorem box_ahead {Wb w5 : World} {kk : Int} {zv : Value} {zn : Nat} {zs : List Value} (hb : Below Wb.heap.size Wb w5) (hB : Blk w5 Wb.heap.size [.int .i64 0, .int .i64 0, .slice none 0 0, .slice none 0 0] 40) (hr : RdT 3 w5 zv zn zs) :
    ∃ X b6, (((w5.setCell ⟨Wb.heap.size, 0, none⟩ (.int .i64 kk)).setCell ⟨Wb.heap.size, 1, none⟩ (.int .i64 1)).setCell ⟨Wb.heap.size, 2, none⟩ (.slice none 0 0)).setCell ⟨Wb.heap.size, 3, none⟩ zv = X ∧ Wb.heap.size = b6 ∧
      Blk X b6 [.int .i64 kk, .int .i64 1, .slice none 0 0, zv] 40 ∧ RdT 3 X zv zn zs ∧ Below Wb.heap.size Wb X ∧ Wb.heap.size ≤ b6 := by
  have hl : Wb.heap.size ≤ Wb.heap.size := Nat.le_refl _
  refine ⟨_, _, rfl, rfl, ?_, ?_, ?_, hl⟩
  · exact (((hB.set 0 _).set 1 _).set 2 _).set 3 _
  · exact (((hr.keep (.set ⟨Wb.heap.size, 0, none⟩ hB (by decide) _)).keep (.set ⟨Wb.heap.size, 1, none⟩ (hB.set 0 _) (by decide) _)).keep (.set ⟨Wb.heap.size, 2, none⟩ ((hB.set 0 _).set 1 _) (by decide) _)).keep (.set ⟨Wb.heap.size, 3, none⟩ (((hB.set 0 _).set 1 _).set 2 _) (by decide) _)
  · exact (((hb.setCell (p := ⟨Wb.heap.size, 0, none⟩) hl _).setCell (p := ⟨Wb.heap.size, 1, none⟩) hl _).setCell (p := ⟨Wb.heap.size, 2, none⟩) hl _).setCell (p := ⟨Wb.heap.size, 3, none⟩) hl _
theorem LsC.at {w : World} {la : Option Addr} {n c : Nat} {vs : List Value} {ls : List (List Wk.Pr)} (h : RdC w (.slice la n c) n vs) (hv : LsC w vs ls) (j : Nat) (x : List Wk.Pr) (hx : ls[j]? = some x) :
    ∃ g o ka kc, la = some ⟨g, o, none⟩ ∧ n ≤ c ∧ c ≤ 9223372036854775807 ∧ g < w.heap.size ∧ w.cell? ⟨g, o + j, none⟩ = some (.slice ka x.length kc) ∧ RdC w (.slice ka x.length kc) x.length (flatP x) := by
  obtain ⟨u, h1, h2⟩ := hv j x hx
  obtain ⟨a', c', e, _, ho⟩ := h
  cases e
  obtain ⟨g, o, rfl, q1, q2, q3, q4⟩ := ho (fun e => by rw [e] at h1; cases h1)
  obtain ⟨ka, kc, rfl, _⟩ := h2.form
  exact ⟨g, o, ka, kc, rfl, q1, q2, q3, q4 _ _ h1, h2⟩

/-- what Collect keeps in memory between the rounds of its inner loop -/
def colJ (Wb X0 : World) (b6 zn : Nat) (kk : Int) (zv : Value) (zs : List Value) (ls : List (List Wk.Pr)) (X : World) : Prop :=
  Below Wb.heap.size Wb X ∧ X0.heap.size ≤ X.heap.size ∧ RdT 3 X zv zn zs ∧ ∃ lvv vs, Blk X b6 [.int .i64 kk, .int .i64 1, lvv, zv] 40 ∧ X.ownsRow X0.heap.size 48 1 lvv ls.length vs ∧ LsT X vs ls

theorem colJ.next {Wb X0 X Y : World} {b6 zn : Nat} {kk : Int} {zv lvv v7 v' : Value} {zs vs : List Value} {ls : List (List Wk.Pr)} {x : List Wk.Pr} (hb6 : Wb.heap.size ≤ b6) (hb6x : b6 < X0.heap.size) (hX0 : Wb.heap.size ≤ X0.heap.size)
    (h1 : Below Wb.heap.size Wb X) (h2 : X0.heap.size ≤ X.heap.size) (h3 : RdT 3 X zv zn zs) (hB : Blk X b6 [.int .i64 kk, .int .i64 1, lvv, zv] 40) (ho : X.ownsRow X0.heap.size 48 1 lvv ls.length vs) (hl : LsT X vs ls) (h7 : RdT 47 X v7 x.length (flatP x))
    (ho' : Y.ownsRow X0.heap.size 48 1 v' (ls.length + 1) (vs ++ [v7])) (hg : X.grownBy Y lvv.ownBlock) : colJ Wb X0 b6 zn kk zv zs (ls ++ [x]) (Y.setCell ⟨b6, 2, none⟩ v') := by
  have hrow : ∀ g, lvv.ownBlock = some g → X0.heap.size ≤ g := fun g e => (ho.lt g e).1
  have hBY := hB.grown hg (fun e => by have := hrow b6 e.symm; omega)
  refine ⟨(h1.grown hg h1.size (fun g e => by have := hrow g e; omega)).setCell (p := ⟨b6, 2, none⟩) hb6 v', Nat.le_trans h2 (by have := hg.size; simpa [World.setCell] using this), (h3.keep (.grown ho (by decide) hg)).keep (.set ⟨b6, 2, none⟩ hBY (by decide) v'), v', vs ++ [v7], hBY.set 2 v', ?_, ?_⟩
  · rw [List.length_append]; exact own_keep ho' (.set ⟨b6, 2, none⟩ hBY (by decide) v')
  · exact ((hl.snoc h7).keep (.grown ho (by decide) hg)).keep (.set ⟨b6, 2, none⟩ hBY (by decide) v')

set_option maxRecDepth 100000 in
set_option maxHeartbeats 8000000 in
theorem collect_any (l : List GA) (v : Value) (cs : List Value) (w : World) (h : RdC w v l.length cs) (hg : GsC w cs l) (hf : ∀ g ∈ l, Wk.FitA g) (hq : ∀ g ∈ l, ∀ x ∈ g.lists, x.length ≤ 1000000000) (hn : l.length ≤ 1000000) :
    Calls Try.prog 20 #[v] w fun e w' => ∃ a c ds, e = .returned (.slice a (Wk.colA l).length c) ∧ RdC w' (.slice a (Wk.colA l).length c) (Wk.colA l).length ds ∧ GsC w' ds (Wk.colA l) ∧ Below w.heap.size w w' := by
  obtain ⟨a, c, rfl, hm⟩ := h.form
  have Hr := Lib.hid h
  have Hg := Lib.hid hg
  have Hf := Lib.hid hf
  have Hq := Lib.hid hq
  obtain ⟨n, hnn⟩ : ∃ n, n = l.length := ⟨_, rfl⟩
  rw [← hnn] at Hr hm hn ⊢
  have Hn := Lib.hid hnn
  have HS := Lib.hid (colM.start w)
  unfold maxLen at hm
  clear h hg hf hq hnn
  go_enter Try.func20, Try.ntmps20
  go_wp2_with fail
  go_loopg [3, 13] n (fun q s3 s13 wx => ∃ (i : Nat), i + q = n ∧ s13 = .int .i64 (i : Int) ∧ Hid (colM w wx s3 (Wk.colA (l.take i))))
  case atStart => exact ⟨0, by omega, rfl, HS.out⟩
  case round =>
    obtain ⟨i, hiq, rfl, HI⟩ := hrel
    cases gk with
    | zero =>
      have hin : ¬ (i < n) := by omega
      have hie : i = l.length := by rw [← Hn.out]; omega
      rw [hie, List.take_length] at HI
      obtain ⟨hb, dd, hown, hgs⟩ := HI.out
      obtain ⟨oa, oc, rfl⟩ := own_form hown
      have HR : Hid (RdC wr (.slice oa (Wk.colA l).length oc) (Wk.colA l).length dd) := RdC.own hown
      have HG := Lib.hid hgs.toC
      have Hbb := Lib.hid hb
      clear hb hown hgs hie HI
      go_wp2_with fail
      try rw [Exit.noGoto_ret]
      go_ret
      exact ⟨_, _, _, rfl, HR.out, HG.out, Hbb.out⟩
    | succ q =>
      have hin : i < n := by omega
      obtain ⟨g, hgi⟩ : ∃ g, l[i]? = some g := ⟨_, List.getElem?_eq_getElem (by rw [← Hn.out]; exact hin)⟩
      obtain ⟨g1, o1, lv, zv, rfl, q1, q2, hB, q3, y0, y1, y2, y3⟩ := gs_at Hr.out Hg.out i g hgi
      have hfit := Hf.out g (List.mem_of_getElem? hgi)
      have hlq := Hq.out g (List.mem_of_getElem? hgi)
      have Hsucc := Lib.hid (Wk.colA_succ l i g hgi)
      have hlen := Wk.colA_len l i
      obtain ⟨acc, hacc⟩ : ∃ acc, acc = Wk.colA (l.take i) := ⟨_, rfl⟩
      rw [← hacc] at HI hlen
      have Hacc := Lib.hid hacc
      clear hacc
      obtain ⟨hb, dd, hown, hgs⟩ := HI.out
      obtain ⟨oa, oc, rfl⟩ := own_form hown
      obtain ⟨vs, hvl, hl, hvs, hzs⟩ := hB
      obtain ⟨la, lc, rfl, hlm⟩ := hl.form
      obtain ⟨za, zc, rfl, hzm⟩ := hzs.form
      obtain ⟨kk, lev, ls, ss⟩ := g
      simp only at hvl hl hvs hzs y0 y1 y2 y3 hlm hzm hfit hlq
      have x0 : wr.cell? ⟨g1, o1 + i * 4, none⟩ = _ := keepc hb q3 y0
      have x1 : wr.cell? ⟨g1, o1 + i * 4 + 1, none⟩ = _ := keepc hb q3 y1
      have x2 : wr.cell? ⟨g1, o1 + i * 4 + 2, none⟩ = _ := keepc hb q3 y2
      have x3 : wr.cell? ⟨g1, o1 + i * 4 + 3, none⟩ = _ := keepc hb q3 y3
      have hszr := hb.size
      obtain ⟨ln, hln⟩ : ∃ m, m = ls.length := ⟨_, rfl⟩
      obtain ⟨zn, hzn⟩ : ∃ m, m = ss.length := ⟨_, rfl⟩
      rw [← hln] at x2
      rw [← hzn] at x3
      obtain ⟨Wb, hWb⟩ : ∃ Wb, wr.alloc (.cells #[.int .i64 kk, .int .i64 lev, .slice la ln lc, .slice za zn zc] 40) = Wb := ⟨_, rfl⟩
      have B0 : Blk Wb wr.heap.size [.int .i64 kk, .int .i64 lev, .slice la ln lc, .slice za zn zc] 40 := hWb ▸ Blk.new wr _ _
      have hBw : Below wr.heap.size wr Wb := hWb ▸ (Below.refl _ wr).alloc (Nat.le_refl _) _
      have hbw := Lib.hid (hb.trans (hBw.mono hszr))
      have HB0 := Lib.hid B0
      have b0 := B0.cell (j := 0) rfl
      have b2 := B0.cell (j := 2) rfl
      have b3 := B0.cell (j := 3) rfl
      by_cases h7 : kk = 7
      · subst h7
        have HC7 : Hid (colM w Wb (.slice oa acc.length oc) (Wk.colA (l.take (i + 1)))) := by
          unfold Hid; rw [Hsucc.out, if_pos rfl, ← Hacc.out]
          exact ⟨hbw.out, dd, own_keep hown (.call hBw), hgs.keep (.call hBw) (.call hBw) (.call hBw)⟩
        clear B0 hBw hown hgs hzs hl hvs hvl y0 y1 y2 y3 hgi hb HI hfit hlq Hsucc hln hzn
        go_wp2_with fail
        go_roundg q
        case measure => omega
        case rel => exact ⟨i + 1, by omega, by first | rfl | simp, HC7⟩
      have e7 : (kk == 7) = false := by rw [beq_eq_false_iff_ne]; omega
      have H7 := Lib.hid h7
      have HownB := Lib.hid (own_keep hown (.call hBw))
      have HgsB := Lib.hid (hgs.keep (.call hBw) (.call hBw) (.call hBw))
      have Hz := Lib.hid ((hzs.call hb).call hBw)
      have Hl := Lib.hid ((hl.call hb).call hBw)
      have Hvs := Lib.hid ((hvs.call hb).call hBw)
      have hzl : ss.length ≤ 1000000000 := hfit.2.1
      have Hzl := Lib.hid hzl
      have Hlq := Lib.hid hlq
      have hln9 : ln ≤ 1000000000 := by rw [hln]; exact hfit.1
      have Hln := Lib.hid hln
      have Hzn := Lib.hid hzn
      have Hvl := Lib.hid hvl
      have hszb : wr.heap.size < Wb.heap.size := B0.lt
      have hne : wr.heap.size ≠ Wb.heap.size := by omega
      have HC : Hid (∀ X, Below Wb.heap.size Wb X → Calls Try.prog 36 #[.slice za zn zc] X fun e w' => ∃ a' c', e = .returned (.slice a' zn c') ∧ RdT 3 w' (.slice a' zn c') zn (intsZ ss) ∧ Below X.heap.size X w' ∧ Below Wb.heap.size Wb w') := fun X hX => (hzn ▸ cloneI_any _ _ _ X (Hz.out.call hX) (by rw [intsZ_lenC, Nat.mul_one]) (intsZ_oneC ss) hzl : Calls _ _ _ _ _).mono fun e w' ⟨v', he, hr, hb⟩ => by
        obtain ⟨a', c', rfl⟩ := pair_form (R := 0) hr
        exact ⟨a', c', he, hr, hb, hX.trans (hb.mono hX.size)⟩
      clear h7 B0 hBw hown hgs hzs hl hvs hzl hlq hln hzn hvl y0 y1 y2 y3 hgi hb HI hfit
      go_wp2_with fail
      go_region_held3 (fun w' => w'.cell? ⟨wr.heap.size, 0, none⟩ = some (.int .i64 kk) ∧ w'.cell? ⟨wr.heap.size, 3, none⟩ = some (.slice za zn zc)) (first | (go_keep; done) | exact ⟨cell4 hne _ _ _ _ k0, cell4 hne _ _ _ _ k3⟩ | exact ⟨cell4 hne5 _ _ _ _ (keepc ((Below.refl _ w5).alloc (Nat.le_refl _) _) (by omega) k0), cell4 hne5 _ _ _ _ (keepc ((Below.refl _ w5).alloc (Nat.le_refl _) _) (by omega) k3)⟩)
        (first
          | (go_at_call 36; refine (HC.out Wb.drew (Below.refl _ _).drew).mono ?_; rintro e w5 ⟨za5, zc5, rfl, hz5, hb5, hbW⟩; have k0 := keepc hbW hszb b0; have k3 := keepc hbW hszb b3; have hs5 := hbW.size; have hne5 : wr.heap.size ≠ w5.heap.size := (by omega))
          | (go_at_call 36; refine (HC.out (Wb.alloc (.cells #[.int .i64 0, .int .i64 0, .slice none 0 0, .slice none 0 0] 40)).drew (((Below.refl _ Wb).alloc (Nat.le_refl _) _).drew)).mono ?_; rintro e w5 ⟨za5, zc5, rfl, hz5, hb5, hbW⟩; have k0 := keepc hbW hszb b0; have k3 := keepc hbW hszb b3; have BX := ((show Blk (Wb.alloc (.cells #[.int .i64 0, .int .i64 0, .slice none 0 0, .slice none 0 0] 40)).drew Wb.heap.size [.int .i64 0, .int .i64 0, .slice none 0 0, .slice none 0 0] 40 from Blk.new Wb _ _)).call hb5; obtain ⟨m0, m1, m2, m3⟩ := cells4 BX; obtain ⟨n0, n1, n2, n3⟩ := frozen4 BX; have HBX := Lib.hid BX; clear BX))
      all_goals (
        first
          | (obtain ⟨X, b6, hX, hb6, BX6, hz6, hbX, hb6l⟩ := box_after (kk := kk) hbW hz5; rw [hX, hb6])
          | (obtain ⟨X, b6, hX, hb6, BX6, hz6, hbX, hb6l⟩ := box_ahead (kk := kk) hbW HBX.out hz5; rw [hX, hb6]; clear HBX m0 m1 m2 m3 n0 n1 n2 n3)
        have HbX := Lib.hid hbX
        have HJ : Hid (colJ Wb X b6 zn kk (.slice za5 zn zc5) (intsZ ss) [] X) := ⟨hbX, Nat.le_refl _, hz6, _, [], BX6, World.ownsRow_nil _ _ _ _, LsT.nil _⟩
        have hb6x : b6 < X.heap.size := BX6.lt
        have b2X : X.cell? ⟨wr.heap.size, 2, none⟩ = some (.slice la ln lc) := keepc hbX hszb b2
        clear hX hb6 BX6 hz6 hbX hz5 hb5 hbW b0 b2 b3
        go_wp2_with fail
        go_loopg [29] ln (fun q2 s29 wx => ∃ (j : Nat), j + q2 = ln ∧ s29 = .int .i64 (j : Int) ∧ Hid (colJ Wb X b6 zn kk (.slice za5 zn zc5) (intsZ ss) (ls.take j) wx))
        case atStart => exact ⟨0, by omega, rfl, HJ⟩
        case round =>
          obtain ⟨j, hjq, rfl, HJJ⟩ := hrel
          cases gk with
          | zero =>
            have hjn : ¬ (j < ln) := by omega
            have hje : ls.take j = ls := List.take_of_length_le (by rw [← Hln.out]; omega)
            rw [hje] at HJJ
            obtain ⟨r1, r2, r3, lvv, ws, rB, rO, rL⟩ := HJJ.out
            obtain ⟨va, vc, rfl⟩ := own_form rO
            rw [← Hln.out] at rB rO
            obtain ⟨k0, k1, k2, k3⟩ := cells4 rB
            have hown : wr.ownsRow w.heap.size 40 4 (.slice oa acc.length oc) acc.length dd := own_keep HownB.out (.call r1)
            have HB : Hid (BdT wr (.slice va ln vc) (.slice za5 zn zc5) ⟨kk, 1, ls, ss⟩) := ⟨ws, by have := RdT.of_own rO; rw [Hln.out] at this ⊢; exact this, rL, by have := r3; rw [Hzn.out] at this ⊢; exact this⟩
            have Hgs := Lib.hid (HgsB.out.keep (.call r1) (.call r1) (.call r1))
            have HownC := Lib.hid (own_keep hown (.alloc (.cells #[.int .i64 kk, .int .i64 1, .slice va ln vc, .slice za5 zn zc5] 40)))
            have hbr := Lib.hid (hbw.out.trans (r1.mono hbw.out.size))
            have hszw := hbr.out.size
            clear r1 r2 r3 rB rO rL HJJ hown hje
            go_wp2_with (at_builtin; refine wpList_append2 _ rfl _ _ 23 rfl w.heap.size 40 (.agg #[.int .i64 0, .int .i64 0, .slice none 0 0, .slice none 0 0]) 4 64 Try.underlying23 info_geo rfl (by decide) (.slice oa acc.length oc) acc.length _ rfl HownC.out _ _ 1 [.int .i64 kk, .int .i64 1, .slice va ln vc, .slice za5 zn zc5] rfl (reads_new _ _ _ 1 1 (by decide) (by decide)) rfl (by simp [Value.oneCell']) (by unfold maxLen; omega) (by omega) (by simp; omega) ?_)
            intro v1 w2 own1 grow1 mov1
            obtain ⟨va1, vc1, rfl⟩ := own_form own1
            have HC1 : Hid (colM w w2 (.slice va1 (acc.length + 1) vc1) (Wk.colA (l.take (i + 1)))) := by
              have := colM.append (hbr.out.alloc hbr.out.size _) HownC.out (Hgs.out.keep (.alloc _) (.alloc _) (.alloc _)) (HB.out.keep (.alloc _) (.alloc _) (.alloc _)) own1 grow1
              unfold Hid; rw [Hsucc.out, if_neg H7.out, ← Hacc.out]; exact this
            clear own1 grow1 mov1
            go_wp2_with fail
            go_roundg q
            case measure => omega
            case rel => exact ⟨i + 1, by omega, by first | rfl | simp, HC1⟩
          | succ q2 =>
            have hjn : j < ln := by omega
            obtain ⟨x, hxj⟩ : ∃ x, ls[j]? = some x := ⟨_, List.getElem?_eq_getElem (by rw [← Hln.out]; exact hjn)⟩
            obtain ⟨r1, r2, r3, lvv, ws, rB, rO, rL⟩ := HJJ.out
            obtain ⟨va, vc, rfl⟩ := own_form rO
            have htl : (ls.take j).length = j := by rw [List.length_take, ← Hln.out]; omega
            rw [htl] at rB rO
            obtain ⟨g3, o3, ka, kc, e3, p1, p2, p3, p4, p5⟩ := LsC.at Hl.out Hvs.out j x hxj
            subst e3
            rw [← Hln.out] at p1
            have y1 : wr.cell? ⟨g3, o3 + j, none⟩ = _ := keepc r1 p3 p4
            have HCP : Hid (Calls Try.prog 37 #[.slice ka x.length kc] wr.drew fun e w' => ∃ v', e = .returned v' ∧ RdT 47 w' v' x.length (flatP x) ∧ Below wr.heap.size wr w') :=
              (cloneP_any _ _ _ wr.drew (p5.call (r1.drew)) (flatP_lenC x) (flatP_oneC x) (Hlq.out x (List.mem_of_getElem? hxj))).mono fun e w' ⟨v', h1, h2, h3⟩ => ⟨v', h1, h2, ((Below.refl _ wr).drew).trans h3⟩
            have htk : ls.take (j + 1) = ls.take j ++ [x] := by rw [List.take_add_one, hxj]; rfl
            have Htk := Lib.hid htk
            obtain ⟨xn, hxn⟩ : ∃ m, m = x.length := ⟨_, rfl⟩
            rw [← hxn] at y1 HCP
            have Hxn := Lib.hid hxn
            obtain ⟨k0, k1, k2, k3⟩ := cells4 rB
            obtain ⟨f0, f1, f2, f3⟩ := frozen4 rB
            have R1 := Lib.hid r1
            have R3 := Lib.hid r3
            have RB := Lib.hid rB
            have RO := Lib.hid rO
            have RL := Lib.hid rL
            have Htl := Lib.hid htl
            clear r1 r3 rB rO rL htl p4 p5 hxj htk hxn HJJ
            go_wp2_with fail
            refine heldG_plain2 (fun w' => w'.cell? ⟨b6, 2, none⟩ = some (.slice va j vc)) (fun j => j == 7) (by kernel_rfl) ?_
            refine wpAnyG_takeD (i := 0) (v := .pointer (some ⟨b6, 2, none⟩)) [0, 1, 5, 6, 7] rfl (by kernel_rfl) (by kernel_rfl) (by kernel_rfl) (by kernel_rfl) (by kernel_rfl) (fun _ _ _ h => h) (Or.inl ⟨by rfl, ?y0⟩) k2 ?_
            case y0 => intro w' hS'; clear k2; go_simp
            simp only [Act.put, List.setIfInBounds_toArray, List.set_cons_zero, List.set_cons_succ]
            refine wpAnyG_takeD (i := 1) (v := .slice va j vc) [1, 5, 6, 7] rfl (by kernel_rfl) (by kernel_rfl) (by kernel_rfl) (by kernel_rfl) (by kernel_rfl) (fun _ _ _ h => h) (Or.inl ⟨by rfl, ?y1⟩) k2 ?_
            case y1 => intro w' hS'; clear k2; go_simp
            simp only [Act.put, List.setIfInBounds_toArray, List.set_cons_zero, List.set_cons_succ]
            refine wpAnyG_takeD (i := 2) (v := .slice ka xn kc) [2, 3, 4, 5, 6, 7] rfl (by kernel_rfl) (by kernel_rfl) (by kernel_rfl) (by kernel_rfl) (by kernel_rfl) (fun _ _ _ h => h) (Or.inl ⟨by rfl, ?y2⟩) k2 ?_
            case y2 => intro w' hS'; clear k2; go_simp
            simp only [Act.put, List.setIfInBounds_toArray, List.set_cons_zero, List.set_cons_succ]
            refine wpAnyG_ready (rs := [3]) (by kernel_rfl) (by simp) ?_
            refine AllReadyG.cons rfl (fun K hK => ?_) AllReadyG.nil
            go_simp
            refine HCP.out.mono ?_
            rintro e w7 ⟨v7, rfl, h7, hb7⟩
            obtain ⟨a7, c7, rfl⟩ := pair_form (R := 0) h7
            have hb6r : b6 < wr.heap.size := RB.out.lt
            have B7 : Blk w7 b6 _ _ := RB.out.call hb7
            have hs7 := hb7.size
            refine hK.out _ _ (fun _ => B7.cell (j := 2) rfl) ?_
            clear hK K
            refine wpAnyG_ready (rs := [4]) (by kernel_rfl) (by simp) ?_
            refine AllReadyG.cons rfl (fun K hK => ?_) AllReadyG.nil
            go_simp
            have B8 := B7.alloc (.cells #[.slice a7 xn c7] 48)
            have O8 := own_keep (own_keep RO.out (.call hb7)) (.alloc (.cells #[.slice a7 xn c7] 48))
            refine hK.out _ _ (fun _ => B8.cell (j := 2) rfl) ?_
            clear hK K
            refine wpAnyG_ready (rs := [5]) (by kernel_rfl) (by simp) ?_
            refine AllReadyG.cons rfl (fun K hK => ?_) AllReadyG.nil
            refine step_append2 _ (by rfl) _ _ 37 rfl X.heap.size 48 (.slice none 0 0) 1 24 Try.underlying37 info_list rfl (by decide) (.slice va j vc) j _ rfl O8 _ _ 1 [.slice a7 xn c7] rfl (reads_new _ _ _ 1 1 (by decide) (by decide)) rfl (by simp [Value.oneCell']) (by unfold maxLen; omega) (by omega) (by simp; omega) ?_
            intro v' w9 hown hgrow hmov
            have B9 := B8.appended O8 (by omega) hgrow
            refine hK.out _ _ (fun _ => B9.cell (j := 2) rfl) ?_
            clear hK K
            obtain ⟨a', cap', rfl⟩ := own_form hown
            have hXb : Wb.heap.size ≤ X.heap.size := HbX.out.size
            have hf : colJ Wb X b6 zn kk (.slice za5 zn zc5) (intsZ ss) (ls.take j ++ [x]) (w9.setCell ⟨b6, 2, none⟩ (.slice a' (j + 1) cap')) := by
              have hk7 : Below wr.heap.size wr w7 := hb7
              have e1 : Below Wb.heap.size Wb (w7.alloc (.cells #[.slice a7 xn c7] 48)) := (R1.out.trans (hk7.mono R1.out.size)).alloc (by have := R1.out.size; omega) _
              have e2 := (R3.out.keep (.call hk7)).keep (.alloc (.cells #[.slice a7 xn c7] 48))
              have e3 := (RL.out.keep (.call hk7)).keep (.alloc (.cells #[.slice a7 xn c7] 48))
              have e4 := h7.keep (.alloc (.cells #[.slice a7 xn c7] 48))
              rw [Hxn.out] at e4 e1 e2 e3 B8 O8 hown hgrow
              exact colJ.next hb6l hb6x hXb e1 (by simp; omega) e2 B8 (by rw [Htl.out]; exact O8) e3 e4 (by rw [Htl.out]; exact hown) hgrow
            rw [← Htk.out] at hf
            have f9 := frozen4 B9
            obtain ⟨f90, f91, f92, f93⟩ := f9
            have c92 := B9.cell (j := 2) rfl
            have Hf9 := Lib.hid hf
            clear hf hown hgrow hmov O8 B8 B7 h7
            refine wpAnyG_ready (rs := [6]) (by kernel_rfl) (by simp) ?_
            refine AllReadyG.cons rfl (fun K hK => ?_) AllReadyG.nil
            go_simp
            refine hK.out _ _ (fun _ => c92) ?_
            clear hK K
            refine wpAnyG_ready (rs := [7]) (by kernel_rfl) (by simp) ?_
            refine AllReadyG.cons rfl (fun K hK => ?_) AllReadyG.nil
            go_simp
            refine hK.out _ _ (fun h => by cases h) ?_
            clear hK K
            refine wpAnyG_done (by kernel_rfl) ?_ _
            go_wp2_with fail
            go_roundg q2
            case measure => omega
            case rel => exact ⟨j + 1, by omega, by first | rfl | simp, Hf9⟩)
end Go.Proofs.Ytegkdkilbnighaa

set_option linter.unusedVariables false
set_option linter.unusedSimpArgs false
namespace Go.Proofs.Ytegkdkilbnighaa
open Go.RowKit Go.Rg
attribute [local go_sem] Oper.semAt_some

namespace Wk
/-- a geometry alone -/
def lay (g : GA) : GA := ⟨g.kind, 0, g.lists, g.sizes⟩
def rOk (g : GA) : Bool := oneA (lay g)
theorem okA_lay (g : GA) : okA .none (lay g) = rOk g := by
  unfold okA levA rOk lay; simp
theorem right_one (g : GA) : RightA [lay g] ↔ rOk g = true := by
  unfold RightA
  constructor
  · intro h
    have := h.2 0 (by simp)
    unfold okAt prevA at this
    simpa [okA_lay] using this
  · intro h
    refine ⟨by simp, fun i hi => ?_⟩
    have hi0 : i = 0 := by simp at hi; exact hi
    subst hi0
    unfold okAt prevA
    simpa [okA_lay] using h
def allB (l : List GA) : Bool := l.all fun g => g.kind == 7 || rOk g
theorem allB_succ (l : List GA) (i : Nat) (g : GA) (h : l[i]? = some g) : allB (l.take (i + 1)) = (allB (l.take i) && (g.kind == 7 || rOk g)) := by
  unfold allB
  rw [List.take_add_one, h]
  simp
def cc : GA := ⟨7, 0, [], []⟩
theorem cc_one : okA .none cc = true := by unfold okA oneA shapedA levA cc; simp
theorem okA_cc (g : GA) (h7 : g.kind ≠ 7) : okA (.some cc) (lone g) = rOk g := by
  have : (g.kind == 7) = false := by rw [beq_eq_false_iff_ne]; exact h7
  unfold okA levA mostA rOk lay lone cc oneA shapedA; simp [this]
theorem okA_lone (g h : GA) (h7 : g.kind ≠ 7) (k7 : h.kind ≠ 7) : okA (.some (lone h)) (lone g) = rOk g := by
  have e1 : (g.kind == 7) = false := by rw [beq_eq_false_iff_ne]; exact h7
  have e2 : (h.kind == 7) = false := by rw [beq_eq_false_iff_ne]; exact k7
  unfold okA levA mostA rOk lay lone oneA shapedA; simp [e1, e2, if_neg k7]
theorem colA_at (l : List GA) (i : Nat) (m : GA) (h : ((l.filter fun g => g.kind != 7).map lone)[i]? = some m) : ∃ g ∈ l, g.kind ≠ 7 ∧ m = lone g := by
  have hm := List.mem_of_getElem? h
  obtain ⟨g, hg, rfl⟩ := List.mem_map.1 hm
  obtain ⟨h1, h2⟩ := List.mem_filter.1 hg
  exact ⟨g, h1, by simpa using h2, rfl⟩
theorem okAt_col (l : List GA) (i : Nat) (g : GA) (hg : ((l.filter fun g => g.kind != 7).map lone)[i]? = some (lone g)) (h7 : g.kind ≠ 7) : okAt (colA l) (i + 1) = rOk g := by
  unfold okAt colA
  rw [List.getElem?_cons_succ, hg]
  simp only [prevA]
  rw [if_neg (by omega), Nat.add_sub_cancel]
  cases i with
  | zero => exact okA_cc g h7
  | succ i =>
    rw [List.getElem?_cons_succ]
    obtain ⟨m, hm⟩ : ∃ m, ((l.filter fun g => g.kind != 7).map lone)[i]? = some m := ⟨_, List.getElem?_eq_getElem (by have := (List.getElem?_eq_some_iff.1 hg).1; omega)⟩
    rw [hm]
    obtain ⟨x, _, x7, rfl⟩ := colA_at l i m hm
    exact okA_lone g x h7 x7
theorem right_col (l : List GA) : RightA (colA l) ↔ allB l = true := by
  unfold allB
  rw [List.all_eq_true]
  constructor
  · intro h g hg
    by_cases h7 : g.kind = 7
    · rw [h7]; rfl
    · have : lone g ∈ (l.filter fun g => g.kind != 7).map lone := List.mem_map.2 ⟨g, List.mem_filter.2 ⟨hg, by simpa using h7⟩, rfl⟩
      obtain ⟨i, hi, e⟩ := List.getElem_of_mem this
      have hi2 : ((l.filter fun g => g.kind != 7).map lone)[i]? = some (lone g) := by rw [List.getElem?_eq_getElem hi, e]
      have := h.2 (i + 1) (by unfold colA; simpa using hi)
      rw [okAt_col l i g hi2 h7] at this
      rw [this]; simp
  · intro h
    refine ⟨by unfold colA; simp, fun i hi => ?_⟩
    cases i with
    | zero => exact cc_one
    | succ i =>
      obtain ⟨m, hm⟩ : ∃ m, ((l.filter fun g => g.kind != 7).map lone)[i]? = some m := ⟨_, List.getElem?_eq_getElem (by unfold colA at hi; simpa using hi)⟩
      obtain ⟨g, hg, h7, rfl⟩ := colA_at l i m hm
      rw [okAt_col l i g hm h7]
      have := h g hg
      simpa [h7] using this
theorem colA_pre (l : List GA) (i : Nat) (g : GA) (h : l[i]? = some g) (h7 : g.kind ≠ 7) : (colA l)[(colA (l.take i)).length]? = some (lone g) := by
  have e : ∃ r, colA l = colA (l.take (i + 1)) ++ r := by
    refine ⟨((l.drop (i + 1)).filter fun g => g.kind != 7).map lone, ?_⟩
    conv => lhs; rw [← List.take_append_drop (i + 1) l]
    unfold colA; rw [List.filter_append, List.map_append]; rfl
  obtain ⟨r, e⟩ := e
  rw [e, colA_succ l i g h, if_neg h7, List.append_assoc, List.getElem?_append_right (Nat.le_refl _), Nat.sub_self]
  rfl
end Wk

set_option maxRecDepth 100000 in
set_option maxHeartbeats 4000000 in
theorem flat_bad (g : GA) (lv zv : Value) (w : World) (h : BdA w lv zv g) (hf : Wk.FitA g) (hno : ¬ Wk.RightA [Wk.lay g]) :
    Calls Try.prog 18 #[gaV g lv zv] w fun e w' => e = .returned (.string ⟨#[]⟩) ∧ Below w.heap.size w w' := by
  obtain ⟨kk, lev, ls, ss⟩ := g
  have HB := Lib.hid h
  obtain ⟨vs, hvl, hl, hvs, hzs⟩ := h
  obtain ⟨la, lc, rfl, _⟩ := hl.form
  obtain ⟨za, zc, rfl, _⟩ := hzs.form
  obtain ⟨n, hnn⟩ : ∃ n, n = ls.length := ⟨_, rfl⟩
  obtain ⟨nz, hnz⟩ : ∃ nz, nz = ss.length := ⟨_, rfl⟩
  unfold gaV
  simp only at HB hf ⊢
  rw [← hnn, ← hnz] at HB ⊢
  obtain ⟨W0, hW0⟩ : ∃ W0, [.cells #[.int .i64 kk, .int .i64 0, .slice la n lc, .slice za nz zc] 40, .cells #[.int .i64 kk, .int .i64 0, .slice la n lc, .slice za nz zc] 40].foldl World.alloc w = W0 := ⟨_, rfl⟩
  have B1 : Blk W0 (w.heap.size + 1) [.int .i64 kk, .int .i64 0, .slice la n lc, .slice za nz zc] 40 := Blk.allocs _ hW0 1 rfl
  have hBel : Below w.heap.size w W0 := hW0 ▸ allocs_below _ w
  have hB0 : BdA W0 (.slice la n lc) (.slice za nz zc) ⟨kk, 0, ls, ss⟩ := BdA.call HB.out hBel
  simp only [List.foldl_cons, List.foldl_nil] at hW0
  have hG : GsC W0 [.int .i64 kk, .int .i64 0, .slice la n lc, .slice za nz zc] [⟨kk, 0, ls, ss⟩] := GsC.one hB0
  have hfit : ∀ x ∈ [Wk.lay ⟨kk, lev, ls, ss⟩], Wk.FitA x := fun x hx => by
    rw [List.mem_singleton] at hx; subst hx; exact hf
  have H := Lib.hid (write_bad [Wk.lay ⟨kk, lev, ls, ss⟩] (.slice (some ⟨w.heap.size + 1, 0, none⟩) 1 1) _ W0 (RdC.blk B1 (Nat.le_refl _) (by decide)) hG hfit hno)
  have HBel := Lib.hid hBel
  clear hB0 hBel hG B1 HB hl hvs hzs hvl hnn hnz hf hno hfit
  go_enter Try.func18, Try.ntmps18
  go_wp2_with fail
  (try simp only [hW0])
  refine H.out.mono ?_
  rintro e w1 ⟨rfl, hb⟩
  have hw := Lib.hid (HBel.out.trans (hb.mono HBel.out.size))
  clear hb
  go_wp2_with fail
  go_ret
  exact ⟨rfl, hw.out⟩

theorem qG_light (l : List GA) (g : GA) (h : g ∈ l) (hl : lightN l ≤ 400) : l.length ≤ 400 ∧ qG g ≤ 400 ∧ ∀ x ∈ g.lists, x.length ≤ 400 := by
  unfold lightN at hl
  have h1 := sum_map_le qG l g h
  refine ⟨by omega, by omega, fun x hx => ?_⟩
  have h2 := sum_map_le qL g.lists x hx
  have h4 : qG g = (g.lists.length + g.sizes.length) + (g.lists.map qL).sum := rfl
  have h3 : x.length ≤ qL x := by unfold qL; omega
  omega
theorem lay_geo (g : GA) (h : Wk.rOk g = true) (hq : qG g ≤ 400) : ∃ og : Wk.Geo, Wk.lay g = Wk.toA og ∧ Wk.RightG [og] ∧ Wk.write [og] ≠ [] ∧ (Wk.write [og]).length ≤ 100000 := by
  obtain ⟨gs, hgs, hR⟩ := Wk.right_ofA _ ((Wk.right_one g).2 h)
  obtain ⟨og, rfl⟩ : ∃ og, gs = [og] := by
    cases gs with
    | nil => cases hgs
    | cons a r => cases r with
      | nil => exact ⟨a, rfl⟩
      | cons b r => simp at hgs
  have he : Wk.lay g = Wk.toA og := by simpa using hgs
  refine ⟨og, he, hR, Wk.write_ne _ hR, ?_⟩
  have h1 := Wk.write_size [og] hR
  have h2 := mG_q og
  rw [← he] at h2
  have h3 : qG (Wk.lay g) = qG g := rfl
  simp only [List.map_cons, List.map_nil, List.sum_cons, List.sum_nil] at h1
  omega
set_option maxRecDepth 100000 in
set_option maxHeartbeats 8000000 in
theorem lawFlatW (l : List GA) (v : Value) (cs : List Value) (w : World) (h : RdC w v l.length cs) (hg : GsC w cs l) (hmu : (l.map muG).sum ≤ 1048576) :
    Calls Try.prog 7 #[v] w fun e w' => e = .returned (.bool true) ∧ Below w.heap.size w w' := by
  have hlm := light_mu l
  have hf : ∀ g ∈ l, Wk.FitA g := fun g hgm => fitA_mu g _ (Nat.le_trans (sum_map_le muG l g hgm) hmu) (by decide)
  have HL := Lib.hid (light_any l v cs w h hg (by omega))
  obtain ⟨a, c, rfl, hm⟩ := h.form
  have Hr := Lib.hid h
  have Hg := Lib.hid hg
  have Hf := Lib.hid hf
  clear hg hf hlm hmu h
  go_enter Try.func7, Try.ntmps7
  by_cases hli : lightN l ≤ 400
  · rw [decide_eq_true hli] at HL
    have Hli := Lib.hid hli
    have HC : Hid (∀ X, Below w.heap.size w X → Calls Try.prog 20 #[.slice a l.length c] X fun e X' => ∃ a c ds, e = .returned (.slice a (Wk.colA l).length c) ∧ RdC X' (.slice a (Wk.colA l).length c) (Wk.colA l).length ds ∧ GsC X' ds (Wk.colA l) ∧ Below X.heap.size X X') := fun X hX =>
      collect_any l _ cs X (Hr.out.call hX) (Hg.out.call hX) Hf.out (fun g hgm x hx => Nat.le_trans ((qG_light l g hgm hli).2.2 x hx) (by decide)) (by unfold lightN at hli; omega)
    obtain ⟨n, hn⟩ : ∃ n, n = l.length := ⟨_, rfl⟩
    rw [← hn] at HC hm HL Hr ⊢
    have Hn := Lib.hid hn
    have hn4 : n ≤ 400 := by unfold lightN at hli; omega
    unfold maxLen at hm
    clear hli hn
    go_wp2_with fail
    refine HL.out.mono ?_
    rintro e w1 ⟨rfl, hb1⟩
    have hw1 := Lib.hid hb1
    clear hb1
    go_wp2_with fail
    go_loopg [3, 4, 23] n (fun q s3 s4 s23 wx => ∃ (i : Nat) (m : Nat) (A : Bool), i + q = n ∧ s23 = .int .i64 (i : Int) ∧ s4 = .int .i64 (m : Int) ∧ s3 = .bool A ∧ m ≤ i + 1 ∧ Hid (m = (Wk.colA (l.take i)).length) ∧ Hid (A = Wk.allB (l.take i)) ∧ Hid (Below w.heap.size w wx))
    case atStart => exact ⟨0, 1, true, by omega, rfl, rfl, rfl, by omega, rfl, rfl, hw1.out⟩
    case round =>
      obtain ⟨i, m, A, hiq, rfl, rfl, rfl, hmi, Hm, HA, Hb⟩ := hrel
      cases gk with
      | zero =>
        have hin : ¬ (i < n) := by omega
        have hie : i = l.length := by rw [← Hn.out]; omega
        rw [hie, List.take_length] at Hm HA
        have HCm : Hid (Calls Try.prog 20 #[.slice a n c] wr fun e X' => ∃ a c ds, e = .returned (.slice a m c) ∧ RdC X' (.slice a m c) m ds ∧ GsC X' ds (Wk.colA l) ∧ Below wr.heap.size wr X') := by
          have := HC.out wr Hb.out; rw [← Hm.out] at this; exact this
        have hm1 : 1 ≤ m := by rw [Hm.out]; unfold Wk.colA; simp
        have hmn : m ≤ n + 1 := by omega
        clear hie HC hmi
        go_wp2_with fail
        refine HCm.out.mono ?_
        rintro e wc ⟨ca, cp, ds, rfl, hcr, hcg, hbc⟩
        have HW := Lib.hid (Hb.out.trans (hbc.mono Hb.out.size))
        have Hcr := Lib.hid hcr
        have Hcg := Lib.hid hcg
        obtain ⟨g4, o4, lv4, zv4, rfl, p1, p2, hB4, p3, z0, z1, z2, z3⟩ := gs_at hcr hcg 0 Wk.cc rfl
        have Z0 : wc.cell? ⟨g4, o4, none⟩ = some (.int .i64 7) := by simpa [Wk.cc] using z0
        have Z1 : wc.cell? ⟨g4, o4 + 1, none⟩ = some (.int .i64 0) := by simpa [Wk.cc] using z1
        have Z2 : wc.cell? ⟨g4, o4 + 2, none⟩ = some lv4 := by simpa [Wk.cc] using z2
        have Z3 : wc.cell? ⟨g4, o4 + 3, none⟩ = some zv4 := by simpa [Wk.cc] using z3
        have HE : Hid (Calls Try.prog 19 #[.agg #[.int .i64 7, .int .i64 0, lv4, zv4], .agg #[.int .i64 7, .int .i64 0, .slice none 0 0, .slice none 0 0]] wc fun e X' => e = .returned (.bool true) ∧ Below wc.heap.size wc X') :=
          (equalA_any Wk.cc Wk.cc lv4 zv4 (.slice none 0 0) (.slice none 0 0) wc hB4 (BdT.toC (show BdT wc (.slice none 0 0) (.slice none 0 0) Wk.cc from ⟨[], .nil _ _, LsT.nil wc, .nil _ _⟩))).mono fun e X' ⟨h1, h2⟩ => ⟨by rw [h1, (eqA_iff _ _).2 rfl], h2⟩
        have hfc : ∀ x ∈ Wk.colA l, Wk.FitA x := fun x hx => by
          unfold Wk.colA at hx
          rcases List.mem_cons.1 hx with rfl | hx
          · exact ⟨by decide, by decide, by simp⟩
          · obtain ⟨y, hy, rfl⟩ := List.mem_map.1 hx
            exact Hf.out y (List.mem_filter.1 hy).1
        have HRi : Hid (∀ X, Below wc.heap.size wc X → Calls Try.prog 13 #[.slice (some ⟨g4, o4, none⟩) m cp] X fun e X' => e = .returned (.bool A) ∧ Below X.heap.size X X') := fun X hX => by
          have h1 := Hcr.out.call hX
          rw [Hm.out] at h1 ⊢
          exact (rightA_any _ _ (Wk.colA l) X h1 (Hcg.out.call hX) hfc).mono fun e w' ⟨b, he, hbr, hbb⟩ => by
            refine ⟨?_, hbb⟩
            rw [he]
            have := hbr.out.trans (Wk.right_col l)
            rw [← HA.out] at this
            congr 2
            rw [Bool.eq_iff_iff]; exact this
        have Hbc := Lib.hid hbc
        clear hcr hcg hB4 z0 z1 z2 z3 hfc HCm hbc
        go_wp2_with fail
        refine HE.out.mono ?_
        rintro e wd ⟨rfl, hbd⟩
        have HD := Lib.hid hbd
        clear hbd
        go_wp2_with fail
        refine (HRi.out wd HD.out).mono ?_
        rintro e we ⟨rfl, hbe⟩
        have HE2 := Lib.hid (HD.out.trans (hbe.mono HD.out.size))
        clear hbe Z0 Z1 Z2 Z3 HD
        go_wp2_with fail
        go_loopg [14, 94] n (fun q s14 s94 wx => ∃ (i k : Nat), i + q = n ∧ s94 = .int .i64 (i : Int) ∧ s14 = .int .i64 (k : Int) ∧ k ≤ i + 1 ∧ Hid (k = (Wk.colA (l.take i)).length) ∧ Hid (Below wc.heap.size wc wx))
        case atStart => exact ⟨0, 1, by omega, rfl, rfl, by omega, rfl, HE2.out⟩
        case round =>
          obtain ⟨i, k, hiq, rfl, rfl, hki, Hk, Hb2⟩ := hrel
          have HB2 := Lib.hid (HW.out.trans (Hb2.out.mono HW.out.size))
          cases gk with
          | zero =>
            have hin : ¬ (i < n) := by omega
            go_wp2_with fail
            refine (awake12_any wr).mono ?_
            rintro e w6 ⟨rfl, hb6⟩
            have hw6 := Lib.hid (HB2.out.trans (hb6.mono HB2.out.size))
            clear hb6
            go_wp2_with fail
            go_ret
            exact ⟨rfl, hw6.out⟩
          | succ q =>
            have hin : i < n := by omega
            obtain ⟨g, hgi⟩ : ∃ g, l[i]? = some g := ⟨_, List.getElem?_eq_getElem (by rw [← Hn.out]; exact hin)⟩
            obtain ⟨g1, o1, lv, zv, rfl, q1, q2, hB, q3, y0, y1, y2, y3⟩ := gs_at Hr.out Hg.out i g hgi
            have Hsm := Lib.hid (Wk.colA_succ l i g hgi)
            have Hpre := Lib.hid (Wk.colA_pre l i g hgi)
            have HB := Lib.hid hB
            obtain ⟨vs, hvl, hl, hvs, hzs⟩ := hB
            obtain ⟨la, lc, rfl, hlm⟩ := hl.form
            obtain ⟨za, zc, rfl, hzm⟩ := hzs.form
            obtain ⟨kk, lev, ls, ss⟩ := g
            simp only at hvl hl hvs hzs y0 y1 y2 y3 hlm hzm HB Hpre
            have x0 : wr.cell? ⟨g1, o1 + i * 4, none⟩ = _ := keepc HB2.out q3 y0
            have x1 : wr.cell? ⟨g1, o1 + i * 4 + 1, none⟩ = _ := keepc HB2.out q3 y1
            have x2 : wr.cell? ⟨g1, o1 + i * 4 + 2, none⟩ = _ := keepc HB2.out q3 y2
            have x3 : wr.cell? ⟨g1, o1 + i * 4 + 3, none⟩ = _ := keepc HB2.out q3 y3
            have hszr := HB2.out.size
            obtain ⟨ln, hln⟩ : ∃ m, m = ls.length := ⟨_, rfl⟩
            obtain ⟨zn, hzn⟩ : ∃ m, m = ss.length := ⟨_, rfl⟩
            rw [← hln] at x2 HB
            rw [← hzn] at x3 HB
            by_cases h7 : kk = 7
            · subst h7
              have Hk1 : Hid (k = (Wk.colA (l.take (i + 1))).length) := by unfold Hid; rw [Hsm.out, if_pos rfl]; exact Hk.out
              obtain ⟨Wb, hWb⟩ : ∃ Wb, wr.alloc (.cells #[.int .i64 7, .int .i64 lev, .slice la ln lc, .slice za zn zc] 40) = Wb := ⟨_, rfl⟩
              have B0 : Blk Wb wr.heap.size [.int .i64 7, .int .i64 lev, .slice la ln lc, .slice za zn zc] 40 := hWb ▸ Blk.new wr _ _
              have hBw : Below wr.heap.size wr Wb := hWb ▸ (Below.refl _ wr).alloc (Nat.le_refl _) _
              have b0 := B0.cell (j := 0) rfl
              have hb7 := Lib.hid (Hb2.out.trans (hBw.mono Hb2.out.size))
              clear Hk Hsm Hpre y0 y1 y2 y3 hgi hl hvs hzs hvl hln hzn hlm hzm hBw B0
              go_wp2_with fail
              go_roundg q
              case measure => omega
              case rel => exact ⟨i + 1, k, by omega, by first | rfl | simp, rfl, by omega, Hk1, hb7⟩
            · have e7 : (kk == 7) = false := by rw [beq_eq_false_iff_ne]; exact h7
              have Hk1 : Hid (k + 1 = (Wk.colA (l.take (i + 1))).length) := by unfold Hid; rw [Hsm.out, if_neg h7, List.length_append, ← Hk.out]; rfl
              have hpk := Hpre.out h7
              rw [← Hk.out] at hpk
              have hkm : k < m := by rw [Hm.out]; exact (List.getElem?_eq_some_iff.1 hpk).1
              obtain ⟨g5, o5, lv5, zv5, e5, _, _, hB5, r3, z0, z1, z2, z3⟩ := gs_at Hcr.out Hcg.out k _ hpk
              cases e5
              obtain ⟨Wb, hWb⟩ : ∃ Wb, wr.alloc (.cells #[.int .i64 kk, .int .i64 1, .slice la ln lc, .slice za zn zc] 40) = Wb := ⟨_, rfl⟩
              have B0 : Blk Wb wr.heap.size [.int .i64 kk, .int .i64 1, .slice la ln lc, .slice za zn zc] 40 := hWb ▸ Blk.new wr _ _
              have hBw : Below wr.heap.size wr Wb := hWb ▸ (Below.refl _ wr).alloc (Nat.le_refl _) _
              obtain ⟨b0, b1, b2, b3⟩ := cells4 B0
              have hbcb := Lib.hid (Hb2.out.trans (hBw.mono Hb2.out.size))
              have hbwb := Lib.hid (HB2.out.trans (hBw.mono HB2.out.size))
              have Z0 : Wb.cell? ⟨g4, o4 + k * 4, none⟩ = some (.int .i64 kk) := keepc hbcb.out r3 z0
              have Z1 : Wb.cell? ⟨g4, o4 + k * 4 + 1, none⟩ = some (.int .i64 1) := keepc hbcb.out r3 z1
              have Z2 : Wb.cell? ⟨g4, o4 + k * 4 + 2, none⟩ = some lv5 := keepc hbcb.out r3 z2
              have Z3 : Wb.cell? ⟨g4, o4 + k * 4 + 3, none⟩ = some zv5 := keepc hbcb.out r3 z3
              have HE5 : Hid (∀ X, Below Wb.heap.size Wb X → Calls Try.prog 19 #[.agg #[.int .i64 kk, .int .i64 1, lv5, zv5], .agg #[.int .i64 kk, .int .i64 1, .slice la ln lc, .slice za zn zc]] X fun e X' => e = .returned (.bool true) ∧ Below X.heap.size X X') := fun X hX =>
                ((equalA_any (Wk.lone ⟨kk, lev, ls, ss⟩) (Wk.lone ⟨kk, lev, ls, ss⟩) lv5 zv5 (.slice la ln lc) (.slice za zn zc) X ((hB5.call hbcb.out).call hX) ((HB.out.call hbwb.out).call hX) : Calls _ _ _ _ _)).mono fun e X' ⟨h1, h2⟩ => ⟨by rw [h1, (eqA_iff _ _).2 rfl], h2⟩
              have hp3 : g4 < Wb.heap.size := Nat.lt_of_lt_of_le p3 hbcb.out.size
              have hq6 : wr.heap.size < Wb.heap.size := B0.lt
              clear Hk Hsm Hpre y0 y1 y2 y3 hgi hl hvs hzs hvl hlm hzm h7 B0 hBw z0 z1 z2 z3 hB5 hpk hln hzn
              go_wp2_with fail
              (try rw [hWb])
              go_region_held3 (fun w' => w'.cell? ⟨g4, o4 + k * 4, none⟩ = some (.int .i64 kk) ∧ w'.cell? ⟨g4, o4 + k * 4 + 1, none⟩ = some (.int .i64 1) ∧ w'.cell? ⟨g4, o4 + k * 4 + 2, none⟩ = some lv5 ∧ w'.cell? ⟨g4, o4 + k * 4 + 3, none⟩ = some zv5 ∧ w'.cell? ⟨wr.heap.size, 0, none⟩ = some (.int .i64 kk) ∧ w'.cell? ⟨wr.heap.size, 1, none⟩ = some (.int .i64 1) ∧ w'.cell? ⟨wr.heap.size, 2, none⟩ = some (.slice la ln lc) ∧ w'.cell? ⟨wr.heap.size, 3, none⟩ = some (.slice za zn zc))
                (first
                  | exact ⟨Z0, Z1, Z2, Z3, b0, b1, b2, b3⟩
                  | exact ⟨keepc hb5 hp3 Z0, keepc hb5 hp3 Z1, keepc hb5 hp3 Z2, keepc hb5 hp3 Z3, keepc hb5 hq6 b0, keepc hb5 hq6 b1, keepc hb5 hq6 b2, keepc hb5 hq6 b3⟩
                  | go_keep)
                ((go_at_call 19; refine (HE5.out _ ((Below.refl _ Wb).drew)).mono ?_; rintro e w5 ⟨rfl, hb5⟩))
              have hw5 : Hid (Below wc.heap.size wc w5) := hbcb.out.trans (((Below.refl _ Wb).drew.trans hb5).mono hbcb.out.size)
              clear hb5 Z0 Z1 Z2 Z3 b0 b1 b2 b3
              go_wp2_with fail
              go_roundg q
              case measure => omega
              case rel => exact ⟨i + 1, k + 1, by omega, by first | rfl | simp, by first | rfl | simp, by omega, Hk1, hw5⟩
      | succ q =>
        have hin : i < n := by omega
        obtain ⟨g, hgi⟩ : ∃ g, l[i]? = some g := ⟨_, List.getElem?_eq_getElem (by rw [← Hn.out]; exact hin)⟩
        obtain ⟨g1, o1, lv, zv, rfl, q1, q2, hB, q3, y0, y1, y2, y3⟩ := gs_at Hr.out Hg.out i g hgi
        have hmem := List.mem_of_getElem? hgi
        have hfit := Hf.out g hmem
        obtain ⟨_, hqg, hxl⟩ := qG_light l g hmem Hli.out
        have Hsm := Lib.hid (Wk.colA_succ l i g hgi)
        have HsA := Lib.hid (Wk.allB_succ l i g hgi)
        have HB := Lib.hid hB
        obtain ⟨vs, hvl, hl, hvs, hzs⟩ := hB
        obtain ⟨la, lc, rfl, hlm⟩ := hl.form
        obtain ⟨za, zc, rfl, hzm⟩ := hzs.form
        obtain ⟨kk, lev, ls, ss⟩ := g
        simp only at hvl hl hvs hzs y0 y1 y2 y3 hlm hzm HB
        have x0 : wr.cell? ⟨g1, o1 + i * 4, none⟩ = _ := keepc Hb.out q3 y0
        have x1 : wr.cell? ⟨g1, o1 + i * 4 + 1, none⟩ = _ := keepc Hb.out q3 y1
        have x2 : wr.cell? ⟨g1, o1 + i * 4 + 2, none⟩ = _ := keepc Hb.out q3 y2
        have x3 : wr.cell? ⟨g1, o1 + i * 4 + 3, none⟩ = _ := keepc Hb.out q3 y3
        have hszr := Hb.out.size
        obtain ⟨ln, hln⟩ : ∃ m, m = ls.length := ⟨_, rfl⟩
        obtain ⟨zn, hzn⟩ : ∃ m, m = ss.length := ⟨_, rfl⟩
        rw [← hln] at x2 HB
        rw [← hzn] at x3 HB
        obtain ⟨Wb, hWb⟩ : ∃ Wb, [.cells #[.int .i64 kk, .int .i64 lev, .slice la ln lc, .slice za zn zc] 40, .cells #[.int .i64 kk, .int .i64 0, .slice la ln lc, .slice za zn zc] 40, .cells #[.int .i64 kk, .int .i64 0, .slice la ln lc, .slice za zn zc] 40].foldl World.alloc wr = Wb := ⟨_, rfl⟩
        have B0 : Blk Wb wr.heap.size [.int .i64 kk, .int .i64 lev, .slice la ln lc, .slice za zn zc] 40 := Blk.allocs _ hWb 0 rfl
        have B1 : Blk Wb (wr.heap.size + 1) [.int .i64 kk, .int .i64 0, .slice la ln lc, .slice za zn zc] 40 := Blk.allocs _ hWb 1 rfl
        have B2 : Blk Wb (wr.heap.size + 2) [.int .i64 kk, .int .i64 0, .slice la ln lc, .slice za zn zc] 40 := Blk.allocs _ hWb 2 rfl
        have hBw : Below wr.heap.size wr Wb := hWb ▸ allocs_below _ wr
        have hbw := Lib.hid (Hb.out.trans (hBw.mono hszr))
        have hszb : wr.heap.size + 3 ≤ Wb.heap.size := Nat.le_of_eq (hWb ▸ allocs_size _ wr).symm
        simp only [List.foldl_cons, List.foldl_nil] at hWb
        have HB2 : Hid (BdA Wb (.slice la ln lc) (.slice za zn zc) (Wk.lay ⟨kk, lev, ls, ss⟩)) := HB.out.call hbw.out
        have HR : Hid (Calls Try.prog 13 #[.slice (some ⟨wr.heap.size + 2, 0, none⟩) 1 1] Wb fun e w' => e = .returned (.bool (Wk.rOk ⟨kk, lev, ls, ss⟩)) ∧ Below Wb.heap.size Wb w') :=
          (rightA_any _ _ [Wk.lay ⟨kk, lev, ls, ss⟩] Wb (RdC.blk B2 (Nat.le_refl _) (by show 1 ≤ maxLen; decide)) (GsC.one HB2.out) (fun x hx => by rw [List.mem_singleton] at hx; subst hx; exact hfit)).mono fun e w' ⟨b, he, hbr, hbb⟩ => by
            refine ⟨?_, hbb⟩
            rw [he]
            have := hbr.out.trans (Wk.right_one ⟨kk, lev, ls, ss⟩)
            congr 2
            rw [Bool.eq_iff_iff]; exact this
        obtain ⟨r, hr⟩ : ∃ r, r = Wk.rOk ⟨kk, lev, ls, ss⟩ := ⟨_, rfl⟩
        rw [← hr] at HR
        have Hr' := Lib.hid hr
        have Hgi := Lib.hid hgi
        have Hfit := Lib.hid hfit
        have Hqg := Lib.hid hqg
        have HB0 := Lib.hid B0
        have HB1 := Lib.hid B1
        clear B0 B1 B2 hBw y0 y1 y2 y3 hgi hfit hl hvs hzs hvl hln hzn hlm hzm hxl hmem hr hqg
        go_wp2_with fail
        refine HR.out.mono ?_
        rintro e w2 ⟨rfl, hb2⟩
        have hw2 := Lib.hid (hbw.out.trans (hb2.mono hbw.out.size))
        have c0 := keepc hb2 (show wr.heap.size < Wb.heap.size by omega) (HB0.out.cell (j := 0) rfl)
        have c1 := keepc hb2 (show wr.heap.size < Wb.heap.size by omega) (HB0.out.cell (j := 1) rfl)
        have c2 := keepc hb2 (show wr.heap.size < Wb.heap.size by omega) (HB0.out.cell (j := 2) rfl)
        have c3 := keepc hb2 (show wr.heap.size < Wb.heap.size by omega) (HB0.out.cell (j := 3) rfl)
        have d0 := keepc hb2 (show wr.heap.size + 1 < Wb.heap.size by omega) (HB1.out.cell (j := 0) rfl)
        have d1 := keepc hb2 (show wr.heap.size + 1 < Wb.heap.size by omega) (HB1.out.cell (j := 1) rfl)
        have d2 := keepc hb2 (show wr.heap.size + 1 < Wb.heap.size by omega) (HB1.out.cell (j := 2) rfl)
        have d3 := keepc hb2 (show wr.heap.size + 1 < Wb.heap.size by omega) (HB1.out.cell (j := 3) rfl)
        have HBw2 := Lib.hid (HB.out.call hw2.out)
        have hs2 := hb2.size
        clear hb2 x0 x1 x2 x3 hWb
        cases r with
        | true =>
          obtain ⟨og, he, hRG, hne, hlen⟩ := lay_geo _ Hr'.out.symm Hqg.out
          have HF : Hid (Calls Try.prog 18 #[.agg #[.int .i64 kk, .int .i64 lev, .slice la ln lc, .slice za zn zc]] w2 fun e w' => e = .returned (str (Wk.write [og])) ∧ Below w2.heap.size w2 w') :=
            flat_right ⟨kk, lev, ls, ss⟩ og (.slice la ln lc) (.slice za zn zc) w2 HBw2.out Hfit.out he hRG (by omega)
          obtain ⟨t, ht⟩ : ∃ t, t = Wk.write [og] := ⟨_, rfl⟩
          rw [← ht] at hne hlen HF
          have HP : Hid (∀ X : World, Calls Try.prog 9 #[str t] X fun e w' => ∃ a c cs, e = .returned (.tuple #[.slice a 1 c, .int .i64 0, .int .i64 0]) ∧ RdC w' (.slice a 1 c) 1 cs ∧ GsC w' cs [Wk.lay ⟨kk, lev, ls, ss⟩] ∧ Below X.heap.size X w') := fun X => by
            have := parse_write_any [og] hRG X (by rw [← ht]; exact hlen)
            rw [← ht, List.map_cons, List.map_nil, ← he] at this
            exact this
          have hnb : t.isEmpty = false := by cases t with
            | nil => exact absurd rfl hne
            | cons x r => rfl
          clear ht he hRG hlen
          go_wp2_with fail
          refine HF.out.mono ?_
          rintro e w3 ⟨rfl, hb3⟩
          have hw3 := Lib.hid (hw2.out.trans (hb3.mono hw2.out.size))
          have hs3 := hb3.size
          have C0 := keepc hb3 (show wr.heap.size < w2.heap.size by omega) c0
          have C1 := keepc hb3 (show wr.heap.size < w2.heap.size by omega) c1
          have C2 := keepc hb3 (show wr.heap.size < w2.heap.size by omega) c2
          have C3 := keepc hb3 (show wr.heap.size < w2.heap.size by omega) c3
          have D0 := keepc hb3 (show wr.heap.size + 1 < w2.heap.size by omega) d0
          have D1 := keepc hb3 (show wr.heap.size + 1 < w2.heap.size by omega) d1
          have D2 := keepc hb3 (show wr.heap.size + 1 < w2.heap.size by omega) d2
          have D3 := keepc hb3 (show wr.heap.size + 1 < w2.heap.size by omega) d3
          clear c0 c1 c2 c3 d0 d1 d2 d3 hb3
          go_wp2_with fail
          refine (HP.out w3).mono ?_
          rintro e w4 ⟨ma, mc, mcs, rfl, hmr, hmg, hb4⟩
          obtain ⟨g4, o4, lv4, zv4, rfl, p1, p2, hB4, p3, z0, z1, z2, z3⟩ := gs_at hmr hmg 0 _ rfl
          have hw4 := Lib.hid (hw3.out.trans (hb4.mono hw3.out.size))
          have hs4 := hb4.size
          have Z0 : w4.cell? ⟨g4, o4, none⟩ = some (.int .i64 kk) := by simpa [Wk.lay] using z0
          have Z1 : w4.cell? ⟨g4, o4 + 1, none⟩ = some (.int .i64 0) := by simpa [Wk.lay] using z1
          have Z2 : w4.cell? ⟨g4, o4 + 2, none⟩ = some lv4 := by simpa [Wk.lay] using z2
          have Z3 : w4.cell? ⟨g4, o4 + 3, none⟩ = some zv4 := by simpa [Wk.lay] using z3
          have E0 := keepc hb4 (show wr.heap.size < w3.heap.size by omega) C0
          have F0 := keepc hb4 (show wr.heap.size + 1 < w3.heap.size by omega) D0
          have F1 := keepc hb4 (show wr.heap.size + 1 < w3.heap.size by omega) D1
          have F2 := keepc hb4 (show wr.heap.size + 1 < w3.heap.size by omega) D2
          have F3 := keepc hb4 (show wr.heap.size + 1 < w3.heap.size by omega) D3
          have HC4 : Hid (∀ X, Below w4.heap.size w4 X → Calls Try.prog 19 #[.agg #[.int .i64 kk, .int .i64 0, lv4, zv4], .agg #[.int .i64 kk, .int .i64 0, .slice la ln lc, .slice za zn zc]] X fun e X' => e = .returned (.bool true) ∧ Below X.heap.size X X') := fun X hX =>
            ((equalA_any (Wk.lay ⟨kk, lev, ls, ss⟩) (Wk.lay ⟨kk, lev, ls, ss⟩) lv4 zv4 (.slice la ln lc) (.slice za zn zc) X (hB4.call hX) ((HB.out.call hw4.out).call hX)).mono fun e X' ⟨h1, h2⟩ => ⟨by rw [h1, (eqA_iff _ _).2 rfl], h2⟩)
          have hp3 : g4 < w4.heap.size := p3
          have hq6 : wr.heap.size + 1 < w4.heap.size := by omega
          clear C0 C1 C2 C3 D0 D1 D2 D3 z0 z1 z2 z3 hmr hmg hB4 hb4
          go_wp2_with fail
          go_region_held3 (fun w' => w'.cell? ⟨g4, o4, none⟩ = some (.int .i64 kk) ∧ w'.cell? ⟨g4, o4 + 1, none⟩ = some (.int .i64 0) ∧ w'.cell? ⟨g4, o4 + 2, none⟩ = some lv4 ∧ w'.cell? ⟨g4, o4 + 3, none⟩ = some zv4 ∧ w'.cell? ⟨wr.heap.size + 1, 0, none⟩ = some (.int .i64 kk) ∧ w'.cell? ⟨wr.heap.size + 1, 1, none⟩ = some (.int .i64 0) ∧ w'.cell? ⟨wr.heap.size + 1, 2, none⟩ = some (.slice la ln lc) ∧ w'.cell? ⟨wr.heap.size + 1, 3, none⟩ = some (.slice za zn zc))
            (first
              | exact ⟨Z0, Z1, Z2, Z3, F0, F1, F2, F3⟩
              | exact ⟨keepc hb5 hp3 Z0, keepc hb5 hp3 Z1, keepc hb5 hp3 Z2, keepc hb5 hp3 Z3, keepc hb5 hq6 F0, keepc hb5 hq6 F1, keepc hb5 hq6 F2, keepc hb5 hq6 F3⟩
              | go_keep)
            ((go_at_call 19; refine (HC4.out _ ((Below.refl _ w4).drew)).mono ?_; rintro e w5 ⟨rfl, hb5⟩))
          have G0 : w5.cell? ⟨wr.heap.size, 0, none⟩ = _ := keepc hb5 (show wr.heap.size < w4.heap.size by omega) E0
          have hw5 : Hid (Below w.heap.size w w5) := hw4.out.trans (((Below.refl _ w4).drew.trans hb5).mono hw4.out.size)
          clear hb5 Z0 Z1 Z2 Z3 F0 F1 F2 F3 E0
          by_cases h7 : kk = 7
          · subst h7
            have Hm1 : Hid (m = (Wk.colA (l.take (i + 1))).length) := by unfold Hid; rw [Hsm.out, if_pos rfl]; exact Hm.out
            have HA1 : Hid (A = Wk.allB (l.take (i + 1))) := by unfold Hid; rw [HsA.out, ← HA.out]; simp
            clear Hm HA Hsm HsA
            go_wp2_with fail
            go_roundg q
            case measure => omega
            case rel => exact ⟨i + 1, m, A, by omega, by first | rfl | simp, rfl, rfl, by omega, Hm1, HA1, hw5⟩
          · have e7 : (kk == 7) = false := by rw [beq_eq_false_iff_ne]; exact h7
            have e8 : (kk != 7) = true := by rw [bne, e7]; rfl
            have Hm1 : Hid (m + 1 = (Wk.colA (l.take (i + 1))).length) := by unfold Hid; rw [Hsm.out, if_neg h7, List.length_append, ← Hm.out]; rfl
            have HA1 : Hid ((A && true) = Wk.allB (l.take (i + 1))) := by unfold Hid; rw [HsA.out, ← HA.out, ← Hr'.out]; simp [e7]
            clear Hm HA Hsm HsA h7
            cases A with
            | true =>
              go_wp2_with fail
              go_roundg q
              case measure => omega
              case rel => exact ⟨i + 1, m + 1, true, by omega, by first | rfl | simp, by first | rfl | simp, rfl, by omega, Hm1, HA1, hw5⟩
            | false =>
              go_wp2_with fail
              go_roundg q
              case measure => omega
              case rel => exact ⟨i + 1, m + 1, false, by omega, by first | rfl | simp, by first | rfl | simp, rfl, by omega, Hm1, HA1, hw5⟩
        | false =>
          have hno : ¬ Wk.RightA [Wk.lay ⟨kk, lev, ls, ss⟩] := fun h => by
            have := (Wk.right_one ⟨kk, lev, ls, ss⟩).1 h
            rw [← Hr'.out] at this; cases this
          have HF : Hid (Calls Try.prog 18 #[.agg #[.int .i64 kk, .int .i64 lev, .slice la ln lc, .slice za zn zc]] w2 fun e w' => e = .returned (.string ⟨#[]⟩) ∧ Below w2.heap.size w2 w') :=
            flat_bad ⟨kk, lev, ls, ss⟩ (.slice la ln lc) (.slice za zn zc) w2 HBw2.out Hfit.out hno
          have HP : Hid (∀ X : World, Calls Try.prog 9 #[.string ⟨#[]⟩] X fun e w' => ∃ (v : Value) (at_ er : Int), e = .returned (.tuple #[v, .int .i64 at_, .int .i64 er]) ∧ Below X.heap.size X w') := fun X =>
            (parse_any ⟨#[]⟩ X (by decide)).mono fun e w' ⟨v, x, y, h1, _, h3⟩ => ⟨v, x, y, h1, h3⟩
          clear hno
          go_wp2_with fail
          refine HF.out.mono ?_
          rintro e w3 ⟨rfl, hb3⟩
          have hw3 := Lib.hid (hw2.out.trans (hb3.mono hw2.out.size))
          have hs3 := hb3.size
          have C0 := keepc hb3 (show wr.heap.size < w2.heap.size by omega) c0
          clear c0 c1 c2 c3 d0 d1 d2 d3 hb3
          go_wp2_with fail
          refine (HP.out w3).mono ?_
          rintro e w4 ⟨v4, a4, r4, rfl, hb4⟩
          have hw4 := Lib.hid (hw3.out.trans (hb4.mono hw3.out.size))
          have E0 := keepc hb4 (show wr.heap.size < w3.heap.size by omega) C0
          clear hb4 C0
          go_wp2_with fail
          go_quiet (fail)
          obtain ⟨w5, hq5⟩ : ∃ X, w4.drewN nq = X := ⟨_, rfl⟩
          (try rw [hq5])
          have G0 : w5.cell? ⟨wr.heap.size, 0, none⟩ = some (.int .i64 kk) := by rw [← hq5]; exact E0
          have hw6 : Hid (Below w.heap.size w w5) := hq5 ▸ hw4.out.trans (below_drewN _ _ _)
          clear hq5 E0
          by_cases h7 : kk = 7
          · subst h7
            have Hm1 : Hid (m = (Wk.colA (l.take (i + 1))).length) := by unfold Hid; rw [Hsm.out, if_pos rfl]; exact Hm.out
            have HA1 : Hid (A = Wk.allB (l.take (i + 1))) := by unfold Hid; rw [HsA.out, ← HA.out]; simp
            clear Hm HA Hsm HsA
            go_wp2_with fail
            go_roundg q
            case measure => omega
            case rel => exact ⟨i + 1, m, A, by omega, by first | rfl | simp, rfl, rfl, by omega, Hm1, HA1, hw6⟩
          · have e7 : (kk == 7) = false := by rw [beq_eq_false_iff_ne]; exact h7
            have e8 : (kk != 7) = true := by rw [bne, e7]; rfl
            have Hm1 : Hid (m + 1 = (Wk.colA (l.take (i + 1))).length) := by unfold Hid; rw [Hsm.out, if_neg h7, List.length_append, ← Hm.out]; rfl
            have HA1 : Hid ((A && false) = Wk.allB (l.take (i + 1))) := by unfold Hid; rw [HsA.out, ← HA.out, ← Hr'.out]; simp [e7]
            clear Hm HA Hsm HsA h7
            cases A with
            | true =>
              go_wp2_with fail
              go_roundg q
              case measure => omega
              case rel => exact ⟨i + 1, m + 1, false, by omega, by first | rfl | simp, by first | rfl | simp, rfl, by omega, Hm1, HA1, hw6⟩
            | false =>
              go_wp2_with fail
              go_roundg q
              case measure => omega
              case rel => exact ⟨i + 1, m + 1, false, by omega, by first | rfl | simp, by first | rfl | simp, rfl, by omega, Hm1, HA1, hw6⟩
  · rw [decide_eq_false hli] at HL
    clear hli
    go_wp2_with fail
    refine HL.out.mono ?_
    rintro e w1 ⟨rfl, hb1⟩
    have hw1 := Lib.hid hb1
    clear hb1
    go_wp2_with fail
    refine (awake12_any w1).mono ?_
    rintro e w6 ⟨rfl, hb6⟩
    have hw6 := hw1.out.trans (hb6.mono hw1.out.size)
    clear hb6
    go_wp2_with fail
    go_ret
    exact ⟨rfl, hw6⟩
end Go.Proofs.Ytegkdkilbnighaa
