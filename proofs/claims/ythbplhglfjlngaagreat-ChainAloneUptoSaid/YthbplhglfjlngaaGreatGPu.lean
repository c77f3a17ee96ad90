/- Parts of the proof. -/
import Derived.Test.YthbplhglfjlngaaGreatGPt
import Derived.Deep.CutBlock
import Derived.Deep.DeepCutAuto
set_option linter.unusedVariables false
set_option linter.unusedSimpArgs false
set_option maxRecDepth 100000
namespace Go.Proofs.YthbplhglfjlngaaGreat
open Go.RowKit Go.Rg Go.Wd
attribute [local go_sem] Oper.semAt_some
theorem CutV.keep {w w' : World} {v : Value} {o : Option DStr} (h : CutV w v o) (hb : KeepT 3 w w') : CutV w' v o := by
 obtain ⟨f1, f2, f3, f4, p1, p2, p3, p4, op, ot, so, f, g, e, h1, h2, h3⟩ := h
 exact ⟨f1, f2, f3, f4, p1, p2, p3, p4, op, ot, so, f, g, e, h1.keep hb, h2.keep hb, h3⟩
theorem CutV.call {w w' : World} {v : Value} {o : Option DStr} (h : CutV w v o) (hb : Below w.heap.size w w') : CutV w' v o := h.keep (KeepT.call hb)
theorem CutV.form {w : World} {v : Value} {o : Option DStr} (h : CutV w v o) : ∃ n1 s1 k1 i1 n2 s2 k2 i2 n3 s3 k3 i3 n4 s4 k4 i4 op ot so, v = .agg #[.bool n1, .slice s1 k1 i1, .bool n2, .slice s2 k2 i2, .bool n3, .slice s3 k3 i3, .bool n4, .slice s4 k4 i4, .bool op, .bool ot, .bool so] ∧ so = o.isSome := by
 obtain ⟨f1, f2, f3, f4, p1, p2, p3, p4, op, ot, so, f, g, rfl, h1, h2, h3⟩ := h
 obtain ⟨n1, s1, k1, i1, n2, s2, k2, i2, e1, _⟩ := h1.form
 obtain ⟨n3, s3, k3, i3, n4, s4, k4, i4, e2, _⟩ := h2.form
 simp only [Value.agg.injEq, Array.mk.injEq, List.cons.injEq, and_true] at e1 e2
 obtain ⟨rfl, rfl, rfl, rfl⟩ := e1
 obtain ⟨rfl, rfl, rfl, rfl⟩ := e2
 exact ⟨_, _, _, _, _, _, _, _, _, _, _, _, _, _, _, _, op, ot, so, rfl, by cases o with | none => exact h3 | some s => exact h3.1⟩
theorem CutV.begin {w : World} {v1 v2 v3 v4 v5 v6 v7 v8 : Value} {op ot so : Bool} {s : DStr} (h : CutV w (.agg #[v1, v2, v3, v4, v5, v6, v7, v8, .bool op, .bool ot, .bool so]) (some s)) : RatV w (.agg #[v1, v2, v3, v4]) (s.n, s.d) ∧ op = s.o := by
 obtain ⟨f1, f2, f3, f4, p1, p2, p3, p4, op', ot', so', f, g, e, hf, _, _, hff, ho⟩ := h
 simp only [Value.agg.injEq, Array.mk.injEq, List.cons.injEq, Value.bool.injEq, and_true] at e
 obtain ⟨e1, e2, e3, e4, _, _, _, _, e5, _⟩ := e
 rw [e1, e2, e3, e4, e5, ← hff]
 exact ⟨hf, ho⟩
def StE (w : World) (e : List Value) (s : DStr) : Prop := CutV w (.agg e.toArray) (some s)
theorem StE.form {w : World} {e : List Value} {s : DStr} (h : StE w e s) : ∃ n1 s1 k1 i1 n2 s2 k2 i2 n3 s3 k3 i3 n4 s4 k4 i4 op ot, e = [.bool n1, .slice s1 k1 i1, .bool n2, .slice s2 k2 i2, .bool n3, .slice s3 k3 i3, .bool n4, .slice s4 k4 i4, .bool op, .bool ot, .bool true] := by
 obtain ⟨n1, s1, k1, i1, n2, s2, k2, i2, n3, s3, k3, i3, n4, s4, k4, i4, op, ot, so, he, h⟩ := CutV.form h
 subst h
 exact ⟨n1, s1, k1, i1, n2, s2, k2, i2, n3, s3, k3, i3, n4, s4, k4, i4, op, ot, by simpa using he⟩
theorem StE.one {w : World} {e : List Value} {s : DStr} (h : StE w e s) : ∀ u ∈ e, u.oneCell' = true := by
 obtain ⟨n1, s1, k1, i1, n2, s2, k2, i2, n3, s3, k3, i3, n4, s4, k4, i4, op, ot, rfl⟩ := h.form
 intro u hu
 simp only [List.mem_cons, List.not_mem_nil, or_false] at hu
 rcases hu with rfl | rfl | rfl | rfl | rfl | rfl | rfl | rfl | rfl | rfl | rfl <;> rfl
theorem pt_one {ps : List (Int × Int)} : ∀ e ∈ ptE ps, ∀ u ∈ e, u.oneCell' = true := fun e he u hu => by
 unfold ptE at he
 obtain ⟨p, _, rfl⟩ := List.mem_map.1 he
 simp only [List.mem_cons, List.not_mem_nil, or_false] at hu
 rcases hu with rfl | rfl <;> rfl
theorem info_strI : (Tryz.prog.info? 79).map (fun i => (i.zero, i.size, i.bytes)) = some (some (.agg #[.bool false, .slice none 0 0, .bool false, .slice none 0 0, .bool false, .slice none 0 0, .bool false, .slice none 0 0, .bool false, .bool false, .bool false]), 11, 136) := by kernel_rfl
theorem info_p3I : (Tryz.prog.info? 37).map (fun i => (i.zero, i.size, i.bytes)) = some (some (.agg #[.int .i64 0, .int .i64 0]), 2, 16) := by kernel_rfl
theorem cmpI_two (x y : Int) : Bg.cmpI x y = Wd.cmpI x y := by unfold Bg.cmpI Wd.cmpI; split <;> (try split) <;> (try split) <;> omega
theorem cmpF_R (s t : DStr) : cmpF (s.n, s.d) (t.n, t.d) = cmpR s.n s.d t.n t.d := by unfold cmpF cmpR; exact cmpI_two _ _
set_option maxHeartbeats 4000000 in
theorem ahead17_any (v u : Value) (s t : DStr) (w : World) (hv : CutV w v (some s)) (hu : CutV w u (some t)) (hs : SmF 100 (s.n, s.d)) (ht : SmF 100 (t.n, t.d)) :
  Calls Tryz.prog 25 #[v, u] w fun e w' => e = .returned (.bool (dAhead s t)) ∧ Below w.heap.size w w' := by
 obtain ⟨n1, s1, k1, i1, n2, s2, k2, i2, n3, s3, k3, i3, n4, s4, k4, i4, o1, q1, r1, rfl, -⟩ := hv.form
 obtain ⟨m1, t1, j1, l1, m2, t2, j2, l2, m3, t3, j3, l3, m4, t4, j4, l4, o2, q2, r2, rfl, -⟩ := hu.form
 obtain ⟨hf, ho⟩ := hv.begin
 obtain ⟨hg, hp⟩ := hu.begin
 have Ho := hH ho
 have Hp := hH hp
 clear ho hp hv hu
 have HR : Hid (dAhead s t = (decide (cmpF (s.n, s.d) (t.n, t.d) < 0) || (decide (cmpF (s.n, s.d) (t.n, t.d) = 0) && (!o1 && o2)))) := hH (by rw [Ho.out, Hp.out, cmpF_R]; rfl)
 rw [HR.out]
 obtain ⟨cc, Hcc⟩ : ∃ c, Hid (cmpF (s.n, s.d) (t.n, t.d) = c) := ⟨_, hH rfl⟩
 rw [Hcc.out]
 clear HR Ho Hp
 obtain ⟨W0, hW0⟩ : ∃ W0, [.cells #[.bool n1, .slice s1 k1 i1, .bool n2, .slice s2 k2 i2, .bool n3, .slice s3 k3 i3, .bool n4, .slice s4 k4 i4, .bool o1, .bool q1, .bool r1] 79, .cells #[.bool m1, .slice t1 j1 l1, .bool m2, .slice t2 j2 l2, .bool m3, .slice t3 j3 l3, .bool m4, .slice t4 j4 l4, .bool o2, .bool q2, .bool r2] 79].foldl World.alloc w = W0 := ⟨_, rfl⟩
 have B0 : Blk W0 (w.heap.size) [.bool n1, .slice s1 k1 i1, .bool n2, .slice s2 k2 i2, .bool n3, .slice s3 k3 i3, .bool n4, .slice s4 k4 i4, .bool o1, .bool q1, .bool r1] 79 := Blk.allocs _ hW0 0 rfl
 have B1 : Blk W0 (w.heap.size + 1) [.bool m1, .slice t1 j1 l1, .bool m2, .slice t2 j2 l2, .bool m3, .slice t3 j3 l3, .bool m4, .slice t4 j4 l4, .bool o2, .bool q2, .bool r2] 79 := Blk.allocs _ hW0 1 rfl
 have HB := aB hW0
 have hsz : w.heap.size + 2 ≤ W0.heap.size := aZ hW0
 simp only [List.foldl_cons, List.foldl_nil] at hW0
 have hf := hf.call HB
 have hg := hg.call HB
 go_enter Tryz.func25, Tryz.ntmps25
 go_upto_region 1 with (fail)
 clear hW0
 refine cP ?_
 refine dB [(fun v _ => v = .pointer (some ⟨w.heap.size, 0, none⟩)), (fun v _ => v = .agg #[.bool n1, .slice s1 k1 i1, .bool n2, .slice s2 k2 i2]), (fun v _ => v = .pointer (some ⟨w.heap.size + 1, 0, none⟩)), (fun v _ => v = .agg #[.bool m1, .slice t1 j1 l1, .bool m2, .slice t2 j2 l2]), (fun v _ => v = .int .i64 cc), (fun v _ => v = .int .i64 cc)] ⟨sE, sE, sE, sE, sE, sE, trivial⟩ ⟨?st0, ?st1, ?st2, ?st3, ?st4, ?st5, trivial⟩ ?_
 case st0 => (intro fa wz hp; have e2 := hp.o 2 (.pointer (some ⟨w.heap.size, 0, none⟩)); exact dX rfl)
 case st1 => (intro fa wz hp; have e6 := hp.q 0 6; have q0 := B0.d hp 0; have q1 := B0.d hp 1; have q2 := B0.d hp 2; have q3 := B0.d hp 3; exact dX rfl)
 case st2 => (intro fa wz hp; have e3 := hp.o 3 (.pointer (some ⟨w.heap.size + 1, 0, none⟩)); exact dX rfl)
 case st3 => (intro fa wz hp; have e8 := hp.q 2 8; have q0 := B1.d hp 0; have q1 := B1.d hp 1; have q2 := B1.d hp 2; have q3 := B1.d hp 3; exact dX rfl)
 case st4 => (intro fa wz hp; have e7 := hp.q 1 7; have e9 := hp.q 3 9; have hb := hp.base; exact dC1 (by go_simp) (cmp02_any (s.n, s.d) (t.n, t.d) _ _ wz (hf.call hb) (hg.call hb) hs ht) rfl (fun _ => congrArg (Value.int .i64) Hcc.out))
 case st5 => (intro fa wz hp; have e10 := hp.q 4 10; exact dX rfl)
 intro g w1 hb hg
 simp only [putAll, td]
 rw [show g 5 = .int .i64 cc from hg 5 _ _ rfl rfl]
 clear hg
 have B0 := B0.below hb B0.lt
 have B1 := B1.below hb B1.lt
 have hf := hf.call hb
 have hg := hg.call hb
 have hz1 : W0.heap.size ≤ w1.heap.size := hb.size
 have HB := HB.trans (hb.mono HB.size)
 clear hb
 obtain ⟨q0, _⟩ := Rg.c11 B0
 obtain ⟨q1', _⟩ := Rg.c11 B1
 have HB := hH HB
 clear B0 B1 hf hg hz1 hs ht
 clear Hcc
 rcases Int.lt_trichotomy cc 0 with h | h | h
 ·have d1 : decide (cc < 0) = true := decide_eq_true h
  go_wp2_with fail
  go_ret
  exact ⟨by simp [d1], HB.out⟩
 ·subst h
  cases o1 with
  | true =>
   go_wp2_with fail
   go_ret
   exact ⟨by simp, HB.out⟩
  | false =>
   go_wp2_with fail
   go_ret
   exact ⟨by simp, HB.out⟩
 ·have d1 : ¬ cc < 0 := by omega
  have d2 : ¬ cc = 0 := by omega
  have d3 : (cc == 0) = false := by simpa using d2
  go_wp2_with fail
  go_ret
  exact ⟨by simp [d1, d2], HB.out⟩
def bldD {α : Type} (l : List α) (x : α) (k j : Nat) : List α := if j ≤ k then l.take j else l.take k ++ x :: (l.drop k).take (j - k)
theorem bldD_step {α : Type} (l : List α) (x : α) {k j : Nat} (hk : k ≤ l.length) : bldD l x k (j + 1) = bldD l x k j ++ (if j = k then [x] else []) ++ (match l[j]? with | some y => [y] | none => []) := by
 unfold bldD
 by_cases h1 : j < k
 ·rw [if_pos (show j + 1 ≤ k by omega), if_pos (show j ≤ k by omega), if_neg (by omega), List.append_nil, List.take_add_one]
  cases l[j]? <;> rfl
 ·by_cases h2 : j = k
  ·subst h2
   rw [if_neg (by omega), if_pos (Nat.le_refl _), if_pos rfl, List.append_assoc]
   congr 1
   rw [show j + 1 - j = 1 by omega]
   cases h : l[j]? with
   | none => rw [List.drop_of_length_le (List.getElem?_eq_none_iff.1 h)]; rfl
   | some y => rw [drop_at' h]; rfl
  ·rw [if_neg (by omega), if_neg (by omega), if_neg h2, List.append_nil, List.append_assoc, List.cons_append]
   congr 2
   rw [show j + 1 - k = (j - k) + 1 by omega, List.take_add_one, List.getElem?_drop, show k + (j - k) = j by omega]
   cases l[j]? <;> rfl
theorem bldD_len {α : Type} (l : List α) (x : α) (k j : Nat) : (bldD l x k j).length ≤ l.length + 1 := by
 unfold bldD; split
 ·rw [List.length_take]; omega
 ·rw [List.length_append, List.length_cons, List.length_take, List.length_take, List.length_drop]; omega
theorem bldD_end {α : Type} (l : List α) (x : α) {k : Nat} (hk : k ≤ l.length) : bldD l x k (l.length + 1) = l.take k ++ x :: l.drop k := by
 unfold bldD
 rw [if_neg (by omega)]
 congr 2
 exact List.take_of_length_le (by rw [List.length_drop]; omega)
theorem dOf_snoc (cut : (Int × Int) → Option DStr) : ∀ (ps : List (Int × Int)) (l : List ((Int × Int) × DStr)) (p : Int × Int), dOf cut l (ps ++ [p]) = match cut p with | some s => insD (dOf cut l ps) (p, s) | none => dOf cut l ps
 | [], l, p => by rw [List.nil_append, dOf, dOf]; rfl
 | q :: ps, l, p => by rw [List.cons_append, dOf, dOf, dOf_snoc cut ps]
theorem insD_len {l : List ((Int × Int) × DStr)} {x : (Int × Int) × DStr} : (insD l x).length = l.length + 1 := by
 unfold insD
 have h := congrArg List.length (List.takeWhile_append_dropWhile (p := fun e : (Int × Int) × DStr => !dAhead x.2 e.2) (l := l))
 rw [List.length_append] at h
 rw [List.length_append, List.length_cons]; omega
theorem dOf_len (cut : (Int × Int) → Option DStr) : ∀ (ps : List (Int × Int)) (l : List ((Int × Int) × DStr)), (dOf cut l ps).length ≤ l.length + ps.length
 | [], l => by simp [dOf]
 | p :: ps, l => by
  rw [dOf]
  refine Nat.le_trans (dOf_len cut ps _) ?_
  rw [List.length_cons]
  cases cut p with
  | none => simp only []; omega
  | some s => simp only [insD_len]; omega
theorem insD_at {l : List ((Int × Int) × DStr)} {x : (Int × Int) × DStr} {k : Nat} (h1 : ∀ j e, j < k → l[j]? = some e → dAhead x.2 e.2 = false) (h2 : ∀ e, l[k]? = some e → dAhead x.2 e.2 = true) (h3 : k ≤ l.length) : insD l x = l.take k ++ x :: l.drop k := by
 obtain ⟨e1, e2⟩ := tw_at (p := fun e : (Int × Int) × DStr => !dAhead x.2 e.2) (fun j e hj he => by rw [h1 j e hj he]; rfl) (fun e he => by rw [h2 e he]; rfl) h3
 unfold insD
 rw [e1, e2]
theorem cut_sm {a b c d size : Int} (a1 : a.natAbs ≤ 2199023255552) (a2 : b.natAbs ≤ 2199023255552) (a3 : c.natAbs ≤ 2199023255552) (a4 : d.natAbs ≤ 2199023255552) {p : Int × Int} {s : DStr} (h : cutD a b c d size p = some s) : SmF 100 (s.n, s.d) := by
 have key : ∀ (I : Fr → Bool) (l : List Fr) (s : DStr), scanD I l = some s → ∃ t ∈ l, t = (s.n, s.d) := by
  intro I l
  induction l with
  | nil => intro s h; cases h
  | cons t r ih =>
   intro s h
   cases r with
   | nil =>
    rw [scanD] at h; split at h
    ·cases h; exact ⟨t, List.mem_cons_self .., rfl⟩
    ·cases h
   | cons u r =>
    rw [scanD] at h; split at h
    ·cases h; exact ⟨t, List.mem_cons_self .., rfl⟩
    ·split at h
     ·cases h; exact ⟨t, List.mem_cons_self .., rfl⟩
     ·obtain ⟨t', h1, h2⟩ := ih s h
      exact ⟨t', List.mem_cons_of_mem _ h1, h2⟩
 obtain ⟨t, ht, e⟩ := key _ _ _ h
 rw [← e]
 have := tsD_sm a1 a2 a3 a4 t ht
 exact ⟨this.1.mono (by decide), this.2.mono (by decide)⟩
theorem dOf_cut {cut : (Int × Int) → Option DStr} : ∀ (ps : List (Int × Int)) (l : List ((Int × Int) × DStr)), (∀ e ∈ l, cut e.1 = some e.2) → ∀ e ∈ dOf cut l ps, cut e.1 = some e.2
 | [], l, h => h
 | p :: ps, l, h => by
  rw [dOf]
  refine dOf_cut ps _ ?_
  cases hp : cut p with
  | none => exact h
  | some s =>
   intro e he
   rcases insD_mem.1 he with rfl | he
   ·exact hp
   ·exact h e he
end Go.Proofs.YthbplhglfjlngaaGreat
namespace Go.Rg
open Go Go.RowKit
theorem SlC.elemV {w : World} {v : Value} {sz : Nat} {es : List (List Value)} (h : SlC w v sz es) {i : Nat} {e : List Value} (hi : es[i]? = some e) :
  ∃ g off, (∃ n c, v = .slice (some ⟨g, off, none⟩) n c ∧ i < n) ∧ g < w.heap.size ∧ w.rangeAt g (off + i * sz) e ∧ e.length = sz := by
 obtain ⟨a, c, rfl, _⟩ := h.form
 obtain ⟨g, off, rfl, h1, h2, h3⟩ := h.elem hi
 exact ⟨g, off, ⟨_, c, rfl, (List.getElem?_eq_some_iff.1 hi).1⟩, h1, h2, h3⟩
end Go.Rg
namespace Go.Proofs.YthbplhglfjlngaaGreat
open Go.RowKit Go.Rg Go.Wd
attribute [local go_sem] Oper.semAt_some
def AtS (w : World) (v : Value) (l : List ((Int × Int) × DStr)) : Prop := ∃ es, SlC w v 11 es ∧ EsW StE w es (l.map (·.2))
theorem AtS.call {w w' : World} {v : Value} {l : List ((Int × Int) × DStr)} (h : AtS w v l) (hb : Below w.heap.size w w') : AtS w' v l := by
 obtain ⟨es, h1, h2⟩ := h
 exact ⟨es, h1.call hb, h2.mono fun e x h => CutV.call h hb⟩
theorem ptE_len (l : List (Int × Int)) : (ptE l).length = l.length := by unfold ptE; rw [List.length_map]
theorem ptE_app (l : List (Int × Int)) (p : Int × Int) : ptE l ++ [[.int .i64 p.1, .int .i64 p.2]] = ptE (l ++ [p]) := by unfold ptE; rw [List.map_append]; rfl
theorem map_at {α β : Type} (f : α → β) {l : List α} {i : Nat} {x : α} (h : l[i]? = some x) : (l.map f)[i]? = some (f x) := by rw [List.getElem?_map, h]; rfl
theorem ptB_abs {x y : Int} (h : ptB x y = true) : x.natAbs ≤ 2199023255552 ∧ y.natAbs ≤ 2199023255552 := by
 unfold ptB at h
 rw [Bool.and_eq_true, inB_iff, inB_iff] at h
 omega
set_option maxHeartbeats 8000000 in
theorem of17_any (a b c d size : Int) (v : Value) (ps : List (Int × Int)) (w : World) (hv : SlC w v 2 (ptE ps)) (a1 : a.natAbs ≤ 2199023255552) (a2 : b.natAbs ≤ 2199023255552) (a3 : c.natAbs ≤ 2199023255552) (a4 : d.natAbs ≤ 2199023255552) (z1 : 1 ≤ size) (z2 : size ≤ 1048576) (hpt : ∀ p ∈ ps, ptB p.1 p.2 = true) (hlen : ps.length ≤ 1048576) :
  Calls Tryz.prog 11 #[.agg #[.int .i64 a, .int .i64 b], .agg #[.int .i64 c, .int .i64 d], v, .int .i64 size] w fun e w' => ∃ v', e = .returned v' ∧ SlC w' v' 2 (ptE ((dOf (cutD a b c d size) [] ps).map (·.1))) ∧ Below w.heap.size w w' := by
 obtain ⟨ap, cp, e, hn, hcm⟩ := hv.form
 subst e
 obtain ⟨n, Hn⟩ : ∃ n, Hid (n = (ptE ps).length) := ⟨_, hH rfl⟩
 have Hnl : Hid (n = ps.length) := hH (by rw [Hn.out, ptE_len])
 rw [← Hn.out] at hv hn ⊢
 have hnb : n ≤ 1048576 := by rw [Hnl.out]; exact hlen
 unfold maxLen at hcm
 obtain ⟨W0, hW0⟩ : ∃ W0, [.cells #[.int .i64 a, .int .i64 b] 37, .cells #[.int .i64 c, .int .i64 d] 37].foldl World.alloc w = W0 := ⟨_, rfl⟩
 have B0 : Blk W0 (w.heap.size) [.int .i64 a, .int .i64 b] 37 := Blk.allocs _ hW0 0 rfl
 have B1 : Blk W0 (w.heap.size + 1) [.int .i64 c, .int .i64 d] 37 := Blk.allocs _ hW0 1 rfl
 have HB := aB hW0
 have hsz : w.heap.size + 2 ≤ W0.heap.size := aZ hW0
 simp only [List.foldl_cons, List.foldl_nil] at hW0
 have HV := hH (hv.call HB)
 have HPt := hH hpt
 have HBw := hH HB
 have HB0 := hH B0
 have HB1 := hH B1
 clear hv hpt HB B0 B1 hlen
 go_enter Tryz.func11, Tryz.ntmps11
 go_wp2_with fail
 (try rw [hW0])
 clear hW0
 go_loopg [9, 10, 11] n (fun q s9 s10 s11 wx => ∃ (i : Nat) (l : List ((Int × Int) × DStr)), i + q = n ∧ s11 = .int .i64 (i : Int) ∧ Hid (l = dOf (cutD a b c d size) [] (ps.take i)) ∧ Hid (SlC wx s9 2 (ptE (l.map (·.1)))) ∧ Hid (AtS wx s10 l) ∧ Hid (Below W0.heap.size W0 wx))
 case atStart => exact ⟨0, [], by omega, by first | rfl | simp, hH rfl, hH (SlC.nil _ _), hH ⟨[], SlC.nil _ _, EsW.nil⟩, hH (Below.refl _ _)⟩
 case round =>
  obtain ⟨i, l, hq, rfl, Hl, HOut, HAt, HBr⟩ := hrel
  cases gk with
  | zero =>
   have t0 : ¬ (i : Int) < (n : Int) := by omega
   have HF : Hid (l = dOf (cutD a b c d size) [] ps) := hH (by rw [Hl.out, List.take_of_length_le (by rw [← Hnl.out]; omega)])
   rw [HF.out] at HOut
   clear Hl HF HAt
   go_wp2_with fail
   go_ret
   exact ⟨_, rfl, HOut.out, HBw.out.trans (HBr.out.mono HBw.out.size)⟩
  | succ q =>
   have t0 : (i : Int) < (n : Int) := by omega
   obtain ⟨p, hp0⟩ : ∃ p, ps[i]? = some p := ⟨_, List.getElem?_eq_getElem (by rw [← Hnl.out]; omega)⟩
   obtain ⟨hp1, hp2⟩ := ptB_abs (HPt.out p (List.mem_of_getElem? hp0))
   obtain ⟨gp, op, rfl, hgp, hrp, _⟩ := HV.out.elem (ptE_at hp0)
   have HPw : Hid (∀ X, Below W0.heap.size W0 X → X.rangeAt gp (op + i * 2) [.int .i64 p.1, .int .i64 p.2]) := hH (fun X hX => rangeAt_below hrp hX hgp)
   have HRp : Hid (∀ X, Below wr.heap.size wr X → X.rangeAt gp (op + i * 2) [.int .i64 p.1, .int .i64 p.2]) := hH (fun X hX => HPw.out X (HBr.out.trans (hX.mono HBr.out.size)))
   have HNx : Hid (dOf (cutD a b c d size) [] (ps.take (i + 1)) = match cutD a b c d size p with | some s => insD l (p, s) | none => l) := hH (by rw [List.take_add_one, hp0, Hl.out]; exact dOf_snoc _ _ _ _)
   have Hlb : Hid (l.length ≤ 1048576) := hH (by
    rw [Hl.out]
    have := dOf_len (cutD a b c d size) (ps.take i) []
    rw [List.length_take, List.length_nil] at this
    omega)
   have HCl : Hid (∀ e ∈ l, cutD a b c d size e.1 = some e.2) := hH (by rw [Hl.out]; exact dOf_cut _ _ (fun e h => by cases h))
   clear hrp hp0 hgp Hl
   have B0 := HB0.out.below HBr.out HB0.out.lt
   have B1 := HB1.out.below HBr.out HB1.out.lt
   have HB : Below wr.heap.size wr wr := Below.refl _ _
   go_upto_region 6 with (fail)
   refine cG ?_
   refine every_last 9 rfl rfl (by kernel_rfl) (by kernel_rfl) ?_
   simp only [List.take_succ_cons, List.take_zero]
   refine dB [(fun v _ => v = .agg #[.int .i64 a, .int .i64 b]), (fun v _ => v = .agg #[.int .i64 c, .int .i64 d]), (fun v _ => v = .slice (some ⟨gp, op, none⟩) n cp), (fun v _ => v = .int .i64 (i : Int)), (fun v _ => v = .pointer (some ⟨gp, op + i * 2, none⟩)), (fun v _ => v = .agg #[.int .i64 p.1, .int .i64 p.2]), (fun v _ => v = .int .i64 size), (fun v w' => CutV w' v (cutD a b c d size (p.1, p.2))), (fun v w' => ∃ q, v = .pointer (some ⟨q, 0, none⟩) ∧ wr.heap.size ≤ q ∧ Blk w' q [.bool false, .slice none 0 0, .bool false, .slice none 0 0, .bool false, .slice none 0 0, .bool false, .slice none 0 0, .bool false, .bool false, .bool false] 79)] ⟨sE, sE, sE, sE, sE, sE, sE, (fun v w w' h hr => h.call hr), (fun v w w' ⟨q, e, h0, h⟩ hr => ⟨q, e, h0, h.call hr⟩), trivial⟩ ⟨?st0, ?st1, ?st2, ?st3, ?st4, ?st5, ?st6, ?st7, ?st8, trivial⟩ ?_
   case st0 => (intro fa wz hp; have e4 := hp.o 4 (.pointer (some ⟨w.heap.size, 0, none⟩)); have q0 := B0.d hp 0; have q1 := B0.d hp 1; exact dX rfl)
   case st1 => (intro fa wz hp; have e5 := hp.o 5 (.pointer (some ⟨w.heap.size + 1, 0, none⟩)); have q0 := B1.d hp 0; have q1 := B1.d hp 1; exact dX rfl)
   case st2 => (intro fa wz hp; have e2 := hp.o 2 (.slice (some ⟨gp, op, none⟩) n cp); exact dX rfl)
   case st3 => (intro fa wz hp; have e11 := hp.o 11 (.int .i64 (i : Int)); exact dX rfl)
   case st4 => (intro fa wz hp; have e25 := hp.q 2 25; have e26 := hp.q 3 26; exact dW (x_index (i := i) (E := 37) (sz := 2) rfl (evt e25) (evt e26) (by omega) Tryz.underlying27 size_p3S) rfl)
   case st5 => (intro fa wz hp; have e27 := hp.q 4 27; have hb := hp.base; exact dW (x_row (cs := [.int .i64 p.1, .int .i64 p.2]) rfl (evt e27) (HRp.out wz hb) Tryz.underlying37 rfl size_p3S) rfl)
   case st6 => (intro fa wz hp; have e3 := hp.o 3 (.int .i64 size); exact dX rfl)
   case st7 => (intro fa wz hp; have e23 := hp.q 0 23; have e24 := hp.q 1 24; have e28 := hp.q 5 28; have e29 := hp.q 6 29; have hb := hp.base; exact dC2 (by go_simp) (cut15_any a b c d p.1 p.2 size wz a1 a2 a3 a4 hp1 hp2 z1 z2))
   case st8 => (intro fa wz hp; have hb := hp.base; refine .inl ⟨by rfl, ?_⟩; exact dagUpon_new (w' := wz.alloc (.cells #[.bool false, .slice none 0 0, .bool false, .slice none 0 0, .bool false, .slice none 0 0, .bool false, .slice none 0 0, .bool false, .bool false, .bool false] 79)) (u := .pointer (some ⟨wz.heap.size, 0, none⟩)) (by go_simp) ((Below.refl _ wz).alloc (Nat.le_refl _) _) ⟨_, rfl, hb.size, Blk.new _ _ _⟩)
   intro g w11 hb hg
   simp only [putAll, td]
   have hx11 := hg 7 _ _ rfl rfl
   replace hx11 := show (fun v w' => CutV w' v (cutD a b c d size (p.1, p.2))) (g 7) w11 from hx11
   obtain ⟨m11a, t11a, j11a, i11a, m11b, t11b, j11b, i11b, m11c, t11c, j11c, i11c, m11d, t11d, j11d, i11d, op11, ot11, so11, hf11, hso11⟩ := hx11.form
   rw [hf11] at hx11 ⊢
   have Hso11 := hH hso11
   clear hf11 hso11
   obtain ⟨b11, hq11, hle11, hB11⟩ := hg 8 _ _ rfl rfl
   rw [show g 8 = _ from hq11]
   clear hq11
   clear hg
   refine lastQ_store (b := b11) (off := 0) (u := .agg #[.bool m11a, .slice t11a j11a i11a, .bool m11b, .slice t11b j11b i11b, .bool m11c, .slice t11c j11c i11c, .bool m11d, .slice t11d j11d i11d, .bool op11, .bool ot11, .bool so11]) (by rfl) (by rfl) (by rfl) (by rfl) hB11 (by rw [size_strS]; rfl) (by simp [Value.cells, Value.oneCell']) (by simp [Value.cells]) ?_
   intro y11 hu11 hc11
   have B0 := (B0.below hb B0.lt).upd hu11 (by have := B0.lt; omega)
   have B1 := (B1.below hb B1.lt).upd hu11 (by have := B1.lt; omega)
   have hx11 := hx11.keep (KeepT.upd hB11 (by decide) hu11)
   have hz11 : wr.heap.size ≤ y11.heap.size := Nat.le_trans hb.size hu11.size
   have HB := Upd.low (HB.trans (hb.mono HB.size)) (by omega) (Nat.le_refl _) hu11
   have B111 : Blk y11 (b11) [.bool m11a, .slice t11a j11a i11a, .bool m11b, .slice t11b j11b i11b, .bool m11c, .slice t11c j11c i11c, .bool m11d, .slice t11d j11d i11d, .bool op11, .bool ot11, .bool so11] 79 := hc11
   clear hb hu11 hc11 hB11
   have HOy := hH (HOut.out.call HB)
   have HAy := hH (HAt.out.call HB)
   have HBy : Hid (Below W0.heap.size W0 y11) := hH (HBr.out.trans (HB.mono HBr.out.size))
   have HPy' : Hid (∀ X, Below y11.heap.size y11 X → X.rangeAt gp (op + i * 2) [.int .i64 p.1, .int .i64 p.2]) := hH (fun X hX => HPw.out X (HBy.out.trans (hX.mono HBy.out.size)))
   have B12 := B111
   have HXc := hH hx11
   clear HOut HAt HRp HPw B0 B1 hx11 B111
   cases hcut : cutD a b c d size p with
   | none =>
    have hso : so11 = false := by rw [Hso11.out, hcut]; rfl
    subst hso
    have HN : Hid (l = dOf (cutD a b c d size) [] (ps.take (i + 1))) := hH (by rw [HNx.out, hcut])
    have qs := B12.cell (j := 10) rfl
    clear HNx hcut Hso11 HXc B12 HB
    go_wp2_with fail
    go_roundg q
    case measure => omega
    case rel => exact ⟨i + 1, l, by omega, by go_num, HN, HOy, HAy, HBy⟩
   | some s =>
    have hso : so11 = true := by rw [Hso11.out, hcut]; rfl
    subst hso
    have HN : Hid (dOf (cutD a b c d size) [] (ps.take (i + 1)) = insD l (p, s)) := hH (by rw [HNx.out, hcut])
    have HSs := hH (cut_sm a1 a2 a3 a4 hcut)
    have HCx : Hid (∀ X, Below y11.heap.size y11 X → CutV X (.agg #[.bool m11a, .slice t11a j11a i11a, .bool m11b, .slice t11b j11b i11b, .bool m11c, .slice t11c j11c i11c, .bool m11d, .slice t11d j11d i11d, .bool op11, .bool ot11, .bool true]) (some s)) := hH (fun X hX => by
     have h := HXc.out.call hX
     rw [hcut] at h; exact h)
    have HB12 : Hid (∀ X, Below y11.heap.size y11 X → Blk X b11 [.bool m11a, .slice t11a j11a i11a, .bool m11b, .slice t11b j11b i11b, .bool m11c, .slice t11c j11c i11c, .bool m11d, .slice t11d j11d i11d, .bool op11, .bool ot11, .bool true] 79) := hH (fun X hX => B12.call hX)
    have HSl : Hid (∀ e ∈ l, SmF 100 (e.2.n, e.2.d)) := hH (fun e he => cut_sm a1 a2 a3 a4 (HCl.out e he))
    have qs := B12.cell (j := 10) rfl
    have hlt11 := B12.lt
    clear HNx hcut Hso11 HXc B12 HB HCl
    obtain ⟨es, hes, hel⟩ := HAy.out
    obtain ⟨sa, sc, e, hms, hcs⟩ := hes.form
    subst e
    obtain ⟨m, Hm⟩ : ∃ m, Hid (m = es.length) := ⟨_, hH rfl⟩
    have Hml : Hid (m = l.length) := hH (by rw [Hm.out, hel.len, List.length_map])
    rw [← Hm.out] at hes hms ⊢
    have hmb : m ≤ 1048576 := by rw [Hml.out]; exact Hlb.out
    unfold maxLen at hcs
    have HS := hH hes
    have HEl := hH hel
    clear hes hel HAy
    go_upto_block 2 with (fail)
    go_cut [13] (fun s13 wx => ∃ k : Nat, k ≤ m ∧ s13 = .int .i64 (k : Int) ∧ Hid (∀ j e, j < k → l[j]? = some e → dAhead s e.2 = false) ∧ Hid (∀ e, l[k]? = some e → dAhead s e.2 = true) ∧ Hid (Below y11.heap.size y11 wx))
    case first =>
     go_wp2_with fail
     go_loopg [13] m (fun q2 s13 wx => ∃ k : Nat, k + q2 = m ∧ s13 = .int .i64 (k : Int) ∧ Hid (∀ j e, j < k → l[j]? = some e → dAhead s e.2 = false) ∧ Hid (Below y11.heap.size y11 wx))
     case atStart => exact ⟨0, by omega, by first | rfl | simp, hH (fun j e h => by omega), hH (Below.refl _ _)⟩
     case round =>
      obtain ⟨k, hq2, rfl, Hlow, HBk⟩ := hrel
      have B12 := HB12.out _ HBk.out
      have HB := HBk.out
      have hwz := HB.size
      cases gk with
      | zero =>
       have t1 : ¬ (k : Int) < (m : Int) := by omega
       go_upto_region 9 with (fail)
       go_upto_region 9 with (fail)
       refine cG ?_
       refine cN ?_
       refine cW ?_ ?_ ?_
       refine cW ?_ ?_ ?_
       refine cW ?_ ?_ ?_
       refine cX ?_ ?_ (by intro wz hSw; have nn := t1; go_simp; all_goals with_reducible rfl) ?_
       refine cW ?_ ?_ ?_
       refine cS ?_ ?_
       refine cS ?_ ?_
       refine cS ?_ ?_
       refine cS ?_ ?_
       refine cS ?_ ?_
       refine cS ?_ ?_
       refine cS ?_ ?_
       refine cW ?_ ?_ ?_
       refine calm_end ?_
       intro w1 hS
       have hS := sO hS
       have B12 := B12.y hS
       have hz1 : wr.heap.size ≤ w1.heap.size := hS.size
       have HB := gS HB hS
       clear hS
       go_wp2_with fail
       go_meet
       case rel => exact ⟨k, by omega, rfl, Hlow, hH (fun x hx => by have := (List.getElem?_eq_some_iff.1 hx).1; have := Hml.out; omega), hH HB⟩
      | succ q2 =>
       have t1 : (k : Int) < (m : Int) := by omega
       obtain ⟨et, Het0⟩ : ∃ et, l[k]? = some et := ⟨_, List.getElem?_eq_getElem (by rw [← Hml.out]; omega)⟩
       obtain ⟨ee, hee, hre⟩ := HEl.out.get (map_at (·.2) Het0)
       obtain ⟨gs, os, rfl, hgl, hrl, hle⟩ := HS.out.elem hee
       have HLe := hH hle
       have HRl : Hid (∀ X, Below wr.heap.size wr X → X.rangeAt gs (os + k * 11) ee) := hH (fun X hX => rangeAt_below hrl (HBk.out.trans (hX.mono HBk.out.size)) hgl)
       have HRe : Hid (∀ X, Below wr.heap.size wr X → CutV X (.agg ee.toArray) (some et.2)) := hH (fun X hX => CutV.call hre (HBk.out.trans (hX.mono HBk.out.size)))
       have HCx : Hid (∀ X, Below wr.heap.size wr X → CutV X (.agg #[.bool m11a, .slice t11a j11a i11a, .bool m11b, .slice t11b j11b i11b, .bool m11c, .slice t11c j11c i11c, .bool m11d, .slice t11d j11d i11d, .bool op11, .bool ot11, .bool true]) (some s)) := hH (fun X hX => HCx.out X (HBk.out.trans (hX.mono HBk.out.size)))
       have HSe := hH (HSl.out et (List.mem_of_getElem? Het0))
       have Het := hH Het0
       clear hee hre hgl hrl hle Het0
       obtain ⟨bq, Hbq⟩ : ∃ bq : Bool, Hid ((!dAhead s et.2) = bq) := ⟨_, hH rfl⟩
       go_upto_region 9 with (fail)
       go_upto_region 9 with (fail)
       refine cG ?_
       refine cN ?_
       refine cW ?_ ?_ ?_
       refine cW ?_ ?_ ?_
       refine cW ?_ ?_ ?_
       refine cX ?_ ?_ (by intro wz hSw; have nn := t1; go_simp; all_goals with_reducible rfl) ?_
       refine cW ?_ ?_ ?_
       refine cX (.agg #[.bool m11a, .slice t11a j11a i11a, .bool m11b, .slice t11b j11b i11b, .bool m11c, .slice t11c j11c i11c, .bool m11d, .slice t11d j11d i11d, .bool op11, .bool ot11, .bool true]) ?_ (by intro wz hSw; exact load_row rfl (by rfl) (B12.y hSw.1) Tryz.underlying79 rfl size_strS) ?_
       refine cW ?_ ?_ ?_
       refine cW ?_ ?_ ?_
       refine cX (.pointer (some ⟨gs, os + k * 11, none⟩)) ?_ (by intro wz hSw; exact x_index (i := k) (E := 79) (sz := 11) rfl (by rfl) (by rfl) (by omega) Tryz.underlying72 size_strS) ?_
       refine cX (.agg ee.toArray) ?_ (by intro wz hSw; exact x_row (cs := ee) rfl (by rfl) (HRl.out _ (Stay.all hSw.1)) Tryz.underlying79 rfl (by rw [HLe.out]; exact size_strS)) ?_
       refine cC ?_ ?_ ?_ ?_ ?hc2_10 ?_
       case hc2_10 => (intro w hSw; exact ahead17_any _ _ s et.2 w (HCx.out _ (Stay.all hSw.1)) (HRe.out _ (Stay.all hSw.1)) HSs.out HSe.out)
       refine cX (.bool bq) ?_ (by intro wz hSw; exact (by have nn := Hbq.out; go_simp)) ?_
       refine cW ?_ ?_ ?_
       refine calm_end ?_
       intro w1 hS
       have hS := sO hS
       have B12 := B12.y hS
       have hz1 : wr.heap.size ≤ w1.heap.size := hS.size
       have HB := gS HB hS
       clear hS
       cases bq with
       | true =>
        have hlt : dAhead s et.2 = false := by simpa using Hbq.out
        have Hlt := hH hlt
        clear hlt
        go_wp2_with fail
        go_roundg q2
        case measure => omega
        case rel => exact ⟨k + 1, by omega, by go_num, hH (fun j x hj hx => by
         by_cases h : j < k
         ·exact Hlow.out j x h hx
         ·obtain rfl : j = k := by omega
          rw [Het.out] at hx; cases hx; exact Hlt.out), hH HB⟩
       | false =>
        have hlt : dAhead s et.2 = true := by simpa using Hbq.out
        have Hlt := hH hlt
        clear hlt
        go_wp2_with fail
        go_meet
        case rel => exact ⟨k, by omega, rfl, Hlow, hH (fun x hx => by rw [Het.out] at hx; cases hx; exact Hlt.out), hH HB⟩
    case rest =>
     obtain ⟨k, hkm, rfl, Hlow, Hup, HBk⟩ := hcut
     rename World => wk
     have hkl : k ≤ l.length := by rw [← Hml.out]; exact hkm
     have Hkl := hH hkl
     have HIn : Hid (dOf (cutD a b c d size) [] (ps.take (i + 1)) = bldD l (p, s) k (m + 1)) := hH (by rw [HN.out, insD_at (x := (p, s)) Hlow.out Hup.out hkl, Hml.out, bldD_end _ _ hkl])
     have HPk : Hid (∀ X, Below wk.heap.size wk X → X.rangeAt gp (op + i * 2) [.int .i64 p.1, .int .i64 p.2]) := hH (fun X hX => HPy'.out X (HBk.out.trans (hX.mono HBk.out.size)))
     have HOk := hH (HOy.out.call HBk.out)
     have HSk := hH (HS.out.call HBk.out)
     have HEk := hH (HEl.out.mono (fun e x h => CutV.call h HBk.out))
     have HB12 : Hid (∀ X, Below wk.heap.size wk X → Blk X b11 [.bool m11a, .slice t11a j11a i11a, .bool m11b, .slice t11b j11b i11b, .bool m11c, .slice t11c j11c i11c, .bool m11d, .slice t11d j11d i11d, .bool op11, .bool ot11, .bool true] 79) := hH (fun X hX => HB12.out X (HBk.out.trans (hX.mono HBk.out.size)))
     have HCx : Hid (∀ X, Below wk.heap.size wk X → CutV X (.agg #[.bool m11a, .slice t11a j11a i11a, .bool m11b, .slice t11b j11b i11b, .bool m11c, .slice t11c j11c i11c, .bool m11d, .slice t11d j11d i11d, .bool op11, .bool ot11, .bool true]) (some s)) := hH (fun X hX => HCx.out X (HBk.out.trans (hX.mono HBk.out.size)))
     have HBk0 : Hid (Below W0.heap.size W0 wk) := hH (HBy.out.trans (HBk.out.mono HBy.out.size))
     have hwk := HBk.out.size
     clear Hlow Hup HN HOy HS HEl hkl HPy' qs
     go_wp2_with fail
     go_loopg [14, 15, 16] (m + 1) (fun q3 s14 s15 s16 wx => ∃ (j : Nat) (es : List (List Value)), j + q3 = m + 1 ∧ s16 = .int .i64 (j : Int) ∧ Hid (OwS wx wk.heap.size 37 2 s14 (ptE ((bldD l (p, s) k j).map (·.1)))) ∧ Hid (OwS wx wk.heap.size 79 11 s15 es) ∧ Hid (EsW StE wx es ((bldD l (p, s) k j).map (·.2))) ∧ Hid (Below wk.heap.size wk wx))
     case atStart => exact ⟨0, [], by omega, by first | rfl | simp, hH (by simpa [bldD, ptE] using OwS.none wk wk.heap.size 37 2), hH (OwS.none _ _ _ _), hH (by simpa [bldD] using (EsW.nil : EsW StE wk [] [])), hH (Below.refl _ _)⟩
     case round =>
      obtain ⟨j, es, hq3, rfl, HO, HQ, HE, HB⟩ := hrel
      have HLn : Hid ((bldD l (p, s) k j).length ≤ 1048577) := hH (by have := bldD_len l (p, s) k j; have := Hml.out; omega)
      cases gk with
      | zero =>
       have hjm : j = m + 1 := by omega
       have t2 : ¬ (j : Int) ≤ (m : Int) := by omega
       rw [hjm] at HO HE
       have HD : Hid (bldD l (p, s) k (m + 1) = dOf (cutD a b c d size) [] (ps.take (i + 1))) := hH HIn.out.symm
       clear hjm HIn
       have HBn : Hid (Below W0.heap.size W0 wr) := hH (HBk0.out.trans (HB.out.mono HBk0.out.size))
       go_wp2_with fail
       go_roundg q
       case measure => omega
       case rel => exact ⟨i + 1, bldD l (p, s) k (m + 1), by omega, by go_num, HD, hH HO.out.slc, hH ⟨es, HQ.out.slc, HE.out⟩, HBn⟩
      | succ q3 =>
       have t2 : (j : Int) ≤ (m : Int) := by omega
       have HSt := hH (bldD_step l (p, s) (j := j) Hkl.out)
       go_upto_if 57 with (fail)
       go_cut [14, 15] (fun s14 s15 wx => ∃ es : List (List Value), Hid (OwS wx wk.heap.size 37 2 s14 (ptE ((bldD l (p, s) k j ++ (if j = k then [(p, s)] else [])).map (·.1)))) ∧ Hid (OwS wx wk.heap.size 79 11 s15 es) ∧ Hid (EsW StE wx es ((bldD l (p, s) k j ++ (if j = k then [(p, s)] else [])).map (·.2))) ∧ Hid (Below wk.heap.size wk wx))
       case first =>
        by_cases hjk : j = k
        ·have e2 : (j : Int) = (k : Int) := by omega
         have e1 : ((j : Int) == (k : Int)) = true := by simpa using e2
         have Hjk := hH hjk
         clear hjk
         go_upto_region 17 with (fail)
         refine pl_start ?_
         refine pM (u14) ?_
         (try simp only [td])
         refine pM (.slice (some ⟨gp, op, none⟩) n cp) ?_
         (try simp only [td])
         refine pM (.int .i64 (i : Int)) ?_
         (try simp only [td])
         refine pl_val (v := .pointer (some ⟨gp, op + i * 2, none⟩)) (by rfl) (x_index (i := i) (E := 37) (sz := 2) rfl (by rfl) (by rfl) (by omega) Tryz.underlying27 size_p3S) ?_
         (try simp only [td])
         refine pl_val (v := .agg #[.int .i64 p.1, .int .i64 p.2]) (by rfl) (x_row (cs := [.int .i64 p.1, .int .i64 p.2]) rfl (by rfl) (HPk.out _ HB.out) Tryz.underlying37 rfl size_p3S) ?_
         (try simp only [td])
         refine pl_one _ rfl 27 37 (.tmp 62) (.agg #[.int .i64 p.1, .int .i64 p.2]) (.agg #[.int .i64 0, .int .i64 0]) [.int .i64 p.1, .int .i64 p.2] rfl Tryz.underlying27 (info_small info_p3I) (by rfl) rfl (by simp) (by simp) ?_
         intro ga waa hsa hba
         have HSa := hH hsa
         have HOa := hH (HO.out.call hba)
         have HQa := hH (HQ.out.call hba)
         have HEa := hH (HE.out.mono (fun e x h => CutV.call h hba))
         have HBa := hH (HB.out.trans (hba.mono HB.out.size))
         clear hsa hba
         (try simp only [td])
         refine pl_app wk waa HBa.out rfl (.tmp 58) (.tmp 63) 27 rfl 37 (.agg #[.int .i64 0, .int .i64 0]) 2 16 Tryz.underlying27 info_p3I rfl (by decide) (u14) _ rfl HOa.out _ _ rfl HSa.out (by intro f hf u hu; rw [List.mem_singleton.1 hf] at hu; simp only [List.mem_cons, List.not_mem_nil, or_false] at hu; rcases hu with rfl | rfl <;> rfl) (by have := HLn.out; rw [ptE_len, List.length_map]; simp only [List.length_singleton]; omega) (by decide) ?_
         intro aa na ca wab hna hoa hba hka
         have HO := hH hoa
         have HQ := hH (HQa.out.keep (hka _ (by decide)))
         have HE := hH (HEa.out.mono (fun e x h => CutV.keep h (hka _ (by decide))))
         have HB := hH hba
         clear hna hoa hba hka HOa HQa HEa HBa HSa
         (try simp only [td])
         refine pM (.slice aa na ca) ?_
         (try simp only [td])
         refine pl_end ?_
         have HX := HO
         have HO := HQ
         have HQ := HX
         clear HX
         have B12 := HB12.out _ HB.out
         go_upto_region 18 with (fail)
         refine pl_start ?_
         refine pM (u15) ?_
         (try simp only [td])
         refine pl_val (v := .agg #[.bool m11a, .slice t11a j11a i11a, .bool m11b, .slice t11b j11b i11b, .bool m11c, .slice t11c j11c i11c, .bool m11d, .slice t11d j11d i11d, .bool op11, .bool ot11, .bool true]) (by rfl) (load_row rfl (by rfl) B12 Tryz.underlying79 rfl size_strS) ?_
         (try simp only [td])
         refine pl_one _ rfl 72 79 (.tmp 66) (.agg #[.bool m11a, .slice t11a j11a i11a, .bool m11b, .slice t11b j11b i11b, .bool m11c, .slice t11c j11c i11c, .bool m11d, .slice t11d j11d i11d, .bool op11, .bool ot11, .bool true]) (.agg #[.bool false, .slice none 0 0, .bool false, .slice none 0 0, .bool false, .slice none 0 0, .bool false, .slice none 0 0, .bool false, .bool false, .bool false]) [.bool m11a, .slice t11a j11a i11a, .bool m11b, .slice t11b j11b i11b, .bool m11c, .slice t11c j11c i11c, .bool m11d, .slice t11d j11d i11d, .bool op11, .bool ot11, .bool true] rfl Tryz.underlying72 (info_small info_strI) (by rfl) rfl (by simp) (by simp) ?_
         intro gb wba hsb hbb
         have HSb := hH hsb
         have HOb := hH (HO.out.call hbb)
         have HQb := hH (HQ.out.call hbb)
         have HEb := hH (HE.out.mono (fun e x h => CutV.call h hbb))
         have HBb := hH (HB.out.trans (hbb.mono HB.out.size))
         clear hsb hbb
         (try simp only [td])
         refine pl_app wk wba HBb.out rfl (.tmp 65) (.tmp 67) 72 rfl 79 (.agg #[.bool false, .slice none 0 0, .bool false, .slice none 0 0, .bool false, .slice none 0 0, .bool false, .slice none 0 0, .bool false, .bool false, .bool false]) 11 136 Tryz.underlying72 info_strI rfl (by decide) (u15) _ rfl HOb.out _ _ rfl HSb.out (by intro f hf u hu; rw [List.mem_singleton.1 hf] at hu; simp only [List.mem_cons, List.not_mem_nil, or_false] at hu; rcases hu with rfl | rfl | rfl | rfl | rfl | rfl | rfl | rfl | rfl | rfl | rfl <;> rfl) (by have := HLn.out; rw [HE.out.len, List.length_map]; simp only [List.length_singleton]; omega) (by decide) ?_
         intro ab nb cb wbb hnb hob hbb hkb
         have HO := hH hob
         have HQ := hH (HQb.out.keep (hkb _ (by decide)))
         have HE := hH (HEb.out.mono (fun e x h => CutV.keep h (hkb _ (by decide))))
         have HB := hH hbb
         clear hnb hob hbb hkb HOb HQb HEb HBb HSb
         (try simp only [td])
         refine pM (.slice ab nb cb) ?_
         (try simp only [td])
         refine pl_end ?_
         have F1 : Hid (OwS wbb wk.heap.size 37 2 (.slice aa na ca) (ptE ((bldD l (p, s) k j ++ (if j = k then [(p, s)] else [])).map (·.1)))) := hH (by
          rw [if_pos Hjk.out, List.map_append]
          have h := HQ.out
          rwa [ptE_app] at h)
         have F2 : Hid (EsW StE wbb (es ++ [[.bool m11a, .slice t11a j11a i11a, .bool m11b, .slice t11b j11b i11b, .bool m11c, .slice t11c j11c i11c, .bool m11d, .slice t11d j11d i11d, .bool op11, .bool ot11, .bool true]]) ((bldD l (p, s) k j ++ (if j = k then [(p, s)] else [])).map (·.2))) := hH (by
          rw [if_pos Hjk.out, List.map_append]
          exact HE.out.append (EsW.one (HCx.out _ HB.out)))
         clear e1 e2
         go_wp2_with fail
         go_meet
         case rel => exact ⟨_, F1, HO, F2, HB⟩
        ·have e2 : ¬ (j : Int) = (k : Int) := by omega
         have e1 : ((j : Int) == (k : Int)) = false := by simpa using e2
         have F1 : Hid (OwS wr wk.heap.size 37 2 u14 (ptE ((bldD l (p, s) k j ++ (if j = k then [(p, s)] else [])).map (·.1)))) := hH (by rw [if_neg hjk, List.append_nil]; exact HO.out)
         have F2 : Hid (EsW StE wr es ((bldD l (p, s) k j ++ (if j = k then [(p, s)] else [])).map (·.2))) := hH (by rw [if_neg hjk, List.append_nil]; exact HE.out)
         clear hjk
         go_wp2_with fail
         go_meet
         case rel => exact ⟨es, F1, HQ, F2, HB⟩
       case rest =>
        clear HO HQ HE HB
        obtain ⟨es, HO, HQ, HE, HB⟩ := hcut
        rename World => wt
        have HLn : Hid ((bldD l (p, s) k j ++ (if j = k then [(p, s)] else [])).length ≤ 1048578) := hH (by have := HLn.out; rw [List.length_append]; split <;> simp <;> omega)
        by_cases hjm : j < m
        ·have t3 : (j : Int) < (m : Int) := by omega
         obtain ⟨y, hy⟩ : ∃ y, l[j]? = some y := ⟨_, List.getElem?_eq_getElem (by rw [← Hml.out]; exact hjm)⟩
         obtain ⟨ey, hey, hry⟩ := HEk.out.get (map_at (·.2) hy)
         obtain ⟨y1, y2, y3, y4, y5, y6, y7, y8, y9, ya, yb, yc, yd, ye, yf, yg, yh, yi, rfl⟩ := StE.form hry
         obtain ⟨gs, os, rfl, hgs, hrs, _⟩ := HSk.out.elem hey
         obtain ⟨go, oo, ego, hgo, hro, _⟩ := SlC.elemV HOk.out (ptE_at (map_at (·.1) hy))
         have HPs : Hid (∀ X, Below wk.heap.size wk X → X.rangeAt gs (os + j * 11) [.bool y1, .slice y2 y3 y4, .bool y5, .slice y6 y7 y8, .bool y9, .slice ya yb yc, .bool yd, .slice ye yf yg, .bool yh, .bool yi, .bool true]) := hH (fun X hX => rangeAt_below hrs hX hgs)
         have HPy : Hid (∀ X, Below wk.heap.size wk X → X.rangeAt go (oo + j * 2) [.int .i64 y.1.1, .int .i64 y.1.2]) := hH (fun X hX => rangeAt_below hro hX hgo)
         have HRy : Hid (∀ X, Below wk.heap.size wk X → StE X [.bool y1, .slice y2 y3 y4, .bool y5, .slice y6 y7 y8, .bool y9, .slice ya yb yc, .bool yd, .slice ye yf yg, .bool yh, .bool yi, .bool true] y.2) := hH (fun X hX => CutV.call hry hX)
         have Hst : Hid (bldD l (p, s) k (j + 1) = (bldD l (p, s) k j ++ (if j = k then [(p, s)] else [])) ++ [y]) := hH (by rw [HSt.out, hy])
         obtain ⟨no', co', rfl, hno'⟩ := ego
         have hjo : j < no' := hno'
         clear hey hry hgs hrs hgo hro hy hno' HSt
         go_upto_region 20 with (fail)
         refine pl_start ?_
         refine pM (u14) ?_
         (try simp only [td])
         refine pM (.slice (some ⟨go, oo, none⟩) no' co') ?_
         (try simp only [td])
         refine pM (.int .i64 (j : Int)) ?_
         (try simp only [td])
         refine pl_val (v := .pointer (some ⟨go, oo + j * 2, none⟩)) (by rfl) (x_index (i := j) (E := 37) (sz := 2) rfl (by rfl) (by rfl) (by omega) Tryz.underlying27 size_p3S) ?_
         (try simp only [td])
         refine pl_val (v := .agg #[.int .i64 y.1.1, .int .i64 y.1.2]) (by rfl) (x_row (cs := [.int .i64 y.1.1, .int .i64 y.1.2]) rfl (by rfl) (HPy.out _ HB.out) Tryz.underlying37 rfl size_p3S) ?_
         (try simp only [td])
         refine pl_one _ rfl 27 37 (.tmp 77) (.agg #[.int .i64 y.1.1, .int .i64 y.1.2]) (.agg #[.int .i64 0, .int .i64 0]) [.int .i64 y.1.1, .int .i64 y.1.2] rfl Tryz.underlying27 (info_small info_p3I) (by rfl) rfl (by simp) (by simp) ?_
         intro gc wca hsc hbc
         have HSc := hH hsc
         have HOc := hH (HO.out.call hbc)
         have HQc := hH (HQ.out.call hbc)
         have HEc := hH (HE.out.mono (fun e x h => CutV.call h hbc))
         have HBc := hH (HB.out.trans (hbc.mono HB.out.size))
         clear hsc hbc
         (try simp only [td])
         refine pl_app wk wca HBc.out rfl (.tmp 73) (.tmp 78) 27 rfl 37 (.agg #[.int .i64 0, .int .i64 0]) 2 16 Tryz.underlying27 info_p3I rfl (by decide) (u14) _ rfl HOc.out _ _ rfl HSc.out (by intro f hf u hu; rw [List.mem_singleton.1 hf] at hu; simp only [List.mem_cons, List.not_mem_nil, or_false] at hu; rcases hu with rfl | rfl <;> rfl) (by have := HLn.out; rw [ptE_len, List.length_map]; simp only [List.length_singleton]; omega) (by decide) ?_
         intro ac nc cc wcb hnc hoc hbc hkc
         have HO := hH hoc
         have HQ := hH (HQc.out.keep (hkc _ (by decide)))
         have HE := hH (HEc.out.mono (fun e x h => CutV.keep h (hkc _ (by decide))))
         have HB := hH hbc
         clear hnc hoc hbc hkc HOc HQc HEc HBc HSc
         (try simp only [td])
         refine pM (.slice ac nc cc) ?_
         (try simp only [td])
         refine pl_end ?_
         have HX := HO
         have HO := HQ
         have HQ := HX
         clear HX
         go_upto_region 21 with (fail)
         refine pl_start ?_
         refine pM (u15) ?_
         (try simp only [td])
         refine pM (.slice (some ⟨gs, os, none⟩) m sc) ?_
         (try simp only [td])
         refine pM (.int .i64 (j : Int)) ?_
         (try simp only [td])
         refine pl_val (v := .pointer (some ⟨gs, os + j * 11, none⟩)) (by rfl) (x_index (i := j) (E := 79) (sz := 11) rfl (by rfl) (by rfl) (by omega) Tryz.underlying72 size_strS) ?_
         (try simp only [td])
         refine pl_val (v := .agg #[.bool y1, .slice y2 y3 y4, .bool y5, .slice y6 y7 y8, .bool y9, .slice ya yb yc, .bool yd, .slice ye yf yg, .bool yh, .bool yi, .bool true]) (by rfl) (x_row (cs := [.bool y1, .slice y2 y3 y4, .bool y5, .slice y6 y7 y8, .bool y9, .slice ya yb yc, .bool yd, .slice ye yf yg, .bool yh, .bool yi, .bool true]) rfl (by rfl) (HPs.out _ HB.out) Tryz.underlying79 rfl size_strS) ?_
         (try simp only [td])
         refine pl_one _ rfl 72 79 (.tmp 84) (.agg #[.bool y1, .slice y2 y3 y4, .bool y5, .slice y6 y7 y8, .bool y9, .slice ya yb yc, .bool yd, .slice ye yf yg, .bool yh, .bool yi, .bool true]) (.agg #[.bool false, .slice none 0 0, .bool false, .slice none 0 0, .bool false, .slice none 0 0, .bool false, .slice none 0 0, .bool false, .bool false, .bool false]) [.bool y1, .slice y2 y3 y4, .bool y5, .slice y6 y7 y8, .bool y9, .slice ya yb yc, .bool yd, .slice ye yf yg, .bool yh, .bool yi, .bool true] rfl Tryz.underlying72 (info_small info_strI) (by rfl) rfl (by simp) (by simp) ?_
         intro gd wda hsd hbd
         have HSd := hH hsd
         have HOd := hH (HO.out.call hbd)
         have HQd := hH (HQ.out.call hbd)
         have HEd := hH (HE.out.mono (fun e x h => CutV.call h hbd))
         have HBd := hH (HB.out.trans (hbd.mono HB.out.size))
         clear hsd hbd
         (try simp only [td])
         refine pl_app wk wda HBd.out rfl (.tmp 80) (.tmp 85) 72 rfl 79 (.agg #[.bool false, .slice none 0 0, .bool false, .slice none 0 0, .bool false, .slice none 0 0, .bool false, .slice none 0 0, .bool false, .bool false, .bool false]) 11 136 Tryz.underlying72 info_strI rfl (by decide) (u15) _ rfl HOd.out _ _ rfl HSd.out (by intro f hf u hu; rw [List.mem_singleton.1 hf] at hu; simp only [List.mem_cons, List.not_mem_nil, or_false] at hu; rcases hu with rfl | rfl | rfl | rfl | rfl | rfl | rfl | rfl | rfl | rfl | rfl <;> rfl) (by have := HLn.out; rw [HE.out.len, List.length_map]; simp only [List.length_singleton]; omega) (by decide) ?_
         intro ad nd cd wdb hnd hod hbd hkd
         have HO := hH hod
         have HQ := hH (HQd.out.keep (hkd _ (by decide)))
         have HE := hH (HEd.out.mono (fun e x h => CutV.keep h (hkd _ (by decide))))
         have HB := hH hbd
         clear hnd hod hbd hkd HOd HQd HEd HBd HSd
         (try simp only [td])
         refine pM (.slice ad nd cd) ?_
         (try simp only [td])
         refine pl_end ?_
         have F1 : Hid (OwS wdb wk.heap.size 37 2 (.slice ac nc cc) (ptE ((bldD l (p, s) k (j + 1)).map (·.1)))) := hH (by
          rw [Hst.out, List.map_append]
          have h := HQ.out
          rwa [ptE_app] at h)
         have F2 : Hid (EsW StE wdb (es ++ [[.bool y1, .slice y2 y3 y4, .bool y5, .slice y6 y7 y8, .bool y9, .slice ya yb yc, .bool yd, .slice ye yf yg, .bool yh, .bool yi, .bool true]]) ((bldD l (p, s) k (j + 1)).map (·.2))) := hH (by
          rw [Hst.out, List.map_append]
          exact HE.out.append (EsW.one (HRy.out _ HB.out)))
         go_wp2_with fail
         go_roundg q3
         case measure => omega
         case rel => exact ⟨j + 1, _, by omega, by go_num, F1, HO, F2, HB⟩
        ·have t3 : ¬ (j : Int) < (m : Int) := by omega
         have Hst : Hid (bldD l (p, s) k (j + 1) = (bldD l (p, s) k j ++ (if j = k then [(p, s)] else []))) := hH (by rw [HSt.out, List.getElem?_eq_none (by rw [← Hml.out]; omega), List.append_nil])
         rw [← Hst.out] at HO HE
         clear HSt
         go_wp2_with fail
         go_roundg q3
         case measure => omega
         case rel => exact ⟨j + 1, es, by omega, by go_num, HO, HQ, HE, HB⟩
end Go.Proofs.YthbplhglfjlngaaGreat
