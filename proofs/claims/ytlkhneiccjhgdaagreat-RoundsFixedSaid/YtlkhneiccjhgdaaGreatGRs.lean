/- How a slice of points, a segment and other arguments are opened out of what the statement's reading says. -/
import Derived.Test.YtlkhneiccjhgdaaGreatGRr
import Derived.Test.YtlkhneiccjhgdaaGreatRows
import Derived.ChangeSame
import Derived.ChangeArms
import Derived.Test.YtlkhneiccjhgdaaGreatGRq
set_option linter.unusedVariables false
set_option linter.unusedSimpArgs false
set_option maxRecDepth 100000
namespace Go.Proofs.YtlkhneiccjhgdaaGreat
open Go.RowKit Go.Rg Go.Wd
namespace Op
section
variable {H : Type} {enc : TypeId × Value → H} {P : Program} {w : World} {sp : Nat → Bool} {held : Bool}
theorem open_rows {A : Type} (R : List Value → A → Prop) (μ : A → Nat) {e : TypeId} {k n : Nat} (hk : P.cellsOf e = k) (a : Addr)
  (each : ∀ cs y, cs.length = k → DataW.trod enc P w 0 sp held n e cs = some y → ∃ x : A, R cs x ∧ μ x ≤ Rows.uptoBulk y.1) : ∀ (els : List (DataW H × List MemPlace)) (off : Nat),
  (∀ i, i < els.length → (w.cells? 0 (a.add ((off + i) * P.cellsOf e)) (P.cellsOf e)).bind (DataW.trod enc P w 0 sp held n e) = els[i]?) →
  ∃ (l : List A) (xs : List Value), l.length = els.length ∧ xs.length = l.length * k ∧ (∀ j x, xs[j]? = some x → w.cell? (a.add (off * k + j)) = some x) ∧ (∀ i x, l[i]? = some x → R ((xs.drop (i * k)).take k) x) ∧ (l.map μ).sum ≤ Rows.uptoBulkAll (els.map (·.1)) := by
 intro els
 induction els with
 | nil => intro off _; exact ⟨[], [], rfl, by simp, fun j x h => by simp at h, fun i x h => by simp at h, by simp⟩
 | cons y els ih =>
  intro off h
  obtain ⟨l, xs, h1, h2, h3, h4, h5⟩ := ih (off + 1) (fun i hi => by
   have := h (i + 1) (by simp; omega)
   rw [show off + 1 + i = off + (i + 1) from by omega]
   rw [this]; rfl)
  have h0 := h 0 (by simp)
  rw [Nat.add_zero, hk] at h0
  obtain ⟨cs, hcs, hy⟩ := Option.bind_eq_some_iff.1 (show _ = some y from h0)
  obtain ⟨_, hl, hc⟩ := World.cells?_some hcs
  obtain ⟨x0, hx0, hm0⟩ := each cs y hl hy
  refine ⟨x0 :: l, cs ++ xs, by simp [h1], by rw [List.length_append, hl, h2, List.length_cons, Nat.add_mul, Nat.one_mul, Nat.add_comm], ?_, ?_, ?_⟩
  ·intro j x hj
   rcases Nat.lt_or_ge j k with h | h
   ·rw [List.getElem?_append_left (by omega)] at hj
    have := hc j h
    rw [Addr.add_add] at this
    rw [this]; exact hj
   ·rw [List.getElem?_append_right (by omega), hl] at hj
    have := h3 (j - k) x hj
    have e : (off + 1) * k + (j - k) = off * k + j := by rw [Nat.add_mul, Nat.one_mul]; omega
    rw [e] at this; exact this
  ·intro i x hi
   cases i with
   | zero =>
    cases hi
    rw [Nat.zero_mul, List.drop_zero, List.take_append_of_le_length (by omega), List.take_of_length_le (by omega)]
    exact hx0
   | succ i =>
    have := h4 i x hi
    have e : (cs ++ xs).drop ((i + 1) * k) = xs.drop (i * k) := by
     rw [List.drop_append, List.drop_eq_nil_of_le (by rw [hl, Nat.add_mul, Nat.one_mul]; omega), List.nil_append, hl]
     congr 1
     rw [Nat.add_mul, Nat.one_mul]; omega
    rw [e]; exact this
  ·simp only [List.map_cons, List.sum_cons, Rows.uptoBulkAll]
   omega
theorem open_slE {A : Type} (R : List Value → A → Prop) (μ : A → Nat) {t e : TypeId} {k : Nat} (ht : P.underlying t = some (.slice e)) (hk : P.cellsOf e = k) (hk0 : 0 < k)
  (each : ∀ n cs y, cs.length = k → DataW.trod enc P w 0 sp held n e cs = some y → ∃ x : A, R cs x ∧ μ x ≤ Rows.uptoBulk y.1) {fuel : Nat} {cs : List Value} {x : DataW H × List MemPlace} (h : DataW.trod enc P w 0 sp held fuel t cs = some x) :
  ∃ (v : Value) (l : List A) (xs : List Value), cs = [v] ∧ ReadsE w w.heap.size v l.length xs ∧ xs.length = l.length * k ∧ (∀ (i : Nat) (y : A), l[i]? = some y → R ((xs.drop (i * k)).take k) y) ∧ (l.map μ).sum + 1 ≤ Rows.uptoBulk x.1 ∧ (∀ a n c, v = .slice a n c → c ≤ maxLen) := by
 rcases DataW.trod_slice ht h with ⟨rfl, rfl⟩ | ⟨a, len, cap, elems, rest, n, _, rfl, rfl, hb, hl, hm, hlen, hel, _, _⟩
 ·exact ⟨_, [], [], rfl, .inl (.inl ⟨rfl, rfl, rfl⟩), by simp, fun i y h => by simp at h, by simp [Rows.uptoBulk], fun a n c h => by cases h; exact Nat.zero_le _⟩
 ·obtain ⟨l, xs, h1, h2, h3, h4, h5⟩ := open_rows R μ hk a (each n) elems 0 (fun i hi => by rw [Nat.zero_add]; exact hel i (by omega))
  have hll : l.length = len := h1.trans hlen
  refine ⟨_, l, xs, rfl, ?_, h2, h4, ?_, fun a n c h => by cases h; exact hm⟩
  ·cases xs with
   | nil =>
    have h0 : l.length = 0 := by
     rcases Nat.eq_zero_or_pos l.length with h | h
     ·exact h
     ·have := Nat.mul_pos h hk0; rw [← h2] at this; simp at this
    exact .inr ⟨h0, rfl, a, cap, by rw [← hll, h0]⟩
   | cons y r =>
    obtain ⟨g, off, spot⟩ := a
    have c0 := h3 0 y rfl
    have hspot : spot = none := by simpa [Addr.add] using World.cell?_spot c0
    subst hspot
    have hc : ∀ j z, (y :: r)[j]? = some z → w.cell? ⟨g, off + j, none⟩ = some z := fun j z hj => by
     have := h3 j z hj
     rw [Nat.zero_mul, Nat.zero_add, WideShapes.add_plain] at this
     exact this
    have c1 := hc 0 y rfl
    refine .inl (.inr ⟨g, off, cap, by rw [hll], ?_, by omega, hm, hc⟩)
    unfold World.cell? at c1
    rcases Nat.lt_or_ge g w.heap.size with h | h
    ·exact h
    ·rw [Array.getElem?_eq_none h] at c1; simp at c1
  ·simp only [Rows.uptoBulk]
   omega
theorem open_i (t : TypeId) (ht : P.underlying t = some (.int .i64)) {n : Nat} {cs : List Value} {x : DataW H × List MemPlace} (h : DataW.trod enc P w 0 sp held n t cs = some x) : ∃ z : Int, cs = [.int .i64 z] ∧ Rows.uptoBulk x.1 = 1 := by
 obtain ⟨z, rfl, rfl, _⟩ := DataW.trod_int ht h
 exact ⟨z, rfl, by simp [Rows.uptoBulk]⟩
end
section
variable {H : Type} {enc : TypeId × Value → H} {w : World} {sp : Nat → Bool} {held : Bool}
theorem c_int : Tryz.prog.cellsOf 3 = 1 := by kernel_rfl
theorem c_pt : Tryz.prog.cellsOf 41 = 2 := by kernel_rfl
theorem open_pt {n : Nat} {cs : List Value} {x : DataW H × List MemPlace} (h : DataW.trod enc Tryz.prog w 0 sp held n 41 cs = some x) : ∃ p : Int × Int, cs = [.int .i64 p.1, .int .i64 p.2] ∧ 1 ≤ Rows.uptoBulk x.1 := by
 obtain ⟨xs, m, _, rfl, hl, hlen, hf⟩ := DataW.trod_struct Tryz.underlying41 h
 rw [c_pt] at hl
 match cs, hl with
 | [a, b], _ =>
  match xs, hlen with
  | [y0, y1], _ =>
   have h0 := hf 0 _ rfl
   have h1 := hf 1 _ rfl
   obtain ⟨z0, e0, m0⟩ := open_i _ Tryz.underlying3 (show DataW.trod enc Tryz.prog w 0 sp held m 3 _ = some y0 from h0)
   obtain ⟨z1, e1, m1⟩ := open_i _ Tryz.underlying3 (show DataW.trod enc Tryz.prog w 0 sp held m 3 _ = some y1 from h1)
   have e0 : ([a, b].drop 0).take (Tryz.prog.cellsOf 3) = [Value.int .i64 z0] := e0
   have e1 : ([a, b].drop 1).take (Tryz.prog.cellsOf 3) = [Value.int .i64 z1] := e1
   rw [c_int] at e0 e1
   have ea : a = .int .i64 z0 := by simpa using e0
   have eb : b = .int .i64 z1 := by simpa using e1
   refine ⟨(z0, z1), by rw [ea, eb], ?_⟩
   simp [Rows.uptoBulk]
end
end Op
end Go.Proofs.YtlkhneiccjhgdaaGreat
namespace Go.Proofs.YtlkhneiccjhgdaaGreat
open Go.RowKit Go.Rg Go.Eo
namespace Op
section
variable {H : Type} {enc : TypeId × Value → H} {P : Program} {w : World} {sp : Nat → Bool} {held : Bool}
abbrev old (w : World) (g : Nat) : Prop := g < w.heap.size
theorem open_slR {A : Type} (E : A → List Dt) (μ : A → Nat) {t e : TypeId} {k : Nat} (ht : P.underlying t = some (.slice e)) (hk : P.cellsOf e = k) (hk0 : 0 < k)
  (each : ∀ n cs y, cs.length = k → DataW.trod enc P w 0 sp held n e cs = some y → ∃ x : A, (E x).length = k ∧ (∀ (j : Nat) (d : Dt), (E x)[j]? = some d → ∃ v : Value, cs[j]? = some v ∧ Rd w (old w) v d) ∧ μ x ≤ Rows.uptoBulk y.1) {fuel : Nat} {cs : List Value} {x : DataW H × List MemPlace} (h : DataW.trod enc P w 0 sp held fuel t cs = some x) :
  ∃ (v : Value) (l : List A), cs = [v] ∧ Rd w (old w) v (.s k (l.map E)) ∧ (l.map μ).sum + 1 ≤ Rows.uptoBulk x.1 := by
 obtain ⟨v, l, xs, rfl, hr, hx, hR, hm, hcap⟩ := open_slE (fun (cs : List Value) (x : A) => (E x).length = k ∧ ∀ (j : Nat) (d : Dt), (E x)[j]? = some d → ∃ v : Value, cs[j]? = some v ∧ Rd w (old w) v d) μ ht hk hk0 (fun n cs y h1 h2 => by obtain ⟨x, g1, g2, g3⟩ := each n cs y h1 h2; exact ⟨x, ⟨g1, g2⟩, g3⟩) h
 refine ⟨v, l, rfl, ?_, hm⟩
 have hlm : (l.map E).length = l.length := List.length_map _
 have nil : ∀ (a : Option Addr) (c : Nat), (a = none → c = 0) → c ≤ maxLen → l = [] → Rd w (old w) (.slice a l.length c) (.s k (l.map E)) := fun a c h0 h1 e => by
  subst e
  exact .s (es := []) (fun _ _ => undef) h0 (Nat.zero_le _) h1 (by simp) (fun h => absurd rfl h) (fun g off _ i e j d h => by cases h) (fun i e j d h => by cases h)
 rcases hr with (⟨rfl, h0, _⟩ | ⟨g, off, c, rfl, hg, hn, hc, hcell⟩) | ⟨h0, _, a, c, rfl⟩
 ·have e : l = [] := List.eq_nil_of_length_eq_zero h0
  have := nil none 0 (fun _ => rfl) (Nat.zero_le _) e
  rwa [e] at this ⊢
 ·have key : ∀ (i : Nat) (e : List Dt) (j : Nat) (d : Dt), (l.map E)[i]? = some e → e[j]? = some d → ∃ v : Value, xs[i * k + j]? = some v ∧ Rd w (old w) v d := fun i e j d hi hj => by
   rw [List.getElem?_map] at hi
   obtain ⟨y, hy, rfl⟩ := Option.map_eq_some_iff.1 hi
   obtain ⟨q1, q2⟩ := hR i y hy
   obtain ⟨v, hv, hd⟩ := q2 j d hj
   rw [List.getElem?_take] at hv
   split at hv
   ·rw [List.getElem?_drop] at hv
    exact ⟨v, hv, hd⟩
   ·cases hv
  have := Rd.s (w := w) (ι := old w) (a := some ⟨g, off, none⟩) (c := c) (z := k) (es := l.map E) (fun i j => xs.getD (i * k + j) undef) (fun h => by cases h) (by rw [hlm]; exact hn) hc (fun e he => by obtain ⟨x, hx', rfl⟩ := List.mem_map.1 he; obtain ⟨i, hi⟩ := List.getElem?_of_mem hx'; exact (hR i x hi).1) (fun _ => ⟨g, off, rfl, hg⟩)
   (fun g' off' he i e j d hi hj => by
    cases he
    obtain ⟨v, hv, _⟩ := key i e j d hi hj
    show _ = some _
    rw [List.getD_eq_getElem?_getD, hv]
    exact hcell _ _ hv)
   (fun i e j d hi hj => by
    obtain ⟨v, hv, hd⟩ := key i e j d hi hj
    rw [List.getD_eq_getElem?_getD, hv]
    exact hd)
  rwa [hlm] at this
 ·have e : l = [] := List.eq_nil_of_length_eq_zero h0
  have := nil (some a) c (fun h => by cases h) (hcap _ _ _ rfl) e
  rwa [e] at this ⊢
theorem rd_slV {v : Value} {z : Nat} {es : List (List Dt)} (h : Rd w (old w) v (.s z es)) : slV v = v := by cases h; rfl
theorem rd_ints {zs : List Int} {cs : List Value} (h : cs = zs.map fun z => .int .i64 z) : ∀ (j : Nat) (d : Dt), (zs.map fun z => Dt.v (.int .i64 z))[j]? = some d → ∃ v : Value, cs[j]? = some v ∧ Rd w (old w) v d := fun j d hj => by
 subst h
 rw [List.getElem?_map] at hj ⊢
 obtain ⟨z, hz, rfl⟩ := Option.map_eq_some_iff.1 hj
 rw [hz]
 exact ⟨_, rfl, .v _ rfl⟩
end
section
variable {H : Type} {enc : TypeId × Value → H} {w : World} {sp : Nat → Bool} {held : Bool}
theorem openR_pts {n : Nat} {cs : List Value} {x : DataW H × List MemPlace} (h : DataW.trod enc Tryz.prog w 0 sp held n 22 cs = some x) : ∃ (v : Value) (l : List (Int × Int)), cs = [v] ∧ Rd w (old w) v (.s 2 (l.map fun p => [.v (.int .i64 p.1), .v (.int .i64 p.2)])) ∧ l.length + 1 ≤ Rows.uptoBulk x.1 := by
 obtain ⟨v, l, e, h1, h2⟩ := open_slR (fun p : Int × Int => [.v (.int .i64 p.1), .v (.int .i64 p.2)]) (fun _ => 1) Tryz.underlying22 c_pt (by decide) (fun n cs y _ hy => by obtain ⟨p, rfl, hb⟩ := open_pt hy; exact ⟨p, rfl, rd_ints (zs := [p.1, p.2]) rfl, hb⟩) h
 refine ⟨v, l, e, h1, ?_⟩
 have : ∀ l : List (Int × Int), (l.map fun _ => 1).sum = l.length := fun l => by induction l with | nil => rfl | cons a l ih => rw [List.map_cons, List.sum_cons, List.length_cons, ih]; omega
 rwa [this] at h2
theorem c_sg4 : Tryz.prog.cellsOf 43 = 4 := by kernel_rfl
theorem open_seg4 {n : Nat} {cs : List Value} {x : DataW H × List MemPlace} (h : DataW.trod enc Tryz.prog w 0 sp held n 43 cs = some x) : ∃ s : Int × Int × Int × Int, cs = [.int .i64 s.1, .int .i64 s.2.1, .int .i64 s.2.2.1, .int .i64 s.2.2.2] ∧ 1 ≤ Rows.uptoBulk x.1 := by
 obtain ⟨xs, m, _, rfl, hl, hlen, hf⟩ := DataW.trod_struct Tryz.underlying43 h
 rw [c_sg4] at hl
 match cs, hl with
 | [a0, a1, a2, a3], _ =>
  match xs, hlen with
  | [y0, y1], _ =>
   have h0 := hf 0 _ rfl
   have h1 := hf 1 _ rfl
   obtain ⟨p, e0, _⟩ := open_pt (show DataW.trod enc Tryz.prog w 0 sp held m 41 _ = some y0 from h0)
   obtain ⟨q, e1, _⟩ := open_pt (show DataW.trod enc Tryz.prog w 0 sp held m 41 _ = some y1 from h1)
   have e0 : ([a0, a1, a2, a3].drop 0).take (Tryz.prog.cellsOf 41) = [.int .i64 p.1, .int .i64 p.2] := e0
   have e1 : ([a0, a1, a2, a3].drop 2).take (Tryz.prog.cellsOf 41) = [.int .i64 q.1, .int .i64 q.2] := e1
   rw [c_pt] at e0 e1
   simp only [List.drop_zero, List.drop_succ_cons, List.take_succ_cons, List.take_zero, List.cons.injEq, and_true] at e0 e1
   refine ⟨(p.1, p.2, q.1, q.2), by rw [e0.1, e0.2, e1.1, e1.2], ?_⟩
   simp [Rows.uptoBulk]
theorem openR_segs {n : Nat} {cs : List Value} {x : DataW H × List MemPlace} (h : DataW.trod enc Tryz.prog w 0 sp held n 23 cs = some x) : ∃ (v : Value) (l : List (Int × Int × Int × Int)), cs = [v] ∧ Rd w (old w) v (.s 4 (l.map fun s => [.v (.int .i64 s.1), .v (.int .i64 s.2.1), .v (.int .i64 s.2.2.1), .v (.int .i64 s.2.2.2)])) := by
 obtain ⟨v, l, e, h1, h2⟩ := open_slR (fun s : Int × Int × Int × Int => [.v (.int .i64 s.1), .v (.int .i64 s.2.1), .v (.int .i64 s.2.2.1), .v (.int .i64 s.2.2.2)]) (fun _ => 1) Tryz.underlying23 c_sg4 (by decide) (fun n cs y _ hy => by obtain ⟨p, rfl, hb⟩ := open_seg4 hy; exact ⟨p, rfl, rd_ints (zs := [p.1, p.2.1, p.2.2.1, p.2.2.2]) rfl, hb⟩) h
 exact ⟨v, l, e, h1⟩
structure CaseD where
 v : Value
 u : Value
 ps : List (Int × Int)
 ss : List (Int × Int × Int × Int)
 size : Int
 rounds : Int
abbrev caseL (z : CaseD) : List Value := [z.v, z.u, .int .i64 z.size, .int .i64 z.rounds]
structure CaseD.Ok (w : World) (z : CaseD) : Prop where
 v : Rd w (old w) z.v (.s 2 (z.ps.map fun p => [.v (.int .i64 p.1), .v (.int .i64 p.2)]))
 u : Rd w (old w) z.u (.s 4 (z.ss.map fun s => [.v (.int .i64 s.1), .v (.int .i64 s.2.1), .v (.int .i64 s.2.2.1), .v (.int .i64 s.2.2.2)]))
theorem c_case : Tryz.prog.cellsOf 25 = 4 := by kernel_rfl
theorem c_sl1 : Tryz.prog.cellsOf 22 = 1 := by kernel_rfl
theorem c_sl2 : Tryz.prog.cellsOf 23 = 1 := by kernel_rfl
theorem open_case {n : Nat} {cs : List Value} {x : DataW H × List MemPlace} (h : DataW.trod enc Tryz.prog w 0 sp held n 25 cs = some x) : ∃ z : CaseD, cs = caseL z ∧ z.Ok w := by
 obtain ⟨xs, m, _, rfl, hl, hlen, hf⟩ := DataW.trod_struct Tryz.underlying25 h
 rw [c_case] at hl
 match cs, hl with
 | [a0, a1, a2, a3], _ =>
  match xs, hlen with
  | [y0, y1, y2, y3], _ =>
   have h0 := hf 0 _ rfl
   have h1 := hf 1 _ rfl
   have h2 := hf 2 _ rfl
   have h3 := hf 3 _ rfl
   obtain ⟨v, ps, e0, r0, _⟩ := openR_pts (show DataW.trod enc Tryz.prog w 0 sp held m 22 _ = some y0 from h0)
   obtain ⟨u, ss, e1, r1⟩ := openR_segs (show DataW.trod enc Tryz.prog w 0 sp held m 23 _ = some y1 from h1)
   obtain ⟨z2, e2, _⟩ := open_i _ Tryz.underlying3 (show DataW.trod enc Tryz.prog w 0 sp held m 3 _ = some y2 from h2)
   obtain ⟨z3, e3, _⟩ := open_i _ Tryz.underlying3 (show DataW.trod enc Tryz.prog w 0 sp held m 3 _ = some y3 from h3)
   have e0 : ([a0, a1, a2, a3].drop 0).take (Tryz.prog.cellsOf 22) = [v] := e0
   have e1 : ([a0, a1, a2, a3].drop 1).take (Tryz.prog.cellsOf 23) = [u] := e1
   have e2 : ([a0, a1, a2, a3].drop 2).take (Tryz.prog.cellsOf 3) = [.int .i64 z2] := e2
   have e3 : ([a0, a1, a2, a3].drop 3).take (Tryz.prog.cellsOf 3) = [.int .i64 z3] := e3
   rw [c_sl1] at e0
   rw [c_sl2] at e1
   rw [c_int] at e2 e3
   simp only [List.drop_zero, List.drop_succ_cons, List.take_succ_cons, List.take_zero, List.cons.injEq, and_true] at e0 e1 e2 e3
   exact ⟨⟨v, u, ps, ss, z2, z3⟩, by rw [e0, e1, e2, e3], r0, r1⟩
end
end Op
theorem law_case {F : Nat} (h : ∀ (ps : List (Int × Int)) (ss : List (Int × Int × Int × Int)) (size rounds : Int), FnP Tryz.prog F [.sl 2 (ps.map fun p : Int × Int => [.v (.int .i64 p.1), .v (.int .i64 p.2)]), .sl 4 (ss.map fun s : Int × Int × Int × Int => [.v (.int .i64 s.1), .v (.int .i64 s.2.1), .v (.int .i64 s.2.2.1), .v (.int .i64 s.2.2.2)])] [.g [.w 0, .w 1, .v (.int .i64 size), .v (.int .i64 rounds)]]
  [.sl 2 (ps.map fun p : Int × Int => [.v (.int .i64 p.1), .v (.int .i64 p.2)]), .sl 4 (ss.map fun s : Int × Int × Int × Int => [.v (.int .i64 s.1), .v (.int .i64 s.2.1), .v (.int .i64 s.2.2.1), .v (.int .i64 s.2.2.2)])] [] (.a (.v (.bool true)))) (z : Op.CaseD) (w : World) (hz : z.Ok w) :
  Calls Tryz.prog F #[.agg (Op.caseL z).toArray] w fun e w' => e = .returned (.bool true) ∧ Below w.heap.size w w' := by
 have := calls_rdr (h z.ps z.ss z.size z.rounds) rfl (fun j => match j with
  | 0 => z.v
  | 1 => z.u
  | _ => undef) w (fun j zz es hj => by
   match j, hj with
   | 0, hj => cases hj; exact hz.v
   | 1, hj => cases hj; exact hz.u
   | j + 2, hj => cases hj)
 simp only [List.map_cons, List.map_nil, AV.c, AC.c, Op.rd_slV hz.v, Op.rd_slV hz.u] at this
 exact this
end Go.Proofs.YtlkhneiccjhgdaaGreat
