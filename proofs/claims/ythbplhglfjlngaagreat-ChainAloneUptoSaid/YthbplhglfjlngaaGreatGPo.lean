/- How a slice of points, a segment and other arguments are opened out of what the statement's reading says. -/
import Derived.Test.YthbplhglfjlngaaGreatGPg
import Derived.Test.YthbplhglfjlngaaGreatGPh
import Derived.Test.YthbplhglfjlngaaGreatRows
import Derived.ChangeSame
import Derived.ChangeArms
set_option linter.unusedVariables false
set_option linter.unusedSimpArgs false
set_option maxRecDepth 100000
namespace Go.Proofs.YthbplhglfjlngaaGreat
open Go.RowKit Go.Rg Go.Wd
namespace Op
section
variable {H : Type} {enc : TypeId × Value → H} {P : Program} {w : World} {sp : Nat → Bool} {held : Bool}
theorem open_rows {A : Type} (R : List Value → A → Prop) (μ : A → Nat) {e : TypeId} {k n : Nat} (hk : P.cellsOf e = k) (a : Addr)
  (each : ∀ cs y, cs.length = k → DataW.trod enc P w 0 sp held n e cs = some y → ∃ x : A, R cs x ∧ μ x ≤ Rows.uptoBulk y.1) : ∀ (els : List (DataW H × List MemPlace)) (off : Nat),
  (∀ i, i < els.length → (w.cells? 0 (a.add ((off + i) * P.cellsOf e)) (P.cellsOf e)).bind (DataW.trod enc P w 0 sp held n e) = els[i]?) →
  ∃ (l : List A) (xs : List Value), l.length = els.length ∧ xs.length = l.length * k ∧ (∀ j x, xs[j]? = some x → w.cell? (a.add (off * k + j)) = some x) ∧ (∀ i x, l[i]? = some x → R ((xs.drop (i * k)).take k) x) ∧ (l.map μ).sum ≤ Rows.uptoBulkAll (els.map (·.1)) := by
 intro els
 induction els with
 | nil => intro off _; exact ⟨[], [], rfl, by simp, fun j x h => by simp at h, fun i x h => by simp at h, by simp⟩
 | cons y els ih =>
  intro off h
  obtain ⟨l, xs, h1, h2, h3, h4, h5⟩ := ih (off + 1) (fun i hi => by
   have := h (i + 1) (by simp; omega)
   rw [show off + 1 + i = off + (i + 1) from by omega]
   rw [this]; rfl)
  have h0 := h 0 (by simp)
  rw [Nat.add_zero, hk] at h0
  obtain ⟨cs, hcs, hy⟩ := Option.bind_eq_some_iff.1 (show _ = some y from h0)
  obtain ⟨_, hl, hc⟩ := World.cells?_some hcs
  obtain ⟨x0, hx0, hm0⟩ := each cs y hl hy
  refine ⟨x0 :: l, cs ++ xs, by simp [h1], by rw [List.length_append, hl, h2, List.length_cons, Nat.add_mul, Nat.one_mul, Nat.add_comm], ?_, ?_, ?_⟩
  ·intro j x hj
   rcases Nat.lt_or_ge j k with h | h
   ·rw [List.getElem?_append_left (by omega)] at hj
    have := hc j h
    rw [Addr.add_add] at this
    rw [this]; exact hj
   ·rw [List.getElem?_append_right (by omega), hl] at hj
    have := h3 (j - k) x hj
    have e : (off + 1) * k + (j - k) = off * k + j := by rw [Nat.add_mul, Nat.one_mul]; omega
    rw [e] at this; exact this
  ·intro i x hi
   cases i with
   | zero =>
    cases hi
    rw [Nat.zero_mul, List.drop_zero, List.take_append_of_le_length (by omega), List.take_of_length_le (by omega)]
    exact hx0
   | succ i =>
    have := h4 i x hi
    have e : (cs ++ xs).drop ((i + 1) * k) = xs.drop (i * k) := by
     rw [List.drop_append, List.drop_eq_nil_of_le (by rw [hl, Nat.add_mul, Nat.one_mul]; omega), List.nil_append, hl]
     congr 1
     rw [Nat.add_mul, Nat.one_mul]; omega
    rw [e]; exact this
  ·simp only [List.map_cons, List.sum_cons, Rows.uptoBulkAll]
   omega
theorem open_slE {A : Type} (R : List Value → A → Prop) (μ : A → Nat) {t e : TypeId} {k : Nat} (ht : P.underlying t = some (.slice e)) (hk : P.cellsOf e = k) (hk0 : 0 < k)
  (each : ∀ n cs y, cs.length = k → DataW.trod enc P w 0 sp held n e cs = some y → ∃ x : A, R cs x ∧ μ x ≤ Rows.uptoBulk y.1) {fuel : Nat} {cs : List Value} {x : DataW H × List MemPlace} (h : DataW.trod enc P w 0 sp held fuel t cs = some x) :
  ∃ (v : Value) (l : List A) (xs : List Value), cs = [v] ∧ ReadsE w w.heap.size v l.length xs ∧ xs.length = l.length * k ∧ (∀ (i : Nat) (y : A), l[i]? = some y → R ((xs.drop (i * k)).take k) y) ∧ (l.map μ).sum + 1 ≤ Rows.uptoBulk x.1 ∧ (∀ a n c, v = .slice a n c → c ≤ maxLen) := by
 rcases DataW.trod_slice ht h with ⟨rfl, rfl⟩ | ⟨a, len, cap, elems, rest, n, _, rfl, rfl, hb, hl, hm, hlen, hel, _, _⟩
 ·exact ⟨_, [], [], rfl, .inl (.inl ⟨rfl, rfl, rfl⟩), by simp, fun i y h => by simp at h, by simp [Rows.uptoBulk], fun a n c h => by cases h; exact Nat.zero_le _⟩
 ·obtain ⟨l, xs, h1, h2, h3, h4, h5⟩ := open_rows R μ hk a (each n) elems 0 (fun i hi => by rw [Nat.zero_add]; exact hel i (by omega))
  have hll : l.length = len := h1.trans hlen
  refine ⟨_, l, xs, rfl, ?_, h2, h4, ?_, fun a n c h => by cases h; exact hm⟩
  ·cases xs with
   | nil =>
    have h0 : l.length = 0 := by
     rcases Nat.eq_zero_or_pos l.length with h | h
     ·exact h
     ·have := Nat.mul_pos h hk0; rw [← h2] at this; simp at this
    exact .inr ⟨h0, rfl, a, cap, by rw [← hll, h0]⟩
   | cons y r =>
    obtain ⟨g, off, spot⟩ := a
    have c0 := h3 0 y rfl
    have hspot : spot = none := by simpa [Addr.add] using World.cell?_spot c0
    subst hspot
    have hc : ∀ j z, (y :: r)[j]? = some z → w.cell? ⟨g, off + j, none⟩ = some z := fun j z hj => by
     have := h3 j z hj
     rw [Nat.zero_mul, Nat.zero_add, WideShapes.add_plain] at this
     exact this
    have c1 := hc 0 y rfl
    refine .inl (.inr ⟨g, off, cap, by rw [hll], ?_, by omega, hm, hc⟩)
    unfold World.cell? at c1
    rcases Nat.lt_or_ge g w.heap.size with h | h
    ·exact h
    ·rw [Array.getElem?_eq_none h] at c1; simp at c1
  ·simp only [Rows.uptoBulk]
   omega
theorem open_slC {A : Type} (f : A → List Value) {t e : TypeId} {k : Nat} (ht : P.underlying t = some (.slice e)) (hk : P.cellsOf e = k) (hk0 : 0 < k) (hf : ∀ x, (f x).length = k)
  (each : ∀ n cs y, cs.length = k → DataW.trod enc P w 0 sp held n e cs = some y → ∃ x : A, cs = f x ∧ 1 ≤ Rows.uptoBulk y.1) {fuel : Nat} {cs : List Value} {x : DataW H × List MemPlace} (h : DataW.trod enc P w 0 sp held fuel t cs = some x) :
  ∃ (v : Value) (l : List A), cs = [v] ∧ SlC w v k (l.map f) ∧ l.length + 1 ≤ Rows.uptoBulk x.1 := by
 obtain ⟨v, l, xs, rfl, hr, hx, hR, hm, hcap⟩ := open_slE (fun cs (p : A) => cs = f p) (fun _ => 1) ht hk hk0 each h
 have h1 : ∀ l : List A, (l.map fun _ => 1).sum = l.length := by
  intro l
  induction l with
  | nil => rfl
  | cons p l ih => simp only [List.map_cons, List.sum_cons, List.length_cons, ih]; omega
 rw [h1] at hm
 refine ⟨v, l, rfl, ?_, hm⟩
 have hall : ∀ e ∈ l.map f, e.length = k := fun e he => by obtain ⟨x, _, rfl⟩ := List.mem_map.1 he; exact hf x
 have hlm : (l.map f).length = l.length := List.length_map _
 rcases hr with (⟨rfl, h0, _⟩ | ⟨g, off, c, rfl, hg, hn, hc, hcell⟩) | ⟨h0, _, a, c, rfl⟩
 ·have : l = [] := List.eq_nil_of_length_eq_zero h0
  subst this; exact SlC.nil w k
 ·refine ⟨_, c, by rw [hlm], by rw [hlm]; exact hn, hc, hall, fun _ => ⟨g, off, rfl, hg, fun i e hi j u hj => ?_⟩⟩
  rw [List.getElem?_map] at hi
  obtain ⟨y, hy, rfl⟩ := Option.map_eq_some_iff.1 hi
  have hRy := hR i y hy
  rw [← hRy] at hj
  rw [List.getElem?_take] at hj
  split at hj
  ·rw [List.getElem?_drop] at hj
   have := hcell _ _ hj
   rwa [← Nat.add_assoc] at this
  ·cases hj
 ·have : l = [] := List.eq_nil_of_length_eq_zero h0
  subst this
  exact ⟨some a, c, rfl, Nat.zero_le _, hcap _ _ _ rfl, by simp, fun h => absurd rfl h⟩
theorem open_i (t : TypeId) (ht : P.underlying t = some (.int .i64)) {n : Nat} {cs : List Value} {x : DataW H × List MemPlace} (h : DataW.trod enc P w 0 sp held n t cs = some x) : ∃ z : Int, cs = [.int .i64 z] ∧ Rows.uptoBulk x.1 = 1 := by
 obtain ⟨z, rfl, rfl, _⟩ := DataW.trod_int ht h
 exact ⟨z, rfl, by simp [Rows.uptoBulk]⟩
end
section
variable {H : Type} {enc : TypeId × Value → H} {w : World} {sp : Nat → Bool} {held : Bool}
theorem c_int : Tryz.prog.cellsOf 3 = 1 := by kernel_rfl
theorem c_pt : Tryz.prog.cellsOf 23 = 2 := by kernel_rfl
theorem open_pt {n : Nat} {cs : List Value} {x : DataW H × List MemPlace} (h : DataW.trod enc Tryz.prog w 0 sp held n 23 cs = some x) : ∃ p : Int × Int, cs = [.int .i64 p.1, .int .i64 p.2] ∧ 1 ≤ Rows.uptoBulk x.1 := by
 obtain ⟨xs, m, _, rfl, hl, hlen, hf⟩ := DataW.trod_struct Tryz.underlying23 h
 rw [c_pt] at hl
 match cs, hl with
 | [a, b], _ =>
  match xs, hlen with
  | [y0, y1], _ =>
   have h0 := hf 0 _ rfl
   have h1 := hf 1 _ rfl
   obtain ⟨z0, e0, m0⟩ := open_i _ Tryz.underlying3 (show DataW.trod enc Tryz.prog w 0 sp held m 3 _ = some y0 from h0)
   obtain ⟨z1, e1, m1⟩ := open_i _ Tryz.underlying3 (show DataW.trod enc Tryz.prog w 0 sp held m 3 _ = some y1 from h1)
   have e0 : ([a, b].drop 0).take (Tryz.prog.cellsOf 3) = [Value.int .i64 z0] := e0
   have e1 : ([a, b].drop 1).take (Tryz.prog.cellsOf 3) = [Value.int .i64 z1] := e1
   rw [c_int] at e0 e1
   have ea : a = .int .i64 z0 := by simpa using e0
   have eb : b = .int .i64 z1 := by simpa using e1
   refine ⟨(z0, z1), by rw [ea, eb], ?_⟩
   simp [Rows.uptoBulk]
theorem open_pts {n : Nat} {cs : List Value} {x : DataW H × List MemPlace} (h : DataW.trod enc Tryz.prog w 0 sp held n 26 cs = some x) : ∃ (v : Value) (l : List (Int × Int)), cs = [v] ∧ SlC w v 2 (ptE l) ∧ l.length + 1 ≤ Rows.uptoBulk x.1 := by
 obtain ⟨v, l, e, h1, h2⟩ := open_slC (fun p : Int × Int => [.int .i64 p.1, .int .i64 p.2]) Tryz.underlying26 c_pt (by decide) (fun _ => rfl) (fun n cs y _ hy => open_pt hy) h
 exact ⟨v, l, e, h1, h2⟩
end
end Op
end Go.Proofs.YthbplhglfjlngaaGreat
namespace Go.Proofs.YthbplhglfjlngaaGreat
open Go.RowKit Go.Rg Go.Wd
namespace Op
structure A6 where
 a : Int × Int
 b : Int × Int
 v : Value
 l : List (Int × Int)
 size : Int
abbrev aloneL (z : A6) : List Value := [.int .i64 z.a.1, .int .i64 z.a.2, .int .i64 z.b.1, .int .i64 z.b.2, z.v, .int .i64 z.size]
section
variable {H : Type} {enc : TypeId × Value → H} {w : World} {sp : Nat → Bool} {held : Bool}
theorem c_alone : Tryz.prog.cellsOf 43 = 6 := by kernel_rfl
theorem c_sl : Tryz.prog.cellsOf 26 = 1 := by kernel_rfl
theorem open_alone {n : Nat} {cs : List Value} {x : DataW H × List MemPlace} (h : DataW.trod enc Tryz.prog w 0 sp held n 43 cs = some x) : ∃ z : A6, cs = aloneL z ∧ SlC w z.v 2 (ptE z.l) ∧ z.l.length + 1 ≤ Rows.uptoBulk x.1 := by
 obtain ⟨xs, m, _, rfl, hl, hlen, hf⟩ := DataW.trod_struct Tryz.underlying43 h
 rw [c_alone] at hl
 match cs, hl with
 | [a0, a1, a2, a3, a4, a5], _ =>
  match xs, hlen with
  | [y0, y1, y2, y3], _ =>
   have h0 := hf 0 _ rfl
   have h1 := hf 1 _ rfl
   have h2 := hf 2 _ rfl
   have h3 := hf 3 _ rfl
   obtain ⟨p, e0, _⟩ := open_pt (show DataW.trod enc Tryz.prog w 0 sp held m 23 _ = some y0 from h0)
   obtain ⟨q, e1, _⟩ := open_pt (show DataW.trod enc Tryz.prog w 0 sp held m 23 _ = some y1 from h1)
   obtain ⟨v, l, e2, hs, hb⟩ := open_pts (show DataW.trod enc Tryz.prog w 0 sp held m 26 _ = some y2 from h2)
   obtain ⟨z3, e3, _⟩ := open_i _ Tryz.underlying3 (show DataW.trod enc Tryz.prog w 0 sp held m 3 _ = some y3 from h3)
   have e0 : ([a0, a1, a2, a3, a4, a5].drop 0).take (Tryz.prog.cellsOf 23) = [.int .i64 p.1, .int .i64 p.2] := e0
   have e1 : ([a0, a1, a2, a3, a4, a5].drop 2).take (Tryz.prog.cellsOf 23) = [.int .i64 q.1, .int .i64 q.2] := e1
   have e2 : ([a0, a1, a2, a3, a4, a5].drop 4).take (Tryz.prog.cellsOf 26) = [v] := e2
   have e3 : ([a0, a1, a2, a3, a4, a5].drop 5).take (Tryz.prog.cellsOf 3) = [.int .i64 z3] := e3
   rw [c_pt] at e0 e1
   rw [c_sl] at e2
   rw [c_int] at e3
   simp only [List.drop_zero, List.drop_succ_cons, List.take_succ_cons, List.take_zero, List.cons.injEq, and_true] at e0 e1 e2 e3
   refine ⟨⟨p, q, v, l, z3⟩, by rw [e0.1, e0.2, e1.1, e1.2, e2, e3], hs, ?_⟩
   simp only [List.map_cons, List.map_nil, Rows.uptoBulk, Rows.uptoBulkAll]
   omega
end
end Op
end Go.Proofs.YthbplhglfjlngaaGreat
