/- How a slice of any elements is opened out of what the statement's reading says: its cells, its elements, its bulk. -/
import Derived.Test.YtegkdkilbnighaaGSp3
import Derived.Test.YtegkdkilbnighaaRows
import Derived.ChangeSame
import Derived.ChangeArms
import Derived.Test.YtegkdkilbnighaaGSp6

set_option linter.unusedVariables false
set_option linter.unusedSimpArgs false
namespace Go.Proofs.Ytegkdkilbnighaa
open Go.RowKit Go.Rg

section
variable {H : Type} {enc : TypeId × Value → H} {P : Program} {w : World} {sp : Nat → Bool} {held : Bool}

theorem bulk_one (d : DataW H) : 1 ≤ Rows.uptoBulk d := by
  cases d with
  | lit l => cases l <;> simp [Rows.uptoBulk]
  | nil => simp [Rows.uptoBulk]
  | ptr d => simp [Rows.uptoBulk]
  | slice elems spare => simp [Rows.uptoBulk]
  | agg parts => simp [Rows.uptoBulk]
  | iface t d => simp [Rows.uptoBulk]
  | map entries => simp [Rows.uptoBulk]
  | held h => simp [Rows.uptoBulk]

/-- the cells of the elements from one place on -/
theorem open_rows {A : Type} (R : List Value → A → Prop) (μ : A → Nat) {e : TypeId} {k n : Nat} (hk : P.cellsOf e = k) (a : Addr)
    (each : ∀ cs y, cs.length = k → DataW.trod enc P w 0 sp held n e cs = some y → ∃ x : A, R cs x ∧ μ x ≤ Rows.uptoBulk y.1) : ∀ (els : List (DataW H × List MemPlace)) (off : Nat),
    (∀ i, i < els.length → (w.cells? 0 (a.add ((off + i) * P.cellsOf e)) (P.cellsOf e)).bind (DataW.trod enc P w 0 sp held n e) = els[i]?) →
    ∃ (l : List A) (xs : List Value), l.length = els.length ∧ xs.length = l.length * k ∧ (∀ j x, xs[j]? = some x → w.cell? (a.add (off * k + j)) = some x) ∧ (∀ i x, l[i]? = some x → R ((xs.drop (i * k)).take k) x) ∧ (l.map μ).sum ≤ Rows.uptoBulkAll (els.map (·.1)) := by
  intro els
  induction els with
  | nil => intro off _; exact ⟨[], [], rfl, by simp, fun j x h => by simp at h, fun i x h => by simp at h, by simp⟩
  | cons y els ih =>
    intro off h
    obtain ⟨l, xs, h1, h2, h3, h4, h5⟩ := ih (off + 1) (fun i hi => by
      have := h (i + 1) (by simp; omega)
      rw [show off + 1 + i = off + (i + 1) from by omega]
      rw [this]; rfl)
    have h0 := h 0 (by simp)
    rw [Nat.add_zero, hk] at h0
    obtain ⟨cs, hcs, hy⟩ := Option.bind_eq_some_iff.1 (show _ = some y from h0)
    obtain ⟨_, hl, hc⟩ := World.cells?_some hcs
    obtain ⟨x0, hx0, hm0⟩ := each cs y hl hy
    refine ⟨x0 :: l, cs ++ xs, by simp [h1], by rw [List.length_append, hl, h2, List.length_cons, Nat.add_mul, Nat.one_mul, Nat.add_comm], ?_, ?_, ?_⟩
    · intro j x hj
      rcases Nat.lt_or_ge j k with h | h
      · rw [List.getElem?_append_left (by omega)] at hj
        have := hc j h
        rw [Addr.add_add] at this
        rw [this]; exact hj
      · rw [List.getElem?_append_right (by omega), hl] at hj
        have := h3 (j - k) x hj
        have e : (off + 1) * k + (j - k) = off * k + j := by rw [Nat.add_mul, Nat.one_mul]; omega
        rw [e] at this; exact this
    · intro i x hi
      cases i with
      | zero =>
        cases hi
        rw [Nat.zero_mul, List.drop_zero, List.take_append_of_le_length (by omega), List.take_of_length_le (by omega)]
        exact hx0
      | succ i =>
        have := h4 i x hi
        have e : (cs ++ xs).drop ((i + 1) * k) = xs.drop (i * k) := by
          rw [List.drop_append, List.drop_eq_nil_of_le (by rw [hl, Nat.add_mul, Nat.one_mul]; omega), List.nil_append, hl]
          congr 1
          rw [Nat.add_mul, Nat.one_mul]; omega
        rw [e]; exact this
    · simp only [List.map_cons, List.sum_cons, Rows.uptoBulkAll]
      omega
theorem bulkAll_append (l r : List (DataW H)) : Rows.uptoBulkAll (l ++ r) = Rows.uptoBulkAll l + Rows.uptoBulkAll r := by
  induction l with
  | nil => simp [Rows.uptoBulkAll]
  | cons x l ih => simp only [List.cons_append, Rows.uptoBulkAll, ih]; omega

/-- a slice: its cells, its elements, its bulk -/
theorem open_sl {A : Type} (R : List Value → A → Prop) (μ : A → Nat) {t e : TypeId} {k : Nat} (ht : P.underlying t = some (.slice e)) (hk : P.cellsOf e = k) (hk0 : 0 < k)
    (each : ∀ n cs y, cs.length = k → DataW.trod enc P w 0 sp held n e cs = some y → ∃ x : A, R cs x ∧ μ x ≤ Rows.uptoBulk y.1) {fuel : Nat} {cs : List Value} {x : DataW H × List MemPlace} (h : DataW.trod enc P w 0 sp held fuel t cs = some x) :
    ∃ (v : Value) (l : List A) (xs : List Value), cs = [v] ∧ RdC w v l.length xs ∧ xs.length = l.length * k ∧ (∀ (i : Nat) (y : A), l[i]? = some y → R ((xs.drop (i * k)).take k) y) ∧ (l.map μ).sum + 1 ≤ Rows.uptoBulk x.1 := by
  rcases DataW.trod_slice ht h with ⟨rfl, rfl⟩ | ⟨a, len, cap, elems, rest, n, _, rfl, rfl, hb, hl, hm, hlen, hel, _, _⟩
  · exact ⟨_, [], [], rfl, ⟨none, 0, rfl, Nat.zero_le _, fun h => absurd rfl h⟩, by simp, fun i y h => by simp at h, by simp [Rows.uptoBulk]⟩
  · obtain ⟨l, xs, h1, h2, h3, h4, h5⟩ := open_rows R μ hk a (each n) elems 0 (fun i hi => by rw [Nat.zero_add]; exact hel i (by omega))
    have hll : l.length = len := h1.trans hlen
    refine ⟨_, l, xs, rfl, ⟨some a, cap, by rw [hll], by rw [hll]; omega, fun hx => ?_⟩, h2, h4, ?_⟩
    · obtain ⟨g, off, spot⟩ := a
      obtain ⟨y, hy⟩ : ∃ y, xs[0]? = some y := by
        cases xs with
        | nil => exact absurd rfl hx
        | cons y r => exact ⟨y, rfl⟩
      have c0 := h3 0 y hy
      have hspot : spot = none := by simpa [Addr.add] using World.cell?_spot c0
      subst hspot
      have hc : ∀ j z, xs[j]? = some z → w.cell? ⟨g, off + j, none⟩ = some z := fun j z hj => by
        have := h3 j z hj
        rw [Nat.zero_mul, Nat.zero_add, WideShapes.add_plain] at this
        exact this
      have c1 := hc 0 y hy
      refine ⟨g, off, rfl, by omega, hm, ?_, hc⟩
      unfold World.cell? at c1
      rcases Nat.lt_or_ge g w.heap.size with h | h
      · exact h
      · rw [Array.getElem?_eq_none h] at c1; simp at c1
    · simp only [Rows.uptoBulk]
      omega
theorem open_i (t : TypeId) (ht : P.underlying t = some (.int .i64)) {n : Nat} {cs : List Value} {x : DataW H × List MemPlace} (h : DataW.trod enc P w 0 sp held n t cs = some x) : ∃ z : Int, cs = [.int .i64 z] ∧ Rows.uptoBulk x.1 = 1 := by
  obtain ⟨z, rfl, rfl, _⟩ := DataW.trod_int ht h
  exact ⟨z, rfl, by simp [Rows.uptoBulk]⟩
theorem open_s (t : TypeId) (ht : P.underlying t = some .string) {n : Nat} {cs : List Value} {x : DataW H × List MemPlace} (h : DataW.trod enc P w 0 sp held n t cs = some x) : ∃ z : Lx.Str, cs = [.string ⟨z.toArray⟩] ∧ Rows.uptoBulk x.1 = z.length + 1 := by
  obtain ⟨z, rfl, rfl, _⟩ := DataW.trod_string ht h
  exact ⟨z.data.toList, rfl, by simp [Rows.uptoBulk]⟩
end

def muP (p : Wk.Pr) : Nat := p.1.length + p.2.length + 3
def muL (l : List Wk.Pr) : Nat := (l.map muP).sum + 1
def muLs (l : List (List Wk.Pr)) : Nat := (l.map muL).sum + 1
def muG (g : GA) : Nat := muLs g.lists + (g.sizes.map fun _ => 1).sum + 4

section
variable {H : Type} {enc : TypeId × Value → H} {w : World} {sp : Nat → Bool} {held : Bool}
theorem c_str : Try.prog.cellsOf 9 = 1 := by kernel_rfl
theorem c_int : Try.prog.cellsOf 3 = 1 := by kernel_rfl
theorem c_pair : Try.prog.cellsOf 47 = 2 := by kernel_rfl
theorem c_list : Try.prog.cellsOf 48 = 1 := by kernel_rfl
theorem c_lists : Try.prog.cellsOf 37 = 1 := by kernel_rfl
theorem c_ints : Try.prog.cellsOf 38 = 1 := by kernel_rfl
theorem c_geo : Try.prog.cellsOf 40 = 4 := by kernel_rfl

set_option maxRecDepth 100000 in
theorem open_pair {n : Nat} {cs : List Value} {x : DataW H × List MemPlace} (h : DataW.trod enc Try.prog w 0 sp held n 47 cs = some x) : ∃ p : Wk.Pr, cs = [.string ⟨p.1.toArray⟩, .string ⟨p.2.toArray⟩] ∧ muP p ≤ Rows.uptoBulk x.1 := by
  obtain ⟨xs, m, _, rfl, hl, hlen, hf⟩ := DataW.trod_struct Try.underlying47 h
  rw [c_pair] at hl
  match cs, hl with
  | [a, b], _ =>
    match xs, hlen with
    | [y0, y1], _ =>
      have h0 := hf 0 _ rfl
      have h1 := hf 1 _ rfl
      obtain ⟨z0, e0, m0⟩ := open_s _ Try.underlying9 (show DataW.trod enc Try.prog w 0 sp held m 9 _ = some y0 from h0)
      obtain ⟨z1, e1, m1⟩ := open_s _ Try.underlying9 (show DataW.trod enc Try.prog w 0 sp held m 9 _ = some y1 from h1)
      have e0 : ([a, b].drop 0).take (Try.prog.cellsOf 9) = [Value.string ⟨z0.toArray⟩] := e0
      have e1 : ([a, b].drop 1).take (Try.prog.cellsOf 9) = [Value.string ⟨z1.toArray⟩] := e1
      rw [c_str] at e0 e1
      have ea : a = .string ⟨z0.toArray⟩ := by simpa using e0
      have eb : b = .string ⟨z1.toArray⟩ := by simpa using e1
      refine ⟨(z0, z1), by rw [ea, eb], ?_⟩
      simp only [Rows.uptoBulk, Rows.uptoBulkAll, List.map_cons, List.map_nil]
      unfold muP
      simp only; omega
theorem open_list {n : Nat} {cs : List Value} {x : DataW H × List MemPlace} (h : DataW.trod enc Try.prog w 0 sp held n 48 cs = some x) : ∃ (v : Value) (l : List Wk.Pr), cs = [v] ∧ RdC w v l.length (flatP l) ∧ muL l ≤ Rows.uptoBulk x.1 := by
  obtain ⟨v, l, xs, rfl, hr, hx, hR, hm⟩ := open_sl (fun cs p => cs = [.string ⟨p.1.toArray⟩, .string ⟨p.2.toArray⟩]) muP Try.underlying48 c_pair (by decide) (fun n cs y _ hy => by
    obtain ⟨p, hp, hm⟩ := open_pair hy; exact ⟨p, hp, hm⟩) h
  refine ⟨v, l, rfl, ?_, hm⟩
  have : ∀ (l : List Wk.Pr) (xs : List Value), xs.length = l.length * 2 → (∀ (i : Nat) (y : Wk.Pr), l[i]? = some y → (xs.drop (i * 2)).take 2 = [.string ⟨y.1.toArray⟩, .string ⟨y.2.toArray⟩]) → xs = flatP l := by
    intro l
    induction l with
    | nil => intro xs h _; exact List.eq_nil_of_length_eq_zero (by simpa using h)
    | cons p l ih =>
      intro xs h hy
      have h0 := hy 0 p rfl
      match xs, h with
      | a :: b :: xs, h =>
        have := ih xs (by simp at h; omega) (fun i y hi => by
          have := hy (i + 1) y hi
          rw [show (i + 1) * 2 = i * 2 + 1 + 1 from by omega] at this
          exact this)
        have h0' : [a, b] = [Value.string ⟨p.1.toArray⟩, .string ⟨p.2.toArray⟩] := h0
        simp only [List.cons.injEq, and_true] at h0'
        rw [this, h0'.1, h0'.2]; rfl
  rw [← this l xs hx hR]; exact hr
theorem one_each {A : Type} (R : Value → A → Prop) : ∀ (l : List A) (xs : List Value), xs.length = l.length * 1 → (∀ (i : Nat) (y : A), l[i]? = some y → ∃ v, (xs.drop (i * 1)).take 1 = [v] ∧ R v y) → ∀ (i : Nat) (y : A), l[i]? = some y → ∃ v, xs[i]? = some v ∧ R v y := by
  intro l xs hl h i y hi
  obtain ⟨v, hv, hR⟩ := h i y hi
  refine ⟨v, ?_, hR⟩
  rw [Nat.mul_one] at hv
  have : (xs.drop i)[0]? = some v := by
    cases hd : xs.drop i with
    | nil => rw [hd] at hv; simp at hv
    | cons a r => rw [hd] at hv; simp at hv; rw [hv]; rfl
  rw [List.getElem?_drop] at this; exact this
theorem open_lists {n : Nat} {cs : List Value} {x : DataW H × List MemPlace} (h : DataW.trod enc Try.prog w 0 sp held n 37 cs = some x) : ∃ (v : Value) (ls : List (List Wk.Pr)) (vs : List Value), cs = [v] ∧ vs.length = ls.length ∧ RdC w v ls.length vs ∧ LsC w vs ls ∧ muLs ls ≤ Rows.uptoBulk x.1 := by
  obtain ⟨v, l, xs, rfl, hr, hx, hR, hm⟩ := open_sl (fun cs (l : List Wk.Pr) => ∃ v, cs = [v] ∧ RdC w v l.length (flatP l)) muL Try.underlying37 c_list (by decide) (fun n cs y _ hy => by
    obtain ⟨v, l, e, hr, hm⟩ := open_list hy; exact ⟨l, ⟨v, e, hr⟩, hm⟩) h
  exact ⟨v, l, xs, rfl, by omega, hr, one_each (fun v (l : List Wk.Pr) => RdC w v l.length (flatP l)) l xs hx hR, hm⟩
theorem open_ints2 {n : Nat} {cs : List Value} {x : DataW H × List MemPlace} (h : DataW.trod enc Try.prog w 0 sp held n 38 cs = some x) : ∃ (v : Value) (l : List Int), cs = [v] ∧ RdC w v l.length (intsZ l) ∧ (l.map fun _ => 1).sum + 1 ≤ Rows.uptoBulk x.1 := by
  obtain ⟨v, l, xs, rfl, hr, hx, hR, hm⟩ := open_sl (fun cs (z : Int) => ∃ v, cs = [v] ∧ v = .int .i64 z) (fun _ => 1) Try.underlying38 c_int (by decide) (fun n cs y _ hy => by
    obtain ⟨z, e, hm⟩ := open_i _ Try.underlying3 hy; exact ⟨z, ⟨_, e, rfl⟩, by omega⟩) h
  refine ⟨v, l, rfl, ?_, hm⟩
  have h2 := one_each (fun v z => v = Value.int .i64 z) l xs hx hR
  have : xs = intsZ l := by
    apply List.ext_getElem?
    intro i
    unfold intsZ
    rw [List.getElem?_map]
    cases hi : l[i]? with
    | none =>
      have := List.getElem?_eq_none_iff.1 hi
      rw [List.getElem?_eq_none (by omega)]; rfl
    | some z =>
      obtain ⟨v, hv, rfl⟩ := h2 i z hi
      rw [hv]; rfl
  rw [← this]; exact hr
set_option maxRecDepth 100000 in
theorem open_geo {n : Nat} {cs : List Value} {x : DataW H × List MemPlace} (h : DataW.trod enc Try.prog w 0 sp held n 40 cs = some x) : ∃ (g : GA) (lv zv : Value), cs = [.int .i64 g.kind, .int .i64 g.level, lv, zv] ∧ BdA w lv zv g ∧ muG g ≤ Rows.uptoBulk x.1 := by
  obtain ⟨xs, m, _, rfl, hl, hlen, hf⟩ := DataW.trod_struct Try.underlying40 h
  rw [c_geo] at hl
  match cs, hl with
  | [a, b, c, d], _ =>
    match xs, hlen with
    | [y0, y1, y2, y3], _ =>
      have h0 := hf 0 _ rfl
      have h1 := hf 1 _ rfl
      have h2 := hf 2 _ rfl
      have h3 := hf 3 _ rfl
      obtain ⟨z0, e0, m0⟩ := open_i _ Try.underlying3 (show DataW.trod enc Try.prog w 0 sp held m 3 _ = some y0 from h0)
      obtain ⟨z1, e1, m1⟩ := open_i _ Try.underlying3 (show DataW.trod enc Try.prog w 0 sp held m 3 _ = some y1 from h1)
      obtain ⟨lv, ls, vs, e2, q1, q2, q3, m2⟩ := open_lists (show DataW.trod enc Try.prog w 0 sp held m 37 _ = some y2 from h2)
      obtain ⟨zv, ss, e3, q4, m3⟩ := open_ints2 (show DataW.trod enc Try.prog w 0 sp held m 38 _ = some y3 from h3)
      have e0 : ([a, b, c, d].drop 0).take (Try.prog.cellsOf 3) = [Value.int .i64 z0] := e0
      have e1 : ([a, b, c, d].drop 1).take (Try.prog.cellsOf 3) = [Value.int .i64 z1] := e1
      have e2 : ([a, b, c, d].drop 2).take (Try.prog.cellsOf 37) = [lv] := e2
      have e3 : ([a, b, c, d].drop 3).take (Try.prog.cellsOf 38) = [zv] := e3
      rw [c_int] at e0 e1
      rw [c_lists] at e2
      rw [c_ints] at e3
      have ea : a = .int .i64 z0 := by simpa using e0
      have eb : b = .int .i64 z1 := by simpa using e1
      have ec : c = lv := by simpa using e2
      have ed : d = zv := by simpa using e3
      refine ⟨⟨z0, z1, ls, ss⟩, lv, zv, by rw [ea, eb, ec, ed], ⟨vs, q1, q2, q3, q4⟩, ?_⟩
      simp only [Rows.uptoBulk, Rows.uptoBulkAll, List.map_cons, List.map_nil]
      unfold muG
      simp only; omega
/-- the geometries that the reading tells: where they lie, and their bulk -/
theorem open_geos {n : Nat} {cs : List Value} {x : DataW H × List MemPlace} (h : DataW.trod enc Try.prog w 0 sp held n 23 cs = some x) : ∃ (v : Value) (l : List GA) (xs : List Value), cs = [v] ∧ RdC w v l.length xs ∧ GsC w xs l ∧ (l.map muG).sum + 1 ≤ Rows.uptoBulk x.1 := by
  obtain ⟨v, l, xs, rfl, hr, hx, hR, hm⟩ := open_sl (fun cs (g : GA) => ∃ lv zv, cs = [.int .i64 g.kind, .int .i64 g.level, lv, zv] ∧ BdA w lv zv g) muG Try.underlying23 c_geo (by decide) (fun n cs y _ hy => by
    obtain ⟨g, lv, zv, e, hb, hm⟩ := open_geo hy; exact ⟨g, ⟨lv, zv, e, hb⟩, hm⟩) h
  refine ⟨v, l, xs, rfl, hr, fun i g hi => ?_, hm⟩
  obtain ⟨lv, zv, e, hb⟩ := hR i g hi
  have hat : ∀ j : Nat, j < 4 → xs[i * 4 + j]? = ([Value.int .i64 g.kind, .int .i64 g.level, lv, zv] : List Value)[j]? := fun j hj => by
    rw [← e, List.getElem?_take, if_pos hj, List.getElem?_drop]
  exact ⟨lv, zv, hat 0 (by decide), hat 1 (by decide), hat 2 (by decide), hat 3 (by decide), hb⟩
end
end Go.Proofs.Ytegkdkilbnighaa

set_option linter.unusedVariables false
set_option linter.unusedSimpArgs false
namespace Go.Proofs.Ytegkdkilbnighaa
open Go.RowKit Go.Rg
attribute [local go_sem] Oper.semAt_some

def qP (p : Wk.Pr) : Nat := (p.1.length + p.2.length) / 8
def qL (l : List Wk.Pr) : Nat := l.length + (l.map qP).sum
def qG (g : GA) : Nat := (g.lists.length + g.sizes.length) + (g.lists.map qL).sum
def lightN (l : List GA) : Nat := l.length + (l.map qG).sum
def tk {A : Type} (f : A → Nat) (l : List A) (i : Nat) : Nat := ((l.take i).map f).sum
theorem tk_zero {A : Type} (f : A → Nat) (l : List A) : tk f l 0 = 0 := by simp [tk]
theorem tk_succ {A : Type} (f : A → Nat) (l : List A) (i : Nat) (x : A) (h : l[i]? = some x) : tk f l (i + 1) = tk f l i + f x := by
  unfold tk; rw [List.take_add_one, h, List.map_append, Wk.sum_append]; simp
theorem tk_all {A : Type} (f : A → Nat) (l : List A) : tk f l l.length = (l.map f).sum := by unfold tk; rw [List.take_length]
theorem tk_le {A : Type} (f : A → Nat) (l : List A) (i : Nat) : tk f l i ≤ (l.map f).sum := by
  unfold tk
  conv => rhs; rw [← List.take_append_drop i l, List.map_append, Wk.sum_append]
  omega

set_option maxRecDepth 100000 in
set_option maxHeartbeats 8000000 in
theorem light_any (l : List GA) (v : Value) (cs : List Value) (w : World) (h : RdC w v l.length cs) (hg : GsC w cs l) (hN : lightN l ≤ 1000000000) :
    Calls Try.prog 15 #[v] w fun e w' => e = .returned (.bool (decide (lightN l ≤ 400))) ∧ Below w.heap.size w w' := by
  obtain ⟨a, c, rfl, hm⟩ := h.form
  obtain ⟨n, hnn⟩ : ∃ n, n = l.length := ⟨_, rfl⟩
  rw [← hnn] at h hm ⊢
  have Hn := Lib.hid hnn
  have Hr := Lib.hid h
  have Hg := Lib.hid hg
  have HN := Lib.hid hN
  have hn9 : n ≤ 1000000000 := by unfold lightN at hN; omega
  clear hnn h hg hN
  unfold maxLen at hm
  go_enter Try.func15, Try.ntmps15
  go_wp2_with fail
  go_loopg [3, 14] n (fun q s3 s14 wx => ∃ i acc : Nat, i + q = n ∧ s14 = .int .i64 (i : Int) ∧ s3 = .int .i64 (acc : Int) ∧ Hid (acc = n + tk qG l i) ∧ Hid (Below w.heap.size w wx))
  case atStart => exact ⟨0, n, by omega, rfl, rfl, by unfold Hid; rw [tk_zero, Nat.add_zero], Below.refl _ _⟩
  case round =>
    obtain ⟨i, acc, hiq, rfl, rfl, Ha, Hb⟩ := hrel
    cases gk with
    | zero =>
      have hin : i = n := by omega
      subst hin
      have he : acc = lightN l := by rw [Ha.out]; unfold lightN; rw [Hn.out, tk_all]
      have He := Lib.hid he
      clear he
      go_wp2_with fail
      try rw [Exit.noGoto_ret]
      go_ret
      refine ⟨?_, Hb.out⟩
      rw [← He.out]
      first | rfl | (simp; done) | (simp; omega) | (congr 2; simp; omega)
    | succ q =>
      have hin : i < n := by omega
      obtain ⟨g, hgi⟩ : ∃ g, l[i]? = some g := ⟨_, List.getElem?_eq_getElem (by rw [← Hn.out]; exact hin)⟩
      obtain ⟨g1, o1, lv, zv, rfl, q1, q2, hB, q3, y0, y1, y2, y3⟩ := gs_at Hr.out Hg.out i g hgi
      obtain ⟨vs, hvl, hl, hvs, hzs⟩ := hB
      obtain ⟨la, lc, rfl, hlm⟩ := hl.form
      obtain ⟨za, zc, rfl, hzm⟩ := hzs.form
      have hsu := tk_succ qG l i g hgi
      have htl := tk_le qG l (i + 1)
      have hac : acc + qG g ≤ 1000000000 := by rw [Ha.out]; have := HN.out; unfold lightN at this; rw [← Hn.out] at this; omega
      have Hsu : Hid (acc + qG g = n + tk qG l (i + 1)) := by unfold Hid; rw [hsu, Ha.out]; omega
      obtain ⟨kk, lev, ls, ss⟩ := g
      simp only at hvl hl hvs hzs y0 y1 y2 y3 hlm hzm
      have x0 : wr.cell? ⟨g1, o1 + i * 4, none⟩ = _ := keepc Hb.out q3 y0
      have x1 : wr.cell? ⟨g1, o1 + i * 4 + 1, none⟩ = _ := keepc Hb.out q3 y1
      have x2 : wr.cell? ⟨g1, o1 + i * 4 + 2, none⟩ = _ := keepc Hb.out q3 y2
      have x3 : wr.cell? ⟨g1, o1 + i * 4 + 3, none⟩ = _ := keepc Hb.out q3 y3
      obtain ⟨m, hmm⟩ : ∃ m, m = ls.length := ⟨_, rfl⟩
      obtain ⟨mz, hmz⟩ : ∃ m, m = ss.length := ⟨_, rfl⟩
      have hqg : qG ⟨kk, lev, ls, ss⟩ = (m + mz) + (ls.map qL).sum := by unfold qG; rw [hmm, hmz]
      rw [hqg] at hac Hsu
      rw [← hmm] at x2 hl hlm hvl
      rw [← hmz] at x3 hzm
      obtain ⟨tot, htot⟩ : ∃ tot, tot = (ls.map qL).sum := ⟨_, rfl⟩
      rw [← htot] at hac Hsu
      have Htot := Lib.hid htot
      have Hm := Lib.hid hmm
      have Hl := Lib.hid hl
      have Hvs := Lib.hid hvs
      have hszr := Hb.out.size
      obtain ⟨Wb, hWb⟩ : ∃ Wb, wr.alloc (.cells #[.int .i64 kk, .int .i64 lev, .slice la m lc, .slice za mz zc] 40) = Wb := ⟨_, rfl⟩
      have B0 : Blk Wb wr.heap.size [.int .i64 kk, .int .i64 lev, .slice la m lc, .slice za mz zc] 40 := hWb ▸ Blk.new wr _ _
      have hBw : Below wr.heap.size wr Wb := hWb ▸ (Below.refl _ wr).alloc (Nat.le_refl _) _
      have hbw := Lib.hid (Hb.out.trans (hBw.mono hszr))
      have b2 := B0.cell (j := 2) rfl
      have b3 := B0.cell (j := 3) rfl
      unfold maxLen at hlm hzm
      clear B0 hBw y0 y1 y2 y3 hgi hsu htl hqg hl hvs hzs hvl hmm hmz htot
      go_wp2_with fail
      (try simp only [hWb])
      go_loopg [3, 30] m (fun q s3 s30 wx => ∃ k a2 : Nat, k + q = m ∧ s30 = .int .i64 (k : Int) ∧ s3 = .int .i64 (a2 : Int) ∧ Hid (a2 = acc + (m + mz) + tk qL ls k) ∧ Hid (Below w.heap.size w wx))
      case atStart => exact ⟨0, acc + (m + mz), by omega, rfl, by first | rfl | simp, by unfold Hid; rw [tk_zero, Nat.add_zero], hbw⟩
      case round =>
        obtain ⟨k, a2, hkq, rfl, rfl, Ha2, Hb2⟩ := hrel
        cases gk with
        | zero =>
          have hkm : k = m := by omega
          have Ha3 : Hid (a2 = acc + (m + mz + tot)) := by unfold Hid; rw [Ha2.out, hkm, Hm.out, tk_all, Htot.out]; omega
          have hlt : ¬ (k < m) := by omega
          clear hkm
          go_wp2_with fail
          go_roundg q
          case measure => omega
          case rel => exact ⟨i + 1, a2, by omega, by first | rfl | simp, rfl, by unfold Hid; rw [Ha3.out]; exact Hsu.out, Hb2⟩
        | succ q2 =>
          have hkm : k < m := by omega
          obtain ⟨x, hx⟩ : ∃ x, ls[k]? = some x := ⟨_, List.getElem?_eq_getElem (by rw [← Hm.out]; exact hkm)⟩
          obtain ⟨vk, hvk, hPk⟩ := Hvs.out k x hx
          obtain ⟨xa, xc, rfl, hxm, hxo⟩ := hPk
          obtain ⟨a', c', e', _, ho⟩ := Hl.out
          cases e'
          obtain ⟨g2, o2, rfl, r1, r2, r3, r4⟩ := ho (fun e => by rw [e] at hvk; cases hvk)
          have z1 : wr.cell? ⟨g2, o2 + k, none⟩ = some (.slice xa x.length xc) := keepc Hb2.out r3 (r4 _ _ hvk)
          have hsu2 := tk_succ qL ls k x hx
          have htl2 := tk_le qL ls (k + 1)
          rw [← Htot.out] at htl2
          have hac2 : a2 + qL x ≤ 1000000000 := by rw [Ha2.out]; omega
          have Hsu2 : Hid (a2 + qL x = acc + (m + mz) + tk qL ls (k + 1)) := by unfold Hid; rw [hsu2, Ha2.out]; omega
          obtain ⟨nx, hnx⟩ : ∃ m, m = x.length := ⟨_, rfl⟩
          obtain ⟨tx, htx⟩ : ∃ m, m = (x.map qP).sum := ⟨_, rfl⟩
          have hqx : qL x = nx + tx := by unfold qL; rw [hnx, htx]
          rw [hqx] at hac2 Hsu2
          rw [← hnx] at z1 hxm hxo
          have Hnx := Lib.hid hnx
          have Htx := Lib.hid htx
          have Hxo := Lib.hid hxo
          unfold maxLen at hxm r2
          clear r4 hvk ho hsu2 htl2 hx hqx hnx htx hxo
          go_wp2_with fail
          go_loopg [3, 40] nx (fun q s3 s40 wx => ∃ j a3 : Nat, j + q = nx ∧ s40 = .int .i64 (j : Int) ∧ s3 = .int .i64 (a3 : Int) ∧ Hid (a3 = a2 + nx + tk qP x j) ∧ Hid (Below w.heap.size w wx))
          case atStart => exact ⟨0, a2 + nx, by omega, rfl, by first | rfl | simp, by unfold Hid; rw [tk_zero, Nat.add_zero], Hb2⟩
          case round =>
            obtain ⟨j, a3, hjq, rfl, rfl, Ha3, Hb3⟩ := hrel
            cases gk with
            | zero =>
              have hjn : j = nx := by omega
              have Ha4 : Hid (a3 = a2 + (nx + tx)) := by unfold Hid; rw [Ha3.out, hjn, Hnx.out, tk_all, Htx.out]; omega
              have hlt : ¬ (j < nx) := by omega
              clear hjn
              go_wp2_with fail
              go_roundg q2
              case measure => omega
              case rel => exact ⟨k + 1, a3, by omega, by first | rfl | simp, rfl, by unfold Hid; rw [Ha4.out]; exact Hsu2.out, Hb3⟩
            | succ q3' =>
              have hjn : j < nx := by omega
              obtain ⟨p, hp⟩ : ∃ p, x[j]? = some p := ⟨_, List.getElem?_eq_getElem (by rw [← Hnx.out]; exact hjn)⟩
              obtain ⟨f1, f2⟩ := flatP_at2 _ _ _ hp
              obtain ⟨g3, o3, rfl, t1, t2, t3, t4⟩ := Hxo.out (fun e => by rw [e] at f1; cases f1)
              have u1 : wr.cell? ⟨g3, o3 + j * 2, none⟩ = some (.string ⟨p.1.toArray⟩) := keepc Hb3.out t3 (t4 _ _ f1)
              have u2 : wr.cell? ⟨g3, o3 + j * 2 + 1, none⟩ = some (.string ⟨p.2.toArray⟩) := keepc Hb3.out t3 (t4 _ _ f2)
              have hsu3 := tk_succ qP x j p hp
              have htl3 := tk_le qP x (j + 1)
              rw [← Htx.out] at htl3
              have hpq : qP p = (p.1.length + p.2.length) / 8 := rfl
              have hac3 : a3 + (p.1.length + p.2.length) / 8 ≤ 1000000000 := by rw [Ha3.out, ← hpq]; omega
              have hpl : p.1.length + p.2.length ≤ 9000000000 := by omega
              have Hsu3 : Hid (a3 + (p.1.length + p.2.length) / 8 = a2 + nx + tk qP x (j + 1)) := by unfold Hid; rw [hsu3, Ha3.out, ← hpq]; omega
              unfold maxLen at t2
              have hb3' : Hid (Below w.heap.size w (wr.alloc (.cells #[.string ⟨p.1.toArray⟩, .string ⟨p.2.toArray⟩] 47))) := Hb3.out.alloc Hb3.out.size _
              clear t4 f1 f2 hp hsu3 htl3 hpq
              go_wp2_with fail
              go_roundg q3'
              case measure => omega
              case rel => exact ⟨j + 1, a3 + (p.1.length + p.2.length) / 8, by omega, by first | rfl | simp, by first | rfl | simp, Hsu3, hb3'⟩
end Go.Proofs.Ytegkdkilbnighaa

set_option linter.unusedVariables false
set_option linter.unusedSimpArgs false
namespace Go.Proofs.Ytegkdkilbnighaa
open Go.RowKit Go.Rg
attribute [local go_sem] Oper.semAt_some

set_option maxRecDepth 100000 in
set_option maxHeartbeats 4000000 in
theorem write_bad (l : List GA) (v : Value) (cs : List Value) (w : World) (h : RdC w v l.length cs) (hg : GsC w cs l) (hf : ∀ g ∈ l, Wk.FitA g) (hno : ¬ Wk.RightA l) :
    Calls Try.prog 11 #[v] w fun e w' => e = .returned (.tuple #[.string ⟨#[]⟩, .int .i64 10]) ∧ Below w.heap.size w w' := by
  have HRA := Lib.hid (rightA_any v cs l w h hg hf)
  have Hno := Lib.hid hno
  obtain ⟨a, c, rfl, hm⟩ := h.form
  clear h hg hf hno
  go_enter Try.func11, Try.ntmps11
  go_wp2_with fail
  refine HRA.out.mono ?_
  rintro e w1 ⟨b, rfl, hb, hbw⟩
  cases b with
  | true => exact absurd (hb.out.1 rfl) Hno.out
  | false =>
    have Hbw := Lib.hid hbw
    clear hb hbw HRA Hno
    go_wp2_with fail
    exact bodyPost_ret (v := .tuple #[.string ⟨#[]⟩, .int .i64 10]) (by simp [results, Try.results11, go_sem]) rfl ⟨rfl, Hbw.out⟩

theorem sum_map_le {A : Type} (f : A → Nat) (l : List A) (x : A) (h : x ∈ l) : f x ≤ (l.map f).sum := by
  induction l with
  | nil => cases h
  | cons a r ih =>
    simp only [List.map_cons, List.sum_cons]
    rcases List.mem_cons.1 h with rfl | h
    · omega
    · have := ih h; omega
theorem sum_ones {A : Type} (l : List A) : (l.map fun _ => 1).sum = l.length := by
  induction l with
  | nil => rfl
  | cons a r ih => simp only [List.map_cons, List.sum_cons, ih, List.length_cons]; omega
theorem len_le {A : Type} (f : A → Nat) (l : List A) (h : ∀ x ∈ l, 1 ≤ f x) : l.length ≤ (l.map f).sum := by
  induction l with
  | nil => exact Nat.le_refl _
  | cons a r ih =>
    have := h a (List.mem_cons_self ..)
    have := ih (fun x hx => h x (List.mem_cons_of_mem _ hx))
    simp only [List.length_cons, List.map_cons, List.sum_cons]; omega
theorem fitA_mu (g : GA) (N : Nat) (h : muG g ≤ N) (hN : N ≤ 100000000) : Wk.FitA g := by
  unfold muG muLs at h
  rw [sum_ones] at h
  have h1 := len_le muL g.lists (fun x _ => by unfold muL; omega)
  refine ⟨by omega, by omega, fun l hl p hp => ?_⟩
  have h2 := sum_map_le muL g.lists l hl
  have h3 : muP p ≤ muL l := by have := sum_map_le muP l p hp; unfold muL; omega
  unfold muP at h3
  unfold fit maxLen
  constructor <;> omega
theorem qL_mu (l : List Wk.Pr) : qL l + 1 ≤ muL l := by
  unfold qL muL
  have : l.length + (l.map qP).sum ≤ (l.map muP).sum := by
    induction l with
    | nil => exact Nat.le_refl _
    | cons p r ih =>
      have : 1 + qP p ≤ muP p := by unfold qP muP; omega
      simp only [List.length_cons, List.map_cons, List.sum_cons]; omega
  omega
theorem qG_mu (g : GA) : qG g + 1 ≤ muG g := by
  unfold qG muG muLs
  rw [sum_ones]
  have : g.lists.length + (g.lists.map qL).sum ≤ (g.lists.map muL).sum := by
    induction g.lists with
    | nil => exact Nat.le_refl _
    | cons l r ih =>
      have := qL_mu l
      simp only [List.length_cons, List.map_cons, List.sum_cons]; omega
  omega
theorem light_mu (l : List GA) : lightN l ≤ (l.map muG).sum := by
  unfold lightN
  induction l with
  | nil => exact Nat.le_refl _
  | cons g r ih =>
    have := qG_mu g
    simp only [List.length_cons, List.map_cons, List.sum_cons]; omega
theorem mL_q (l : List Wk.Pr) : Wk.mL l ≤ 1 + 9 * qL l := by
  unfold Wk.mL qL
  have : (l.map Wk.mP).sum ≤ 9 * (l.length + (l.map qP).sum) := by
    induction l with
    | nil => exact Nat.le_refl _
    | cons p r ih =>
      have : Wk.mP p ≤ 9 * (1 + qP p) := by unfold Wk.mP qP; omega
      simp only [List.length_cons, List.map_cons, List.sum_cons]; omega
  omega
theorem mG_q (g : Wk.Geo) : Wk.mG g ≤ 9 * (1 + qG (Wk.toA g)) := by
  have h1 : (Wk.toA g).sizes.length = g.sizes.length := by unfold Wk.toA; simp
  have h2 : (Wk.toA g).lists = g.lists := rfl
  unfold Wk.mG qG
  rw [h1, h2]
  have : Wk.mLs g.lists ≤ g.lists.length + 9 * (g.lists.map qL).sum := by
    unfold Wk.mLs
    induction g.lists with
    | nil => exact Nat.le_refl _
    | cons l r ih =>
      have := mL_q l
      simp only [List.length_cons, List.map_cons, List.sum_cons]; omega
  omega
theorem mG_light (gs : List Wk.Geo) : (gs.map Wk.mG).sum ≤ 9 * lightN (gs.map Wk.toA) := by
  unfold lightN
  induction gs with
  | nil => exact Nat.zero_le _
  | cons g r ih =>
    have := mG_q g
    simp only [List.length_cons, List.map_cons, List.sum_cons] at ih ⊢; omega

set_option maxRecDepth 100000 in
set_option maxHeartbeats 8000000 in
theorem lawRightW (l : List GA) (v : Value) (cs : List Value) (w : World) (h : RdC w v l.length cs) (hg : GsC w cs l) (hmu : (l.map muG).sum ≤ 1048576) :
    Calls Try.prog 5 #[v] w fun e w' => e = .returned (.bool true) ∧ Below w.heap.size w w' := by
  have hlm := light_mu l
  have hf : ∀ g ∈ l, Wk.FitA g := fun g hgm => fitA_mu g _ (Nat.le_trans (sum_map_le muG l g hgm) hmu) (by decide)
  have HL := Lib.hid (light_any l v cs w h hg (by omega))
  obtain ⟨a, c, rfl, hm⟩ := h.form
  have Hr := Lib.hid h
  have Hg := Lib.hid hg
  have Hf := Lib.hid hf
  clear hg hf hlm hmu h
  go_enter Try.func5, Try.ntmps5
  by_cases hli : lightN l ≤ 400
  · rw [decide_eq_true hli] at HL
    have Hli := Lib.hid hli
    clear hli
    go_wp2_with fail
    refine HL.out.mono ?_
    rintro e w1 ⟨rfl, hb1⟩
    have hw1 := Lib.hid hb1
    clear hb1
    by_cases hR : Wk.RightA l
    · obtain ⟨gs, hgs, hRG⟩ := Wk.right_ofA l hR
      subst hgs
      have hw := Wk.write_size gs hRG
      have hml := mG_light gs
      have hl4 := Hli.out
      have HW : Hid (∀ X, Below w.heap.size w X → Calls Try.prog 11 #[.slice a (gs.map Wk.toA).length c] X fun e X' => e = .returned (.tuple #[str (Wk.write gs), .int .i64 0]) ∧ Below X.heap.size X X') := fun X hX =>
        write_any gs _ cs X hRG (by have := Hr.out.call hX; rw [List.length_map] at this ⊢; exact this) (Hg.out.call hX) Hf.out (by omega)
      have HP : Hid (∀ X : World, Calls Try.prog 9 #[str (Wk.write gs)] X fun e w' => ∃ a c cs, e = .returned (.tuple #[.slice a gs.length c, .int .i64 0, .int .i64 0]) ∧ RdC w' (.slice a gs.length c) gs.length cs ∧ GsC w' cs (gs.map Wk.toA) ∧ Below X.heap.size X w') := fun X => parse_write_any gs hRG X (by omega)
      have HA : Hid (∀ X, Below w.heap.size w X → Calls Try.prog 13 #[.slice a (gs.map Wk.toA).length c] X fun e X' => e = .returned (.bool true) ∧ Below X.heap.size X X') := fun X hX =>
        (rightA_any _ _ (gs.map Wk.toA) X (Hr.out.call hX) (Hg.out.call hX) Hf.out).mono fun e X' ⟨b, he, hb, hx⟩ => by
          have : b = true := hb.out.2 hR
          subst this; exact ⟨he, hx⟩
      obtain ⟨t, ht⟩ : ∃ t, t = Wk.write gs := ⟨_, rfl⟩
      rw [← ht] at HW HP
      have hlm : (gs.map Wk.toA).length = gs.length := List.length_map _
      have HR2 : Hid (RdC w (.slice a gs.length c) gs.length cs) := by have := Hr.out; rw [hlm] at this; exact this
      rw [hlm] at HW HA ⊢
      obtain ⟨n, hn⟩ : ∃ n, n = gs.length := ⟨_, rfl⟩
      have Hn := Lib.hid hn
      rw [← hn] at HW HA HP HR2 ⊢
      clear hR hw hml hl4 ht hlm hn Hr HL hm
      go_wp2_with fail
      refine (HW.out w1 hw1.out).mono ?_
      rintro e w2 ⟨rfl, hb2⟩
      have hw2 := Lib.hid (hw1.out.trans (hb2.mono hw1.out.size))
      clear hb2
      go_wp2_with fail
      refine (HA.out w2 hw2.out).mono ?_
      rintro e w3 ⟨rfl, hb3⟩
      have hw3 := Lib.hid (hw2.out.trans (hb3.mono hw2.out.size))
      clear hb3
      go_wp2_with fail
      refine (HP.out w3).mono ?_
      rintro e w4 ⟨ua, uc, ds, rfl, hu, hgu, hb4⟩
      have hw4 := Lib.hid (hw3.out.trans (hb4.mono hw3.out.size))
      have Hu := Lib.hid hu
      have HGu := Lib.hid hgu
      clear hb4 hu hgu
      go_wp2_with fail
      refine (equalL_any _ _ cs ds (gs.map Wk.toA) (gs.map Wk.toA) w4 (by rw [List.length_map, ← Hn.out]; exact HR2.out.call hw4.out) (Hg.out.call hw4.out) (by rw [List.length_map, ← Hn.out]; exact Hu.out) HGu.out).mono ?_
      rintro e w5 ⟨b, rfl, hb, hb5⟩
      have hbt : b = true := hb.out.2 rfl
      subst hbt
      have hw5 := Lib.hid (hw4.out.trans (hb5.mono hw4.out.size))
      clear hb hb5
      go_wp2_with fail
      refine (awake12_any w5).mono ?_
      rintro e w6 ⟨rfl, hb6⟩
      have hw6 := hw5.out.trans (hb6.mono hw5.out.size)
      clear hb6
      go_wp2_with fail
      go_ret
      exact ⟨rfl, hw6⟩
    · have HW : Hid (∀ X, Below w.heap.size w X → Calls Try.prog 11 #[.slice a l.length c] X fun e X' => e = .returned (.tuple #[.string ⟨#[]⟩, .int .i64 10]) ∧ Below X.heap.size X X') := fun X hX => write_bad l _ cs X (Hr.out.call hX) (Hg.out.call hX) Hf.out hR
      have HA : Hid (∀ X, Below w.heap.size w X → Calls Try.prog 13 #[.slice a l.length c] X fun e X' => e = .returned (.bool false) ∧ Below X.heap.size X X') := fun X hX =>
        (rightA_any _ _ l X (Hr.out.call hX) (Hg.out.call hX) Hf.out).mono fun e X' ⟨b, he, hb, hx⟩ => by
          cases b with
          | true => exact absurd (hb.out.1 rfl) hR
          | false => exact ⟨he, hx⟩
      clear hR
      go_wp2_with fail
      refine (HW.out w1 hw1.out).mono ?_
      rintro e w2 ⟨rfl, hb2⟩
      have hw2 := Lib.hid (hw1.out.trans (hb2.mono hw1.out.size))
      clear hb2
      go_wp2_with fail
      refine (HA.out w2 hw2.out).mono ?_
      rintro e w3 ⟨rfl, hb3⟩
      have hw3 := Lib.hid (hw2.out.trans (hb3.mono hw2.out.size))
      clear hb3
      go_wp2_with fail
      refine (awake12_any w3).mono ?_
      rintro e w6 ⟨rfl, hb6⟩
      have hw6 := hw3.out.trans (hb6.mono hw3.out.size)
      clear hb6
      go_wp2_with fail
      go_ret
      exact ⟨rfl, hw6⟩
  · rw [decide_eq_false hli] at HL
    clear hli
    go_wp2_with fail
    refine HL.out.mono ?_
    rintro e w1 ⟨rfl, hb1⟩
    have hw1 := Lib.hid hb1
    clear hb1
    go_wp2_with fail
    refine (awake12_any w1).mono ?_
    rintro e w6 ⟨rfl, hb6⟩
    have hw6 := hw1.out.trans (hb6.mono hw1.out.size)
    clear hb6
    go_wp2_with fail
    go_ret
    exact ⟨rfl, hw6⟩
end Go.Proofs.Ytegkdkilbnighaa
