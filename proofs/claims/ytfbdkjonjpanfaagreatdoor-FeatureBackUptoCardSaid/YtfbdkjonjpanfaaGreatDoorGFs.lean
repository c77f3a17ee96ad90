/- How a feature is opened out of what the statement's reading says: its points, lists, bulk. -/
import Derived.Test.YtfbdkjonjpanfaaGreatDoorGFg
import Derived.Test.YtfbdkjonjpanfaaGreatDoorRows
import Derived.ChangeSame
import Derived.ChangeArms
import Derived.Test.YtfbdkjonjpanfaaGreatDoorGFf
import Derived.Test.YtfbdkjonjpanfaaGreatDoorGFh

set_option linter.unusedVariables false
set_option linter.unusedSimpArgs false
namespace Go.Proofs.YtfbdkjonjpanfaaGreatDoor
open Go.RowKit Go.Rg Ft

namespace Fx
section
variable {H : Type} {enc : TypeId × Value → H} {P : Program} {w : World} {sp : Nat → Bool} {held : Bool}

/-- the cells of the elements from one place on -/
theorem open_rows {A : Type} (R : List Value → A → Prop) (μ : A → Nat) {e : TypeId} {k n : Nat} (hk : P.cellsOf e = k) (a : Addr)
    (each : ∀ cs y, cs.length = k → DataW.trod enc P w 0 sp held n e cs = some y → ∃ x : A, R cs x ∧ μ x ≤ Rows.uptoBulk y.1) : ∀ (els : List (DataW H × List MemPlace)) (off : Nat),
    (∀ i, i < els.length → (w.cells? 0 (a.add ((off + i) * P.cellsOf e)) (P.cellsOf e)).bind (DataW.trod enc P w 0 sp held n e) = els[i]?) →
    ∃ (l : List A) (xs : List Value), l.length = els.length ∧ xs.length = l.length * k ∧ (∀ j x, xs[j]? = some x → w.cell? (a.add (off * k + j)) = some x) ∧ (∀ i x, l[i]? = some x → R ((xs.drop (i * k)).take k) x) ∧ (l.map μ).sum ≤ Rows.uptoBulkAll (els.map (·.1)) := by
  intro els
  induction els with
  | nil => intro off _; exact ⟨[], [], rfl, by simp, fun j x h => by simp at h, fun i x h => by simp at h, by simp⟩
  | cons y els ih =>
    intro off h
    obtain ⟨l, xs, h1, h2, h3, h4, h5⟩ := ih (off + 1) (fun i hi => by
      have := h (i + 1) (by simp; omega)
      rw [show off + 1 + i = off + (i + 1) from by omega]
      rw [this]; rfl)
    have h0 := h 0 (by simp)
    rw [Nat.add_zero, hk] at h0
    obtain ⟨cs, hcs, hy⟩ := Option.bind_eq_some_iff.1 (show _ = some y from h0)
    obtain ⟨_, hl, hc⟩ := World.cells?_some hcs
    obtain ⟨x0, hx0, hm0⟩ := each cs y hl hy
    refine ⟨x0 :: l, cs ++ xs, by simp [h1], by rw [List.length_append, hl, h2, List.length_cons, Nat.add_mul, Nat.one_mul, Nat.add_comm], ?_, ?_, ?_⟩
    · intro j x hj
      rcases Nat.lt_or_ge j k with h | h
      · rw [List.getElem?_append_left (by omega)] at hj
        have := hc j h
        rw [Addr.add_add] at this
        rw [this]; exact hj
      · rw [List.getElem?_append_right (by omega), hl] at hj
        have := h3 (j - k) x hj
        have e : (off + 1) * k + (j - k) = off * k + j := by rw [Nat.add_mul, Nat.one_mul]; omega
        rw [e] at this; exact this
    · intro i x hi
      cases i with
      | zero =>
        cases hi
        rw [Nat.zero_mul, List.drop_zero, List.take_append_of_le_length (by omega), List.take_of_length_le (by omega)]
        exact hx0
      | succ i =>
        have := h4 i x hi
        have e : (cs ++ xs).drop ((i + 1) * k) = xs.drop (i * k) := by
          rw [List.drop_append, List.drop_eq_nil_of_le (by rw [hl, Nat.add_mul, Nat.one_mul]; omega), List.nil_append, hl]
          congr 1
          rw [Nat.add_mul, Nat.one_mul]; omega
        rw [e]; exact this
    · simp only [List.map_cons, List.sum_cons, Rows.uptoBulkAll]
      omega
theorem bulkAll_append (l r : List (DataW H)) : Rows.uptoBulkAll (l ++ r) = Rows.uptoBulkAll l + Rows.uptoBulkAll r := by
  induction l with
  | nil => simp [Rows.uptoBulkAll]
  | cons x l ih => simp only [List.cons_append, Rows.uptoBulkAll, ih]; omega


/-- a slice: its cells, its elements, its bulk -/
theorem open_slE {A : Type} (R : List Value → A → Prop) (μ : A → Nat) {t e : TypeId} {k : Nat} (ht : P.underlying t = some (.slice e)) (hk : P.cellsOf e = k) (hk0 : 0 < k)
    (each : ∀ n cs y, cs.length = k → DataW.trod enc P w 0 sp held n e cs = some y → ∃ x : A, R cs x ∧ μ x ≤ Rows.uptoBulk y.1) {fuel : Nat} {cs : List Value} {x : DataW H × List MemPlace} (h : DataW.trod enc P w 0 sp held fuel t cs = some x) :
    ∃ (v : Value) (l : List A) (xs : List Value), cs = [v] ∧ ReadsE w w.heap.size v l.length xs ∧ xs.length = l.length * k ∧ (∀ (i : Nat) (y : A), l[i]? = some y → R ((xs.drop (i * k)).take k) y) ∧ (l.map μ).sum + 1 ≤ Rows.uptoBulk x.1 := by
  rcases DataW.trod_slice ht h with ⟨rfl, rfl⟩ | ⟨a, len, cap, elems, rest, n, _, rfl, rfl, hb, hl, hm, hlen, hel, _, _⟩
  · exact ⟨_, [], [], rfl, .inl (.inl ⟨rfl, rfl, rfl⟩), by simp, fun i y h => by simp at h, by simp [Rows.uptoBulk]⟩
  · obtain ⟨l, xs, h1, h2, h3, h4, h5⟩ := open_rows R μ hk a (each n) elems 0 (fun i hi => by rw [Nat.zero_add]; exact hel i (by omega))
    have hll : l.length = len := h1.trans hlen
    refine ⟨_, l, xs, rfl, ?_, h2, h4, ?_⟩
    · cases xs with
      | nil =>
        have h0 : l.length = 0 := by
          rcases Nat.eq_zero_or_pos l.length with h | h
          · exact h
          · have := Nat.mul_pos h hk0; rw [← h2] at this; simp at this
        exact .inr ⟨h0, rfl, a, cap, by rw [← hll, h0]⟩
      | cons y r =>
        obtain ⟨g, off, spot⟩ := a
        have c0 := h3 0 y rfl
        have hspot : spot = none := by simpa [Addr.add] using World.cell?_spot c0
        subst hspot
        have hc : ∀ j z, (y :: r)[j]? = some z → w.cell? ⟨g, off + j, none⟩ = some z := fun j z hj => by
          have := h3 j z hj
          rw [Nat.zero_mul, Nat.zero_add, WideShapes.add_plain] at this
          exact this
        have c1 := hc 0 y rfl
        refine .inl (.inr ⟨g, off, cap, by rw [hll], ?_, by omega, hm, hc⟩)
        unfold World.cell? at c1
        rcases Nat.lt_or_ge g w.heap.size with h | h
        · exact h
        · rw [Array.getElem?_eq_none h] at c1; simp at c1
    · simp only [Rows.uptoBulk]
      omega
theorem open_i (t : TypeId) (ht : P.underlying t = some (.int .i64)) {n : Nat} {cs : List Value} {x : DataW H × List MemPlace} (h : DataW.trod enc P w 0 sp held n t cs = some x) : ∃ z : Int, cs = [.int .i64 z] ∧ Rows.uptoBulk x.1 = 1 := by
  obtain ⟨z, rfl, rfl, _⟩ := DataW.trod_int ht h
  exact ⟨z, rfl, by simp [Rows.uptoBulk]⟩
end
section
variable {H : Type} {enc : TypeId × Value → H} {w : World} {sp : Nat → Bool} {held : Bool}
theorem one_each {A : Type} (R : Value → A → Prop) : ∀ (l : List A) (xs : List Value), xs.length = l.length * 1 → (∀ (i : Nat) (y : A), l[i]? = some y → ∃ v, (xs.drop (i * 1)).take 1 = [v] ∧ R v y) → ∀ (i : Nat) (y : A), l[i]? = some y → ∃ v, xs[i]? = some v ∧ R v y := by
  intro l xs hl h i y hi
  obtain ⟨v, hv, hR⟩ := h i y hi
  refine ⟨v, ?_, hR⟩
  rw [Nat.mul_one] at hv
  have : (xs.drop i)[0]? = some v := by
    cases hd : xs.drop i with
    | nil => rw [hd] at hv; simp at hv
    | cons a r => rw [hd] at hv; simp at hv; rw [hv]; rfl
  rw [List.getElem?_drop] at this; exact this
theorem c_int : Tryz.prog.cellsOf 3 = 1 := by kernel_rfl
theorem c_pt : Tryz.prog.cellsOf 47 = 2 := by kernel_rfl
theorem c_pts : Tryz.prog.cellsOf 34 = 1 := by kernel_rfl
set_option maxRecDepth 100000 in
theorem open_pt {n : Nat} {cs : List Value} {x : DataW H × List MemPlace} (h : DataW.trod enc Tryz.prog w 0 sp held n 47 cs = some x) : ∃ p : Pt, cs = [.int .i64 p.1, .int .i64 p.2] ∧ 1 ≤ Rows.uptoBulk x.1 := by
  obtain ⟨xs, m, _, rfl, hl, hlen, hf⟩ := DataW.trod_struct Tryz.underlying47 h
  rw [c_pt] at hl
  match cs, hl with
  | [a, b], _ =>
    match xs, hlen with
    | [y0, y1], _ =>
      have h0 := hf 0 _ rfl
      have h1 := hf 1 _ rfl
      obtain ⟨z0, e0, m0⟩ := open_i _ Tryz.underlying3 (show DataW.trod enc Tryz.prog w 0 sp held m 3 _ = some y0 from h0)
      obtain ⟨z1, e1, m1⟩ := open_i _ Tryz.underlying3 (show DataW.trod enc Tryz.prog w 0 sp held m 3 _ = some y1 from h1)
      have e0 : ([a, b].drop 0).take (Tryz.prog.cellsOf 3) = [Value.int .i64 z0] := e0
      have e1 : ([a, b].drop 1).take (Tryz.prog.cellsOf 3) = [Value.int .i64 z1] := e1
      rw [c_int] at e0 e1
      have ea : a = .int .i64 z0 := by simpa using e0
      have eb : b = .int .i64 z1 := by simpa using e1
      refine ⟨(z0, z1), by rw [ea, eb], ?_⟩
      simp [Rows.uptoBulk]
theorem open_pts {n : Nat} {cs : List Value} {x : DataW H × List MemPlace} (h : DataW.trod enc Tryz.prog w 0 sp held n 34 cs = some x) : ∃ (v : Value) (l : List Pt), cs = [v] ∧ ReadsE w w.heap.size v l.length (flat l) ∧ l.length + 1 ≤ Rows.uptoBulk x.1 := by
  obtain ⟨v, l, xs, rfl, hr, hx, hR, hm⟩ := open_slE (fun cs (p : Pt) => cs = [.int .i64 p.1, .int .i64 p.2]) (fun _ => 1) Tryz.underlying34 c_pt (by decide) (fun n cs y _ hy => by
    obtain ⟨p, hp, hm⟩ := open_pt hy; exact ⟨p, hp, hm⟩) h
  have h1 : ∀ l : List Pt, (l.map fun _ => 1).sum = l.length := by
    intro l
    induction l with
    | nil => rfl
    | cons p l ih => simp only [List.map_cons, List.sum_cons, List.length_cons, ih]; omega
  rw [h1] at hm
  refine ⟨v, l, rfl, ?_, hm⟩
  have : ∀ (l : List Pt) (xs : List Value), xs.length = l.length * 2 → (∀ (i : Nat) (y : Pt), l[i]? = some y → (xs.drop (i * 2)).take 2 = [.int .i64 y.1, .int .i64 y.2]) → xs = flat l := by
    intro l
    induction l with
    | nil => intro xs h _; exact List.eq_nil_of_length_eq_zero (by simpa using h)
    | cons p l ih =>
      intro xs h hy
      have h0 := hy 0 p rfl
      match xs, h with
      | a :: b :: xs, h =>
        have := ih xs (by simp at h; omega) (fun i y hi => by
          have := hy (i + 1) y hi
          rw [show (i + 1) * 2 = i * 2 + 1 + 1 from by omega] at this
          exact this)
        have h0' : [a, b] = [Value.int .i64 p.1, .int .i64 p.2] := h0
        simp only [List.cons.injEq, and_true] at h0'
        rw [this, h0'.1, h0'.2]; rfl
  rw [← this l xs hx hR]; exact hr
/-- how much there is of lists of points -/
def muQ (ls : List (List Pt)) : Nat := (ls.map fun l => l.length + 1).sum
theorem open_ptss {n : Nat} {cs : List Value} {x : DataW H × List MemPlace} (h : DataW.trod enc Tryz.prog w 0 sp held n 35 cs = some x) : ∃ (v : Value) (ls : List (List Pt)) (vs : List Value), cs = [v] ∧ vs.length = ls.length ∧ ReadsE w w.heap.size v ls.length vs ∧ (∀ (i : Nat) (l : List Pt), ls[i]? = some l → ∃ u, vs[i]? = some u ∧ ReadsE w w.heap.size u l.length (flat l)) ∧ muQ ls + 1 ≤ Rows.uptoBulk x.1 := by
  obtain ⟨v, l, xs, rfl, hr, hx, hR, hm⟩ := open_slE (fun cs (l : List Pt) => ∃ v, cs = [v] ∧ ReadsE w w.heap.size v l.length (flat l)) (fun l => l.length + 1) Tryz.underlying35 c_pts (by decide) (fun n cs y _ hy => by
    obtain ⟨v, l, e, hr, hm⟩ := open_pts hy; exact ⟨l, ⟨v, e, hr⟩, hm⟩) h
  exact ⟨v, l, xs, rfl, by omega, hr, one_each (fun v (l : List Pt) => ReadsE w w.heap.size v l.length (flat l)) l xs hx hR, hm⟩
end
end Fx
/-- how much there is of a feature -/
def muF (f : Fe) : Nat := f.pts.length + Fx.muQ f.lines + Fx.muQ f.rings
/-- an argument, a feature, as it reads -/
def FeA (w : World) (pv lv rv : Value) (f : Fe) : Prop := ReadsE w w.heap.size pv f.pts.length (flat f.pts) ∧ ∃ vs us, FeL w w.heap.size lv rv vs us f
theorem FeA.call {w w' : World} {pv lv rv : Value} {f : Fe} (h : FeA w pv lv rv f) (hb : Below w.heap.size w w') : FeA w' pv lv rv f := by
  obtain ⟨h1, vs, us, h2⟩ := h
  exact ⟨(h1.below hb).mono hb.size, vs, us, (h2.below hb).mono hb.size⟩
theorem FeA.of {w : World} {pv lv rv : Value} {f : Fe} {vs us : List Value} (h : ReadsE w w.heap.size pv f.pts.length (flat f.pts)) (l1 : vs.length = f.lines.length) (l2 : us.length = f.rings.length) (r1 : ReadsE w w.heap.size lv f.lines.length vs) (r2 : ReadsE w w.heap.size rv f.rings.length us)
    (e1 : ∀ (i : Nat) (l : List Pt), f.lines[i]? = some l → ∃ u, vs[i]? = some u ∧ ReadsE w w.heap.size u l.length (flat l)) (e2 : ∀ (i : Nat) (l : List Pt), f.rings[i]? = some l → ∃ u, us[i]? = some u ∧ ReadsE w w.heap.size u l.length (flat l)) : FeA w pv lv rv f := by
  refine ⟨h, vs, us, r1, r2, l1, l2, fun i l hl => ?_⟩
  rw [List.getElem?_append] at hl ⊢
  split at hl
  · rw [if_pos (by omega)]; exact e1 i l hl
  · rw [if_neg (by omega), l1]; exact e2 _ l hl
theorem _root_.Go.Rg.ReadsE.rdC {w : World} {v : Value} {n : Nat} {xs : List Value} (h : ReadsE w w.heap.size v n xs) : RdC w v n xs := by
  rcases h with (⟨rfl, rfl, rfl⟩ | ⟨g, off, c, rfl, h1, h2, h3, h4⟩) | ⟨rfl, rfl, a, c, rfl⟩
  · exact ⟨_, _, rfl, Nat.zero_le _, fun h => absurd rfl h⟩
  · exact ⟨_, _, rfl, Nat.le_trans h2 h3, fun _ => ⟨g, off, rfl, h2, h3, h1, h4⟩⟩
  · exact ⟨_, _, rfl, Nat.zero_le _, fun h => absurd rfl h⟩
theorem FeA.feC {w : World} {pv lv rv : Value} {f : Fe} (h : FeA w pv lv rv f) : FeC w pv lv rv f := by
  obtain ⟨h1, vs, us, h2⟩ := h
  refine ⟨h1.rdC, ⟨vs, h2.ll, h2.rl.rdC, fun i l hl => ?_⟩, ⟨us, h2.lr, h2.rr.rdC, fun i l hl => ?_⟩⟩
  · have hlt := (List.getElem?_eq_some_iff.1 hl).1
    obtain ⟨u, h3, h4⟩ := h2.el i l (by rw [List.getElem?_append_left hlt]; exact hl)
    rw [List.getElem?_append_left (by rw [h2.ll]; exact hlt)] at h3
    exact ⟨u, h3, h4.rdC⟩
  · obtain ⟨u, h3, h4⟩ := h2.el (f.lines.length + i) l (by rw [List.getElem?_append_right (by omega), Nat.add_sub_cancel_left]; exact hl)
    rw [List.getElem?_append_right (by rw [h2.ll]; omega), h2.ll, Nat.add_sub_cancel_left] at h3
    exact ⟨u, h3, h4.rdC⟩
end Go.Proofs.YtfbdkjonjpanfaaGreatDoor

set_option linter.unusedVariables false
set_option linter.unusedSimpArgs false
namespace Go.Proofs.YtfbdkjonjpanfaaGreatDoor
open Go.RowKit Go.Rg Ft
attribute [local go_sem] Oper.semAt_some

def lsum (f : Fe) (k : Nat) : Nat := f.pts.length + (((f.lines ++ f.rings).take k).map fun l => l.length + 1).sum
theorem lsum_succ {f : Fe} {k : Nat} {l : List Pt} (h : (f.lines ++ f.rings)[k]? = some l) : lsum f (k + 1) = lsum f k + (l.length + 1) := by
  unfold lsum; rw [List.take_add_one, h]; simp; omega
theorem lsum_all (f : Fe) : lsum f (f.lines ++ f.rings).length = muF f := by
  unfold lsum muF Fx.muQ; rw [List.take_length]; simp; omega
theorem lsum_le (f : Fe) (k : Nat) : lsum f k ≤ muF f := by
  rw [← lsum_all]
  unfold lsum
  rw [List.take_length]
  conv => rhs; rw [← List.take_append_drop k (f.lines ++ f.rings)]
  rw [List.map_append, List.sum_append]
  omega
theorem muQ_len (ls : List (List Pt)) : ls.length ≤ Fx.muQ ls := by
  unfold Fx.muQ
  induction ls with
  | nil => simp
  | cons l ls ih => simp only [List.map_cons, List.sum_cons, List.length_cons]; omega

set_option maxRecDepth 100000 in
set_option maxHeartbeats 4000000 in
theorem light13_any (f : Fe) (pv lv rv : Value) (w : World) (h : FeA w pv lv rv f) (hmu : muF f ≤ 1048576) :
    Calls Tryz.prog 12 #[feV pv lv rv] w fun e w' => e = .returned (.bool (decide (muF f ≤ 200))) ∧ Below w.heap.size w w' := by
  obtain ⟨hp, vs, us, hF⟩ := h
  obtain ⟨a0, m0, rfl⟩ := hp.form
  obtain ⟨a1, m1, rfl⟩ := hF.rl.form
  obtain ⟨a2, m2, rfl⟩ := hF.rr.form
  obtain ⟨n0, e0⟩ : ∃ n, n = f.pts.length := ⟨_, rfl⟩
  obtain ⟨n1, e1⟩ : ∃ n, n = f.lines.length := ⟨_, rfl⟩
  obtain ⟨n2, e2⟩ : ∃ n, n = f.rings.length := ⟨_, rfl⟩
  have hs1 : n1 ≤ 1048576 := by have := muQ_len f.lines; unfold muF at hmu; omega
  have hs2 : n2 ≤ 1048576 := by have := muQ_len f.rings; unfold muF at hmu; omega
  have hs0 : n0 ≤ 1048576 := by unfold muF at hmu; omega
  have HF := Lib.hid hF
  have HM := Lib.hid hmu
  have hrl := hF.rl
  have hrr := hF.rr
  have HL1 : Hid (vs.length = n1 * 1) := by unfold Hid; rw [hF.ll, e1]; omega
  have HL2 : Hid (us.length = n2 * 1) := by unfold Hid; rw [hF.lr, e2]; omega
  have HK1 : Hid (∀ u ∈ vs, u.oneCell' = true) := fun u hu => hF.one u (List.mem_append_left _ hu)
  have HK2 : Hid (∀ u ∈ us, u.oneCell' = true) := fun u hu => hF.one u (List.mem_append_right _ hu)
  have E0 := Lib.hid e0
  have E1 := Lib.hid e1
  have E2 := Lib.hid e2
  rw [← e1] at hrl
  rw [← e2] at hrr
  unfold feV
  rw [← e0, ← e1, ← e2]
  clear hp hF hmu e0 e1 e2
  go_enter Tryz.func12, Tryz.ntmps12
  go_wp2_with fail
  obtain ⟨w0, hw0⟩ : ∃ X, w.alloc (.cells #[.slice a0 n0 m0, .slice a1 n1 m1, .slice a2 n2 m2] 37) = X := ⟨_, rfl⟩
  have HBL : Hid (Blk w0 w.heap.size [.slice a0 n0 m0, .slice a1 n1 m1, .slice a2 n2 m2] 37) := hw0 ▸ Blk.new w _ _
  have HB0 : Hid (Below w.heap.size w w0) := hw0 ▸ (Below.refl _ w).alloc (Nat.le_refl _) _
  have hz0 : w.heap.size < w0.heap.size := HBL.out.lt
  have x1' : w0.cell? ⟨w.heap.size, 1, none⟩ = some (.slice a1 n1 m1) := HBL.out.cell (j := 1) rfl
  have x2' : w0.cell? ⟨w.heap.size, 2, none⟩ = some (.slice a2 n2 m2) := HBL.out.cell (j := 2) rfl
  have HR1 : Hid (ReadsE w0 w0.heap.size (.slice a1 n1 m1) n1 vs) := (hrl.below HB0.out).mono HB0.out.size
  have HR2 : Hid (ReadsE w0 w0.heap.size (.slice a2 n2 m2) n2 us) := (hrr.below HB0.out).mono HB0.out.size
  rw [hw0]
  have x1 := x1'
  have x2 := x2'
  clear hw0 hrl hrr
  refine wp_region_held_drew (S := fun w' => w'.cell? ⟨w.heap.size, 1, none⟩ = some (.slice a1 n1 m1) ∧ w'.cell? ⟨w.heap.size, 2, none⟩ = some (.slice a2 n2 m2)) (by kernel_rfl) ⟨x1', x2'⟩ (fun hHeld => ?_)
  refine takeL 1 (v := ?_) rfl (by kernel_rfl) (by kernel_rfl) (by kernel_rfl) (fun _ _ _ h => h) (by rfl) (by assumption) ?hy1 ?_
  case hy1 => (intro w hSw; (try dsimp only at hSw); go_simp; all_goals (with_reducible rfl))
  (try simp only [Act.put, List.setIfInBounds_toArray, List.set_cons_zero, List.set_cons_succ])
  refine takeL 2 (v := ?_) rfl (by kernel_rfl) (by kernel_rfl) (by kernel_rfl) (fun _ _ _ h => h) (by rfl) (by assumption) ?hy2 ?_
  case hy2 => (intro w hSw; (try dsimp only at hSw); go_simp; all_goals (with_reducible rfl))
  (try simp only [Act.put, List.setIfInBounds_toArray, List.set_cons_zero, List.set_cons_succ])
  refine takeL 4 (v := ?_) rfl (by kernel_rfl) (by kernel_rfl) (by kernel_rfl) (fun _ _ _ h => h) (by rfl) (by assumption) ?hy4 ?_
  case hy4 => (intro w hSw; (try dsimp only at hSw); go_simp; all_goals (with_reducible rfl))
  (try simp only [Act.put, List.setIfInBounds_toArray, List.set_cons_zero, List.set_cons_succ])
  refine takeL 5 (v := ?_) rfl (by kernel_rfl) (by kernel_rfl) (by kernel_rfl) (fun _ _ _ h => h) (by rfl) (by assumption) ?hy5 ?_
  case hy5 => (intro w hSw; (try dsimp only at hSw); go_simp; all_goals (with_reducible rfl))
  (try simp only [Act.put, List.setIfInBounds_toArray, List.set_cons_zero, List.set_cons_succ])
  refine takeL 8 (v := ?_) rfl (by kernel_rfl) (by kernel_rfl) (by kernel_rfl) (fun _ _ _ h => h) (by rfl) (by assumption) ?hy8 ?_
  case hy8 => (intro w hSw; (try dsimp only at hSw); go_simp; all_goals (with_reducible rfl))
  (try simp only [Act.put, List.setIfInBounds_toArray, List.set_cons_zero, List.set_cons_succ])
  refine consL 0 (by kernel_rfl) rfl (by rfl) (fun K hK => ?_)
  go_simp
  obtain ⟨wa, hwa⟩ : ∃ X, (w0.alloc (.cells #[] tL)).drew = X := ⟨_, rfl⟩
  have hba : Below w0.heap.size w0 wa := hwa ▸ ((Below.refl _ w0).alloc (Nat.le_refl _) _).drew
  have HO0 : Hid (wa.ownsRow w0.heap.size tL 1 (.slice (some ⟨w0.heap.size, 0, none⟩) 0 0) 0 []) := by
    have hb : Blk wa w0.heap.size [] tL := hwa ▸ (Blk.new w0 [] tL : Blk (w0.alloc (.cells #[] tL)).drew w0.heap.size [] tL)
    have := own_of_blk (n := 0) (cap := 0) (size := 1) (base := w0.heap.size) hb rfl (Nat.le_refl _) (Nat.le_refl _) (Nat.zero_le _)
    exact this
  have HBa : Hid (Below w0.heap.size w0 wa) := hba
  have x1 := keepc hba (show w.heap.size < w0.heap.size by omega) x1
  have x2 := keepc hba (show w.heap.size < w0.heap.size by omega) x2
  have hsa : w0.heap.size ≤ wa.heap.size := hba.size
  (try rw [hwa])
  clear hwa hba
  clear hHeld
  refine hK.out _ _ ?hS0 (fun hHeld => ?_)
  case hS0 => ((try dsimp only); exact ⟨x1, x2⟩)
  clear hK K
  (try simp only [Act.put, List.setIfInBounds_toArray, List.set_cons_zero, List.set_cons_succ])
  refine consL 3 (by kernel_rfl) rfl (by rfl) (fun K hK => ?_)
  refine wp_append2E _ _ _ 35 rfl w0.heap.size tL (.slice none 0 0) 1 24 Tryz.underlying35 info_pts rfl (by decide) (.slice (some ⟨w0.heap.size, 0, none⟩) 0 0) 0 _ rfl HO0.out _ w0.heap.size n1 vs rfl (HR1.out.below HBa.out) HL1.out HK1.out (by unfold maxLen; omega) (by omega) hsa ?_
  intro v3 w3 own3 grow3 mov3
  obtain ⟨a3, c3, rfl⟩ := own_form own3
  have HO3 := Lib.hid own3
  have hrow3 : ∀ g, (Value.slice (some ⟨w0.heap.size, 0, none⟩) 0 0).ownBlock = some g → w0.heap.size ≤ g := fun g e => (HO0.out.lt g e).1
  have HB3 := Lib.hid (HBa.out.grown grow3 hsa (fun g e => hrow3 g e))
  have x1 := (World.cell?_of_block (a := ⟨w.heap.size, 1, none⟩) (HB3.out.block w.heap.size (by omega))).trans x1'
  have x2 := (World.cell?_of_block (a := ⟨w.heap.size, 2, none⟩) (HB3.out.block w.heap.size (by omega))).trans x2'
  have hs3 : w0.heap.size ≤ w3.heap.size := HB3.out.size
  clear own3 grow3 mov3 hrow3
  clear hHeld
  refine hK.out _ _ ?hS3 (fun hHeld => ?_)
  case hS3 => ((try dsimp only); exact ⟨x1, x2⟩)
  clear hK K
  (try simp only [Act.put, List.setIfInBounds_toArray, List.set_cons_zero, List.set_cons_succ])
  refine consL 6 (by kernel_rfl) rfl (by rfl) (fun K hK => ?_)
  refine wp_append2E _ _ _ 35 rfl w0.heap.size tL (.slice none 0 0) 1 24 Tryz.underlying35 info_pts rfl (by decide) (.slice a3 (0 + n1) c3) (0 + n1) _ rfl HO3.out _ w0.heap.size n2 us rfl (HR2.out.below HB3.out) HL2.out HK2.out (by unfold maxLen; omega) (by omega) hs3 ?_
  intro v6 w6 own6 grow6 mov6
  obtain ⟨a6, c6, rfl⟩ := own_form own6
  have HO6 := Lib.hid own6
  have hrow6 : ∀ g, (Value.slice a3 (0 + n1) c3).ownBlock = some g → w0.heap.size ≤ g := fun g e => (HO3.out.lt g e).1
  have HB6 := Lib.hid (HB3.out.grown grow6 hs3 (fun g e => hrow6 g e))
  have x1 := (World.cell?_of_block (a := ⟨w.heap.size, 1, none⟩) (HB6.out.block w.heap.size (by omega))).trans x1'
  have x2 := (World.cell?_of_block (a := ⟨w.heap.size, 2, none⟩) (HB6.out.block w.heap.size (by omega))).trans x2'
  clear own6 grow6 mov6 hrow6
  clear hHeld
  refine hK.out _ _ ?hS6 (fun hHeld => ?_)
  case hS6 => ((try dsimp only); exact ⟨x1, x2⟩)
  clear hK K
  (try simp only [Act.put, List.setIfInBounds_toArray, List.set_cons_zero, List.set_cons_succ])
  refine takeL 7 (v := ?_) rfl (by kernel_rfl) (by kernel_rfl) (by kernel_rfl) (fun _ _ _ h => h) (by rfl) (by assumption) ?hy7 ?_
  case hy7 => (intro w hSw; (try dsimp only at hSw); go_simp; all_goals (with_reducible rfl))
  (try simp only [Act.put, List.setIfInBounds_toArray, List.set_cons_zero, List.set_cons_succ])
  refine wpAnyH_done (by kernel_rfl) ?_ _
  clear hHeld x1 x2 x1' x2' HO0 HO3 HBa HB3 HR1 HR2 HL1 HL2 HK1 HK2
  have HBR : Hid (Below w.heap.size w w6) := HB0.out.trans (HB6.out.mono HB0.out.size)
  have HO : Hid (w6.ownsRow w0.heap.size tL 1 (.slice a6 (n1 + n2) c6) (n1 + n2) (vs ++ us)) := by have := HO6.out; rw [Nat.zero_add, List.nil_append] at this; exact this
  rw [Nat.zero_add]
  obtain ⟨N, hN⟩ : ∃ N, N = n1 + n2 := ⟨_, rfl⟩
  have hNi : (n1 : Int) + (n2 : Int) = (N : Int) := by omega
  have HN : Hid (N = (f.lines ++ f.rings).length) := by unfold Hid; rw [List.length_append, ← E1.out, ← E2.out]; exact hN
  rw [hNi, ← hN]
  rw [← hN] at HO
  have hN6 : N ≤ 2100000 := by omega
  clear HO6 HB6 hNi hN
  go_wp2_with fail
  go_loopg [3, 17] N (fun q s3 s17 wx => ∃ i : Nat, i + q = N ∧ s3 = .int .i64 (lsum f i : Int) ∧ s17 = .int .i64 (i : Int) ∧ wx = w6)
  case atStart => exact ⟨0, by omega, by rw [E0.out]; unfold lsum; simp, by first | rfl | simp, rfl⟩
  case round =>
    obtain ⟨i, hq, rfl, rfl, rfl⟩ := hrel
    cases gk with
    | zero =>
      have hiN : i = N := by omega
      have HE : Hid (lsum f i = muF f) := by unfold Hid; rw [hiN, HN.out, lsum_all]
      rw [HE.out]
      subst hiN
      by_cases h200 : muF f ≤ 200
      · have e1 : ((muF f : Nat) : Int) ≤ 200 := by omega
        have e2 : decide (muF f ≤ 200) = true := decide_eq_true h200
        have E3 := Lib.hid e2
        clear e2
        go_wp2_with fail
        try rw [Exit.noGoto_ret]
        go_ret
        exact ⟨by first | (rw [E3.out]; rfl) | rfl, HBR.out⟩
      · have e1 : ¬ ((muF f : Nat) : Int) ≤ 200 := by omega
        have e2 : decide (muF f ≤ 200) = false := decide_eq_false h200
        have E3 := Lib.hid e2
        clear e2
        go_wp2_with fail
        try rw [Exit.noGoto_ret]
        go_ret
        exact ⟨by first | (rw [E3.out]; rfl) | rfl, HBR.out⟩
    | succ q =>
      have hiN : i < N := by omega
      obtain ⟨ls, hls⟩ : ∃ ls, (f.lines ++ f.rings)[i]? = some ls := ⟨_, List.getElem?_eq_getElem (by rw [← HN.out]; exact hiN)⟩
      obtain ⟨u, hu, hr⟩ := HF.out.el i ls hls
      obtain ⟨ua, uc, rfl⟩ := hr.form
      obtain ⟨g, rfl, hgs, hgc, hcm, hcell⟩ : ∃ g, a6 = some ⟨g, 0, none⟩ ∧ g < wr.heap.size ∧ N ≤ c6 ∧ c6 ≤ maxLen ∧ wr.cell? ⟨g, i, none⟩ = some (.slice ua ls.length uc) := by
        have h0 := HO.out
        have hc := fun k hk => h0.cells (g := k) hk i _ hu
        rcases h0 with ⟨hl, ⟨he, hz⟩ | ⟨g, cap, cur, he, hb', hcur, h3, h4, _⟩⟩
        · omega
        · injection he with e1 e2 e3
          subst e1 e3
          refine ⟨g, rfl, (Array.getElem?_eq_some_iff.1 hcur).1, h3, h4, ?_⟩
          have := hc g rfl
          have ha : (⟨g, 0, none⟩ : Addr).add i = ⟨g, i, none⟩ := by unfold Addr.add; split <;> simp_all
          rwa [ha] at this
      have Hs : Hid (lsum f (i + 1) = lsum f i + (ls.length + 1)) := lsum_succ hls
      have hle : lsum f i + (ls.length + 1) ≤ 1048576 := by have := lsum_le f (i + 1); have := HM.out; have := Hs.out; omega
      obtain ⟨c, hc⟩ : ∃ c, c = lsum f i := ⟨_, rfl⟩
      obtain ⟨nl, hnl⟩ : ∃ n, n = ls.length := ⟨_, rfl⟩
      rw [← hc, ← hnl] at hle
      rw [← hnl] at hcell
      have Hs2 : Hid (((lsum f (i + 1) : Nat) : Int) = (c : Int) + ((nl : Int) + 1)) := by unfold Hid; rw [Hs.out, ← hc, ← hnl]; omega
      rw [← hc]
      have HQ := Lib.hid hq
      unfold maxLen at hcm
      clear hls hu hr hc hnl Hs hq
      go_wp2_with fail
      go_roundg q
      case measure => omega
      case rel => exact ⟨i + 1, by have := HQ.out; omega, by rw [Hs2.out], by first | rfl | simp, rfl⟩
end Go.Proofs.YtfbdkjonjpanfaaGreatDoor

set_option linter.unusedVariables false
set_option linter.unusedSimpArgs false
namespace Go.Proofs.YtfbdkjonjpanfaaGreatDoor
open Go.RowKit Go.Rg Ft
attribute [local go_sem] Oper.semAt_some

/-- a slice of lists of points, as it reads -/
def LqV (w : World) (v : Value) (ls : List (List Pt)) : Prop := ∃ vs, vs.length = ls.length ∧ RdC w v ls.length vs ∧ LqC w vs ls
theorem LqV.call {w w' : World} {v : Value} {ls : List (List Pt)} (h : LqV w v ls) (hb : Below w.heap.size w w') : LqV w' v ls := by
  obtain ⟨vs, a, b, c⟩ := h; exact ⟨vs, a, b.call hb, c.call hb⟩
theorem LqC.pt {w : World} {u : Value} {l : List Pt} (h : RdC w u l.length (flat l)) {k : Nat} {p : Pt} (hp : l[k]? = some p) : ∃ g o c, u = .slice (some ⟨g, o, none⟩) l.length c ∧ l.length ≤ c ∧ c ≤ maxLen ∧ g < w.heap.size ∧ w.cell? ⟨g, o + k * 2, none⟩ = some (.int .i64 p.1) ∧ w.cell? ⟨g, o + k * 2 + 1, none⟩ = some (.int .i64 p.2) := by
  obtain ⟨f1, f2⟩ := flat_at hp
  obtain ⟨a, c, rfl, _, ho⟩ := h
  obtain ⟨g, o, rfl, h1, h2, h3, h4⟩ := ho (fun e => by rw [e] at f1; cases f1)
  exact ⟨g, o, c, rfl, h1, h2, h3, h4 _ _ f1, h4 _ _ f2⟩
theorem take_ne {A : Type} {l m : List A} {i : Nat} {x y : A} (hx : l[i]? = some x) (hy : m[i]? = some y) (hne : x ≠ y) : ¬ l = m := fun e => by
  rw [e] at hx; rw [hx] at hy; exact hne (Option.some.inj hy)

set_option maxRecDepth 100000 in
set_option maxHeartbeats 4000000 in
theorem lists13_any (v u : Value) (xs ys : List (List Pt)) (w : World) (h : LqV w v xs) (h2 : LqV w u ys) :
    Calls Tryz.prog 16 #[v, u] w fun e w' => e = .returned (.bool (decide (xs = ys))) ∧ Below w.heap.size w w' := by
  obtain ⟨vs, l1, ⟨a1, c1, rfl, hm1, ho1⟩, q1⟩ := h
  obtain ⟨us, l2, ⟨a2, c2, rfl, hm2, ho2⟩, q2⟩ := h2
  have Ho1 := Lib.hid ho1
  have Ho2 := Lib.hid ho2
  have Q1 := Lib.hid q1
  have Q2 := Lib.hid q2
  unfold maxLen at hm1 hm2
  obtain ⟨n, hn⟩ : ∃ n, n = xs.length := ⟨_, rfl⟩
  obtain ⟨n2, hn2⟩ : ∃ n, n = ys.length := ⟨_, rfl⟩
  rw [← hn] at hm1 ⊢
  rw [← hn2] at hm2 ⊢
  have Hn := Lib.hid hn
  have Hn2 := Lib.hid hn2
  clear ho1 ho2 hn hn2 l1 l2 q1 q2
  go_enter Tryz.func16, Tryz.ntmps16
  by_cases hnn : n = n2
  · subst hnn
    go_wp2_with fail
    go_loopg [14] n (fun q s14 wx => ∃ i : Nat, i + q = n ∧ s14 = .int .i64 (i : Int) ∧ Hid (xs.take i = ys.take i) ∧ Hid (Below w.heap.size w wx))
    case atStart => exact ⟨0, by omega, by first | rfl | simp, rfl, Below.refl _ _⟩
    case round =>
      obtain ⟨i, hiq, rfl, Hi, Hb⟩ := hrel
      cases gk with
      | zero =>
        have hin : i = n := by omega
        subst hin
        have Heq : Hid (xs = ys) := by
          have := Hi.out
          rw [Hn.out, List.take_length, ← Hn.out, Hn2.out, List.take_length] at this
          exact this
        go_wp2_with fail
        try rw [Exit.noGoto_ret]
        go_ret
        exact ⟨by rw [decide_eq_true Heq.out]; rfl, Hb.out⟩
      | succ q0 =>
        have hin : i < n := by omega
        obtain ⟨l, hl⟩ : ∃ p, xs[i]? = some p := ⟨_, List.getElem?_eq_getElem (by rw [← Hn.out]; exact hin)⟩
        obtain ⟨m, hm⟩ : ∃ p, ys[i]? = some p := ⟨_, List.getElem?_eq_getElem (by rw [← Hn2.out]; exact hin)⟩
        obtain ⟨u1, f1, r1⟩ := Q1.out i l hl
        obtain ⟨u2, f3, r2⟩ := Q2.out i m hm
        obtain ⟨g1, o1, rfl, q1, q2, q3, q4⟩ := Ho1.out (fun e => by rw [e] at f1; cases f1)
        obtain ⟨g2, o2, rfl, s1, s2, s3, s4⟩ := Ho2.out (fun e => by rw [e] at f3; cases f3)
        rw [← Hn.out] at q1
        rw [← Hn2.out] at s1
        have Y1 := Lib.hid (q4 _ _ f1)
        have Z1 := Lib.hid (s4 _ _ f3)
        have y1 : wr.cell? ⟨g1, o1 + i, none⟩ = some u1 := keepc Hb.out q3 (q4 _ _ f1)
        have z1 : wr.cell? ⟨g2, o2 + i, none⟩ = some u2 := keepc Hb.out s3 (s4 _ _ f3)
        have R1 := Lib.hid r1
        have R2 := Lib.hid r2
        obtain ⟨a3, c3, rfl, hm3⟩ := r1.form
        obtain ⟨a4, c4, rfl, hm4⟩ := r2.form
        obtain ⟨ln, hln⟩ : ∃ x, x = l.length := ⟨_, rfl⟩
        obtain ⟨mn, hmn⟩ : ∃ x, x = m.length := ⟨_, rfl⟩
        have Hl := Lib.hid hl
        have Hm := Lib.hid hm
        have HLn := Lib.hid hln
        have HMn := Lib.hid hmn
        rw [← hln] at y1 hm3 Y1
        rw [← hmn] at z1 hm4 Z1
        have k1 : IntKind.i64.wrap (i : Int) = (i : Int) := by rw [IntKind.wrap_i64]; omega
        have k2 : (i : Int) < (n : Int) := by omega
        have HQ := Lib.hid hiq
        unfold maxLen at q2 s2 hm3 hm4
        clear q4 s4 f1 f3 r1 r2 hl hm hln hmn hiq
        by_cases hlm : ln = mn
        · subst hlm
          go_wp2_with fail
          go_quiet (fail)
          have hbq : Below w.heap.size w (wr.drewN nq) := Hb.out.trans (below_drewN _ _ _)
          have y1 := keepc hbq q3 Y1.out
          have z1 := keepc hbq s3 Z1.out
          have HBq := Lib.hid hbq
          clear hbq
          go_wp2_with fail
          go_loopg [33] ln (fun q s33 wy => ∃ k : Nat, k + q = ln ∧ s33 = .int .i64 (k : Int) ∧ Hid (l.take k = m.take k) ∧ Hid (Below w.heap.size w wy))
          case atStart => exact ⟨0, by omega, by first | rfl | simp, rfl, HBq⟩
          case round =>
            clear y1 z1 HBq
            obtain ⟨k, hkq, rfl, Hk, HBk⟩ := hrel
            cases gk with
            | zero =>
              have hkn : k = ln := by omega
              subst hkn
              have Heq : Hid (l = m) := by
                have := Hk.out
                rw [HLn.out, List.take_length, ← HLn.out, HMn.out, List.take_length] at this
                exact this
              go_wp2_with fail
              go_roundg q0
              case measure => omega
              case rel => exact ⟨i + 1, by have := HQ.out; omega, by first | rfl | simp, by unfold Hid; rw [List.take_add_one, List.take_add_one, Hi.out, Hl.out, Hm.out, Heq.out], HBk⟩
            | succ q =>
              have hkn : k < ln := by omega
              obtain ⟨p, hp⟩ : ∃ p, l[k]? = some p := ⟨_, List.getElem?_eq_getElem (by rw [← HLn.out]; exact hkn)⟩
              obtain ⟨p2, hp2⟩ : ∃ p, m[k]? = some p := ⟨_, List.getElem?_eq_getElem (by rw [← HMn.out]; exact hkn)⟩
              obtain ⟨g3, o3, cc3, e3, t1, t2, t3, t4, t5⟩ := LqC.pt R1.out hp
              obtain ⟨g4, o4, cc4, e4, v1, v2, v3, v4, v5⟩ := LqC.pt R2.out hp2
              injection e3 with e31 e32 e33
              injection e4 with e41 e42 e43
              subst e31 e33 e41 e43
              rw [← HLn.out] at t1
              rw [← HMn.out] at v1
              have y1 := keepc HBk.out q3 Y1.out
              have z1 := keepc HBk.out s3 Z1.out
              have y2 := keepc HBk.out t3 t4
              have y3 := keepc HBk.out t3 t5
              have z2 := keepc HBk.out v3 v4
              have z3 := keepc HBk.out v3 v5
              have k3 : IntKind.i64.wrap (k : Int) = (k : Int) := by rw [IntKind.wrap_i64]; omega
              have k4 : (k : Int) < (ln : Int) := by omega
              have HQ2 := Lib.hid hkq
              have Hp := Lib.hid hp
              have Hp2 := Lib.hid hp2
              unfold maxLen at t2 v2
              clear hp hp2 hkq t4 t5 v4 v5 e32 e42
              by_cases he : p = p2
              · subst he
                have e1 : (p.1 == p.1) = true := by simp
                have e2 : (p.2 == p.2) = true := by simp
                go_wp2_with fail
                go_quiet (fail)
                go_wp2_with fail
                go_roundg q
                case measure => omega
                case rel => exact ⟨k + 1, by have := HQ2.out; omega, by first | rfl | simp, by unfold Hid; rw [List.take_add_one, List.take_add_one, Hk.out, Hp.out, Hp2.out], HBk.out.trans (below_drewN _ _ _)⟩
              · have hno : ¬ xs = ys := take_ne Hl.out Hm.out (take_ne Hp.out Hp2.out he)
                have Hno := Lib.hid hno
                clear hno
                by_cases h1 : p.1 = p2.1
                · have h2 : ¬ p.2 = p2.2 := fun e => he (Prod.ext h1 e)
                  have e1 : (p.1 == p2.1) = true := by rw [beq_iff_eq]; exact h1
                  have e2 : (p.2 == p2.2) = false := by rw [beq_eq_false_iff_ne]; exact h2
                  clear he h1 h2
                  go_wp2_with fail
                  go_quiet (fail)
                  go_wp2_with fail
                  try rw [Exit.noGoto_ret]
                  go_ret
                  exact ⟨by rw [decide_eq_false Hno.out]; rfl, HBk.out.trans (below_drewN _ _ _)⟩
                · have e1 : (p.1 == p2.1) = false := by rw [beq_eq_false_iff_ne]; exact h1
                  clear he h1
                  go_wp2_with fail
                  go_quiet (fail)
                  go_wp2_with fail
                  try rw [Exit.noGoto_ret]
                  go_ret
                  exact ⟨by rw [decide_eq_false Hno.out]; rfl, HBk.out.trans (below_drewN _ _ _)⟩
        · have hno := take_ne Hl.out Hm.out (fun e => hlm (by rw [HLn.out, HMn.out, e]))
          have Hno := Lib.hid hno
          clear hno
          have c5 : ((ln : Int) != (mn : Int)) = true := by rw [bne_iff_ne]; omega
          go_wp2_with fail
          go_quiet (fail)
          go_wp2_with fail
          try rw [Exit.noGoto_ret]
          go_ret
          exact ⟨by rw [decide_eq_false Hno.out]; rfl, Hb.out.trans (below_drewN _ _ _)⟩
  · have hno : ¬ xs = ys := fun e => hnn (by rw [Hn.out, Hn2.out, e])
    have Hno := Lib.hid hno
    have c5 : ((n : Int) != (n2 : Int)) = true := by rw [bne_iff_ne]; omega
    clear hno
    go_wp2_with fail
    go_ret
    exact ⟨by rw [decide_eq_false Hno.out]; rfl, Below.refl _ _⟩
end Go.Proofs.YtfbdkjonjpanfaaGreatDoor

set_option linter.unusedVariables false
set_option linter.unusedSimpArgs false
namespace Go.Proofs.YtfbdkjonjpanfaaGreatDoor
open Go.RowKit Go.Rg Ft
attribute [local go_sem] Oper.semAt_some

theorem eqFe_self2 (f : Fe) : eqFe f f = true := (eqFe_iff f f).2 rfl
theorem FeA.lq1 {w : World} {pv lv rv : Value} {f : Fe} (h : FeA w pv lv rv f) : LqV w lv f.lines := by
  obtain ⟨_, ⟨vs, a, b, c⟩, _⟩ := h.feC; exact ⟨vs, a, b, c⟩
theorem FeA.lq2 {w : World} {pv lv rv : Value} {f : Fe} (h : FeA w pv lv rv f) : LqV w rv f.rings := by
  obtain ⟨_, _, ⟨vs, a, b, c⟩⟩ := h.feC; exact ⟨vs, a, b, c⟩
theorem LqV.one {w : World} {b : Nat} {v : Value} {l : List Pt} (hb : Blk w b [v] tL) (h : RdC w v l.length (flat l)) : LqV w (.slice (some ⟨b, 0, none⟩) 1 1) [l] := by
  refine ⟨[v], rfl, ⟨_, _, rfl, (by unfold maxLen; simp), fun _ => ⟨b, 0, rfl, Nat.le_refl _, (by unfold maxLen; simp), hb.lt, fun j x hj => by rw [Nat.zero_add]; exact hb.cell hj⟩⟩, fun i m hi => ?_⟩
  cases i with
  | zero => cases hi; exact ⟨v, rfl, h⟩
  | succ i => simp at hi

set_option maxRecDepth 100000 in
set_option maxHeartbeats 8000000 in
theorem lawSameW (f g : Fe) (pv lv rv pv2 lv2 rv2 : Value) (w : World) (hf : FeA w pv lv rv f) (hg : FeA w pv2 lv2 rv2 g) (hm1 : muF f ≤ 1048576) (hm2 : muF g ≤ 1048576) (ht : Tabs w) :
    Calls Tryz.prog 5 #[feV pv lv rv, feV pv2 lv2 rv2] w fun e w' => e = .returned (.bool true) ∧ Below w.heap.size w w' := by
  have HT := Lib.hid ht
  obtain ⟨fa0, fm0, rfl⟩ := hf.1.form
  obtain ⟨ga0, gm0, rfl⟩ := hg.1.form
  obtain ⟨_, _, _, hf2⟩ := id hf
  obtain ⟨_, _, _, hg2⟩ := id hg
  obtain ⟨fa1, fm1, rfl⟩ := hf2.rl.form
  obtain ⟨fa2, fm2, rfl⟩ := hf2.rr.form
  obtain ⟨ga1, gm1, rfl⟩ := hg2.rl.form
  obtain ⟨ga2, gm2, rfl⟩ := hg2.rr.form
  have HPf := Lib.hid hf.1.rdC
  have HPg := Lib.hid hg.1.rdC
  obtain ⟨fn0, fe0⟩ : ∃ n, n = f.pts.length := ⟨_, rfl⟩
  obtain ⟨fn1, fe1⟩ : ∃ n, n = f.lines.length := ⟨_, rfl⟩
  obtain ⟨fn2, fe2⟩ : ∃ n, n = f.rings.length := ⟨_, rfl⟩
  obtain ⟨gn0, ge0⟩ : ∃ n, n = g.pts.length := ⟨_, rfl⟩
  obtain ⟨gn1, ge1⟩ : ∃ n, n = g.lines.length := ⟨_, rfl⟩
  obtain ⟨gn2, ge2⟩ : ∃ n, n = g.rings.length := ⟨_, rfl⟩
  rw [← fe0, ← fe1, ← fe2] at hf
  rw [← ge0, ← ge1, ← ge2] at hg
  rw [← fe0] at HPf
  rw [← ge0] at HPg
  have HPf : Hid (RdC w (.slice fa0 fn0 fm0) f.pts.length (flat f.pts)) := by unfold Hid; rw [← fe0]; exact HPf.out
  have HPg : Hid (RdC w (.slice ga0 gn0 gm0) g.pts.length (flat g.pts)) := by unfold Hid; rw [← ge0]; exact HPg.out
  have HF := Lib.hid hf
  have HG := Lib.hid hg
  have HFl1 := Lib.hid hf.lq1
  have HFl2 := Lib.hid hf.lq2
  have HGl1 := Lib.hid hg.lq1
  have HGl2 := Lib.hid hg.lq2
  rw [← fe0, ← fe1, ← fe2, ← ge0, ← ge1, ← ge2]
  unfold feV
  have HM1 := Lib.hid hm1
  have HM2 := Lib.hid hm2
  clear hf hg hf2 hg2 fe0 fe1 fe2 ge0 ge1 ge2 ht hm1 hm2
  go_enter Tryz.func5, Tryz.ntmps5
  go_wp2_with fail
  obtain ⟨x0, hx0⟩ : ∃ X, [.cells #[.slice fa0 fn0 fm0, .slice fa1 fn1 fm1, .slice fa2 fn2 fm2] 37, .cells #[.slice ga0 gn0 gm0, .slice ga1 gn1 gm1, .slice ga2 gn2 gm2] 37].foldl World.alloc w = X := ⟨_, rfl⟩
  have HA : Hid (Blk x0 w.heap.size [.slice fa0 fn0 fm0, .slice fa1 fn1 fm1, .slice fa2 fn2 fm2] 37) := Blk.allocs _ hx0 0 rfl
  have HC : Hid (Blk x0 (w.heap.size + 1) [.slice ga0 gn0 gm0, .slice ga1 gn1 gm1, .slice ga2 gn2 gm2] 37) := Blk.allocs _ hx0 1 rfl
  have HB : Hid (Below w.heap.size w x0) := hx0 ▸ allocs_below _ w
  simp only [List.foldl_cons, List.foldl_nil] at hx0
  rw [hx0]
  clear hx0
  have a0 := HA.out.cell (j := 0) rfl
  have a1 := HA.out.cell (j := 1) rfl
  have a2 := HA.out.cell (j := 2) rfl
  have c0 := HC.out.cell (j := 0) rfl
  have c1 := HC.out.cell (j := 1) rfl
  have c2 := HC.out.cell (j := 2) rfl
  have hzc : w.heap.size + 1 < x0.heap.size := HC.out.lt
  refine (light13_any f (.slice fa0 fn0 fm0) (.slice fa1 fn1 fm1) (.slice fa2 fn2 fm2) x0 (HF.out.call HB.out) HM1.out).mono ?_
  rintro e x1 ⟨rfl, hb⟩
  have HB := Lib.hid (HB.out.trans (hb.mono HB.out.size))
  have HA := Lib.hid (HA.out.call hb)
  have HC := Lib.hid (HC.out.call hb)
  clear hb a0 a1 a2 c0 c1 c2
  have a0 := HA.out.cell (j := 0) rfl
  have a1 := HA.out.cell (j := 1) rfl
  have a2 := HA.out.cell (j := 2) rfl
  have c0 := HC.out.cell (j := 0) rfl
  have c1 := HC.out.cell (j := 1) rfl
  have c2 := HC.out.cell (j := 2) rfl
  have hzc : w.heap.size + 1 < x1.heap.size := HC.out.lt
  by_cases hl1 : muF f ≤ 200
  · rw [decide_eq_true hl1]
    go_wp2_with fail
    refine (light13_any g (.slice ga0 gn0 gm0) (.slice ga1 gn1 gm1) (.slice ga2 gn2 gm2) x1 (HG.out.call HB.out) HM2.out).mono ?_
    rintro e x2 ⟨rfl, hb⟩
    have HB := Lib.hid (HB.out.trans (hb.mono HB.out.size))
    have HA := Lib.hid (HA.out.call hb)
    have HC := Lib.hid (HC.out.call hb)
    clear hb a0 a1 a2 c0 c1 c2
    have a0 := HA.out.cell (j := 0) rfl
    have a1 := HA.out.cell (j := 1) rfl
    have a2 := HA.out.cell (j := 2) rfl
    have c0 := HC.out.cell (j := 0) rfl
    have c1 := HC.out.cell (j := 1) rfl
    have c2 := HC.out.cell (j := 2) rfl
    have hzc : w.heap.size + 1 < x2.heap.size := HC.out.lt
    by_cases hl2 : muF g ≤ 200
    · rw [decide_eq_true hl2]
      clear hl1 hl2 HM1 HM2
      go_wp2_with fail
      obtain ⟨x3, hx3⟩ : ∃ X, [.cells #[.slice fa0 fn0 fm0] tL, .cells #[.slice ga0 gn0 gm0] tL].foldl World.alloc x2 = X := ⟨_, rfl⟩
      have HD : Hid (Blk x3 x2.heap.size [.slice fa0 fn0 fm0] tL) := Blk.allocs _ hx3 0 rfl
      have HE : Hid (Blk x3 (x2.heap.size + 1) [.slice ga0 gn0 gm0] tL) := Blk.allocs _ hx3 1 rfl
      have hb : Below x2.heap.size x2 x3 := hx3 ▸ allocs_below _ x2
      simp only [List.foldl_cons, List.foldl_nil] at hx3
      rw [hx3]
      clear hx3
      have HB := Lib.hid (HB.out.trans (hb.mono HB.out.size))
      have HA := Lib.hid (HA.out.call hb)
      have HC := Lib.hid (HC.out.call hb)
      clear hb a0 a1 a2 c0 c1 c2
      have a0 := HA.out.cell (j := 0) rfl
      have a1 := HA.out.cell (j := 1) rfl
      have a2 := HA.out.cell (j := 2) rfl
      have c0 := HC.out.cell (j := 0) rfl
      have c1 := HC.out.cell (j := 1) rfl
      have c2 := HC.out.cell (j := 2) rfl
      have hzc : w.heap.size + 1 < x3.heap.size := HC.out.lt
      refine (lists13_any _ _ [f.pts] [g.pts] x3 (LqV.one HD.out (HPf.out.call HB.out)) (LqV.one HE.out (HPg.out.call HB.out))).mono ?_
      rintro e x4 ⟨rfl, hb⟩
      have HB := Lib.hid (HB.out.trans (hb.mono HB.out.size))
      have HA := Lib.hid (HA.out.call hb)
      have HC := Lib.hid (HC.out.call hb)
      clear hb a0 a1 a2 c0 c1 c2
      have a0 := HA.out.cell (j := 0) rfl
      have a1 := HA.out.cell (j := 1) rfl
      have a2 := HA.out.cell (j := 2) rfl
      have c0 := HC.out.cell (j := 0) rfl
      have c1 := HC.out.cell (j := 1) rfl
      have c2 := HC.out.cell (j := 2) rfl
      have hzc : w.heap.size + 1 < x4.heap.size := HC.out.lt
      have EQ1 : Hid (eqFe f g = (decide ([f.pts] = [g.pts]) && (decide (f.lines = g.lines) && decide (f.rings = g.rings)))) := by unfold Hid eqFe; simp
      have EQ2 : Hid (eqFe g f = (decide ([f.pts] = [g.pts]) && (decide (f.lines = g.lines) && decide (f.rings = g.rings)))) := by
        unfold Hid eqFe
        have e1 : ∀ {A : Type} [DecidableEq A] (x y : A), decide (x = y) = decide (y = x) := fun x y => by rw [decide_eq_decide]; exact eq_comm
        rw [e1 g.pts, e1 g.lines, e1 g.rings]
        simp
      obtain ⟨b1, hb1⟩ : ∃ b, decide ([f.pts] = [g.pts]) = b := ⟨_, rfl⟩
      obtain ⟨b2, hb2⟩ : ∃ b, decide (f.lines = g.lines) = b := ⟨_, rfl⟩
      obtain ⟨b3, hb3⟩ : ∃ b, decide (f.rings = g.rings) = b := ⟨_, rfl⟩
      rw [hb1, hb2, hb3] at EQ1 EQ2
      rw [hb1]
      have HB2 := Lib.hid hb2
      have HB3 := Lib.hid hb3
      clear hb1 hb2 hb3 HD HE
      cases b1 with
      | false =>
        rw [Bool.false_and] at EQ1 EQ2
        obtain ⟨x6, hx6⟩ : ∃ x, x = x4 := ⟨_, rfl⟩
        subst hx6
        go_wp2_with fail
        refine (equal13_any f g (.slice fa0 fn0 fm0) (.slice fa1 fn1 fm1) (.slice fa2 fn2 fm2) (.slice ga0 gn0 gm0) (.slice ga1 gn1 gm1) (.slice ga2 gn2 gm2) x6 (HF.out.call HB.out).feC (HG.out.call HB.out).feC).mono ?_
        rintro e x7 ⟨rfl, hb⟩
        rw [EQ1.out]
        have HB := Lib.hid (HB.out.trans (hb.mono HB.out.size))
        have HA := Lib.hid (HA.out.call hb)
        have HC := Lib.hid (HC.out.call hb)
        clear hb a0 a1 a2 c0 c1 c2
        have a0 := HA.out.cell (j := 0) rfl
        have a1 := HA.out.cell (j := 1) rfl
        have a2 := HA.out.cell (j := 2) rfl
        have c0 := HC.out.cell (j := 0) rfl
        have c1 := HC.out.cell (j := 1) rfl
        have c2 := HC.out.cell (j := 2) rfl
        have hzc : w.heap.size + 1 < x7.heap.size := HC.out.lt
        go_wp2_with fail
        refine (equal13_any g f (.slice ga0 gn0 gm0) (.slice ga1 gn1 gm1) (.slice ga2 gn2 gm2) (.slice fa0 fn0 fm0) (.slice fa1 fn1 fm1) (.slice fa2 fn2 fm2) x7 (HG.out.call HB.out).feC (HF.out.call HB.out).feC).mono ?_
        rintro e x8 ⟨rfl, hb⟩
        rw [EQ2.out]
        have HB := Lib.hid (HB.out.trans (hb.mono HB.out.size))
        have HA := Lib.hid (HA.out.call hb)
        have HC := Lib.hid (HC.out.call hb)
        clear hb a0 a1 a2 c0 c1 c2
        have a0 := HA.out.cell (j := 0) rfl
        have a1 := HA.out.cell (j := 1) rfl
        have a2 := HA.out.cell (j := 2) rfl
        have c0 := HC.out.cell (j := 0) rfl
        have c1 := HC.out.cell (j := 1) rfl
        have c2 := HC.out.cell (j := 2) rfl
        have hzc : w.heap.size + 1 < x8.heap.size := HC.out.lt
        go_wp2_with fail
        refine (equal13_any f f (.slice fa0 fn0 fm0) (.slice fa1 fn1 fm1) (.slice fa2 fn2 fm2) (.slice fa0 fn0 fm0) (.slice fa1 fn1 fm1) (.slice fa2 fn2 fm2) x8 (HF.out.call HB.out).feC (HF.out.call HB.out).feC).mono ?_
        rintro e x9 ⟨rfl, hb⟩
        rw [eqFe_self2 f]
        have HB := Lib.hid (HB.out.trans (hb.mono HB.out.size))
        have HA := Lib.hid (HA.out.call hb)
        have HC := Lib.hid (HC.out.call hb)
        clear hb a0 a1 a2 c0 c1 c2
        have a0 := HA.out.cell (j := 0) rfl
        have a1 := HA.out.cell (j := 1) rfl
        have a2 := HA.out.cell (j := 2) rfl
        have c0 := HC.out.cell (j := 0) rfl
        have c1 := HC.out.cell (j := 1) rfl
        have c2 := HC.out.cell (j := 2) rfl
        have hzc : w.heap.size + 1 < x9.heap.size := HC.out.lt
        go_wp2_with fail
        refine (awake13_any x9 (HT.out.below HB.out (Nat.le_refl _))).mono ?_
        rintro e wz ⟨rfl, hz⟩
        have HZ := Lib.hid (HB.out.trans (hz.mono HB.out.size))
        clear hz
        go_wp2_with fail
        go_ret
        exact ⟨rfl, HZ.out⟩
      | true =>
        rw [Bool.true_and] at EQ1 EQ2
        go_wp2_with fail
        refine (lists13_any _ _ _ _ x4 (HFl1.out.call HB.out) (HGl1.out.call HB.out)).mono ?_
        rintro e x5 ⟨rfl, hb⟩
        rw [HB2.out]
        have HB := Lib.hid (HB.out.trans (hb.mono HB.out.size))
        have HA := Lib.hid (HA.out.call hb)
        have HC := Lib.hid (HC.out.call hb)
        clear hb a0 a1 a2 c0 c1 c2
        have a0 := HA.out.cell (j := 0) rfl
        have a1 := HA.out.cell (j := 1) rfl
        have a2 := HA.out.cell (j := 2) rfl
        have c0 := HC.out.cell (j := 0) rfl
        have c1 := HC.out.cell (j := 1) rfl
        have c2 := HC.out.cell (j := 2) rfl
        have hzc : w.heap.size + 1 < x5.heap.size := HC.out.lt
        cases b2 with
        | false =>
          rw [Bool.false_and] at EQ1 EQ2
          obtain ⟨x6, hx6⟩ : ∃ x, x = x5 := ⟨_, rfl⟩
          subst hx6
          go_wp2_with fail
          refine (equal13_any f g (.slice fa0 fn0 fm0) (.slice fa1 fn1 fm1) (.slice fa2 fn2 fm2) (.slice ga0 gn0 gm0) (.slice ga1 gn1 gm1) (.slice ga2 gn2 gm2) x6 (HF.out.call HB.out).feC (HG.out.call HB.out).feC).mono ?_
          rintro e x7 ⟨rfl, hb⟩
          rw [EQ1.out]
          have HB := Lib.hid (HB.out.trans (hb.mono HB.out.size))
          have HA := Lib.hid (HA.out.call hb)
          have HC := Lib.hid (HC.out.call hb)
          clear hb a0 a1 a2 c0 c1 c2
          have a0 := HA.out.cell (j := 0) rfl
          have a1 := HA.out.cell (j := 1) rfl
          have a2 := HA.out.cell (j := 2) rfl
          have c0 := HC.out.cell (j := 0) rfl
          have c1 := HC.out.cell (j := 1) rfl
          have c2 := HC.out.cell (j := 2) rfl
          have hzc : w.heap.size + 1 < x7.heap.size := HC.out.lt
          go_wp2_with fail
          refine (equal13_any g f (.slice ga0 gn0 gm0) (.slice ga1 gn1 gm1) (.slice ga2 gn2 gm2) (.slice fa0 fn0 fm0) (.slice fa1 fn1 fm1) (.slice fa2 fn2 fm2) x7 (HG.out.call HB.out).feC (HF.out.call HB.out).feC).mono ?_
          rintro e x8 ⟨rfl, hb⟩
          rw [EQ2.out]
          have HB := Lib.hid (HB.out.trans (hb.mono HB.out.size))
          have HA := Lib.hid (HA.out.call hb)
          have HC := Lib.hid (HC.out.call hb)
          clear hb a0 a1 a2 c0 c1 c2
          have a0 := HA.out.cell (j := 0) rfl
          have a1 := HA.out.cell (j := 1) rfl
          have a2 := HA.out.cell (j := 2) rfl
          have c0 := HC.out.cell (j := 0) rfl
          have c1 := HC.out.cell (j := 1) rfl
          have c2 := HC.out.cell (j := 2) rfl
          have hzc : w.heap.size + 1 < x8.heap.size := HC.out.lt
          go_wp2_with fail
          refine (equal13_any f f (.slice fa0 fn0 fm0) (.slice fa1 fn1 fm1) (.slice fa2 fn2 fm2) (.slice fa0 fn0 fm0) (.slice fa1 fn1 fm1) (.slice fa2 fn2 fm2) x8 (HF.out.call HB.out).feC (HF.out.call HB.out).feC).mono ?_
          rintro e x9 ⟨rfl, hb⟩
          rw [eqFe_self2 f]
          have HB := Lib.hid (HB.out.trans (hb.mono HB.out.size))
          have HA := Lib.hid (HA.out.call hb)
          have HC := Lib.hid (HC.out.call hb)
          clear hb a0 a1 a2 c0 c1 c2
          have a0 := HA.out.cell (j := 0) rfl
          have a1 := HA.out.cell (j := 1) rfl
          have a2 := HA.out.cell (j := 2) rfl
          have c0 := HC.out.cell (j := 0) rfl
          have c1 := HC.out.cell (j := 1) rfl
          have c2 := HC.out.cell (j := 2) rfl
          have hzc : w.heap.size + 1 < x9.heap.size := HC.out.lt
          go_wp2_with fail
          refine (awake13_any x9 (HT.out.below HB.out (Nat.le_refl _))).mono ?_
          rintro e wz ⟨rfl, hz⟩
          have HZ := Lib.hid (HB.out.trans (hz.mono HB.out.size))
          clear hz
          go_wp2_with fail
          go_ret
          exact ⟨rfl, HZ.out⟩
        | true =>
          rw [Bool.true_and] at EQ1 EQ2
          go_wp2_with fail
          refine (lists13_any _ _ _ _ x5 (HFl2.out.call HB.out) (HGl2.out.call HB.out)).mono ?_
          rintro e x6 ⟨rfl, hb⟩
          rw [HB3.out]
          have HB := Lib.hid (HB.out.trans (hb.mono HB.out.size))
          have HA := Lib.hid (HA.out.call hb)
          have HC := Lib.hid (HC.out.call hb)
          clear hb a0 a1 a2 c0 c1 c2
          have a0 := HA.out.cell (j := 0) rfl
          have a1 := HA.out.cell (j := 1) rfl
          have a2 := HA.out.cell (j := 2) rfl
          have c0 := HC.out.cell (j := 0) rfl
          have c1 := HC.out.cell (j := 1) rfl
          have c2 := HC.out.cell (j := 2) rfl
          have hzc : w.heap.size + 1 < x6.heap.size := HC.out.lt
          cases b3
          · go_wp2_with fail
            refine (equal13_any f g (.slice fa0 fn0 fm0) (.slice fa1 fn1 fm1) (.slice fa2 fn2 fm2) (.slice ga0 gn0 gm0) (.slice ga1 gn1 gm1) (.slice ga2 gn2 gm2) x6 (HF.out.call HB.out).feC (HG.out.call HB.out).feC).mono ?_
            rintro e x7 ⟨rfl, hb⟩
            rw [EQ1.out]
            have HB := Lib.hid (HB.out.trans (hb.mono HB.out.size))
            have HA := Lib.hid (HA.out.call hb)
            have HC := Lib.hid (HC.out.call hb)
            clear hb a0 a1 a2 c0 c1 c2
            have a0 := HA.out.cell (j := 0) rfl
            have a1 := HA.out.cell (j := 1) rfl
            have a2 := HA.out.cell (j := 2) rfl
            have c0 := HC.out.cell (j := 0) rfl
            have c1 := HC.out.cell (j := 1) rfl
            have c2 := HC.out.cell (j := 2) rfl
            have hzc : w.heap.size + 1 < x7.heap.size := HC.out.lt
            go_wp2_with fail
            refine (equal13_any g f (.slice ga0 gn0 gm0) (.slice ga1 gn1 gm1) (.slice ga2 gn2 gm2) (.slice fa0 fn0 fm0) (.slice fa1 fn1 fm1) (.slice fa2 fn2 fm2) x7 (HG.out.call HB.out).feC (HF.out.call HB.out).feC).mono ?_
            rintro e x8 ⟨rfl, hb⟩
            rw [EQ2.out]
            have HB := Lib.hid (HB.out.trans (hb.mono HB.out.size))
            have HA := Lib.hid (HA.out.call hb)
            have HC := Lib.hid (HC.out.call hb)
            clear hb a0 a1 a2 c0 c1 c2
            have a0 := HA.out.cell (j := 0) rfl
            have a1 := HA.out.cell (j := 1) rfl
            have a2 := HA.out.cell (j := 2) rfl
            have c0 := HC.out.cell (j := 0) rfl
            have c1 := HC.out.cell (j := 1) rfl
            have c2 := HC.out.cell (j := 2) rfl
            have hzc : w.heap.size + 1 < x8.heap.size := HC.out.lt
            go_wp2_with fail
            refine (equal13_any f f (.slice fa0 fn0 fm0) (.slice fa1 fn1 fm1) (.slice fa2 fn2 fm2) (.slice fa0 fn0 fm0) (.slice fa1 fn1 fm1) (.slice fa2 fn2 fm2) x8 (HF.out.call HB.out).feC (HF.out.call HB.out).feC).mono ?_
            rintro e x9 ⟨rfl, hb⟩
            rw [eqFe_self2 f]
            have HB := Lib.hid (HB.out.trans (hb.mono HB.out.size))
            have HA := Lib.hid (HA.out.call hb)
            have HC := Lib.hid (HC.out.call hb)
            clear hb a0 a1 a2 c0 c1 c2
            have a0 := HA.out.cell (j := 0) rfl
            have a1 := HA.out.cell (j := 1) rfl
            have a2 := HA.out.cell (j := 2) rfl
            have c0 := HC.out.cell (j := 0) rfl
            have c1 := HC.out.cell (j := 1) rfl
            have c2 := HC.out.cell (j := 2) rfl
            have hzc : w.heap.size + 1 < x9.heap.size := HC.out.lt
            go_wp2_with fail
            refine (awake13_any x9 (HT.out.below HB.out (Nat.le_refl _))).mono ?_
            rintro e wz ⟨rfl, hz⟩
            have HZ := Lib.hid (HB.out.trans (hz.mono HB.out.size))
            clear hz
            go_wp2_with fail
            go_ret
            exact ⟨rfl, HZ.out⟩
          · go_wp2_with fail
            refine (equal13_any f g (.slice fa0 fn0 fm0) (.slice fa1 fn1 fm1) (.slice fa2 fn2 fm2) (.slice ga0 gn0 gm0) (.slice ga1 gn1 gm1) (.slice ga2 gn2 gm2) x6 (HF.out.call HB.out).feC (HG.out.call HB.out).feC).mono ?_
            rintro e x7 ⟨rfl, hb⟩
            rw [EQ1.out]
            have HB := Lib.hid (HB.out.trans (hb.mono HB.out.size))
            have HA := Lib.hid (HA.out.call hb)
            have HC := Lib.hid (HC.out.call hb)
            clear hb a0 a1 a2 c0 c1 c2
            have a0 := HA.out.cell (j := 0) rfl
            have a1 := HA.out.cell (j := 1) rfl
            have a2 := HA.out.cell (j := 2) rfl
            have c0 := HC.out.cell (j := 0) rfl
            have c1 := HC.out.cell (j := 1) rfl
            have c2 := HC.out.cell (j := 2) rfl
            have hzc : w.heap.size + 1 < x7.heap.size := HC.out.lt
            go_wp2_with fail
            refine (equal13_any g f (.slice ga0 gn0 gm0) (.slice ga1 gn1 gm1) (.slice ga2 gn2 gm2) (.slice fa0 fn0 fm0) (.slice fa1 fn1 fm1) (.slice fa2 fn2 fm2) x7 (HG.out.call HB.out).feC (HF.out.call HB.out).feC).mono ?_
            rintro e x8 ⟨rfl, hb⟩
            rw [EQ2.out]
            have HB := Lib.hid (HB.out.trans (hb.mono HB.out.size))
            have HA := Lib.hid (HA.out.call hb)
            have HC := Lib.hid (HC.out.call hb)
            clear hb a0 a1 a2 c0 c1 c2
            have a0 := HA.out.cell (j := 0) rfl
            have a1 := HA.out.cell (j := 1) rfl
            have a2 := HA.out.cell (j := 2) rfl
            have c0 := HC.out.cell (j := 0) rfl
            have c1 := HC.out.cell (j := 1) rfl
            have c2 := HC.out.cell (j := 2) rfl
            have hzc : w.heap.size + 1 < x8.heap.size := HC.out.lt
            go_wp2_with fail
            refine (equal13_any f f (.slice fa0 fn0 fm0) (.slice fa1 fn1 fm1) (.slice fa2 fn2 fm2) (.slice fa0 fn0 fm0) (.slice fa1 fn1 fm1) (.slice fa2 fn2 fm2) x8 (HF.out.call HB.out).feC (HF.out.call HB.out).feC).mono ?_
            rintro e x9 ⟨rfl, hb⟩
            rw [eqFe_self2 f]
            have HB := Lib.hid (HB.out.trans (hb.mono HB.out.size))
            have HA := Lib.hid (HA.out.call hb)
            have HC := Lib.hid (HC.out.call hb)
            clear hb a0 a1 a2 c0 c1 c2
            have a0 := HA.out.cell (j := 0) rfl
            have a1 := HA.out.cell (j := 1) rfl
            have a2 := HA.out.cell (j := 2) rfl
            have c0 := HC.out.cell (j := 0) rfl
            have c1 := HC.out.cell (j := 1) rfl
            have c2 := HC.out.cell (j := 2) rfl
            have hzc : w.heap.size + 1 < x9.heap.size := HC.out.lt
            go_wp2_with fail
            refine (awake13_any x9 (HT.out.below HB.out (Nat.le_refl _))).mono ?_
            rintro e wz ⟨rfl, hz⟩
            have HZ := Lib.hid (HB.out.trans (hz.mono HB.out.size))
            clear hz
            go_wp2_with fail
            go_ret
            exact ⟨rfl, HZ.out⟩
    · rw [decide_eq_false hl2]
      go_wp2_with fail
      refine (awake13_any x2 (HT.out.below HB.out (Nat.le_refl _))).mono ?_
      rintro e wz ⟨rfl, hz⟩
      have HZ := Lib.hid (HB.out.trans (hz.mono HB.out.size))
      clear hz
      go_wp2_with fail
      go_ret
      exact ⟨rfl, HZ.out⟩
  · rw [decide_eq_false hl1]
    go_wp2_with fail
    refine (awake13_any x1 (HT.out.below HB.out (Nat.le_refl _))).mono ?_
    rintro e wz ⟨rfl, hz⟩
    have HZ := Lib.hid (HB.out.trans (hz.mono HB.out.size))
    clear hz
    go_wp2_with fail
    go_ret
    exact ⟨rfl, HZ.out⟩
theorem lawSameC (f : Fe) (pv lv rv : Value) (w : World) (hf : FeA w pv lv rv f) (hm1 : muF f ≤ 1048576) (g : Fe) (pv2 lv2 rv2 : Value) (w2 : World) (hg : FeA w2 pv2 lv2 rv2 g) (hm2 : muF g ≤ 1048576) (e : w2 = w) (ht : Tabs w) :
    Calls Tryz.prog 5 #[feV pv lv rv, feV pv2 lv2 rv2] w fun e w' => e = .returned (.bool true) ∧ Below w.heap.size w w' := by
  subst e
  exact lawSameW f g pv lv rv pv2 lv2 rv2 w2 hf hg hm1 hm2 ht
end Go.Proofs.YtfbdkjonjpanfaaGreatDoor
