import Derived.Test.YtegkdkilbnighaaMachB
import Derived.Test.YtegkdkilbnighaaWktM
set_option linter.unusedVariables false
set_option linter.unusedSimpArgs false
namespace Go.Proofs.Ytegkdkilbnighaa
open Go.RowKit Go.Rg
attribute [local go_sem] Oper.semAt_some

def strs (l : List Lx.Str) : List Value := l.map fun s => .string ⟨s.toArray⟩

/-- a geometry of the document's, as its parts lie in memory -/
def RdR (w : World) (pv cv sv : Value) (g : Wk.RGeo) : Prop :=
  RdT 9 w pv g.pairs.length (strs g.pairs) ∧ RdT 3 w cv g.counts.length (intsN g.counts) ∧ RdT 3 w sv g.size.length (intsN g.size)
theorem RdR.keep {w w' : World} {pv cv sv : Value} {g : Wk.RGeo} (h : RdR w pv cv sv g) (h1 : KeepT 9 w w') (h2 : KeepT 3 w w') : RdR w' pv cv sv g := ⟨h.1.keep h1, h.2.1.keep h2, h.2.2.keep h2⟩
theorem RdR.call {w w' : World} {pv cv sv : Value} {g : Wk.RGeo} (h : RdR w pv cv sv g) (hb : Below w.heap.size w w') : RdR w' pv cv sv g := h.keep (.call hb) (.call hb)

def rgC (g : Wk.RGeo) (pv cv sv : Value) : List Value := [.int .i64 (g.kind : Int), .int .i64 (g.level : Int), pv, cv, sv]
def rgV (g : Wk.RGeo) (pv cv sv : Value) : Value := .agg #[.int .i64 (g.kind : Int), .int .i64 (g.level : Int), pv, cv, sv]

/-- these cells are those geometries of the document's -/
def rdsR (X : World) : List Value → List Wk.RGeo → Prop
  | cs, [] => cs = []
  | cs, g :: gs => ∃ pv cv sv ds, cs = rgC g pv cv sv ++ ds ∧ RdR X pv cv sv g ∧ rdsR X ds gs
theorem rdsR.keep {X Y : World} (h1 : KeepT 9 X Y) (h2 : KeepT 3 X Y) : ∀ {gs : List Wk.RGeo} {cs : List Value}, rdsR X cs gs → rdsR Y cs gs
  | [], cs, h => h
  | g :: gs, cs, ⟨pv, cv, sv, ds, a, b, c⟩ => ⟨pv, cv, sv, ds, a, b.keep h1 h2, rdsR.keep h1 h2 c⟩
theorem rdsR.append {X : World} {es : List Value} {hs : List Wk.RGeo} (hh : rdsR X es hs) : ∀ {gs : List Wk.RGeo} {cs : List Value}, rdsR X cs gs → rdsR X (cs ++ es) (gs ++ hs)
  | [], cs, h => by cases h; exact hh
  | g :: gs, cs, ⟨pv, cv, sv, ds, a, b, c⟩ => ⟨pv, cv, sv, ds ++ es, by rw [a, List.append_assoc], b, rdsR.append hh c⟩
theorem rdsR.len {X : World} : ∀ {gs : List Wk.RGeo} {cs : List Value}, rdsR X cs gs → cs.length = gs.length * 5
  | [], cs, h => by cases h; rfl
  | g :: gs, cs, ⟨pv, cv, sv, ds, a, b, c⟩ => by rw [a]; simp [rgC, rdsR.len c]; omega
theorem rdT_one {T : TypeId} {w : World} {v : Value} {n : Nat} {xs : List Value} (h : RdT T w v n xs) : v.oneCell' = true := by
  obtain ⟨a, c, rfl⟩ := pair_form (R := 0) h; rfl
theorem RdR.one {w : World} {pv cv sv : Value} {g : Wk.RGeo} (h : RdR w pv cv sv g) : ∀ u ∈ rgC g pv cv sv, u.oneCell' = true := by
  intro u hu
  simp only [rgC, List.mem_cons, List.not_mem_nil, or_false] at hu
  rcases hu with rfl | rfl | rfl | rfl | rfl
  · rfl
  · rfl
  · exact rdT_one h.1
  · exact rdT_one h.2.1
  · exact rdT_one h.2.2
theorem rdsR.one {X : World} : ∀ {gs : List Wk.RGeo} {cs : List Value}, rdsR X cs gs → ∀ u ∈ cs, u.oneCell' = true
  | [], cs, h => by cases h; simp
  | g :: gs, cs, ⟨pv, cv, sv, ds, a, b, c⟩ => by
    subst a
    intro u hu
    rcases List.mem_append.1 hu with h | h
    · exact b.one u h
    · exact rdsR.one c u h

/-- the machine's geometries: o, and the one under way -/
def RdZ (w : World) (ov : Value) (o : List Wk.RGeo) (g : Wk.RGeo) (pv cv sv : Value) : Prop :=
  ∃ co, RdT 78 w ov (o.length + 1) (co ++ rgC g pv cv sv) ∧ rdsR w co o ∧ RdR w pv cv sv g
theorem RdZ.keep {w w' : World} {ov : Value} {o : List Wk.RGeo} {g : Wk.RGeo} {pv cv sv : Value} (h : RdZ w ov o g pv cv sv) (h0 : KeepT 78 w w') (h1 : KeepT 9 w w') (h2 : KeepT 3 w w') : RdZ w' ov o g pv cv sv := by
  obtain ⟨co, a, b, c⟩ := h
  exact ⟨co, a.keep h0, b.keep h1 h2, c.keep h1 h2⟩
theorem RdZ.call {w w' : World} {ov : Value} {o : List Wk.RGeo} {g : Wk.RGeo} {pv cv sv : Value} (h : RdZ w ov o g pv cv sv) (hb : Below w.heap.size w w') : RdZ w' ov o g pv cv sv := h.keep (.call hb) (.call hb) (.call hb)

theorem cells5 {w : World} {b : Nat} {a0 a1 a2 a3 a4 : Value} {t : TypeId} (h : Blk w b [a0, a1, a2, a3, a4] t) :
    w.cell? ⟨b, 0, none⟩ = some a0 ∧ w.cell? ⟨b, 1, none⟩ = some a1 ∧ w.cell? ⟨b, 2, none⟩ = some a2 ∧ w.cell? ⟨b, 3, none⟩ = some a3 ∧ w.cell? ⟨b, 4, none⟩ = some a4 :=
  ⟨h.cell rfl, h.cell rfl, h.cell rfl, h.cell rfl, h.cell rfl⟩
theorem frozen5 {w : World} {b : Nat} {cs : List Value} {t : TypeId} (h : Blk w b cs t) :
    w.frozen? ⟨b, 0, none⟩ = false ∧ w.frozen? ⟨b, 1, none⟩ = false ∧ w.frozen? ⟨b, 2, none⟩ = false ∧ w.frozen? ⟨b, 3, none⟩ = false ∧ w.frozen? ⟨b, 4, none⟩ = false :=
  ⟨h.frozen _, h.frozen _, h.frozen _, h.frozen _, h.frozen _⟩
theorem cells3 {w : World} {b : Nat} {a0 a1 a2 : Value} {t : TypeId} (h : Blk w b [a0, a1, a2] t) :
    w.cell? ⟨b, 0, none⟩ = some a0 ∧ w.cell? ⟨b, 1, none⟩ = some a1 ∧ w.cell? ⟨b, 2, none⟩ = some a2 := ⟨h.cell rfl, h.cell rfl, h.cell rfl⟩
theorem intsN_one (l : List Nat) : ∀ u ∈ intsN l, u.oneCell' = true := by
  intro u hu; unfold intsN at hu; obtain ⟨n, _, rfl⟩ := List.mem_map.1 hu; rfl
theorem strs_one (l : List Lx.Str) : ∀ u ∈ strs l, u.oneCell' = true := by
  intro u hu; unfold strs at hu; obtain ⟨n, _, rfl⟩ := List.mem_map.1 hu; rfl
theorem own_set {w : World} {base e g n cap : Nat} {xs : List Value} (h : w.ownsRow base e 1 (.slice (some ⟨g, 0, none⟩) n cap) n xs) (j : Nat) (u : Value) : (w.setCell ⟨g, j, none⟩ u).ownsRow base e 1 (.slice (some ⟨g, 0, none⟩) n cap) n (xs.set j u) := by
  obtain ⟨hl, h⟩ := h
  refine ⟨by simpa using hl, ?_⟩
  rcases h with ⟨h, _⟩ | ⟨g', cap', cur, hv, hb, hg, hn, hc, hs, ht⟩
  · cases h
  · cases hv
    refine .inr ⟨g, cap, cur.setIfInBounds j u, rfl, hb, ?_, hn, hc, by simpa using hs, ?_⟩
    · simp only [World.setCell]
      rw [Array.getElem?_modify, if_pos rfl, hg]
      rfl
    · rw [← ht, Array.toList_setIfInBounds, List.take_set]
theorem own_cons {w : World} {base e n : Nat} {v : Value} {xs : List Value} (h : w.ownsRow base e 1 v (n + 1) xs) : ∃ g cap, v = .slice (some ⟨g, 0, none⟩) (n + 1) cap ∧ base ≤ g ∧ g < w.heap.size ∧ n + 1 ≤ cap ∧ cap ≤ maxLen ∧ (∀ j, w.frozen? ⟨g, j, none⟩ = false) ∧ ∀ j x, xs[j]? = some x → w.cell? ⟨g, j, none⟩ = some x := by
  rcases h.2 with ⟨_, h⟩ | ⟨g, cap, cur, rfl, hb, hg, hn, hcm, hs, ht⟩
  · omega
  · refine ⟨g, cap, rfl, hb, (Array.getElem?_eq_some_iff.1 hg).1, hn, hcm, fun j => by simp [World.frozen?, hg], fun j x hj => ?_⟩
    rw [← ht, List.getElem?_take] at hj
    split at hj
    · simp [World.cell?, hg, ← hj]
    · cases hj

theorem deeper_any (k : Nat) (hk : k ≤ 6) (w : World) :
    Calls Try.prog 51 #[.int .i64 (k : Int)] w fun e w' => e = .returned (.int .i64 (Wk.deeper k : Nat)) ∧ Below w.heap.size w w' := by
  have : k = 0 ∨ k = 1 ∨ k = 2 ∨ k = 3 ∨ k = 4 ∨ k = 5 ∨ k = 6 := by omega
  have hb : ∀ c, Below w.heap.size w (w.alloc (.cells c 127)) := fun c => (Below.refl _ w).alloc (Nat.le_refl _) _
  rcases this with rfl | rfl | rfl | rfl | rfl | rfl | rfl
  all_goals
    go_enter Try.func51, Try.ntmps51
    go_wp2_with fail
    go_ret
    exact ⟨rfl, hb _⟩
end Go.Proofs.Ytegkdkilbnighaa
