import Derived.Test.YtegkdkilbnighaaRfC
set_option linter.unusedVariables false
set_option linter.unusedSimpArgs false
namespace Go.Proofs.Ytegkdkilbnighaa
open Go.RowKit Go.Rg
attribute [local go_sem] Oper.semAt_some

/-- a state of the document's machine, as it lies in memory -/
def RdS (w : World) (v : Value) (z : Wk.MS) : Prop :=
  ∃ ov cs, v = .agg #[.int .i64 (z.at_ : Int), .int .i64 (z.level : Int), ov] ∧ RdT 78 w ov z.out.length cs ∧ rdsR w cs z.out
theorem RdS.call {w w' : World} {v : Value} {z : Wk.MS} (h : RdS w v z) (hb : Below w.heap.size w w') : RdS w' v z := by
  obtain ⟨ov, cs, a, b, c⟩ := h
  exact ⟨ov, cs, a, b.keep (.call hb), c.keep (.call hb) (.call hb)⟩
theorem RdS.keep {w w' : World} {v : Value} {z : Wk.MS} (h : RdS w v z) (h0 : KeepT 78 w w') (h1 : KeepT 9 w w') (h2 : KeepT 3 w w') : RdS w' v z := by
  obtain ⟨ov, cs, a, b, c⟩ := h
  exact ⟨ov, cs, a, b.keep h0, c.keep h1 h2⟩
theorem rdsR.split {X : World} {g : Wk.RGeo} : ∀ {o : List Wk.RGeo} {cs : List Value}, rdsR X cs (o ++ [g]) → ∃ co pv cv sv, cs = co ++ rgC g pv cv sv ∧ rdsR X co o ∧ RdR X pv cv sv g
  | [], cs, ⟨pv, cv, sv, ds, a, b, c⟩ => by cases c; exact ⟨[], pv, cv, sv, by simpa using a, rfl, b⟩
  | g' :: o, cs, ⟨pv', cv', sv', ds, a, b, c⟩ => by
    obtain ⟨co, pv, cv, sv, a', b', c'⟩ := rdsR.split (o := o) c
    exact ⟨rgC g' pv' cv' sv' ++ co, pv, cv, sv, by rw [a, a', List.append_assoc], ⟨pv', cv', sv', co, rfl, b, b'⟩, c'⟩
theorem RdS.geo {w : World} {v : Value} {a lev : Nat} {o : List Wk.RGeo} {g : Wk.RGeo} (h : RdS w v ⟨a, lev, o ++ [g]⟩) : ∃ ov pv cv sv, v = .agg #[.int .i64 (a : Int), .int .i64 (lev : Int), ov] ∧ RdZ w ov o g pv cv sv := by
  obtain ⟨ov, cs, rfl, b, c⟩ := h
  obtain ⟨co, pv, cv, sv, rfl, b', c'⟩ := c.split
  exact ⟨ov, pv, cv, sv, rfl, co, by simpa using b, b', c'⟩
theorem RdS.of {w : World} {ov pv cv sv : Value} {a lev : Nat} {o : List Wk.RGeo} {g : Wk.RGeo} (h : RdZ w ov o g pv cv sv) : RdS w (.agg #[.int .i64 (a : Int), .int .i64 (lev : Int), ov]) ⟨a, lev, o ++ [g]⟩ := by
  obtain ⟨co, b, c, d⟩ := h
  have h1 : rdsR w (rgC g pv cv sv) [g] := ⟨pv, cv, sv, [], by simp, d, rfl⟩
  exact ⟨ov, co ++ rgC g pv cv sv, rfl, by simpa using b, rdsR.append h1 c⟩

theorem run_field53 (k l : Int) (x2 x3 x4 : Value) (w : World) : (Instr.field 78 (.agg #[.int .i64 k, .int .i64 l, x2, x3, x4]) 0).run Try.prog w = .ok (.int .i64 k) w := by
  unfold Instr.field
  have h1 := Try.underlying78
  simp [go_sem, h1, asAgg]

theorem olds (W : World) (b : Nat) (h : b < W.heap.size) :
    (∀ (o : Obj) (i : Nat), (W.alloc o).cell? ⟨b, i, none⟩ = W.cell? ⟨b, i, none⟩) ∧ (∀ (o : Obj) (i : Nat), (W.alloc o).frozen? ⟨b, i, none⟩ = W.frozen? ⟨b, i, none⟩) ∧
    (∀ (o o' : Obj) (i : Nat), ((W.alloc o).alloc o').cell? ⟨b, i, none⟩ = W.cell? ⟨b, i, none⟩) ∧ (∀ (o o' : Obj) (i : Nat), ((W.alloc o).alloc o').frozen? ⟨b, i, none⟩ = W.frozen? ⟨b, i, none⟩) := by
  have h1 : ∀ o, (W.alloc o).heap[b]? = W.heap[b]? := fun o => Below.heap_alloc W o b h
  have h2 : ∀ o o', ((W.alloc o).alloc o').heap[b]? = W.heap[b]? := fun o o' => (Below.heap_alloc _ o' b (by simp; omega)).trans (h1 o)
  exact ⟨fun o i => World.cell?_of_block (h1 o), fun o i => World.frozen?_of_block (h1 o), fun o o' i => World.cell?_of_block (h2 o o'), fun o o' i => World.frozen?_of_block (h2 o o')⟩

theorem keepc {B : Nat} {a b : World} {q i : Nat} {v : Value} (h : Below B a b) (hq : q < B) (hc : a.cell? ⟨q, i, none⟩ = some v) : b.cell? ⟨q, i, none⟩ = some v := (World.cell?_of_block (h.block q hq)).trans hc
theorem keepf {B : Nat} {a b : World} {q i : Nat} (h : Below B a b) (hq : q < B) (hc : a.frozen? ⟨q, i, none⟩ = false) : b.frozen? ⟨q, i, none⟩ = false := (World.frozen?_of_block (h.block q hq)).trans hc

theorem keeps3 {X : World} {b q i : Nat} {v v0 v1 v2 : Value} (hne : q ≠ b) (hc : X.cell? ⟨q, i, none⟩ = some v) : (((X.setCell ⟨b, 0, none⟩ v0).setCell ⟨b, 1, none⟩ v1).setCell ⟨b, 2, none⟩ v2).cell? ⟨q, i, none⟩ = some v := by
  have h : ((((X.setCell ⟨b, 0, none⟩ v0).setCell ⟨b, 1, none⟩ v1).setCell ⟨b, 2, none⟩ v2)).heap[q]? = X.heap[q]? := by
    rw [Below.heap_setCell _ _ _ _ hne, Below.heap_setCell _ _ _ _ hne, Below.heap_setCell _ _ _ _ hne]
  exact (World.cell?_of_block (a := ⟨q, i, none⟩) h).trans hc

/-- what a step hands back -/
def StepR (w : World) (e : Ending) (r : Option Wk.MS) : Prop :=
  ∃ (ba bl : Int) (bo : Option Addr) (bn bc : Nat) (ok : Bool), e = .returned (.tuple #[.agg #[.int .i64 ba, .int .i64 bl, .slice bo bn bc], .bool ok]) ∧ match r with | some z => ok = true ∧ RdS w (.agg #[.int .i64 ba, .int .i64 bl, .slice bo bn bc]) z | none => ok = false

theorem st_blk (w : World) (c0 c1 c2 : Value) : ∃ W0, (w.alloc (.cells #[c0, c1, c2] 62)).alloc (.cells #[.int .i64 0, .int .i64 0, .slice none 0 0] 62) = W0 ∧
    Blk W0 w.heap.size [c0, c1, c2] 62 ∧ Blk W0 (w.heap.size + 1) [.int .i64 0, .int .i64 0, .slice none 0 0] 62 ∧ Below w.heap.size w W0 ∧ w.heap.size + 2 ≤ W0.heap.size := by
  obtain ⟨W0, hW0⟩ : ∃ W0, [.cells #[c0, c1, c2] 62, .cells #[.int .i64 0, .int .i64 0, .slice none 0 0] 62].foldl World.alloc w = W0 := ⟨_, rfl⟩
  exact ⟨W0, hW0, Blk.allocs _ hW0 0 rfl, Blk.allocs _ hW0 1 rfl, hW0 ▸ allocs_below _ w, Nat.le_of_eq (hW0 ▸ allocs_size _ w).symm⟩

theorem below3 {B b : Nat} {w X : World} (h : Below B w X) (hb : B ≤ b) (v0 v1 v2 : Value) : Below B w (((X.setCell ⟨b, 0, none⟩ v0).setCell ⟨b, 1, none⟩ v1).setCell ⟨b, 2, none⟩ v2) :=
  ((h.setCell (p := ⟨b, 0, none⟩) hb v0).setCell (p := ⟨b, 1, none⟩) hb v1).setCell (p := ⟨b, 2, none⟩) hb v2
theorem below2 (w : World) (o o' : Obj) : Below w.heap.size w ((w.alloc o).alloc o') := ((Below.refl _ w).alloc (Nat.le_refl _) _).alloc (by simp) _

set_option maxRecDepth 100000 in
set_option maxHeartbeats 4000000 in
theorem behind10_any (lev kd : Nat) (hlev : lev ≤ 1000000) (ov : Value) (cs : List Value) (out : List Wk.RGeo) (w : World) (h : RdT 78 w ov out.length cs) (h2 : rdsR w cs out) :
    Calls Try.prog 57 #[.agg #[.int .i64 10, .int .i64 (lev : Int), ov], .int .i64 (kd : Int)] w fun e w' => StepR w' e (Wk.behind ⟨10, lev, out⟩ kd) ∧ Below w.heap.size w w' := by
  obtain ⟨a, c, rfl⟩ := pair_form (R := 0) h
  have hS : ∀ (b l : Nat) w', Below w.heap.size w w' → RdS w' (.agg #[.int .i64 (b : Int), .int .i64 (l : Int), .slice a out.length c]) ⟨b, l, out⟩ := fun b l w' hb => ⟨_, cs, rfl, h.keep (.call hb), h2.keep (.call hb) (.call hb)⟩
  have HS := Lib.hid hS
  obtain ⟨r, hr⟩ : ∃ r, r = Wk.behind ⟨10, lev, out⟩ kd := ⟨_, rfl⟩
  rw [← hr]
  unfold Wk.behind at hr
  simp only [if_true] at hr
  have Hr := Lib.hid hr
  clear hS hr h h2
  cases lev with
  | zero =>
    go_enter Try.func57, Try.ntmps57
    go_wp2_with fail
    refine bodyPost_ret (v := .tuple #[.agg #[.int .i64 10, .int .i64 0, .slice a out.length c], .bool false]) (by simp [results, Try.results57, go_sem]) rfl ⟨⟨_, _, _, _, _, _, rfl, ?_⟩, below2 _ _ _⟩
    rw [Hr.out]; rfl
  | succ lev =>
    by_cases h5 : kd = 5
    · subst h5
      go_enter Try.func57, Try.ntmps57
      go_wp2_with fail
      refine bodyPost_ret (v := .tuple #[.agg #[.int .i64 1, .int .i64 ((lev : Int) + 1), .slice a out.length c], .bool true]) (by simp [results, Try.results57, go_sem]) rfl ⟨⟨_, _, _, _, _, _, rfl, ?_⟩, below2 _ _ _⟩
      rw [Hr.out]
      exact ⟨rfl, HS.out 1 (lev + 1) _ (below2 _ _ _)⟩
    · have e5 : ((kd : Int) == 5) = false := by simp; omega
      go_enter Try.func57, Try.ntmps57
      go_wp2_with fail
      refine bodyPost_ret (v := .tuple #[.agg #[.int .i64 10, .int .i64 (lev : Int), .slice a out.length c], .bool ((kd : Int) == 4)]) (by simp [results, Try.results57, go_sem]) rfl ⟨⟨_, _, _, _, _, _, rfl, ?_⟩, below2 _ _ _⟩
      rw [Hr.out]
      by_cases h4 : kd = 4
      · subst h4
        exact ⟨rfl, HS.out 10 lev _ (below2 _ _ _)⟩
      · rw [if_neg (by omega), if_neg h5, if_neg h4]
        simp; omega

set_option maxRecDepth 100000 in
set_option maxHeartbeats 4000000 in
theorem behind79_any (a lev kd : Nat) (ha : a = 7 ∨ a = 9) (ov : Value) (o : List Wk.RGeo) (g : Wk.RGeo) (pv cv sv : Value) (w : World) (h : RdZ w ov o g pv cv sv) (ho : o.length ≤ 1000000) (hk : g.kind ≤ 6) (hd : Wk.deeper g.kind = 3 ∨ Wk.deeper g.kind = 4 ∨ Wk.deeper g.kind = 5) :
    Calls Try.prog 57 #[.agg #[.int .i64 (a : Int), .int .i64 (lev : Int), ov], .int .i64 (kd : Int)] w fun e w' => StepR w' e (Wk.behind ⟨a, lev, o ++ [g]⟩ kd) ∧ Below w.heap.size w w' := by
  have hS : ∀ (b : Nat) w', Below w.heap.size w w' → RdS w' (.agg #[.int .i64 (b : Int), .int .i64 (lev : Int), ov]) ⟨b, lev, o ++ [g]⟩ := fun b w' hb => .of (h.call hb)
  have HS := Lib.hid hS
  have Hh := Lib.hid h
  obtain ⟨ova, ovn, ovc, rfl⟩ : ∃ a n c, ov = .slice a n c := by obtain ⟨co, b, _⟩ := h; obtain ⟨a, c, e⟩ := pair_form (R := 0) b; exact ⟨_, _, _, e⟩
  obtain ⟨co', hb', hc', hg'⟩ := h
  obtain ⟨pa, pc, rfl⟩ := pair_form (R := 0) hg'.1
  obtain ⟨ca, cc, rfl⟩ := pair_form (R := 0) hg'.2.1
  obtain ⟨sa, sc, rfl⟩ := pair_form (R := 0) hg'.2.2
  clear hb' hc' hg' co'
  obtain ⟨d, hdd⟩ : ∃ d, d = Wk.deeper g.kind := ⟨_, rfl⟩
  have hr0 : Wk.behind ⟨a, lev, o ++ [g]⟩ kd = if kd = 5 then some ⟨if a = 9 then 8 else Wk.again d, lev, o ++ [g]⟩ else if kd = 4 then some ⟨if a = 7 ∧ d = 5 then 9 else 10, lev, o ++ [g]⟩ else none := by
    have hl : Wk.last ⟨a, lev, o ++ [g]⟩ = g := by unfold Wk.last; simp
    unfold Wk.behind
    rw [if_neg (by simp only; omega), hl, ← hdd]
  obtain ⟨r, hr⟩ : ∃ r, r = Wk.behind ⟨a, lev, o ++ [g]⟩ kd := ⟨_, rfl⟩
  rw [hr0] at hr
  rw [hr0, ← hr]
  have Hr := Lib.hid hr
  have Hdd := Lib.hid hdd
  rw [← hdd] at hd
  clear hS hr hr0 hdd
  have ea : ((a : Int) == 10) = false := by simp; omega
  by_cases h5 : kd = 5
  · subst h5
    have hr5 : r = some ⟨if a = 9 then 8 else Wk.again d, lev, o ++ [g]⟩ := by rw [Hr.out, if_pos rfl]
    clear Hr
    go_enter Try.func57, Try.ntmps57
    go_wp2_with fail
    obtain ⟨W0, hW0, B0, B1, hBel, hz0⟩ := st_blk w (.int .i64 (a : Int)) (.int .i64 (lev : Int)) (.slice ova ovn ovc)
    rw [hW0]
    refine (last_any a lev (.slice ova ovn ovc) o g _ _ _ W0 (Hh.out.call hBel) ho).mono ?_
    rintro e w1 ⟨rfl, hb1⟩
    have j0 := B0.call hb1
    have j1 := B1.call hb1
    have hbw1 := hBel.trans (hb1.mono hBel.size)
    have hz1 : w.heap.size + 2 ≤ w1.heap.size := Nat.le_trans hz0 hb1.size
    unfold rgV
    have hfld := run_field53 (g.kind : Int) (g.level : Int) (.slice pa g.pairs.length pc) (.slice ca g.counts.length cc) (.slice sa g.size.length sc) w1
    clear hb1 hBel hW0 B0 B1
    go_wp2_with fail
    clear hfld
    refine (deeper_any g.kind hk _).mono ?_
    rintro e w2 ⟨rfl, hb2⟩
    rw [← Hdd.out]
    have l0 := j0.call hb2
    have l1 := j1.call hb2
    have hbw2 := hbw1.trans (hb2.mono hbw1.size)
    have hz2 : w.heap.size + 2 ≤ w2.heap.size := Nat.le_trans hz1 hb2.size
    obtain ⟨c0, c1, c2⟩ := cells3 l0
    obtain ⟨e0, e1, e2⟩ := cells3 l1
    obtain ⟨f0, f1, f2, _, _⟩ := frozen5 l1
    obtain ⟨g0, g1, g2, _, _⟩ := frozen5 l0
    have Hb2 := Lib.hid hbw2
    clear hb2 j0 j1 l0 l1 hbw1 hbw2
    obtain ⟨A1, A2, A3, A4⟩ := olds w2 w.heap.size (by omega)
    obtain ⟨A5, A6, A7, A8⟩ := olds w2 (w.heap.size + 1) (by omega)
    have hbB : ∀ (o1 o2 : Obj), Below w.heap.size w ((w2.alloc o1).alloc o2) := fun o1 o2 => (Hb2.out.alloc (by omega) _).alloc (by simp; omega) _
    cases e9 : ((a : Int) == 9) with
    | true =>
      have h9 : a = 9 := by have := eq_of_beq e9; omega
      rw [if_pos h9] at hr5
      have Hr5 := Lib.hid hr5
      clear hr5 ha h9
      rcases hd with rfl | rfl | rfl
      all_goals
        go_wp2_with fail
        refine bodyPost_ret (v := .tuple #[.agg #[.int .i64 8, .int .i64 (lev : Int), .slice ova ovn ovc], .bool true]) (by simp [results, Try.results57, go_sem, *]) rfl ⟨⟨_, _, _, _, _, _, rfl, ?_⟩, below3 (hbB _ _) (Nat.le_succ _) _ _ _⟩
        rw [Hr5.out]
        exact ⟨rfl, HS.out 8 _ (below3 (hbB _ _) (Nat.le_succ _) _ _ _)⟩
    | false =>
      have h9 : ¬ a = 9 := by have := ne_of_beq_false e9; omega
      rw [if_neg h9] at hr5
      have Hr5 := Lib.hid hr5
      clear hr5 ha h9
      rcases hd with rfl | rfl | rfl
      · go_wp2_with fail
        refine bodyPost_ret (v := .tuple #[.agg #[.int .i64 6, .int .i64 (lev : Int), .slice ova ovn ovc], .bool true]) (by simp [results, Try.results57, go_sem, *]) rfl ⟨⟨_, _, _, _, _, _, rfl, ?_⟩, below3 (hbB _ _) (Nat.le_succ _) _ _ _⟩
        rw [Hr5.out]
        exact ⟨rfl, HS.out 6 _ (below3 (hbB _ _) (Nat.le_succ _) _ _ _)⟩
      · go_wp2_with fail
        refine bodyPost_ret (v := .tuple #[.agg #[.int .i64 11, .int .i64 (lev : Int), .slice ova ovn ovc], .bool true]) (by simp [results, Try.results57, go_sem, *]) rfl ⟨⟨_, _, _, _, _, _, rfl, ?_⟩, below3 (hbB _ _) (Nat.le_succ _) _ _ _⟩
        rw [Hr5.out]
        exact ⟨rfl, HS.out 11 _ (below3 (hbB _ _) (Nat.le_succ _) _ _ _)⟩
      · go_wp2_with fail
        refine bodyPost_ret (v := .tuple #[.agg #[.int .i64 6, .int .i64 (lev : Int), .slice ova ovn ovc], .bool true]) (by simp [results, Try.results57, go_sem, *]) rfl ⟨⟨_, _, _, _, _, _, rfl, ?_⟩, below3 (hbB _ _) (Nat.le_succ _) _ _ _⟩
        rw [Hr5.out]
        exact ⟨rfl, HS.out 6 _ (below3 (hbB _ _) (Nat.le_succ _) _ _ _)⟩
  · have e5 : ((kd : Int) == 5) = false := by simp; omega
    have hr4 : r = if kd = 4 then some ⟨if a = 7 ∧ d = 5 then 9 else 10, lev, o ++ [g]⟩ else none := by rw [Hr.out, if_neg h5]
    have hend : ∀ (b : Nat) (W : World), Below w.heap.size w W → (if a = 7 ∧ d = 5 then 9 else 10) = b → StepR W (.returned (.tuple #[.agg #[.int .i64 (b : Int), .int .i64 (lev : Int), .slice ova ovn ovc], .bool ((kd : Int) == 4)])) r := by
      intro b W hb hab
      rw [hr4, hab]
      refine ⟨_, _, _, _, _, _, rfl, ?_⟩
      by_cases h4 : kd = 4
      · rw [if_pos h4]; exact ⟨by subst h4; rfl, HS.out b W hb⟩
      · rw [if_neg h4]; simp; omega
    have Hend := Lib.hid hend
    clear Hr hr4 hend
    go_enter Try.func57, Try.ntmps57
    go_wp2_with fail
    obtain ⟨W0, hW0, B0, B1, hBel, hz0⟩ := st_blk w (.int .i64 (a : Int)) (.int .i64 (lev : Int)) (.slice ova ovn ovc)
    rw [hW0]
    refine (last_any a lev (.slice ova ovn ovc) o g _ _ _ W0 (Hh.out.call hBel) ho).mono ?_
    rintro e w1 ⟨rfl, hb1⟩
    have j0 := B0.call hb1
    have j1 := B1.call hb1
    have hbw1 := hBel.trans (hb1.mono hBel.size)
    have hz1 : w.heap.size + 2 ≤ w1.heap.size := Nat.le_trans hz0 hb1.size
    unfold rgV
    have hfld := run_field53 (g.kind : Int) (g.level : Int) (.slice pa g.pairs.length pc) (.slice ca g.counts.length cc) (.slice sa g.size.length sc) w1
    clear hb1 hBel hW0 B0 B1
    go_wp2_with fail
    clear hfld
    refine (deeper_any g.kind hk _).mono ?_
    rintro e w2 ⟨rfl, hb2⟩
    rw [← Hdd.out]
    have l0 := j0.call hb2
    have l1 := j1.call hb2
    have hbw2 := hbw1.trans (hb2.mono hbw1.size)
    have hz2 : w.heap.size + 2 ≤ w2.heap.size := Nat.le_trans hz1 hb2.size
    obtain ⟨c0, c1, c2⟩ := cells3 l0
    obtain ⟨e0, e1, e2⟩ := cells3 l1
    obtain ⟨f0, f1, f2, _, _⟩ := frozen5 l1
    obtain ⟨g0, g1, g2, _, _⟩ := frozen5 l0
    have Hb2 := Lib.hid hbw2
    clear hb2 j0 j1 l0 l1 hbw1 hbw2
    cases e7 : ((a : Int) == 7) with
    | true =>
      have h7 : a = 7 := by have := eq_of_beq e7; omega
      cases ed : ((d : Int) == 5) with
      | true =>
        have hd5 : d = 5 := by have := eq_of_beq ed; omega
        have Hab := Lib.hid (show (if a = 7 ∧ d = 5 then 9 else 10) = 9 from if_pos ⟨h7, hd5⟩)
        clear h7 hd5 hd ha
        go_wp2_with fail
        have hbf := below3 (b := w.heap.size + 1) (Hb2.out.setCell (p := ⟨w.heap.size, 0, none⟩) (Nat.le_refl _) (.int .i64 9)) (Nat.le_succ _) (.int .i64 9) (.int .i64 (lev : Int)) (.slice ova ovn ovc)
        exact bodyPost_ret (v := .tuple #[.agg #[.int .i64 9, .int .i64 (lev : Int), .slice ova ovn ovc], .bool ((kd : Int) == 4)]) (by simp [results, Try.results57, go_sem, *]) rfl ⟨Hend.out 9 _ hbf Hab.out, hbf⟩
      | false =>
        have hd5 : ¬ d = 5 := by have := ne_of_beq_false ed; omega
        have Hab := Lib.hid (show (if a = 7 ∧ d = 5 then 9 else 10) = 10 from if_neg (fun h => hd5 h.2))
        clear h7 hd5 hd ha
        go_wp2_with fail
        have hbf := below3 (b := w.heap.size + 1) (Hb2.out.setCell (p := ⟨w.heap.size, 0, none⟩) (Nat.le_refl _) (.int .i64 10)) (Nat.le_succ _) (.int .i64 10) (.int .i64 (lev : Int)) (.slice ova ovn ovc)
        exact bodyPost_ret (v := .tuple #[.agg #[.int .i64 10, .int .i64 (lev : Int), .slice ova ovn ovc], .bool ((kd : Int) == 4)]) (by simp [results, Try.results57, go_sem, *]) rfl ⟨Hend.out 10 _ hbf Hab.out, hbf⟩
    | false =>
      have h7 : ¬ a = 7 := by have := ne_of_beq_false e7; omega
      have Hab := Lib.hid (show (if a = 7 ∧ d = 5 then 9 else 10) = 10 from if_neg (fun h => h7 h.1))
      clear h7 hd ha
      go_wp2_with fail
      have hbf := below3 (b := w.heap.size + 1) (Hb2.out.setCell (p := ⟨w.heap.size, 0, none⟩) (Nat.le_refl _) (.int .i64 10)) (Nat.le_succ _) (.int .i64 10) (.int .i64 (lev : Int)) (.slice ova ovn ovc)
      exact bodyPost_ret (v := .tuple #[.agg #[.int .i64 10, .int .i64 (lev : Int), .slice ova ovn ovc], .bool ((kd : Int) == 4)]) (by simp [results, Try.results57, go_sem, *]) rfl ⟨Hend.out 10 _ hbf Hab.out, hbf⟩
end Go.Proofs.Ytegkdkilbnighaa
