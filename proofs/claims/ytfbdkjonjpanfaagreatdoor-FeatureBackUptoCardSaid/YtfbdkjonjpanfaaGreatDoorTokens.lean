import Derived.Test.YtfbdkjonjpanfaaGreatDoorScan
import Derived.Test.YtfbdkjonjpanfaaGreatDoorApp
set_option linter.unusedVariables false
set_option linter.unusedSimpArgs false
namespace Go.Proofs.YtfbdkjonjpanfaaGreatDoor
open Go.RowKit Go.Rg
attribute [local go_sem] Oper.semAt_some

def tokC (t : Lx.Tok) : List Value := [.int .i64 t.kind, .int .i64 t.fr, .int .i64 t.to]
def flatT (l : List Lx.Tok) : List Value := l.flatMap tokC

theorem info_tok : (Tryz.prog.info? 71).map (fun i => (i.zero, i.size, i.bytes)) = some (some (.agg #[.int .i64 0, .int .i64 0, .int .i64 0]), 3, 24) := by kernel_rfl

/-- what Tokens hands back -/
def tokensRes (l : List Lx.Tok) (v : Value) (at_ e : Int) (w : World) : Prop :=
  match Lx.badAt l with
  | some k => v = .slice none 0 0 ∧ at_ = k ∧ e = 21
  | none => Reads w w.heap.size v l.length (flatT l) ∧ at_ = 0 ∧ e = 0

def tokI (w w1 : World) (l : List Lx.Tok) (k : Nat) (O : Nat → Prop) (W : World) : Prop :=
  Below w.heap.size w W ∧ (∀ t ∈ l.take k, t.kind ≠ 0) ∧ Blk W w.heap.size [.slice none 0 0] 63 ∧ Blk W (w.heap.size + 1) [.int .i64 0] 3 ∧ Blk W (w.heap.size + 2) [.int .i64 0] 24 ∧
  ∃ v, Blk W (w.heap.size + 3) [v] 63 ∧ W.ownsRow w1.heap.size 71 3 v k (flatT (l.take k)) ∧ (∀ g, v.ownBlock = some g → ¬ O g)

def tokX (w : World) (l : List Lx.Tok) (c : Code) (k : Nat) (W : World) : Prop :=
  c = .ret ∧ Below w.heap.size w W ∧ ∃ j t, j + 1 = k ∧ l[j]? = some t ∧ t.kind = 0 ∧ (∀ t ∈ l.take j, t.kind ≠ 0) ∧
  Blk W w.heap.size [.slice none 0 0] 63 ∧ Blk W (w.heap.size + 1) [.int .i64 t.fr] 3 ∧ Blk W (w.heap.size + 2) [.int .i64 21] 24

theorem tokI_stab (w w1 : World) (l : List Lx.Tok) (hw : w.heap.size ≤ w1.heap.size) (k : Nat) (O O' : Nat → Prop) (X Y : World) (h : tokI w w1 l k O X) (hx : Ext w1.heap.size X Y) (hO : ∀ j, O' j → grow O X Y j) : tokI w w1 l k O' Y := by
  obtain ⟨h1, h2, h3, h4, h5, v, h6, h7, h8⟩ := h
  refine ⟨h1.trans (hx.below.mono hw), h2, h3.ext hx, h4.ext hx, h5.ext hx, v, h6.ext hx, own_ext h7 hx, fun g hg hj => ?_⟩
  rcases hO g hj with h | h
  · exact h8 g hg h
  · have := (h7.lt g hg).2; omega
theorem tokX_stab (w w1 : World) (l : List Lx.Tok) (hw : w.heap.size ≤ w1.heap.size) (c : Code) (k : Nat) (X Y : World) (h : tokX w l c k X) (hx : Ext w1.heap.size X Y) : tokX w l c k Y := by
  obtain ⟨h0, h1, j, t, h2, h3, h4, h5, h6, h7, h8⟩ := h
  exact ⟨h0, h1.trans (hx.below.mono hw), j, t, h2, h3, h4, h5, h6.ext hx, h7.ext hx, h8.ext hx⟩

theorem tok_stop {w Wb : World} {l : List Lx.Tok} {k : Nat} {t : Lx.Tok} (hb : Below w.heap.size w Wb) (h2 : ∀ t ∈ l.take k, t.kind ≠ 0) (ht : l[k]? = some t) (hz : t.kind = 0)
    (h3 : Blk Wb w.heap.size [.slice none 0 0] 63) (h4 : Blk Wb (w.heap.size + 1) [.int .i64 0] 3) (h5 : Blk Wb (w.heap.size + 2) [.int .i64 0] 24) :
    tokX w l .ret (k + 1) (((Wb.setCell ⟨w.heap.size, 0, none⟩ (.slice none 0 0)).setCell ⟨w.heap.size + 1, 0, none⟩ (.int .i64 t.fr)).setCell ⟨w.heap.size + 1 + 1, 0, none⟩ (.int .i64 21)) := by
  refine ⟨rfl, ((hb.setCell (p := ⟨w.heap.size, 0, none⟩) (Nat.le_refl _) _).setCell (p := ⟨w.heap.size + 1, 0, none⟩) (Nat.le_succ _) _).setCell (p := ⟨w.heap.size + 1 + 1, 0, none⟩) (by show _ ≤ w.heap.size + 1 + 1; omega) _, k, t, rfl, ht, hz, h2, ?_, ?_, ?_⟩
  · exact ((h3.set 0 _).other _ (by show _ ≠ w.heap.size + 1; omega) _).other _ (by show _ ≠ w.heap.size + 1 + 1; omega) _
  · exact ((h4.other _ (by show _ ≠ w.heap.size; omega) _).set 0 _).other _ (by show _ ≠ w.heap.size + 1 + 1; omega) _
  · exact ((h5.other _ (by show _ ≠ w.heap.size; omega) _).other _ (by show _ ≠ w.heap.size + 1; omega) _).set 0 _

theorem tokX_drew {w X : World} {l : List Lx.Tok} {c : Code} {k : Nat} (h : tokX w l c k X) : tokX w l c k X.drew := by
  obtain ⟨h0, h1, j, t, h2, h3, h4, h5, h6, h7, h8⟩ := h
  exact ⟨h0, h1.drew, j, t, h2, h3, h4, h5, h6, h7, h8⟩

theorem eff3 {B : Nat} {S : Nat → Prop} {b : Nat} (hS : ∀ j, S j → b + 3 ≤ j) (Wb : World) (v0 v1 v2 : Value) : Eff B S Wb (((Wb.setCell ⟨b, 0, none⟩ v0).setCell ⟨b + 1, 0, none⟩ v1).setCell ⟨b + 1 + 1, 0, none⟩ v2) :=
  (((Eff.refl _ _ _).setCell _ (fun h => by have := hS _ h; simp only at this; omega) _).setCell _ (fun h => by have := hS _ h; simp only at this; omega) _).setCell _ (fun h => by have := hS _ h; simp only at this; omega) _

theorem flatT_snoc (l : List Lx.Tok) (k : Nat) (t : Lx.Tok) (h : l[k]? = some t) : flatT (l.take (k + 1)) = flatT (l.take k) ++ tokC t := by
  unfold flatT
  rw [List.take_add_one, h]
  simp
theorem tokC_one (t : Lx.Tok) : ∀ u ∈ tokC t, u.oneCell' = true := by simp [tokC, Value.oneCell']

theorem tok_go {w w1 Wb w2 : World} {l : List Lx.Tok} {k : Nat} {t : Lx.Tok} {v v' : Value} {S O : Nat → Prop} {o : Obj} (hw1 : w1.heap.size = w.heap.size + 5) (hwb : w1.heap.size ≤ Wb.heap.size) (hb : Below w.heap.size w Wb) (h2 : ∀ t ∈ l.take k, t.kind ≠ 0) (ht : l[k]? = some t) (hz : t.kind ≠ 0)
    (h3 : Blk Wb w.heap.size [.slice none 0 0] 63) (h4 : Blk Wb (w.heap.size + 1) [.int .i64 0] 3) (h5 : Blk Wb (w.heap.size + 2) [.int .i64 0] 24) (h6 : Blk Wb (w.heap.size + 3) [v] 63)
    (h7 : Wb.ownsRow w1.heap.size 71 3 v k (flatT (l.take k))) (h8 : ∀ g, v.ownBlock = some g → ¬ O g) (hS : ∀ j, S j → w.heap.size + 4 ≤ j ∧ j < w1.heap.size) (hO : ∀ j, O j → w1.heap.size < j ∧ j < Wb.heap.size)
    (hown : w2.ownsRow w1.heap.size 71 3 v' (k + 1) (flatT (l.take k) ++ tokC t)) (hg : (Wb.alloc o).grownBy w2 v.ownBlock) (hm : Moves (Wb.alloc o) v v') :
    Eff w1.heap.size (both S O) Wb (w2.setCell ⟨w.heap.size + 1 + 1 + 1, 0, none⟩ v') ∧ tokI w w1 l (k + 1) O (w2.setCell ⟨w.heap.size + 1 + 1 + 1, 0, none⟩ v') := by
  have hSO : ∀ j, both S O j → j < Wb.heap.size := fun j hj => hj.elim (fun h => by have := hS _ h; omega) (fun h => (hO _ h).2)
  have h7a := h7.alloc o
  have hgb : Below w.heap.size w w2 := (hb.alloc (by omega) o).grown hg (by simp; omega) (fun g e => by have := (h7.lt g e).1; omega)
  have hne : ∀ b, b ≤ w.heap.size + 2 → b ≠ (⟨w.heap.size + 1 + 1 + 1, 0, none⟩ : Addr).block := fun b hb => by show b ≠ w.heap.size + 1 + 1 + 1; omega
  refine ⟨?_, hgb.setCell (by show _ ≤ w.heap.size + 1 + 1 + 1; omega) _, ?_, ?_, ?_, ?_, v', ?_, ?_, ?_⟩
  · refine Eff.setCell ?_ _ ?_ _
    · refine Eff.grown ((Eff.refl _ _ _).alloc hSO o) hg (fun j hj => by have := hSO j hj; simp; omega) (fun g e => ?_) (fun g o' e ho => ?_)
      · rintro (h | h)
        · have := hS _ h; have := (h7.lt g e).1; omega
        · exact h8 g e h
      · rcases h7a.2 with ⟨rfl, _⟩ | ⟨g', cap, cur, rfl, _, hg', _⟩
        · simp [Value.ownBlock] at e
        · simp [Value.ownBlock] at e
          subst e
          rw [hg'] at ho; cases ho; rfl
    · rintro (h | h)
      · have := hS _ h; simp only at this; omega
      · have := hO _ h; simp only at this; omega
  · rw [List.take_add_one, ht]
    intro u hu
    rcases List.mem_append.1 hu with h | h
    · exact h2 u h
    · simp at h; rw [h]; exact hz
  · exact ((h3.alloc o).appended h7a (by omega) hg).other _ (hne _ (by omega)) _
  · exact ((h4.alloc o).appended h7a (by omega) hg).other _ (hne _ (by omega)) _
  · exact ((h5.alloc o).appended h7a (by omega) hg).other _ (hne _ (by omega)) _
  · exact ((h6.alloc o).appended h7a (by omega) hg).set 0 _
  · rw [flatT_snoc l k t ht]
    exact own_other hown _ (by show w.heap.size + 1 + 1 + 1 < _; omega) _
  · intro g e hOg
    rcases hm with h | ⟨g', h, hlt⟩
    · exact h8 g (h ▸ e) hOg
    · rw [h] at e; cases e
      have := (hO _ hOg).2
      simp at hlt; omega

theorem tok_results (X : World) (b : Nat) (v x y : Value) (a : Act) (h0 : a.tmps[2]?.getD undef = .pointer (some ⟨b, 0, none⟩)) (h1 : a.tmps[3]?.getD undef = .pointer (some ⟨b + 1, 0, none⟩)) (h2 : a.tmps[4]?.getD undef = .pointer (some ⟨b + 1 + 1, 0, none⟩))
    (k0 : X.cell? ⟨b, 0, none⟩ = some v) (k1 : X.cell? ⟨b + 1, 0, none⟩ = some x) (k2 : X.cell? ⟨b + 1 + 1, 0, none⟩ = some y) :
    (results Tryz.f19 a.tmps).run Tryz.prog X = .ok (.tuple #[v, x, y]) X := by
  simp [results, Tryz.results19, go_sem, h0, h1, h2, k0, k1, k2]

set_option maxRecDepth 100000 in
theorem tokens_any (s : ByteArray) (w : World) (hs : s.size ≤ 100000) :
    Calls Tryz.prog 19 #[.string s] w fun e w' => ∃ (v : Value) (at_ er : Int), e = .returned (.tuple #[v, .int .i64 at_, .int .i64 er]) ∧ tokensRes (Lx.scan s.data.toList) v at_ er w' ∧ Below w.heap.size w w' := by
  have hm : s.size ≤ maxLen := by unfold maxLen; omega
  refine (calls_iff (r := none) (m := 0)).1 (callsIn_of_wp_marks Tryz.func19 rfl trivial ?_ rfl)
  simp only [Tryz.ntmps19, List.size_toArray, List.length_cons, List.length_nil, Nat.reduceAdd, Nat.reduceSub, Array.replicate_succ, Array.replicate_zero, List.push_toArray, List.append_toArray, List.nil_append, List.cons_append]
  gi_wp2_with fail
  refine (calls_iff.2 (scan_any _ _)).mono ?_
  rintro e w1 ⟨rfl, hw⟩
  have hw' : [.cells #[.slice none 0 0] 63, .cells #[.int .i64 0] 3, .cells #[.int .i64 0] 24, .cells #[.slice none 0 0] 63, .cells #[.string s] 9].foldl World.alloc w = w1 := hw
  clear hw
  have hB0 : Blk w1 w.heap.size [.slice none 0 0] 63 := Blk.allocs _ hw' 0 rfl
  have hB1 : Blk w1 (w.heap.size + 1) [.int .i64 0] 3 := Blk.allocs _ hw' 1 rfl
  have hB2 : Blk w1 (w.heap.size + 2) [.int .i64 0] 24 := Blk.allocs _ hw' 2 rfl
  have hB3 : Blk w1 (w.heap.size + 3) [.slice none 0 0] 63 := Blk.allocs _ hw' 3 rfl
  have hB4 : Blk w1 (w.heap.size + 4) [.string s] 9 := Blk.allocs _ hw' 4 rfl
  have hBel : Below w.heap.size w w1 := hw' ▸ allocs_below _ w
  have hsz : w1.heap.size = w.heap.size + 5 := hw' ▸ allocs_size _ w
  clear hw'
  have Hsz := Lib.hid hsz
  have hsz1 : w.heap.size + 5 ≤ w1.heap.size := by omega
  clear hsz
  gi_wp2_with fail
  have hsz := Hsz.out
  have hw1 : w.heap.size ≤ w1.heap.size := by omega
  refine wp_range (P := Tryz.prog) (gf := 46) (lb := #[.pointer (some ⟨w.heap.size + 4, 0, none⟩)]) (S := fun j => j = w.heap.size + 4) rfl enter_scan1
    (scan_seq (w.heap.size + 4) s (fun j => j = w.heap.size + 4) w1 hm hB4 rfl (fun k hk => by omega)) (Kept.refl _ _) (fun k hk => by omega) (fun x hx => by obtain ⟨t, _, rfl⟩ := List.mem_map.1 hx; rfl)
    (tokI w w1 (Lx.scan s.data.toList)) (tokX w (Lx.scan s.data.toList)) (tokI_stab w w1 _ hw1) (tokX_stab w w1 _ hw1)
    ⟨hBel, by simp, hB0, hB1, hB2, _, hB3, World.ownsRow_nil _ _ _ _, fun g hg => by simp [Value.ownBlock] at hg⟩ ?round ?done ?stop
  case round =>
    intro l k x O W hl1 hl2 hx hk hO hi
    rw [List.getElem?_map] at hx
    obtain ⟨t, ht, rfl⟩ := Option.map_eq_some_iff.1 hx
    clear hx
    have Ht := Lib.hid ht
    have Hi := Lib.hid hi
    have HO := Lib.hid hO
    clear ht hi hO hB0 hB1 hB2 hB3 hB4 hsz
    dsimp only [tokA]
    have hwW : w1.heap.size ≤ W.heap.size := hk.size
    gi_wp2_with fail
    refine ⟨(Eff.refl _ _ _).alloc (fun j hj => hj.elim (fun h => by omega) (fun h => (HO.out j h).2)) _, ?_⟩
    intro Wb hx hkb hszb hlb
    obtain ⟨i1, i2, i3, i4, i5, v, i6, i7, i8⟩ := Hi.out
    have j3 := (i3.alloc (.cells #[.int .i64 t.kind, .int .i64 t.fr, .int .i64 t.to] 71)).ext hx
    have j4 := (i4.alloc (.cells #[.int .i64 t.kind, .int .i64 t.fr, .int .i64 t.to] 71)).ext hx
    have j5 := (i5.alloc (.cells #[.int .i64 t.kind, .int .i64 t.fr, .int .i64 t.to] 71)).ext hx
    have j6 := (i6.alloc (.cells #[.int .i64 t.kind, .int .i64 t.fr, .int .i64 t.to] 71)).ext hx
    have j7 := own_ext (i7.alloc (.cells #[.int .i64 t.kind, .int .i64 t.fr, .int .i64 t.to] 71)) hx
    have jt := (Blk.new W [.int .i64 t.kind, .int .i64 t.fr, .int .i64 t.to] 71).ext hx
    have hzb : W.heap.size + 1 ≤ Wb.heap.size := by rw [hszb]; simp
    have d0 := j3.cell (j := 0) rfl
    have d1 := j4.cell (j := 0) rfl
    have d2 : Wb.cell? ⟨w.heap.size + 1 + 1, 0, none⟩ = some (.int .i64 0) := j5.cell (j := 0) rfl
    have d3 : Wb.cell? ⟨w.heap.size + 1 + 1 + 1, 0, none⟩ = some v := j6.cell (j := 0) rfl
    have t0 := jt.cell (j := 0) rfl
    have t1 := jt.cell (j := 1) rfl
    have t2 := jt.cell (j := 2) rfl
    have f0 := j3.frozen 0
    have f1 := j4.frozen 0
    have f2 : Wb.frozen? ⟨w.heap.size + 1 + 1, 0, none⟩ = false := j5.frozen 0
    have f3 : Wb.frozen? ⟨w.heap.size + 1 + 1 + 1, 0, none⟩ = false := j6.frozen 0
    have Hx := Lib.hid hx
    have Hkb := Lib.hid hkb
    have Hszb := Lib.hid hszb
    have H7 := Lib.hid j7
    have jb : Below w.heap.size w Wb := (i1.alloc (by omega) _).trans (hx.below.mono (by omega))
    have H2 := Lib.hid i2
    have H8 := Lib.hid i8
    clear hx hkb hszb hlb i1 i2 i3 i4 i5 i6 i7 i8
    by_cases hz : t.kind = 0
    · have hz' : ((t.kind : Int) == 0) = true := by rw [hz]; rfl
      have Hz := Lib.hid hz
      clear hz
      gi_wp2_with fail
      gi_region
      all_goals gi_wp2_with fail
      all_goals
        have hS3 : ∀ j, both (fun j => j = w.heap.size + 4) O j → w.heap.size + 3 ≤ j := fun j hj => hj.elim (fun h => by omega) (fun h => by have := (HO.out j h).1; omega)
        have hX := tok_stop jb H2.out Ht.out Hz.out j3 j4 j5
        first
          | exact ⟨eff3 hS3 _ _ _ _, hX⟩
          | exact ⟨(eff3 hS3 _ _ _ _).drew, tokX_drew hX⟩
    · have hz' : ((t.kind : Int) == 0) = false := by rw [beq_eq_false_iff_ne]; omega
      have Hz := Lib.hid hz
      clear hz
      have hkl : k < s.size := by
        have := (List.getElem?_eq_some_iff.1 Ht.out).1
        have := Lx.scan_len s
        omega
      gi_wp2_with (gi_at_builtin; refine wpListIn_append2 _ rfl _ _ 63 rfl w1.heap.size 71 (.agg #[.int .i64 0, .int .i64 0, .int .i64 0]) 3 24 Tryz.underlying63 info_tok rfl (by decide) v k _ rfl (H7.out.alloc _) _ _ 1 (tokC t) rfl (reads_new _ _ _ 1 1 (by decide) (by decide)) rfl (tokC_one t) ?c3 ?c4 ?c5 ?_)
      case c3 => unfold maxLen; omega
      case c4 => omega
      case c5 => simp; omega
      intro v' w2 hown hgrow hmov
      obtain ⟨a', cap', rfl⟩ := own_form hown
      have k6 := (j6.alloc (.cells #[.int .i64 t.kind, .int .i64 t.fr, .int .i64 t.to] 71)).appended (j7.alloc _) (by omega) hgrow
      have e3 : w2.cell? ⟨w.heap.size + 1 + 1 + 1, 0, none⟩ = some v := k6.cell (j := 0) rfl
      have g3 : w2.frozen? ⟨w.heap.size + 1 + 1 + 1, 0, none⟩ = false := k6.frozen 0
      have hfin := tok_go Hsz.out (by omega) jb H2.out Ht.out Hz.out j3 j4 j5 j6 j7 H8.out (S := fun j => j = w.heap.size + 4) (by intro j hj; have := Hsz.out; omega) (fun j hj => ⟨by have := (HO.out j hj).1; omega, by have := (HO.out j hj).2; omega⟩) hown hgrow hmov
      have Hfin := Lib.hid hfin
      clear hfin hown hgrow hmov k6
      gi_wp2_with fail
      exact Hfin.out
  case done =>
    intro O W hk hlt hi hD
    rw [List.length_map] at hi
    obtain ⟨i1, i2, i3, i4, i5, v, i6, i7, i8⟩ := hi
    obtain ⟨av, capv, rfl⟩ := own_form i7
    have d0 := i3.cell (j := 0) rfl
    have d1 := i4.cell (j := 0) rfl
    have d2 : W.cell? ⟨w.heap.size + 1 + 1, 0, none⟩ = some (.int .i64 0) := i5.cell (j := 0) rfl
    have d3 : W.cell? ⟨w.heap.size + 1 + 1 + 1, 0, none⟩ = some (.slice av _ capv) := i6.cell (j := 0) rfl
    have f0 := i3.frozen 0
    have f1 := i4.frozen 0
    have f2 : W.frozen? ⟨w.heap.size + 1 + 1, 0, none⟩ = false := i5.frozen 0
    have H2 := Lib.hid i2
    have H8 := Lib.hid i8
    have HD := Lib.hid hD
    clear i2 i8 hD
    clear hsz hB0 hB1 hB2 hB3 hB4
    gi_wp2_with fail
    refine ⟨by simp, .inl ⟨_, _, rfl, run_takeDeferred (set_other (set_other (set_other HD.out rfl _ _) rfl _ _) rfl _ _), ?_⟩⟩
    have m3 := ((i3.set 0 (.slice av (Lx.scan s.data.toList).length capv)).other ⟨w.heap.size + 1, 0, none⟩ (by show _ ≠ w.heap.size + 1; omega) (.int .i64 0)).other ⟨w.heap.size + 1 + 1, 0, none⟩ (by show _ ≠ w.heap.size + 1 + 1; omega) (.int .i64 0)
    have m4 := ((i4.other ⟨w.heap.size, 0, none⟩ (by show _ ≠ w.heap.size; omega) (.slice av (Lx.scan s.data.toList).length capv)).set 0 (.int .i64 0)).other ⟨w.heap.size + 1 + 1, 0, none⟩ (by show _ ≠ w.heap.size + 1 + 1; omega) (.int .i64 0)
    have m5 := ((i5.other ⟨w.heap.size, 0, none⟩ (by show _ ≠ w.heap.size; omega) (.slice av (Lx.scan s.data.toList).length capv)).other ⟨w.heap.size + 1, 0, none⟩ (by show _ ≠ w.heap.size + 1; omega) (.int .i64 0)).set 0 (.int .i64 0)
    refine ⟨_, tok_results _ w.heap.size (.slice av (Lx.scan s.data.toList).length capv) (.int .i64 0) (.int .i64 0) _ rfl rfl rfl ((m3.put (by omega) _).cell rfl) ((m4.put (by omega) _).cell rfl) ((m5.put (by omega) _).cell rfl), _, _, _, rfl, ?_, ?_⟩
    · unfold tokensRes
      rw [Lx.badAt_none (by have := H2.out; rwa [List.take_length] at this)]
      refine ⟨?_, rfl, rfl⟩
      have hr := own_other (own_other (own_other i7 ⟨w.heap.size, 0, none⟩ (by show w.heap.size < _; omega) (.slice av (Lx.scan s.data.toList).length capv)) ⟨w.heap.size + 1, 0, none⟩ (by show w.heap.size + 1 < _; omega) (.int .i64 0)) ⟨w.heap.size + 1 + 1, 0, none⟩ (by show w.heap.size + 1 + 1 < _; omega) (.int .i64 0)
      have hr2 := own_ext hr (put_ext (set_other (set_other (set_other HD.out rfl _ _) rfl _ _) rfl _ _) rfl (.deferred none))
      rw [List.take_length] at hr2
      exact Reads.of_own hr2
    · exact put_below (((i1.setCell (p := ⟨w.heap.size, 0, none⟩) (Nat.le_refl _) _).setCell (p := ⟨w.heap.size + 1, 0, none⟩) (by show _ ≤ w.heap.size + 1; omega) _).setCell (p := ⟨w.heap.size + 1 + 1, 0, none⟩) (by show _ ≤ w.heap.size + 1 + 1; omega) _) (by omega) (set_other (set_other (set_other HD.out rfl _ _) rfl _ _) rfl _ _) rfl
  case stop =>
    intro c k W hk hlt hk0 hkl hi hD
    obtain ⟨rfl, i1, j, t, i2, i3, i4, i5, i6, i7, i8⟩ := hi
    have I3 := Lib.hid i3
    have I4 := Lib.hid i4
    have I5 := Lib.hid i5
    have HD := Lib.hid hD
    clear i2 i3 i4 i5 hD hsz hB0 hB1 hB2 hB3 hB4
    gi_wp2_with fail
    refine ⟨by simp, .inl ⟨_, _, rfl, run_takeDeferred HD.out, ?_⟩⟩
    refine ⟨_, tok_results _ w.heap.size _ _ _ _ rfl rfl rfl ((i6.put (by omega) _).cell rfl) ((i7.put (by omega) _).cell rfl) ((i8.put (by omega) _).cell rfl), _, _, _, rfl, ?_, ?_⟩
    · unfold tokensRes
      rw [Lx.badAt_of I3.out I4.out I5.out]
      exact ⟨rfl, rfl, rfl⟩
    · exact put_below i1 (by omega) HD.out rfl
end Go.Proofs.YtfbdkjonjpanfaaGreatDoor
