import Derived.Test.YtkhceimlheginaaWktV
import Derived.Test.YtkhceimlheginaaWktL
import Derived.Test.YtkhceimlheginaaQuiet
set_option linter.unusedVariables false
set_option linter.unusedSimpArgs false
namespace Go.Proofs.Ytkhceimlheginaa
open Go.RowKit Go.Rg
attribute [local go_sem] Oper.semAt_some

theorem wpr_results (X : World) (b : Nat) (v : Bool) (a : Act) (h0 : a.tmps[4]?.getD undef = .pointer (some ⟨b, 0, none⟩)) (k0 : X.cell? ⟨b, 0, none⟩ = some (.bool v)) :
    (results Try.f11 a.tmps).run Try.prog X = .ok (.bool v) X := by
  simp [results, Try.results11, go_sem, h0, k0]
theorem neq_pairs (w : World) (f : Nat) (b : Nat) : (binOp .neq 63 (.func (.func f) #[] #[.pointer (some ⟨b, 0, none⟩)]) .nilFunc).run Try.prog w = .ok (.bool true) w := by kernel_rfl

/-- the row of all pairs, while it grows -/
def wantM (B : Nat) (w1 : World) (acc : List Wk.Pr) (X : World) : Prop :=
  Below B w1 X ∧ B + 1 ≤ X.heap.size ∧ ∃ v, Blk X B [v] 60 ∧ X.ownsRow (B + 1) 66 2 v acc.length (flatP acc)
theorem wantM.call {B : Nat} {w1 X Y : World} {acc : List Wk.Pr} (h : wantM B w1 acc X) (hb : Below X.heap.size X Y) : wantM B w1 acc Y := by
  obtain ⟨h1, h2, v, h3, h4⟩ := h
  exact ⟨h1.trans (hb.mono (by omega)), by have := hb.size; omega, v, h3.call hb, own_ext h4 (Ext.of_below hb)⟩

theorem wantM.app {B : Nat} {w1 X Y : World} {acc ls : List Wk.Pr} {v v' : Value} (h1 : Below B w1 X) (h2 : B + 1 ≤ X.heap.size) (h3 : Blk X B [v] 60) (h4 : X.ownsRow (B + 1) 66 2 v acc.length (flatP acc))
    (ho : Y.ownsRow (B + 1) 66 2 v' (acc.length + ls.length) (flatP acc ++ flatP ls)) (hg : X.grownBy Y v.ownBlock) : Blk Y B [v] 60 ∧ wantM B w1 (acc ++ ls) (Y.setCell ⟨B, 0, none⟩ v') := by
  have hrow : ∀ k, v.ownBlock = some k → B + 1 ≤ k := fun k e => (h4.lt k e).1
  have k3 := h3.appended h4 (by omega) hg
  refine ⟨k3, ?_, ?_, v', k3.set 0 v', ?_⟩
  · exact (h1.grown hg (by omega) (fun k e => by have := hrow k e; omega)).setCell (p := ⟨B, 0, none⟩) (Nat.le_refl _) _
  · have := hg.size; simp [World.setCell]; omega
  · have hf : flatP (acc ++ ls) = flatP acc ++ flatP ls := by unfold flatP; rw [List.flatMap_append]
    rw [List.length_append, hf]
    exact own_other ho ⟨B, 0, none⟩ (by show B < _; omega) v'
theorem flatP_len (l : List Wk.Pr) : (flatP l).length = l.length * 2 := by
  induction l with
  | nil => rfl
  | cons p l ih => simp only [flatP, List.flatMap_cons, List.length_append, prC, List.length_cons, List.length_nil] at ih ⊢; omega
theorem flatP_one (l : List Wk.Pr) : ∀ u ∈ flatP l, u.oneCell' = true := by
  intro u hu
  obtain ⟨p, _, hp⟩ := List.mem_flatMap.1 hu
  simp only [prC, List.mem_cons, List.not_mem_nil, or_false] at hp
  rcases hp with rfl | rfl <;> rfl
theorem fm_le {A B : Type} (f : A → List B) (xs : List A) (i : Nat) : ((xs.take i).flatMap f).length ≤ (xs.flatMap f).length := by
  conv => rhs; rw [← List.take_append_drop i xs, List.flatMap_append, List.length_append]
  omega
theorem want_fits {gs : List Wk.Geo} {i j : Nat} {g : Wk.Geo} {ls : List Wk.Pr} (hg : gs[i]? = some g) (hl : g.lists[j]? = some ls) : (allP (gs.take i)).length + (g.lists.take j).flatten.length + ls.length ≤ (allP gs).length := by
  have h1 := fm_len (fun g : Wk.Geo => g.lists.flatten) hg
  have h2 := fm_le (fun g : Wk.Geo => g.lists.flatten) gs (i + 1)
  have h3 := fl_len hl
  have h4 := fm_le (fun l : List Wk.Pr => l) g.lists (j + 1)
  simp only [List.flatMap_id'] at h4
  unfold allP
  omega

/-- the last loop, between two rounds -/
def pI (w w6 : World) (S : Nat → Prop) (K : Nat) (k : Nat) (_ : Nat → Prop) (X : World) : Prop :=
  Kept S w6 X ∧ Below w.heap.size w X ∧ Blk X (w.heap.size + 1) [.bool false] 4 ∧ Blk X K [.int .i64 (k : Int)] 3
def pX (w : World) (c : Code) (k : Nat) (X : World) : Prop := c = .ret ∧ Below w.heap.size w X ∧ Blk X (w.heap.size + 1) [.bool true] 4
theorem pI_stab {w w6 : World} {S : Nat → Prop} {K : Nat} (hw : w.heap.size ≤ w6.heap.size) (hS : ∀ j, S j → j < w6.heap.size) (k : Nat) (O O' : Nat → Prop) (X Y : World) (h : pI w w6 S K k O X) (hx : Ext w6.heap.size X Y) (hO : ∀ j, O' j → grow O X Y j) : pI w w6 S K k O' Y := by
  obtain ⟨h0, h1, h2, h3⟩ := h
  exact ⟨h0.trans ((Kept.of_below hx.below).mono hS), h1.trans (hx.below.mono hw), h2.ext hx, h3.ext hx⟩
theorem pX_stab {w w6 : World} (hw : w.heap.size ≤ w6.heap.size) (c : Code) (k : Nat) (X Y : World) (h : pX w c k X) (hx : Ext w6.heap.size X Y) : pX w c k Y := by
  obtain ⟨h1, h2, h3⟩ := h
  exact ⟨h1, h2.trans (hx.below.mono hw), h3.ext hx⟩

theorem p_go {w w6 Wb X : World} {S O : Nat → Prop} {K k : Nat} (hK : ¬ S K) (hKw : w.heap.size + 1 < K) (hb : Below w.heap.size w Wb) (h0 : Kept S w6 Wb) (j2 : Blk Wb (w.heap.size + 1) [.bool false] 4) (j3 : Blk Wb K [.int .i64 (k : Int)] 3)
    (hO : ∀ j, O j → K < j ∧ j < Wb.heap.size) (hS : ∀ j, S j → j < Wb.heap.size) (hX : Below Wb.heap.size Wb X) :
    Eff w6.heap.size (both S O) Wb (X.setCell ⟨K, 0, none⟩ (.int .i64 ((k : Int) + 1))) ∧ pI w w6 S K (k + 1) O (X.setCell ⟨K, 0, none⟩ (.int .i64 ((k : Int) + 1))) := by
  have hbs := hb.size
  have hE : Eff w6.heap.size (both S O) Wb (X.setCell ⟨K, 0, none⟩ (.int .i64 ((k : Int) + 1))) := by
    refine ((Eff.refl _ _ _).call hX (fun j hj => hj.elim (fun h => hS j h) (fun h => (hO j h).2))).setCell _ ?_ _
    rintro (h | h)
    · exact hK h
    · have := (hO _ h).1; simp only at this; omega
  refine ⟨hE, h0.trans (hE.kept.mono (fun j hj => .inl hj)), ?_, ?_, ?_⟩
  · exact (hb.trans (hX.mono (by omega))).setCell (p := ⟨K, 0, none⟩) (by show _ ≤ K; omega) _
  · exact (j2.call hX).other _ (by show _ ≠ K; omega) _
  · exact (j3.call hX).set 0 (.int .i64 ((k : Int) + 1))
theorem p_stop {w w6 Wb X X1 : World} {S O : Nat → Prop} {K k : Nat} (hR : ¬ S (w.heap.size + 1)) (hKw : w.heap.size + 1 < K) (hO : ∀ j, O j → K < j ∧ j < Wb.heap.size) (hS : ∀ j, S j → j < Wb.heap.size)
    (hE : Eff w6.heap.size (both S O) Wb X) (hI : pI w w6 S K (k + 1) O X) (hX : Below X.heap.size X X1) :
    Blk X1 (w.heap.size + 1) [.bool false] 4 ∧ Eff w6.heap.size (both S O) Wb (X1.setCell ⟨w.heap.size + 1, 0, none⟩ (.bool true)) ∧ pX w .ret (k + 1) (X1.setCell ⟨w.heap.size + 1, 0, none⟩ (.bool true)) := by
  obtain ⟨h0, h1, h2, h3⟩ := hI
  have hs := hE.kept.size
  refine ⟨h2.call hX, (hE.call hX (fun j hj => hj.elim (fun h => by have := hS j h; omega) (fun h => by have := (hO j h).2; omega))).setCell _ ?_ _, rfl, ?_, (h2.call hX).set 0 (.bool true)⟩
  · rintro (h | h)
    · exact hR h
    · have := (hO _ h).1; simp only at this; omega
  · exact (h1.trans (hX.mono h1.size)).setCell (p := ⟨w.heap.size + 1, 0, none⟩) (by show _ ≤ w.heap.size + 1; omega) _

set_option maxHeartbeats 4000000 in
set_option maxRecDepth 100000 in
/-- all pairs are told in order, as far as it is asked -/
theorem lawPairsW (s : ByteArray) (hs : s.size ≤ maxLen) (stop : Int) (_wf : (Lit.int .i64 stop).wf = true) (w : World) : Calls Try.prog 11 #[.string s, .int .i64 stop] w fun e w' => e = .returned (.bool true) ∧ Below w.heap.size w w' := by
  unfold maxLen at hs
  clear _wf
  have hw0 : ∃ w0, [.cells #[.int .i64 stop] 3, .cells #[.bool false] 4].foldl World.alloc w = w0 := ⟨_, rfl⟩
  obtain ⟨w0, hw0⟩ := hw0
  have hA1 : Blk w0 w.heap.size [.int .i64 stop] 3 := Blk.allocs _ hw0 0 rfl
  have hA2 : Blk w0 (w.heap.size + 1) [.bool false] 4 := Blk.allocs _ hw0 1 rfl
  have hbel0 : Below w.heap.size w w0 := hw0 ▸ allocs_below _ w
  have Hsz0 : Hid (w0.heap.size = w.heap.size + 2) := hw0 ▸ allocs_size _ w
  have Hw0 := Lib.hid (show (w.alloc (.cells #[.int .i64 stop] 3)).alloc (.cells #[.bool false] 4) = w0 from hw0)
  clear hw0
  refine (calls_iff (r := none) (m := 0)).1 (callsIn_of_wp_marks Try.func11 rfl trivial ?_ rfl)
  simp only [Try.ntmps11, List.size_toArray, List.length_cons, List.length_nil, Nat.reduceAdd, Nat.reduceSub, Array.replicate_succ, Array.replicate_zero, List.push_toArray, List.append_toArray, List.nil_append, List.cons_append]
  by_cases h : s.size ≤ 2500
  · gi_wp2_with fail
    rw [Hw0.out]
    refine (calls_iff.2 (parse_any s w0 (by omega))).mono ?_
    rintro e w1 ⟨v1, at1, er1, rfl, hp, hb1⟩
    have hbel1 : Below w.heap.size w w1 := hbel0.trans (hb1.mono hbel0.size)
    have hC1 := hA1.call hb1
    have hC2 := hA2.call hb1
    have hs1 : w.heap.size + 2 ≤ w1.heap.size := by have := hb1.size; have := Hsz0.out; omega
    clear hA1 hA2 hbel0 Hw0 Hsz0 hb1
    cases hps : Wk.parse s.data.toList with
    | error k =>
      rw [hps] at hp
      obtain ⟨rfl, rfl, rfl⟩ := hp
      clear hps
      gi_wp2_with fail
      refine (calls_iff.2 (awake11_any w1)).mono ?_
      rintro e w2 ⟨rfl, hb⟩
      have b2 : w2.cell? ⟨w.heap.size + 1, 0, none⟩ = some (.bool false) := (hC2.call hb).cell (j := 0) rfl
      have f2 : w2.frozen? ⟨w.heap.size + 1, 0, none⟩ = false := (hC2.call hb).frozen 0
      have hfin := (hC2.call hb).set 0 (.bool true)
      have hbf := (hbel1.trans (hb.mono hbel1.size)).setCell (p := ⟨w.heap.size + 1, 0, none⟩) (by show _ ≤ w.heap.size + 1; omega) (.bool true)
      clear hC1 hC2 hbel1 hb
      gi_wp2_with fail
      exact ⟨_, wpr_results _ (w.heap.size + 1) true _ rfl (hfin.cell rfl), rfl, hbf⟩
    | ok gs =>
      have hcount := Wk.parse_pairs s gs hps
      rw [hps] at hp
      obtain ⟨⟨R, cs, hr, hg⟩, rfl, rfl⟩ := hp
      obtain ⟨a, c, rfl, hm, _⟩ := rdT_base2 hr
      obtain ⟨n, hn⟩ : ∃ n, n = gs.length := ⟨_, rfl⟩
      rw [← hn] at hm hr ⊢
      have Hr := Lib.hid hr
      have Hg := Lib.hid hg
      have Hn := Lib.hid hn
      unfold maxLen at hm
      clear hps hr hg hn
      have hM0 : Hid (wantM w1.heap.size w1 (allP (gs.take 0)) (w1.alloc (.cells #[.slice none 0 0] 60))) := ⟨(Below.refl _ _).alloc (Nat.le_refl _) _, by simp, _, Blk.new _ _ _, World.ownsRow_nil _ _ _ _⟩
      gi_wp2_with fail
      gi_loopw [36] (fun p wr => ∃ i : Nat, p = .int .i64 i ∧ i ≤ n ∧ Hid (wantM w1.heap.size w1 (allP (gs.take i)) wr)) (fun p _ => n - (intOf p).toNat)
      case atStart => exact ⟨0, rfl, Nat.zero_le _, hM0⟩
      case round =>
        obtain ⟨i, rfl, hi, HM⟩ := hrel
        clear hM0
        by_cases hin : i < n
        · obtain ⟨g, hg⟩ : ∃ g, gs[i]? = some g := ⟨_, List.getElem?_eq_getElem (by rw [← Hn.out]; exact hin)⟩
          obtain ⟨lv, zv, q0, q1, q2, q3, hbody⟩ := rdsG_at3 Hg.out hg
          have hk1 : Below w1.heap.size w1 wr := HM.out.1
          obtain ⟨a', c', e', _, ho⟩ := rdT_base2 (Hr.out.keep (.call hk1))
          obtain ⟨rfl, rfl⟩ : a = a' ∧ c = c' := by simpa using e'
          obtain ⟨ga, off, rfl, h1, h2, h3, h4⟩ := ho (fun e => by rw [e] at q0; cases q0)
          have Hbody := Lib.hid hbody
          obtain ⟨vs, hl, hls, hz⟩ := hbody
          obtain ⟨la, lc, rfl, hlm, _⟩ := rdT_base2 hl
          obtain ⟨za, zc, rfl⟩ := pair_form (R := 0) hz
          have p0 : wr.cell? ⟨ga, off + i * 4, none⟩ = some (.int .i64 (g.kind : Int)) := h4 _ _ q0
          have p1 := h4 _ _ q1
          have p2 := h4 _ _ q2
          have p3 := h4 _ _ q3
          simp only [← Nat.add_assoc] at p1 p2 p3
          obtain ⟨m, hm2⟩ : ∃ m, m = g.lists.length := ⟨_, rfl⟩
          obtain ⟨zn, hzn⟩ : ∃ zn, zn = g.sizes.length := ⟨_, rfl⟩
          simp only [← hm2, ← hzn] at hl hlm p2 p3 Hbody
          have Hm2 := Lib.hid hm2
          have Hzn := Lib.hid hzn
          have Hl := Lib.hid hl
          have Hls := Lib.hid hls
          have HG := Lib.hid hg
          have Hk1 := Lib.hid hk1
          unfold maxLen at h2 hlm
          clear h4 ho e' q0 q1 q2 q3 hl hls hz hg hm2 hzn hk1
          gi_wp2_with fail
          obtain ⟨G, hG⟩ : ∃ G, G = wr.heap.size := ⟨_, rfl⟩
          rw [← hG]
          have HGeo : Hid (Blk (wr.alloc (.cells #[.int .i64 (g.kind : Int), .int .i64 (g.level : Int), .slice la m lc, .slice za zn zc] 50)) G [.int .i64 (g.kind : Int), .int .i64 (g.level : Int), .slice la m lc, .slice za zn zc] 50) := hG ▸ Blk.new wr _ _
          have hGw : w1.heap.size + 1 ≤ G := by rw [hG]; exact HM.out.2.1
          have HM0 : Hid (wantM w1.heap.size w1 (allP (gs.take i) ++ (g.lists.take 0).flatten) (wr.alloc (.cells #[.int .i64 (g.kind : Int), .int .i64 (g.level : Int), .slice la m lc, .slice za zn zc] 50))) := by
            unfold Hid
            simp only [List.take_zero, List.flatten_nil, List.append_nil]
            exact HM.out.call ((Below.refl _ wr).alloc (Nat.le_refl _) _)
          clear hG HM
          gi_loopw [43] (fun p wr => ∃ j : Nat, p = .int .i64 j ∧ j ≤ m ∧ Hid (wantM w1.heap.size w1 (allP (gs.take i) ++ (g.lists.take j).flatten) wr) ∧ Hid (Blk wr G [.int .i64 (g.kind : Int), .int .i64 (g.level : Int), .slice la m lc, .slice za zn zc] 50)) (fun p _ => m - (intOf p).toNat)
          case atStart => exact ⟨0, rfl, Nat.zero_le _, HM0, HGeo⟩
          case round =>
            obtain ⟨j, rfl, hj, HM, HB⟩ := hrel
            clear HM0 HGeo p0 p1 p2 p3 h3
            by_cases hjm : j < m
            · obtain ⟨ls, hls⟩ : ∃ ls, g.lists[j]? = some ls := ⟨_, List.getElem?_eq_getElem (by rw [← Hm2.out]; exact hjm)⟩
              obtain ⟨pv, hpv, hrp⟩ := rdsL_at2 Hls.out hls
              obtain ⟨k1, k2, v, k3, k4⟩ := HM.out
              obtain ⟨a', c', e', _, ho⟩ := rdT_base2 (Hl.out.keep (.call k1))
              obtain ⟨rfl, rfl⟩ : la = a' ∧ lc = c' := by simpa using e'
              obtain ⟨ga2, off2, rfl, m1, m2, m3, m4⟩ := ho (fun e => by rw [e] at hpv; cases hpv)
              have p0 : wr.cell? ⟨ga2, off2 + j, none⟩ = some pv := m4 _ _ hpv
              have hrd : Reads wr wr.heap.size pv ls.length (flatP ls) := (hrp.1.keep (.call k1)).reads
              obtain ⟨pa, pc, rfl, hpm, _⟩ := rdT_base2 hrp.1
              have hfit := want_fits HG.out hls
              obtain ⟨av, capv, rfl⟩ := own_form k4
              have c8 : wr.cell? ⟨w1.heap.size, 0, none⟩ = some (.slice av _ capv) := k3.cell (j := 0) rfl
              have f8 : wr.frozen? ⟨w1.heap.size, 0, none⟩ = false := k3.frozen 0
              obtain ⟨acc, hacc⟩ : ∃ acc, acc = allP (gs.take i) ++ (g.lists.take j).flatten := ⟨_, rfl⟩
              have halen : acc.length + ls.length ≤ s.size := by rw [hacc, List.length_append]; omega
              rw [← hacc] at k4 c8 k3
              have Hacc := Lib.hid hacc
              have Hk1 := Lib.hid k1
              have Hk3 := Lib.hid k3
              have Hk4 := Lib.hid k4
              have HL := Lib.hid hls
              have Hrd := Lib.hid hrd
              unfold maxLen at hpm m2
              clear m4 ho e' hpv hrp hls HM hacc k1 k3 k4 hrd hfit
              gi_wp2_with (gi_at_builtin; refine wpListIn_append2 _ rfl _ _ 60 rfl (w1.heap.size + 1) 66 (.agg #[.string ⟨#[]⟩, .string ⟨#[]⟩]) 2 32 Try.underlying60 info_pair rfl (by decide) (.slice av acc.length capv) acc.length _ rfl Hk4.out _ _ ls.length (flatP ls) rfl Hrd.out (flatP_len ls) (flatP_one ls) ?c3 ?c4 ?c5 ?_)
              case c3 => unfold maxLen; omega
              case c4 => omega
              case c5 => omega
              intro v' w4 hown hgrow hmov
              obtain ⟨hB4, hM4⟩ := wantM.app Hk1.out k2 Hk3.out Hk4.out hown hgrow
              have kp : KeepT 50 wr w4 := KeepT.grown Hk4.out (by decide) hgrow
              have hB5 : Blk w4 G [.int .i64 (g.kind : Int), .int .i64 (g.level : Int), .slice _ m lc, .slice za zn zc] 50 := kp _ _ _ HB.out
              have HB4 := Lib.hid (hB5.other ⟨w1.heap.size, 0, none⟩ (by show G ≠ w1.heap.size; omega) v')
              have c9 : w4.cell? ⟨w1.heap.size, 0, none⟩ = some (.slice av _ capv) := hB4.cell (j := 0) rfl
              have f9 : w4.frozen? ⟨w1.heap.size, 0, none⟩ = false := hB4.frozen 0
              have HM4 := Lib.hid hM4
              obtain ⟨a', cap', rfl⟩ := own_form hown
              clear hown hgrow hmov hM4 hB4 hB5 kp c8 f8
              gi_wp2_with fail
              go_roundw
              case rel => exact ⟨j + 1, by go_num, by omega, by rw [List.take_add_one, HL.out, Option.toList_some, List.flatten_append, List.flatten_singleton, ← List.append_assoc, ← Hacc.out]; exact HM4, HB4⟩
              case measure => simp [intOf]; omega
            · have hje : j = m := by omega
              subst hje
              have q0 := HB.out.cell (j := 0) rfl
              have q1 := HB.out.cell (j := 1) rfl
              have q2 := HB.out.cell (j := 2) rfl
              have q3 := HB.out.cell (j := 3) rfl
              have HM5 : Hid (wantM w1.heap.size w1 (allP (gs.take (i + 1))) wr) := by
                have := HM.out
                rw [Hm2.out, List.take_length] at this
                unfold Hid allP
                rw [List.take_add_one, HG.out, Option.toList_some, List.flatMap_append, List.flatMap_cons, List.flatMap_nil, List.append_nil]
                exact this
              have Hb5 := Lib.hid (Hbody.out.keep (.call HM.out.1) (.call HM.out.1) (.call HM.out.1))
              clear HM
              gi_wp2_with fail
              refine (calls_iff.2 (equal_any R g _ _ wr Hb5.out)).mono ?_
              rintro e w5 ⟨rfl, hb5⟩
              have HM6 := Lib.hid (HM5.out.call hb5)
              clear hb5 HM5 Hb5
              gi_wp2_with fail
              go_roundw
              case rel => exact ⟨i + 1, by go_num, by omega, HM6⟩
              case measure => simp [intOf]; omega
        · have hie : i = n := by omega
          subst hie
          rw [Hn.out, List.take_length] at HM
          have Hr5 := Lib.hid (Hr.out.keep (.call HM.out.1))
          have hcsw := HM.out.1
          gi_wp2_with fail
          refine (calls_iff.2 (pairs_any _ _ _ _)).mono ?_
          rintro e w6 ⟨rfl, hw⟩
          have hw' : [.cells #[.int .i64 0] 3, .cells #[.slice a i c] 40].foldl World.alloc wr = w6 := hw
          clear hw
          have hE0 : Blk w6 wr.heap.size [.int .i64 0] 3 := Blk.allocs _ hw' 0 rfl
          have hE1 : Blk w6 (wr.heap.size + 1) [.slice a i c] 40 := Blk.allocs _ hw' 1 rfl
          have hbel56 : Below wr.heap.size wr w6 := hw' ▸ allocs_below _ wr
          have Hsz6 : Hid (w6.heap.size = wr.heap.size + 2) := hw' ▸ allocs_size _ wr
          clear hw'
          have hs5 : w1.heap.size + 1 ≤ wr.heap.size := HM.out.2.1
          have hs6 : wr.heap.size + 2 ≤ w6.heap.size := by have := Hsz6.out; omega
          have hbel15 : Below w1.heap.size w1 w6 := HM.out.1.trans (hbel56.mono (by omega))
          have hbel6 : Below w.heap.size w w6 := hbel1.trans (hbel15.mono (by omega))
          have hD1 : Blk w6 w.heap.size [.int .i64 stop] 3 := hC1.call hbel15
          have hD2 : Blk w6 (w.heap.size + 1) [.bool false] 4 := hC2.call hbel15
          obtain ⟨-, -, wv, hWB, hown⟩ := HM.out.call hbel56
          obtain ⟨av, capv, rfl⟩ := own_form hown
          obtain ⟨N, hN⟩ : ∃ N, N = (allP gs).length := ⟨_, rfl⟩
          rw [← hN] at hWB hown hcount
          obtain ⟨S, hSd⟩ : ∃ S : Nat → Prop, S = fun j => j < w6.heap.size ∧ j ≠ w.heap.size + 1 ∧ j ≠ wr.heap.size := ⟨_, rfl⟩
          have hSlt : ∀ j, S j → j < w6.heap.size := by rw [hSd]; exact fun j hj => hj.1
          have HS := Lib.hid hSd
          have HN := Lib.hid hN
          have hkT : ∀ T, 4 ≠ T → 3 ≠ T → ∀ X, Kept S w6 X → KeepT T w6 X := by
            intro T hT1 hT2 X hX g' cs' fz hgc
            refine (hX.same g' ?_).trans hgc
            rw [hSd]
            refine ⟨(Array.getElem?_eq_some_iff.1 hgc).1, ?_, ?_⟩
            · rintro rfl; unfold Blk at hD2; rw [hD2] at hgc; cases hgc; exact hT1 rfl
            · rintro rfl; unfold Blk at hE0; rw [hE0] at hgc; cases hgc; exact hT2 rfl
          have hnf := fun wx => neq_pairs wx 49 (wr.heap.size + 1)
          have hSeq : SeqI Try.prog 49 #[.pointer (some ⟨wr.heap.size + 1, 0, none⟩)] ((allP gs).map fun p => #[prV p]) S w6 :=
            pairs_seq (wr.heap.size + 1) R (.slice a i c) gs cs S w6 hE1 (by rw [← Hn.out]; exact Hr5.out.keep (.call hbel56)) (Hg.out.keep (.call hbel15) (.call hbel15) (.call hbel15)) (by rw [hSd]; exact ⟨by omega, by omega, by omega⟩) hSlt
              (fun X hX => ⟨hkT _ (by decide) (by decide) X hX, hkT _ (by decide) (by decide) X hX, hkT _ (by decide) (by decide) X hX⟩)
          have HSeq := Lib.hid hSeq
          have Hown := Lib.hid (RdT.of_own hown)
          have HkT := Lib.hid (hkT 66 (by decide) (by decide))
          clear hSeq hSd hN hkT hown HM hC1 hC2 hbel1 hbel15 hbel56 Hr5 hcsw Hr Hg
          gi_wp2_with fail
          refine wp_range (P := Try.prog) (gf := 49) (lb := #[.pointer (some ⟨wr.heap.size + 1, 0, none⟩)]) (S := S) rfl enter_pairs1
            HSeq.out (Kept.refl _ _) hSlt (fun x hx => by obtain ⟨t, _, rfl⟩ := List.mem_map.1 hx; rfl)
            (pI w w6 S wr.heap.size) (pX w) (fun k O O' X Y h hx hO => pI_stab (by omega) hSlt k O O' X Y h hx hO) (fun c k X Y h hx => pX_stab (by omega) c k X Y h hx)
            ⟨Kept.refl _ _, hbel6, hD2, hE0⟩ ?round ?done ?stop
          case round =>
            intro l k x O Wr hl1 hl2 hx hk hO hi
            rw [List.getElem?_map] at hx
            obtain ⟨p, hp, rfl⟩ := Option.map_eq_some_iff.1 hx
            clear hx
            have Hp := Lib.hid hp
            have Hi := Lib.hid hi
            have HO := Lib.hid hO
            clear hp hi hO hE0 hE1
            unfold prV
            gi_wp2_with fail
            refine ⟨(Eff.refl _ _ _).alloc (fun j hj => hj.elim (fun h => by have := hk.size; have := hSlt j h; omega) (fun h => (HO.out j h).2)) _, ?_⟩
            intro Wb hx hkb hszb hlb
            obtain ⟨i0, i1, i2, i3⟩ := Hi.out
            have hwW : w6.heap.size ≤ Wr.heap.size := hk.size
            have hxr : Ext w6.heap.size Wr Wb := (Ext.of_below' ((Below.refl _ Wr).alloc (Nat.le_refl _) (.cells #[.string ⟨p.1.toArray⟩, .string ⟨p.2.toArray⟩] 66)) (by omega)).trans hx
            have jt := (Blk.new Wr [.string ⟨p.1.toArray⟩, .string ⟨p.2.toArray⟩] 66).ext hx
            have j0 : Kept S w6 Wb := i0.trans ((Kept.of_below hxr.below).mono hSlt)
            have j2 := i2.ext hxr
            have j3 := i3.ext hxr
            have jb : Below w.heap.size w Wb := i1.trans (hxr.below.mono (by omega))
            have j1 : Blk Wb w.heap.size [.int .i64 stop] 3 := hD1.of_same (j0.same _ (by rw [HS.out]; exact ⟨by omega, by omega, by omega⟩))
            have j8 : Blk Wb w1.heap.size [.slice av N capv] 60 := hWB.of_same (j0.same _ (by rw [HS.out]; exact ⟨by omega, by omega, by omega⟩))
            have hzb : Wr.heap.size + 1 ≤ Wb.heap.size := by rw [hszb]; simp
            have hkN : k < N := by rw [HN.out]; exact (List.getElem?_eq_some_iff.1 Hp.out).1
            obtain ⟨f1, f2⟩ := flatP_at2 _ _ _ Hp.out
            obtain ⟨a', c', e', _, ho⟩ := rdT_base2 (Hown.out.keep (HkT.out Wb j0))
            obtain ⟨rfl, rfl⟩ : av = a' ∧ capv = c' := by simpa using e'
            obtain ⟨g, off, rfl, m1, m2, m3, m4⟩ := ho (fun e => by rw [e] at f1; cases f1)
            have q0 : Wb.cell? ⟨g, off + k * 2, none⟩ = some (.string ⟨p.1.toArray⟩) := m4 _ _ f1
            have q1 := m4 _ _ f2
            simp only [← Nat.add_assoc] at q1
            have t0 := jt.cell (j := 0) rfl
            have t1 := jt.cell (j := 1) rfl
            have d1 := j1.cell (j := 0) rfl
            have d2 := j2.cell (j := 0) rfl
            have d3 := j3.cell (j := 0) rfl
            have d8 := j8.cell (j := 0) rfl
            have g2 := j2.frozen 0
            have g3 := j3.frozen 0
            unfold maxLen at m2
            clear ho e' f1 f2 m4 hx hkb hszb hlb i0 i1 i2 i3
            have hNm : N ≤ 2500 := by omega
            obtain ⟨p1, hp1⟩ : ∃ p1 : ByteArray, p1 = ⟨p.1.toArray⟩ := ⟨_, rfl⟩
            obtain ⟨p2, hp2⟩ : ∃ p2 : ByteArray, p2 = ⟨p.2.toArray⟩ := ⟨_, rfl⟩
            simp only [← hp1, ← hp2] at t0 t1 q0 q1 ⊢
            clear hp1 hp2
            gi_wp2_with fail
            refine quiet_round (by kernel_rfl) (by kernel_rfl) (by kernel_rfl) ?_
            repeat (quiet_step_in (fail))
            refine wpQuietIn_nil ?_
            intro _ hw'
            obtain ⟨nq, hw''⟩ := hw'
            subst hw''
            have hXd := below_drewN Wb.heap.size Wb nq
            have hfin := p_go (w6 := w6) (S := S) (K := wr.heap.size) (k := k) (O := O) (by rw [HS.out]; exact fun h => h.2.2 rfl) (by omega) jb j0 j2 j3 (fun j hj => ⟨by have := (HO.out j hj).1; omega, by have := (HO.out j hj).2; omega⟩) (fun j hj => by have := hSlt j hj; omega) (X := Wb.drewN nq) hXd
            have Hfin := Lib.hid hfin
            have e3 := (j3.call hXd).cell (j := 0) rfl
            have g3' := (j3.call hXd).frozen 0
            have e1 := (j1.call hXd).cell (j := 0) rfl
            clear hfin t0 t1
            by_cases hst : (k : Int) + 1 = stop
            · have hst' : ((k : Int) + 1 == stop) = true := by rw [beq_iff_eq]; exact hst
              clear hst
              gi_wp2_with fail
              refine (calls_iff.2 (awake11_any _)).mono ?_
              rintro e X1 ⟨rfl, hX1⟩
              obtain ⟨z1, z2, z3⟩ := p_stop (by rw [HS.out]; exact fun h => h.2.1 rfl) (by omega) (fun j hj => ⟨by have := (HO.out j hj).1; omega, by have := (HO.out j hj).2; omega⟩) (fun j hj => by have := hSlt j hj; omega) Hfin.out.1 Hfin.out.2 hX1
              have y1 : X1.cell? ⟨w.heap.size + 1, 0, none⟩ = some (.bool false) := z1.cell (j := 0) rfl
              have y2 : X1.frozen? ⟨w.heap.size + 1, 0, none⟩ = false := z1.frozen 0
              have Hz := Lib.hid (And.intro z2 z3)
              clear z1 z2 z3
              gi_wp2_with fail
              exact Hz.out
            · have hst' : ((k : Int) + 1 == stop) = false := by rw [beq_eq_false_iff_ne]; exact hst
              clear hst
              gi_wp2_with fail
              exact Hfin.out
          case done =>
            intro O Wd hk hlt hi hD
            rw [List.length_map] at hi
            obtain ⟨i0, i1, i2, i3⟩ := hi
            rw [← HN.out] at i3
            have j8 : Blk Wd w1.heap.size [.slice av N capv] 60 := hWB.of_same (i0.same _ (by rw [HS.out]; exact ⟨by omega, by omega, by omega⟩))
            have d3 := i3.cell (j := 0) rfl
            have d8 := j8.cell (j := 0) rfl
            have HD := Lib.hid hD
            have hle : ((N : Int) == (N : Int)) = true := by simp
            clear hD hE0 hE1 hD1 hD2
            gi_wp2_with fail
            refine (calls_iff.2 (awake11_any _)).mono ?_
            rintro e X1 ⟨rfl, hX1⟩
            have y1 : X1.cell? ⟨w.heap.size + 1, 0, none⟩ = some (.bool false) := (i2.call hX1).cell (j := 0) rfl
            have y2 : X1.frozen? ⟨w.heap.size + 1, 0, none⟩ = false := (i2.call hX1).frozen 0
            have hfb := (i2.call hX1).set 0 (.bool true)
            have hbf := (i1.trans (hX1.mono i1.size)).setCell (p := ⟨w.heap.size + 1, 0, none⟩) (by show _ ≤ w.heap.size + 1; omega) (.bool true)
            have hDD : X1.heap[w6.heap.size]? = some (.deferred (some [])) := (hX1.block _ (Array.getElem?_eq_some_iff.1 HD.out).1).trans HD.out
            have HD1 := Lib.hid (set_other hDD rfl ⟨w.heap.size + 1, 0, none⟩ (.bool true))
            clear hDD
            gi_wp2_with fail
            refine ⟨by simp, .inl ⟨_, _, rfl, run_takeDeferred HD1.out, ?_⟩⟩
            exact ⟨_, wpr_results _ (w.heap.size + 1) true _ rfl ((hfb.put (by omega) _).cell rfl), rfl, put_below hbf (by omega) HD1.out rfl⟩
          case stop =>
            intro c k Wd hk hlt hk0 hkl hi hD
            obtain ⟨rfl, i1, i2⟩ := hi
            have HD := Lib.hid hD
            clear hD hE0 hE1 hD1 hD2
            gi_wp2_with fail
            refine ⟨by simp, .inl ⟨_, _, rfl, run_takeDeferred HD.out, ?_⟩⟩
            exact ⟨_, wpr_results _ (w.heap.size + 1) true _ rfl ((i2.put (by omega) _).cell rfl), rfl, put_below i1 (by omega) HD.out rfl⟩
  · gi_wp2_with fail
    rw [Hw0.out]
    refine (calls_iff.2 (awake11_any _)).mono ?_
    rintro e w1 ⟨rfl, hb⟩
    have b2 : w1.cell? ⟨w.heap.size + 1, 0, none⟩ = some (.bool false) := (hA2.call hb).cell (j := 0) rfl
    have f2 : w1.frozen? ⟨w.heap.size + 1, 0, none⟩ = false := (hA2.call hb).frozen 0
    have hfin := (hA2.call hb).set 0 (.bool true)
    have hbf := (hbel0.trans (hb.mono hbel0.size)).setCell (p := ⟨w.heap.size + 1, 0, none⟩) (by show _ ≤ w.heap.size + 1; omega) (.bool true)
    gi_wp2_with fail
    exact ⟨_, wpr_results _ (w.heap.size + 1) true _ rfl (hfin.cell rfl), rfl, hbf⟩
end Go.Proofs.Ytkhceimlheginaa
