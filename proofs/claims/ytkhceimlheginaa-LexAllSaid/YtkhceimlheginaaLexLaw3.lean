import Derived.Test.YtkhceimlheginaaLexLaw2
import Derived.Test.YtkhceimlheginaaAll
import Derived.Test.YtkhceimlheginaaPrefix
import Derived.Test.YtkhceimlheginaaQuiet

set_option linter.unusedVariables false
set_option linter.unusedSimpArgs false
namespace Go.Proofs.Ytkhceimlheginaa
open Go.RowKit Go.Rg
attribute [local go_sem] Oper.semAt_some

section
variable (w w2 : World) (s : ByteArray) (stop : Int) (v : Value) (A : List Lx.Tok)
/-- the loop of LexAll, between two rounds: w2 is the world behind the document's answer -/
def laI (k : Nat) (O : Nat → Prop) (X : World) : Prop :=
  Below w.heap.size w X ∧ Blk X w.heap.size [.string s] 9 ∧ Blk X (w.heap.size + 1) [.int .i64 stop] 3 ∧ Blk X (w.heap.size + 2) [.bool false] 4 ∧
  Blk X w2.heap.size [v] 27 ∧ Blk X (w2.heap.size + 1) [.int .i64 k] 3 ∧ Reads X w2.heap.size v A.length (flatT A)
def laX (c : Code) (k : Nat) (X : World) : Prop := c = .ret ∧ Below w.heap.size w X ∧ Blk X (w.heap.size + 2) [.bool true] 4
end
theorem laI_stab {w w2 w3 : World} {s : ByteArray} {stop : Int} {v : Value} {A : List Lx.Tok} (hw : w.heap.size ≤ w3.heap.size) (k : Nat) (O O' : Nat → Prop) (X Y : World) (h : laI w w2 s stop v A k O X) (hx : Ext w3.heap.size X Y) (hO : ∀ j, O' j → grow O X Y j) : laI w w2 s stop v A k O' Y := by
  obtain ⟨h1, h2, h3, h4, h5, h6, h7⟩ := h
  exact ⟨h1.trans (hx.below.mono hw), h2.ext hx, h3.ext hx, h4.ext hx, h5.ext hx, h6.ext hx, h7.ext hx⟩
theorem laX_stab {w w3 : World} (hw : w.heap.size ≤ w3.heap.size) (c : Code) (k : Nat) (X Y : World) (h : laX w c k X) (hx : Ext w3.heap.size X Y) : laX w c k Y := by
  obtain ⟨h1, h2, h3⟩ := h
  exact ⟨h1, h2.trans (hx.below.mono hw), h3.ext hx⟩

theorem below_drawn (W : World) (n : Nat) : Below W.heap.size W (W.drewN n) := ⟨rfl, rfl, rfl, Nat.le_refl _, fun _ _ => rfl⟩

theorem la_go {w w2 w3 Wb X : World} {s : ByteArray} {stop : Int} {v : Value} {A : List Lx.Tok} {k : Nat} {O : Nat → Prop} (hs2 : w.heap.size + 3 ≤ w2.heap.size) (hs3 : w2.heap.size + 3 ≤ w3.heap.size) (hwb : w3.heap.size ≤ Wb.heap.size)
    (hb : Below w.heap.size w Wb) (j2 : Blk Wb w.heap.size [.string s] 9) (j3 : Blk Wb (w.heap.size + 1) [.int .i64 stop] 3) (j4 : Blk Wb (w.heap.size + 2) [.bool false] 4)
    (j5 : Blk Wb w2.heap.size [v] 27) (j6 : Blk Wb (w2.heap.size + 1) [.int .i64 k] 3) (j7 : Reads Wb w2.heap.size v A.length (flatT A)) (hO : ∀ j, O j → w3.heap.size < j ∧ j < Wb.heap.size) (hX : Below Wb.heap.size Wb X) :
    Eff w3.heap.size (both (fun j => j = w2.heap.size + 2) O) Wb (X.setCell ⟨w2.heap.size + 1, 0, none⟩ (.int .i64 ((k : Int) + 1))) ∧
    laI w w2 s stop v A (k + 1) O (X.setCell ⟨w2.heap.size + 1, 0, none⟩ (.int .i64 ((k : Int) + 1))) := by
  have hsX := hX.size
  refine ⟨((Eff.refl _ _ _).call hX (fun j hj => hj.elim (fun h => by omega) (fun h => (hO j h).2))).setCell _ ?_ _, ?_, ?_, ?_, ?_, ?_, ?_, ?_⟩
  · rintro (h | h)
    · simp only at h; omega
    · have := (hO _ h).1; simp only at this; omega
  · exact (hb.trans (hX.mono (by omega))).setCell (p := ⟨w2.heap.size + 1, 0, none⟩) (by show _ ≤ w2.heap.size + 1; omega) _
  · exact (j2.call hX).other _ (by show _ ≠ w2.heap.size + 1; omega) _
  · exact (j3.call hX).other _ (by show _ ≠ w2.heap.size + 1; omega) _
  · exact (j4.call hX).other _ (by show _ ≠ w2.heap.size + 1; omega) _
  · exact (j5.call hX).other _ (by show _ ≠ w2.heap.size + 1; omega) _
  · exact (j6.call hX).set 0 (.int .i64 ((k : Int) + 1))
  · refine Reads.below ?_ ((Below.refl w2.heap.size X).setCell (p := ⟨w2.heap.size + 1, 0, none⟩) (by show _ ≤ w2.heap.size + 1; omega) _)
    exact j7.below (hX.mono (by omega))

theorem la_stop {w w2 w3 Wb X X1 : World} {s : ByteArray} {stop : Int} {v : Value} {A : List Lx.Tok} {k : Nat} {O : Nat → Prop} (hs2 : w.heap.size + 3 ≤ w2.heap.size) (hs3 : w2.heap.size + 3 ≤ w3.heap.size) (hwb : w3.heap.size ≤ Wb.heap.size)
    (hO : ∀ j, O j → w3.heap.size < j ∧ j < Wb.heap.size) (hE : Eff w3.heap.size (both (fun j => j = w2.heap.size + 2) O) Wb X) (hI : laI w w2 s stop v A (k + 1) O X) (hX : Below X.heap.size X X1) :
    Blk X1 (w.heap.size + 2) [.bool false] 4 ∧ Eff w3.heap.size (both (fun j => j = w2.heap.size + 2) O) Wb (X1.setCell ⟨w.heap.size + 1 + 1, 0, none⟩ (.bool true)) ∧
    laX w .ret (k + 1) (X1.setCell ⟨w.heap.size + 1 + 1, 0, none⟩ (.bool true)) := by
  obtain ⟨h1, h2, h3, h4, h5, h6, h7⟩ := hI
  have hs := hE.kept.size
  refine ⟨h4.call hX, (hE.call hX (fun j hj => hj.elim (fun h => by omega) (fun h => by have := (hO j h).2; omega))).setCell _ ?_ _, rfl, ?_, (h4.call hX).set 0 (.bool true)⟩
  · rintro (h | h)
    · simp only at h; omega
    · have := (hO _ h).1; simp only at this; omega
  · exact (h1.trans (hX.mono h1.size)).setCell (p := ⟨w.heap.size + 1 + 1, 0, none⟩) (by show _ ≤ w.heap.size + 1 + 1; omega) _

theorem la_results (X : World) (b : Nat) (v : Bool) (a : Act) (h0 : a.tmps[4]?.getD undef = .pointer (some ⟨b, 0, none⟩)) (k0 : X.cell? ⟨b, 0, none⟩ = some (.bool v)) :
    (results Try.f6 a.tmps).run Try.prog X = .ok (.bool v) X := by
  simp [results, Try.results6, go_sem, h0, k0]

theorem neq_func (w : World) (f : Nat) (b : Nat) : (binOp .neq 37 (.func (.func f) #[] #[.pointer (some ⟨b, 0, none⟩)]) .nilFunc).run Try.prog w = .ok (.bool true) w := by kernel_rfl

set_option maxHeartbeats 4000000 in
set_option maxRecDepth 100000 in
theorem lawAll (s : ByteArray) (hs : s.size ≤ maxLen) (stop : Int) (_wf : (Lit.int .i64 stop).wf = true) (w : World) : Calls Try.prog 6 #[.string s, .int .i64 stop] w fun e w' => e = .returned (.bool true) ∧ Below w.heap.size w w' := by
  have hm := hs
  unfold maxLen at hs
  clear _wf
  have hw0 : ∃ w0, [.cells #[.string s] 9, .cells #[.int .i64 stop] 3, .cells #[.bool false] 4].foldl World.alloc w = w0 := ⟨_, rfl⟩
  obtain ⟨w0, hw0⟩ := hw0
  have hA0 : Blk w0 w.heap.size [.string s] 9 := Blk.allocs _ hw0 0 rfl
  have hA1 : Blk w0 (w.heap.size + 1) [.int .i64 stop] 3 := Blk.allocs _ hw0 1 rfl
  have hA2 : Blk w0 (w.heap.size + 2) [.bool false] 4 := Blk.allocs _ hw0 2 rfl
  have hbel0 : Below w.heap.size w w0 := hw0 ▸ allocs_below _ w
  have Hsz0 : Hid (w0.heap.size = w.heap.size + 3) := hw0 ▸ allocs_size _ w
  have Hw0 := Lib.hid (show ((w.alloc (.cells #[.string s] 9)).alloc (.cells #[.int .i64 stop] 3)).alloc (.cells #[.bool false] 4) = w0 from hw0)
  clear hw0
  refine (calls_iff (r := none) (m := 0)).1 (callsIn_of_wp_marks Try.func6 rfl trivial ?_ rfl)
  simp only [Try.ntmps6, List.size_toArray, List.length_cons, List.length_nil, Nat.reduceAdd, Nat.reduceSub, Array.replicate_succ, Array.replicate_zero, List.push_toArray, List.append_toArray, List.nil_append, List.cons_append]
  by_cases h : s.size ≤ 3000
  · gi_wp2_with fail
    rw [Hw0.out]
    refine (calls_iff.2 (rtokens_any _ w0 (by omega))).mono ?_
    rintro e w1 ⟨v0, at1, rfl, h1, hb1⟩
    have hbel1 : Below w.heap.size w w1 := hbel0.trans (hb1.mono hbel0.size)
    have hC0 := hA0.call hb1
    have hC1 := hA1.call hb1
    have hC2 := hA2.call hb1
    have hs1 : w.heap.size + 3 ≤ w1.heap.size := by have := hb1.size; have := Hsz0.out; omega
    have c0 := hC0.cell (j := 0) rfl
    clear hA0 hA1 hA2 hbel0 Hw0 Hsz0 hb1
    unfold rtokRes at h1
    rcases Lx.scan_split s with ⟨hall, hbad⟩ | ⟨A, bad, hsA, hA, hbz, hbf, hbad, hpre⟩
    · rw [hbad] at h1
      obtain ⟨-, rfl⟩ := h1
      obtain ⟨A, hAd⟩ : ∃ A, Lx.scan s.data.toList = A := ⟨_, rfl⟩
      have HP := Lib.hid hAd
      rw [hAd] at hall
      have HA := Lib.hid hall
      have HG : Hid (good (Lx.scan s.data.toList) = A) := by unfold Hid; rw [hAd]; exact good_all hall
      clear hAd hall hbad
      gi_wp2_with fail
      refine (calls_iff.2 (rtokens_any _ w1 (by omega))).mono ?_
      rintro e w2 ⟨v, at2, rfl, h2, hb2⟩
      unfold rtokRes at h2
      rw [HP.out, Lx.badAt_none HA.out] at h2
      obtain ⟨hr2, rfl⟩ := h2
      obtain ⟨av, capv, rfl, hn2, _⟩ := reads_form hr2
      have hbel2 : Below w.heap.size w w2 := hbel1.trans (hb2.mono (by have := hbel1.size; omega))
      have hD0 := hC0.call hb2
      have hD1 := hC1.call hb2
      have hD2 := hC2.call hb2
      have e0 : ∀ o1 o2, ((w2.alloc o1).alloc o2).cell? ⟨w.heap.size, 0, none⟩ = some (.string s) := fun o1 o2 => ((hD0.alloc o1).alloc o2).cell (j := 0) rfl
      have hs2 : w.heap.size + 3 ≤ w2.heap.size := by have := hb2.size; omega
      have Hr2 := Lib.hid hr2
      clear hC0 hC1 hC2 hbel1 hr2 c0
      gi_wp2_with fail
      refine (calls_iff.2 (all_any _ _)).mono ?_
      rintro e w3 ⟨rfl, hw⟩
      have hw' : [.cells #[.slice av A.length capv] 27, .cells #[.int .i64 0] 3, .cells #[.string s] 9].foldl World.alloc w2 = w3 := hw
      clear hw
      have hE3 : Blk w3 w2.heap.size [.slice av A.length capv] 27 := Blk.allocs _ hw' 0 rfl
      have hE4 : Blk w3 (w2.heap.size + 1) [.int .i64 0] 3 := Blk.allocs _ hw' 1 rfl
      have hE5 : Blk w3 (w2.heap.size + 2) [.string s] 9 := Blk.allocs _ hw' 2 rfl
      have hbel23 : Below w2.heap.size w2 w3 := hw' ▸ allocs_below _ w2
      have Hsz3 : Hid (w3.heap.size = w2.heap.size + 3) := hw' ▸ allocs_size _ w2
      clear hw' e0
      have hE0 := hD0.call hbel23
      have hE1 := hD1.call hbel23
      have hE2 := hD2.call hbel23
      have hs3 : w2.heap.size + 3 ≤ w3.heap.size := by have := Hsz3.out; omega
      have hbel3 : Below w.heap.size w w3 := hbel2.trans (hbel23.mono (by omega))
      have hr3 : Reads w3 w2.heap.size (.slice av A.length capv) A.length (flatT A) := Hr2.out.below hbel23
      have hnf := fun wx => neq_func wx 40 (w2.heap.size + 1 + 1)
      gi_wp2_with fail
      refine wp_range (P := Try.prog) (gf := 40) (lb := #[.pointer (some ⟨w2.heap.size + 1 + 1, 0, none⟩)]) (S := fun j => j = w2.heap.size + 2) rfl enter_all1
        (all_seq (w2.heap.size + 2) s (fun j => j = w2.heap.size + 2) w3 hm hE5 rfl (fun k hk => by omega)) (Kept.refl _ _) (fun k hk => by omega) (fun x hx => by obtain ⟨t, _, rfl⟩ := List.mem_map.1 hx; rfl)
        (laI w w2 s stop (.slice av A.length capv) A) (laX w) (fun k O O' X Y h hx hO => laI_stab (by omega) k O O' X Y h hx hO) (fun c k X Y h hx => laX_stab (by omega) c k X Y h hx)
        ⟨hbel3, hE0, hE1, hE2, hE3, hE4, hr3⟩ ?round ?done ?stop
      case round =>
        intro l k x O Wr hl1 hl2 hx hk hO hi
        rw [HG.out, List.getElem?_map] at hx
        obtain ⟨t, ht, rfl⟩ := Option.map_eq_some_iff.1 hx
        clear hx
        have Ht := Lib.hid ht
        have Hi := Lib.hid hi
        have HO := Lib.hid hO
        clear ht hi hO hE0 hE1 hE2 hE3 hE4 hE5 hr3 hD0 hD1 hD2
        dsimp only [allA]
        gi_wp2_with fail
        refine ⟨(Eff.refl _ _ _).alloc (fun j hj => hj.elim (fun h => by have := hk.size; omega) (fun h => (HO.out j h).2)) _, ?_⟩
        intro Wb hx hkb hszb hlb
        obtain ⟨i1, i2, i3, i4, i5, i6, i7⟩ := Hi.out
        have hwW : w3.heap.size ≤ Wr.heap.size := hk.size
        have jt := (Blk.new Wr [.int .i64 t.kind, .int .i64 t.fr, .int .i64 t.to] 31).ext hx
        have j2 := (i2.alloc (.cells #[.int .i64 t.kind, .int .i64 t.fr, .int .i64 t.to] 31)).ext hx
        have j3 := (i3.alloc (.cells #[.int .i64 t.kind, .int .i64 t.fr, .int .i64 t.to] 31)).ext hx
        have j4 := (i4.alloc (.cells #[.int .i64 t.kind, .int .i64 t.fr, .int .i64 t.to] 31)).ext hx
        have j5 := (i5.alloc (.cells #[.int .i64 t.kind, .int .i64 t.fr, .int .i64 t.to] 31)).ext hx
        have j6 := (i6.alloc (.cells #[.int .i64 t.kind, .int .i64 t.fr, .int .i64 t.to] 31)).ext hx
        have hxr : Ext w3.heap.size Wr Wb := (Ext.of_below' ((Below.refl _ Wr).alloc (Nat.le_refl _) _) (by omega)).trans hx
        have j7 := i7.ext hxr
        have jb : Below w.heap.size w Wb := i1.trans (hxr.below.mono (by omega))
        have hzb : Wr.heap.size + 1 ≤ Wb.heap.size := by rw [hszb]; simp
        obtain ⟨a7, cap7, hv7, _, hc7⟩ := reads_form j7
        have hlt : k < A.length := (List.getElem?_eq_some_iff.1 Ht.out).1
        obtain ⟨f1, f2, f3⟩ := flatT_at _ _ _ Ht.out
        obtain ⟨g, off, rfl, hg, hc⟩ := hc7 (by intro e; rw [e] at f1; simp at f1)
        simp only [Value.slice.injEq, true_and] at hv7
        obtain ⟨rfl, rfl⟩ := hv7
        have q0 : Wb.cell? ⟨g, off + k * 3, none⟩ = some (.int .i64 t.kind) := hc _ _ f1
        have q1 : Wb.cell? ⟨g, off + k * 3 + 1, none⟩ = some (.int .i64 t.fr) := hc _ _ f2
        have q2 : Wb.cell? ⟨g, off + k * 3 + 2, none⟩ = some (.int .i64 t.to) := hc _ _ f3
        have t0 := jt.cell (j := 0) rfl
        have t1 := jt.cell (j := 1) rfl
        have t2 := jt.cell (j := 2) rfl
        have d0 := j2.cell (j := 0) rfl
        have d1 := j3.cell (j := 0) rfl
        have d2 : Wb.cell? ⟨w.heap.size + 1 + 1, 0, none⟩ = some (.bool false) := j4.cell (j := 0) rfl
        have d3 := j5.cell (j := 0) rfl
        have d4 := j6.cell (j := 0) rfl
        have g2 : Wb.frozen? ⟨w.heap.size + 1 + 1, 0, none⟩ = false := j4.frozen 0
        have g4 := j6.frozen 0
        clear hc hc7 f1 f2 f3 hx hkb hszb hlb i1 i2 i3 i4 i5 i6 i7
        obtain ⟨q, hq⟩ : ∃ q : ByteArray, (⟨(allText s.data.toList t).toArray⟩ : ByteArray) = q := ⟨_, rfl⟩
        rw [hq]
        have Hq := Lib.hid hq
        clear hq
        gi_wp2_with fail
        refine quiet_round (by kernel_rfl) (by kernel_rfl) (by kernel_rfl) ?_
        repeat (quiet_step_in (fail))
        refine wpQuietIn_nil ?_
        intro _ hw'
        obtain ⟨nq, hw''⟩ := hw'
        subst hw''
        have hmem : t ∈ good (Lx.scan s.data.toList) := by rw [HG.out]; exact List.mem_of_getElem? Ht.out
        obtain ⟨hft, hts⟩ := scan_bounds s t ((List.takeWhile_sublist _).subset hmem)
        have hal : A.length ≤ s.size := by
          have h1 : (good (Lx.scan s.data.toList)).length ≤ _ := (List.takeWhile_sublist _).length_le
          rw [HG.out] at h1
          exact Nat.le_trans h1 (Lx.scan_len s)
        have HT : Hid (Lx.text t.kind t.fr t.to s.data.toList = (s.extract t.fr t.to).data.toList) := by
          unfold Hid Lx.text; rw [if_neg (by rw [← Lib.size_eq]; omega), Lib.extract_data]; congr 1; omega
        clear hmem t0 t1 t2
        have hXd := below_drawn Wb nq
        have t0 := (jt.call hXd).cell (j := 0) rfl
        have t1 := (jt.call hXd).cell (j := 1) rfl
        have t2 := (jt.call hXd).cell (j := 2) rfl
        by_cases hk1 : t.kind = 1
        · have hz1 : ((t.kind : Int) == 1) = true := by rw [hk1]; rfl
          have Hk1 := Lib.hid hk1
          clear hk1
          gi_wp2_with fail
          refine (calls_iff.2 (rupper_any _ _ (by rw [ByteArray.size_extract]; omega))).mono ?_
          rintro e X ⟨r, rfl, Hu, hXr⟩
          have hX : Below Wb.heap.size Wb X := hXd.trans hXr
          obtain rfl : r = q := by rw [bytes_of Hu.out, ← Hq.out]; unfold allText; rw [if_pos Hk1.out, HT.out]
          clear hXr hXd t0 t1 t2 Hu
          have hfin := la_go (stop := stop) (A := A) hs2 hs3 (by omega) jb j2 j3 j4 j5 j6 j7 (fun j hj => ⟨by have := (HO.out j hj).1; omega, by have := (HO.out j hj).2; omega⟩) (X := X) hX
          have Hfin := Lib.hid hfin
          have e4 := (j6.call hX).cell (j := 0) rfl
          have g4 := (j6.call hX).frozen 0
          have e3 := (j3.call hX).cell (j := 0) rfl
          clear hfin
          by_cases hst : (k : Int) + 1 = stop
          · have hst' : ((k : Int) + 1 == stop) = true := by rw [beq_iff_eq]; exact hst
            clear hst
            gi_wp2_with fail
            refine (calls_iff.2 (awake_any _)).mono ?_
            rintro e X1 ⟨rfl, hX1⟩
            obtain ⟨z1, z2, z3⟩ := la_stop hs2 hs3 (by omega) (fun j hj => ⟨by have := (HO.out j hj).1; omega, by have := (HO.out j hj).2; omega⟩) Hfin.out.1 Hfin.out.2 hX1
            have y1 : X1.cell? ⟨w.heap.size + 1 + 1, 0, none⟩ = some (.bool false) := z1.cell (j := 0) rfl
            have y2 : X1.frozen? ⟨w.heap.size + 1 + 1, 0, none⟩ = false := z1.frozen 0
            have Hz := Lib.hid (And.intro z2 z3)
            clear z1 z2 z3
            gi_wp2_with fail
            exact Hz.out
          · have hst' : ((k : Int) + 1 == stop) = false := by rw [beq_eq_false_iff_ne]; exact hst
            clear hst
            gi_wp2_with fail
            exact Hfin.out
        · have hz1 : ((t.kind : Int) == 1) = false := by rw [beq_eq_false_iff_ne]; omega
          obtain rfl : s.extract t.fr t.to = q := by rw [← Hq.out]; unfold allText; rw [if_neg hk1, HT.out, Lib.mk_data]
          clear hk1
          have hX := hXd
          clear hXd
          have hfin := la_go (stop := stop) (A := A) hs2 hs3 (by omega) jb j2 j3 j4 j5 j6 j7 (fun j hj => ⟨by have := (HO.out j hj).1; omega, by have := (HO.out j hj).2; omega⟩) (X := Wb.drewN nq) hX
          have Hfin := Lib.hid hfin
          have e4 := (j6.call hX).cell (j := 0) rfl
          have g4 := (j6.call hX).frozen 0
          have e3 := (j3.call hX).cell (j := 0) rfl
          clear hfin
          by_cases hst : (k : Int) + 1 = stop
          · have hst' : ((k : Int) + 1 == stop) = true := by rw [beq_iff_eq]; exact hst
            clear hst
            gi_wp2_with fail
            refine (calls_iff.2 (awake_any _)).mono ?_
            rintro e X1 ⟨rfl, hX1⟩
            obtain ⟨z1, z2, z3⟩ := la_stop hs2 hs3 (by omega) (fun j hj => ⟨by have := (HO.out j hj).1; omega, by have := (HO.out j hj).2; omega⟩) Hfin.out.1 Hfin.out.2 hX1
            have y1 : X1.cell? ⟨w.heap.size + 1 + 1, 0, none⟩ = some (.bool false) := z1.cell (j := 0) rfl
            have y2 : X1.frozen? ⟨w.heap.size + 1 + 1, 0, none⟩ = false := z1.frozen 0
            have Hz := Lib.hid (And.intro z2 z3)
            clear z1 z2 z3
            gi_wp2_with fail
            exact Hz.out
          · have hst' : ((k : Int) + 1 == stop) = false := by rw [beq_eq_false_iff_ne]; exact hst
            clear hst
            gi_wp2_with fail
            exact Hfin.out
      case done =>
        intro O Wd hk hlt hi hD
        rw [HG.out, List.length_map] at hi
        obtain ⟨i1, i2, i3, i4, i5, i6, i7⟩ := hi
        have d3 := i5.cell (j := 0) rfl
        have d4 := i6.cell (j := 0) rfl
        have hle : ((A.length : Int) == (A.length : Int)) = true := by simp
        have HD := Lib.hid hD
        clear hD hE0 hE1 hE2 hE3 hE4 hE5 hr3 hD0 hD1 hD2
        gi_wp2_with fail
        refine (calls_iff.2 (awake_any _)).mono ?_
        rintro e X1 ⟨rfl, hX1⟩
        have y1 : X1.cell? ⟨w.heap.size + 1 + 1, 0, none⟩ = some (.bool false) := (i4.call hX1).cell (j := 0) rfl
        have y2 : X1.frozen? ⟨w.heap.size + 1 + 1, 0, none⟩ = false := (i4.call hX1).frozen 0
        have hfb := (i4.call hX1).set 0 (.bool true)
        have hbf := (i1.trans (hX1.mono i1.size)).setCell (p := ⟨w.heap.size + 1 + 1, 0, none⟩) (by show _ ≤ w.heap.size + 1 + 1; omega) (.bool true)
        have hD1 : X1.heap[w3.heap.size]? = some (.deferred (some [])) := (hX1.block _ (Array.getElem?_eq_some_iff.1 HD.out).1).trans HD.out
        have HD1 := Lib.hid (set_other hD1 rfl ⟨w.heap.size + 1 + 1, 0, none⟩ (.bool true))
        clear hD1
        gi_wp2_with fail
        refine ⟨by simp, .inl ⟨_, _, rfl, run_takeDeferred HD1.out, ?_⟩⟩
        exact ⟨_, la_results _ (w.heap.size + 2) true _ rfl ((hfb.put (by omega) _).cell rfl), rfl, put_below hbf (by omega) HD1.out rfl⟩
      case stop =>
        intro c k Wd hk hlt hk0 hkl hi hD
        obtain ⟨rfl, i1, i2⟩ := hi
        have HD := Lib.hid hD
        clear hD hE0 hE1 hE2 hE3 hE4 hE5 hr3 hD0 hD1 hD2
        gi_wp2_with fail
        refine ⟨by simp, .inl ⟨_, _, rfl, run_takeDeferred HD.out, ?_⟩⟩
        exact ⟨_, la_results _ (w.heap.size + 2) true _ rfl ((i2.put (by omega) _).cell rfl), rfl, put_below i1 (by omega) HD.out rfl⟩
    · rw [hbad] at h1
      obtain ⟨rfl, rfl⟩ := h1
      have hex : (s.extract 0 bad.fr).data.toList = s.data.toList.take bad.fr := by rw [Lib.extract_data]; simp
      have HP := Lib.hid (hpre _ hex)
      have HA := Lib.hid hA
      have HG : Hid (good (Lx.scan s.data.toList) = A) := by
        unfold Hid good
        rw [hsA, List.takeWhile_append_of_pos (fun u hu => by simpa using hA u hu)]
        simp [hbz]
      clear hsA hA hbz hbad hpre hex
      gi_wp2_with fail
      refine (calls_iff.2 (rtokens_any _ w1 (by rw [ByteArray.size_extract]; omega))).mono ?_
      rintro e w2 ⟨v, at2, rfl, h2, hb2⟩
      unfold rtokRes at h2
      rw [HP.out, Lx.badAt_none HA.out] at h2
      obtain ⟨hr2, rfl⟩ := h2
      obtain ⟨av, capv, rfl, hn2, _⟩ := reads_form hr2
      have hbel2 : Below w.heap.size w w2 := hbel1.trans (hb2.mono (by have := hbel1.size; omega))
      have hD0 := hC0.call hb2
      have hD1 := hC1.call hb2
      have hD2 := hC2.call hb2
      have e0 : ∀ o1 o2, ((w2.alloc o1).alloc o2).cell? ⟨w.heap.size, 0, none⟩ = some (.string s) := fun o1 o2 => ((hD0.alloc o1).alloc o2).cell (j := 0) rfl
      have hs2 : w.heap.size + 3 ≤ w2.heap.size := by have := hb2.size; omega
      have Hr2 := Lib.hid hr2
      clear hC0 hC1 hC2 hbel1 hr2 c0
      gi_wp2_with fail
      refine (calls_iff.2 (all_any _ _)).mono ?_
      rintro e w3 ⟨rfl, hw⟩
      have hw' : [.cells #[.slice av A.length capv] 27, .cells #[.int .i64 0] 3, .cells #[.string s] 9].foldl World.alloc w2 = w3 := hw
      clear hw
      have hE3 : Blk w3 w2.heap.size [.slice av A.length capv] 27 := Blk.allocs _ hw' 0 rfl
      have hE4 : Blk w3 (w2.heap.size + 1) [.int .i64 0] 3 := Blk.allocs _ hw' 1 rfl
      have hE5 : Blk w3 (w2.heap.size + 2) [.string s] 9 := Blk.allocs _ hw' 2 rfl
      have hbel23 : Below w2.heap.size w2 w3 := hw' ▸ allocs_below _ w2
      have Hsz3 : Hid (w3.heap.size = w2.heap.size + 3) := hw' ▸ allocs_size _ w2
      clear hw' e0
      have hE0 := hD0.call hbel23
      have hE1 := hD1.call hbel23
      have hE2 := hD2.call hbel23
      have hs3 : w2.heap.size + 3 ≤ w3.heap.size := by have := Hsz3.out; omega
      have hbel3 : Below w.heap.size w w3 := hbel2.trans (hbel23.mono (by omega))
      have hr3 : Reads w3 w2.heap.size (.slice av A.length capv) A.length (flatT A) := Hr2.out.below hbel23
      have hnf := fun wx => neq_func wx 40 (w2.heap.size + 1 + 1)
      gi_wp2_with fail
      refine wp_range (P := Try.prog) (gf := 40) (lb := #[.pointer (some ⟨w2.heap.size + 1 + 1, 0, none⟩)]) (S := fun j => j = w2.heap.size + 2) rfl enter_all1
        (all_seq (w2.heap.size + 2) s (fun j => j = w2.heap.size + 2) w3 hm hE5 rfl (fun k hk => by omega)) (Kept.refl _ _) (fun k hk => by omega) (fun x hx => by obtain ⟨t, _, rfl⟩ := List.mem_map.1 hx; rfl)
        (laI w w2 s stop (.slice av A.length capv) A) (laX w) (fun k O O' X Y h hx hO => laI_stab (by omega) k O O' X Y h hx hO) (fun c k X Y h hx => laX_stab (by omega) c k X Y h hx)
        ⟨hbel3, hE0, hE1, hE2, hE3, hE4, hr3⟩ ?round2 ?done2 ?stop2
      case round2 =>
        intro l k x O Wr hl1 hl2 hx hk hO hi
        rw [HG.out, List.getElem?_map] at hx
        obtain ⟨t, ht, rfl⟩ := Option.map_eq_some_iff.1 hx
        clear hx
        have Ht := Lib.hid ht
        have Hi := Lib.hid hi
        have HO := Lib.hid hO
        clear ht hi hO hE0 hE1 hE2 hE3 hE4 hE5 hr3 hD0 hD1 hD2
        dsimp only [allA]
        gi_wp2_with fail
        refine ⟨(Eff.refl _ _ _).alloc (fun j hj => hj.elim (fun h => by have := hk.size; omega) (fun h => (HO.out j h).2)) _, ?_⟩
        intro Wb hx hkb hszb hlb
        obtain ⟨i1, i2, i3, i4, i5, i6, i7⟩ := Hi.out
        have hwW : w3.heap.size ≤ Wr.heap.size := hk.size
        have jt := (Blk.new Wr [.int .i64 t.kind, .int .i64 t.fr, .int .i64 t.to] 31).ext hx
        have j2 := (i2.alloc (.cells #[.int .i64 t.kind, .int .i64 t.fr, .int .i64 t.to] 31)).ext hx
        have j3 := (i3.alloc (.cells #[.int .i64 t.kind, .int .i64 t.fr, .int .i64 t.to] 31)).ext hx
        have j4 := (i4.alloc (.cells #[.int .i64 t.kind, .int .i64 t.fr, .int .i64 t.to] 31)).ext hx
        have j5 := (i5.alloc (.cells #[.int .i64 t.kind, .int .i64 t.fr, .int .i64 t.to] 31)).ext hx
        have j6 := (i6.alloc (.cells #[.int .i64 t.kind, .int .i64 t.fr, .int .i64 t.to] 31)).ext hx
        have hxr : Ext w3.heap.size Wr Wb := (Ext.of_below' ((Below.refl _ Wr).alloc (Nat.le_refl _) _) (by omega)).trans hx
        have j7 := i7.ext hxr
        have jb : Below w.heap.size w Wb := i1.trans (hxr.below.mono (by omega))
        have hzb : Wr.heap.size + 1 ≤ Wb.heap.size := by rw [hszb]; simp
        obtain ⟨a7, cap7, hv7, _, hc7⟩ := reads_form j7
        have hlt : k < A.length := (List.getElem?_eq_some_iff.1 Ht.out).1
        obtain ⟨f1, f2, f3⟩ := flatT_at _ _ _ Ht.out
        obtain ⟨g, off, rfl, hg, hc⟩ := hc7 (by intro e; rw [e] at f1; simp at f1)
        simp only [Value.slice.injEq, true_and] at hv7
        obtain ⟨rfl, rfl⟩ := hv7
        have q0 : Wb.cell? ⟨g, off + k * 3, none⟩ = some (.int .i64 t.kind) := hc _ _ f1
        have q1 : Wb.cell? ⟨g, off + k * 3 + 1, none⟩ = some (.int .i64 t.fr) := hc _ _ f2
        have q2 : Wb.cell? ⟨g, off + k * 3 + 2, none⟩ = some (.int .i64 t.to) := hc _ _ f3
        have t0 := jt.cell (j := 0) rfl
        have t1 := jt.cell (j := 1) rfl
        have t2 := jt.cell (j := 2) rfl
        have d0 := j2.cell (j := 0) rfl
        have d1 := j3.cell (j := 0) rfl
        have d2 : Wb.cell? ⟨w.heap.size + 1 + 1, 0, none⟩ = some (.bool false) := j4.cell (j := 0) rfl
        have d3 := j5.cell (j := 0) rfl
        have d4 := j6.cell (j := 0) rfl
        have g2 : Wb.frozen? ⟨w.heap.size + 1 + 1, 0, none⟩ = false := j4.frozen 0
        have g4 := j6.frozen 0
        clear hc hc7 f1 f2 f3 hx hkb hszb hlb i1 i2 i3 i4 i5 i6 i7
        obtain ⟨q, hq⟩ : ∃ q : ByteArray, (⟨(allText s.data.toList t).toArray⟩ : ByteArray) = q := ⟨_, rfl⟩
        rw [hq]
        have Hq := Lib.hid hq
        clear hq
        gi_wp2_with fail
        refine quiet_round (by kernel_rfl) (by kernel_rfl) (by kernel_rfl) ?_
        repeat (quiet_step_in (fail))
        refine wpQuietIn_nil ?_
        intro _ hw'
        obtain ⟨nq, hw''⟩ := hw'
        subst hw''
        have hmem : t ∈ good (Lx.scan s.data.toList) := by rw [HG.out]; exact List.mem_of_getElem? Ht.out
        obtain ⟨hft, hts⟩ := scan_bounds s t ((List.takeWhile_sublist _).subset hmem)
        have hal : A.length ≤ s.size := by
          have h1 : (good (Lx.scan s.data.toList)).length ≤ _ := (List.takeWhile_sublist _).length_le
          rw [HG.out] at h1
          exact Nat.le_trans h1 (Lx.scan_len s)
        have HT : Hid (Lx.text t.kind t.fr t.to s.data.toList = (s.extract t.fr t.to).data.toList) := by
          unfold Hid Lx.text; rw [if_neg (by rw [← Lib.size_eq]; omega), Lib.extract_data]; congr 1; omega
        clear hmem t0 t1 t2
        have hXd := below_drawn Wb nq
        have t0 := (jt.call hXd).cell (j := 0) rfl
        have t1 := (jt.call hXd).cell (j := 1) rfl
        have t2 := (jt.call hXd).cell (j := 2) rfl
        by_cases hk1 : t.kind = 1
        · have hz1 : ((t.kind : Int) == 1) = true := by rw [hk1]; rfl
          have Hk1 := Lib.hid hk1
          clear hk1
          gi_wp2_with fail
          refine (calls_iff.2 (rupper_any _ _ (by rw [ByteArray.size_extract]; omega))).mono ?_
          rintro e X ⟨r, rfl, Hu, hXr⟩
          have hX : Below Wb.heap.size Wb X := hXd.trans hXr
          obtain rfl : r = q := by rw [bytes_of Hu.out, ← Hq.out]; unfold allText; rw [if_pos Hk1.out, HT.out]
          clear hXr hXd t0 t1 t2 Hu
          have hfin := la_go (stop := stop) (A := A) hs2 hs3 (by omega) jb j2 j3 j4 j5 j6 j7 (fun j hj => ⟨by have := (HO.out j hj).1; omega, by have := (HO.out j hj).2; omega⟩) (X := X) hX
          have Hfin := Lib.hid hfin
          have e4 := (j6.call hX).cell (j := 0) rfl
          have g4 := (j6.call hX).frozen 0
          have e3 := (j3.call hX).cell (j := 0) rfl
          clear hfin
          by_cases hst : (k : Int) + 1 = stop
          · have hst' : ((k : Int) + 1 == stop) = true := by rw [beq_iff_eq]; exact hst
            clear hst
            gi_wp2_with fail
            refine (calls_iff.2 (awake_any _)).mono ?_
            rintro e X1 ⟨rfl, hX1⟩
            obtain ⟨z1, z2, z3⟩ := la_stop hs2 hs3 (by omega) (fun j hj => ⟨by have := (HO.out j hj).1; omega, by have := (HO.out j hj).2; omega⟩) Hfin.out.1 Hfin.out.2 hX1
            have y1 : X1.cell? ⟨w.heap.size + 1 + 1, 0, none⟩ = some (.bool false) := z1.cell (j := 0) rfl
            have y2 : X1.frozen? ⟨w.heap.size + 1 + 1, 0, none⟩ = false := z1.frozen 0
            have Hz := Lib.hid (And.intro z2 z3)
            clear z1 z2 z3
            gi_wp2_with fail
            exact Hz.out
          · have hst' : ((k : Int) + 1 == stop) = false := by rw [beq_eq_false_iff_ne]; exact hst
            clear hst
            gi_wp2_with fail
            exact Hfin.out
        · have hz1 : ((t.kind : Int) == 1) = false := by rw [beq_eq_false_iff_ne]; omega
          obtain rfl : s.extract t.fr t.to = q := by rw [← Hq.out]; unfold allText; rw [if_neg hk1, HT.out, Lib.mk_data]
          clear hk1
          have hX := hXd
          clear hXd
          have hfin := la_go (stop := stop) (A := A) hs2 hs3 (by omega) jb j2 j3 j4 j5 j6 j7 (fun j hj => ⟨by have := (HO.out j hj).1; omega, by have := (HO.out j hj).2; omega⟩) (X := Wb.drewN nq) hX
          have Hfin := Lib.hid hfin
          have e4 := (j6.call hX).cell (j := 0) rfl
          have g4 := (j6.call hX).frozen 0
          have e3 := (j3.call hX).cell (j := 0) rfl
          clear hfin
          by_cases hst : (k : Int) + 1 = stop
          · have hst' : ((k : Int) + 1 == stop) = true := by rw [beq_iff_eq]; exact hst
            clear hst
            gi_wp2_with fail
            refine (calls_iff.2 (awake_any _)).mono ?_
            rintro e X1 ⟨rfl, hX1⟩
            obtain ⟨z1, z2, z3⟩ := la_stop hs2 hs3 (by omega) (fun j hj => ⟨by have := (HO.out j hj).1; omega, by have := (HO.out j hj).2; omega⟩) Hfin.out.1 Hfin.out.2 hX1
            have y1 : X1.cell? ⟨w.heap.size + 1 + 1, 0, none⟩ = some (.bool false) := z1.cell (j := 0) rfl
            have y2 : X1.frozen? ⟨w.heap.size + 1 + 1, 0, none⟩ = false := z1.frozen 0
            have Hz := Lib.hid (And.intro z2 z3)
            clear z1 z2 z3
            gi_wp2_with fail
            exact Hz.out
          · have hst' : ((k : Int) + 1 == stop) = false := by rw [beq_eq_false_iff_ne]; exact hst
            clear hst
            gi_wp2_with fail
            exact Hfin.out
      case done2 =>
        intro O Wd hk hlt hi hD
        rw [HG.out, List.length_map] at hi
        obtain ⟨i1, i2, i3, i4, i5, i6, i7⟩ := hi
        have d3 := i5.cell (j := 0) rfl
        have d4 := i6.cell (j := 0) rfl
        have hle : ((A.length : Int) == (A.length : Int)) = true := by simp
        have HD := Lib.hid hD
        clear hD hE0 hE1 hE2 hE3 hE4 hE5 hr3 hD0 hD1 hD2
        gi_wp2_with fail
        refine (calls_iff.2 (awake_any _)).mono ?_
        rintro e X1 ⟨rfl, hX1⟩
        have y1 : X1.cell? ⟨w.heap.size + 1 + 1, 0, none⟩ = some (.bool false) := (i4.call hX1).cell (j := 0) rfl
        have y2 : X1.frozen? ⟨w.heap.size + 1 + 1, 0, none⟩ = false := (i4.call hX1).frozen 0
        have hfb := (i4.call hX1).set 0 (.bool true)
        have hbf := (i1.trans (hX1.mono i1.size)).setCell (p := ⟨w.heap.size + 1 + 1, 0, none⟩) (by show _ ≤ w.heap.size + 1 + 1; omega) (.bool true)
        have hD1 : X1.heap[w3.heap.size]? = some (.deferred (some [])) := (hX1.block _ (Array.getElem?_eq_some_iff.1 HD.out).1).trans HD.out
        have HD1 := Lib.hid (set_other hD1 rfl ⟨w.heap.size + 1 + 1, 0, none⟩ (.bool true))
        clear hD1
        gi_wp2_with fail
        refine ⟨by simp, .inl ⟨_, _, rfl, run_takeDeferred HD1.out, ?_⟩⟩
        exact ⟨_, la_results _ (w.heap.size + 2) true _ rfl ((hfb.put (by omega) _).cell rfl), rfl, put_below hbf (by omega) HD1.out rfl⟩
      case stop2 =>
        intro c k Wd hk hlt hk0 hkl hi hD
        obtain ⟨rfl, i1, i2⟩ := hi
        have HD := Lib.hid hD
        clear hD hE0 hE1 hE2 hE3 hE4 hE5 hr3 hD0 hD1 hD2
        gi_wp2_with fail
        refine ⟨by simp, .inl ⟨_, _, rfl, run_takeDeferred HD.out, ?_⟩⟩
        exact ⟨_, la_results _ (w.heap.size + 2) true _ rfl ((i2.put (by omega) _).cell rfl), rfl, put_below i1 (by omega) HD.out rfl⟩
  · gi_wp2_with fail
    rw [Hw0.out]
    refine (calls_iff.2 (awake_any _)).mono ?_
    rintro e w1 ⟨rfl, hb⟩
    have b2 : w1.cell? ⟨w.heap.size + 1 + 1, 0, none⟩ = some (.bool false) := (hA2.call hb).cell (j := 0) rfl
    have f2 : w1.frozen? ⟨w.heap.size + 1 + 1, 0, none⟩ = false := (hA2.call hb).frozen 0
    have hfin := (hA2.call hb).set 0 (.bool true)
    have hbf := (hbel0.trans (hb.mono hbel0.size)).setCell (p := ⟨w.heap.size + 1 + 1, 0, none⟩) (by show _ ≤ w.heap.size + 1 + 1; omega) (.bool true)
    gi_wp2_with fail
    exact ⟨_, la_results _ (w.heap.size + 2) true _ rfl (hfin.cell rfl), rfl, hbf⟩
end Go.Proofs.Ytkhceimlheginaa
