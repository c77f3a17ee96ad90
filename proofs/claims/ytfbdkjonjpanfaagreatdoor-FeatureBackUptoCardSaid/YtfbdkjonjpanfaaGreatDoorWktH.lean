import Derived.Test.YtfbdkjonjpanfaaGreatDoorWktG
set_option linter.unusedVariables false
set_option linter.unusedSimpArgs false
namespace Go.Proofs.YtfbdkjonjpanfaaGreatDoor
open Go.RowKit Go.Rg
attribute [local go_sem] Oper.semAt_some

set_option maxRecDepth 100000 in
set_option maxHeartbeats 4000000 in
theorem wbody_any (R k : Nat) (s : ByteArray) (z : Wk.St) (w : World) (hs : s.size ≤ maxLen) (h : Rd w R s z) (hle : z.l.length ≤ 1000000) :
    Calls Tryz.prog 35 #[.pointer (some ⟨R, 0, none⟩), .int .i64 k] w fun e w' => ∃ v u, e = .returned (.tuple #[v, u]) ∧ BodyR R w' v u (Wk.body s.data.toList k z).2 ∧ Rd w' R s (Wk.body s.data.toList k z).1 ∧ Upd R w w' := by
  have hR := h.lt
  obtain ⟨W0, hW0⟩ : ∃ W0, [.cells #[.pointer (some ⟨R, 0, none⟩)] 66, .cells #[.slice none 0 0] 30, .cells #[.slice none 0 0] 31].foldl World.alloc w = W0 := ⟨_, rfl⟩
  have hA0 : Blk W0 w.heap.size [.pointer (some ⟨R, 0, none⟩)] 66 := Blk.allocs _ hW0 0 rfl
  have hA1 : Blk W0 (w.heap.size + 1) [.slice none 0 0] 30 := Blk.allocs _ hW0 1 rfl
  have hA2 : Blk W0 (w.heap.size + 1 + 1) [.slice none 0 0] 31 := Blk.allocs _ hW0 2 rfl
  have hBel : Below w.heap.size w W0 := hW0 ▸ allocs_below _ w
  have hz0 : w.heap.size + 3 ≤ W0.heap.size := Nat.le_of_eq (hW0 ▸ allocs_size _ w).symm
  simp only [List.foldl_cons, List.foldl_nil] at hW0
  have h0 := h.upd_ hBel
  have hu0 := Upd.of_below (R := R) hBel
  refine (calls_iff (r := none) (m := 0)).1 (callsIn_of_wp_marks Tryz.func35 rfl trivial ?_ rfl)
  simp only [Tryz.ntmps35, List.size_toArray, List.length_cons, List.length_nil, Nat.reduceAdd, Nat.reduceSub, Array.replicate_succ, Array.replicate_zero, List.push_toArray, List.append_toArray, List.nil_append, List.cons_append]
  have c0 := hA0.cell (j := 0) rfl
  gi_wp2_with fail
  · have hk1 : k = 1 := by have := eq_of_beq ‹((k : Int) == 1) = true›; omega
    refine (calls_iff.2 (wone_any R s z W0 hs h0)).mono ?_
    rintro e w1 ⟨v, rfl, hv, h1, hu1⟩
    obtain ⟨va, vc, rfl⟩ := pair_form (R := R) hv
    obtain ⟨r, hr⟩ : ∃ r, r = Wk.one s.data.toList z := ⟨_, rfl⟩
    rw [← hr] at hv h1 ⊢
    have hB1 := hA1.upd hu1 (by omega)
    have hB2 := hA2.upd hu1 (by omega)
    have q1 := hB1.alloc (.cells #[.slice va r.2.length vc] 39)
    have q2 := hB2.alloc (.cells #[.slice va r.2.length vc] 39)
    have c1 := q1.cell (j := 0) rfl
    have f1 := q1.frozen 0
    have c2 := q2.cell (j := 0) rfl
    have f2 := q2.frozen 0
    have hfin : Wk.body s.data.toList k z = (r.1, ([r.2], [])) := by
      rw [hr]; unfold Wk.body; rw [if_pos hk1]
    have hb : BodyR R (w1.alloc (.cells #[.slice va r.2.length vc] 39)) (.slice (some ⟨w1.heap.size, 0, none⟩) 1 1) (.slice none 0 0) ([r.2], []) :=
      ⟨[_], RdT.new [_] 39 1 1 (by decide) (by decide), ⟨(RdP.of hv h1).keep (.alloc _), trivial⟩, RdT.nil _ _⟩
    have Hend := Lib.hid (body_store q1 q2 hb (h1.alloc_ _) ((hu0.trans hu1).alloc _) rfl (by omega))
    have Hfin := Lib.hid hfin
    clear hfin hv h1 hb hr
    gi_wp2_with fail
    obtain ⟨e1, e2, e3, e4, e5⟩ := Hend.out
    exact ⟨_, body_results _ w.heap.size _ _ _ rfl rfl e1 e2, _, _, rfl, by rw [Hfin.out]; exact e3, by rw [Hfin.out]; exact e4, e5⟩
  · have hk1 : k = 2 := by have := eq_of_beq ‹((k : Int) == 2) = true›; omega
    refine (calls_iff.2 (wlist_any R s z W0 hs h0 hle)).mono ?_
    rintro e w1 ⟨v, rfl, hv, h1, hu1⟩
    obtain ⟨va, vc, rfl⟩ := pair_form (R := R) hv
    obtain ⟨r, hr⟩ : ∃ r, r = Wk.list s.data.toList z := ⟨_, rfl⟩
    rw [← hr] at hv h1 ⊢
    have hB1 := hA1.upd hu1 (by omega)
    have hB2 := hA2.upd hu1 (by omega)
    have q1 := hB1.alloc (.cells #[.slice va r.2.length vc] 39)
    have q2 := hB2.alloc (.cells #[.slice va r.2.length vc] 39)
    have c1 := q1.cell (j := 0) rfl
    have f1 := q1.frozen 0
    have c2 := q2.cell (j := 0) rfl
    have f2 := q2.frozen 0
    have hfin : Wk.body s.data.toList k z = (r.1, ([r.2], [])) := by
      rw [hr]; unfold Wk.body; rw [if_neg (by omega), if_pos hk1]
    have hb : BodyR R (w1.alloc (.cells #[.slice va r.2.length vc] 39)) (.slice (some ⟨w1.heap.size, 0, none⟩) 1 1) (.slice none 0 0) ([r.2], []) :=
      ⟨[_], RdT.new [_] 39 1 1 (by decide) (by decide), ⟨(RdP.of hv h1).keep (.alloc _), trivial⟩, RdT.nil _ _⟩
    have Hend := Lib.hid (body_store q1 q2 hb (h1.alloc_ _) ((hu0.trans hu1).alloc _) rfl (by omega))
    have Hfin := Lib.hid hfin
    clear hfin hv h1 hb hr
    gi_wp2_with fail
    obtain ⟨e1, e2, e3, e4, e5⟩ := Hend.out
    exact ⟨_, body_results _ w.heap.size _ _ _ rfl rfl e1 e2, _, _, rfl, by rw [Hfin.out]; exact e3, by rw [Hfin.out]; exact e4, e5⟩
  · have hk1 : k = 3 := by have := eq_of_beq ‹((k : Int) == 3) = true›; omega
    refine (calls_iff.2 (wlists_any R 54 (Wk.list s.data.toList) s z W0 hs (bodyF_list R s hs) h0 hle)).mono ?_
    rintro e w1 ⟨v, vs, rfl, hv, hvs, h1, hu1⟩
    obtain ⟨va, vc, rfl⟩ := pair_form (R := R) hv
    obtain ⟨r, hr⟩ : ∃ r, r = Wk.lists s.data.toList (Wk.list s.data.toList) z := ⟨_, rfl⟩
    rw [← hr] at hv h1 hvs ⊢
    have q1 := hA1.upd hu1 (by omega)
    have q2 := hA2.upd hu1 (by omega)
    have c1 := q1.cell (j := 0) rfl
    have f1 := q1.frozen 0
    have c2 := q2.cell (j := 0) rfl
    have f2 := q2.frozen 0
    have hfin : Wk.body s.data.toList k z = (r.1, (r.2, [])) := by
      rw [hr]; unfold Wk.body; rw [if_neg (by omega), if_neg (by omega), if_pos (by omega)]
    have Hend := Lib.hid (body_store (u := .slice none 0 0) (res := (r.2, [])) q1 q2 ⟨vs, hv, hvs, RdT.nil _ _⟩ h1 (hu0.trans hu1) rfl (by omega))
    have Hfin := Lib.hid hfin
    clear hfin hv h1 hvs hr
    gi_wp2_with fail
    obtain ⟨e1, e2, e3, e4, e5⟩ := Hend.out
    exact ⟨_, body_results _ w.heap.size _ _ _ rfl rfl e1 e2, _, _, rfl, by rw [Hfin.out]; exact e3, by rw [Hfin.out]; exact e4, e5⟩
  · have hk1 : k = 5 := by have := eq_of_beq ‹((k : Int) == 5) = true›; omega
    refine (calls_iff.2 (wlists_any R 54 (Wk.list s.data.toList) s z W0 hs (bodyF_list R s hs) h0 hle)).mono ?_
    rintro e w1 ⟨v, vs, rfl, hv, hvs, h1, hu1⟩
    obtain ⟨va, vc, rfl⟩ := pair_form (R := R) hv
    obtain ⟨r, hr⟩ : ∃ r, r = Wk.lists s.data.toList (Wk.list s.data.toList) z := ⟨_, rfl⟩
    rw [← hr] at hv h1 hvs ⊢
    have q1 := hA1.upd hu1 (by omega)
    have q2 := hA2.upd hu1 (by omega)
    have c1 := q1.cell (j := 0) rfl
    have f1 := q1.frozen 0
    have c2 := q2.cell (j := 0) rfl
    have f2 := q2.frozen 0
    have hfin : Wk.body s.data.toList k z = (r.1, (r.2, [])) := by
      rw [hr]; unfold Wk.body; rw [if_neg (by omega), if_neg (by omega), if_pos (by omega)]
    have Hend := Lib.hid (body_store (u := .slice none 0 0) (res := (r.2, [])) q1 q2 ⟨vs, hv, hvs, RdT.nil _ _⟩ h1 (hu0.trans hu1) rfl (by omega))
    have Hfin := Lib.hid hfin
    clear hfin hv h1 hvs hr
    gi_wp2_with fail
    obtain ⟨e1, e2, e3, e4, e5⟩ := Hend.out
    exact ⟨_, body_results _ w.heap.size _ _ _ rfl rfl e1 e2, _, _, rfl, by rw [Hfin.out]; exact e3, by rw [Hfin.out]; exact e4, e5⟩
  · have hk1 : k = 4 := by have := eq_of_beq ‹((k : Int) == 4) = true›; omega
    refine (calls_iff.2 (wlists_any R 53 (Wk.one s.data.toList) s z W0 hs (bodyF_one R s hs) h0 hle)).mono ?_
    rintro e w1 ⟨v, vs, rfl, hv, hvs, h1, hu1⟩
    obtain ⟨va, vc, rfl⟩ := pair_form (R := R) hv
    obtain ⟨r, hr⟩ : ∃ r, r = Wk.lists s.data.toList (Wk.one s.data.toList) z := ⟨_, rfl⟩
    rw [← hr] at hv h1 hvs ⊢
    have q1 := hA1.upd hu1 (by omega)
    have q2 := hA2.upd hu1 (by omega)
    have c1 := q1.cell (j := 0) rfl
    have f1 := q1.frozen 0
    have c2 := q2.cell (j := 0) rfl
    have f2 := q2.frozen 0
    have hfin : Wk.body s.data.toList k z = (r.1, (r.2, [])) := by
      rw [hr]; unfold Wk.body; rw [if_neg (by omega), if_neg (by omega), if_neg (by omega), if_pos hk1]
    have Hend := Lib.hid (body_store (u := .slice none 0 0) (res := (r.2, [])) q1 q2 ⟨vs, hv, hvs, RdT.nil _ _⟩ h1 (hu0.trans hu1) rfl (by omega))
    have Hfin := Lib.hid hfin
    clear hfin hv h1 hvs hr
    gi_wp2_with fail
    obtain ⟨e1, e2, e3, e4, e5⟩ := Hend.out
    exact ⟨_, body_results _ w.heap.size _ _ _ rfl rfl e1 e2, _, _, rfl, by rw [Hfin.out]; exact e3, by rw [Hfin.out]; exact e4, e5⟩
  · have hk1 : k ≠ 1 ∧ k ≠ 2 ∧ k ≠ 3 ∧ k ≠ 5 ∧ k ≠ 4 := by
      have e1 := ne_of_beq_false ‹((k : Int) == 1) = false›
      have e2 := ne_of_beq_false ‹((k : Int) == 2) = false›
      have e3 := ne_of_beq_false ‹((k : Int) == 3) = false›
      have e4 := ne_of_beq_false ‹((k : Int) == 5) = false›
      have e5 := ne_of_beq_false ‹((k : Int) == 4) = false›
      omega
    have hfin : Wk.body s.data.toList k z = ((Wk.each s.data.toList (Wk.poly s.data.toList) z).1, ((Wk.each s.data.toList (Wk.poly s.data.toList) z).2.flatten, (Wk.each s.data.toList (Wk.poly s.data.toList) z).2.map List.length)) := by
      unfold Wk.body; rw [if_neg (by omega), if_neg (by omega), if_neg (by omega), if_neg (by omega)]
    have hz0' := hz0
    clear hk1
    refine (calls_iff.2 (weach_any R W0)).mono ?_
    rintro e w2 ⟨rfl, hw2⟩
    have hb2 : Below W0.heap.size W0 w2 := hw2 ▸ (Below.refl _ W0).alloc (Nat.le_refl _) _
    have hE : Blk w2 W0.heap.size [.pointer (some ⟨R, 0, none⟩)] 66 := hw2 ▸ Blk.new W0 _ _
    have hs2 : w2.heap.size = W0.heap.size + 1 := hw2 ▸ World.size_alloc _ _
    clear hw2
    have Hfin := Lib.hid hfin
    clear hfin
    gi_wp2_with fail
    obtain ⟨N, hN⟩ : ∃ N, N = (Wk.take s.data.toList z 3).1.l.length := ⟨_, rfl⟩
    have hN6 : N ≤ 1000000 := by rw [hN]; exact Nat.le_trans (Wk.take_len _ _ _) hle
    have hpre := Wk.pre_start s.data.toList (Wk.poly s.data.toList) z
    rw [← hN] at hpre
    obtain ⟨res, hres⟩ : ∃ res, res = Wk.each s.data.toList (Wk.poly s.data.toList) z := ⟨_, rfl⟩
    rw [← hres] at hpre
    have Hf : Hid (Wk.body s.data.toList k z = (res.1, (res.2.flatten, res.2.map List.length))) := by unfold Hid; rw [Hfin.out, hres]
    clear hres Hfin hN
    have Hpre := Lib.hid hpre
    clear hpre
    have hM : polyM R w w2 [] w2 := ⟨hu0.call hb2, hA0.call hb2, _, _, [], hA1.call hb2, hA2.call hb2, World.ownsRow_nil _ _ _ _, trivial, World.ownsRow_nil _ _ _ _, Nat.zero_le _⟩
    have hw12 : w.heap.size + 3 ≤ w2.heap.size := by omega
    have hmv : ∀ acc X Y, polyM R w w2 acc X → Mv R w2.heap.size X Y → polyM R w w2 acc Y := fun acc X Y a b => polyM_mv hR hw12 a b
    refine wp_each (gf := 84) (lb := #[.pointer (some ⟨W0.heap.size, 0, none⟩)]) (R := R) (s := s) (z0 := z) rfl enter_each1 (S := fun j => j = W0.heap.size)
      (weach_seq W0.heap.size R s _ w2 hs hE rfl (fun k hk => by omega) (fun hk => by omega)) (Kept.refl _ _) (fun k hk => by omega) (fun hk => by omega) (h0.upd_ hb2) hle
      (fun z X => ∃ n acc, Wk.Pre s.data.toList (Wk.poly s.data.toList) res N n acc z ∧ polyM R w w2 acc X)
      (fun z X => ∃ n acc, Wk.Mid s.data.toList (Wk.poly s.data.toList) res N n acc z ∧ polyM R w w2 acc X)
      (fun z X => ∃ acc, res = (z, acc) ∧ polyM R w w2 acc X)
      (fun z X Y ⟨n, acc, a, b⟩ hx => ⟨n, acc, a, hmv _ _ _ b hx⟩) (fun z X Y ⟨acc, a, b⟩ hx => ⟨acc, a, hmv _ _ _ b hx⟩)
      (fun Y hx => ⟨_, [], Hpre.out, hmv _ _ _ hM hx⟩)
      (fun z X Y ⟨n, acc, a, b⟩ hp hx => ⟨n, acc, Wk.mid_go _ _ _ _ a hp, hmv _ _ _ b hx⟩)
      (fun z X Y ⟨n, acc, a, b⟩ hp hx => ⟨acc, Wk.mid_end _ _ _ _ a hp, hmv _ _ _ b hx⟩)
      (fun z X ⟨n, acc, a, b⟩ hp => ⟨acc, Wk.pre_bad _ _ _ _ a hp, b⟩) ?round ?done
    case done =>
      rintro z2 W hk hlt hz2 ⟨acc, hres, m1, m2, v, u, vs, m3, m4, m5, m6, m7, m8⟩ hD
      obtain ⟨av, capv, rfl⟩ := own_form m5
      obtain ⟨au, capu, rfl⟩ := own_form m7
      have d1 := m3.cell (j := 0) rfl
      have d2 := m4.cell (j := 0) rfl
      have g1 := m3.frozen 0
      have g2 := m4.frozen 0
      have HD := Lib.hid hD
      have Hres := Lib.hid hres
      have H2 := Lib.hid hz2
      have Hu := Lib.hid m1
      have H5 := Lib.hid m5
      have H7 := Lib.hid m7
      have H6 := Lib.hid m6
      clear m1 m2 m5 m6 m7 m8 hD hres hz2 hA0 hA1 hA2 hE hM hmv
      gi_wp2_with fail
      have Hend := Lib.hid (body_store (v := .slice av acc.flatten.length capv) (u := .slice au acc.length capu) (res := (acc.flatten, acc.map List.length)) m3 m4 ⟨vs, RdT.of_own H5.out, H6.out, by have := RdT.of_own H7.out; simpa using this⟩ H2.out Hu.out rfl (by omega))
      obtain ⟨M, hMM⟩ : ∃ M, acc.flatten.length = M := ⟨_, rfl⟩
      rw [hMM] at d1 Hend
      clear m3 m4 H5 H7 H6 hMM
      gi_region
      all_goals gi_wp2_with fail
      obtain ⟨e1, e2, e3, e4, e5⟩ := Hend.out
      obtain ⟨Wd, hWd⟩ : ∃ Wd, ((W.setCell ⟨w.heap.size + 1, 0, none⟩ (.slice av M capv)).setCell ⟨w.heap.size + 1 + 1, 0, none⟩ (.slice au acc.length capu)).drew = Wd := ⟨_, rfl⟩
      have HD2 : Wd.heap[w2.heap.size]? = some (.deferred (some [])) := hWd ▸ set_other (set_other HD.out rfl ⟨w.heap.size + 1, 0, none⟩ (.slice av M capv)) rfl ⟨w.heap.size + 1 + 1, 0, none⟩ (.slice au acc.length capu)
      have e1' : Wd.cell? ⟨w.heap.size + 1, 0, none⟩ = some (.slice av M capv) := hWd ▸ e1
      have e2' : Wd.cell? ⟨w.heap.size + 1 + 1, 0, none⟩ = some (.slice au acc.length capu) := hWd ▸ e2
      have e3' : BodyR R Wd (.slice av M capv) (.slice au acc.length capu) (acc.flatten, acc.map List.length) := hWd ▸ e3.keep (fun _ _ _ h => h) (fun _ _ _ h => h) (fun _ _ _ h => h)
      have e4' : Rd Wd R s z2 := hWd ▸ e4.upd_ ((Below.refl _ _).drew)
      have e5' : Upd R w Wd := hWd ▸ e5.drew
      rw [hWd]
      have hx := put_ext HD2 rfl (.deferred none)
      refine ⟨by simp, .inl ⟨_, _, rfl, run_takeDeferred HD2, ?_⟩⟩
      refine ⟨_, body_results _ w.heap.size _ _ _ rfl rfl (hx.cell e1') (hx.cell e2'), _, _, rfl, ?_, ?_, ?_⟩
      · rw [Hf.out, Hres.out]
        exact e3'.keep (.ext hx) (.ext hx) (.ext hx)
      · rw [Hf.out, Hres.out]
        exact e4'.ext hx
      · exact ⟨e5'.os, e5'.tape, e5'.output, by have := e5'.size; simpa using this, fun k hk hl => (World.putObj_heap_other (by omega)).trans (e5'.same k hk hl)⟩
    case round =>
      rintro l k z2 W hl1 hl2 hk hz2 hbad ⟨n, acc, hpre, hm⟩
      have Hpre2 := Lib.hid hpre
      have Hk := Lib.hid hk
      clear hpre hk hA0 hA1 hA2 hE hM Hpre
      gi_wp2_with fail
      refine ⟨Eff.refl _ _ _, ?_⟩
      intro Wb hx hkb hszb hlb
      have hm2 := hmv _ _ _ hm (.of_ext hx)
      have hz3 := hz2.ext hx
      obtain ⟨m1, m2, v, u, vs, m3, m4, m5, m6, m7, m8⟩ := hm2
      obtain ⟨M, hMM⟩ : ∃ M, acc.flatten.length = M := ⟨_, rfl⟩
      rw [hMM] at m5 m8
      have HM := Lib.hid hMM
      clear hMM
      have c0 := m2.cell (j := 0) rfl
      have hWb : w2.heap.size ≤ Wb.heap.size := by have := Hk.out.size; omega
      have Hkb := Lib.hid hkb
      clear hm hz2 hx hkb hszb hlb hmv
      gi_wp2_with fail
      refine (calls_iff.2 (wnone_any R s z2 Wb hs hz3)).mono ?_
      rintro e w3 ⟨rfl, h3, hu3⟩
      have hle3 : (Wk.none s.data.toList z2).1.l.length ≤ 1000000 := by
        have h1 := (Hpre2.out.1 hbad).2
        have h2 := Wk.none_len s.data.toList z2
        omega
      have c03 := (m2.upd hu3 (by omega)).cell (j := 0) rfl
      obtain ⟨z4, hz4⟩ : ∃ z4, z4 = (Wk.none s.data.toList z2).1 := ⟨_, rfl⟩
      rw [← hz4] at h3 hle3
      have Hpoly : Hid (Wk.poly s.data.toList z2 = if (Wk.none s.data.toList z2).2 then (z4, []) else Wk.lists s.data.toList (Wk.list s.data.toList) z4) := by
        unfold Hid Wk.poly; rw [hz4]
      have Hz4 := Lib.hid hz4
      clear hz4
      cases hn : (Wk.none s.data.toList z2).2 with
      | true =>
        have hz5 : Wk.poly s.data.toList z2 = (z4, []) := by rw [Hpoly.out, if_pos hn]
        have Hz5 := Lib.hid hz5
        clear hz5
        obtain ⟨vs6, hv6, hvs6⟩ : ∃ vs6, RdT 39 w3 (.slice none 0 0) ([] : List (List Wk.Pr)).length vs6 ∧ rdsL R w3 vs6 [] := ⟨[], RdT.nil _ _, trivial⟩
        have hrl : ([] : List (List Wk.Pr)).length ≤ 1000001 := by simp
        have h5 := h3
        gi_wp2_with fail
        have hu5' := hu3
        have h6 : rdsL R w3 vs acc.flatten := m6.keep (keep_rd hz3 (by decide) hu5')
        have hSb : ∀ k, k = W0.heap.size → w.heap.size + 2 < k ∧ k < w2.heap.size := fun k hk => by omega
        have P0 : PolyI R w2.heap.size w2.heap.size s z4 w Wb w3 (fun j => j = W0.heap.size) (.slice none 0 0) ([] : List (List Wk.Pr)).length vs6 v u v u M vs acc.length (intsN (acc.map List.length)) true none w3.drew :=
          PolyI.drew ⟨m1.trans hu5', h5, m2.upd hu5' (by omega), m3.upd hu5' (by omega), m4.upd hu5' (by omega), own_upd m5 hu5' (by omega), own_upd m7 hu5' (by omega), KeepT.refl _ _, eff_upd hz3 hu5' (fun e => by omega) (fun k hk => by omega), by have := hu5'.size; omega, fun _ => hv6, (fun x e => by cases e)⟩
        obtain ⟨hN1, hmid⟩ := Wk.pre_round _ _ _ _ Hpre2.out hbad (Wk.poly_len _ _)
        rw [Hz5.out] at hmid
        have hz5l : z4.l.length ≤ z2.l.length := by have := Wk.poly_len s.data.toList z2; rw [Hz5.out] at this; exact this
        have Hmid := Lib.hid hmid
        have hacc1 : M ≤ 1000000 * 1000001 := Nat.le_trans m8 (Nat.mul_le_mul_right _ (by omega))
        clear hmid
        refine heldG_round (fun w' => w'.cell? ⟨w.heap.size + 1, 0, none⟩ = some v ∧ w'.cell? ⟨w.heap.size + 1 + 1, 0, none⟩ = some u) (fun j => j == 8 || j == 9) (by kernel_rfl) (fun ⟨_, _, h⟩ => h) (by kernel_rfl) ?_
        refine wpAnyG_takeD (i := 0) (v := v) [0, 2, 7, 8, 9] rfl (by kernel_rfl) (by kernel_rfl) (by kernel_rfl) (by kernel_rfl) (by kernel_rfl) (fun _ _ _ h => h) (Or.inl ⟨by rfl, ?y0⟩) ⟨P0.b4.cell (j := 0) rfl, P0.b5.cell (j := 0) rfl⟩ ?_
        case y0 => intro w' hS'; obtain ⟨hS1, hS2⟩ := hS'; go_simp
        simp only [Act.put, List.setIfInBounds_toArray, List.set_cons_zero, List.set_cons_succ]
        refine wpAnyG_takeD (i := 1) (v := .slice none 0 0) [1, 2, 7, 8, 9] rfl (by kernel_rfl) (by kernel_rfl) (by kernel_rfl) (by kernel_rfl) (by kernel_rfl) (fun _ _ _ h => h) (Or.inl ⟨by rfl, ?y1⟩) ⟨P0.b4.cell (j := 0) rfl, P0.b5.cell (j := 0) rfl⟩ ?_
        case y1 => intro w' hS'; obtain ⟨hS1, hS2⟩ := hS'; go_simp
        simp only [Act.put, List.setIfInBounds_toArray, List.set_cons_zero, List.set_cons_succ]
        refine wpAnyG_takeD (i := 3) (v := u) [3, 7, 8, 9] rfl (by kernel_rfl) (by kernel_rfl) (by kernel_rfl) (by kernel_rfl) (by kernel_rfl) (fun _ _ _ h => h) (Or.inl ⟨by rfl, ?y3⟩) ⟨P0.b4.cell (j := 0) rfl, P0.b5.cell (j := 0) rfl⟩ ?_
        case y3 => intro w' hS'; obtain ⟨hS1, hS2⟩ := hS'; go_simp
        simp only [Act.put, List.setIfInBounds_toArray, List.set_cons_zero, List.set_cons_succ]
        refine wpAnyG_takeD (i := 4) (v := .slice none 0 0) [4, 5, 6, 7, 8, 9] rfl (by kernel_rfl) (by kernel_rfl) (by kernel_rfl) (by kernel_rfl) (by kernel_rfl) (fun _ _ _ h => h) (Or.inl ⟨by rfl, ?y4⟩) ⟨P0.b4.cell (j := 0) rfl, P0.b5.cell (j := 0) rfl⟩ ?_
        case y4 => intro w' hS'; obtain ⟨hS1, hS2⟩ := hS'; go_simp
        simp only [Act.put, List.setIfInBounds_toArray, List.set_cons_zero, List.set_cons_succ]
        refine wpAnyG_takeD (i := 5) (v := .int .i64 ((([] : List (List Wk.Pr)).length : Nat) : Int)) [5, 6, 7, 8, 9] rfl (by kernel_rfl) (by kernel_rfl) (by kernel_rfl) (by kernel_rfl) (by kernel_rfl) (fun _ _ _ h => h) (Or.inl ⟨by rfl, ?y5⟩) ⟨P0.b4.cell (j := 0) rfl, P0.b5.cell (j := 0) rfl⟩ ?_
        case y5 => intro w' hS'; obtain ⟨hS1, hS2⟩ := hS'; go_simp
        simp only [Act.put, List.setIfInBounds_toArray, List.set_cons_zero, List.set_cons_succ]
        refine wpAnyG_ready (rs := [2, 6]) (by kernel_rfl) (by simp) ?_
        refine AllReadyG.cons rfl (fun K hK => ?_) (AllReadyG.cons rfl (fun K hK => ?_) (AllReadyG.nil))
        · refine step_append2 _ (by rfl) _ _ 30 rfl w2.heap.size 39 (.slice none 0 0) 1 24 Tryz.underlying30 info_list rfl (by decide) v M _ rfl P0.o4 _ _ ([] : List (List Wk.Pr)).length vs6 rfl (P0.e6 rfl).reads (by rw [hvs6.len]; simp) hvs6.one (by unfold maxLen; omega) (by omega) P0.size ?_
          intro v' Y hown hgrow hmov
          obtain ⟨av, cv, rfl⟩ := own_form hown
          have P0a := P0.appA hR hw12 hSb hown hgrow
          refine hK.out _ _ (fun _ => ⟨P0a.b4.cell (j := 0) rfl, P0a.b5.cell (j := 0) rfl⟩) ?_
          clear hK K
          refine wpAnyG_ready (rs := [6]) (by kernel_rfl) (by simp) ?_
          refine AllReadyG.cons rfl (fun K hK => ?_) (AllReadyG.nil)
          go_simp
          have P0ab1 := P0a.new hSb
          refine hK.out _ _ (fun _ => ⟨P0ab1.b4.cell (j := 0) rfl, P0ab1.b5.cell (j := 0) rfl⟩) ?_
          clear hK K
          refine wpAnyG_ready (rs := [7]) (by kernel_rfl) (by simp) ?_
          refine AllReadyG.cons rfl (fun K hK => ?_) (AllReadyG.nil)
          refine step_append2 _ (by rfl) _ _ 31 rfl w2.heap.size 3 (.int .i64 0) 1 8 Tryz.underlying31 info_int rfl (by decide) u acc.length _ rfl P0ab1.o5 _ _ 1 [.int .i64 ((([] : List (List Wk.Pr)).length : Nat) : Int)] rfl (P0ab1.e7 _ rfl).reads rfl (by simp [Value.oneCell']) (by unfold maxLen; omega) (by omega) P0ab1.size ?_
          intro u' Y2 hown2 hgrow2 hmov2
          obtain ⟨au, cu, rfl⟩ := own_form hown2
          have P0ab1b2 := P0ab1.appB hR hw12 hSb hown2 hgrow2
          refine hK.out _ _ (fun _ => ⟨P0ab1b2.b4.cell (j := 0) rfl, P0ab1b2.b5.cell (j := 0) rfl⟩) ?_
          clear hK K
          refine wpAnyG_ready (rs := [8]) (by kernel_rfl) (by simp) ?_
          refine AllReadyG.cons rfl (fun K hK => ?_) (AllReadyG.nil)
          have k4 := P0ab1b2.b4.cell (j := 0) rfl
          have g4 := P0ab1b2.b4.frozen 0
          go_simp
          refine hK.out _ _ (fun h => by cases h) ?_
          clear hK K k4 g4
          have P0ab1b2c := P0ab1b2.setA hR hw12 hSb (.slice av (M + ([] : List (List Wk.Pr)).length) cv)
          refine wpAnyG_ready (rs := [9]) (by kernel_rfl) (by simp) ?_
          refine AllReadyG.cons rfl (fun K hK => ?_) (AllReadyG.nil)
          have k5 := P0ab1b2.b5.cell (j := 0) rfl
          have g5 := P0ab1b2.b5.frozen 0
          have k6 := P0ab1b2c.b5.cell (j := 0) rfl
          have g6 := P0ab1b2c.b5.frozen 0
          go_simp
          refine hK.out _ _ (fun h => by cases h) ?_
          clear hK K k5 g5 k6 g6
          have P0ab1b2cd := P0ab1b2c.setB hR hw12 hSb (.slice au (acc.length + 1) cu)
          refine wpAnyG_done (by kernel_rfl) ?_ _
          exact ⟨P0ab1b2cd.eff, z4, hz5l, P0ab1b2cd.rd, _, _, Hmid.out, poly_fin HM.out P0ab1b2cd h6 hvs6 m8 hrl⟩
        · go_simp
          have P0b1 := P0.new hSb
          refine hK.out _ _ (fun _ => ⟨P0b1.b4.cell (j := 0) rfl, P0b1.b5.cell (j := 0) rfl⟩) ?_
          clear hK K
          refine wpAnyG_ready (rs := [2]) (by kernel_rfl) (by simp) ?_
          refine AllReadyG.cons rfl (fun K hK => ?_) (AllReadyG.nil)
          refine step_append2 _ (by rfl) _ _ 30 rfl w2.heap.size 39 (.slice none 0 0) 1 24 Tryz.underlying30 info_list rfl (by decide) v M _ rfl P0b1.o4 _ _ ([] : List (List Wk.Pr)).length vs6 rfl (P0b1.e6 rfl).reads (by rw [hvs6.len]; simp) hvs6.one (by unfold maxLen; omega) (by omega) P0b1.size ?_
          intro v' Y hown hgrow hmov
          obtain ⟨av, cv, rfl⟩ := own_form hown
          have P0b1a := P0b1.appA hR hw12 hSb hown hgrow
          refine hK.out _ _ (fun _ => ⟨P0b1a.b4.cell (j := 0) rfl, P0b1a.b5.cell (j := 0) rfl⟩) ?_
          clear hK K
          refine wpAnyG_ready (rs := [7]) (by kernel_rfl) (by simp) ?_
          refine AllReadyG.cons rfl (fun K hK => ?_) (AllReadyG.nil)
          refine step_append2 _ (by rfl) _ _ 31 rfl w2.heap.size 3 (.int .i64 0) 1 8 Tryz.underlying31 info_int rfl (by decide) u acc.length _ rfl P0b1a.o5 _ _ 1 [.int .i64 ((([] : List (List Wk.Pr)).length : Nat) : Int)] rfl (P0b1a.e7 _ rfl).reads rfl (by simp [Value.oneCell']) (by unfold maxLen; omega) (by omega) P0b1a.size ?_
          intro u' Y2 hown2 hgrow2 hmov2
          obtain ⟨au, cu, rfl⟩ := own_form hown2
          have P0b1ab2 := P0b1a.appB hR hw12 hSb hown2 hgrow2
          refine hK.out _ _ (fun _ => ⟨P0b1ab2.b4.cell (j := 0) rfl, P0b1ab2.b5.cell (j := 0) rfl⟩) ?_
          clear hK K
          refine wpAnyG_ready (rs := [8]) (by kernel_rfl) (by simp) ?_
          refine AllReadyG.cons rfl (fun K hK => ?_) (AllReadyG.nil)
          have k4 := P0b1ab2.b4.cell (j := 0) rfl
          have g4 := P0b1ab2.b4.frozen 0
          go_simp
          refine hK.out _ _ (fun h => by cases h) ?_
          clear hK K k4 g4
          have P0b1ab2c := P0b1ab2.setA hR hw12 hSb (.slice av (M + ([] : List (List Wk.Pr)).length) cv)
          refine wpAnyG_ready (rs := [9]) (by kernel_rfl) (by simp) ?_
          refine AllReadyG.cons rfl (fun K hK => ?_) (AllReadyG.nil)
          have k5 := P0b1ab2.b5.cell (j := 0) rfl
          have g5 := P0b1ab2.b5.frozen 0
          have k6 := P0b1ab2c.b5.cell (j := 0) rfl
          have g6 := P0b1ab2c.b5.frozen 0
          go_simp
          refine hK.out _ _ (fun h => by cases h) ?_
          clear hK K k5 g5 k6 g6
          have P0b1ab2cd := P0b1ab2c.setB hR hw12 hSb (.slice au (acc.length + 1) cu)
          refine wpAnyG_done (by kernel_rfl) ?_ _
          exact ⟨P0b1ab2cd.eff, z4, hz5l, P0b1ab2cd.rd, _, _, Hmid.out, poly_fin HM.out P0b1ab2cd h6 hvs6 m8 hrl⟩
      | false =>
        obtain ⟨z5, rl, Hz5⟩ : ∃ z5 rl, Hid (Wk.poly s.data.toList z2 = (z5, rl)) := ⟨_, _, rfl⟩
        have hpl := Hz5.out
        rw [Hpoly.out, if_neg (by rw [hn]; simp)] at hpl
        gi_wp2_with fail
        refine (calls_iff.2 (wlists_any R 54 (Wk.list s.data.toList) s z4 w3 hs (bodyF_list R s hs) h3 hle3)).mono ?_
        rintro e w5 ⟨v6, vs6, rfl, hv6, hvs6, h5, hu5⟩
        rw [hpl] at hv6 hvs6 h5
        obtain ⟨a6, c6, rfl⟩ := pair_form (R := R) hv6
        have hrl : rl.length ≤ 1000001 := by have := Wk.lists_size s.data.toList (Wk.list s.data.toList) (Wk.list_len _) z4; rw [hpl] at this; simp only at this; omega
        clear hpl
        gi_wp2_with fail
        have hu5' := (hu3.trans hu5)
        have h6 : rdsL R w5 vs acc.flatten := m6.keep (keep_rd hz3 (by decide) hu5')
        have hSb : ∀ k, k = W0.heap.size → w.heap.size + 2 < k ∧ k < w2.heap.size := fun k hk => by omega
        have P0 : PolyI R w2.heap.size w2.heap.size s z5 w Wb w5 (fun j => j = W0.heap.size) (.slice a6 rl.length c6) rl.length vs6 v u v u M vs acc.length (intsN (acc.map List.length)) true none w5.drew :=
          PolyI.drew ⟨m1.trans hu5', h5, m2.upd hu5' (by omega), m3.upd hu5' (by omega), m4.upd hu5' (by omega), own_upd m5 hu5' (by omega), own_upd m7 hu5' (by omega), KeepT.refl _ _, eff_upd hz3 hu5' (fun e => by omega) (fun k hk => by omega), by have := hu5'.size; omega, fun _ => hv6, (fun x e => by cases e)⟩
        obtain ⟨hN1, hmid⟩ := Wk.pre_round _ _ _ _ Hpre2.out hbad (Wk.poly_len _ _)
        rw [Hz5.out] at hmid
        have hz5l : z5.l.length ≤ z2.l.length := by have := Wk.poly_len s.data.toList z2; rw [Hz5.out] at this; exact this
        have Hmid := Lib.hid hmid
        have hacc1 : M ≤ 1000000 * 1000001 := Nat.le_trans m8 (Nat.mul_le_mul_right _ (by omega))
        clear hmid
        refine heldG_round (fun w' => w'.cell? ⟨w.heap.size + 1, 0, none⟩ = some v ∧ w'.cell? ⟨w.heap.size + 1 + 1, 0, none⟩ = some u) (fun j => j == 8 || j == 9) (by kernel_rfl) (fun ⟨_, _, h⟩ => h) (by kernel_rfl) ?_
        refine wpAnyG_takeD (i := 0) (v := v) [0, 2, 7, 8, 9] rfl (by kernel_rfl) (by kernel_rfl) (by kernel_rfl) (by kernel_rfl) (by kernel_rfl) (fun _ _ _ h => h) (Or.inl ⟨by rfl, ?y0⟩) ⟨P0.b4.cell (j := 0) rfl, P0.b5.cell (j := 0) rfl⟩ ?_
        case y0 => intro w' hS'; obtain ⟨hS1, hS2⟩ := hS'; go_simp
        simp only [Act.put, List.setIfInBounds_toArray, List.set_cons_zero, List.set_cons_succ]
        refine wpAnyG_takeD (i := 1) (v := .slice a6 rl.length c6) [1, 2, 7, 8, 9] rfl (by kernel_rfl) (by kernel_rfl) (by kernel_rfl) (by kernel_rfl) (by kernel_rfl) (fun _ _ _ h => h) (Or.inl ⟨by rfl, ?y1⟩) ⟨P0.b4.cell (j := 0) rfl, P0.b5.cell (j := 0) rfl⟩ ?_
        case y1 => intro w' hS'; obtain ⟨hS1, hS2⟩ := hS'; go_simp
        simp only [Act.put, List.setIfInBounds_toArray, List.set_cons_zero, List.set_cons_succ]
        refine wpAnyG_takeD (i := 3) (v := u) [3, 7, 8, 9] rfl (by kernel_rfl) (by kernel_rfl) (by kernel_rfl) (by kernel_rfl) (by kernel_rfl) (fun _ _ _ h => h) (Or.inl ⟨by rfl, ?y3⟩) ⟨P0.b4.cell (j := 0) rfl, P0.b5.cell (j := 0) rfl⟩ ?_
        case y3 => intro w' hS'; obtain ⟨hS1, hS2⟩ := hS'; go_simp
        simp only [Act.put, List.setIfInBounds_toArray, List.set_cons_zero, List.set_cons_succ]
        refine wpAnyG_takeD (i := 4) (v := .slice a6 rl.length c6) [4, 5, 6, 7, 8, 9] rfl (by kernel_rfl) (by kernel_rfl) (by kernel_rfl) (by kernel_rfl) (by kernel_rfl) (fun _ _ _ h => h) (Or.inl ⟨by rfl, ?y4⟩) ⟨P0.b4.cell (j := 0) rfl, P0.b5.cell (j := 0) rfl⟩ ?_
        case y4 => intro w' hS'; obtain ⟨hS1, hS2⟩ := hS'; go_simp
        simp only [Act.put, List.setIfInBounds_toArray, List.set_cons_zero, List.set_cons_succ]
        refine wpAnyG_takeD (i := 5) (v := .int .i64 ((rl.length : Nat) : Int)) [5, 6, 7, 8, 9] rfl (by kernel_rfl) (by kernel_rfl) (by kernel_rfl) (by kernel_rfl) (by kernel_rfl) (fun _ _ _ h => h) (Or.inl ⟨by rfl, ?y5⟩) ⟨P0.b4.cell (j := 0) rfl, P0.b5.cell (j := 0) rfl⟩ ?_
        case y5 => intro w' hS'; obtain ⟨hS1, hS2⟩ := hS'; go_simp
        simp only [Act.put, List.setIfInBounds_toArray, List.set_cons_zero, List.set_cons_succ]
        refine wpAnyG_ready (rs := [2, 6]) (by kernel_rfl) (by simp) ?_
        refine AllReadyG.cons rfl (fun K hK => ?_) (AllReadyG.cons rfl (fun K hK => ?_) (AllReadyG.nil))
        · refine step_append2 _ (by rfl) _ _ 30 rfl w2.heap.size 39 (.slice none 0 0) 1 24 Tryz.underlying30 info_list rfl (by decide) v M _ rfl P0.o4 _ _ rl.length vs6 rfl (P0.e6 rfl).reads (by rw [hvs6.len]; simp) hvs6.one (by unfold maxLen; omega) (by omega) P0.size ?_
          intro v' Y hown hgrow hmov
          obtain ⟨av, cv, rfl⟩ := own_form hown
          have P0a := P0.appA hR hw12 hSb hown hgrow
          refine hK.out _ _ (fun _ => ⟨P0a.b4.cell (j := 0) rfl, P0a.b5.cell (j := 0) rfl⟩) ?_
          clear hK K
          refine wpAnyG_ready (rs := [6]) (by kernel_rfl) (by simp) ?_
          refine AllReadyG.cons rfl (fun K hK => ?_) (AllReadyG.nil)
          go_simp
          have P0ab1 := P0a.new hSb
          refine hK.out _ _ (fun _ => ⟨P0ab1.b4.cell (j := 0) rfl, P0ab1.b5.cell (j := 0) rfl⟩) ?_
          clear hK K
          refine wpAnyG_ready (rs := [7]) (by kernel_rfl) (by simp) ?_
          refine AllReadyG.cons rfl (fun K hK => ?_) (AllReadyG.nil)
          refine step_append2 _ (by rfl) _ _ 31 rfl w2.heap.size 3 (.int .i64 0) 1 8 Tryz.underlying31 info_int rfl (by decide) u acc.length _ rfl P0ab1.o5 _ _ 1 [.int .i64 ((rl.length : Nat) : Int)] rfl (P0ab1.e7 _ rfl).reads rfl (by simp [Value.oneCell']) (by unfold maxLen; omega) (by omega) P0ab1.size ?_
          intro u' Y2 hown2 hgrow2 hmov2
          obtain ⟨au, cu, rfl⟩ := own_form hown2
          have P0ab1b2 := P0ab1.appB hR hw12 hSb hown2 hgrow2
          refine hK.out _ _ (fun _ => ⟨P0ab1b2.b4.cell (j := 0) rfl, P0ab1b2.b5.cell (j := 0) rfl⟩) ?_
          clear hK K
          refine wpAnyG_ready (rs := [8]) (by kernel_rfl) (by simp) ?_
          refine AllReadyG.cons rfl (fun K hK => ?_) (AllReadyG.nil)
          have k4 := P0ab1b2.b4.cell (j := 0) rfl
          have g4 := P0ab1b2.b4.frozen 0
          go_simp
          refine hK.out _ _ (fun h => by cases h) ?_
          clear hK K k4 g4
          have P0ab1b2c := P0ab1b2.setA hR hw12 hSb (.slice av (M + rl.length) cv)
          refine wpAnyG_ready (rs := [9]) (by kernel_rfl) (by simp) ?_
          refine AllReadyG.cons rfl (fun K hK => ?_) (AllReadyG.nil)
          have k5 := P0ab1b2.b5.cell (j := 0) rfl
          have g5 := P0ab1b2.b5.frozen 0
          have k6 := P0ab1b2c.b5.cell (j := 0) rfl
          have g6 := P0ab1b2c.b5.frozen 0
          go_simp
          refine hK.out _ _ (fun h => by cases h) ?_
          clear hK K k5 g5 k6 g6
          have P0ab1b2cd := P0ab1b2c.setB hR hw12 hSb (.slice au (acc.length + 1) cu)
          refine wpAnyG_done (by kernel_rfl) ?_ _
          exact ⟨P0ab1b2cd.eff, z5, hz5l, P0ab1b2cd.rd, _, _, Hmid.out, poly_fin HM.out P0ab1b2cd h6 hvs6 m8 hrl⟩
        · go_simp
          have P0b1 := P0.new hSb
          refine hK.out _ _ (fun _ => ⟨P0b1.b4.cell (j := 0) rfl, P0b1.b5.cell (j := 0) rfl⟩) ?_
          clear hK K
          refine wpAnyG_ready (rs := [2]) (by kernel_rfl) (by simp) ?_
          refine AllReadyG.cons rfl (fun K hK => ?_) (AllReadyG.nil)
          refine step_append2 _ (by rfl) _ _ 30 rfl w2.heap.size 39 (.slice none 0 0) 1 24 Tryz.underlying30 info_list rfl (by decide) v M _ rfl P0b1.o4 _ _ rl.length vs6 rfl (P0b1.e6 rfl).reads (by rw [hvs6.len]; simp) hvs6.one (by unfold maxLen; omega) (by omega) P0b1.size ?_
          intro v' Y hown hgrow hmov
          obtain ⟨av, cv, rfl⟩ := own_form hown
          have P0b1a := P0b1.appA hR hw12 hSb hown hgrow
          refine hK.out _ _ (fun _ => ⟨P0b1a.b4.cell (j := 0) rfl, P0b1a.b5.cell (j := 0) rfl⟩) ?_
          clear hK K
          refine wpAnyG_ready (rs := [7]) (by kernel_rfl) (by simp) ?_
          refine AllReadyG.cons rfl (fun K hK => ?_) (AllReadyG.nil)
          refine step_append2 _ (by rfl) _ _ 31 rfl w2.heap.size 3 (.int .i64 0) 1 8 Tryz.underlying31 info_int rfl (by decide) u acc.length _ rfl P0b1a.o5 _ _ 1 [.int .i64 ((rl.length : Nat) : Int)] rfl (P0b1a.e7 _ rfl).reads rfl (by simp [Value.oneCell']) (by unfold maxLen; omega) (by omega) P0b1a.size ?_
          intro u' Y2 hown2 hgrow2 hmov2
          obtain ⟨au, cu, rfl⟩ := own_form hown2
          have P0b1ab2 := P0b1a.appB hR hw12 hSb hown2 hgrow2
          refine hK.out _ _ (fun _ => ⟨P0b1ab2.b4.cell (j := 0) rfl, P0b1ab2.b5.cell (j := 0) rfl⟩) ?_
          clear hK K
          refine wpAnyG_ready (rs := [8]) (by kernel_rfl) (by simp) ?_
          refine AllReadyG.cons rfl (fun K hK => ?_) (AllReadyG.nil)
          have k4 := P0b1ab2.b4.cell (j := 0) rfl
          have g4 := P0b1ab2.b4.frozen 0
          go_simp
          refine hK.out _ _ (fun h => by cases h) ?_
          clear hK K k4 g4
          have P0b1ab2c := P0b1ab2.setA hR hw12 hSb (.slice av (M + rl.length) cv)
          refine wpAnyG_ready (rs := [9]) (by kernel_rfl) (by simp) ?_
          refine AllReadyG.cons rfl (fun K hK => ?_) (AllReadyG.nil)
          have k5 := P0b1ab2.b5.cell (j := 0) rfl
          have g5 := P0b1ab2.b5.frozen 0
          have k6 := P0b1ab2c.b5.cell (j := 0) rfl
          have g6 := P0b1ab2c.b5.frozen 0
          go_simp
          refine hK.out _ _ (fun h => by cases h) ?_
          clear hK K k5 g5 k6 g6
          have P0b1ab2cd := P0b1ab2c.setB hR hw12 hSb (.slice au (acc.length + 1) cu)
          refine wpAnyG_done (by kernel_rfl) ?_ _
          exact ⟨P0b1ab2cd.eff, z5, hz5l, P0b1ab2cd.rd, _, _, Hmid.out, poly_fin HM.out P0b1ab2cd h6 hvs6 m8 hrl⟩
end Go.Proofs.YtfbdkjonjpanfaaGreatDoor
