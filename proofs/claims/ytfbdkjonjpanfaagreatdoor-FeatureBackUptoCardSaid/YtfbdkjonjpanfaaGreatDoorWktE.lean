import Derived.Test.YtfbdkjonjpanfaaGreatDoorWktD
import Derived.Test.YtfbdkjonjpanfaaGreatDoorWktP
set_option linter.unusedVariables false
set_option linter.unusedSimpArgs false
namespace Go.Proofs.YtfbdkjonjpanfaaGreatDoor
open Go.RowKit Go.Rg
attribute [local go_sem] Oper.semAt_some

theorem info_pair : (Tryz.prog.info? 77).map (fun i => (i.zero, i.size, i.bytes)) = some (some (.agg #[.string ⟨#[]⟩, .string ⟨#[]⟩]), 2, 32) := by kernel_rfl

/-- what list keeps in memory between its rounds -/
def listM (R : Nat) (w w1 : World) (acc : List Wk.Pr) (X : World) : Prop :=
  Upd R w X ∧ Blk X w.heap.size [.pointer (some ⟨R, 0, none⟩)] 66 ∧ ∃ v, Blk X (w.heap.size + 1) [v] 39 ∧ X.ownsRow w1.heap.size 77 2 v acc.length (flatP acc)

theorem listM_mv {R : Nat} {w w1 X Y : World} {acc : List Wk.Pr} (hR : R < w.heap.size) (hw : w.heap.size + 2 ≤ w1.heap.size) (h : listM R w w1 acc X) (hx : Mv R w1.heap.size X Y) : listM R w w1 acc Y := by
  obtain ⟨h1, h2, v, h3, h4⟩ := h
  exact ⟨⟨hx.os.trans h1.os, hx.tape.trans h1.tape, hx.output.trans h1.output, Nat.le_trans h1.size hx.size, fun k hk hl => (hx.low k hk (by omega)).trans (h1.same k hk hl)⟩, h2.mv hx (by omega), v, h3.mv hx (by omega), own_mv h4 hx (by omega)⟩

theorem eff_upd {B R : Nat} {S : Nat → Prop} {s : ByteArray} {z : Wk.St} {W W' : World} (hz : Rd W R s z) (h : Upd R W W') (hR : ¬ S R) (hS : ∀ k, S k → k < W.heap.size) : Eff B S W W' := by
  obtain ⟨v, hb, _⟩ := hz
  refine ⟨h.kept hR hS, fun k o _ ho hc => ?_⟩
  have hk : k ≠ R := by rintro rfl; rw [hb] at ho; cases ho; cases hc
  exact (h.same k hk (Array.getElem?_eq_some_iff.1 ho).1).trans ho
theorem Rd.grown {w w' : World} {R : Nat} {s : ByteArray} {z : Wk.St} {row : Option Nat} (h : Rd w R s z) (hg : w.grownBy w' row) (hr : ∀ k, row = some k → R < k) : Rd w' R s z := by
  obtain ⟨v, h1, h2⟩ := h
  have hlt := h1.lt
  exact ⟨v, h1.grown hg (fun e => by have := hr R e.symm; omega), h2.below ((Below.refl R w).grown hg (by omega) (fun k e => by have := hr k e; omega))⟩
theorem own_cells {w : World} {base e size n : Nat} {v : Value} {xs : List Value} (h : w.ownsRow base e size v n xs) {g : Nat} {o : Obj} (hg : v.ownBlock = some g) (ho : w.heap[g]? = some o) : o.isCells = true := by
  rcases h.2 with ⟨rfl, _⟩ | ⟨g', cap, cur, rfl, _, hg', _⟩
  · simp [Value.ownBlock] at hg
  · simp [Value.ownBlock] at hg
    subst hg
    rw [hg'] at ho; cases ho; rfl

set_option maxRecDepth 100000 in
theorem wlist_any (R : Nat) (s : ByteArray) (z : Wk.St) (w : World) (hs : s.size ≤ maxLen) (h : Rd w R s z) (hle : z.l.length ≤ 1000000) :
    Calls Tryz.prog 54 #[.pointer (some ⟨R, 0, none⟩)] w fun e w' => ∃ v, e = .returned v ∧ RdT 77 w' v (Wk.list s.data.toList z).2.length (flatP (Wk.list s.data.toList z).2) ∧ Rd w' R s (Wk.list s.data.toList z).1 ∧ Upd R w w' := by
  have hR := h.lt
  refine (calls_iff (r := none) (m := 0)).1 (callsIn_of_wp_marks Tryz.func54 rfl trivial ?_ rfl)
  simp only [Tryz.ntmps54, List.size_toArray, List.length_cons, List.length_nil, Nat.reduceAdd, Nat.reduceSub, Array.replicate_succ, Array.replicate_zero, List.push_toArray, List.append_toArray, List.nil_append, List.cons_append]
  gi_wp2_with fail
  obtain ⟨W0, hW0⟩ : ∃ W0, [.cells #[.pointer (some ⟨R, 0, none⟩)] 66, .cells #[.slice none 0 0] 39].foldl World.alloc w = W0 := ⟨_, rfl⟩
  have hB0 : Blk W0 w.heap.size [.pointer (some ⟨R, 0, none⟩)] 66 := Blk.allocs _ hW0 0 rfl
  have hB1 : Blk W0 (w.heap.size + 1) [.slice none 0 0] 39 := Blk.allocs _ hW0 1 rfl
  have hBel : Below w.heap.size w W0 := hW0 ▸ allocs_below _ w
  have hsz : W0.heap.size = w.heap.size + 2 := hW0 ▸ allocs_size _ w
  simp only [List.foldl_cons, List.foldl_nil] at hW0
  simp only [hW0]
  clear hW0
  have h0 := h.upd_ hBel
  refine (calls_iff.2 (wnone_any R s z W0 hs h0)).mono ?_
  rintro e w1 ⟨rfl, h1, hu1⟩
  have hu := (Upd.of_below (R := R) hBel).trans hu1
  have hA0 := hB0.upd hu1 (by omega)
  have hA1 := hB1.upd hu1 (by omega)
  have c0 := hA0.cell (j := 0) rfl
  have c1 := hA1.cell (j := 0) rfl
  have hz1 : w.heap.size + 2 ≤ w1.heap.size := by have := hu1.size; omega
  cases hn : (Wk.none s.data.toList z).2 with
  | true =>
    have hfin : Wk.list s.data.toList z = ((Wk.none s.data.toList z).1, []) := by unfold Wk.list; rw [if_pos hn]
    have Hfin := Lib.hid hfin
    clear hfin hB0 hB1 hA0 hA1 hBel
    gi_wp2_with fail
    refine ⟨_, by simp [results, Tryz.results54, go_sem]; rfl, _, rfl, ?_, ?_, hu⟩
    · rw [Hfin.out]; exact RdT.nil _ _
    · rw [Hfin.out]; exact h1
  | false =>
    have hfin : Wk.list s.data.toList z = Wk.each s.data.toList (Wk.pair s.data.toList) (Wk.none s.data.toList z).1 := by unfold Wk.list; rw [if_neg (by rw [hn]; simp)]
    obtain ⟨z1, hz⟩ : ∃ z1, z1 = (Wk.none s.data.toList z).1 := ⟨_, rfl⟩
    have hle1 : z1.l.length ≤ 1000000 := by rw [hz]; exact Nat.le_trans (Wk.none_len _ _) hle
    rw [← hz] at h1 hfin
    have Hfin := Lib.hid hfin
    clear hfin hz
    gi_wp2_with fail
    refine (calls_iff.2 (weach_any R w1)).mono ?_
    rintro e w2 ⟨rfl, hw2⟩
    have hb2 : Below w1.heap.size w1 w2 := hw2 ▸ (Below.refl _ w1).alloc (Nat.le_refl _) _
    have hE : Blk w2 w1.heap.size [.pointer (some ⟨R, 0, none⟩)] 66 := hw2 ▸ Blk.new w1 _ _
    have hs2 : w2.heap.size = w1.heap.size + 1 := hw2 ▸ World.size_alloc _ _
    clear hw2
    gi_wp2_with fail
    obtain ⟨N, hN⟩ : ∃ N, N = (Wk.take s.data.toList z1 3).1.l.length := ⟨_, rfl⟩
    have hN6 : N ≤ 1000000 := by rw [hN]; exact Nat.le_trans (Wk.take_len _ _ _) hle1
    have hpre := Wk.pre_start s.data.toList (Wk.pair s.data.toList) z1
    rw [← hN] at hpre
    obtain ⟨res, hres⟩ : ∃ res, res = Wk.each s.data.toList (Wk.pair s.data.toList) z1 := ⟨_, rfl⟩
    rw [← hres] at hpre
    have Hf : Hid (Wk.list s.data.toList z = res) := by unfold Hid; rw [Hfin.out, hres]
    clear hres Hfin hn hN
    have Hpre := Lib.hid hpre
    clear hpre
    have hM : listM R w w2 [] w2 := ⟨hu.call hb2, hA0.call hb2, _, hA1.call hb2, World.ownsRow_nil _ _ _ _⟩
    have hw12 : w.heap.size + 2 ≤ w2.heap.size := by omega
    have hmv : ∀ acc X Y, listM R w w2 acc X → Mv R w2.heap.size X Y → listM R w w2 acc Y := fun acc X Y a b => listM_mv hR hw12 a b
    refine wp_each (gf := 84) (lb := #[.pointer (some ⟨w1.heap.size, 0, none⟩)]) (R := R) (s := s) (z0 := z1) rfl enter_each1 (S := fun j => j = w1.heap.size)
      (weach_seq w1.heap.size R s _ w2 hs hE rfl (fun k hk => by omega) (fun hk => by omega)) (Kept.refl _ _) (fun k hk => by omega) (fun hk => by omega) (h1.upd_ hb2) hle1
      (fun z X => ∃ n acc, Wk.Pre s.data.toList (Wk.pair s.data.toList) res N n acc z ∧ listM R w w2 acc X)
      (fun z X => ∃ n acc, Wk.Mid s.data.toList (Wk.pair s.data.toList) res N n acc z ∧ listM R w w2 acc X)
      (fun z X => ∃ acc, res = (z, acc) ∧ listM R w w2 acc X)
      (fun z X Y ⟨n, acc, a, b⟩ hx => ⟨n, acc, a, hmv _ _ _ b hx⟩) (fun z X Y ⟨acc, a, b⟩ hx => ⟨acc, a, hmv _ _ _ b hx⟩)
      (fun Y hx => ⟨_, [], Hpre.out, hmv _ _ _ hM hx⟩)
      (fun z X Y ⟨n, acc, a, b⟩ hp hx => ⟨n, acc, Wk.mid_go _ _ _ _ a hp, hmv _ _ _ b hx⟩)
      (fun z X Y ⟨n, acc, a, b⟩ hp hx => ⟨acc, Wk.mid_end _ _ _ _ a hp, hmv _ _ _ b hx⟩)
      (fun z X ⟨n, acc, a, b⟩ hp => ⟨acc, Wk.pre_bad _ _ _ _ a hp, b⟩) ?round ?done
    case done =>
      rintro z2 W hk hlt hz2 ⟨acc, hres, m1, m2, v, m3, m4⟩ hD
      obtain ⟨av, capv, rfl⟩ := own_form m4
      have d1 : W.cell? ⟨w.heap.size + 1, 0, none⟩ = some (.slice av acc.length capv) := m3.cell (j := 0) rfl
      have HD := Lib.hid hD
      have Hres := Lib.hid hres
      have H2 := Lib.hid hz2
      have Hu := Lib.hid m1
      have H4 := Lib.hid m4
      clear m1 m2 m3 m4 hD hres hz2 hB0 hB1 hA0 hA1 hE hM hmv
      gi_wp2_with fail
      refine ⟨by simp, .inl ⟨_, _, rfl, run_takeDeferred HD.out, ?_⟩⟩
      refine ⟨_, by simp [results, Tryz.results54, go_sem]; rfl, _, rfl, ?_, ?_, ?_⟩
      · rw [Hf.out, Hres.out]
        exact (RdT.of_own H4.out).keep (.ext (put_ext HD.out rfl (.deferred none)))
      · rw [Hf.out, Hres.out]
        exact H2.out.ext (put_ext HD.out rfl (.deferred none))
      · exact ⟨Hu.out.os, Hu.out.tape, Hu.out.output, by have := Hu.out.size; simpa using this, fun k hk hl => (World.putObj_heap_other (by omega)).trans (Hu.out.same k hk hl)⟩
    case round =>
      rintro l k z2 W hl1 hl2 hk hz2 hbad ⟨n, acc, hpre, hm⟩
      have Hpre2 := Lib.hid hpre
      have Hk := Lib.hid hk
      clear hpre hk hB0 hB1 hA0 hA1 hE hM Hpre
      gi_wp2_with fail
      refine ⟨Eff.refl _ _ _, ?_⟩
      intro Wb hx hkb hszb hlb
      have hm2 := hmv _ _ _ hm (.of_ext hx)
      have hz3 := hz2.ext hx
      obtain ⟨m1, m2, v, m3, m4⟩ := hm2
      have c0 := m2.cell (j := 0) rfl
      have c1 : Wb.cell? ⟨w.heap.size + 1, 0, none⟩ = some v := m3.cell (j := 0) rfl
      have hWb : w2.heap.size ≤ Wb.heap.size := by have := Hk.out.size; omega
      have Hkb := Lib.hid hkb
      clear hm hz2 hx hkb hszb hlb hmv
      gi_wp2_with fail
      refine heldG_round (fun w' => w'.cell? ⟨w.heap.size + 1, 0, none⟩ = some v ∧ w'.cell? ⟨w.heap.size, 0, none⟩ = some (.pointer (some ⟨R, 0, none⟩))) (fun j => j == 5) (by kernel_rfl) (fun ⟨_, _, h⟩ => h) (by kernel_rfl) ?_
      refine wpAnyG_take (i := 0) (v := v) rfl (by kernel_rfl) (by kernel_rfl) (by kernel_rfl) (by kernel_rfl) rfl (fun _ _ _ h => h) (Or.inl ⟨by rfl, ?y0⟩) ⟨c1, c0⟩ ?_
      case y0 => intro w' hS; obtain ⟨hS1, hS2⟩ := hS; go_simp
      simp only [Act.put, List.setIfInBounds_toArray, List.set_cons_zero, List.set_cons_succ]
      refine wpAnyG_take (i := 1) (v := .pointer (some ⟨R, 0, none⟩)) rfl (by kernel_rfl) (by kernel_rfl) (by kernel_rfl) (by kernel_rfl) rfl (fun _ _ _ h => h) (Or.inl ⟨by rfl, ?y1⟩) ⟨c1, c0⟩ ?_
      case y1 => intro w' hS; obtain ⟨hS1, hS2⟩ := hS; go_simp
      simp only [Act.put, List.setIfInBounds_toArray, List.set_cons_zero, List.set_cons_succ]
      refine wpAnyG_ready (rs := [2]) (by kernel_rfl) (by simp) ?_
      refine AllReadyG.cons rfl (fun K hK => ?_) AllReadyG.nil
      go_simp
      refine (wpair_any R s z2 Wb.drew hs (hz3.upd_ ((Below.refl _ Wb).drew))).mono ?_
      rintro e w3 ⟨rfl, h3, hu3⟩
      obtain ⟨p, hp⟩ : ∃ p, p = (Wk.pair s.data.toList z2).2 := ⟨_, rfl⟩
      rw [← hp]
      have Hp := Lib.hid hp
      clear hp
      unfold prV
      have hu3' : Upd R Wb w3 := (Upd.refl R Wb).drew.trans hu3
      have n2 := m2.upd hu3' (by omega)
      have n3 := m3.upd hu3' (by omega)
      have n4 := own_upd m4 hu3' (by omega)
      have hz3s : Wb.heap.size ≤ w3.heap.size := hu3'.size
      refine hK.out _ _ (fun _ => ⟨n3.cell (j := 0) rfl, n2.cell (j := 0) rfl⟩) ?_
      clear hK K
      refine wpAnyG_ready (rs := [3]) (by kernel_rfl) (by simp) ?_
      refine AllReadyG.cons rfl (fun K hK => ?_) AllReadyG.nil
      go_simp
      have hR3 := h3.lt
      have q2 := n2.alloc (.cells #[.string ⟨p.1.toArray⟩, .string ⟨p.2.toArray⟩] 77)
      have q3 := n3.alloc (.cells #[.string ⟨p.1.toArray⟩, .string ⟨p.2.toArray⟩] 77)
      have q4 := n4.alloc (.cells #[.string ⟨p.1.toArray⟩, .string ⟨p.2.toArray⟩] 77)
      refine hK.out _ _ (fun _ => ⟨q3.cell (j := 0) rfl, q2.cell (j := 0) rfl⟩) ?_
      clear hK K
      obtain ⟨hN1, hmid⟩ := Wk.pre_round _ _ _ _ Hpre2.out hbad (Wk.pair_len _ _)
      refine wpAnyG_ready (rs := [4]) (by kernel_rfl) (by simp) ?_
      refine AllReadyG.cons rfl (fun K hK => ?_) AllReadyG.nil
      refine step_append2 _ (by rfl) _ _ 39 rfl w2.heap.size 77 (.agg #[.string ⟨#[]⟩, .string ⟨#[]⟩]) 2 32 Tryz.underlying39 info_pair rfl (by decide) v acc.length _ rfl q4 _ _ 1 (prC p) rfl (reads_new _ _ _ 1 1 (by decide) (by decide)) rfl (by simp [prC, Value.oneCell']) (by unfold maxLen; omega) (by omega) (by simp; omega) ?_
      intro v' w4 hown hgrow hmov
      have k2 := q2.appended q4 (by omega) hgrow
      have k3 := q3.appended q4 (by omega) hgrow
      have e1 : w4.cell? ⟨w.heap.size + 1, 0, none⟩ = some v := k3.cell (j := 0) rfl
      have g1 : w4.frozen? ⟨w.heap.size + 1, 0, none⟩ = false := k3.frozen 0
      refine hK.out _ _ (fun _ => ⟨e1, k2.cell (j := 0) rfl⟩) ?_
      clear hK K
      obtain ⟨a', cap', rfl⟩ := own_form hown
      refine wpAnyG_ready (rs := [5]) (by kernel_rfl) (by simp) ?_
      refine AllReadyG.cons rfl (fun K hK => ?_) AllReadyG.nil
      go_simp
      refine hK.out _ _ (fun h => by cases h) ?_
      clear hK K
      refine wpAnyG_done (by kernel_rfl) ?_ _
      have hrow : ∀ g, v.ownBlock = some g → w2.heap.size ≤ g := fun g e => (m4.lt g e).1
      have Hmid := Lib.hid hmid
      clear hmid
      refine ⟨Eff.setCell (Eff.grown ((eff_upd hz3 hu3' (fun e => by omega) (fun k hk => by omega)).alloc (fun k hk => by omega) _) hgrow (fun k hk => by simp; omega) (fun g e hk => by have := hrow g e; omega) (fun g o e ho => own_cells q4 e ho)) _ (by show ¬ (w.heap.size + 1 = w1.heap.size); omega) _, _, Wk.pair_len _ _, ((h3.alloc_ _).grown hgrow (fun g e => by have := hrow g e; omega)).set_new _ (by show R < w.heap.size + 1; omega) _, _, _, Hmid.out, ?_, ?_, .slice a' (acc.length + 1) cap', k3.set 0 _, ?_⟩
      · exact (((m1.trans hu3').alloc _).grown hgrow (fun g e => by have := hrow g e; omega)).setNew ⟨w.heap.size + 1, 0, none⟩ (Nat.le_succ _) _
      · exact k2.other _ (by show w.heap.size ≠ w.heap.size + 1; omega) _
      · rw [← Hp.out]
        have := own_other hown ⟨w.heap.size + 1, 0, none⟩ (by show w.heap.size + 1 < _; omega) (.slice a' (acc.length + 1) cap')
        simpa [flatP] using this
end Go.Proofs.YtfbdkjonjpanfaaGreatDoor
