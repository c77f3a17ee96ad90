import Derived.Test.YtfbdkjonjpanfaaGreatDoorWktE
set_option linter.unusedVariables false
set_option linter.unusedSimpArgs false
namespace Go.Proofs.YtfbdkjonjpanfaaGreatDoor
open Go.RowKit Go.Rg
attribute [local go_sem] Oper.semAt_some

theorem info_list : (Tryz.prog.info? 39).map (fun i => (i.zero, i.size, i.bytes)) = some (some (.slice none 0 0), 1, 24) := by kernel_rfl

/-- the slice v reads as these pairs, and is not block R -/
def RdP (R : Nat) (w : World) (v : Value) (l : List Wk.Pr) : Prop := RdT 77 w v l.length (flatP l) ∧ v.ownBlock ≠ some R
theorem RdP.keep {R : Nat} {w w' : World} {v : Value} {l : List Wk.Pr} (h : RdP R w v l) (hx : KeepT 77 w w') : RdP R w' v l := ⟨h.1.keep hx, h.2⟩
theorem RdP.mv {R B : Nat} {w w' : World} {v : Value} {l : List Wk.Pr} (h : RdP R w v l) (hx : Mv R B w w') : RdP R w' v l := by
  refine ⟨?_, h.2⟩
  obtain ⟨h1 | ⟨g, off, cap, cs, fz, rfl, h2, h3⟩, hn⟩ := h
  · exact .inl h1
  · exact .inr ⟨g, off, cap, cs, fz, rfl, hx.cells g _ (fun e => hn (by rw [e]; rfl)) h2 rfl, h3⟩
theorem RdP.of {R : Nat} {w : World} {s : ByteArray} {z : Wk.St} {v : Value} {l : List Wk.Pr} (h : RdT 77 w v l.length (flatP l)) (hz : Rd w R s z) : RdP R w v l := by
  refine ⟨h, fun e => ?_⟩
  obtain ⟨u, hb, _⟩ := hz
  rcases h with ⟨rfl, _⟩ | ⟨g, off, cap, cs, fz, rfl, h2, h3⟩
  · cases e
  · cases e; unfold Blk at hb; rw [hb] at h2; cases h2

/-- each of these values reads as that list of pairs -/
def rdsL (R : Nat) (w : World) : List Value → List (List Wk.Pr) → Prop
  | [], [] => True
  | v :: vs, l :: ls => RdP R w v l ∧ rdsL R w vs ls
  | _, _ => False
theorem rdsL.imp {R : Nat} {w w' : World} (h : ∀ v l, RdP R w v l → RdP R w' v l) : ∀ {vs ls}, rdsL R w vs ls → rdsL R w' vs ls
  | [], [], _ => trivial
  | v :: vs, l :: ls, ⟨a, b⟩ => ⟨h _ _ a, rdsL.imp h b⟩
theorem rdsL.keep {R : Nat} {w w' : World} {vs : List Value} {ls : List (List Wk.Pr)} (h : rdsL R w vs ls) (hx : KeepT 77 w w') : rdsL R w' vs ls := h.imp fun _ _ a => a.keep hx
theorem rdsL.mv {R B : Nat} {w w' : World} {vs : List Value} {ls : List (List Wk.Pr)} (h : rdsL R w vs ls) (hx : Mv R B w w') : rdsL R w' vs ls := h.imp fun _ _ a => a.mv hx
theorem rdsL.len {R : Nat} {w : World} : ∀ {vs : List Value} {ls : List (List Wk.Pr)}, rdsL R w vs ls → vs.length = ls.length
  | [], [], _ => rfl
  | v :: vs, l :: ls, ⟨_, b⟩ => by simp [rdsL.len b]
theorem rdsL.append {R : Nat} {w : World} : ∀ {vs us : List Value} {ls ms : List (List Wk.Pr)}, rdsL R w vs ls → rdsL R w us ms → rdsL R w (vs ++ us) (ls ++ ms)
  | [], us, [], ms, _, h => h
  | v :: vs, us, l :: ls, ms, ⟨a, b⟩, h => ⟨a, rdsL.append b h⟩
theorem rdsL.one {R : Nat} {w : World} : ∀ {vs : List Value} {ls : List (List Wk.Pr)}, rdsL R w vs ls → ∀ u ∈ vs, u.oneCell' = true
  | [], [], _ => by simp
  | v :: vs, l :: ls, ⟨a, b⟩ => by
    intro u hu
    rcases List.mem_cons.1 hu with rfl | hu
    · rcases a.1 with ⟨rfl, _⟩ | ⟨g, off, cap, cs, fz, rfl, _⟩ <;> rfl
    · exact rdsL.one b u hu

theorem keep_rd {T : TypeId} {R : Nat} {s : ByteArray} {z : Wk.St} {a b : World} (hz : Rd a R s z) (hT : 68 ≠ T) (h : Upd R a b) : KeepT T a b := by
  obtain ⟨v, hb, _⟩ := hz
  exact .upd hb hT h

/-- what a body function owes: it reads a list -/
def BodyF (R : Nat) (s : ByteArray) (f : Nat) (F : Wk.St → Wk.St × List Wk.Pr) : Prop :=
  (∀ args w, (callFunc f args).run Tryz.prog w = .ok (.enter f args) w) ∧ (∀ z, (F z).1.l.length ≤ z.l.length) ∧
  ∀ z w, Rd w R s z → z.l.length ≤ 1000000 → Calls Tryz.prog f #[.pointer (some ⟨R, 0, none⟩)] w fun e w' => ∃ v, e = .returned v ∧ RdT 77 w' v (F z).2.length (flatP (F z).2) ∧ Rd w' R s (F z).1 ∧ Upd R w w'

def fnV (R f : Nat) : Value := .func (.func f) #[.pointer (some ⟨R, 0, none⟩)] #[]

/-- what lists keeps in memory between its rounds -/
def listsM (R f : Nat) (w w1 : World) (acc : List (List Wk.Pr)) (X : World) : Prop :=
  Upd R w X ∧ Blk X w.heap.size [fnV R f] 115 ∧ ∃ v vs, Blk X (w.heap.size + 1) [v] 30 ∧ X.ownsRow w1.heap.size 39 1 v acc.length vs ∧ rdsL R X vs acc

theorem listsM_mv {R f : Nat} {w w1 X Y : World} {acc : List (List Wk.Pr)} (hR : R < w.heap.size) (hw : w.heap.size + 2 ≤ w1.heap.size) (h : listsM R f w w1 acc X) (hx : Mv R w1.heap.size X Y) : listsM R f w w1 acc Y := by
  obtain ⟨h1, h2, v, vs, h3, h4, h5⟩ := h
  exact ⟨⟨hx.os.trans h1.os, hx.tape.trans h1.tape, hx.output.trans h1.output, Nat.le_trans h1.size hx.size, fun k hk hl => (hx.low k hk (by omega)).trans (h1.same k hk hl)⟩, h2.mv hx (by omega), v, vs, h3.mv hx (by omega), own_mv h4 hx (by omega), h5.mv hx⟩

set_option maxRecDepth 100000 in
theorem wlists_any (R f : Nat) (F : Wk.St → Wk.St × List Wk.Pr) (s : ByteArray) (z : Wk.St) (w : World) (hs : s.size ≤ maxLen) (hF : BodyF R s f F) (h : Rd w R s z) (hle : z.l.length ≤ 1000000) :
    Calls Tryz.prog 55 #[.pointer (some ⟨R, 0, none⟩), fnV R f] w fun e w' => ∃ v vs, e = .returned v ∧ RdT 39 w' v (Wk.lists s.data.toList F z).2.length vs ∧ rdsL R w' vs (Wk.lists s.data.toList F z).2 ∧ Rd w' R s (Wk.lists s.data.toList F z).1 ∧ Upd R w w' := by
  have hR := h.lt
  unfold fnV
  refine (calls_iff (r := none) (m := 0)).1 (callsIn_of_wp_marks Tryz.func55 rfl trivial ?_ rfl)
  simp only [Tryz.ntmps55, List.size_toArray, List.length_cons, List.length_nil, Nat.reduceAdd, Nat.reduceSub, Array.replicate_succ, Array.replicate_zero, List.push_toArray, List.append_toArray, List.nil_append, List.cons_append]
  gi_wp2_with fail
  obtain ⟨w1, hW0⟩ : ∃ w1, [.cells #[fnV R f] 115, .cells #[.slice none 0 0] 30].foldl World.alloc w = w1 := ⟨_, rfl⟩
  have hA0 : Blk w1 w.heap.size [fnV R f] 115 := Blk.allocs _ hW0 0 rfl
  have hA1 : Blk w1 (w.heap.size + 1) [.slice none 0 0] 30 := Blk.allocs _ hW0 1 rfl
  have hBel : Below w.heap.size w w1 := hW0 ▸ allocs_below _ w
  have hz1 : w.heap.size + 2 ≤ w1.heap.size := Nat.le_of_eq (hW0 ▸ allocs_size _ w).symm
  simp only [List.foldl_cons, List.foldl_nil, fnV] at hW0
  simp only [hW0]
  clear hW0
  have h1 := h.upd_ hBel
  have hu := Upd.of_below (R := R) hBel
  refine (calls_iff.2 (weach_any R w1)).mono ?_
  rintro e w2 ⟨rfl, hw2⟩
  have hb2 : Below w1.heap.size w1 w2 := hw2 ▸ (Below.refl _ w1).alloc (Nat.le_refl _) _
  have hE : Blk w2 w1.heap.size [.pointer (some ⟨R, 0, none⟩)] 66 := hw2 ▸ Blk.new w1 _ _
  have hs2 : w2.heap.size = w1.heap.size + 1 := hw2 ▸ World.size_alloc _ _
  clear hw2
  gi_wp2_with fail
  obtain ⟨N, hN⟩ : ∃ N, N = (Wk.take s.data.toList z 3).1.l.length := ⟨_, rfl⟩
  have hN6 : N ≤ 1000000 := by rw [hN]; exact Nat.le_trans (Wk.take_len _ _ _) hle
  have hpre := Wk.pre_start s.data.toList F z
  rw [← hN] at hpre
  obtain ⟨res, hres⟩ : ∃ res, res = Wk.each s.data.toList F z := ⟨_, rfl⟩
  rw [← hres] at hpre
  have Hf : Hid (Wk.lists s.data.toList F z = res) := by unfold Hid Wk.lists; rw [hres]
  clear hres hN
  have Hpre := Lib.hid hpre
  clear hpre
  have hM : listsM R f w w2 [] w2 := ⟨hu.call hb2, hA0.call hb2, _, [], hA1.call hb2, World.ownsRow_nil _ _ _ _, trivial⟩
  have hw12 : w.heap.size + 2 ≤ w2.heap.size := by omega
  have hmv : ∀ acc X Y, listsM R f w w2 acc X → Mv R w2.heap.size X Y → listsM R f w w2 acc Y := fun acc X Y a b => listsM_mv hR hw12 a b
  refine wp_each (gf := 84) (lb := #[.pointer (some ⟨w1.heap.size, 0, none⟩)]) (R := R) (s := s) (z0 := z) rfl enter_each1 (S := fun j => j = w1.heap.size)
    (weach_seq w1.heap.size R s _ w2 hs hE rfl (fun k hk => by omega) (fun hk => by omega)) (Kept.refl _ _) (fun k hk => by omega) (fun hk => by omega) (h1.upd_ hb2) hle
    (fun z X => ∃ n acc, Wk.Pre s.data.toList F res N n acc z ∧ listsM R f w w2 acc X)
    (fun z X => ∃ n acc, Wk.Mid s.data.toList F res N n acc z ∧ listsM R f w w2 acc X)
    (fun z X => ∃ acc, res = (z, acc) ∧ listsM R f w w2 acc X)
    (fun z X Y ⟨n, acc, a, b⟩ hx => ⟨n, acc, a, hmv _ _ _ b hx⟩) (fun z X Y ⟨acc, a, b⟩ hx => ⟨acc, a, hmv _ _ _ b hx⟩)
    (fun Y hx => ⟨_, [], Hpre.out, hmv _ _ _ hM hx⟩)
    (fun z X Y ⟨n, acc, a, b⟩ hp hx => ⟨n, acc, Wk.mid_go _ _ _ _ a hp, hmv _ _ _ b hx⟩)
    (fun z X Y ⟨n, acc, a, b⟩ hp hx => ⟨acc, Wk.mid_end _ _ _ _ a hp, hmv _ _ _ b hx⟩)
    (fun z X ⟨n, acc, a, b⟩ hp => ⟨acc, Wk.pre_bad _ _ _ _ a hp, b⟩) ?round ?done
  case done =>
    rintro z2 W hk hlt hz2 ⟨acc, hres, m1, m2, v, vs, m3, m4, m5⟩ hD
    obtain ⟨av, capv, rfl⟩ := own_form m4
    have d1 : W.cell? ⟨w.heap.size + 1, 0, none⟩ = some (.slice av acc.length capv) := m3.cell (j := 0) rfl
    have HD := Lib.hid hD
    have Hres := Lib.hid hres
    have H2 := Lib.hid hz2
    have Hu := Lib.hid m1
    have H4 := Lib.hid m4
    have H5 := Lib.hid m5
    clear m1 m2 m3 m4 m5 hD hres hz2 hA0 hA1 hE hM hmv
    gi_wp2_with fail
    refine ⟨by simp, .inl ⟨_, _, rfl, run_takeDeferred HD.out, ?_⟩⟩
    refine ⟨_, by simp [results, Tryz.results55, go_sem]; rfl, _, vs, rfl, ?_, ?_, ?_, ?_⟩
    · rw [Hf.out, Hres.out]
      exact (RdT.of_own H4.out).keep (.ext (put_ext HD.out rfl (.deferred none)))
    · rw [Hf.out, Hres.out]
      exact H5.out.keep (.ext (put_ext HD.out rfl (.deferred none)))
    · rw [Hf.out, Hres.out]
      exact H2.out.ext (put_ext HD.out rfl (.deferred none))
    · exact ⟨Hu.out.os, Hu.out.tape, Hu.out.output, by have := Hu.out.size; simpa using this, fun k hk hl => (World.putObj_heap_other (by omega)).trans (Hu.out.same k hk hl)⟩
  case round =>
    rintro l k z2 W hl1 hl2 hk hz2 hbad ⟨n, acc, hpre, hm⟩
    have Hpre2 := Lib.hid hpre
    have Hk := Lib.hid hk
    clear hpre hk hA0 hA1 hE hM Hpre
    gi_wp2_with fail
    refine ⟨Eff.refl _ _ _, ?_⟩
    intro Wb hx hkb hszb hlb
    have hm2 := hmv _ _ _ hm (.of_ext hx)
    have hz3 := hz2.ext hx
    obtain ⟨m1, m2, v, vs, m3, m4, m5⟩ := hm2
    have c0 := m2.cell (j := 0) rfl
    have c1 : Wb.cell? ⟨w.heap.size + 1, 0, none⟩ = some v := m3.cell (j := 0) rfl
    have hWb : w2.heap.size ≤ Wb.heap.size := by have := Hk.out.size; omega
    have Hkb := Lib.hid hkb
    clear hm hz2 hx hkb hszb hlb hmv
    unfold fnV at c0
    have eg := hF.1
    gi_wp2_with fail
    refine heldG_round (fun w' => w'.cell? ⟨w.heap.size + 1, 0, none⟩ = some v ∧ w'.cell? ⟨w.heap.size, 0, none⟩ = some (.func (.func f) #[.pointer (some ⟨R, 0, none⟩)] #[])) (fun j => j == 5) (by kernel_rfl) (fun ⟨_, _, h⟩ => h) (by kernel_rfl) ?_
    refine wpAnyG_take (i := 0) (v := v) rfl (by kernel_rfl) (by kernel_rfl) (by kernel_rfl) (by kernel_rfl) rfl (fun _ _ _ h => h) (Or.inl ⟨by rfl, ?y0⟩) ⟨c1, c0⟩ ?_
    case y0 => intro w' hS; obtain ⟨hS1, hS2⟩ := hS; go_simp
    simp only [Act.put, List.setIfInBounds_toArray, List.set_cons_zero, List.set_cons_succ]
    refine wpAnyG_take (i := 1) (v := .func (.func f) #[.pointer (some ⟨R, 0, none⟩)] #[]) rfl (by kernel_rfl) (by kernel_rfl) (by kernel_rfl) (by kernel_rfl) rfl (fun _ _ _ h => h) (Or.inl ⟨by rfl, ?y1⟩) ⟨c1, c0⟩ ?_
    case y1 => intro w' hS; obtain ⟨hS1, hS2⟩ := hS; go_simp
    simp only [Act.put, List.setIfInBounds_toArray, List.set_cons_zero, List.set_cons_succ]
    refine wpAnyG_ready (rs := [2]) (by kernel_rfl) (by simp) ?_
    refine AllReadyG.cons rfl (fun K hK => ?_) AllReadyG.nil
    go_simp
    have hle2 : z2.l.length ≤ 1000000 := by
      have := (Hpre2.out.1 hbad).2; omega
    refine (hF.2.2 z2 Wb.drew (hz3.upd_ ((Below.refl _ Wb).drew)) hle2).mono ?_
    rintro e w3 ⟨u, rfl, hur, h3, hu3⟩
    have hu3' : Upd R Wb w3 := (Upd.refl R Wb).drew.trans hu3
    have n2 := m2.upd hu3' (by omega)
    have n3 := m3.upd hu3' (by omega)
    have n4 := own_upd m4 hu3' (by omega)
    have n5 : rdsL R w3 vs acc := m5.keep (keep_rd hz3 (by decide) hu3')
    have hz3s : Wb.heap.size ≤ w3.heap.size := hu3'.size
    have hR3 := h3.lt
    refine hK.out _ _ (fun _ => ⟨n3.cell (j := 0) rfl, n2.cell (j := 0) rfl⟩) ?_
    clear hK K
    have Hur := Lib.hid hur
    obtain ⟨ua, un, uc, rfl⟩ : ∃ a n c, u = .slice a n c := by rcases hur with ⟨rfl, _⟩ | ⟨g, off, cap, cs, fz, rfl, _⟩ <;> exact ⟨_, _, _, rfl⟩
    clear hur
    have q2 := n2.alloc (.cells #[.slice ua un uc] 39)
    have q3 := n3.alloc (.cells #[.slice ua un uc] 39)
    have q4 := n4.alloc (.cells #[.slice ua un uc] 39)
    refine wpAnyG_ready (rs := [3]) (by kernel_rfl) (by simp) ?_
    refine AllReadyG.cons rfl (fun K hK => ?_) AllReadyG.nil
    go_simp
    refine hK.out _ _ (fun _ => ⟨q3.cell (j := 0) rfl, q2.cell (j := 0) rfl⟩) ?_
    clear hK K
    obtain ⟨hN1, hmid⟩ := Wk.pre_round _ _ _ _ Hpre2.out hbad (hF.2.1 _)
    refine wpAnyG_ready (rs := [4]) (by kernel_rfl) (by simp) ?_
    refine AllReadyG.cons rfl (fun K hK => ?_) AllReadyG.nil
    refine step_append2 _ (by rfl) _ _ 30 rfl w2.heap.size 39 (.slice none 0 0) 1 24 Tryz.underlying30 info_list rfl (by decide) v acc.length _ rfl q4 _ _ 1 [.slice ua un uc] rfl (reads_new _ _ _ 1 1 (by decide) (by decide)) rfl (by simp [Value.oneCell']) (by unfold maxLen; omega) (by omega) (by simp; omega) ?_
    intro v' w4 hown hgrow hmov
    have k2 := q2.appended q4 (by omega) hgrow
    have k3 := q3.appended q4 (by omega) hgrow
    have e1 : w4.cell? ⟨w.heap.size + 1, 0, none⟩ = some v := k3.cell (j := 0) rfl
    have g1 : w4.frozen? ⟨w.heap.size + 1, 0, none⟩ = false := k3.frozen 0
    have kp : KeepT 77 w3 w4 := (KeepT.alloc _).trans (KeepT.grown q4 (by decide) hgrow)
    refine hK.out _ _ (fun _ => ⟨e1, k2.cell (j := 0) rfl⟩) ?_
    clear hK K
    obtain ⟨a', cap', rfl⟩ := own_form hown
    refine wpAnyG_ready (rs := [5]) (by kernel_rfl) (by simp) ?_
    refine AllReadyG.cons rfl (fun K hK => ?_) AllReadyG.nil
    go_simp
    refine hK.out _ _ (fun h => by cases h) ?_
    clear hK K
    refine wpAnyG_done (by kernel_rfl) ?_ _
    have hrow : ∀ g, v.ownBlock = some g → w2.heap.size ≤ g := fun g e => (m4.lt g e).1
    have Hmid := Lib.hid hmid
    clear hmid
    refine ⟨Eff.setCell (Eff.grown ((eff_upd hz3 hu3' (fun e => by omega) (fun k hk => by omega)).alloc (fun k hk => by omega) _) hgrow (fun k hk => by simp; omega) (fun g e hk => by have := hrow g e; omega) (fun g o e ho => own_cells q4 e ho)) _ (by show ¬ (w.heap.size + 1 = w1.heap.size); omega) _, _, hF.2.1 _, ((h3.alloc_ _).grown hgrow (fun g e => by have := hrow g e; omega)).set_new _ (by show R < w.heap.size + 1; omega) _, _, _, Hmid.out, ?_, ?_, .slice a' (acc.length + 1) cap', vs ++ [.slice ua un uc], k3.set 0 _, ?_, ?_⟩
    · exact (((m1.trans hu3').alloc _).grown hgrow (fun g e => by have := hrow g e; omega)).setNew ⟨w.heap.size + 1, 0, none⟩ (Nat.le_succ _) _
    · exact k2.other _ (by show w.heap.size ≠ w.heap.size + 1; omega) _
    · have := own_other hown ⟨w.heap.size + 1, 0, none⟩ (by show w.heap.size + 1 < _; omega) (.slice a' (acc.length + 1) cap')
      simpa using this
    · exact ((n5.append (ls := acc) (us := [.slice ua un uc]) (ms := [(F z2).2]) ⟨RdP.of Hur.out h3, trivial⟩).keep kp).keep (KeepT.set ⟨w.heap.size + 1, 0, none⟩ k3 (by decide) _)
end Go.Proofs.YtfbdkjonjpanfaaGreatDoor
