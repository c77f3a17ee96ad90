import Derived.Test.YtegkdkilbnighaaRfH
set_option linter.unusedVariables false
set_option linter.unusedSimpArgs false
namespace Go.Proofs.Ytegkdkilbnighaa
open Go.RowKit Go.Rg
attribute [local go_sem] Oper.semAt_some

theorem own_keepset {w : World} {base e n g cap : Nat} {xs : List Value} {T : TypeId} (h : w.ownsRow base e 1 (.slice (some ⟨g, 0, none⟩) (n + 1) cap) (n + 1) xs) (hT : e ≠ T) (j : Nat) (v : Value) : KeepT T w (w.setCell ⟨g, j, none⟩ v) := fun q cs fz hx => by
  rcases h.2 with ⟨h, _⟩ | ⟨g', cap', cur, hv, _, hg, _⟩
  · cases h
  · cases hv
    have hq : q ≠ g := by rintro rfl; rw [hg] at hx; cases hx; exact hT rfl
    exact (Below.heap_setCell w ⟨g, j, none⟩ v q hq).trans hx

set_option maxRecDepth 100000 in
set_option maxHeartbeats 8000000 in
theorem step4_any (lev kd : Nat) (t : ByteArray) (hlev : lev ≤ 1000000) (ht : t.size ≤ 100000) (ov : Value) (o : List Wk.RGeo) (g : Wk.RGeo) (pv cv sv : Value) (w : World) (h : RdZ w ov o g pv cv sv) (ho : o.length ≤ 1000000) (hpn : g.pairs.length ≤ 1000000) (hcn : g.counts.length ≤ 1000000) (hk : g.kind ≤ 6) (l : List Nat) (m : Nat) (hlm : g.counts = l ++ [m]) (hm : m ≤ 1000000) :
    Calls Try.prog 24 #[.agg #[.int .i64 4, .int .i64 (lev : Int), ov], .int .i64 (kd : Int), .string t] w fun e w' => StepR w' e (Wk.step ⟨4, lev, o ++ [g]⟩ kd t.data.toList) ∧ Below w.heap.size w w' := by
  have hS : ∀ (b l : Nat) w', Below w.heap.size w w' → RdS w' (.agg #[.int .i64 (b : Int), .int .i64 (l : Int), ov]) ⟨b, l, o ++ [g]⟩ := fun b l w' hb => .of (h.call hb)
  have HS := Lib.hid hS
  have Hh := Lib.hid h
  obtain ⟨ova, ovn, ovc, rfl⟩ := h.form
  have hg' := h.choose_spec.2.2
  obtain ⟨pa, pc, rfl⟩ := pair_form (R := 0) hg'.1
  obtain ⟨ca, cc, rfl⟩ := pair_form (R := 0) hg'.2.1
  obtain ⟨sa, sc, rfl⟩ := pair_form (R := 0) hg'.2.2
  have Hg : Hid (RdR w (.slice pa g.pairs.length pc) (.slice ca g.counts.length cc) (.slice sa g.size.length sc) g) := hg'
  clear h hS hg'
  have hl : Wk.last ⟨4, lev, o ++ [g]⟩ = g := by unfold Wk.last; simp
  have hr0 : Wk.step ⟨4, lev, o ++ [g]⟩ kd t.data.toList = if kd ≠ 2 then none else some ⟨if Wk.deeper g.kind = 1 ∨ Wk.deeper g.kind = 4 then 12 else 5, lev, o ++ [(⟨g.kind, g.level, g.pairs ++ [t.data.toList], l ++ [m + 1], g.size⟩ : Wk.RGeo)]⟩ := by
    unfold Wk.step; rw [hl]; simp [Wk.setLast, hlm, Wk.bump]
  obtain ⟨r, hr⟩ : ∃ r, r = Wk.step ⟨4, lev, o ++ [g]⟩ kd t.data.toList := ⟨_, rfl⟩
  rw [hr0] at hr
  rw [hr0, ← hr]
  have Hlm := Lib.hid hlm
  have Hcl : Hid (g.counts.length = l.length + 1) := by unfold Hid; rw [hlm]; simp
  have hll : Hid ((l ++ [m]).length = l.length + 1) := by unfold Hid; simp
  have hn4 : l.length + 1 ≤ 1000000 := by have := Hcl.out; omega
  clear hr0 hl hlm
  by_cases h2 : kd ≠ 2
  · rw [if_pos h2] at hr
    have Hr := Lib.hid hr
    have e2 : ((kd : Int) != 2) = true := by simp; omega
    clear hr h2
    go_enter Try.func24, Try.ntmps24
    go_wp2_with fail
    refine bodyPost_ret (v := .tuple #[.agg #[.int .i64 4, .int .i64 (lev : Int), .slice ova ovn ovc], .bool false]) (by simp [results, Try.results24, go_sem, *]) rfl ⟨⟨_, _, _, _, _, _, rfl, ?_⟩, below2 _ _ _⟩
    rw [Hr.out]
  obtain rfl : kd = 2 := by omega
  rw [if_neg h2] at hr
  have Hr := Lib.hid hr
  clear hr h2
  go_enter Try.func24, Try.ntmps24
  go_wp2_with fail
  obtain ⟨W0, hW0, B0, B1, hBel, hz0⟩ := st_blk w (.int .i64 4) (.int .i64 (lev : Int)) (.slice ova ovn ovc)
  rw [hW0]
  refine (last_any 4 lev (.slice ova ovn ovc) o g _ _ _ W0 (Hh.out.call hBel) ho).mono ?_
  rintro e w1 ⟨rfl, hb1⟩
  have j0 := B0.call hb1
  have j1 := B1.call hb1
  have hbw1 := hBel.trans (hb1.mono hBel.size)
  have hz1 : w.heap.size + 2 ≤ w1.heap.size := Nat.le_trans hz0 hb1.size
  unfold rgV
  clear hb1 hBel hW0 B0 B1
  have hb2 : Below w.heap.size w (w1.alloc (.cells #[.int .i64 (g.kind : Int), .int .i64 (g.level : Int), .slice pa g.pairs.length pc, .slice ca g.counts.length cc, .slice sa g.size.length sc] 78)) := hbw1.alloc hbw1.size _
  have B2 := Blk.new w1 [.int .i64 (g.kind : Int), .int .i64 (g.level : Int), .slice pa g.pairs.length pc, .slice ca g.counts.length cc, .slice sa g.size.length sc] 78
  have k0 := j0.alloc (.cells #[.int .i64 (g.kind : Int), .int .i64 (g.level : Int), .slice pa g.pairs.length pc, .slice ca g.counts.length cc, .slice sa g.size.length sc] 78)
  have k1 := j1.alloc (.cells #[.int .i64 (g.kind : Int), .int .i64 (g.level : Int), .slice pa g.pairs.length pc, .slice ca g.counts.length cc, .slice sa g.size.length sc] 78)
  obtain ⟨W2, hW2⟩ : ∃ W2, w1.alloc (.cells #[.int .i64 (g.kind : Int), .int .i64 (g.level : Int), .slice pa g.pairs.length pc, .slice ca g.counts.length cc, .slice sa g.size.length sc] 78) = W2 := ⟨_, rfl⟩
  have hz2 : W2.heap.size = w1.heap.size + 1 := by rw [← hW2]; simp
  rw [hW2] at hb2 B2 k0 k1
  have hz2' : w1.heap.size + 1 ≤ W2.heap.size := by omega
  clear j0 j1 hbw1 hz2
  have O1 := Lib.hid (own_empty (W := W2) 9 1 W2.heap.size (Nat.le_refl _))
  have q0 := k0.alloc (.cells #[] 9)
  have q1 := k1.alloc (.cells #[] 9)
  have q2 := B2.alloc (.cells #[] 9)
  have hz3 : W2.heap.size ≤ (W2.alloc (.cells #[] 9)).heap.size := by simp
  have hb3 : Below w.heap.size w (W2.alloc (.cells #[] 9)) := hb2.alloc (by omega) _
  have HRp := Lib.hid ((Hg.out.call hb3).1.reads)
  have c2 := q2.cell (j := 2) rfl
  clear k0 k1 B2 hb2
  go_wp2_with (at_builtin; refine wpList_append2 _ rfl _ _ 76 rfl W2.heap.size 9 (.string ⟨#[]⟩) 1 16 Try.underlying76 info_str rfl (by decide) (.slice (some ⟨W2.heap.size, 0, none⟩) 0 0) 0 _ rfl O1.out _ _ g.pairs.length (strs g.pairs) rfl HRp.out (by simp [strs]) (strs_one _) (by unfold maxLen; omega) (by omega) hz3 ?_)
  intro v1 w3 own1 grow1 mov1
  have r0 := q0.appended O1.out (by omega) grow1
  have r1 := q1.appended O1.out (by omega) grow1
  have r2 := q2.appended O1.out (by omega) grow1
  have hb4 : Below w.heap.size w w3 := hb3.grown grow1 hb3.size (fun k e => by have e' : some W2.heap.size = some k := e; injection e' with e''; omega)
  have hz4 : W2.heap.size ≤ w3.heap.size := Nat.le_trans hz3 grow1.size
  have own2 := Lib.hid (own_call own1 ((Below.refl _ w3).alloc (Nat.le_refl _) (.cells #[.string t] 9)))
  have s0 := r0.alloc (.cells #[.string t] 9)
  have s1 := r1.alloc (.cells #[.string t] 9)
  have s2 := r2.alloc (.cells #[.string t] 9)
  have hb5 : Below w.heap.size w (w3.alloc (.cells #[.string t] 9)) := hb4.alloc hb4.size _
  have hz5 : W2.heap.size ≤ (w3.alloc (.cells #[.string t] 9)).heap.size := by simp; omega
  clear own1 grow1 mov1 r0 r1 r2 hb4 O1 q0 q1 q2 c2 hb3 HRp
  go_wp2_with (at_builtin; refine wpList_append2 _ rfl _ _ 76 rfl W2.heap.size 9 (.string ⟨#[]⟩) 1 16 Try.underlying76 info_str rfl (by decide) v1 g.pairs.length _ rfl own2.out _ _ 1 [.string t] rfl (reads_new _ _ _ 1 1 (by decide) (by decide)) rfl (by simp [Value.oneCell']) (by unfold maxLen; omega) (by omega) hz5 ?_)
  intro v2 w4 own3 grow2 mov2
  obtain ⟨a2, c2, rfl⟩ := own_form own3
  have l0 := s0.appended own2.out (by omega) grow2
  have l1 := s1.appended own2.out (by omega) grow2
  have l2 := s2.appended own2.out (by omega) grow2
  have hb6 : Below w.heap.size w w4 := hb5.grown grow2 hb5.size (fun k e => by have := (own2.out.lt k e).1; omega)
  have hz6 : W2.heap.size ≤ w4.heap.size := Nat.le_trans hz5 grow2.size
  have Own3 := Lib.hid own3
  clear own3 grow2 mov2 own2 s0 s1 s2 hb5
  rw [Hcl.out] at l2
  have u0 := l0.other ⟨w1.heap.size, 2, none⟩ (by show w.heap.size ≠ w1.heap.size; omega) (.slice a2 (g.pairs.length + 1) c2)
  have u1 := l1.other ⟨w1.heap.size, 2, none⟩ (by show w.heap.size + 1 ≠ w1.heap.size; omega) (.slice a2 (g.pairs.length + 1) c2)
  have u2 : Blk (w4.setCell ⟨w1.heap.size, 2, none⟩ (.slice a2 (g.pairs.length + 1) c2)) w1.heap.size [.int .i64 (g.kind : Int), .int .i64 (g.level : Int), .slice a2 (g.pairs.length + 1) c2, .slice ca (l.length + 1) cc, .slice sa g.size.length sc] 78 := l2.set 2 (.slice a2 (g.pairs.length + 1) c2)
  have hbX1 := hb6.setCell (p := ⟨w1.heap.size, 2, none⟩) (by show w.heap.size ≤ w1.heap.size; omega) (.slice a2 (g.pairs.length + 1) c2)
  have hRp : RdT 9 (w4.setCell ⟨w1.heap.size, 2, none⟩ (.slice a2 (g.pairs.length + 1) c2)) (.slice a2 (g.pairs.length + 1) c2) (g.pairs.length + 1) (strs (g.pairs ++ [t.data.toList])) := by
    have := (RdT.of_own Own3.out).keep (KeepT.set (T := 9) ⟨w1.heap.size, 2, none⟩ l2 (by decide) (.slice a2 (g.pairs.length + 1) c2))
    simpa [strs, Lib.mk_data] using this
  have hsz : (w4.setCell ⟨w1.heap.size, 2, none⟩ (.slice a2 (g.pairs.length + 1) c2)).heap.size = w4.heap.size := by simp [World.setCell]
  have o1 := own_empty (W := (w4.setCell ⟨w1.heap.size, 2, none⟩ (.slice a2 (g.pairs.length + 1) c2))) 3 1 w4.heap.size (by rw [hsz]; exact Nat.le_refl _)
  rw [hsz] at o1
  have O1 := Lib.hid o1
  have q0 := u0.alloc (.cells #[] 3)
  have q1 := u1.alloc (.cells #[] 3)
  have q2 := u2.alloc (.cells #[] 3)
  have hz7 : w4.heap.size ≤ ((w4.setCell ⟨w1.heap.size, 2, none⟩ (.slice a2 (g.pairs.length + 1) c2)).alloc (.cells #[] 3)).heap.size := by simp
  have hb7 : Below w.heap.size w ((w4.setCell ⟨w1.heap.size, 2, none⟩ (.slice a2 (g.pairs.length + 1) c2)).alloc (.cells #[] 3)) := hbX1.alloc hbX1.size _
  have hRp7 := hRp.keep (KeepT.alloc (.cells #[] 3))
  have hrc := (Hg.out.call hb7).2.1
  rw [Hlm.out, hll.out] at hrc
  have HRc := Lib.hid hrc.reads
  have HRp7 := Lib.hid hRp7
  obtain ⟨a0, a1, a2'⟩ := cells3 l0
  obtain ⟨b0, b1, b2, b3, b4⟩ := cells5 l2
  obtain ⟨f0, f1, f2, f3, f4⟩ := frozen5 l2
  obtain ⟨c0', c1', c2', c3', c4'⟩ := cells5 q2
  clear u0 u1 u2 hbX1 hRp hRp7 hsz o1 hrc l0 l1 l2 hb6 Own3 hpn hcn
  go_wp2_with (at_builtin; refine wpList_append2 _ rfl _ _ 38 rfl w4.heap.size 3 (.int .i64 0) 1 8 Try.underlying38 info_int rfl (by decide) (.slice (some ⟨w4.heap.size, 0, none⟩) 0 0) 0 _ rfl O1.out _ _ (l.length + 1) (intsN (l ++ [m])) rfl HRc.out (by simp [intsN]) (intsN_one _) (by unfold maxLen; omega) (by omega) hz7 ?_)
  intro v3 w5 own4 grow4 mov4
  obtain ⟨gr, rc, rfl, hgr, hgl2, hrc2, hrm, fr, cr⟩ := own_cons (show w5.ownsRow w4.heap.size 3 1 v3 (l.length + 1) (intsN (l ++ [m])) by simpa using own4)
  have own5 : w5.ownsRow w4.heap.size 3 1 (.slice (some ⟨gr, 0, none⟩) (l.length + 1) rc) (l.length + 1) (intsN (l ++ [m])) := by simpa using own4
  have c5 := cr l.length (.int .i64 (m : Int)) (by simp [intsN])
  have f5 := fr l.length
  have p0 := q0.appended O1.out (by omega) grow4
  have p1 := q1.appended O1.out (by omega) grow4
  have p2 := q2.appended O1.out (by omega) grow4
  have hb8 : Below w.heap.size w w5 := hb7.grown grow4 hb7.size (fun k e => by have e' : some w4.heap.size = some k := e; injection e' with e''; omega)
  have hgrn : gr ≠ w.heap.size := by omega
  have hgrn1 : gr ≠ w.heap.size + 1 := by omega
  have hgrn2 : gr ≠ w1.heap.size := by omega
  have hRp8 := HRp7.out.keep (KeepT.grown O1.out (by decide) grow4)
  have kpa : ∀ T, 78 ≠ T → KeepT T w5 (w5.setCell ⟨w1.heap.size, 3, none⟩ (.slice (some ⟨gr, 0, none⟩) (l.length + 1) rc)) := fun T hT => KeepT.set ⟨w1.heap.size, 3, none⟩ p2 hT _
  have own6 := own_other own5 ⟨w1.heap.size, 3, none⟩ (by show w1.heap.size < w4.heap.size; omega) (.slice (some ⟨gr, 0, none⟩) (l.length + 1) rc)
  have kpb : ∀ T, 3 ≠ T → KeepT T (w5.setCell ⟨w1.heap.size, 3, none⟩ (.slice (some ⟨gr, 0, none⟩) (l.length + 1) rc)) ((w5.setCell ⟨w1.heap.size, 3, none⟩ (.slice (some ⟨gr, 0, none⟩) (l.length + 1) rc)).setCell ⟨gr, l.length, none⟩ (.int .i64 ((m : Int) + 1))) := fun T hT => own_keepset own6 hT l.length (.int .i64 ((m : Int) + 1))
  have hbX : Below w.heap.size w ((w5.setCell ⟨w1.heap.size, 3, none⟩ (.slice (some ⟨gr, 0, none⟩) (l.length + 1) rc)).setCell ⟨gr, l.length, none⟩ (.int .i64 ((m : Int) + 1))) := (hb8.setCell (p := ⟨w1.heap.size, 3, none⟩) (by show w.heap.size ≤ w1.heap.size; omega) (.slice (some ⟨gr, 0, none⟩) (l.length + 1) rc)).setCell (p := ⟨gr, l.length, none⟩) (by show w.heap.size ≤ gr; omega) (.int .i64 ((m : Int) + 1))
  have z0 := (p0.other ⟨w1.heap.size, 3, none⟩ (by show w.heap.size ≠ w1.heap.size; omega) (.slice (some ⟨gr, 0, none⟩) (l.length + 1) rc)).other ⟨gr, l.length, none⟩ (by show w.heap.size ≠ gr; omega) (.int .i64 ((m : Int) + 1))
  have z1 := (p1.other ⟨w1.heap.size, 3, none⟩ (by show w.heap.size + 1 ≠ w1.heap.size; omega) (.slice (some ⟨gr, 0, none⟩) (l.length + 1) rc)).other ⟨gr, l.length, none⟩ (by show w.heap.size + 1 ≠ gr; omega) (.int .i64 ((m : Int) + 1))
  have z2 : Blk ((w5.setCell ⟨w1.heap.size, 3, none⟩ (.slice (some ⟨gr, 0, none⟩) (l.length + 1) rc)).setCell ⟨gr, l.length, none⟩ (.int .i64 ((m : Int) + 1))) w1.heap.size [.int .i64 (g.kind : Int), .int .i64 (g.level : Int), .slice a2 (g.pairs.length + 1) c2, .slice (some ⟨gr, 0, none⟩) (l.length + 1) rc, .slice sa g.size.length sc] 78 := (p2.set 3 (.slice (some ⟨gr, 0, none⟩) (l.length + 1) rc)).other ⟨gr, l.length, none⟩ (by show w1.heap.size ≠ gr; omega) (.int .i64 ((m : Int) + 1))
  have hRX : RdR ((w5.setCell ⟨w1.heap.size, 3, none⟩ (.slice (some ⟨gr, 0, none⟩) (l.length + 1) rc)).setCell ⟨gr, l.length, none⟩ (.int .i64 ((m : Int) + 1))) (.slice a2 (g.pairs.length + 1) c2) (.slice (some ⟨gr, 0, none⟩) (l.length + 1) rc) (.slice sa g.size.length sc) (⟨g.kind, g.level, g.pairs ++ [t.data.toList], l ++ [m + 1], g.size⟩ : Wk.RGeo) := by
    refine ⟨?_, ?_, (Hg.out.call hbX).2.2⟩
    · have := (hRp8.keep (kpa _ (by decide))).keep (kpb _ (by decide))
      simpa using this
    · have := RdT.of_own (own_set own6 l.length (.int .i64 ((m : Int) + 1)))
      simpa [intsN] using this
  obtain ⟨a0, a1, a2'⟩ := cells3 p0
  obtain ⟨b0, b1, b2, b3, b4⟩ := cells5 p2
  obtain ⟨f0, f1, f2, f3, f4⟩ := frozen5 p2
  have Z0 := Lib.hid z0
  have Z1 := Lib.hid z1
  have Z2 := Lib.hid z2
  have HbX := Lib.hid hbX
  have HRX := Lib.hid hRX
  have hsX : w4.heap.size ≤ ((w5.setCell ⟨w1.heap.size, 3, none⟩ (.slice (some ⟨gr, 0, none⟩) (l.length + 1) rc)).setCell ⟨gr, l.length, none⟩ (.int .i64 ((m : Int) + 1))).heap.size := by have := grow4.size; simp [World.setCell] at this ⊢; omega
  unfold maxLen at hrm
  clear own4 grow4 mov4 q0 q1 q2 hb7 p0 p1 p2 hb8 hRp8 kpa own5 own6 kpb hbX z0 z1 z2 hRX fr cr O1 HRc HRp7 c0' c1' c2' c3' c4'
  go_wp2_with fail
  obtain ⟨XX, hXX⟩ : ∃ XX, ((w5.setCell ⟨w1.heap.size, 3, none⟩ (.slice (some ⟨gr, 0, none⟩) (l.length + 1) rc)).setCell ⟨gr, l.length, none⟩ (.int .i64 ((m : Int) + 1))) = XX := ⟨_, rfl⟩
  rw [hXX] at Z0 Z1 Z2 HbX HRX hsX ⊢
  clear hXX a0 a1 a2' b0 b1 b2 b3 b4 f0 f1 f2 f3 f4 c5 f5
  refine (deeper_any g.kind hk _).mono ?_
  rintro e w6 ⟨rfl, hb9⟩
  obtain ⟨d, hd⟩ : ∃ d, d = Wk.deeper g.kind := ⟨_, rfl⟩
  rw [← hd]
  rw [← hd] at Hr
  have Hd := Lib.hid hd
  have z0 := Z0.out.call hb9
  have z1 := Z1.out.call hb9
  have z2 := Z2.out.call hb9
  have HbX6 := Lib.hid (HbX.out.trans (hb9.mono HbX.out.size))
  have HRX6 := Lib.hid (HRX.out.call hb9)
  obtain ⟨a0, a1, a2'⟩ := cells3 z0
  obtain ⟨b0, b1, b2, b3, b4⟩ := cells5 z2
  clear hb9 hd Z0 Z1 Z2 HbX HRX
  have N1 := Lib.hid z1
  have hz16 : w1.heap.size < w6.heap.size := z2.lt
  clear z1
  by_cases d1 : d = 1
  · subst d1
    rw [if_pos (by omega)] at Hr
    have HbX := HbX6
    have HRX := HRX6
    clear z0 z2
    go_wp2_with fail
    refine (with_any _ 12 lev (.slice ova ovn ovc) o g (⟨g.kind, g.level, g.pairs ++ [t.data.toList], l ++ [m + 1], g.size⟩ : Wk.RGeo) _ _ _ (.slice a2 (g.pairs.length + 1) c2) (.slice (some ⟨gr, 0, none⟩) (l.length + 1) rc) (.slice sa g.size.length sc) _ (Hh.out.call HbX.out) HRX.out ho).mono ?_
    rintro e wz ⟨ov', rfl, hZ, hbz⟩
    obtain ⟨ox, oy, oz, rfl⟩ := hZ.form
    have n6 := N1.out.call hbz
    have hbw6 := HbX.out.trans (hbz.mono HbX.out.size)
    obtain ⟨y0, y1, y2⟩ := cells3 n6
    obtain ⟨f0, f1, f2, _, _⟩ := frozen5 n6
    have N6 := Lib.hid n6
    have HZ := Lib.hid hZ
    have Hbw6 := Lib.hid hbw6
    clear hZ hbz hbw6 n6
    go_wp2_with fail
    obtain ⟨kp, _, _⟩ := three N6.out (.int .i64 12) (.int .i64 (lev : Int)) (.slice ox oy oz)
    have hbf := below3 (b := w.heap.size + 1) Hbw6.out (Nat.le_succ _) (.int .i64 12) (.int .i64 (lev : Int)) (.slice ox oy oz)
    refine bodyPost_ret (v := .tuple #[.agg #[.int .i64 12, .int .i64 (lev : Int), .slice ox oy oz], .bool true]) (by simp [results, Try.results24, go_sem, *]) rfl ⟨⟨_, _, _, _, _, _, rfl, ?_⟩, hbf⟩
    rw [Hr.out]
    exact ⟨rfl, (RdS.of (a := 12) HZ.out).keep (kp _ (by decide)) (kp _ (by decide)) (kp _ (by decide))⟩
  · have e1 : ((d : Int) == 1) = false := by simp; omega
    go_wp2_with fail
    refine (deeper_any g.kind hk _).mono ?_
    rintro e w7 ⟨rfl, hb10⟩
    rw [← Hd.out]
    have y0 := z0.call hb10
    have y2 := z2.call hb10
    have N1' := Lib.hid (N1.out.call hb10)
    have HbX := Lib.hid (HbX6.out.trans (hb10.mono HbX6.out.size))
    have HRX := Lib.hid (HRX6.out.call hb10)
    obtain ⟨a0, a1, a2'⟩ := cells3 y0
    obtain ⟨b0, b1, b2, b3, b4⟩ := cells5 y2
    clear hb10 z0 z2 y0 y2 N1 HbX6 HRX6
    have N1 := N1'
    clear N1'
    cases e4 : ((d : Int) == 4) with
    | true =>
      have d4 : d = 4 := by have := eq_of_beq e4; omega
      rw [if_pos (.inr d4)] at Hr
      clear d4 d1
      go_wp2_with fail
      refine (with_any _ 12 lev (.slice ova ovn ovc) o g (⟨g.kind, g.level, g.pairs ++ [t.data.toList], l ++ [m + 1], g.size⟩ : Wk.RGeo) _ _ _ (.slice a2 (g.pairs.length + 1) c2) (.slice (some ⟨gr, 0, none⟩) (l.length + 1) rc) (.slice sa g.size.length sc) _ (Hh.out.call HbX.out) HRX.out ho).mono ?_
      rintro e wz ⟨ov', rfl, hZ, hbz⟩
      obtain ⟨ox, oy, oz, rfl⟩ := hZ.form
      have n6 := N1.out.call hbz
      have hbw6 := HbX.out.trans (hbz.mono HbX.out.size)
      obtain ⟨y0, y1, y2⟩ := cells3 n6
      obtain ⟨f0, f1, f2, _, _⟩ := frozen5 n6
      have N6 := Lib.hid n6
      have HZ := Lib.hid hZ
      have Hbw6 := Lib.hid hbw6
      clear hZ hbz hbw6 n6
      go_wp2_with fail
      obtain ⟨kp, _, _⟩ := three N6.out (.int .i64 12) (.int .i64 (lev : Int)) (.slice ox oy oz)
      have hbf := below3 (b := w.heap.size + 1) Hbw6.out (Nat.le_succ _) (.int .i64 12) (.int .i64 (lev : Int)) (.slice ox oy oz)
      refine bodyPost_ret (v := .tuple #[.agg #[.int .i64 12, .int .i64 (lev : Int), .slice ox oy oz], .bool true]) (by simp [results, Try.results24, go_sem, *]) rfl ⟨⟨_, _, _, _, _, _, rfl, ?_⟩, hbf⟩
      rw [Hr.out]
      exact ⟨rfl, (RdS.of (a := 12) HZ.out).keep (kp _ (by decide)) (kp _ (by decide)) (kp _ (by decide))⟩
    | false =>
      have d4 : ¬ d = 4 := by have := ne_of_beq_false e4; omega
      rw [if_neg (by omega)] at Hr
      clear d4 d1
      go_wp2_with fail
      refine (with_any _ 5 lev (.slice ova ovn ovc) o g (⟨g.kind, g.level, g.pairs ++ [t.data.toList], l ++ [m + 1], g.size⟩ : Wk.RGeo) _ _ _ (.slice a2 (g.pairs.length + 1) c2) (.slice (some ⟨gr, 0, none⟩) (l.length + 1) rc) (.slice sa g.size.length sc) _ (Hh.out.call HbX.out) HRX.out ho).mono ?_
      rintro e wz ⟨ov', rfl, hZ, hbz⟩
      obtain ⟨ox, oy, oz, rfl⟩ := hZ.form
      have n6 := N1.out.call hbz
      have hbw6 := HbX.out.trans (hbz.mono HbX.out.size)
      obtain ⟨y0, y1, y2⟩ := cells3 n6
      obtain ⟨f0, f1, f2, _, _⟩ := frozen5 n6
      have N6 := Lib.hid n6
      have HZ := Lib.hid hZ
      have Hbw6 := Lib.hid hbw6
      clear hZ hbz hbw6 n6
      go_wp2_with fail
      obtain ⟨kp, _, _⟩ := three N6.out (.int .i64 5) (.int .i64 (lev : Int)) (.slice ox oy oz)
      have hbf := below3 (b := w.heap.size + 1) Hbw6.out (Nat.le_succ _) (.int .i64 5) (.int .i64 (lev : Int)) (.slice ox oy oz)
      refine bodyPost_ret (v := .tuple #[.agg #[.int .i64 5, .int .i64 (lev : Int), .slice ox oy oz], .bool true]) (by simp [results, Try.results24, go_sem, *]) rfl ⟨⟨_, _, _, _, _, _, rfl, ?_⟩, hbf⟩
      rw [Hr.out]
      exact ⟨rfl, (RdS.of (a := 5) HZ.out).keep (kp _ (by decide)) (kp _ (by decide)) (kp _ (by decide))⟩
end Go.Proofs.Ytegkdkilbnighaa
