import Derived.Test.YtegkdkilbnighaaRfI
set_option linter.unusedVariables false
set_option linter.unusedSimpArgs false
namespace Go.Proofs.Ytegkdkilbnighaa
open Go.RowKit Go.Rg
attribute [local go_sem] Oper.semAt_some

set_option maxRecDepth 100000 in
set_option maxHeartbeats 8000000 in
theorem step11_any (lev kd : Nat) (t : ByteArray) (hlev : lev ≤ 1000000) (ht : t.size ≤ 100000) (ov : Value) (o : List Wk.RGeo) (g : Wk.RGeo) (pv cv sv : Value) (w : World) (h : RdZ w ov o g pv cv sv) (ho : o.length ≤ 1000000) (hk : g.kind ≤ 6) (hcn : g.counts.length ≤ 1000000) (hsn : g.size.length ≤ 1000000) (hse : Wk.deeper g.kind = 5 → g.size ≠ []) (hsv : ∀ n ∈ g.size, n ≤ 1000000) :
    Calls Try.prog 24 #[.agg #[.int .i64 11, .int .i64 (lev : Int), ov], .int .i64 (kd : Int), .string t] w fun e w' => StepR w' e (Wk.step ⟨11, lev, o ++ [g]⟩ kd t.data.toList) ∧ Below w.heap.size w w' := by
  have hS : ∀ (b l : Nat) w', Below w.heap.size w w' → RdS w' (.agg #[.int .i64 (b : Int), .int .i64 (l : Int), ov]) ⟨b, l, o ++ [g]⟩ := fun b l w' hb => .of (h.call hb)
  have HS := Lib.hid hS
  have Hh := Lib.hid h
  obtain ⟨ova, ovn, ovc, rfl⟩ := h.form
  have hg' := h.choose_spec.2.2
  obtain ⟨pa, pc, rfl⟩ := pair_form (R := 0) hg'.1
  obtain ⟨ca, cc, rfl⟩ := pair_form (R := 0) hg'.2.1
  obtain ⟨sa, sc, rfl⟩ := pair_form (R := 0) hg'.2.2
  have Hg : Hid (RdR w (.slice pa g.pairs.length pc) (.slice ca g.counts.length cc) (.slice sa g.size.length sc) g) := hg'
  clear h hS hg'
  have hl : Wk.last ⟨11, lev, o ++ [g]⟩ = g := by unfold Wk.last; simp
  have hr0 : Wk.step ⟨11, lev, o ++ [g]⟩ kd t.data.toList = if Wk.isEmpty kd t.data.toList then some ⟨7, lev, o ++ [(Wk.counted (Wk.more g))]⟩ else if kd = 3 then some ⟨3, lev, o ++ [(Wk.counted (Wk.more g))]⟩ else none := by
    unfold Wk.step; rw [hl]; simp [Wk.setLast]
  obtain ⟨r, hr⟩ : ∃ r, r = Wk.step ⟨11, lev, o ++ [g]⟩ kd t.data.toList := ⟨_, rfl⟩
  rw [hr0] at hr
  rw [hr0, ← hr]
  have Hr := Lib.hid hr
  clear hr0 hl hr
  go_enter Try.func24, Try.ntmps24
  obtain ⟨W0, hW0, B0, B1, hBel, hz0⟩ := st_blk w (.int .i64 11) (.int .i64 (lev : Int)) (.slice ova ovn ovc)
  obtain ⟨x0, x1, x2⟩ := cells3 B0
  obtain ⟨y0, y1, y2⟩ := cells3 B1
  obtain ⟨u0, u1, u2, _, _⟩ := frozen5 B1
  cases hkd : ((kd : Int) == 1) with
  | false =>
    have hem : Wk.isEmpty kd t.data.toList = false := by
      have := ne_of_beq_false hkd
      unfold Wk.isEmpty; rw [show (kd == 1) = false by simp; omega]; rfl
    rw [hem, if_neg (by simp)] at Hr
    have N1 := Lib.hid B1
    have HbX := Lib.hid hBel
    have hzX := hz0
    clear B0 B1 hBel
    go_wp2_with fail
    try rw [hW0]
    clear hW0
    have hHX := Lib.hid (Hh.out.call HbX.out)
    have hGX := Lib.hid (Hg.out.call HbX.out)
    have hsX : w.heap.size + 2 ≤ W0.heap.size := hzX
    clear HS
    go_region_held3 (fun w' => w'.cell? ⟨w.heap.size, 0, none⟩ = some (.int .i64 11) ∧ w'.cell? ⟨w.heap.size, 1, none⟩ = some (.int .i64 (lev : Int)) ∧ w'.cell? ⟨w.heap.size, 2, none⟩ = some (.slice ova ovn ovc))
      (first
        | exact ⟨keepc hba (by show w.heap.size < W0.heap.size; omega) x0, keepc hba (by show w.heap.size < W0.heap.size; omega) x1, keepc hba (by show w.heap.size < W0.heap.size; omega) x2⟩
        | exact ⟨keepc hbb (by omega) (keepc hba (by show w.heap.size < W0.heap.size; omega) x0), keepc hbb (by omega) (keepc hba (by show w.heap.size < W0.heap.size; omega) x1), keepc hbb (by omega) (keepc hba (by show w.heap.size < W0.heap.size; omega) x2)⟩
        | exact ⟨keepc hbc (by omega) (keepc hbb (by omega) (keepc hba (by show w.heap.size < W0.heap.size; omega) x0)), keepc hbc (by omega) (keepc hbb (by omega) (keepc hba (by show w.heap.size < W0.heap.size; omega) x1)), keepc hbc (by omega) (keepc hbb (by omega) (keepc hba (by show w.heap.size < W0.heap.size; omega) x2))⟩
        | exact ⟨keepc hbd (by omega) (keepc hbc (by omega) (keepc hbb (by omega) (keepc hba (by show w.heap.size < W0.heap.size; omega) x0))), keepc hbd (by omega) (keepc hbc (by omega) (keepc hbb (by omega) (keepc hba (by show w.heap.size < W0.heap.size; omega) x1))), keepc hbd (by omega) (keepc hbc (by omega) (keepc hbb (by omega) (keepc hba (by show w.heap.size < W0.heap.size; omega) x2)))⟩
        | exact ⟨keeps3 (by omega) (keepc hbd (by omega) (keepc hbc (by omega) (keepc hbb (by omega) (keepc hba (by show w.heap.size < W0.heap.size; omega) x0)))), keeps3 (by omega) (keepc hbd (by omega) (keepc hbc (by omega) (keepc hbb (by omega) (keepc hba (by show w.heap.size < W0.heap.size; omega) x1)))), keeps3 (by omega) (keepc hbd (by omega) (keepc hbc (by omega) (keepc hbb (by omega) (keepc hba (by show w.heap.size < W0.heap.size; omega) x2))))⟩
        | go_keep)
      ((first | (go_at_call 50; refine (last_any 11 lev (.slice ova ovn ovc) o g _ _ _ _ (hHX.out.call ((Below.refl _ W0).drew)) ho).mono ?_; rintro e wa ⟨rfl, hba⟩; have hsa : W0.heap.size ≤ wa.heap.size := hba.size) | (go_at_call 56; refine (more_any g _ _ _ _ ((hGX.out.call ((Below.refl _ W0).drew)).call hba) hcn).mono ?_; rintro e wb ⟨cv', rfl, hRb, hbb⟩; have hsb : wa.heap.size ≤ wb.heap.size := hbb.size) | (go_at_call 55; refine (counted_any (Wk.more g) hk _ _ _ _ hRb hsn hse hsv).mono ?_; rintro e wc ⟨sv', rfl, hRc, hbc⟩; have hsc : wb.heap.size ≤ wc.heap.size := hbc.size) | (go_at_call 52; refine (with_any 11 3 lev (.slice ova ovn ovc) o g (Wk.counted (Wk.more g)) _ _ _ _ _ _ _ ((((hHX.out.call ((Below.refl _ W0).drew)).call hba).call hbb).call hbc) hRc ho).mono ?_; rintro e wd ⟨ov', rfl, hZ, hbd⟩; obtain ⟨ox, oy, oz, rfl⟩ := hZ.form; have Y0 := keepc hbd (by omega) (keepc hbc (by omega) (keepc hbb (by omega) (keepc hba (by show w.heap.size + 1 < W0.heap.size; omega) y0))); have Y1 := keepc hbd (by omega) (keepc hbc (by omega) (keepc hbb (by omega) (keepc hba (by show w.heap.size + 1 < W0.heap.size; omega) y1))); have Y2 := keepc hbd (by omega) (keepc hbc (by omega) (keepc hbb (by omega) (keepc hba (by show w.heap.size + 1 < W0.heap.size; omega) y2))); have U0 := keepf hbd (by omega) (keepf hbc (by omega) (keepf hbb (by omega) (keepf hba (by show w.heap.size + 1 < W0.heap.size; omega) u0))); have U1 := keepf hbd (by omega) (keepf hbc (by omega) (keepf hbb (by omega) (keepf hba (by show w.heap.size + 1 < W0.heap.size; omega) u1))); have U2 := keepf hbd (by omega) (keepf hbc (by omega) (keepf hbb (by omega) (keepf hba (by show w.heap.size + 1 < W0.heap.size; omega) u2))))))
    have HZ := Lib.hid hZ
    have N6 := Lib.hid (((((show Blk W0.drew (w.heap.size + 1) [.int .i64 0, .int .i64 0, .slice none 0 0] 62 from N1.out).call hba).call hbb).call hbc).call hbd)
    have hbw6 : Below w.heap.size w wd := ((((HbX.out.drew).trans (hba.mono HbX.out.size)).trans (hbb.mono (by omega))).trans (hbc.mono (by omega))).trans (hbd.mono (by omega))
    have Hbw6 := Lib.hid hbw6
    clear hZ hba hbb hbc hbd hbw6 hRb hRc
    go_wp2_with fail
    obtain ⟨kp, _, _⟩ := three N6.out (.int .i64 3) (.int .i64 (lev : Int)) (.slice ox oy oz)
    have hbf := below3 (b := w.heap.size + 1) Hbw6.out (Nat.le_succ _) (.int .i64 3) (.int .i64 (lev : Int)) (.slice ox oy oz)
    refine bodyPost_ret (v := .tuple #[.agg #[.int .i64 3, .int .i64 (lev : Int), .slice ox oy oz], .bool ((kd : Int) == 3)]) (by simp [results, Try.results24, go_sem, *]) rfl ⟨⟨_, _, _, _, _, _, rfl, ?_⟩, hbf⟩
    rw [Hr.out]
    by_cases h3 : kd = 3
    · rw [if_pos h3]; exact ⟨by subst h3; rfl, (RdS.of (a := 3) HZ.out).keep (kp _ (by decide)) (kp _ (by decide)) (kp _ (by decide))⟩
    · rw [if_neg h3]; simp; omega
  | true =>
    have hk1' : kd = 1 := by have := eq_of_beq hkd; omega
    subst hk1'
    go_wp2_with fail
    try rw [hW0]
    refine (rupper_any t W0 ht).mono ?_
    rintro e W3 ⟨ru, rfl, Hu, hb3⟩
    have N1 := Lib.hid (B1.call hb3)
    have HbX := Lib.hid (hBel.trans (hb3.mono hBel.size))
    have hzX := Nat.le_trans hz0 hb3.size
    have B0' := B0.call hb3
    have B1' := B1.call hb3
    obtain ⟨x0, x1, x2⟩ := cells3 B0'
    obtain ⟨y0, y1, y2⟩ := cells3 B1'
    obtain ⟨u0, u1, u2, _, _⟩ := frozen5 B1'
    have hem : Wk.isEmpty 1 t.data.toList = (ru.toList == [69, 77, 80, 84, 89]) := by rw [empty_iff ru t.data.toList Hu.out]; rfl
    rw [hem] at Hr
    clear hb3 hem Hu B0 B1 B0' B1' hBel hW0
    cases hcmp : (ru.toList == [69, 77, 80, 84, 89]) with
    | true =>
      rw [hcmp, if_pos rfl] at Hr
      go_wp2_with fail
      have hHX := Lib.hid (Hh.out.call HbX.out)
      have hGX := Lib.hid (Hg.out.call HbX.out)
      have hsX : w.heap.size + 2 ≤ W3.heap.size := hzX
      clear HS
      go_region_held3 (fun w' => w'.cell? ⟨w.heap.size, 0, none⟩ = some (.int .i64 11) ∧ w'.cell? ⟨w.heap.size, 1, none⟩ = some (.int .i64 (lev : Int)) ∧ w'.cell? ⟨w.heap.size, 2, none⟩ = some (.slice ova ovn ovc))
        (first
          | exact ⟨keepc hba (by show w.heap.size < W3.heap.size; omega) x0, keepc hba (by show w.heap.size < W3.heap.size; omega) x1, keepc hba (by show w.heap.size < W3.heap.size; omega) x2⟩
          | exact ⟨keepc hbb (by omega) (keepc hba (by show w.heap.size < W3.heap.size; omega) x0), keepc hbb (by omega) (keepc hba (by show w.heap.size < W3.heap.size; omega) x1), keepc hbb (by omega) (keepc hba (by show w.heap.size < W3.heap.size; omega) x2)⟩
          | exact ⟨keepc hbc (by omega) (keepc hbb (by omega) (keepc hba (by show w.heap.size < W3.heap.size; omega) x0)), keepc hbc (by omega) (keepc hbb (by omega) (keepc hba (by show w.heap.size < W3.heap.size; omega) x1)), keepc hbc (by omega) (keepc hbb (by omega) (keepc hba (by show w.heap.size < W3.heap.size; omega) x2))⟩
          | exact ⟨keepc hbd (by omega) (keepc hbc (by omega) (keepc hbb (by omega) (keepc hba (by show w.heap.size < W3.heap.size; omega) x0))), keepc hbd (by omega) (keepc hbc (by omega) (keepc hbb (by omega) (keepc hba (by show w.heap.size < W3.heap.size; omega) x1))), keepc hbd (by omega) (keepc hbc (by omega) (keepc hbb (by omega) (keepc hba (by show w.heap.size < W3.heap.size; omega) x2)))⟩
          | exact ⟨keeps3 (by omega) (keepc hbd (by omega) (keepc hbc (by omega) (keepc hbb (by omega) (keepc hba (by show w.heap.size < W3.heap.size; omega) x0)))), keeps3 (by omega) (keepc hbd (by omega) (keepc hbc (by omega) (keepc hbb (by omega) (keepc hba (by show w.heap.size < W3.heap.size; omega) x1)))), keeps3 (by omega) (keepc hbd (by omega) (keepc hbc (by omega) (keepc hbb (by omega) (keepc hba (by show w.heap.size < W3.heap.size; omega) x2))))⟩
          | go_keep)
        ((first | (go_at_call 50; refine (last_any 11 lev (.slice ova ovn ovc) o g _ _ _ _ (hHX.out.call ((Below.refl _ W3).drew)) ho).mono ?_; rintro e wa ⟨rfl, hba⟩; have hsa : W3.heap.size ≤ wa.heap.size := hba.size) | (go_at_call 56; refine (more_any g _ _ _ _ ((hGX.out.call ((Below.refl _ W3).drew)).call hba) hcn).mono ?_; rintro e wb ⟨cv', rfl, hRb, hbb⟩; have hsb : wa.heap.size ≤ wb.heap.size := hbb.size) | (go_at_call 55; refine (counted_any (Wk.more g) hk _ _ _ _ hRb hsn hse hsv).mono ?_; rintro e wc ⟨sv', rfl, hRc, hbc⟩; have hsc : wb.heap.size ≤ wc.heap.size := hbc.size) | (go_at_call 52; refine (with_any 11 7 lev (.slice ova ovn ovc) o g (Wk.counted (Wk.more g)) _ _ _ _ _ _ _ ((((hHX.out.call ((Below.refl _ W3).drew)).call hba).call hbb).call hbc) hRc ho).mono ?_; rintro e wd ⟨ov', rfl, hZ, hbd⟩; obtain ⟨ox, oy, oz, rfl⟩ := hZ.form; have Y0 := keepc hbd (by omega) (keepc hbc (by omega) (keepc hbb (by omega) (keepc hba (by show w.heap.size + 1 < W3.heap.size; omega) y0))); have Y1 := keepc hbd (by omega) (keepc hbc (by omega) (keepc hbb (by omega) (keepc hba (by show w.heap.size + 1 < W3.heap.size; omega) y1))); have Y2 := keepc hbd (by omega) (keepc hbc (by omega) (keepc hbb (by omega) (keepc hba (by show w.heap.size + 1 < W3.heap.size; omega) y2))); have U0 := keepf hbd (by omega) (keepf hbc (by omega) (keepf hbb (by omega) (keepf hba (by show w.heap.size + 1 < W3.heap.size; omega) u0))); have U1 := keepf hbd (by omega) (keepf hbc (by omega) (keepf hbb (by omega) (keepf hba (by show w.heap.size + 1 < W3.heap.size; omega) u1))); have U2 := keepf hbd (by omega) (keepf hbc (by omega) (keepf hbb (by omega) (keepf hba (by show w.heap.size + 1 < W3.heap.size; omega) u2))))))
      have HZ := Lib.hid hZ
      have N6 := Lib.hid (((((show Blk W3.drew (w.heap.size + 1) [.int .i64 0, .int .i64 0, .slice none 0 0] 62 from N1.out).call hba).call hbb).call hbc).call hbd)
      have hbw6 : Below w.heap.size w wd := ((((HbX.out.drew).trans (hba.mono HbX.out.size)).trans (hbb.mono (by omega))).trans (hbc.mono (by omega))).trans (hbd.mono (by omega))
      have Hbw6 := Lib.hid hbw6
      clear hZ hba hbb hbc hbd hbw6 hRb hRc
      go_wp2_with fail
      obtain ⟨kp, _, _⟩ := three N6.out (.int .i64 7) (.int .i64 (lev : Int)) (.slice ox oy oz)
      have hbf := below3 (b := w.heap.size + 1) Hbw6.out (Nat.le_succ _) (.int .i64 7) (.int .i64 (lev : Int)) (.slice ox oy oz)
      refine bodyPost_ret (v := .tuple #[.agg #[.int .i64 7, .int .i64 (lev : Int), .slice ox oy oz], .bool true]) (by simp [results, Try.results24, go_sem, *]) rfl ⟨⟨_, _, _, _, _, _, rfl, ?_⟩, hbf⟩
      rw [Hr.out]
      exact ⟨rfl, (RdS.of (a := 7) HZ.out).keep (kp _ (by decide)) (kp _ (by decide)) (kp _ (by decide))⟩
    | false =>
      rw [hcmp, if_neg (by simp), if_neg (by decide)] at Hr
      go_wp2_with fail
      have hHX := Lib.hid (Hh.out.call HbX.out)
      have hGX := Lib.hid (Hg.out.call HbX.out)
      have hsX : w.heap.size + 2 ≤ W3.heap.size := hzX
      clear HS
      go_region_held3 (fun w' => w'.cell? ⟨w.heap.size, 0, none⟩ = some (.int .i64 11) ∧ w'.cell? ⟨w.heap.size, 1, none⟩ = some (.int .i64 (lev : Int)) ∧ w'.cell? ⟨w.heap.size, 2, none⟩ = some (.slice ova ovn ovc))
        (first
          | exact ⟨keepc hba (by show w.heap.size < W3.heap.size; omega) x0, keepc hba (by show w.heap.size < W3.heap.size; omega) x1, keepc hba (by show w.heap.size < W3.heap.size; omega) x2⟩
          | exact ⟨keepc hbb (by omega) (keepc hba (by show w.heap.size < W3.heap.size; omega) x0), keepc hbb (by omega) (keepc hba (by show w.heap.size < W3.heap.size; omega) x1), keepc hbb (by omega) (keepc hba (by show w.heap.size < W3.heap.size; omega) x2)⟩
          | exact ⟨keepc hbc (by omega) (keepc hbb (by omega) (keepc hba (by show w.heap.size < W3.heap.size; omega) x0)), keepc hbc (by omega) (keepc hbb (by omega) (keepc hba (by show w.heap.size < W3.heap.size; omega) x1)), keepc hbc (by omega) (keepc hbb (by omega) (keepc hba (by show w.heap.size < W3.heap.size; omega) x2))⟩
          | exact ⟨keepc hbd (by omega) (keepc hbc (by omega) (keepc hbb (by omega) (keepc hba (by show w.heap.size < W3.heap.size; omega) x0))), keepc hbd (by omega) (keepc hbc (by omega) (keepc hbb (by omega) (keepc hba (by show w.heap.size < W3.heap.size; omega) x1))), keepc hbd (by omega) (keepc hbc (by omega) (keepc hbb (by omega) (keepc hba (by show w.heap.size < W3.heap.size; omega) x2)))⟩
          | exact ⟨keeps3 (by omega) (keepc hbd (by omega) (keepc hbc (by omega) (keepc hbb (by omega) (keepc hba (by show w.heap.size < W3.heap.size; omega) x0)))), keeps3 (by omega) (keepc hbd (by omega) (keepc hbc (by omega) (keepc hbb (by omega) (keepc hba (by show w.heap.size < W3.heap.size; omega) x1)))), keeps3 (by omega) (keepc hbd (by omega) (keepc hbc (by omega) (keepc hbb (by omega) (keepc hba (by show w.heap.size < W3.heap.size; omega) x2))))⟩
          | go_keep)
        ((first | (go_at_call 50; refine (last_any 11 lev (.slice ova ovn ovc) o g _ _ _ _ (hHX.out.call ((Below.refl _ W3).drew)) ho).mono ?_; rintro e wa ⟨rfl, hba⟩; have hsa : W3.heap.size ≤ wa.heap.size := hba.size) | (go_at_call 56; refine (more_any g _ _ _ _ ((hGX.out.call ((Below.refl _ W3).drew)).call hba) hcn).mono ?_; rintro e wb ⟨cv', rfl, hRb, hbb⟩; have hsb : wa.heap.size ≤ wb.heap.size := hbb.size) | (go_at_call 55; refine (counted_any (Wk.more g) hk _ _ _ _ hRb hsn hse hsv).mono ?_; rintro e wc ⟨sv', rfl, hRc, hbc⟩; have hsc : wb.heap.size ≤ wc.heap.size := hbc.size) | (go_at_call 52; refine (with_any 11 3 lev (.slice ova ovn ovc) o g (Wk.counted (Wk.more g)) _ _ _ _ _ _ _ ((((hHX.out.call ((Below.refl _ W3).drew)).call hba).call hbb).call hbc) hRc ho).mono ?_; rintro e wd ⟨ov', rfl, hZ, hbd⟩; obtain ⟨ox, oy, oz, rfl⟩ := hZ.form; have Y0 := keepc hbd (by omega) (keepc hbc (by omega) (keepc hbb (by omega) (keepc hba (by show w.heap.size + 1 < W3.heap.size; omega) y0))); have Y1 := keepc hbd (by omega) (keepc hbc (by omega) (keepc hbb (by omega) (keepc hba (by show w.heap.size + 1 < W3.heap.size; omega) y1))); have Y2 := keepc hbd (by omega) (keepc hbc (by omega) (keepc hbb (by omega) (keepc hba (by show w.heap.size + 1 < W3.heap.size; omega) y2))); have U0 := keepf hbd (by omega) (keepf hbc (by omega) (keepf hbb (by omega) (keepf hba (by show w.heap.size + 1 < W3.heap.size; omega) u0))); have U1 := keepf hbd (by omega) (keepf hbc (by omega) (keepf hbb (by omega) (keepf hba (by show w.heap.size + 1 < W3.heap.size; omega) u1))); have U2 := keepf hbd (by omega) (keepf hbc (by omega) (keepf hbb (by omega) (keepf hba (by show w.heap.size + 1 < W3.heap.size; omega) u2))))))
      have HZ := Lib.hid hZ
      have N6 := Lib.hid (((((show Blk W3.drew (w.heap.size + 1) [.int .i64 0, .int .i64 0, .slice none 0 0] 62 from N1.out).call hba).call hbb).call hbc).call hbd)
      have hbw6 : Below w.heap.size w wd := ((((HbX.out.drew).trans (hba.mono HbX.out.size)).trans (hbb.mono (by omega))).trans (hbc.mono (by omega))).trans (hbd.mono (by omega))
      have Hbw6 := Lib.hid hbw6
      clear hZ hba hbb hbc hbd hbw6 hRb hRc
      go_wp2_with fail
      obtain ⟨kp, _, _⟩ := three N6.out (.int .i64 3) (.int .i64 (lev : Int)) (.slice ox oy oz)
      have hbf := below3 (b := w.heap.size + 1) Hbw6.out (Nat.le_succ _) (.int .i64 3) (.int .i64 (lev : Int)) (.slice ox oy oz)
      refine bodyPost_ret (v := .tuple #[.agg #[.int .i64 3, .int .i64 (lev : Int), .slice ox oy oz], .bool false]) (by simp [results, Try.results24, go_sem, *]) rfl ⟨⟨_, _, _, _, _, _, rfl, ?_⟩, hbf⟩
      rw [Hr.out]
end Go.Proofs.Ytegkdkilbnighaa
