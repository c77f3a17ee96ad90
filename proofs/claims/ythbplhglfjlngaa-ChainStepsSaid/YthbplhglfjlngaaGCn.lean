/- Parts of the proof. -/
import Derived.Test.YthbplhglfjlngaaGCl
import Derived.Test.YthbplhglfjlngaaGCm
import Derived.Test.YthbplhglfjlngaaGCh

set_option linter.unusedVariables false
set_option linter.unusedSimpArgs false
namespace Go.Proofs.Ythbplhglfjlngaa
open Go.RowKit Go.Rg Go.Wd Go.Mg
attribute [local go_sem] Oper.semAt_some

set_option maxRecDepth 100000 in
theorem set_ok (v : Value) (ps : List (Int × Int)) (w : World) (hv : SlC w v 2 (ptE ps)) (hok : ∀ p ∈ ps, ptB p.1 p.2 = true) (hb : ps.length * 32 ≤ 140737488355328 - 32) :
    Calls Try.prog 18 #[v] w fun e w' => ∃ R, e = .returned (.pointer (some ⟨R, 0, none⟩)) ∧ SetW w' R ps ∧ w.heap.size ≤ R ∧ Below w.heap.size w w' := by
  obtain ⟨a, c, e, hn, hcm⟩ := hv.form
  subst e
  have HN := Lib.hid (new_any _ ps w hv hok hb)
  clear hv hok
  go_enter Try.func18, Try.ntmps18
  go_wp2_with fail
  refine HN.out.mono ?_
  rintro e w1 ⟨R, rfl, h1, h2, h3⟩
  have H1 := Lib.hid h1
  have H3 := Lib.hid h3
  clear h1 h3
  go_wp2_with fail
  go_ret
  exact ⟨R, rfl, H1.out, h2, H3.out⟩
set_option maxRecDepth 100000 in
theorem set_bad (v : Value) (ps : List (Int × Int)) (w : World) (hv : SlC w v 2 (ptE ps)) (hbad : ∃ p ∈ ps, ptB p.1 p.2 = false) :
    Calls Try.prog 18 #[v] w fun e w' => e = .returned (.pointer none) ∧ Below w.heap.size w w' := by
  obtain ⟨a, c, e, hn, hcm⟩ := hv.form
  subst e
  have HN := Lib.hid (new_bad _ ps w hv hbad)
  clear hv hbad
  go_enter Try.func18, Try.ntmps18
  go_wp2_with fail
  refine HN.out.mono ?_
  rintro e w1 ⟨rfl, h3⟩
  have H3 := Lib.hid h3
  clear h3
  go_wp2_with fail
  go_ret
  exact ⟨rfl, H3.out⟩
def awPs : List (Int × Int) := [(0, 0), (1, 0), (2, 1)]
theorem awR : setR awPs = [(0, [0, 1]), (1, [2])] := by kernel_rfl
theorem awA : ofB 0 0 20 6 10 (setR awPs) = [(0, 0), (1, 0), (2, 1)] := by kernel_rfl
theorem awB : ofB 20 0 0 0 10 (setR awPs) = [(1, 0), (0, 0)] := by kernel_rfl
theorem awC : nearS 0 0 20 6 10 (setR awPs) = [(0, 0), (1, 0), (2, 1)] := by kernel_rfl
theorem awD : nearS 20 0 0 0 10 (setR awPs) = [(0, 0), (1, 0)] := by kernel_rfl
theorem awY : Rising ((setR awPs).map (·.1)) := by
  rw [awR]; intro i j x y hij hi hj
  match i, j with
  | 0, 0 => simp at hi hj; omega
  | 0, 1 => simp at hi hj; omega
  | 1, 1 => simp at hi hj; omega
  | 1, 0 => omega
  | _, j + 2 => simp at hj
  | i + 2, _ => simp at hi
theorem awX : ∀ r ∈ setR awPs, Rising r.2 := by
  rw [awR]
  intro r hr
  simp at hr
  rcases hr with rfl | rfl
  · intro i j x y hij hi hj
    match i, j with
    | 0, 0 => simp at hi hj; omega
    | 0, 1 => simp at hi hj; omega
    | 1, 1 => simp at hi hj; omega
    | 1, 0 => omega
    | _, j + 2 => simp at hj
    | i + 2, _ => simp at hi
  · intro i j x y hij hi hj
    match i, j with
    | 0, 0 => simp at hi hj; omega
    | _, j + 1 => simp at hj
    | i + 1, 0 => omega
theorem awN : nearZ 0 0 0 0 0 0 1 0 = true := by kernel_rfl

set_option maxRecDepth 100000 in
set_option maxHeartbeats 2000000 in
theorem awake17_any (w : World) : Calls Try.prog 8 #[] w fun e w' => e = .returned (.bool true) ∧ Below w.heap.size w w' := by
  go_enter Try.func8, Try.ntmps8
  go_wp2_with fail
  obtain ⟨W0, hW0⟩ : ∃ W0, w.alloc (.cells #[.int .i64 0, .int .i64 0, .int .i64 1, .int .i64 0, .int .i64 2, .int .i64 1] 23) = W0 := ⟨_, rfl⟩
  have hb0 : Below w.heap.size w W0 := hW0 ▸ (Below.refl _ w).alloc (Nat.le_refl _) _
  have hB0 : Blk W0 w.heap.size [.int .i64 0, .int .i64 0, .int .i64 1, .int .i64 0, .int .i64 2, .int .i64 1] 23 := hW0 ▸ Blk.new _ _ _
  have hv : SlC W0 (.slice (some ⟨w.heap.size, 0, none⟩) 3 3) 2 (ptE awPs) := SlC.of_own (base := w.heap.size) (t := 23) (es := ptE awPs) ⟨rfl, .inr ⟨w.heap.size, 3, _, rfl, Nat.le_refl _, hB0, Nat.le_refl _, by unfold maxLen; omega, rfl, rfl⟩⟩ (fun e he => by unfold ptE at he; obtain ⟨x, _, rfl⟩ := List.mem_map.1 he; rfl)
  rw [hW0]
  refine (set_ok _ awPs W0 hv (by decide) (by decide)).mono ?_
  rintro e w1 ⟨R, rfl, hs1, _, hb1⟩
  have HS1 := Lib.hid hs1
  have HB1 : Hid (Below w.heap.size w w1) := Lib.hid (hb0.trans (hb1.mono hb0.size))
  clear hW0 hb0 hB0 hv hs1 hb1
  go_wp2_with fail
  refine (of_any 0 0 20 6 10 R awPs w1 (by decide) (by decide) HS1.out awY awX (by rw [awC]; decide) (by rw [awC]; decide)).mono ?_
  rintro e w2 ⟨v2, rfl, hv2, hb2⟩
  rw [awA] at hv2
  have HS2 := Lib.hid (HS1.out.call hb2)
  have HB2 : Hid (Below w.heap.size w w2) := Lib.hid (HB1.out.trans (hb2.mono HB1.out.size))
  obtain ⟨a2, c2, e, hn2, hc2⟩ := hv2.form
  subst e
  obtain ⟨g2, o2, e, hg2, hr2, _⟩ := hv2.elem (i := 2) (e := [.int .i64 2, .int .i64 1]) rfl
  subst e
  have HR2 : Hid (w2.rangeAt g2 (o2 + 4) [.int .i64 2, .int .i64 1]) := Lib.hid hr2
  have hl2 : (ptE [((0 : Int), (0 : Int)), (1, 0), (2, 1)]).length = 3 := rfl
  rw [hl2] at hn2 ⊢
  clear hb2 hv2 hr2 hl2 HS1
  go_wp2_with fail
  refine (of_any 20 0 0 0 10 R awPs w2 (by decide) (by decide) HS2.out awY awX (by rw [awD]; decide) (by rw [awD]; decide)).mono ?_
  rintro e w3 ⟨v3, rfl, hv3, hb3⟩
  rw [awB] at hv3
  have HB3 : Hid (Below w.heap.size w w3) := Lib.hid (HB2.out.trans (hb3.mono HB2.out.size))
  obtain ⟨a3, c3, e, hn3, hc3⟩ := hv3.form
  subst e
  obtain ⟨g3, o3, e, hg3, hr3, _⟩ := hv3.elem (i := 0) (e := [.int .i64 1, .int .i64 0]) rfl
  subst e
  have hl3 : (ptE [((1 : Int), (0 : Int)), (0, 0)]).length = 2 := rfl
  rw [hl3] at hn3 ⊢
  have h2 := rangeAt_below HR2.out hb3 hg2
  have y0 : w3.cell? ⟨g2, o2 + 4, none⟩ = some (.int .i64 2) := h2 0 _ rfl
  have y1 : w3.cell? ⟨g2, o2 + 5, none⟩ = some (.int .i64 1) := h2 1 _ rfl
  have y2 : w3.cell? ⟨g3, o3, none⟩ = some (.int .i64 1) := hr3 0 _ rfl
  have y3 : w3.cell? ⟨g3, o3 + 1, none⟩ = some (.int .i64 0) := hr3 1 _ rfl
  clear hb3 hv3 hr3 h2 hl3
  go_wp2_with fail
  refine (near_any 0 0 0 0 0 0 1 0 (by decide) (by decide) (by decide) (by decide) (by decide) w3).mono ?_
  rintro e w4 ⟨rfl, hb4⟩
  rw [awN]
  have HB4 : Hid (Below w.heap.size w w4) := Lib.hid (HB3.out.trans (hb4.mono HB3.out.size))
  clear hb4 y0 y1 y2 y3
  go_wp2_with fail
  go_ret
  exact ⟨rfl, HB4.out⟩
end Go.Proofs.Ythbplhglfjlngaa

set_option linter.unusedVariables false
set_option linter.unusedSimpArgs false
namespace Go.Proofs.Ythbplhglfjlngaa
open Go.RowKit Go.Rg Go.Wd
attribute [local go_sem] Oper.semAt_some
theorem ls_results (X : World) (b : Nat) (v : Bool) (a : Act) (h0 : a.tmps[6]?.getD undef = .pointer (some ⟨b, 0, none⟩)) (k0 : X.cell? ⟨b, 0, none⟩ = some (.bool v)) :
    (results Try.f4 a.tmps).run Try.prog X = .ok (.bool v) X := by
  simp [results, Try.results4, go_sem, h0, k0]
theorem neq_steps (w : World) (f : Nat) (b : Nat) : (binOp .neq 37 (.func (.func f) #[] #[.pointer (some ⟨b, 0, none⟩)]) .nilFunc).run Try.prog w = .ok (.bool true) w := by kernel_rfl
attribute [local go_sem] neq_steps

set_option maxRecDepth 100000 in
set_option maxHeartbeats 16000000 in
theorem lawStepsV (v u : Value) (la lb : List (Int × Int)) (stop : Int) (w : World) (hv : SlC w v 2 (ptE la)) (hu : SlC w u 2 (ptE lb)) :
    Calls Try.prog 4 #[v, u, .int .i64 stop] w fun e w' => e = .returned (.bool true) ∧ Below w.heap.size w w' := by
  obtain ⟨a, c, e, hn, hcm⟩ := hv.form
  subst e
  obtain ⟨a2, cu, e, hn2, hcm2⟩ := hu.form
  subst e
  obtain ⟨n, Hn⟩ : ∃ n, Hid (n = (ptE la).length) := ⟨_, Lib.hid rfl⟩
  have Hnl : Hid (n = la.length) := Lib.hid (by rw [Hn.out]; unfold ptE; rw [List.length_map])
  obtain ⟨m, Hm⟩ : ∃ n, Hid (n = (ptE lb).length) := ⟨_, Lib.hid rfl⟩
  have Hml : Hid (m = lb.length) := Lib.hid (by rw [Hm.out]; unfold ptE; rw [List.length_map])
  rw [← Hn.out] at hv hn ⊢
  rw [← Hm.out] at hu hn2 ⊢
  unfold maxLen at hcm hcm2
  have HV := Lib.hid hv
  have HU := Lib.hid hu
  clear hv hu
  obtain ⟨W0, hW0⟩ : ∃ W0, [.cells #[.slice a n c] 35, .cells #[.int .i64 stop] 3, .cells #[.bool false] 4].foldl World.alloc w = W0 := ⟨_, rfl⟩
  have B3 : Blk W0 w.heap.size [.slice a n c] 35 := Blk.allocs _ hW0 0 rfl
  have B5 : Blk W0 (w.heap.size + 1) [.int .i64 stop] 3 := Blk.allocs _ hW0 1 rfl
  have B6 : Blk W0 (w.heap.size + 2) [.bool false] 4 := Blk.allocs _ hW0 2 rfl
  have hb0 : Below w.heap.size w W0 := hW0 ▸ allocs_below _ w
  have hsz0 : W0.heap.size = w.heap.size + 3 := hW0 ▸ allocs_size _ w
  replace hsz0 : w.heap.size + 3 ≤ W0.heap.size := Nat.le_of_eq hsz0.symm
  simp only [List.foldl_cons, List.foldl_nil] at hW0
  refine (calls_iff (r := none) (m := 0)).1 (callsIn_of_wp_marks Try.func4 rfl trivial ?_ rfl)
  simp only [Try.ntmps4, List.size_toArray, List.length_cons, List.length_nil, Nat.reduceAdd, Nat.reduceSub, Array.replicate_succ, Array.replicate_zero, List.push_toArray, List.append_toArray, List.nil_append, List.cons_append]
  gi_upto_region 1 with (fail)
  (try rw [hW0])
  clear hW0
  obtain ⟨b3, hb3⟩ : ∃ b, b = w.heap.size := ⟨_, rfl⟩
  obtain ⟨b5, hb5⟩ : ∃ b, b = w.heap.size + 1 := ⟨_, rfl⟩
  obtain ⟨b6, hb6⟩ : ∃ b, b = w.heap.size + 2 := ⟨_, rfl⟩
  have h35 : b3 < b5 := by omega
  have h56 : b5 < b6 := by omega
  have h3w : w.heap.size ≤ b3 := by omega
  have h60 : b6 < W0.heap.size := by omega
  rw [← hb3] at B3
  rw [← hb5] at B5
  rw [← hb6] at B6
  rw [← hb6, ← hb5, ← hb3]
  clear hb3 hb5 hb6
  have x3 := B3.cell (j := 0) rfl
  have HB0 := Lib.hid hb0
  have HB3 := Lib.hid B3
  have HB5 := Lib.hid B5
  have HB6 := Lib.hid B6
  clear hb0 B3 B5 B6
  have awk : ∀ (X : World), Below w.heap.size w X → (Blk X b6 [.bool false] 4) → True := fun _ _ _ => trivial
  by_cases h60a : 60 < n
  · have t0 : (60 : Int) < (n : Int) := by omega
    gi_wp2_with fail
    refine (calls_iff.2 (awake17_any W0)).mono ?_
    rintro e y2 ⟨rfl, hb⟩
    have yy2 := (HB6.out.call hb).cell (j := 0) rfl
    have f2 := (HB6.out.call hb).frozen 0
    have Hfin := Lib.hid ((HB6.out.call hb).set 0 (.bool true))
    have Hbf := Lib.hid ((HB0.out.trans (hb.mono HB0.out.size)).setCell (p := ⟨b6, 0, none⟩) (by show _ ≤ b6; omega) (.bool true))
    clear hb
    gi_wp2_with fail
    exact ⟨_, ls_results _ b6 true _ rfl (Hfin.out.cell rfl), rfl, Hbf.out⟩
  by_cases h60b : 60 < m
  · have t0 : ¬ (60 : Int) < (n : Int) := by omega
    have t1 : (60 : Int) < (m : Int) := by omega
    gi_wp2_with fail
    refine (calls_iff.2 (awake17_any W0)).mono ?_
    rintro e y2 ⟨rfl, hb⟩
    have yy2 := (HB6.out.call hb).cell (j := 0) rfl
    have f2 := (HB6.out.call hb).frozen 0
    have Hfin := Lib.hid ((HB6.out.call hb).set 0 (.bool true))
    have Hbf := Lib.hid ((HB0.out.trans (hb.mono HB0.out.size)).setCell (p := ⟨b6, 0, none⟩) (by show _ ≤ b6; omega) (.bool true))
    clear hb
    gi_wp2_with fail
    exact ⟨_, ls_results _ b6 true _ rfl (Hfin.out.cell rfl), rfl, Hbf.out⟩
  have t0 : ¬ (60 : Int) < (n : Int) := by omega
  have t1 : ¬ (60 : Int) < (m : Int) := by omega
  gi_upto_region 4 with (fail)
  obtain ⟨W1, hW1⟩ : ∃ W1, W0.alloc (.cells #[.int .i64 0] 3) = W1 := ⟨_, rfl⟩
  have hb1 : Below W0.heap.size W0 W1 := hW1 ▸ (Below.refl _ W0).alloc (Nat.le_refl _) _
  have B7 : Blk W1 W0.heap.size [.int .i64 0] 3 := hW1 ▸ Blk.new _ _ _
  (try rw [hW1])
  have x31 := (HB3.out.call hb1).cell (j := 0) rfl
  gi_wp2_with fail
  refine (calls_iff.2 (stepsF_any a n c W1)).mono ?_
  rintro e ws ⟨rfl, hws⟩
  have hbs : Below W1.heap.size W1 ws := hws ▸ (Below.refl _ W1).alloc (Nat.le_refl _) _
  have C1 : Blk ws W1.heap.size [.slice a n c] 35 := hws ▸ Blk.new _ _ _
  obtain ⟨b7, hb7⟩ : ∃ b, b = W0.heap.size := ⟨_, rfl⟩
  obtain ⟨bC, hbC⟩ : ∃ b, b = W1.heap.size := ⟨_, rfl⟩
  rw [← hb7] at B7
  rw [← hbC] at C1
  rw [← hb7, ← hbC]
  have h67 : b6 < b7 := by omega
  have h7w : w.heap.size ≤ b7 := by omega
  have h7C : b7 < bC := by rw [hbC]; exact B7.lt
  have hCs : bC < ws.heap.size := C1.lt
  have HBs : Hid (Below w.heap.size w ws) := Lib.hid ((HB0.out.trans (hb1.mono HB0.out.size)).trans (hbs.mono (by have := HB0.out.size; have := hb1.size; omega)))
  have HB3s := Lib.hid ((HB3.out.call hb1).call hbs)
  have HB5s := Lib.hid ((HB5.out.call hb1).call hbs)
  have HB6s := Lib.hid ((HB6.out.call hb1).call hbs)
  have HB7s := Lib.hid (B7.call hbs)
  clear hws hbs hW1 hb1 B7 hb7 hbC HB3 HB5 HB6 HB0 x3 x31
  obtain ⟨Sn, hSn⟩ : ∃ S : Nat → Prop, S = fun j => j < ws.heap.size ∧ j ≠ b7 := ⟨_, rfl⟩
  have HSn : Hid (∀ j, Sn j → j < ws.heap.size) := Lib.hid (fun j hj => by rw [hSn] at hj; exact hj.1)
  have HSo : Hid (¬ Sn b7) := Lib.hid (by rw [hSn]; exact fun h => h.2 rfl)
  have HSi : Hid (∀ j, j < ws.heap.size → j ≠ b7 → Sn j) := Lib.hid (fun j h1 h2 => by rw [hSn]; exact ⟨h1, h2⟩)
  clear hSn
  have HKb : Hid (∀ W, Kept Sn ws W → Below w.heap.size w W) := Lib.hid (fun W hW => HBs.out.trans (Kept.below (hW.mono (fun j hj => HSi.out j (by have := HBs.out.size; omega) (by omega)))))
  have HSeq := Lib.hid (steps_seq bC (.slice a n c) la Sn ws C1 (HSi.out _ (by omega) (by omega)) HSn.out (fun W hW => HV.out.call (HKb.out W hW)))
  have HS3 : Hid (Sn b3) := Lib.hid (HSi.out _ (by omega) (by omega))
  have HS5 : Hid (Sn b5) := Lib.hid (HSi.out _ (by omega) (by omega))
  have HS6 : Hid (Sn b6) := Lib.hid (HSi.out _ (by omega) (by omega))
  clear C1
  gi_wp2_with fail
  refine wp_range (P := Try.prog) (gf := 22) (lb := #[.pointer (some ⟨bC, 0, none⟩)]) (S := Sn) (ps := #[30, 31]) rfl enter_steps
    HSeq.out (Kept.refl _ _) HSn.out (fun x hx => by unfold stepA at hx; obtain ⟨p, _, rfl⟩ := List.mem_map.1 hx; rfl)
    (fun k O X => Blk X b7 [.int .i64 (k : Int)] 3 ∧ Below w.heap.size w X) (fun c k X => c = .exit 0 ∧ (k : Int) = stop ∧ Blk X b7 [.int .i64 (k : Int)] 3 ∧ Below w.heap.size w X)
    (fun k O O' X Y h hx hO => ⟨h.1.ext hx, h.2.trans (hx.below.mono (by have := HBs.out.size; omega))⟩) (fun c k X Y h hx => ⟨h.1, h.2.1, h.2.2.1.ext hx, h.2.2.2.trans (hx.below.mono (by have := HBs.out.size; omega))⟩)
    ⟨HB7s.out, HBs.out⟩ ?round ?done ?stop
  case round =>
    intro l k x O Wr hl1 hl2 hx hk hO hi
    obtain ⟨p, q, hp, hq, rfl⟩ : ∃ p q, la[k]? = some p ∧ la[k + 1]? = some q ∧ x = #[pV p.1 p.2, pV q.1 q.2] := by
      have hl := (List.getElem?_eq_some_iff.1 hx).1
      rw [stepA_len] at hl
      refine ⟨_, _, List.getElem?_eq_getElem (show k < la.length by omega), List.getElem?_eq_getElem (show k + 1 < la.length by omega), ?_⟩
      rw [stepA_at (List.getElem?_eq_getElem (show k < la.length by omega)) (List.getElem?_eq_getElem (show k + 1 < la.length by omega))] at hx
      exact (Option.some.inj hx).symm
    obtain ⟨hB7, hBr⟩ := hi
    have HO := Lib.hid hO
    have hSr : ∀ j, both Sn O j → j < Wr.heap.size := fun j hj => by
      rcases hj with h | h
      · have := HSn.out j h; have := hk.size; omega
      · exact (HO.out j h).2
    gi_wp2_with fail
    have hba : Below Wr.heap.size Wr ((Wr.alloc (.cells #[.int .i64 p.1, .int .i64 p.2] 23)).alloc (.cells #[.int .i64 q.1, .int .i64 q.2] 23)) := ((Below.refl _ Wr).alloc (Nat.le_refl _) _).alloc (by simp) _
    refine ⟨Eff.of_below hba hSr, ?_⟩
    intro Wb hx2 hkb hszb hlb
    have hszr : ws.heap.size ≤ Wr.heap.size := hk.size
    have B9 : Blk Wb Wr.heap.size [.int .i64 p.1, .int .i64 p.2] 23 := ((Blk.new Wr _ _).alloc _).ext hx2
    have B10 : Blk Wb (Wr.heap.size + 1) [.int .i64 q.1, .int .i64 q.2] 23 := by
      have := (Blk.new (Wr.alloc (.cells #[.int .i64 p.1, .int .i64 p.2] 23)) [.int .i64 q.1, .int .i64 q.2] 23).ext hx2
      rwa [World.size_alloc] at this
    have HBw : Hid (Below w.heap.size w Wb) := Lib.hid ((hBr.trans (hba.mono hBr.size)).trans (hx2.below.mono (by have := HBs.out.size; omega)))
    have hsame : ∀ j, Sn j → Wb.heap[j]? = ws.heap[j]? := fun j hj => (hkb.same j (.inl hj)).trans ((hba.block j (hSr j (.inl hj))).trans (hk.same j hj))
    have B3 := HB3s.out.of_same (hsame b3 HS3.out)
    have B5 := HB5s.out.of_same (hsame b5 HS5.out)
    have B7 := (hB7.call hba).ext hx2
    have hzb : Wr.heap.size + 1 < Wb.heap.size := B10.lt
    have HSO : Hid (∀ j, both Sn O j → j < Wb.heap.size) := Lib.hid (fun j hj => by have := hSr j hj; omega)
    have HbO : Hid (¬ both Sn O b7) := Lib.hid (by
      rintro (h | h)
      · exact HSo.out h
      · have := (HO.out b7 h).1; omega)
    obtain ⟨ga, oa, rfl⟩ : ∃ g off, a = some ⟨g, off, none⟩ := by
      obtain ⟨g, off, e, _⟩ := HV.out.elem (ptE_at hp)
      exact ⟨g, off, e⟩
    obtain ⟨k1, Hk1⟩ : ∃ j, Hid (j = k + 1) := ⟨_, Lib.hid rfl⟩
    have hkn : k + 1 < n := by have := (List.getElem?_eq_some_iff.1 hq).1; rw [Hnl.out]; exact this
    have hk1n : k1 < n := by rw [Hk1.out]; exact hkn
    have HRp : Hid (∀ X, Below Wb.heap.size Wb X → X.rangeAt ga (oa + k * 2) [.int .i64 p.1, .int .i64 p.2]) := Lib.hid (fun X hX => by
      obtain ⟨_, _, e, _, h1, _⟩ := (HV.out.call (HBw.out.trans (hX.mono HBw.out.size))).elem (ptE_at hp)
      cases e; exact h1)
    have HRq : Hid (∀ X, Below Wb.heap.size Wb X → X.rangeAt ga (oa + k1 * 2) [.int .i64 q.1, .int .i64 q.2]) := Lib.hid (fun X hX => by
      obtain ⟨_, _, e, _, h1, _⟩ := (HV.out.call (HBw.out.trans (hX.mono HBw.out.size))).elem (ptE_at hq)
      cases e; rw [Hk1.out]; exact h1)
    have tk : (k : Int) + 1 = (k1 : Int) := by rw [Hk1.out]; omega
    have tk2 : IntKind.i64.wrap (k1 : Int) = (k1 : Int) := by rw [IntKind.wrap_i64]; omega
    have dk0 : ¬ (n : Int) ≤ (k1 : Int) := by omega
    have dk : decide ((n : Int) ≤ (k1 : Int)) = false := decide_eq_false dk0
    have dk2 : decide ((k1 : Int) ≥ (n : Int)) = false := dk
    have HB := HBw.out
    have hwb := HB.size
    have hb7r : b7 < Wr.heap.size := by omega
    generalize hb9 : Wr.heap.size = b9 at *
    generalize hb10 : b9 + 1 = b10 at *
    clear hx hp hq hk hO hBr hSr hba hx2 hkb hszb hlb hsame hb9 hB7
    gi_upto_region 9 with (fail)
    gi_upto_region 9 with (fail)
    refine calm_in (by kernel_rfl) (by rintro ⟨_, _, h⟩; exact h) (by kernel_rfl) ?_
    refine calm_none (by kernel_rfl) ?_
    refine cV ?_ ?hy1_0 ?_
    case hy1_0 => (intro wz hSw; have q0 := c1 (B7.stay hSw.1 (by simp <;> omega)); go_simp; all_goals (with_reducible rfl))
    (try simp only [Act.put, tdA, tdB, tdC])
    refine cV ?_ ?hy1_1 ?_
    case hy1_1 => (intro wz hSw; have nn := tk; have nn2 := tk2; go_simp; all_goals (with_reducible rfl))
    (try simp only [Act.put, tdA, tdB, tdC])
    refine cV ?_ ?hy1_2 ?_
    case hy1_2 => (intro wz hSw; have q0 := c1 (B3.stay hSw.1 (by simp <;> omega)); go_simp; all_goals (with_reducible rfl))
    (try simp only [Act.put, tdA, tdB, tdC])
    refine cV ?_ ?hy1_3 ?_
    case hy1_3 => (intro wz hSw; go_simp; all_goals (with_reducible rfl))
    (try simp only [Act.put, tdA, tdB, tdC])
    refine cV ?_ ?hy1_4 ?_
    case hy1_4 => (intro wz hSw; have nn := dk; have nn2 := dk2; go_simp; all_goals (with_reducible rfl))
    (try simp only [Act.put, tdA, tdB, tdC])
    refine cV ?_ ?hy1_5 ?_
    case hy1_5 => (intro wz hSw; go_simp; all_goals (with_reducible rfl))
    (try simp only [Act.put, tdA, tdB, tdC])
    refine cV ?_ ?hy1_6 ?_
    case hy1_6 => (intro wz hSw; obtain ⟨q0, q1⟩ := c2 (B9.stay hSw.1 (by simp <;> omega)); go_simp; all_goals (with_reducible rfl))
    (try simp only [Act.put, tdA, tdB, tdC])
    refine cV ?_ ?hy1_7 ?_
    case hy1_7 => (intro wz hSw; have q0 := c1 (B3.stay hSw.1 (by simp <;> omega)); go_simp; all_goals (with_reducible rfl))
    (try simp only [Act.put, tdA, tdB, tdC])
    refine cV ?_ ?hy1_8 ?_
    case hy1_8 => (intro wz hSw; have q0 := c1 (B7.stay hSw.1 (by simp <;> omega)); go_simp; all_goals (with_reducible rfl))
    (try simp only [Act.put, tdA, tdB, tdC])
    refine calm_val (v := .pointer (some ⟨ga, oa + k * 2, none⟩)) (by rfl) (by rfl) ?hy1_9 ?_
    case hy1_9 => (intro wz hSw; exact x_index (i := k) (E := 23) (sz := 2) rfl (by rfl) (by rfl) (by omega) Try.underlying35 size_clonePt)
    (try simp only [Act.put, tdA, tdB, tdC])
    refine calm_val (v := pV p.1 p.2) (by rfl) (by rfl) ?hy1_10 ?_
    case hy1_10 => (intro wz hSw; exact x_row (cs := [.int .i64 p.1, .int .i64 p.2]) rfl (by rfl) (HRp.out _ (Stay.all hSw.1)) Try.underlying23 rfl size_clonePt)
    (try simp only [Act.put, tdA, tdB, tdC])
    refine cV ?_ ?hy1_11 ?_
    case hy1_11 => (intro wz hSw; go_simp; all_goals (with_reducible rfl))
    (try simp only [Act.put, tdA, tdB, tdC])
    refine cV ?_ ?hy1_12 ?_
    case hy1_12 => (intro wz hSw; go_simp; all_goals (with_reducible rfl))
    (try simp only [Act.put, tdA, tdB, tdC])
    refine cV ?_ ?hy1_13 ?_
    case hy1_13 => (intro wz hSw; go_simp; all_goals (with_reducible rfl))
    (try simp only [Act.put, tdA, tdB, tdC])
    refine cV ?_ ?hy1_14 ?_
    case hy1_14 => (intro wz hSw; obtain ⟨q0, q1⟩ := c2 (B10.stay hSw.1 (by simp <;> omega)); go_simp; all_goals (with_reducible rfl))
    (try simp only [Act.put, tdA, tdB, tdC])
    refine cV ?_ ?hy1_15 ?_
    case hy1_15 => (intro wz hSw; have q0 := c1 (B3.stay hSw.1 (by simp <;> omega)); go_simp; all_goals (with_reducible rfl))
    (try simp only [Act.put, tdA, tdB, tdC])
    refine cV ?_ ?hy1_16 ?_
    case hy1_16 => (intro wz hSw; have q0 := c1 (B7.stay hSw.1 (by simp <;> omega)); go_simp; all_goals (with_reducible rfl))
    (try simp only [Act.put, tdA, tdB, tdC])
    refine cV ?_ ?hy1_17 ?_
    case hy1_17 => (intro wz hSw; have nn := tk; have nn2 := tk2; go_simp; all_goals (with_reducible rfl))
    (try simp only [Act.put, tdA, tdB, tdC])
    refine calm_val (v := .pointer (some ⟨ga, oa + k1 * 2, none⟩)) (by rfl) (by rfl) ?hy1_18 ?_
    case hy1_18 => (intro wz hSw; exact x_index (i := k1) (E := 23) (sz := 2) rfl (by rfl) (by rfl) (by omega) Try.underlying35 size_clonePt)
    (try simp only [Act.put, tdA, tdB, tdC])
    refine calm_val (v := pV q.1 q.2) (by rfl) (by rfl) ?hy1_19 ?_
    case hy1_19 => (intro wz hSw; exact x_row (cs := [.int .i64 q.1, .int .i64 q.2]) rfl (by rfl) (HRq.out _ (Stay.all hSw.1)) Try.underlying23 rfl size_clonePt)
    (try simp only [Act.put, tdA, tdB, tdC])
    refine cV ?_ ?hy1_20 ?_
    case hy1_20 => (intro wz hSw; go_simp; all_goals (with_reducible rfl))
    (try simp only [Act.put, tdA, tdB, tdC])
    refine cV ?_ ?hy1_21 ?_
    case hy1_21 => (intro wz hSw; go_simp; all_goals (with_reducible rfl))
    (try simp only [Act.put, tdA, tdB, tdC])
    refine calm_end ?_
    intro w1 hS
    have hS := Stay.of_below hS
    have B3 := B3.stay hS (by simp <;> omega)
    have B7 := B7.stay hS (by simp <;> omega)
    have B9 := B9.stay hS (by simp <;> omega)
    have B10 := B10.stay hS (by simp <;> omega)
    have hz1 : Wb.heap.size ≤ w1.heap.size := hS.size
    have HB := grow_stay HB hS (by simp <;> omega) (by omega)
    have HE9 := Lib.hid hS.all
    clear hS
    have x7 := B7.cell (j := 0) rfl
    have f7 := B7.frozen 0
    have x5 := (B5.call HE9.out).cell (j := 0) rfl
    have HB77 := Lib.hid (B7.set 0 (.int .i64 (k1 : Int)))
    have HBfin : Hid (Below w.heap.size w (w1.setCell ⟨b7, 0, none⟩ (.int .i64 (k1 : Int)))) := Lib.hid ((HBw.out.trans (HE9.out.mono HBw.out.size)).setCell (p := ⟨b7, 0, none⟩) (by show _ ≤ b7; omega) _)
    have HEfin : Hid (Eff ws.heap.size (both Sn O) Wb (w1.setCell ⟨b7, 0, none⟩ (.int .i64 (k1 : Int)))) := Lib.hid ((Eff.of_below HE9.out HSO.out).setCell ⟨b7, 0, none⟩ HbO.out _)
    have ne75 : b7 ≠ b5 := by omega
    have ne57 : b5 ≠ b7 := by omega
    clear B9 B10 HB B3 B5 B7
    gi_upto_region 12 with (fail)
    obtain ⟨Wf, hWf⟩ : ∃ Wf, w1.setCell ⟨b7, 0, none⟩ (.int .i64 (k1 : Int)) = Wf := ⟨_, rfl⟩
    have x5f : Wf.cell? ⟨b5, 0, none⟩ = some (.int .i64 stop) := hWf ▸ (World.cell?_setCell_other _ _ _ _ (by intro h; simp only [Addr.mk.injEq] at h; omega)).trans x5
    rw [hWf] at HB77 HBfin HEfin
    (try rw [hWf])
    have x7f := HB77.out.cell (j := 0) rfl
    clear hWf x7 f7 x5
    by_cases hks : (k1 : Int) = stop
    · have dks : ((k1 : Int) == stop) = true := by simpa using hks
      have HKs : Hid ((k1 : Int) = stop) := Lib.hid hks
      clear hks
      gi_wp2_with fail
      exact ⟨HEfin.out, rfl, HKs.out, HB77.out, HBfin.out⟩
    · have dks : ((k1 : Int) == stop) = false := by simpa using hks
      gi_wp2_with fail
      exact ⟨HEfin.out, HB77.out, HBfin.out⟩
  case done =>
    intro O Wd hk hlt hi hD
    obtain ⟨hB7, hBd⟩ := hi
    obtain ⟨kk, Hkk⟩ : ∃ k, Hid (k = (stepA la).length) := ⟨_, Lib.hid rfl⟩
    have hkk : (kk : Int) = stop ∨ ((kk : Int) + 1 = (n : Int)) ∨ (n = 0 ∧ kk = 0) := by
      have h1 := Hkk.out
      rw [stepA_len] at h1
      have h2 := Hnl.out
      omega
    rw [← Hkk.out] at hB7
    have Hb7 := Lib.hid hB7
    have hkl2 : kk ≤ 100 := by
      have h1 := Hkk.out
      rw [stepA_len] at h1
      have h2 := Hnl.out
      omega
    have HD := Lib.hid hD
    have HBd := Lib.hid hBd
    have Hb3 := Lib.hid (HB3s.out.of_same (hk.same b3 HS3.out))
    have Hb5 := Lib.hid (HB5s.out.of_same (hk.same b5 HS5.out))
    have Hb6 := Lib.hid (HB6s.out.of_same (hk.same b6 HS6.out))
    have hsd : ws.heap.size < Wd.heap.size := hlt
    clear hk hlt hD hBd hB7
    have x7 := Hb7.out.cell (j := 0) rfl
    have x5 := Hb5.out.cell (j := 0) rfl
    have x3 := Hb3.out.cell (j := 0) rfl
    have tkw : IntKind.i64.wrap ((kk : Int) + 1) = (kk : Int) + 1 := by rw [IntKind.wrap_i64]; omega
    gi_upto_region 13 with (fail)
    gi_cut [73] from 59 (fun s73 wx => s73 = .bool false ∧ wx = Wd)
    case first =>
      by_cases hs : (kk : Int) = stop
      · subst hs
        gi_wp2_with fail
        gi_meet
        case rel => exact ⟨rfl, rfl⟩
      · have e1 : ((kk : Int) != stop) = true := by simpa using hs
        rcases hkk with h | h | ⟨h1, h2⟩
        · exact absurd h hs
        · gi_wp2_with fail
          gi_meet
          case rel => exact ⟨rfl, rfl⟩
        · subst h1 h2
          gi_wp2_with fail
          gi_meet
          case rel => exact ⟨rfl, rfl⟩
    case rest =>
      obtain ⟨h73, hwc⟩ := hcut
      have hwc := hwc.symm
      subst h73
      subst hwc
      clear hkk x7 x5 tkw
      have x3d := x3
      gi_upto_region 16 with (fail)
      refine pl_startIn (by rintro ⟨_, _, h⟩; obtain ⟨e, _⟩ := h; cases e) (by kernel_rfl) ?_
      refine pl_new (v := .slice (some ⟨Wd.heap.size, 0, none⟩) 0 0) (w' := Wd.alloc (.cells #[] 23)) (by rfl) (exec_buildNone 35 23 2 rfl Try.underlying35 size_clonePt) ?_
      obtain ⟨wA, hwA⟩ : ∃ wA, Wd.alloc (.cells #[] 23) = wA := ⟨_, rfl⟩
      have hbA : Below Wd.heap.size Wd wA := hwA ▸ (Below.refl _ Wd).alloc (Nat.le_refl _) _
      have hoA : wA.ownsRow Wd.heap.size 23 2 (.slice (some ⟨Wd.heap.size, 0, none⟩) 0 0) 0 [] := hwA ▸ own_none _ _ _ _ (Nat.le_refl _)
      have x3A := (Hb3.out.call hbA).cell (j := 0) rfl
      rw [hwA]
      clear hwA
      (try simp only [Act.put, tdA, tdB, tdC])
      (try simp only [Act.put, tdA, tdB, tdC])
      refine pl_val (v := .slice a n c) (by rfl) ?hx1 ?_
      case hx1 => (go_simp; all_goals (with_reducible rfl))
      (try simp only [Act.put, tdA, tdB, tdC])
      (try simp only [Act.put, tdA, tdB, tdC])
      refine pl_appendS _ rfl _ _ 35 rfl Wd.heap.size 23 (.agg #[.int .i64 0, .int .i64 0]) 2 16 Try.underlying35 info_clonePt rfl (by decide) (.slice (some ⟨Wd.heap.size, 0, none⟩) 0 0) 0 _ rfl hoA _ (ptE la) rfl (HV.out.call (HBd.out.trans (hbA.mono HBd.out.size))) (ptE_one la) (by rw [← Hn.out]; unfold maxLen; omega) (by rw [← Hn.out]; omega) hbA.size ?_
      intro v4 wA2 ho4 hg4
      rw [← Hn.out, Nat.zero_add, List.nil_append] at ho4
      obtain ⟨a4, c4', rfl⟩ := own_form ho4
      have hbA2 : Below Wd.heap.size Wd wA2 := hbA.grown hg4 hbA.size (fun k e => (hoA.lt k e).1)
      clear hg4 hoA
      (try simp only [Act.put, tdA, tdB, tdC])
      (try simp only [Act.put, tdA, tdB, tdC])
      refine pl_val (v := ?_) (by rfl) ?hy2_3 ?_
      case hy2_3 => (go_simp; all_goals (with_reducible rfl))
      (try simp only [Act.put, tdA, tdB, tdC])
      refine pl_appendS _ rfl _ _ 35 rfl Wd.heap.size 23 (.agg #[.int .i64 0, .int .i64 0]) 2 16 Try.underlying35 info_clonePt rfl (by decide) (.slice a4 n c4') n _ rfl ho4 _ (ptE lb) rfl (HU.out.call (HBd.out.trans (hbA2.mono HBd.out.size))) (ptE_one lb) (by rw [← Hm.out]; unfold maxLen; omega) (by rw [← Hm.out]; omega) hbA2.size ?_
      intro v5 wB ho5 hg5
      rw [← Hm.out] at ho5
      obtain ⟨a6, c6, rfl⟩ := own_form ho5
      have hbB : Below Wd.heap.size Wd wB := hbA2.grown hg5 hbA2.size (fun k e => (ho4.lt k e).1)
      have HO5 := Lib.hid ho5
      have HBW : Hid (Below Wd.heap.size Wd wB) := Lib.hid hbB
      have HBB : Hid (Below w.heap.size w wB) := Lib.hid (HBd.out.trans (hbB.mono HBd.out.size))
      clear hg5 ho5 ho4 hbA hbA2 hbB
      (try simp only [Act.put, tdA, tdB, tdC])
      (try simp only [Act.put, tdA, tdB, tdC])
      refine pl_val (v := ?_) (by rfl) ?hy2_5 ?_
      case hy2_5 => (go_simp; all_goals (with_reducible rfl))
      (try simp only [Act.put, tdA, tdB, tdC])
      refine pl_val (v := ?_) (by rfl) ?hy2_6 ?_
      case hy2_6 => (go_simp; all_goals (with_reducible rfl))
      (try simp only [Act.put, tdA, tdB, tdC])
      refine pl_end ?_
      clear x3d x3A
      obtain ⟨tl, Htl⟩ : ∃ l, Hid (l = la ++ lb) := ⟨_, Lib.hid rfl⟩
      obtain ⟨N, HN⟩ : ∃ q, Hid (q = n + m) := ⟨_, Lib.hid rfl⟩
      have HNl : Hid (N = tl.length) := Lib.hid (by rw [HN.out, Htl.out, List.length_append, Hnl.out, Hml.out])
      have hN120 : N ≤ 120 := by rw [HN.out]; omega
      rw [← HN.out] at HO5
      have hNc : (n : Int) + (m : Int) = (N : Int) := by rw [HN.out]; omega
      (try rw [← HN.out])
      (try rw [hNc])
      have HAll : Hid (SlC wB (.slice a6 N c6) 2 (ptE tl)) := Lib.hid (by
        have h2 : (ptE tl).length = N := by unfold ptE; rw [List.length_map, HNl.out]
        refine SlC.of_own (base := Wd.heap.size) (t := 23) (es := ptE tl) ?_ (fun e he => by unfold ptE at he; obtain ⟨x, _, rfl⟩ := List.mem_map.1 he; rfl)
        rw [h2, Htl.out]; unfold ptE; rw [List.map_append, List.flatten_append]; exact HO5.out)
      gi_wp2_with fail
      gi_loopw [11, 80] (fun s11 s80 wr => ∃ (j : Nat) (out : List (Int × Int)) (av : Option Addr) (no cv : Nat), s11 = .slice av no cv ∧ s80 = .int .i64 (j : Int) ∧ j ≤ N ∧ Hid (out = joinB (tl.take j)) ∧ Hid (no = out.length) ∧ Hid (wr.ownsRow wB.heap.size 23 2 (.slice av no cv) no (ptE out).flatten) ∧ Hid (Below wB.heap.size wB wr)) (fun _ s80 _ => N - (intOf s80).toNat)
      case atStart => exact ⟨0, [], none, 0, 0, rfl, by first | rfl | simp, Nat.zero_le _, Lib.hid rfl, Lib.hid rfl, Lib.hid ⟨by simp [ptE], .inl ⟨rfl, rfl⟩⟩, Lib.hid (Below.refl _ _)⟩
      case round =>
        obtain ⟨j, out, av, no, cv, rfl, rfl, hj, Hout, Hno, HO, HB1⟩ := hrel
        by_cases hlt : j < N
        · have t1 : (j : Int) < (N : Int) := by omega
          obtain ⟨p, hp⟩ : ∃ p, tl[j]? = some p := ⟨_, List.getElem?_eq_getElem (by rw [← HNl.out]; omega)⟩
          obtain ⟨gp, op, rfl, hgp, hrp, _⟩ := HAll.out.elem (ptE_at hp)
          have hel := rangeAt_below hrp HB1.out hgp
          have y2 : wr.cell? ⟨gp, op + j * 2, none⟩ = some (.int .i64 p.1) := hel 0 _ rfl
          have y3 : wr.cell? ⟨gp, op + j * 2 + 1, none⟩ = some (.int .i64 p.2) := hel 1 _ rfl
          have Hst : Hid (joinB (tl.take (j + 1)) = jstep (joinB (tl.take j)) p) := Lib.hid (by rw [List.take_add_one, hp]; exact joinB_snoc _ p)
          have hnob : no ≤ 120 := by
            have h1 := joinB_len (tl.take j)
            rw [List.length_take] at h1
            rw [Hno.out, Hout.out]; omega
          obtain ⟨wz, hwz⟩ : ∃ wz, wr.alloc (.cells #[.int .i64 p.1, .int .i64 p.2] 23) = wz := ⟨_, rfl⟩
          have hbz : Below wr.heap.size wr wz := hwz ▸ (Below.refl _ wr).alloc (Nat.le_refl _) _
          have B13 : Blk wz wr.heap.size [.int .i64 p.1, .int .i64 p.2] 23 := hwz ▸ Blk.new _ _ _
          have HOz := Lib.hid (own_call HO.out hbz)
          have HBz : Hid (Below wB.heap.size wB wz) := Lib.hid (HB1.out.trans (hbz.mono HB1.out.size))
          have HB : Below w.heap.size w wz := HBB.out.trans (HBz.out.mono HBB.out.size)
          have hwz2 := HB.size
          have hzl : wr.heap.size < wz.heap.size := B13.lt
          clear hp hrp hel hbz
          by_cases hno : no = 0
          · have t2 : (no : Int) = 0 := by omega
            have hjs : jstep (joinB (tl.take j)) p = joinB (tl.take j) ++ [p] := by
              have h0 : joinB (tl.take j) = [] := by rw [← Hout.out]; exact List.eq_nil_of_length_eq_zero (by rw [← Hno.out]; exact hno)
              rw [h0]; rfl
            clear hno
            gi_upto_region 19 with (fail)
            (try rw [hwz])
            clear hwz y2 y3
            generalize wr.heap.size = b13 at *
            refine calm_in (by kernel_rfl) (by rintro ⟨_, _, h⟩; obtain ⟨e, _⟩ := h; cases e) (by kernel_rfl) ?_
            refine calm_none (by kernel_rfl) ?_
            refine cV ?_ ?hy3_0 ?_
            case hy3_0 => (intro wz hSw; go_simp; all_goals (with_reducible rfl))
            (try simp only [Act.put, tdA, tdB, tdC])
            refine cV ?_ ?hy3_1 ?_
            case hy3_1 => (intro wz hSw; go_simp; all_goals (with_reducible rfl))
            (try simp only [Act.put, tdA, tdB, tdC])
            refine cV ?_ ?hy3_2 ?_
            case hy3_2 => (intro wz hSw; go_simp; all_goals (with_reducible rfl))
            (try simp only [Act.put, tdA, tdB, tdC])
            refine cV ?_ ?hy3_3 ?_
            case hy3_3 => (intro wz hSw; go_simp; all_goals (with_reducible rfl))
            (try simp only [Act.put, tdA, tdB, tdC])
            refine calm_skip (by rfl) (by rfl) ?_
            (try simp only [Act.put, tdA, tdB, tdC])
            refine calm_skip (by rfl) (by rfl) ?_
            (try simp only [Act.put, tdA, tdB, tdC])
            refine calm_skip (by rfl) (by rfl) ?_
            (try simp only [Act.put, tdA, tdB, tdC])
            refine calm_skip (by rfl) (by rfl) ?_
            (try simp only [Act.put, tdA, tdB, tdC])
            refine calm_skip (by rfl) (by rfl) ?_
            (try simp only [Act.put, tdA, tdB, tdC])
            refine calm_skip (by rfl) (by rfl) ?_
            (try simp only [Act.put, tdA, tdB, tdC])
            refine calm_skip (by rfl) (by rfl) ?_
            (try simp only [Act.put, tdA, tdB, tdC])
            refine calm_skip (by rfl) (by rfl) ?_
            (try simp only [Act.put, tdA, tdB, tdC])
            refine cV ?_ ?hy3_12 ?_
            case hy3_12 => (intro wz hSw; go_simp; all_goals (with_reducible rfl))
            (try simp only [Act.put, tdA, tdB, tdC])
            refine calm_end ?_
            intro w1 hS
            have hS := Stay.of_below hS
            have B13 := B13.stay hS (by simp <;> omega)
            have hz1 : wz.heap.size ≤ w1.heap.size := hS.size
            have HB := grow_stay HB hS (by simp <;> omega) (by omega)
            have HE19 := Lib.hid hS.all
            clear hS
            gi_upto_region 20 with (fail)
            refine pl_startIn (by rintro ⟨_, _, h⟩; obtain ⟨e, _⟩ := h; cases e) (by kernel_rfl) ?_
            refine pl_val (v := ?_) (by rfl) ?hy1 ?_
            case hy1 => (go_simp; all_goals (with_reducible rfl))
            (try simp only [Act.put, tdA, tdB, tdC])
            refine pl_val (v := pV p.1 p.2) (by rfl) (load_row rfl (by rfl) B13 Try.underlying23 rfl size_clonePt) ?_
            (try simp only [Act.put, tdA, tdB, tdC])
            refine pl_op rfl ?_
            intro K' hK'
            refine wp_buildOne _ 35 23 _ (pV p.1 p.2) (.agg #[.int .i64 0, .int .i64 0]) [.int .i64 p.1, .int .i64 p.2] rfl Try.underlying35 (info_small info_clonePt) (by rfl) rfl (by simp) (by simp) ?_
            obtain ⟨wa, hwa⟩ : ∃ wa, w1.alloc (.cells [.int .i64 p.1, .int .i64 p.2].toArray 23) = wa := ⟨_, rfl⟩
            have hRN : ReadsE wa wa.heap.size (.slice (some ⟨w1.heap.size, 0, none⟩) 1 1) 1 [.int .i64 p.1, .int .i64 p.2] := hwa ▸ reads_one w1 23 [.int .i64 p.1, .int .i64 p.2]
            have hal : Below w1.heap.size w1 wa := hwa ▸ (Below.refl _ w1).alloc (Nat.le_refl _) _
            have hown := own_call (own_call HOz.out HE19.out) hal
            have HBa : Hid (Below wB.heap.size wB wa) := Lib.hid (HBz.out.trans ((HE19.out.trans (hal.mono HE19.out.size)).mono HBz.out.size))
            have hsa := HBa.out.size
            refine hK' _ _ ?_
            (try rw [hwa])
            clear hwa hal hK' K'
            (try simp only [Act.put, tdA, tdB, tdC])
            refine pl_op rfl ?_
            intro K' hK'
            refine wp_append2E _ _ _ 35 rfl wB.heap.size 23 (.agg #[.int .i64 0, .int .i64 0]) 2 16 Try.underlying35 info_clonePt rfl (by decide) (.slice av no cv) no _ rfl hown _ _ 1 [.int .i64 p.1, .int .i64 p.2] rfl hRN rfl (by simp [Value.oneCell']) (by unfold maxLen; omega) (by omega) hsa ?_
            intro v' wb own' hgrow hmov
            obtain ⟨av2, cv2, rfl⟩ := own_form own'
            have HO3 := Lib.hid own'
            have HBb : Hid (Below wB.heap.size wB wb) := Lib.hid (HBa.out.grown hgrow hsa (fun k e => (hown.lt k e).1))
            refine hK' _ _ ?_
            clear own' hgrow hmov hK' K' hown
            (try simp only [Act.put, tdA, tdB, tdC])
            refine pl_val (v := ?_) (by rfl) ?hy6 ?_
            case hy6 => (go_simp; all_goals (with_reducible rfl))
            (try simp only [Act.put, tdA, tdB, tdC])
            refine pl_end ?_
            clear B13 HB
            gi_wp2_with fail
            go_roundw
            case rel => exact ⟨j + 1, out ++ [p], av2, no + 1, cv2, rfl, by first | rfl | simp, hlt, Lib.hid (by rw [Hst.out, hjs, Hout.out]), Lib.hid (by rw [Hno.out]; simp), Lib.hid (by unfold ptE; rw [List.map_append, List.flatten_append]; exact HO3.out), HBb⟩
            case measure => simp [intOf]; omega
          · have t2 : ¬ (no : Int) = 0 := by omega
            have d2 : decide ((no : Int) = 0) = false := decide_eq_false t2
            have d3 : ((no : Int) == 0) = false := by simpa using t2
            obtain ⟨n1, Hn1⟩ : ∃ m, Hid (m = no - 1) := ⟨_, Lib.hid rfl⟩
            have tn1 : (no : Int) - 1 = (n1 : Int) := by have := Hn1.out; omega
            have tn2 : IntKind.i64.wrap (n1 : Int) = (n1 : Int) := by rw [IntKind.wrap_i64]; have := Hn1.out; omega
            have hn1 : n1 < no := by have := Hn1.out; omega
            obtain ⟨lp, hlp⟩ : ∃ p, out[n1]? = some p := ⟨_, List.getElem?_eq_getElem (by rw [← Hno.out]; exact hn1)⟩
            have hlast : out.getLast? = some lp := by rw [List.getLast?_eq_getElem?, ← Hno.out, ← Hn1.out]; exact hlp
            have hsl : SlC wz (.slice av no cv) 2 (ptE out) := by
              have h2 : (ptE out).length = no := by unfold ptE; rw [List.length_map, Hno.out]
              exact SlC.of_own (es := ptE out) (by rw [h2]; exact HOz.out) (fun e he => by unfold ptE at he; obtain ⟨x, _, rfl⟩ := List.mem_map.1 he; rfl)
            obtain ⟨go, oo, rfl, hgo, hro, _⟩ := hsl.elem (ptE_at hlp)
            have HRl : Hid (∀ X, Below wz.heap.size wz X → X.rangeAt go (oo + n1 * 2) [.int .i64 lp.1, .int .i64 lp.2]) := Lib.hid (fun X hX => rangeAt_below hro hX hgo)
            have hjs0 : jstep (joinB (tl.take j)) p = if lp == p then out else out ++ [p] := by rw [← Hout.out]; unfold jstep; rw [hlast]
            have Hjs := Lib.hid hjs0
            clear hlp hlast hsl hro hjs0 hno
            gi_upto_region 19 with (fail)
            (try rw [hwz])
            clear hwz y2 y3
            generalize wr.heap.size = b13 at *
            cases hlq : (lp == p) with
            | true =>
              have hjs : jstep (joinB (tl.take j)) p = out := by rw [Hjs.out, hlq]; rfl
              refine calm_in (by kernel_rfl) (by rintro ⟨_, _, h⟩; obtain ⟨e, _⟩ := h; cases e) (by kernel_rfl) ?_
              refine calm_none (by kernel_rfl) ?_
              refine cV ?_ ?hy4_0 ?_
              case hy4_0 => (intro wz hSw; go_simp; all_goals (with_reducible rfl))
              (try simp only [Act.put, tdA, tdB, tdC])
              refine cV ?_ ?hy4_1 ?_
              case hy4_1 => (intro wz hSw; go_simp; all_goals (with_reducible rfl))
              (try simp only [Act.put, tdA, tdB, tdC])
              refine cV ?_ ?hy4_2 ?_
              case hy4_2 => (intro wz hSw; go_simp; all_goals (with_reducible rfl))
              (try simp only [Act.put, tdA, tdB, tdC])
              refine cV ?_ ?hy4_3 ?_
              case hy4_3 => (intro wz hSw; go_simp; all_goals (with_reducible rfl))
              (try simp only [Act.put, tdA, tdB, tdC])
              refine cV ?_ ?hy4_4 ?_
              case hy4_4 => (intro wz hSw; go_simp; all_goals (with_reducible rfl))
              (try simp only [Act.put, tdA, tdB, tdC])
              refine cV ?_ ?hy4_5 ?_
              case hy4_5 => (intro wz hSw; go_simp; all_goals (with_reducible rfl))
              (try simp only [Act.put, tdA, tdB, tdC])
              refine cV ?_ ?hy4_6 ?_
              case hy4_6 => (intro wz hSw; go_simp; all_goals (with_reducible rfl))
              (try simp only [Act.put, tdA, tdB, tdC])
              refine cV ?_ ?hy4_7 ?_
              case hy4_7 => (intro wz hSw; have nn := tn1; have nn2 := tn2; go_simp; all_goals (with_reducible rfl))
              (try simp only [Act.put, tdA, tdB, tdC])
              refine calm_val (v := .pointer (some ⟨go, oo + n1 * 2, none⟩)) (by rfl) (by rfl) ?hy4_8 ?_
              case hy4_8 => (intro wz hSw; exact x_index (i := n1) (E := 23) (sz := 2) rfl (by rfl) (by rfl) (by omega) Try.underlying35 size_clonePt)
              (try simp only [Act.put, tdA, tdB, tdC])
              refine calm_val (v := pV lp.1 lp.2) (by rfl) (by rfl) ?hy4_9 ?_
              case hy4_9 => (intro wz hSw; exact x_row (cs := [.int .i64 lp.1, .int .i64 lp.2]) rfl (by rfl) (HRl.out _ (Stay.all hSw.1)) Try.underlying23 rfl size_clonePt)
              (try simp only [Act.put, tdA, tdB, tdC])
              refine cV ?_ ?hy4_10 ?_
              case hy4_10 => (intro wz hSw; obtain ⟨q0, q1⟩ := c2 (B13.stay hSw.1 (by simp <;> omega)); go_simp; all_goals (with_reducible rfl))
              (try simp only [Act.put, tdA, tdB, tdC])
              refine calm_val (v := .bool false) (by rfl) (by rfl) ?hy4_11 ?_
              case hy4_11 => (intro wz hSw; exact (by have e1 := (pt_eq hlq).1; have e2 := (pt_eq hlq).2; go_simp))
              (try simp only [Act.put, tdA, tdB, tdC])
              refine cV ?_ ?hy4_12 ?_
              case hy4_12 => (intro wz hSw; go_simp; all_goals (with_reducible rfl))
              (try simp only [Act.put, tdA, tdB, tdC])
              refine calm_end ?_
              intro w1 hS
              have hS := Stay.of_below hS
              have B13 := B13.stay hS (by simp <;> omega)
              have hz1 : wz.heap.size ≤ w1.heap.size := hS.size
              have HB := grow_stay HB hS (by simp <;> omega) (by omega)
              have HE19 := Lib.hid hS.all
              clear hS
              clear B13 HB
              gi_wp2_with fail
              go_roundw
              case rel => exact ⟨j + 1, out, some ⟨go, oo, none⟩, no, cv, rfl, by first | rfl | simp, hlt, Lib.hid (by rw [Hst.out, hjs]), Hno, Lib.hid (own_call HOz.out HE19.out), Lib.hid (HBz.out.trans (HE19.out.mono HBz.out.size))⟩
              case measure => simp [intOf]; omega
            | false =>
              have hjs : jstep (joinB (tl.take j)) p = joinB (tl.take j) ++ [p] := by rw [Hjs.out, hlq, Hout.out]; rfl
              refine calm_in (by kernel_rfl) (by rintro ⟨_, _, h⟩; obtain ⟨e, _⟩ := h; cases e) (by kernel_rfl) ?_
              refine calm_none (by kernel_rfl) ?_
              refine cV ?_ ?hy5_0 ?_
              case hy5_0 => (intro wz hSw; go_simp; all_goals (with_reducible rfl))
              (try simp only [Act.put, tdA, tdB, tdC])
              refine cV ?_ ?hy5_1 ?_
              case hy5_1 => (intro wz hSw; go_simp; all_goals (with_reducible rfl))
              (try simp only [Act.put, tdA, tdB, tdC])
              refine cV ?_ ?hy5_2 ?_
              case hy5_2 => (intro wz hSw; go_simp; all_goals (with_reducible rfl))
              (try simp only [Act.put, tdA, tdB, tdC])
              refine cV ?_ ?hy5_3 ?_
              case hy5_3 => (intro wz hSw; go_simp; all_goals (with_reducible rfl))
              (try simp only [Act.put, tdA, tdB, tdC])
              refine cV ?_ ?hy5_4 ?_
              case hy5_4 => (intro wz hSw; go_simp; all_goals (with_reducible rfl))
              (try simp only [Act.put, tdA, tdB, tdC])
              refine cV ?_ ?hy5_5 ?_
              case hy5_5 => (intro wz hSw; go_simp; all_goals (with_reducible rfl))
              (try simp only [Act.put, tdA, tdB, tdC])
              refine cV ?_ ?hy5_6 ?_
              case hy5_6 => (intro wz hSw; go_simp; all_goals (with_reducible rfl))
              (try simp only [Act.put, tdA, tdB, tdC])
              refine cV ?_ ?hy5_7 ?_
              case hy5_7 => (intro wz hSw; have nn := tn1; have nn2 := tn2; go_simp; all_goals (with_reducible rfl))
              (try simp only [Act.put, tdA, tdB, tdC])
              refine calm_val (v := .pointer (some ⟨go, oo + n1 * 2, none⟩)) (by rfl) (by rfl) ?hy5_8 ?_
              case hy5_8 => (intro wz hSw; exact x_index (i := n1) (E := 23) (sz := 2) rfl (by rfl) (by rfl) (by omega) Try.underlying35 size_clonePt)
              (try simp only [Act.put, tdA, tdB, tdC])
              refine calm_val (v := pV lp.1 lp.2) (by rfl) (by rfl) ?hy5_9 ?_
              case hy5_9 => (intro wz hSw; exact x_row (cs := [.int .i64 lp.1, .int .i64 lp.2]) rfl (by rfl) (HRl.out _ (Stay.all hSw.1)) Try.underlying23 rfl size_clonePt)
              (try simp only [Act.put, tdA, tdB, tdC])
              refine cV ?_ ?hy5_10 ?_
              case hy5_10 => (intro wz hSw; obtain ⟨q0, q1⟩ := c2 (B13.stay hSw.1 (by simp <;> omega)); go_simp; all_goals (with_reducible rfl))
              (try simp only [Act.put, tdA, tdB, tdC])
              refine calm_val (v := .bool true) (by rfl) (by rfl) ?hy5_11 ?_
              case hy5_11 => (intro wz hSw; exact (by have e1 := pt_ne hlq; go_simp; all_goals exact e1))
              (try simp only [Act.put, tdA, tdB, tdC])
              refine cV ?_ ?hy5_12 ?_
              case hy5_12 => (intro wz hSw; go_simp; all_goals (with_reducible rfl))
              (try simp only [Act.put, tdA, tdB, tdC])
              refine calm_end ?_
              intro w1 hS
              have hS := Stay.of_below hS
              have B13 := B13.stay hS (by simp <;> omega)
              have hz1 : wz.heap.size ≤ w1.heap.size := hS.size
              have HB := grow_stay HB hS (by simp <;> omega) (by omega)
              have HE19 := Lib.hid hS.all
              clear hS
              gi_upto_region 20 with (fail)
              refine pl_startIn (by rintro ⟨_, _, h⟩; obtain ⟨e, _⟩ := h; cases e) (by kernel_rfl) ?_
              refine pl_val (v := ?_) (by rfl) ?hy1 ?_
              case hy1 => (go_simp; all_goals (with_reducible rfl))
              (try simp only [Act.put, tdA, tdB, tdC])
              refine pl_val (v := pV p.1 p.2) (by rfl) (load_row rfl (by rfl) B13 Try.underlying23 rfl size_clonePt) ?_
              (try simp only [Act.put, tdA, tdB, tdC])
              refine pl_op rfl ?_
              intro K' hK'
              refine wp_buildOne _ 35 23 _ (pV p.1 p.2) (.agg #[.int .i64 0, .int .i64 0]) [.int .i64 p.1, .int .i64 p.2] rfl Try.underlying35 (info_small info_clonePt) (by rfl) rfl (by simp) (by simp) ?_
              obtain ⟨wa, hwa⟩ : ∃ wa, w1.alloc (.cells [.int .i64 p.1, .int .i64 p.2].toArray 23) = wa := ⟨_, rfl⟩
              have hRN : ReadsE wa wa.heap.size (.slice (some ⟨w1.heap.size, 0, none⟩) 1 1) 1 [.int .i64 p.1, .int .i64 p.2] := hwa ▸ reads_one w1 23 [.int .i64 p.1, .int .i64 p.2]
              have hal : Below w1.heap.size w1 wa := hwa ▸ (Below.refl _ w1).alloc (Nat.le_refl _) _
              have hown := own_call (own_call HOz.out HE19.out) hal
              have HBa : Hid (Below wB.heap.size wB wa) := Lib.hid (HBz.out.trans ((HE19.out.trans (hal.mono HE19.out.size)).mono HBz.out.size))
              have hsa := HBa.out.size
              refine hK' _ _ ?_
              (try rw [hwa])
              clear hwa hal hK' K'
              (try simp only [Act.put, tdA, tdB, tdC])
              refine pl_op rfl ?_
              intro K' hK'
              refine wp_append2E _ _ _ 35 rfl wB.heap.size 23 (.agg #[.int .i64 0, .int .i64 0]) 2 16 Try.underlying35 info_clonePt rfl (by decide) (.slice (some ⟨go, oo, none⟩) no cv) no _ rfl hown _ _ 1 [.int .i64 p.1, .int .i64 p.2] rfl hRN rfl (by simp [Value.oneCell']) (by unfold maxLen; omega) (by omega) hsa ?_
              intro v' wb own' hgrow hmov
              obtain ⟨av2, cv2, rfl⟩ := own_form own'
              have HO3 := Lib.hid own'
              have HBb : Hid (Below wB.heap.size wB wb) := Lib.hid (HBa.out.grown hgrow hsa (fun k e => (hown.lt k e).1))
              refine hK' _ _ ?_
              clear own' hgrow hmov hK' K' hown
              (try simp only [Act.put, tdA, tdB, tdC])
              refine pl_val (v := ?_) (by rfl) ?hy6 ?_
              case hy6 => (go_simp; all_goals (with_reducible rfl))
              (try simp only [Act.put, tdA, tdB, tdC])
              refine pl_end ?_
              clear B13 HB
              gi_wp2_with fail
              go_roundw
              case rel => exact ⟨j + 1, out ++ [p], av2, no + 1, cv2, rfl, by first | rfl | simp, hlt, Lib.hid (by rw [Hst.out, hjs, Hout.out]), Lib.hid (by rw [Hno.out]; simp), Lib.hid (by unfold ptE; rw [List.map_append, List.flatten_append]; exact HO3.out), HBb⟩
              case measure => simp [intOf]; omega
        · obtain rfl : j = N := by omega
          have t1 : ¬ (j : Int) < (j : Int) := by omega
          have Hout2 : Hid (joinB tl = out) := Lib.hid (by rw [Hout.out, HNl.out, List.take_length])
          have Hpl : Hid ((ptE out).length = no) := Lib.hid (by unfold ptE; rw [List.length_map, Hno.out])
          have HWant : Hid (SlC wr (.slice av no cv) 2 (ptE out)) := Lib.hid (SlC.of_own (es := ptE out) (by rw [Hpl.out]; exact HO.out) (fun e he => by unfold ptE at he; obtain ⟨x, _, rfl⟩ := List.mem_map.1 he; rfl))
          have hnob : no ≤ 120 := by
            have h1 := joinB_len tl
            rw [Hout2.out] at h1
            have h2 := HNl.out
            rw [Hno.out]; omega
          rename World => wQ
          have hB3q := (Hb3.out.call HBW.out).call HB1.out
          have hB6q := (Hb6.out.call HBW.out).call HB1.out
          have HB6q := Lib.hid hB6q
          have HDq : Hid (wQ.heap[ws.heap.size]? = some (.deferred (some []))) := Lib.hid ((HB1.out.block _ (by have := HBW.out.size; omega)).trans ((HBW.out.block _ hsd).trans HD.out))
          have x3q := hB3q.cell (j := 0) rfl
          obtain ⟨wJ, hwJ⟩ : ∃ wJ, wQ.alloc (.cells #[.slice a n c, .slice a2 m cu] 35) = wJ := ⟨_, rfl⟩
          have hbJ : Below wQ.heap.size wQ wJ := hwJ ▸ (Below.refl _ wQ).alloc (Nat.le_refl _) _
          have hBJ : Blk wJ wQ.heap.size [.slice a n c, .slice a2 m cu] 35 := hwJ ▸ Blk.new _ _ _
          have HBq : Hid (Below w.heap.size w wQ) := Lib.hid (HBB.out.trans (HB1.out.mono HBB.out.size))
          have HBJ : Hid (Below w.heap.size w wJ) := Lib.hid (HBq.out.trans (hbJ.mono HBq.out.size))
          have HWj := Lib.hid (HWant.out.call hbJ)
          have HJ1 : Hid (SlC wJ (.slice (some ⟨wQ.heap.size, 0, none⟩) 2 2) 1 ([Value.slice a n c, .slice a2 m cu].map fun u => [u])) := Lib.hid (SlC.of_own (base := 0) (t := 35) (es := [Value.slice a n c, .slice a2 m cu].map fun u => [u]) ⟨rfl, .inr ⟨wQ.heap.size, 2, _, rfl, Nat.zero_le _, hBJ, Nat.le_refl _, by unfold maxLen; omega, rfl, rfl⟩⟩ (fun e he => by obtain ⟨x, _, rfl⟩ := List.mem_map.1 he; rfl))
          have HJ2 : Hid (∀ (i : Nat) (ps : List (Int × Int)), [la, lb][i]? = some ps → ∃ u, [Value.slice a n c, .slice a2 m cu][i]? = some u ∧ SlC wJ u 2 (ptE ps)) := Lib.hid (fun i ps hi => by
            match i with
            | 0 => cases hi; exact ⟨_, rfl, HV.out.call HBJ.out⟩
            | 1 => cases hi; exact ⟨_, rfl, HU.out.call HBJ.out⟩
            | i + 2 => simp at hi)
          clear hB3q hB6q hBJ HO HWant
          gi_upto_region 22 with (fail)
          gi_wp2_with fail
          (try rw [hwJ])
          refine (calls_iff.2 (join_any _ [.slice a n c, .slice a2 m cu] [la, lb] wJ HJ1.out rfl HJ2.out (by
            have h2 := HNl.out
            have h3 : [la, lb].flatten = tl := by rw [Htl.out]; simp
            rw [h3]; omega))).mono ?_
          rintro e wK ⟨vg, rfl, hvg, hbK⟩
          have h3 : [la, lb].flatten = tl := by rw [Htl.out]; simp
          rw [h3, Hout2.out] at hvg
          obtain ⟨ag, cg, e, hng, hcg⟩ := hvg.form
          subst e
          rw [Hpl.out] at hvg hng ⊢
          have HGot := Lib.hid hvg
          have HWk := Lib.hid (HWj.out.call hbK)
          have HBK : Hid (Below w.heap.size w wK) := Lib.hid (HBJ.out.trans (hbK.mono HBJ.out.size))
          have HB6k := Lib.hid ((HB6q.out.call hbJ).call hbK)
          have HDk : Hid (wK.heap[ws.heap.size]? = some (.deferred (some []))) := Lib.hid (by
            have h1 := (hbJ.block _ (Array.getElem?_eq_some_iff.1 HDq.out).1).trans HDq.out
            exact (hbK.block _ (Array.getElem?_eq_some_iff.1 h1).1).trans h1)
          clear hvg hbK hbJ hwJ x3q h3 HJ1 HJ2
          gi_wp2_with fail
          gi_loopw [113] (fun s113 wr => ∃ i : Nat, s113 = .int .i64 (i : Int) ∧ i ≤ no ∧ Hid (Below wK.heap.size wK wr)) (fun s113 _ => no - (intOf s113).toNat)
          case atStart => exact ⟨0, by first | rfl | simp, Nat.zero_le _, Lib.hid (Below.refl _ _)⟩
          case round =>
            obtain ⟨i, rfl, hi, HBr⟩ := hrel
            by_cases hil : i < no
            · have t3 : (i : Int) < (no : Int) := by omega
              obtain ⟨p, hp⟩ : ∃ p, out[i]? = some p := ⟨_, List.getElem?_eq_getElem (by rw [← Hno.out]; exact hil)⟩
              obtain ⟨gw, ow, rfl, hgw, hrw, _⟩ := HWk.out.elem (ptE_at hp)
              obtain ⟨gg, og, rfl, hgg, hrg, _⟩ := HGot.out.elem (ptE_at hp)
              have HRw : Hid (∀ X, Below wr.heap.size wr X → X.rangeAt gw (ow + i * 2) [.int .i64 p.1, .int .i64 p.2]) := Lib.hid (fun X hX => rangeAt_below hrw (HBr.out.trans (hX.mono HBr.out.size)) hgw)
              have HRg : Hid (∀ X, Below wr.heap.size wr X → X.rangeAt gg (og + i * 2) [.int .i64 p.1, .int .i64 p.2]) := Lib.hid (fun X hX => rangeAt_below hrg (HBr.out.trans (hX.mono HBr.out.size)) hgg)
              have HB : Below w.heap.size w wr := HBK.out.trans (HBr.out.mono HBK.out.size)
              have hwz : w.heap.size ≤ wr.heap.size := HB.size
              clear hp hrw hrg
              gi_upto_region 28 with (fail)
              refine calm_in (by kernel_rfl) (by rintro ⟨_, _, h⟩; obtain ⟨e, _⟩ := h; cases e) (by kernel_rfl) ?_
              refine calm_none (by kernel_rfl) ?_
              refine cV ?_ ?hy6_0 ?_
              case hy6_0 => (intro wz hSw; go_simp; all_goals (with_reducible rfl))
              (try simp only [Act.put, tdA, tdB, tdC])
              refine cV ?_ ?hy6_1 ?_
              case hy6_1 => (intro wz hSw; go_simp; all_goals (with_reducible rfl))
              (try simp only [Act.put, tdA, tdB, tdC])
              refine calm_val (v := .pointer (some ⟨gg, og + i * 2, none⟩)) (by rfl) (by rfl) ?hy6_2 ?_
              case hy6_2 => (intro wz hSw; exact x_index (i := i) (E := 23) (sz := 2) rfl (by rfl) (by rfl) (by omega) Try.underlying35 size_clonePt)
              (try simp only [Act.put, tdA, tdB, tdC])
              refine calm_val (v := pV p.1 p.2) (by rfl) (by rfl) ?hy6_3 ?_
              case hy6_3 => (intro wz hSw; exact x_row (cs := [.int .i64 p.1, .int .i64 p.2]) rfl (by rfl) (HRg.out _ (Stay.all hSw.1)) Try.underlying23 rfl size_clonePt)
              (try simp only [Act.put, tdA, tdB, tdC])
              refine cV ?_ ?hy6_4 ?_
              case hy6_4 => (intro wz hSw; go_simp; all_goals (with_reducible rfl))
              (try simp only [Act.put, tdA, tdB, tdC])
              refine cV ?_ ?hy6_5 ?_
              case hy6_5 => (intro wz hSw; go_simp; all_goals (with_reducible rfl))
              (try simp only [Act.put, tdA, tdB, tdC])
              refine calm_val (v := .pointer (some ⟨gw, ow + i * 2, none⟩)) (by rfl) (by rfl) ?hy6_6 ?_
              case hy6_6 => (intro wz hSw; exact x_index (i := i) (E := 23) (sz := 2) rfl (by rfl) (by rfl) (by omega) Try.underlying35 size_clonePt)
              (try simp only [Act.put, tdA, tdB, tdC])
              refine calm_val (v := pV p.1 p.2) (by rfl) (by rfl) ?hy6_7 ?_
              case hy6_7 => (intro wz hSw; exact x_row (cs := [.int .i64 p.1, .int .i64 p.2]) rfl (by rfl) (HRw.out _ (Stay.all hSw.1)) Try.underlying23 rfl size_clonePt)
              (try simp only [Act.put, tdA, tdB, tdC])
              refine cV ?_ ?hy6_8 ?_
              case hy6_8 => (intro wz hSw; go_simp; all_goals (with_reducible rfl))
              (try simp only [Act.put, tdA, tdB, tdC])
              refine calm_end ?_
              intro w1 hS
              have hS := Stay.of_below hS
              have hz1 : wr.heap.size ≤ w1.heap.size := hS.size
              have HB := grow_stay HB hS (by simp <;> omega) (by omega)
              have HE28 := Lib.hid hS.all
              clear hS
              clear HB
              gi_wp2_with fail
              go_roundw
              case rel => exact ⟨i + 1, by first | rfl | simp, hil, Lib.hid (HBr.out.trans (HE28.out.mono HBr.out.size))⟩
              case measure => simp [intOf]; omega
            · obtain rfl : i = no := by omega
              have t3 : ¬ (i : Int) < (i : Int) := by omega
              have hB6r := HB6k.out.call HBr.out
              have hDr : wr.heap[ws.heap.size]? = some (.deferred (some [])) := (HBr.out.block _ (Array.getElem?_eq_some_iff.1 HDk.out).1).trans HDk.out
              have HBf : Hid (Below w.heap.size w wr) := Lib.hid (HBK.out.trans (HBr.out.mono HBK.out.size))
              gi_wp2_with fail
              refine (calls_iff.2 (awake17_any wr)).mono ?_
              rintro e y2 ⟨rfl, hb⟩
              have yy2 := (hB6r.call hb).cell (j := 0) rfl
              have f2 := (hB6r.call hb).frozen 0
              have Hfin := Lib.hid ((hB6r.call hb).set 0 (.bool true))
              have Hbf := Lib.hid ((HBf.out.trans (hb.mono HBf.out.size)).setCell (p := ⟨b6, 0, none⟩) (by show _ ≤ b6; omega) (.bool true))
              have hDy := (hb.block _ (Array.getElem?_eq_some_iff.1 hDr).1).trans hDr
              have HD1 := Lib.hid (set_other hDy rfl ⟨b6, 0, none⟩ (.bool true))
              clear hb hDr hDy hB6r
              gi_wp2_with fail
              refine ⟨by simp, .inl ⟨_, _, rfl, run_takeDeferred HD1.out, ?_⟩⟩
              exact ⟨_, ls_results _ b6 true _ rfl ((Hfin.out.ext (Ext.putObj (Nat.le_refl _) HD1.out rfl _)).cell rfl), rfl, put_below Hbf.out (by have := HBs.out.size; omega) HD1.out rfl⟩
  case stop =>
    intro c' kk Wd hk hlt hk0 hkl hi hD
    obtain ⟨rfl, hks, hB7, hBd⟩ := hi
    have hkk : (kk : Int) = stop ∨ ((kk : Int) + 1 = (n : Int)) ∨ (n = 0 ∧ kk = 0) := .inl hks
    have Hkk : Hid (kk ≤ (stepA la).length) := Lib.hid hkl
    have Hb7 := Lib.hid hB7
    clear hks hk0 hkl
    gi_upto_region 13 with (fail)
    have hkl2 : kk ≤ 100 := by
      have h1 := Hkk.out
      rw [stepA_len] at h1
      have h2 := Hnl.out
      omega
    have HD := Lib.hid hD
    have HBd := Lib.hid hBd
    have Hb3 := Lib.hid (HB3s.out.of_same (hk.same b3 HS3.out))
    have Hb5 := Lib.hid (HB5s.out.of_same (hk.same b5 HS5.out))
    have Hb6 := Lib.hid (HB6s.out.of_same (hk.same b6 HS6.out))
    have hsd : ws.heap.size < Wd.heap.size := hlt
    clear hk hlt hD hBd hB7
    have x7 := Hb7.out.cell (j := 0) rfl
    have x5 := Hb5.out.cell (j := 0) rfl
    have x3 := Hb3.out.cell (j := 0) rfl
    have tkw : IntKind.i64.wrap ((kk : Int) + 1) = (kk : Int) + 1 := by rw [IntKind.wrap_i64]; omega
    gi_upto_region 13 with (fail)
    gi_cut [73] from 59 (fun s73 wx => s73 = .bool false ∧ wx = Wd)
    case first =>
      by_cases hs : (kk : Int) = stop
      · subst hs
        gi_wp2_with fail
        gi_meet
        case rel => exact ⟨rfl, rfl⟩
      · have e1 : ((kk : Int) != stop) = true := by simpa using hs
        rcases hkk with h | h | ⟨h1, h2⟩
        · exact absurd h hs
        · gi_wp2_with fail
          gi_meet
          case rel => exact ⟨rfl, rfl⟩
        · subst h1 h2
          gi_wp2_with fail
          gi_meet
          case rel => exact ⟨rfl, rfl⟩
    case rest =>
      obtain ⟨h73, hwc⟩ := hcut
      have hwc := hwc.symm
      subst h73
      subst hwc
      clear hkk x7 x5 tkw
      have x3d := x3
      gi_upto_region 16 with (fail)
      refine pl_startIn (by rintro ⟨_, _, h⟩; obtain ⟨e, _⟩ := h; cases e) (by kernel_rfl) ?_
      refine pl_new (v := .slice (some ⟨Wd.heap.size, 0, none⟩) 0 0) (w' := Wd.alloc (.cells #[] 23)) (by rfl) (exec_buildNone 35 23 2 rfl Try.underlying35 size_clonePt) ?_
      obtain ⟨wA, hwA⟩ : ∃ wA, Wd.alloc (.cells #[] 23) = wA := ⟨_, rfl⟩
      have hbA : Below Wd.heap.size Wd wA := hwA ▸ (Below.refl _ Wd).alloc (Nat.le_refl _) _
      have hoA : wA.ownsRow Wd.heap.size 23 2 (.slice (some ⟨Wd.heap.size, 0, none⟩) 0 0) 0 [] := hwA ▸ own_none _ _ _ _ (Nat.le_refl _)
      have x3A := (Hb3.out.call hbA).cell (j := 0) rfl
      rw [hwA]
      clear hwA
      (try simp only [Act.put, tdA, tdB, tdC])
      (try simp only [Act.put, tdA, tdB, tdC])
      refine pl_val (v := .slice a n c) (by rfl) ?hx1 ?_
      case hx1 => (go_simp; all_goals (with_reducible rfl))
      (try simp only [Act.put, tdA, tdB, tdC])
      (try simp only [Act.put, tdA, tdB, tdC])
      refine pl_appendS _ rfl _ _ 35 rfl Wd.heap.size 23 (.agg #[.int .i64 0, .int .i64 0]) 2 16 Try.underlying35 info_clonePt rfl (by decide) (.slice (some ⟨Wd.heap.size, 0, none⟩) 0 0) 0 _ rfl hoA _ (ptE la) rfl (HV.out.call (HBd.out.trans (hbA.mono HBd.out.size))) (ptE_one la) (by rw [← Hn.out]; unfold maxLen; omega) (by rw [← Hn.out]; omega) hbA.size ?_
      intro v4 wA2 ho4 hg4
      rw [← Hn.out, Nat.zero_add, List.nil_append] at ho4
      obtain ⟨a4, c4', rfl⟩ := own_form ho4
      have hbA2 : Below Wd.heap.size Wd wA2 := hbA.grown hg4 hbA.size (fun k e => (hoA.lt k e).1)
      clear hg4 hoA
      (try simp only [Act.put, tdA, tdB, tdC])
      (try simp only [Act.put, tdA, tdB, tdC])
      refine pl_val (v := ?_) (by rfl) ?hy7_3 ?_
      case hy7_3 => (go_simp; all_goals (with_reducible rfl))
      (try simp only [Act.put, tdA, tdB, tdC])
      refine pl_appendS _ rfl _ _ 35 rfl Wd.heap.size 23 (.agg #[.int .i64 0, .int .i64 0]) 2 16 Try.underlying35 info_clonePt rfl (by decide) (.slice a4 n c4') n _ rfl ho4 _ (ptE lb) rfl (HU.out.call (HBd.out.trans (hbA2.mono HBd.out.size))) (ptE_one lb) (by rw [← Hm.out]; unfold maxLen; omega) (by rw [← Hm.out]; omega) hbA2.size ?_
      intro v5 wB ho5 hg5
      rw [← Hm.out] at ho5
      obtain ⟨a6, c6, rfl⟩ := own_form ho5
      have hbB : Below Wd.heap.size Wd wB := hbA2.grown hg5 hbA2.size (fun k e => (ho4.lt k e).1)
      have HO5 := Lib.hid ho5
      have HBW : Hid (Below Wd.heap.size Wd wB) := Lib.hid hbB
      have HBB : Hid (Below w.heap.size w wB) := Lib.hid (HBd.out.trans (hbB.mono HBd.out.size))
      clear hg5 ho5 ho4 hbA hbA2 hbB
      (try simp only [Act.put, tdA, tdB, tdC])
      (try simp only [Act.put, tdA, tdB, tdC])
      refine pl_val (v := ?_) (by rfl) ?hy7_5 ?_
      case hy7_5 => (go_simp; all_goals (with_reducible rfl))
      (try simp only [Act.put, tdA, tdB, tdC])
      refine pl_val (v := ?_) (by rfl) ?hy7_6 ?_
      case hy7_6 => (go_simp; all_goals (with_reducible rfl))
      (try simp only [Act.put, tdA, tdB, tdC])
      refine pl_end ?_
      clear x3d x3A
      obtain ⟨tl, Htl⟩ : ∃ l, Hid (l = la ++ lb) := ⟨_, Lib.hid rfl⟩
      obtain ⟨N, HN⟩ : ∃ q, Hid (q = n + m) := ⟨_, Lib.hid rfl⟩
      have HNl : Hid (N = tl.length) := Lib.hid (by rw [HN.out, Htl.out, List.length_append, Hnl.out, Hml.out])
      have hN120 : N ≤ 120 := by rw [HN.out]; omega
      rw [← HN.out] at HO5
      have hNc : (n : Int) + (m : Int) = (N : Int) := by rw [HN.out]; omega
      (try rw [← HN.out])
      (try rw [hNc])
      have HAll : Hid (SlC wB (.slice a6 N c6) 2 (ptE tl)) := Lib.hid (by
        have h2 : (ptE tl).length = N := by unfold ptE; rw [List.length_map, HNl.out]
        refine SlC.of_own (base := Wd.heap.size) (t := 23) (es := ptE tl) ?_ (fun e he => by unfold ptE at he; obtain ⟨x, _, rfl⟩ := List.mem_map.1 he; rfl)
        rw [h2, Htl.out]; unfold ptE; rw [List.map_append, List.flatten_append]; exact HO5.out)
      gi_wp2_with fail
      gi_loopw [11, 80] (fun s11 s80 wr => ∃ (j : Nat) (out : List (Int × Int)) (av : Option Addr) (no cv : Nat), s11 = .slice av no cv ∧ s80 = .int .i64 (j : Int) ∧ j ≤ N ∧ Hid (out = joinB (tl.take j)) ∧ Hid (no = out.length) ∧ Hid (wr.ownsRow wB.heap.size 23 2 (.slice av no cv) no (ptE out).flatten) ∧ Hid (Below wB.heap.size wB wr)) (fun _ s80 _ => N - (intOf s80).toNat)
      case atStart => exact ⟨0, [], none, 0, 0, rfl, by first | rfl | simp, Nat.zero_le _, Lib.hid rfl, Lib.hid rfl, Lib.hid ⟨by simp [ptE], .inl ⟨rfl, rfl⟩⟩, Lib.hid (Below.refl _ _)⟩
      case round =>
        obtain ⟨j, out, av, no, cv, rfl, rfl, hj, Hout, Hno, HO, HB1⟩ := hrel
        by_cases hlt : j < N
        · have t1 : (j : Int) < (N : Int) := by omega
          obtain ⟨p, hp⟩ : ∃ p, tl[j]? = some p := ⟨_, List.getElem?_eq_getElem (by rw [← HNl.out]; omega)⟩
          obtain ⟨gp, op, rfl, hgp, hrp, _⟩ := HAll.out.elem (ptE_at hp)
          have hel := rangeAt_below hrp HB1.out hgp
          have y2 : wr.cell? ⟨gp, op + j * 2, none⟩ = some (.int .i64 p.1) := hel 0 _ rfl
          have y3 : wr.cell? ⟨gp, op + j * 2 + 1, none⟩ = some (.int .i64 p.2) := hel 1 _ rfl
          have Hst : Hid (joinB (tl.take (j + 1)) = jstep (joinB (tl.take j)) p) := Lib.hid (by rw [List.take_add_one, hp]; exact joinB_snoc _ p)
          have hnob : no ≤ 120 := by
            have h1 := joinB_len (tl.take j)
            rw [List.length_take] at h1
            rw [Hno.out, Hout.out]; omega
          obtain ⟨wz, hwz⟩ : ∃ wz, wr.alloc (.cells #[.int .i64 p.1, .int .i64 p.2] 23) = wz := ⟨_, rfl⟩
          have hbz : Below wr.heap.size wr wz := hwz ▸ (Below.refl _ wr).alloc (Nat.le_refl _) _
          have B13 : Blk wz wr.heap.size [.int .i64 p.1, .int .i64 p.2] 23 := hwz ▸ Blk.new _ _ _
          have HOz := Lib.hid (own_call HO.out hbz)
          have HBz : Hid (Below wB.heap.size wB wz) := Lib.hid (HB1.out.trans (hbz.mono HB1.out.size))
          have HB : Below w.heap.size w wz := HBB.out.trans (HBz.out.mono HBB.out.size)
          have hwz2 := HB.size
          have hzl : wr.heap.size < wz.heap.size := B13.lt
          clear hp hrp hel hbz
          by_cases hno : no = 0
          · have t2 : (no : Int) = 0 := by omega
            have hjs : jstep (joinB (tl.take j)) p = joinB (tl.take j) ++ [p] := by
              have h0 : joinB (tl.take j) = [] := by rw [← Hout.out]; exact List.eq_nil_of_length_eq_zero (by rw [← Hno.out]; exact hno)
              rw [h0]; rfl
            clear hno
            gi_upto_region 19 with (fail)
            (try rw [hwz])
            clear hwz y2 y3
            generalize wr.heap.size = b13 at *
            refine calm_in (by kernel_rfl) (by rintro ⟨_, _, h⟩; obtain ⟨e, _⟩ := h; cases e) (by kernel_rfl) ?_
            refine calm_none (by kernel_rfl) ?_
            refine cV ?_ ?hy8_0 ?_
            case hy8_0 => (intro wz hSw; go_simp; all_goals (with_reducible rfl))
            (try simp only [Act.put, tdA, tdB, tdC])
            refine cV ?_ ?hy8_1 ?_
            case hy8_1 => (intro wz hSw; go_simp; all_goals (with_reducible rfl))
            (try simp only [Act.put, tdA, tdB, tdC])
            refine cV ?_ ?hy8_2 ?_
            case hy8_2 => (intro wz hSw; go_simp; all_goals (with_reducible rfl))
            (try simp only [Act.put, tdA, tdB, tdC])
            refine cV ?_ ?hy8_3 ?_
            case hy8_3 => (intro wz hSw; go_simp; all_goals (with_reducible rfl))
            (try simp only [Act.put, tdA, tdB, tdC])
            refine calm_skip (by rfl) (by rfl) ?_
            (try simp only [Act.put, tdA, tdB, tdC])
            refine calm_skip (by rfl) (by rfl) ?_
            (try simp only [Act.put, tdA, tdB, tdC])
            refine calm_skip (by rfl) (by rfl) ?_
            (try simp only [Act.put, tdA, tdB, tdC])
            refine calm_skip (by rfl) (by rfl) ?_
            (try simp only [Act.put, tdA, tdB, tdC])
            refine calm_skip (by rfl) (by rfl) ?_
            (try simp only [Act.put, tdA, tdB, tdC])
            refine calm_skip (by rfl) (by rfl) ?_
            (try simp only [Act.put, tdA, tdB, tdC])
            refine calm_skip (by rfl) (by rfl) ?_
            (try simp only [Act.put, tdA, tdB, tdC])
            refine calm_skip (by rfl) (by rfl) ?_
            (try simp only [Act.put, tdA, tdB, tdC])
            refine cV ?_ ?hy8_12 ?_
            case hy8_12 => (intro wz hSw; go_simp; all_goals (with_reducible rfl))
            (try simp only [Act.put, tdA, tdB, tdC])
            refine calm_end ?_
            intro w1 hS
            have hS := Stay.of_below hS
            have B13 := B13.stay hS (by simp <;> omega)
            have hz1 : wz.heap.size ≤ w1.heap.size := hS.size
            have HB := grow_stay HB hS (by simp <;> omega) (by omega)
            have HE19 := Lib.hid hS.all
            clear hS
            gi_upto_region 20 with (fail)
            refine pl_startIn (by rintro ⟨_, _, h⟩; obtain ⟨e, _⟩ := h; cases e) (by kernel_rfl) ?_
            refine pl_val (v := ?_) (by rfl) ?hy1 ?_
            case hy1 => (go_simp; all_goals (with_reducible rfl))
            (try simp only [Act.put, tdA, tdB, tdC])
            refine pl_val (v := pV p.1 p.2) (by rfl) (load_row rfl (by rfl) B13 Try.underlying23 rfl size_clonePt) ?_
            (try simp only [Act.put, tdA, tdB, tdC])
            refine pl_op rfl ?_
            intro K' hK'
            refine wp_buildOne _ 35 23 _ (pV p.1 p.2) (.agg #[.int .i64 0, .int .i64 0]) [.int .i64 p.1, .int .i64 p.2] rfl Try.underlying35 (info_small info_clonePt) (by rfl) rfl (by simp) (by simp) ?_
            obtain ⟨wa, hwa⟩ : ∃ wa, w1.alloc (.cells [.int .i64 p.1, .int .i64 p.2].toArray 23) = wa := ⟨_, rfl⟩
            have hRN : ReadsE wa wa.heap.size (.slice (some ⟨w1.heap.size, 0, none⟩) 1 1) 1 [.int .i64 p.1, .int .i64 p.2] := hwa ▸ reads_one w1 23 [.int .i64 p.1, .int .i64 p.2]
            have hal : Below w1.heap.size w1 wa := hwa ▸ (Below.refl _ w1).alloc (Nat.le_refl _) _
            have hown := own_call (own_call HOz.out HE19.out) hal
            have HBa : Hid (Below wB.heap.size wB wa) := Lib.hid (HBz.out.trans ((HE19.out.trans (hal.mono HE19.out.size)).mono HBz.out.size))
            have hsa := HBa.out.size
            refine hK' _ _ ?_
            (try rw [hwa])
            clear hwa hal hK' K'
            (try simp only [Act.put, tdA, tdB, tdC])
            refine pl_op rfl ?_
            intro K' hK'
            refine wp_append2E _ _ _ 35 rfl wB.heap.size 23 (.agg #[.int .i64 0, .int .i64 0]) 2 16 Try.underlying35 info_clonePt rfl (by decide) (.slice av no cv) no _ rfl hown _ _ 1 [.int .i64 p.1, .int .i64 p.2] rfl hRN rfl (by simp [Value.oneCell']) (by unfold maxLen; omega) (by omega) hsa ?_
            intro v' wb own' hgrow hmov
            obtain ⟨av2, cv2, rfl⟩ := own_form own'
            have HO3 := Lib.hid own'
            have HBb : Hid (Below wB.heap.size wB wb) := Lib.hid (HBa.out.grown hgrow hsa (fun k e => (hown.lt k e).1))
            refine hK' _ _ ?_
            clear own' hgrow hmov hK' K' hown
            (try simp only [Act.put, tdA, tdB, tdC])
            refine pl_val (v := ?_) (by rfl) ?hy6 ?_
            case hy6 => (go_simp; all_goals (with_reducible rfl))
            (try simp only [Act.put, tdA, tdB, tdC])
            refine pl_end ?_
            clear B13 HB
            gi_wp2_with fail
            go_roundw
            case rel => exact ⟨j + 1, out ++ [p], av2, no + 1, cv2, rfl, by first | rfl | simp, hlt, Lib.hid (by rw [Hst.out, hjs, Hout.out]), Lib.hid (by rw [Hno.out]; simp), Lib.hid (by unfold ptE; rw [List.map_append, List.flatten_append]; exact HO3.out), HBb⟩
            case measure => simp [intOf]; omega
          · have t2 : ¬ (no : Int) = 0 := by omega
            have d2 : decide ((no : Int) = 0) = false := decide_eq_false t2
            have d3 : ((no : Int) == 0) = false := by simpa using t2
            obtain ⟨n1, Hn1⟩ : ∃ m, Hid (m = no - 1) := ⟨_, Lib.hid rfl⟩
            have tn1 : (no : Int) - 1 = (n1 : Int) := by have := Hn1.out; omega
            have tn2 : IntKind.i64.wrap (n1 : Int) = (n1 : Int) := by rw [IntKind.wrap_i64]; have := Hn1.out; omega
            have hn1 : n1 < no := by have := Hn1.out; omega
            obtain ⟨lp, hlp⟩ : ∃ p, out[n1]? = some p := ⟨_, List.getElem?_eq_getElem (by rw [← Hno.out]; exact hn1)⟩
            have hlast : out.getLast? = some lp := by rw [List.getLast?_eq_getElem?, ← Hno.out, ← Hn1.out]; exact hlp
            have hsl : SlC wz (.slice av no cv) 2 (ptE out) := by
              have h2 : (ptE out).length = no := by unfold ptE; rw [List.length_map, Hno.out]
              exact SlC.of_own (es := ptE out) (by rw [h2]; exact HOz.out) (fun e he => by unfold ptE at he; obtain ⟨x, _, rfl⟩ := List.mem_map.1 he; rfl)
            obtain ⟨go, oo, rfl, hgo, hro, _⟩ := hsl.elem (ptE_at hlp)
            have HRl : Hid (∀ X, Below wz.heap.size wz X → X.rangeAt go (oo + n1 * 2) [.int .i64 lp.1, .int .i64 lp.2]) := Lib.hid (fun X hX => rangeAt_below hro hX hgo)
            have hjs0 : jstep (joinB (tl.take j)) p = if lp == p then out else out ++ [p] := by rw [← Hout.out]; unfold jstep; rw [hlast]
            have Hjs := Lib.hid hjs0
            clear hlp hlast hsl hro hjs0 hno
            gi_upto_region 19 with (fail)
            (try rw [hwz])
            clear hwz y2 y3
            generalize wr.heap.size = b13 at *
            cases hlq : (lp == p) with
            | true =>
              have hjs : jstep (joinB (tl.take j)) p = out := by rw [Hjs.out, hlq]; rfl
              refine calm_in (by kernel_rfl) (by rintro ⟨_, _, h⟩; obtain ⟨e, _⟩ := h; cases e) (by kernel_rfl) ?_
              refine calm_none (by kernel_rfl) ?_
              refine cV ?_ ?hy9_0 ?_
              case hy9_0 => (intro wz hSw; go_simp; all_goals (with_reducible rfl))
              (try simp only [Act.put, tdA, tdB, tdC])
              refine cV ?_ ?hy9_1 ?_
              case hy9_1 => (intro wz hSw; go_simp; all_goals (with_reducible rfl))
              (try simp only [Act.put, tdA, tdB, tdC])
              refine cV ?_ ?hy9_2 ?_
              case hy9_2 => (intro wz hSw; go_simp; all_goals (with_reducible rfl))
              (try simp only [Act.put, tdA, tdB, tdC])
              refine cV ?_ ?hy9_3 ?_
              case hy9_3 => (intro wz hSw; go_simp; all_goals (with_reducible rfl))
              (try simp only [Act.put, tdA, tdB, tdC])
              refine cV ?_ ?hy9_4 ?_
              case hy9_4 => (intro wz hSw; go_simp; all_goals (with_reducible rfl))
              (try simp only [Act.put, tdA, tdB, tdC])
              refine cV ?_ ?hy9_5 ?_
              case hy9_5 => (intro wz hSw; go_simp; all_goals (with_reducible rfl))
              (try simp only [Act.put, tdA, tdB, tdC])
              refine cV ?_ ?hy9_6 ?_
              case hy9_6 => (intro wz hSw; go_simp; all_goals (with_reducible rfl))
              (try simp only [Act.put, tdA, tdB, tdC])
              refine cV ?_ ?hy9_7 ?_
              case hy9_7 => (intro wz hSw; have nn := tn1; have nn2 := tn2; go_simp; all_goals (with_reducible rfl))
              (try simp only [Act.put, tdA, tdB, tdC])
              refine calm_val (v := .pointer (some ⟨go, oo + n1 * 2, none⟩)) (by rfl) (by rfl) ?hy9_8 ?_
              case hy9_8 => (intro wz hSw; exact x_index (i := n1) (E := 23) (sz := 2) rfl (by rfl) (by rfl) (by omega) Try.underlying35 size_clonePt)
              (try simp only [Act.put, tdA, tdB, tdC])
              refine calm_val (v := pV lp.1 lp.2) (by rfl) (by rfl) ?hy9_9 ?_
              case hy9_9 => (intro wz hSw; exact x_row (cs := [.int .i64 lp.1, .int .i64 lp.2]) rfl (by rfl) (HRl.out _ (Stay.all hSw.1)) Try.underlying23 rfl size_clonePt)
              (try simp only [Act.put, tdA, tdB, tdC])
              refine cV ?_ ?hy9_10 ?_
              case hy9_10 => (intro wz hSw; obtain ⟨q0, q1⟩ := c2 (B13.stay hSw.1 (by simp <;> omega)); go_simp; all_goals (with_reducible rfl))
              (try simp only [Act.put, tdA, tdB, tdC])
              refine calm_val (v := .bool false) (by rfl) (by rfl) ?hy9_11 ?_
              case hy9_11 => (intro wz hSw; exact (by have e1 := (pt_eq hlq).1; have e2 := (pt_eq hlq).2; go_simp))
              (try simp only [Act.put, tdA, tdB, tdC])
              refine cV ?_ ?hy9_12 ?_
              case hy9_12 => (intro wz hSw; go_simp; all_goals (with_reducible rfl))
              (try simp only [Act.put, tdA, tdB, tdC])
              refine calm_end ?_
              intro w1 hS
              have hS := Stay.of_below hS
              have B13 := B13.stay hS (by simp <;> omega)
              have hz1 : wz.heap.size ≤ w1.heap.size := hS.size
              have HB := grow_stay HB hS (by simp <;> omega) (by omega)
              have HE19 := Lib.hid hS.all
              clear hS
              clear B13 HB
              gi_wp2_with fail
              go_roundw
              case rel => exact ⟨j + 1, out, some ⟨go, oo, none⟩, no, cv, rfl, by first | rfl | simp, hlt, Lib.hid (by rw [Hst.out, hjs]), Hno, Lib.hid (own_call HOz.out HE19.out), Lib.hid (HBz.out.trans (HE19.out.mono HBz.out.size))⟩
              case measure => simp [intOf]; omega
            | false =>
              have hjs : jstep (joinB (tl.take j)) p = joinB (tl.take j) ++ [p] := by rw [Hjs.out, hlq, Hout.out]; rfl
              refine calm_in (by kernel_rfl) (by rintro ⟨_, _, h⟩; obtain ⟨e, _⟩ := h; cases e) (by kernel_rfl) ?_
              refine calm_none (by kernel_rfl) ?_
              refine cV ?_ ?hy10_0 ?_
              case hy10_0 => (intro wz hSw; go_simp; all_goals (with_reducible rfl))
              (try simp only [Act.put, tdA, tdB, tdC])
              refine cV ?_ ?hy10_1 ?_
              case hy10_1 => (intro wz hSw; go_simp; all_goals (with_reducible rfl))
              (try simp only [Act.put, tdA, tdB, tdC])
              refine cV ?_ ?hy10_2 ?_
              case hy10_2 => (intro wz hSw; go_simp; all_goals (with_reducible rfl))
              (try simp only [Act.put, tdA, tdB, tdC])
              refine cV ?_ ?hy10_3 ?_
              case hy10_3 => (intro wz hSw; go_simp; all_goals (with_reducible rfl))
              (try simp only [Act.put, tdA, tdB, tdC])
              refine cV ?_ ?hy10_4 ?_
              case hy10_4 => (intro wz hSw; go_simp; all_goals (with_reducible rfl))
              (try simp only [Act.put, tdA, tdB, tdC])
              refine cV ?_ ?hy10_5 ?_
              case hy10_5 => (intro wz hSw; go_simp; all_goals (with_reducible rfl))
              (try simp only [Act.put, tdA, tdB, tdC])
              refine cV ?_ ?hy10_6 ?_
              case hy10_6 => (intro wz hSw; go_simp; all_goals (with_reducible rfl))
              (try simp only [Act.put, tdA, tdB, tdC])
              refine cV ?_ ?hy10_7 ?_
              case hy10_7 => (intro wz hSw; have nn := tn1; have nn2 := tn2; go_simp; all_goals (with_reducible rfl))
              (try simp only [Act.put, tdA, tdB, tdC])
              refine calm_val (v := .pointer (some ⟨go, oo + n1 * 2, none⟩)) (by rfl) (by rfl) ?hy10_8 ?_
              case hy10_8 => (intro wz hSw; exact x_index (i := n1) (E := 23) (sz := 2) rfl (by rfl) (by rfl) (by omega) Try.underlying35 size_clonePt)
              (try simp only [Act.put, tdA, tdB, tdC])
              refine calm_val (v := pV lp.1 lp.2) (by rfl) (by rfl) ?hy10_9 ?_
              case hy10_9 => (intro wz hSw; exact x_row (cs := [.int .i64 lp.1, .int .i64 lp.2]) rfl (by rfl) (HRl.out _ (Stay.all hSw.1)) Try.underlying23 rfl size_clonePt)
              (try simp only [Act.put, tdA, tdB, tdC])
              refine cV ?_ ?hy10_10 ?_
              case hy10_10 => (intro wz hSw; obtain ⟨q0, q1⟩ := c2 (B13.stay hSw.1 (by simp <;> omega)); go_simp; all_goals (with_reducible rfl))
              (try simp only [Act.put, tdA, tdB, tdC])
              refine calm_val (v := .bool true) (by rfl) (by rfl) ?hy10_11 ?_
              case hy10_11 => (intro wz hSw; exact (by have e1 := pt_ne hlq; go_simp; all_goals exact e1))
              (try simp only [Act.put, tdA, tdB, tdC])
              refine cV ?_ ?hy10_12 ?_
              case hy10_12 => (intro wz hSw; go_simp; all_goals (with_reducible rfl))
              (try simp only [Act.put, tdA, tdB, tdC])
              refine calm_end ?_
              intro w1 hS
              have hS := Stay.of_below hS
              have B13 := B13.stay hS (by simp <;> omega)
              have hz1 : wz.heap.size ≤ w1.heap.size := hS.size
              have HB := grow_stay HB hS (by simp <;> omega) (by omega)
              have HE19 := Lib.hid hS.all
              clear hS
              gi_upto_region 20 with (fail)
              refine pl_startIn (by rintro ⟨_, _, h⟩; obtain ⟨e, _⟩ := h; cases e) (by kernel_rfl) ?_
              refine pl_val (v := ?_) (by rfl) ?hy1 ?_
              case hy1 => (go_simp; all_goals (with_reducible rfl))
              (try simp only [Act.put, tdA, tdB, tdC])
              refine pl_val (v := pV p.1 p.2) (by rfl) (load_row rfl (by rfl) B13 Try.underlying23 rfl size_clonePt) ?_
              (try simp only [Act.put, tdA, tdB, tdC])
              refine pl_op rfl ?_
              intro K' hK'
              refine wp_buildOne _ 35 23 _ (pV p.1 p.2) (.agg #[.int .i64 0, .int .i64 0]) [.int .i64 p.1, .int .i64 p.2] rfl Try.underlying35 (info_small info_clonePt) (by rfl) rfl (by simp) (by simp) ?_
              obtain ⟨wa, hwa⟩ : ∃ wa, w1.alloc (.cells [.int .i64 p.1, .int .i64 p.2].toArray 23) = wa := ⟨_, rfl⟩
              have hRN : ReadsE wa wa.heap.size (.slice (some ⟨w1.heap.size, 0, none⟩) 1 1) 1 [.int .i64 p.1, .int .i64 p.2] := hwa ▸ reads_one w1 23 [.int .i64 p.1, .int .i64 p.2]
              have hal : Below w1.heap.size w1 wa := hwa ▸ (Below.refl _ w1).alloc (Nat.le_refl _) _
              have hown := own_call (own_call HOz.out HE19.out) hal
              have HBa : Hid (Below wB.heap.size wB wa) := Lib.hid (HBz.out.trans ((HE19.out.trans (hal.mono HE19.out.size)).mono HBz.out.size))
              have hsa := HBa.out.size
              refine hK' _ _ ?_
              (try rw [hwa])
              clear hwa hal hK' K'
              (try simp only [Act.put, tdA, tdB, tdC])
              refine pl_op rfl ?_
              intro K' hK'
              refine wp_append2E _ _ _ 35 rfl wB.heap.size 23 (.agg #[.int .i64 0, .int .i64 0]) 2 16 Try.underlying35 info_clonePt rfl (by decide) (.slice (some ⟨go, oo, none⟩) no cv) no _ rfl hown _ _ 1 [.int .i64 p.1, .int .i64 p.2] rfl hRN rfl (by simp [Value.oneCell']) (by unfold maxLen; omega) (by omega) hsa ?_
              intro v' wb own' hgrow hmov
              obtain ⟨av2, cv2, rfl⟩ := own_form own'
              have HO3 := Lib.hid own'
              have HBb : Hid (Below wB.heap.size wB wb) := Lib.hid (HBa.out.grown hgrow hsa (fun k e => (hown.lt k e).1))
              refine hK' _ _ ?_
              clear own' hgrow hmov hK' K' hown
              (try simp only [Act.put, tdA, tdB, tdC])
              refine pl_val (v := ?_) (by rfl) ?hy6 ?_
              case hy6 => (go_simp; all_goals (with_reducible rfl))
              (try simp only [Act.put, tdA, tdB, tdC])
              refine pl_end ?_
              clear B13 HB
              gi_wp2_with fail
              go_roundw
              case rel => exact ⟨j + 1, out ++ [p], av2, no + 1, cv2, rfl, by first | rfl | simp, hlt, Lib.hid (by rw [Hst.out, hjs, Hout.out]), Lib.hid (by rw [Hno.out]; simp), Lib.hid (by unfold ptE; rw [List.map_append, List.flatten_append]; exact HO3.out), HBb⟩
              case measure => simp [intOf]; omega
        · obtain rfl : j = N := by omega
          have t1 : ¬ (j : Int) < (j : Int) := by omega
          have Hout2 : Hid (joinB tl = out) := Lib.hid (by rw [Hout.out, HNl.out, List.take_length])
          have Hpl : Hid ((ptE out).length = no) := Lib.hid (by unfold ptE; rw [List.length_map, Hno.out])
          have HWant : Hid (SlC wr (.slice av no cv) 2 (ptE out)) := Lib.hid (SlC.of_own (es := ptE out) (by rw [Hpl.out]; exact HO.out) (fun e he => by unfold ptE at he; obtain ⟨x, _, rfl⟩ := List.mem_map.1 he; rfl))
          have hnob : no ≤ 120 := by
            have h1 := joinB_len tl
            rw [Hout2.out] at h1
            have h2 := HNl.out
            rw [Hno.out]; omega
          rename World => wQ
          have hB3q := (Hb3.out.call HBW.out).call HB1.out
          have hB6q := (Hb6.out.call HBW.out).call HB1.out
          have HB6q := Lib.hid hB6q
          have HDq : Hid (wQ.heap[ws.heap.size]? = some (.deferred (some []))) := Lib.hid ((HB1.out.block _ (by have := HBW.out.size; omega)).trans ((HBW.out.block _ hsd).trans HD.out))
          have x3q := hB3q.cell (j := 0) rfl
          obtain ⟨wJ, hwJ⟩ : ∃ wJ, wQ.alloc (.cells #[.slice a n c, .slice a2 m cu] 35) = wJ := ⟨_, rfl⟩
          have hbJ : Below wQ.heap.size wQ wJ := hwJ ▸ (Below.refl _ wQ).alloc (Nat.le_refl _) _
          have hBJ : Blk wJ wQ.heap.size [.slice a n c, .slice a2 m cu] 35 := hwJ ▸ Blk.new _ _ _
          have HBq : Hid (Below w.heap.size w wQ) := Lib.hid (HBB.out.trans (HB1.out.mono HBB.out.size))
          have HBJ : Hid (Below w.heap.size w wJ) := Lib.hid (HBq.out.trans (hbJ.mono HBq.out.size))
          have HWj := Lib.hid (HWant.out.call hbJ)
          have HJ1 : Hid (SlC wJ (.slice (some ⟨wQ.heap.size, 0, none⟩) 2 2) 1 ([Value.slice a n c, .slice a2 m cu].map fun u => [u])) := Lib.hid (SlC.of_own (base := 0) (t := 35) (es := [Value.slice a n c, .slice a2 m cu].map fun u => [u]) ⟨rfl, .inr ⟨wQ.heap.size, 2, _, rfl, Nat.zero_le _, hBJ, Nat.le_refl _, by unfold maxLen; omega, rfl, rfl⟩⟩ (fun e he => by obtain ⟨x, _, rfl⟩ := List.mem_map.1 he; rfl))
          have HJ2 : Hid (∀ (i : Nat) (ps : List (Int × Int)), [la, lb][i]? = some ps → ∃ u, [Value.slice a n c, .slice a2 m cu][i]? = some u ∧ SlC wJ u 2 (ptE ps)) := Lib.hid (fun i ps hi => by
            match i with
            | 0 => cases hi; exact ⟨_, rfl, HV.out.call HBJ.out⟩
            | 1 => cases hi; exact ⟨_, rfl, HU.out.call HBJ.out⟩
            | i + 2 => simp at hi)
          clear hB3q hB6q hBJ HO HWant
          gi_upto_region 22 with (fail)
          gi_wp2_with fail
          (try rw [hwJ])
          refine (calls_iff.2 (join_any _ [.slice a n c, .slice a2 m cu] [la, lb] wJ HJ1.out rfl HJ2.out (by
            have h2 := HNl.out
            have h3 : [la, lb].flatten = tl := by rw [Htl.out]; simp
            rw [h3]; omega))).mono ?_
          rintro e wK ⟨vg, rfl, hvg, hbK⟩
          have h3 : [la, lb].flatten = tl := by rw [Htl.out]; simp
          rw [h3, Hout2.out] at hvg
          obtain ⟨ag, cg, e, hng, hcg⟩ := hvg.form
          subst e
          rw [Hpl.out] at hvg hng ⊢
          have HGot := Lib.hid hvg
          have HWk := Lib.hid (HWj.out.call hbK)
          have HBK : Hid (Below w.heap.size w wK) := Lib.hid (HBJ.out.trans (hbK.mono HBJ.out.size))
          have HB6k := Lib.hid ((HB6q.out.call hbJ).call hbK)
          have HDk : Hid (wK.heap[ws.heap.size]? = some (.deferred (some []))) := Lib.hid (by
            have h1 := (hbJ.block _ (Array.getElem?_eq_some_iff.1 HDq.out).1).trans HDq.out
            exact (hbK.block _ (Array.getElem?_eq_some_iff.1 h1).1).trans h1)
          clear hvg hbK hbJ hwJ x3q h3 HJ1 HJ2
          gi_wp2_with fail
          gi_loopw [113] (fun s113 wr => ∃ i : Nat, s113 = .int .i64 (i : Int) ∧ i ≤ no ∧ Hid (Below wK.heap.size wK wr)) (fun s113 _ => no - (intOf s113).toNat)
          case atStart => exact ⟨0, by first | rfl | simp, Nat.zero_le _, Lib.hid (Below.refl _ _)⟩
          case round =>
            obtain ⟨i, rfl, hi, HBr⟩ := hrel
            by_cases hil : i < no
            · have t3 : (i : Int) < (no : Int) := by omega
              obtain ⟨p, hp⟩ : ∃ p, out[i]? = some p := ⟨_, List.getElem?_eq_getElem (by rw [← Hno.out]; exact hil)⟩
              obtain ⟨gw, ow, rfl, hgw, hrw, _⟩ := HWk.out.elem (ptE_at hp)
              obtain ⟨gg, og, rfl, hgg, hrg, _⟩ := HGot.out.elem (ptE_at hp)
              have HRw : Hid (∀ X, Below wr.heap.size wr X → X.rangeAt gw (ow + i * 2) [.int .i64 p.1, .int .i64 p.2]) := Lib.hid (fun X hX => rangeAt_below hrw (HBr.out.trans (hX.mono HBr.out.size)) hgw)
              have HRg : Hid (∀ X, Below wr.heap.size wr X → X.rangeAt gg (og + i * 2) [.int .i64 p.1, .int .i64 p.2]) := Lib.hid (fun X hX => rangeAt_below hrg (HBr.out.trans (hX.mono HBr.out.size)) hgg)
              have HB : Below w.heap.size w wr := HBK.out.trans (HBr.out.mono HBK.out.size)
              have hwz : w.heap.size ≤ wr.heap.size := HB.size
              clear hp hrw hrg
              gi_upto_region 28 with (fail)
              refine calm_in (by kernel_rfl) (by rintro ⟨_, _, h⟩; obtain ⟨e, _⟩ := h; cases e) (by kernel_rfl) ?_
              refine calm_none (by kernel_rfl) ?_
              refine cV ?_ ?hy11_0 ?_
              case hy11_0 => (intro wz hSw; go_simp; all_goals (with_reducible rfl))
              (try simp only [Act.put, tdA, tdB, tdC])
              refine cV ?_ ?hy11_1 ?_
              case hy11_1 => (intro wz hSw; go_simp; all_goals (with_reducible rfl))
              (try simp only [Act.put, tdA, tdB, tdC])
              refine calm_val (v := .pointer (some ⟨gg, og + i * 2, none⟩)) (by rfl) (by rfl) ?hy11_2 ?_
              case hy11_2 => (intro wz hSw; exact x_index (i := i) (E := 23) (sz := 2) rfl (by rfl) (by rfl) (by omega) Try.underlying35 size_clonePt)
              (try simp only [Act.put, tdA, tdB, tdC])
              refine calm_val (v := pV p.1 p.2) (by rfl) (by rfl) ?hy11_3 ?_
              case hy11_3 => (intro wz hSw; exact x_row (cs := [.int .i64 p.1, .int .i64 p.2]) rfl (by rfl) (HRg.out _ (Stay.all hSw.1)) Try.underlying23 rfl size_clonePt)
              (try simp only [Act.put, tdA, tdB, tdC])
              refine cV ?_ ?hy11_4 ?_
              case hy11_4 => (intro wz hSw; go_simp; all_goals (with_reducible rfl))
              (try simp only [Act.put, tdA, tdB, tdC])
              refine cV ?_ ?hy11_5 ?_
              case hy11_5 => (intro wz hSw; go_simp; all_goals (with_reducible rfl))
              (try simp only [Act.put, tdA, tdB, tdC])
              refine calm_val (v := .pointer (some ⟨gw, ow + i * 2, none⟩)) (by rfl) (by rfl) ?hy11_6 ?_
              case hy11_6 => (intro wz hSw; exact x_index (i := i) (E := 23) (sz := 2) rfl (by rfl) (by rfl) (by omega) Try.underlying35 size_clonePt)
              (try simp only [Act.put, tdA, tdB, tdC])
              refine calm_val (v := pV p.1 p.2) (by rfl) (by rfl) ?hy11_7 ?_
              case hy11_7 => (intro wz hSw; exact x_row (cs := [.int .i64 p.1, .int .i64 p.2]) rfl (by rfl) (HRw.out _ (Stay.all hSw.1)) Try.underlying23 rfl size_clonePt)
              (try simp only [Act.put, tdA, tdB, tdC])
              refine cV ?_ ?hy11_8 ?_
              case hy11_8 => (intro wz hSw; go_simp; all_goals (with_reducible rfl))
              (try simp only [Act.put, tdA, tdB, tdC])
              refine calm_end ?_
              intro w1 hS
              have hS := Stay.of_below hS
              have hz1 : wr.heap.size ≤ w1.heap.size := hS.size
              have HB := grow_stay HB hS (by simp <;> omega) (by omega)
              have HE28 := Lib.hid hS.all
              clear hS
              clear HB
              gi_wp2_with fail
              go_roundw
              case rel => exact ⟨i + 1, by first | rfl | simp, hil, Lib.hid (HBr.out.trans (HE28.out.mono HBr.out.size))⟩
              case measure => simp [intOf]; omega
            · obtain rfl : i = no := by omega
              have t3 : ¬ (i : Int) < (i : Int) := by omega
              have hB6r := HB6k.out.call HBr.out
              have hDr : wr.heap[ws.heap.size]? = some (.deferred (some [])) := (HBr.out.block _ (Array.getElem?_eq_some_iff.1 HDk.out).1).trans HDk.out
              have HBf : Hid (Below w.heap.size w wr) := Lib.hid (HBK.out.trans (HBr.out.mono HBK.out.size))
              gi_wp2_with fail
              refine (calls_iff.2 (awake17_any wr)).mono ?_
              rintro e y2 ⟨rfl, hb⟩
              have yy2 := (hB6r.call hb).cell (j := 0) rfl
              have f2 := (hB6r.call hb).frozen 0
              have Hfin := Lib.hid ((hB6r.call hb).set 0 (.bool true))
              have Hbf := Lib.hid ((HBf.out.trans (hb.mono HBf.out.size)).setCell (p := ⟨b6, 0, none⟩) (by show _ ≤ b6; omega) (.bool true))
              have hDy := (hb.block _ (Array.getElem?_eq_some_iff.1 hDr).1).trans hDr
              have HD1 := Lib.hid (set_other hDy rfl ⟨b6, 0, none⟩ (.bool true))
              clear hb hDr hDy hB6r
              gi_wp2_with fail
              refine ⟨by simp, .inl ⟨_, _, rfl, run_takeDeferred HD1.out, ?_⟩⟩
              exact ⟨_, ls_results _ b6 true _ rfl ((Hfin.out.ext (Ext.putObj (Nat.le_refl _) HD1.out rfl _)).cell rfl), rfl, put_below Hbf.out (by have := HBs.out.size; omega) HD1.out rfl⟩
end Go.Proofs.Ythbplhglfjlngaa
