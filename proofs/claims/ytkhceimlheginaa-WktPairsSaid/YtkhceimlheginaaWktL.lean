import Derived.Test.YtkhceimlheginaaWktK
set_option linter.unusedVariables false
set_option linter.unusedSimpArgs false
namespace Go.Proofs.Ytkhceimlheginaa
open Go.RowKit Go.Rg
attribute [local go_sem] Oper.semAt_some

def aw1 : Lx.Str := [71, 69, 79, 77, 69, 84, 82, 89, 67, 79, 76, 76, 69, 67, 84, 73, 79, 78, 40, 80, 111, 105, 110, 116, 40, 49, 32, 50, 41, 44, 32, 76, 73, 78, 69, 83, 84, 82, 73, 78, 71, 32, 69, 77, 80, 84, 89, 41]
def aw2 : Lx.Str := [80, 79, 73, 78, 84, 40, 49, 32, 50]
theorem aw1_parse : Wk.parse aw1 = .ok [⟨7, 0, [], []⟩, ⟨1, 1, [[([49], [50])]], []⟩, ⟨2, 1, [], []⟩] := by kernel_rfl
theorem aw2_parse : Wk.parse aw2 = .error 9 := by kernel_rfl

theorem rdT_opens {T : TypeId} {w : World} {v : Value} {n : Nat} {xs : List Value} (h : RdT T w v n xs) (hx : xs ≠ []) :
    ∃ g off cap, v = .slice (some ⟨g, off, none⟩) n cap ∧ g < w.heap.size ∧ n ≤ cap ∧ cap ≤ maxLen ∧ ∀ j x, xs[j]? = some x → w.cell? ⟨g, off + j, none⟩ = some x := by
  rcases h.reads with ⟨_, _, h⟩ | ⟨g, off, cap, h1, h2, h3, h4, h5⟩
  · exact absurd h hx
  · exact ⟨g, off, cap, h1, h2, h3, h4, h5⟩

set_option maxRecDepth 100000 in
set_option maxHeartbeats 4000000 in
theorem awake11_any (w : World) : Calls Try.prog 21 #[] w fun e w' => e = .returned (.bool true) ∧ Below w.heap.size w w' := by
  go_enter Try.func21, Try.ntmps21
  go_wp2_with fail
  refine (parse_any ⟨aw1.toArray⟩ _ (by decide)).mono ?_
  rintro e w1 ⟨v1, at1, er1, rfl, h1, hb1⟩
  go_wp2_with fail
  refine (parse_any ⟨aw2.toArray⟩ _ (by decide)).mono ?_
  rintro e w2 ⟨v2, at2, er2, rfl, h2, hb2⟩
  unfold parseRes at h1 h2
  simp only [aw1_parse] at h1
  simp only [aw2_parse] at h2
  obtain ⟨⟨R, cs, hv, hg⟩, rfl, rfl⟩ := h1
  obtain ⟨rfl, rfl, rfl⟩ := h2
  have kp := fun T => KeepT.call (T := T) hb2
  have hv := hv.keep (kp _)
  have hg := hg.keep (kp _) (kp _) (kp _)
  have hb := hb1.trans (hb2.mono hb1.size)
  obtain ⟨va, ua, ds1, rfl, _, vb, ub, ds2, rfl, hB, vc, uc, ds3, rfl, hC, rfl⟩ := hg
  obtain ⟨vs, hp1, hp2, _⟩ := hB
  obtain ⟨vs3, hq1, hq2, _⟩ := hC
  cases vs with
  | nil => exact hp2.elim
  | cons x vs =>
    obtain ⟨⟨hx, _⟩, hvs⟩ := hp2
    cases vs with
    | cons y vs => exact hvs.elim
    | nil =>
      obtain ⟨g, off, cap, rfl, hgl, hcl, hcm, hc⟩ := rdT_opens hv (by simp)
      obtain ⟨g1, off1, cap1, rfl, hgl1, hcl1, hcm1, hc1⟩ := rdT_opens hp1 (by simp)
      obtain ⟨g2, off2, cap2, rfl, hgl2, hcl2, hcm2, hc2⟩ := rdT_opens hx (by simp [flatP, prC])
      obtain ⟨a3, c3, rfl⟩ := pair_form (R := 0) hq1
      have c4 := hc 4 _ rfl
      have c5 := hc 5 _ rfl
      have c6 := hc 6 _ rfl
      have c10 := hc 10 _ rfl
      have d0 := hc1 0 _ rfl
      have e0 := hc2 0 _ rfl
      have e1 := hc2 1 _ rfl
      unfold maxLen at hcm hcm1 hcm2
      have c4 : w2.cell? ⟨g, off + 4, none⟩ = some (.int .i64 1) := c4
      have c5 : w2.cell? ⟨g, off + 5, none⟩ = some (.int .i64 1) := c5
      have d0 : w2.cell? ⟨g1, off1, none⟩ = some (.slice (some ⟨g2, off2, none⟩) 1 cap2) := d0
      have e0 : w2.cell? ⟨g2, off2, none⟩ = some (.string ⟨#[49]⟩) := e0
      simp only [List.length_cons, List.length_nil, Nat.zero_add] at c6 c10 hcl hcl1 hcl2
      have hw2 := hb.size
      clear hc hc1 hc2 hv hp1 hx hq1 hq2 hb1 hb2 kp hvs
      go_wp2_with fail
      refine (name_any 3 _).mono ?_
      rintro e w3 ⟨rfl, hb3⟩
      have hn : Wk.name 3 = [80, 79, 76, 89, 71, 79, 78] := by decide
      simp only [hn]
      have hb := hb.trans (hb3.mono hw2)
      clear hn hb3
      go_wp2_with fail
      go_ret
      exact ⟨rfl, hb⟩
end Go.Proofs.Ytkhceimlheginaa
