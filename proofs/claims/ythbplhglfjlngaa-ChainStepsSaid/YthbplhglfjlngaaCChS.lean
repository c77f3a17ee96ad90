/- ChainSteps: for every argument the law returns true, and the arguments read as they did. No condition. -/
import Derived.Test.YthbplhglfjlngaaGCn
import Derived.Test.YthbplhglfjlngaaGCo
import Derived.Test.YthbplhglfjlngaaRows
import Derived.WalkKit
import Derived.ProofKit
import Derived.OpenShut
import Derived.ShutString
import Derived.Lib.SmallJoins
import Derived.ReadAgain
namespace Go.Proofs.Ythbplhglfjlngaa.chainSteps
open Go.ChangeShapes Go.WideShapes Go.ChangeAt Go.RowKit Go.Joins Go.Rg Go.Wd
set_option linter.unusedVariables false
set_option linter.unusedSimpArgs false

theorem own : ownKnob Try.prog.godebug = none := by kernel_rfl
theorem kids : Kids Try.prog (· < Try.prog.types.size) := kids_rows (by kernel_rfl) (by kernel_rfl)
theorem full : ∀ t e, t < Try.prog.types.size → Try.prog.underlying t = some (.slice e) → 0 < Try.prog.cellsOf e := slices_full_of Try.prog (by kernel_rfl)

set_option maxRecDepth 100000 in
theorem lifted (os : Os) (started : os.Started) (H : Type) (enc : TypeId × Value → H) :
    ReturnsInHanded {} Try.checked os 4 .any (Rows.chainStepsSpec.pre6 enc Try.prog Try.f4 Rows.chainStepsRow.domain false) (Rows.chainStepsSpec.post enc Try.prog Try.f4 false true false false) := by
  refine returnsInHanded_of_change (C := Try.checked) own started (by kernel_rfl) Try.func4
    (ChangeSpec.witness6 (enc := enc) (C := Try.checked) false ⟨#[], #[.slice none 0 0, .slice none 0 0, .int .i64 0], []⟩ 8 (by kernel_rfl) (by kernel_rfl) (by kernel_rfl) (by kernel_rfl)) ?_
  intro W base args ds gs before hval0 hW hcnd _
  have hval : ∀ (j : Nat) t v, Try.f4.params[j]? = some t → args[j]? = some v → Value.okWide Try.prog W .any base t v := hval0
  have hW' := hW
  obtain ⟨p, q, hA0, hV, rfl, hfz, hnd⟩ := hW
  have hA : DataW.TrodAll enc Try.prog W 0 (fun _ => true) true Try.f4.params.toList args.toList ds p := hA0
  rw [Try.params4] at hA hval
  obtain ⟨v0, vs0, d0, ds0, p0, q0, hargs, rfl, rfl, h0, r0⟩ := trodAll_cons hA
  obtain ⟨v1, vs1, d1, ds1, p1, q1, rfl, rfl, rfl, h1, r1⟩ := trodAll_cons r0
  obtain ⟨v2, vs2, d2, ds2, p2, q2, rfl, rfl, rfl, h2, r2⟩ := trodAll_cons r1
  obtain ⟨rfl, rfl, rfl⟩ := trodAll_nil r2
  obtain rfl : args = #[v0, v1, v2] := by cases args; simp_all
  obtain ⟨rfl, rfl⟩ := trodVars_none hV
  obtain ⟨fuel0, hf0⟩ := h0
  have hlt0 : ∀ p ∈ p0, p.block < W.heap.size := fun p hp => DataW.trod_lt fuel0 _ _ _ hf0 p hp
  obtain ⟨x0, len0, cap0, rfl⟩ := okWide_slice Try.underlying35 (hval 0 35 v0 rfl rfl)
  obtain ⟨u0, l0, hcs0, s0, m0⟩ := Op.open_pts hf0
  have hu0 : u0 = .slice x0 len0 cap0 := by simpa [Value.cells] using hcs0.symm
  subst hu0
  obtain ⟨fuel1, hf1⟩ := h1
  have hlt1 : ∀ p ∈ p1, p.block < W.heap.size := fun p hp => DataW.trod_lt fuel1 _ _ _ hf1 p hp
  obtain ⟨x1, len1, cap1, rfl⟩ := okWide_slice Try.underlying35 (hval 1 35 v1 rfl rfl)
  obtain ⟨u1, l1, hcs1, s1, m1⟩ := Op.open_pts hf1
  have hu1 : u1 = .slice x1 len1 cap1 := by simpa [Value.cells] using hcs1.symm
  subst hu1
  obtain ⟨fuel2, hf2⟩ := h2
  have hlt2 : ∀ p ∈ p2, p.block < W.heap.size := fun p hp => DataW.trod_lt fuel2 _ _ _ hf2 p hp
  obtain ⟨a2, rfl⟩ := okWide_int Try.underlying3 (hval 2 3 v2 rfl rfl)
  clear hA0 hval0 hval hA
  simp only [List.append_nil] at hW'
  refine (lawStepsV (.slice x0 len0 cap0) (.slice x1 len1 cap1) l0 l1 a2 W s0 s1).mono fun e W' ⟨he, hbl⟩ => ?_
  subst he
  have hag : DataW.TrodAll enc Try.prog W' 0 (fun _ => true) true [35, 35, 3] [.slice x0 len0 cap0, .slice x1 len1 cap1, .int .i64 a2] [d0, d1, d2] (p0 ++ (p1 ++ (p2 ++ []))) := (trodAll_cons_mk ⟨fuel0, DataW.trod_carry fuel0 _ _ _ hf0 (fun p hp => hbl.same (hlt0 p hp))⟩ (trodAll_cons_mk ⟨fuel1, DataW.trod_carry fuel1 _ _ _ hf1 (fun p hp => hbl.same (hlt1 p hp))⟩ (trodAll_cons_mk ⟨fuel2, DataW.trod_carry fuel2 _ _ _ hf2 (fun p hp => hbl.same (hlt2 p hp))⟩ trodAll_mk0)))
  have hall : ∀ p ∈ (p0 ++ (p1 ++ (p2 ++ []))), p.block < W.heap.size := by
    intro p hp
    simp only [List.append_nil, List.mem_append] at hp
    rcases hp with hp | hp | hp
    · exact hlt0 p hp
    · exact hlt1 p hp
    · exact hlt2 p hp
  refine ⟨_, rfl, _, _, _, [], (p0 ++ (p1 ++ (p2 ++ []))), [], hW', (trodAll_cons_mk (shut_bool Try.underlying4 _) trodAll_mk0), ?_, rfl, hbl.frame _, fun h => by cases h⟩
  have := DataW.TrodAll.respare (spare' := fun b => decide (b < W.heap.size)) kids full (by decide +kernel) hag (fun p hp => by simpa using hall p hp)
  exact this

theorem over : Rows.chainStepsRow.holds Try.pinned (OpenSpec.ofChange Rows.chainStepsSpec) :=
  OpenClaim.holds_of_wide 4 Try.f4 rfl rfl rfl rfl rfl rfl rfl ⟨rfl, rfl, rfl, rfl, rfl⟩ rfl rfl rfl rfl rfl (by kernel_rfl) Try.func4 (by kernel_rfl)
    (of_decide_eq_true (by kernel_rfl)) (by unfold Func.isWrapper; first | (rw [if_pos (by decide +kernel)]; kernel_rfl) | (rw [if_neg (by decide +kernel)]; exact ⟨rfl, rfl⟩))
    (fun os started H enc _ => lifted os started H enc)

theorem proved : Rows.ChainStepsSaid :=
  over
end Go.Proofs.Ythbplhglfjlngaa.chainSteps
