/- ChainNear: for every argument the law returns true, and the arguments read as they did. No condition. -/
import Derived.Test.YthbplhglfjlngaaGNt
import Derived.Test.YthbplhglfjlngaaGNo
import Derived.Test.YthbplhglfjlngaaGNo
import Derived.Test.YthbplhglfjlngaaRows
import Derived.WalkKit
import Derived.ProofKit
import Derived.OpenShut
import Derived.ShutString
import Derived.Lib.SmallJoins
import Derived.ReadAgain
namespace Go.Proofs.Ythbplhglfjlngaa.chainNear
open Go.ChangeShapes Go.WideShapes Go.ChangeAt Go.RowKit Go.Joins Go.Rg Go.Wd
set_option linter.unusedVariables false
set_option linter.unusedSimpArgs false

theorem own : ownKnob Try.prog.godebug = none := by kernel_rfl
theorem kids : Kids Try.prog (· < Try.prog.types.size) := kids_rows (by kernel_rfl) (by kernel_rfl)
theorem full : ∀ t e, t < Try.prog.types.size → Try.prog.underlying t = some (.slice e) → 0 < Try.prog.cellsOf e := slices_full_of Try.prog (by kernel_rfl)

set_option maxRecDepth 100000 in
theorem lifted (os : Os) (started : os.Started) (H : Type) (enc : TypeId × Value → H) :
    ReturnsInHanded {} Try.checked os 3 .any (Rows.chainNearSpec.pre6 enc Try.prog Try.f3 Rows.chainNearRow.domain false) (Rows.chainNearSpec.post enc Try.prog Try.f3 false true false false) := by
  refine returnsInHanded_of_change (C := Try.checked) own started (by kernel_rfl) Try.func3
    (ChangeSpec.witness6 (enc := enc) (C := Try.checked) false ⟨#[], #[.agg #[.int .i64 0, .int .i64 0, .int .i64 0, .int .i64 0, .int .i64 0, .int .i64 0, .int .i64 0, .int .i64 0]], []⟩ 8 (by kernel_rfl) (by kernel_rfl) (by kernel_rfl) (by kernel_rfl)) ?_
  intro W base args ds gs before hval0 hW hcnd _
  have hval : ∀ (j : Nat) t v, Try.f3.params[j]? = some t → args[j]? = some v → Value.okWide Try.prog W .any base t v := hval0
  have hW' := hW
  obtain ⟨p, q, hA0, hV, rfl, hfz, hnd⟩ := hW
  have hA : DataW.TrodAll enc Try.prog W 0 (fun _ => true) true Try.f3.params.toList args.toList ds p := hA0
  rw [Try.params3] at hA hval
  obtain ⟨v0, vs0, d0, ds0, p0, q0, hargs, rfl, rfl, h0, r0⟩ := trodAll_cons hA
  obtain ⟨rfl, rfl, rfl⟩ := trodAll_nil r0
  obtain rfl : args = #[v0] := by cases args; simp_all
  obtain ⟨rfl, rfl⟩ := trodVars_none hV
  obtain ⟨fuel0, hf0⟩ := h0
  have hlt0 : ∀ p ∈ p0, p.block < W.heap.size := fun p hp => DataW.trod_lt fuel0 _ _ _ hf0 p hp
  obtain ⟨c0, rfl, _⟩ := okWide_struct Try.underlying27 (hval 0 27 v0 rfl rfl)
  obtain ⟨z0, hcs0, m0⟩ := Op.open_four hf0
  obtain rfl : c0 = (Op.fourL z0).toArray := by cases c0; simpa [Value.cells] using hcs0
  clear hA0 hval0 hval hA
  simp only [List.append_nil] at hW'
  refine (lawNearV z0.a z0.b z0.c z0.d z0.cx z0.cy z0.size z0.rounds W).mono fun e W' ⟨he, hbl⟩ => ?_
  subst he
  have hag : DataW.TrodAll enc Try.prog W' 0 (fun _ => true) true [27] [.agg (Op.fourL z0).toArray] [d0] (p0 ++ []) := (trodAll_cons_mk ⟨fuel0, DataW.trod_carry fuel0 _ _ _ hf0 (fun p hp => hbl.same (hlt0 p hp))⟩ trodAll_mk0)
  have hall : ∀ p ∈ (p0 ++ []), p.block < W.heap.size := by
    intro p hp
    simp only [List.append_nil, List.mem_append] at hp
    have hp := hp
    · exact hlt0 p hp
  refine ⟨_, rfl, _, _, _, [], (p0 ++ []), [], hW', (trodAll_cons_mk (shut_bool Try.underlying4 _) trodAll_mk0), ?_, rfl, hbl.frame _, fun h => by cases h⟩
  have := DataW.TrodAll.respare (spare' := fun b => decide (b < W.heap.size)) kids full (by decide +kernel) hag (fun p hp => by simpa using hall p hp)
  exact this

theorem over : Rows.chainNearRow.holds Try.pinned (OpenSpec.ofChange Rows.chainNearSpec) :=
  OpenClaim.holds_of_wide 3 Try.f3 rfl rfl rfl rfl rfl rfl rfl ⟨rfl, rfl, rfl, rfl, rfl⟩ rfl rfl rfl rfl rfl (by kernel_rfl) Try.func3 (by kernel_rfl)
    (of_decide_eq_true (by kernel_rfl)) (by unfold Func.isWrapper; first | (rw [if_pos (by decide +kernel)]; kernel_rfl) | (rw [if_neg (by decide +kernel)]; exact ⟨rfl, rfl⟩))
    (fun os started H enc _ => lifted os started H enc)

theorem proved : Rows.ChainNearSaid :=
  over
end Go.Proofs.Ythbplhglfjlngaa.chainNear
