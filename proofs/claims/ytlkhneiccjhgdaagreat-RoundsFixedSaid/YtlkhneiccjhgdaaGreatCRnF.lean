/- RoundsFixed: for every argument the law returns true, and the arguments read as they did. No condition. -/
import Derived.Test.YtlkhneiccjhgdaaGreatGRr
import Derived.Test.YtlkhneiccjhgdaaGreatGRs
import Derived.Test.YtlkhneiccjhgdaaGreatGRs
import Derived.Test.YtlkhneiccjhgdaaGreatRows
import Derived.WalkKit
import Derived.ProofKit
import Derived.OpenShut
import Derived.ShutString
import Derived.Lib.SmallJoins
import Derived.ReadAgain
namespace Go.Proofs.YtlkhneiccjhgdaaGreat.roundsFixed
open Go.ChangeShapes Go.WideShapes Go.ChangeAt Go.RowKit Go.Joins Go.Rg Go.Wd
set_option linter.unusedVariables false
set_option linter.unusedSimpArgs false

theorem own : ownKnob Tryz.prog.godebug = none := by kernel_rfl
theorem kids : Kids Tryz.prog (· < Tryz.prog.types.size) := kids_rows (by kernel_rfl) (by kernel_rfl)
theorem full : ∀ t e, t < Tryz.prog.types.size → Tryz.prog.underlying t = some (.slice e) → 0 < Tryz.prog.cellsOf e := slices_full_of Tryz.prog (by kernel_rfl)

set_option maxRecDepth 100000 in
theorem lifted (os : Os) (started : os.Started) (H : Type) (enc : TypeId × Value → H) :
    ReturnsInHanded {} Tryz.checked os 6 .any (Rows.roundsFixedSpec.pre6 enc Tryz.prog Tryz.f6 Rows.roundsFixedRow.domain false) (Rows.roundsFixedSpec.post enc Tryz.prog Tryz.f6 false true false false) := by
  refine returnsInHanded_of_change (C := Tryz.checked) own started (by kernel_rfl) Tryz.func6
    (ChangeSpec.witness6 (enc := enc) (C := Tryz.checked) false ⟨#[], #[.agg #[.slice none 0 0, .slice none 0 0, .int .i64 0, .int .i64 0]], []⟩ 8 (by kernel_rfl) (by kernel_rfl) (by kernel_rfl) (by kernel_rfl)) ?_
  intro W base args ds gs before hval0 hW hcnd _
  have hval : ∀ (j : Nat) t v, Tryz.f6.params[j]? = some t → args[j]? = some v → Value.okWide Tryz.prog W .any base t v := hval0
  have hW' := hW
  obtain ⟨p, q, hA0, hV, rfl, hfz, hnd⟩ := hW
  have hA : DataW.TrodAll enc Tryz.prog W 0 (fun _ => true) true Tryz.f6.params.toList args.toList ds p := hA0
  rw [Tryz.params6] at hA hval
  obtain ⟨v0, vs0, d0, ds0, p0, q0, hargs, rfl, rfl, h0, r0⟩ := trodAll_cons hA
  obtain ⟨rfl, rfl, rfl⟩ := trodAll_nil r0
  obtain rfl : args = #[v0] := by cases args; simp_all
  obtain ⟨rfl, rfl⟩ := trodVars_none hV
  obtain ⟨fuel0, hf0⟩ := h0
  have hlt0 : ∀ p ∈ p0, p.block < W.heap.size := fun p hp => DataW.trod_lt fuel0 _ _ _ hf0 p hp
  obtain ⟨c0, rfl, _⟩ := okWide_struct Tryz.underlying25 (hval 0 25 v0 rfl rfl)
  obtain ⟨z0, hcs0, m0⟩ := Op.open_case hf0
  obtain rfl : c0 = (Op.caseL z0).toArray := by cases c0; simpa [Value.cells] using hcs0
  clear hA0 hval0 hval hA
  simp only [List.append_nil] at hW'
  refine (law_case lawFixed z0 W m0).mono fun e W' ⟨he, hbl⟩ => ?_
  subst he
  have hag : DataW.TrodAll enc Tryz.prog W' 0 (fun _ => true) true [25] [.agg (Op.caseL z0).toArray] [d0] (p0 ++ []) := (trodAll_cons_mk ⟨fuel0, DataW.trod_carry fuel0 _ _ _ hf0 (fun p hp => hbl.same (hlt0 p hp))⟩ trodAll_mk0)
  have hall : ∀ p ∈ (p0 ++ []), p.block < W.heap.size := by
    intro p hp
    simp only [List.append_nil, List.mem_append] at hp
    have hp := hp
    · exact hlt0 p hp
  refine ⟨_, rfl, _, _, _, [], (p0 ++ []), [], hW', (trodAll_cons_mk (shut_bool Tryz.underlying4 _) trodAll_mk0), ?_, rfl, hbl.frame _, fun h => by cases h⟩
  have := DataW.TrodAll.respare (spare' := fun b => decide (b < W.heap.size)) kids full (by decide +kernel) hag (fun p hp => by simpa using hall p hp)
  exact this

theorem fa1 : (Rows.roundsFixedRow.wf (OpenSpec.ofChange Rows.roundsFixedSpec)) = true := by kernel_rfl
theorem fa2 : (Rows.roundsFixedRow.inPlace == Tryz.prog.inPlace 6) = true := by kernel_rfl
theorem fa3 : (Rows.roundsFixedRow.unfollowed == Tryz.prog.unfollowed 6) = true := by kernel_rfl
theorem fa4 : (Rows.roundsFixedRow.recurses == Tryz.prog.recurses 6) = true := by kernel_rfl
theorem fa5 : (Rows.roundsFixedRow.named == Tryz.prog.varsNamed 6) = true := by kernel_rfl
theorem fa6 : laidOutB Tryz.prog = true := by kernel_rfl
theorem fa7 : mapsRowed Tryz.prog = true := by kernel_rfl
theorem joined : joinedFacts Tryz.prog 6 Tryz.f6 Rows.roundsFixedSpec Rows.roundsFixedRow = true := by
  simp only [joinedFacts, Bool.and_eq_true]
  and_intros
  all_goals first | with_reducible exact fa1 | with_reducible exact fa2 | with_reducible exact fa3 | with_reducible exact fa4 | with_reducible exact fa5 | with_reducible exact fa6 | with_reducible exact fa7 | kernel_rfl

theorem over : Rows.roundsFixedRow.holds Tryz.pinned (OpenSpec.ofChange Rows.roundsFixedSpec) :=
  OpenClaim.holds_of_wide 6 Tryz.f6 rfl rfl rfl rfl rfl rfl rfl ⟨rfl, rfl, rfl, rfl, rfl⟩ rfl rfl rfl rfl rfl (by kernel_rfl) Tryz.func6 joined
    (of_decide_eq_true (by kernel_rfl)) (by unfold Func.isWrapper; first | (rw [if_pos (by decide +kernel)]; kernel_rfl) | (rw [if_neg (by decide +kernel)]; exact ⟨rfl, rfl⟩))
    (fun os started H enc _ => lifted os started H enc)

theorem proved : Rows.RoundsFixedSaid :=
  over
end Go.Proofs.YtlkhneiccjhgdaaGreat.roundsFixed
