/- ChainAlone: for all arguments that are together of bulk at most 1048576 the law returns true, and the arguments read as they did. No other condition. -/
import Derived.Test.YthbplhglfjlngaaGreatGPy
import Derived.Test.YthbplhglfjlngaaGreatGPo
import Derived.Test.YthbplhglfjlngaaGreatGPo
import Derived.Test.YthbplhglfjlngaaGreatRows
import Derived.WalkKit
import Derived.ProofKit
import Derived.OpenShut
import Derived.ShutString
import Derived.Lib.SmallJoins
import Derived.JoinedCond
import Derived.ReadAgain
namespace Go.Proofs.YthbplhglfjlngaaGreat.chainAlone
open Go.ChangeShapes Go.WideShapes Go.ChangeAt Go.RowKit Go.Joins Go.Rg Go.Wd
set_option linter.unusedVariables false
set_option linter.unusedSimpArgs false

theorem own : ownKnob Tryz.prog.godebug = none := by kernel_rfl
theorem kids : Kids Tryz.prog (· < Tryz.prog.types.size) := kids_rows (by kernel_rfl) (by kernel_rfl)
theorem full : ∀ t e, t < Tryz.prog.types.size → Tryz.prog.underlying t = some (.slice e) → 0 < Tryz.prog.cellsOf e := slices_full_of Tryz.prog (by kernel_rfl)

set_option maxRecDepth 100000 in
theorem contract (H : Type) (enc : TypeId × Value → H) (W : World) (base : Nat) (args : Array Value) (ds gs : List (DataW H)) (before : List MemPlace)
    (hval : ∀ (j : Nat) t v, Tryz.f4.params[j]? = some t → args[j]? = some v → Value.okWide Tryz.prog W .any base t v)
    (hW : DataW.Whole enc Tryz.prog Tryz.f4.params.toList Rows.chainAloneSpec.vars false W args.toList ds gs before) (hk : Rows.uptoSmall H (ds ++ gs) = true) :
    Calls Tryz.prog 4 args W fun e W' => ∃ v, e = .returned v ∧ Rows.chainAloneSpec.post enc Tryz.prog Tryz.f4 false true false false W args v W' := by
  have hW' := hW
  obtain ⟨p, q, hA0, hV, rfl, hfz, hnd⟩ := hW
  have hA : DataW.TrodAll enc Tryz.prog W 0 (fun _ => true) true Tryz.f4.params.toList args.toList ds p := hA0
  rw [Tryz.params4] at hA hval
  obtain ⟨v0, vs0, d0, ds0, p0, q0, hargs, rfl, rfl, h0, r0⟩ := trodAll_cons hA
  obtain ⟨rfl, rfl, rfl⟩ := trodAll_nil r0
  obtain rfl : args = #[v0] := by cases args; simp_all
  obtain ⟨rfl, rfl⟩ := trodVars_none hV
  have hb := (of_decide_eq_true hk : Rows.uptoBulkAll _ ≤ 1048576)
  simp only [List.append_nil, Rows.uptoBulkAll] at hb
  obtain ⟨fuel0, hf0⟩ := h0
  have hlt0 : ∀ p ∈ p0, p.block < W.heap.size := fun p hp => DataW.trod_lt fuel0 _ _ _ hf0 p hp
  obtain ⟨c0, rfl, _⟩ := okWide_struct Tryz.underlying43 (hval 0 43 v0 rfl rfl)
  obtain ⟨z0, hcs0, m0⟩ := Op.open_alone hf0
  obtain rfl : c0 = (Op.aloneL z0).toArray := by cases c0; simpa [Value.cells] using hcs0
  clear hA0 hval hA
  simp only [List.append_nil] at hW'
  refine (lawAloneV z0.a z0.b z0.size z0.v z0.l W m0.1 (by have h := m0.2; simp only at h; omega)).mono fun e W' ⟨he, hbl⟩ => ?_
  subst he
  have hag : DataW.TrodAll enc Tryz.prog W' 0 (fun _ => true) true [43] [.agg (Op.aloneL z0).toArray] [d0] (p0 ++ []) := (trodAll_cons_mk ⟨fuel0, DataW.trod_carry fuel0 _ _ _ hf0 (fun p hp => hbl.same (hlt0 p hp))⟩ trodAll_mk0)
  have hall : ∀ p ∈ (p0 ++ []), p.block < W.heap.size := by
    intro p hp
    simp only [List.append_nil, List.mem_append] at hp
    have hp := hp
    · exact hlt0 p hp
  refine ⟨_, rfl, _, _, _, [], (p0 ++ []), [], hW', (trodAll_cons_mk (shut_bool Tryz.underlying4 _) trodAll_mk0), ?_, rfl, hbl.frame _, fun h => by cases h⟩
  have := DataW.TrodAll.respare (spare' := fun b => decide (b < W.heap.size)) kids full (by decide +kernel) hag (fun p hp => by simpa using hall p hp)
  exact this

set_option maxRecDepth 100000 in
theorem lifted (os : Os) (started : os.Started) (H : Type) (enc : TypeId × Value → H) (F : Stop.Interp) :
    ReturnsInHanded {} Tryz.checked os 4 .any ((Rows.OpenSpec.upto Rows.chainAloneSpec).pre6 enc Tryz.prog Tryz.f4 Rows.chainAloneUptoRow.domain false) (((Rows.OpenSpec.upto Rows.chainAloneSpec).at F).post enc Tryz.prog Tryz.f4 false true false false) := by
  refine returnsInHanded_of_cond (C := Tryz.checked) (s := Rows.OpenSpec.upto Rows.chainAloneSpec) (k := Rows.uptoSmall) rfl own started (by kernel_rfl) Tryz.func4
    (OpenSpec.witness (enc := enc) (C := Tryz.checked) (s := Rows.OpenSpec.upto Rows.chainAloneSpec) (k := Rows.uptoSmall) rfl false ⟨#[], #[.agg #[.int .i64 0, .int .i64 0, .int .i64 0, .int .i64 0, .slice none 0 0, .int .i64 0]], []⟩ 8 (by kernel_rfl) (by kernel_rfl) (by kernel_rfl)
      (x := ([.agg [.agg [.lit (.int .i64 0), .lit (.int .i64 0)], .agg [.lit (.int .i64 0), .lit (.int .i64 0)], .nil, .lit (.int .i64 0)]], [], [])) (by kernel_rfl) rfl (by kernel_rfl)) ?_
  intro W base args ds gs before hval hW _ hk _
  exact contract H enc W base args ds gs before hval hW hk

theorem proved : Rows.ChainAloneUptoSaid :=
  OpenClaim.holds_of_cond 4 Tryz.f4 rfl rfl rfl rfl rfl rfl rfl ⟨rfl, rfl, rfl, rfl, rfl⟩ rfl rfl rfl rfl rfl (by kernel_rfl) Tryz.func4 (by kernel_rfl)
    (of_decide_eq_true (by kernel_rfl)) (by unfold Func.isWrapper; first | (rw [if_pos (by decide +kernel)]; kernel_rfl) | (rw [if_neg (by decide +kernel)]; exact ⟨rfl, rfl⟩))
    (fun os started H enc _ F => lifted os started H enc F)
end Go.Proofs.YthbplhglfjlngaaGreat.chainAlone
