/- DecimalLong: for every argument the law returns true, and the arguments read as they did; the tables that the row lists are tied to the program's text. No condition. -/
import Derived.Test.YtkhpfdgkmnifcaaDoorDcLong
import Derived.Test.YtkhpfdgkmnifcaaDoorTied
import Derived.Test.YtkhpfdgkmnifcaaDoorRows
import Derived.Test.YtkhpfdgkmnifcaaDoorTie
import Derived.Test.YtkhpfdgkmnifcaaDoorCards
import Derived.WalkKit
import Derived.ProofKit
import Derived.OpenShut
import Derived.ShutString
import Derived.Lib.SmallJoins
import Derived.SevenTiedAt
import Derived.Stop.Joined
namespace Go.Proofs.YtkhpfdgkmnifcaaDoor.decimalLong
open Go.ChangeShapes Go.WideShapes Go.ChangeAt Go.RowKit Go.Joins
open Go.ChangeMaps (open_string shut_string)
set_option linter.unusedVariables false
set_option linter.unusedSimpArgs false

theorem own : ownKnob Tryd.prog.godebug = none := by kernel_rfl
theorem cells_t4 : Tryd.prog.cellsOf 46 = 4 := by kernel_rfl
theorem plain (W : World) : laidMetH Tryd.prog Rows.decimalLongRow.laid W = laidMet Tryd.prog Rows.decimalLongRow.laid W := MakeChecks.laidMetH_plain _ _ _ (by kernel_rfl)

set_option maxRecDepth 100000 in
theorem lifted (os : Os) (started : os.Started) (H : Type) (enc : TypeId × Value → H) :
    ReturnsInHanded {} Tryd.checked os 6 .any (fun w args => (Rows.decimalLongSpec.pre enc Tryd.prog Tryd.f6 Rows.decimalLongRow.domain false w args ∧ laidMetH Tryd.prog Rows.decimalLongRow.laid w) ∧ sizedMet enc Tryd.prog Tryd.f6 (OpenSpec.ofChange Rows.decimalLongSpec) false w args) (Rows.decimalLongSpec.post enc Tryd.prog Tryd.f6 false true false false) := by
  refine handed_shaped (C := Tryd.checked) (X := fun w _ => laidMetH Tryd.prog Rows.decimalLongRow.laid w) (fun _ _ _ hh h => h.of_heap hh) own started (by kernel_rfl) Tryd.func6
    (ChangeSpec.witness_shaped (enc := enc) (C := Tryd.checked) (os := os) (X := fun w _ => laidMetH Tryd.prog Rows.decimalLongRow.laid w) false (World.laidAll Tryd.prog os Rows.decimalLongRow.laid) #[.agg #[.int .i64 0, .int .i64 0, .int .i64 0, .int .i64 0]] 8 (World.laidAll_os _ _ _)
      (World.shaped_of_ZipB (by kernel_rfl) (by kernel_rfl)) (by kernel_rfl) (by kernel_rfl) (by kernel_rfl)
      (by rw [plain]; exact laidMet_laidAll _ (by kernel_rfl) (by kernel_rfl))) ?_
  intro W base args ds gs before hshp hL hval0 hW
  have hT : Tabs W := tabs_of plain (by unfold Rows.decimalLongRow; simp) hL hshp
  have hval : ∀ (j : Nat) t v, Tryd.f6.params[j]? = some t → args[j]? = some v → Value.okWide Tryd.prog W .any base t v := hval0
  have hW' := hW
  obtain ⟨p, q, hA0, hV, rfl, hfz, hnd⟩ := hW
  have hA : DataW.TrodAll enc Tryd.prog W 0 (fun _ => true) true Tryd.f6.params.toList args.toList ds p := hA0
  rw [Tryd.params6] at hA hval
  obtain ⟨v0, vs0, d0, ds0, p0, q0, hargs, rfl, rfl, h0, r0⟩ := trodAll_cons hA
  obtain ⟨rfl, rfl, rfl⟩ := trodAll_nil r0
  obtain rfl : args = #[v0] := by cases args; simp_all
  obtain ⟨rfl, rfl⟩ := trodVars_none hV
  obtain ⟨c00, c01, c02, c03, y00, y01, y02, y03, m0, rfl, rfl, rfl, k00, k01, k02, k03⟩ := open_agg4 Tryd.underlying46 (by kernel_rfl) cells_t4 (hval 0 46 v0 rfl rfl) h0
  obtain ⟨a00, e00, rfl, w00⟩ := DataW.trod_int Tryd.underlying3 k00
  simp only [List.cons.injEq, and_true] at e00
  subst e00
  obtain ⟨a01, e01, rfl, w01⟩ := DataW.trod_int Tryd.underlying3 k01
  simp only [List.cons.injEq, and_true] at e01
  subst e01
  obtain ⟨a02, e02, rfl, w02⟩ := DataW.trod_int Tryd.underlying3 k02
  simp only [List.cons.injEq, and_true] at e02
  subst e02
  obtain ⟨a03, e03, rfl, w03⟩ := DataW.trod_int Tryd.underlying3 k03
  simp only [List.cons.injEq, and_true] at e03
  subst e03
  clear hA0 hval0
  simp only [List.append_nil] at hW'
  refine (lawLongW a00 a01 a02 a03 W hT).mono fun e W' ⟨he, hb⟩ => ?_
  subst he
  exact ⟨_, rfl, _, _, _, [], [], [], hW', (trodAll_cons_mk (shut_bool Tryd.underlying4 _) trodAll_mk0), (trodAll_cons_mk (shut_agg4 (y0 := (.lit (.int .i64 a00), [])) (y1 := (.lit (.int .i64 a01), [])) (y2 := (.lit (.int .i64 a02), [])) (y3 := (.lit (.int .i64 a03), [])) Tryd.underlying46 (by kernel_rfl) cells_t4 ⟨1, by simp [DataW.trod, Tryd.underlying3, w00]⟩ ⟨1, by simp [DataW.trod, Tryd.underlying3, w01]⟩ ⟨1, by simp [DataW.trod, Tryd.underlying3, w02]⟩ ⟨1, by simp [DataW.trod, Tryd.underlying3, w03]⟩) trodAll_mk0), rfl, hb.frame _, fun h => by cases h⟩

theorem over : Rows.DecimalLongSaid :=
  OpenClaim.holds_of_wide 6 Tryd.f6 rfl rfl rfl rfl rfl rfl rfl ⟨rfl, rfl, rfl, rfl, rfl⟩ rfl rfl rfl rfl rfl (by kernel_rfl) Tryd.func6 (by kernel_rfl)
    (of_decide_eq_true (by kernel_rfl)) (by unfold Func.isWrapper; first | (rw [if_pos (by decide +kernel)]; kernel_rfl) | (rw [if_neg (by decide +kernel)]; exact ⟨rfl, rfl⟩))
    (fun os started H enc _ => lifted os started H enc)

theorem proved : Rows.DecimalLongCardSaid :=
  Claim7.holds_tied_plain_at .later [] [.data, .data, .data, .data, .pinned] true _ false over (fun _ h => by cases h) (by kernel_rfl) (fun _ h => by cases h) decimalLong_row_tie rfl ⟨rfl, rfl⟩ (by kernel_rfl) rfl
    (fun f fn hf hfn => by
      obtain rfl : f = 6 := Option.some.inj ((show Tryd.prog.funcNamed "groma/gromalaw10.DecimalLong" = some 6 by kernel_rfl).symm.trans hf) |>.symm
      obtain rfl : fn = Tryd.f6 := (Option.some.inj (Tryd.func6.symm.trans hfn)).symm
      exact ⟨by kernel_rfl, fun j t ht => by
        rw [Tryd.params6] at ht
        have hm : t ∈ [46] := by simpa using Array.mem_of_getElem? ht
        have hall : ([46].all fun u => !Tryd.prog.wantsStandIn u) = true := by kernel_rfl
        exact (show Tryd.prog.wantsStandIn t = false by simpa using List.all_eq_true.1 hall t hm)⟩)
    (by kernel_rfl)
end Go.Proofs.YtkhpfdgkmnifcaaDoor.decimalLong
