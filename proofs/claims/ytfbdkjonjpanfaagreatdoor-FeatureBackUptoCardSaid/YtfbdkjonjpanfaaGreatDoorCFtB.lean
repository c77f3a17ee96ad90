/- FeatureBack: for all arguments that are together of bulk at most 1048576 the law returns true, and the arguments read as they did; the tables that the row lists are tied to the program's text. No other condition. -/
import Derived.Test.YtfbdkjonjpanfaaGreatDoorGFy
import Derived.Test.YtfbdkjonjpanfaaGreatDoorGTj
import Derived.Test.YtfbdkjonjpanfaaGreatDoorGTi
import Derived.Test.YtfbdkjonjpanfaaGreatDoorRows
import Derived.Test.YtfbdkjonjpanfaaGreatDoorTie
import Derived.Test.YtfbdkjonjpanfaaGreatDoorCards
import Derived.WalkKit
import Derived.ProofKit
import Derived.OpenShut
import Derived.JoinedCond
import Derived.ReadAgain
import Derived.Lib.SmallJoins
import Derived.SevenTiedAt
import Derived.Stop.Joined
import Derived.Deep.DeepHandedRow
import Derived.Lib.LaidTab
namespace Go.Proofs.YtfbdkjonjpanfaaGreatDoor.featureBack
open Go.ChangeShapes Go.WideShapes Go.ChangeAt Go.RowKit Go.Joins
set_option linter.unusedVariables false
set_option linter.unusedSimpArgs false

theorem own : ownKnob Tryz.prog.godebug = none := by kernel_rfl
theorem kids : Kids Tryz.prog (· < Tryz.prog.types.size) := kids_rows (by kernel_rfl) (by kernel_rfl)
theorem full : ∀ t e, t < Tryz.prog.types.size → Tryz.prog.underlying t = some (.slice e) → 0 < Tryz.prog.cellsOf e := slices_full_of Tryz.prog (by kernel_rfl)
theorem cells_fe : Tryz.prog.cellsOf 37 = 3 := by kernel_rfl
theorem plain (W : World) : laidMetH Tryz.prog Rows.featureBackUptoRow.laid W = laidMet Tryz.prog Rows.featureBackUptoRow.laid W := MakeChecks.laidMetH_plain _ _ _ (by kernel_rfl)

set_option maxRecDepth 100000 in
theorem contract (H : Type) (enc : TypeId × Value → H) (W : World) (base : Nat) (args : Array Value) (ds gs : List (DataW H)) (before : List MemPlace)
    (hval : ∀ (j : Nat) t v, Tryz.f6.params[j]? = some t → args[j]? = some v → Value.okWide Tryz.prog W .any base t v)
    (hW : DataW.Whole enc Tryz.prog Tryz.f6.params.toList Rows.featureBackSpec.vars false W args.toList ds gs before) (hk : Rows.uptoSmall H (ds ++ gs) = true) (hT : Tabs W) (hTI : TabI W) :
    Calls Tryz.prog 6 args W fun e W' => ∃ v, e = .returned v ∧ Rows.featureBackSpec.post enc Tryz.prog Tryz.f6 false true false false W args v W' := by
  have hW' := hW
  obtain ⟨p, q, hA0, hV, rfl, hfz, hnd⟩ := hW
  have hA : DataW.TrodAll enc Tryz.prog W 0 (fun _ => true) true Tryz.f6.params.toList args.toList ds p := hA0
  rw [Tryz.params6] at hA hval
  obtain ⟨v0, vs0, d0, ds0, p0, q0, hargs, rfl, rfl, h0, r0⟩ := trodAll_cons hA
  obtain ⟨v1, vs1, d1, ds1, p1, q1, rfl, rfl, rfl, h1, r1⟩ := trodAll_cons r0
  obtain ⟨rfl, rfl, rfl⟩ := trodAll_nil r1
  obtain rfl : args = #[v0, v1] := by cases args; simp_all
  obtain ⟨rfl, rfl⟩ := trodVars_none hV
  obtain ⟨fuel0, hf0⟩ := id h0
  obtain ⟨x00, x01, x02, y00, y01, y02, m0, rfl, rfl, rfl, k00, k01, k02⟩ := open_agg3 Tryz.underlying37 (by kernel_rfl) cells_fe (hval 0 37 v0 rfl rfl) h0
  obtain ⟨pv0, l00, e00, s00, b00⟩ := Fx.open_pts (show DataW.trod enc Tryz.prog W 0 (fun _ => true) true m0 34 [x00] = some y00 from k00)
  obtain ⟨lv0, l01, t01, e01, g01, s01, f01, b01⟩ := Fx.open_ptss (show DataW.trod enc Tryz.prog W 0 (fun _ => true) true m0 35 [x01] = some y01 from k01)
  obtain ⟨rv0, l02, t02, e02, g02, s02, f02, b02⟩ := Fx.open_ptss (show DataW.trod enc Tryz.prog W 0 (fun _ => true) true m0 35 [x02] = some y02 from k02)
  simp only [List.cons.injEq, and_true] at e00 e01 e02
  subst e00 e01 e02
  have hfe0 : FeA W x00 x01 x02 ⟨l00, l01, l02⟩ := FeA.of s00 g01 g02 s01 s02 f01 f02
  have hlt0 : ∀ p ∈ y00.2 ++ (y01.2 ++ y02.2), p.block < W.heap.size := fun p hp => DataW.trod_lt fuel0 _ _ _ hf0 p hp
  obtain ⟨a1, rfl, rfl, rfl, w1⟩ := open_int Tryz.underlying3 (hval 1 3 v1 rfl rfl) h1
  have hb := (of_decide_eq_true hk : Rows.uptoBulkAll _ ≤ 1048576)
  simp only [List.append_nil, Rows.uptoBulkAll, Rows.uptoBulk] at hb
  clear hA0 hval hA
  simp only [List.append_nil] at hW'
  refine (lawBackC ⟨l00, l01, l02⟩ _ _ _ W hfe0 (by simp only [muF]; omega) a1 w1 hT hTI).mono fun e W' ⟨he, hbl⟩ => ?_
  subst he
  have hag : DataW.TrodAll enc Tryz.prog W' 0 (fun _ => true) true [37, 3] [.agg #[x00, x01, x02], .int .i64 a1] [.agg [y00.1, y01.1, y02.1], .lit (.int .i64 a1)] ((y00.2 ++ (y01.2 ++ y02.2)) ++ ([] ++ [])) := (trodAll_cons_mk ⟨fuel0, DataW.trod_carry fuel0 _ _ _ hf0 (fun p hp => hbl.same (hlt0 p hp))⟩ (trodAll_cons_mk (shut_int Tryz.underlying3 w1) trodAll_mk0))
  have hall : ∀ p ∈ ((y00.2 ++ (y01.2 ++ y02.2)) ++ ([] ++ [])), p.block < W.heap.size := by
    intro p hp
    simp only [List.append_nil, List.nil_append, List.mem_append] at hp
    exact hlt0 p (by simpa only [List.mem_append] using hp)
  refine ⟨_, rfl, _, _, _, [], ((y00.2 ++ (y01.2 ++ y02.2)) ++ ([] ++ [])), [], hW', (trodAll_cons_mk (shut_bool Tryz.underlying4 _) trodAll_mk0), ?_, rfl, hbl.frame _, fun h => by cases h⟩
  have := DataW.TrodAll.respare (spare' := fun b => decide (b < W.heap.size)) kids full (by decide +kernel) hag (fun p hp => by simpa using hall p hp)
  exact this

theorem reads (os : Os) {H : Type} (enc : TypeId × Value → H) : ∃ places, DataW.whole enc Tryz.prog ((World.laidAll Tryz.prog os Rows.featureBackUptoRow.laid).forCall (fun _ _ => 0) ⟨#[], #[.agg #[.slice none 0 0, .slice none 0 0, .slice none 0 0], .int .i64 0], []⟩).memory Tryz.f6.params.toList Rows.featureBackSpec.vars false (#[.agg #[.slice none 0 0, .slice none 0 0, .slice none 0 0], .int .i64 0] : Array Value).toList 8 = some ([.agg [.nil, .nil, .nil], .lit (.int .i64 0)], [], places) :=
  ⟨[], by kernel_rfl⟩

set_option maxRecDepth 100000 in
theorem lifted (os : Os) (started : os.Started) (H : Type) (enc : TypeId × Value → H) (F : Stop.Interp) :
    ReturnsInHanded {} Tryz.checked os 6 .any ((Rows.OpenSpec.upto Rows.featureBackSpec).preRow enc Tryz.prog Tryz.f6 Rows.featureBackUptoRow.domain false Rows.featureBackUptoRow.laid) (((Rows.OpenSpec.upto Rows.featureBackSpec).at F).post enc Tryz.prog Tryz.f6 false true false false) := by
  obtain ⟨places, hx⟩ := reads os enc
  refine returnsInHanded_of_row (C := Tryz.checked) (s := Rows.OpenSpec.upto Rows.featureBackSpec) own started (by kernel_rfl) Tryz.func6
    (witness_row_at (enc := enc) (C := Tryz.checked) false (World.laidAll Tryz.prog os Rows.featureBackUptoRow.laid) #[.agg #[.slice none 0 0, .slice none 0 0, .slice none 0 0], .int .i64 0] (World.laidAll_os _ _ _) (by kernel_rfl) (by kernel_rfl) (by kernel_rfl)
      (OpenSpec.preRow_of_cond 8 hx (by kernel_rfl) (fun k hk => by cases hk; kernel_rfl) (by kernel_rfl) (laidMet_laidAll _ (by kernel_rfl) (by kernel_rfl)))) ?_
  intro W base args ds gs before hval hW _ hcond _ hL hshp _
  have hT : Tabs W := tabs_of hshp
  have hTI : TabI W := tabi_of plain (by unfold Rows.featureBackUptoRow; simp) hL
  exact contract H enc W base args ds gs before hval hW (hcond _ rfl) hT hTI

theorem over : Rows.FeatureBackUptoSaid :=
  OpenClaim.holds_of_cond 6 Tryz.f6 rfl rfl rfl rfl rfl rfl rfl ⟨rfl, rfl, rfl, rfl, rfl⟩ rfl rfl rfl rfl rfl (by kernel_rfl) Tryz.func6 (by kernel_rfl)
    (of_decide_eq_true (by kernel_rfl)) (by unfold Func.isWrapper; first | (rw [if_pos (by decide +kernel)]; kernel_rfl) | (rw [if_neg (by decide +kernel)]; exact ⟨rfl, rfl⟩))
    (fun os started H enc _ F => by rw [OpenClaim.pre_eq_preRow]; exact lifted os started H enc F)

theorem proved : Rows.FeatureBackUptoCardSaid :=
  Claim7.holds_tied_plain_at .later [] _ _ _ _ over (fun _ h => by cases h) (by kernel_rfl) (fun _ h => by cases h) featureBackUpto_row_tie rfl ⟨rfl, rfl⟩ (by kernel_rfl) rfl
    (fun f fn hf hfn => by
      obtain rfl : f = 6 := Option.some.inj ((show Tryz.prog.funcNamed "groma/gromalaw13.FeatureBack" = some 6 by kernel_rfl).symm.trans hf) |>.symm
      obtain rfl : fn = Tryz.f6 := (Option.some.inj (Tryz.func6.symm.trans hfn)).symm
      exact ⟨by kernel_rfl, fun j t ht => by
        rw [Tryz.params6] at ht
        have hm : t ∈ [37, 3] := by simpa using Array.mem_of_getElem? ht
        have hall : ([37, 3].all fun u => !Tryz.prog.wantsStandIn u) = true := by kernel_rfl
        exact (show Tryz.prog.wantsStandIn t = false by simpa using List.all_eq_true.1 hall t hm)⟩)
    (by kernel_rfl)
end Go.Proofs.YtfbdkjonjpanfaaGreatDoor.featureBack
