/- A region that draws its order, in a loop's round: operations that only read. No program in sight. -/
import Derived.Test.YtfbdkjonjpanfaaGreatDoorRange
import Derived.Sort.QuietTacIn

set_option linter.unusedVariables false
set_option linter.unusedSimpArgs false
namespace Go.Rg
open Go Go.RowKit

def plainOp (o : Oper) : Bool := match o.op with | .defer _ => false | _ => true
theorem plainOp_spec {o : Oper} (h : plainOp o = true) (c : Call) : o.op ≠ .defer c := by
  intro e; unfold plainOp at h; rw [e] at h; cases h

theorem wpIn_round {P : Program} {n : Nat} {o : Oper} (l : Nat) (hp : plainOp o = true) {a : Act} {w : World} {K : Act → World → Prop} {Q : Exit → Act → World → Prop} (h : o.wpIn (WF none) n P a w K Q) : o.wpIn (WF (some l)) n P a w K Q := by
  unfold Oper.wpIn at *
  refine ⟨fun f _ => trivial, ?_⟩
  have e1 : o.semAt (WF (some l)).round a.eval = o.semAt (WF none).round a.eval := by
    show Oper.semAt (some l) a.eval o = Oper.semAt none a.eval o
    rw [Oper.semAt_some l _ _ (plainOp_spec hp)]
    rfl
  rw [e1]
  exact h.2

theorem wpAny_round {P : Program} {n : Nat} {md : Region.Mode} {ops : Array Oper} {Q : Exit → Act → World → Prop} (l : Nat) (hp : ∀ (i : Nat) (o : Oper), ops[i]? = some o → plainOp o = true) :
    ∀ (fuel : Nat) (listed : Array Bool) (a : Act) (w : World), wpAnyIn (WF none) n P md ops Q fuel listed a w → wpAnyIn (WF (some l)) n P md ops Q fuel listed a w := by
  intro fuel
  induction fuel with
  | zero => intro listed a w h; exact h
  | succ fuel ih =>
    intro listed a w h
    refine ⟨h.1, fun i hi => ?_⟩
    have h2 := wpOpIn_mono (fun a w h => ih _ a w h) (h.2 i hi)
    unfold wpOpIn at *
    split
    · rename_i ho
      simp only [ho] at h2
      exact h2
    · rename_i o ho
      simp only [ho] at h2
      split
      · rename_i hw
        simp only [hw, if_true] at h2
        exact wpIn_round l (hp i o ho) h2
      · rename_i hw
        simp only [hw] at h2
        exact ⟨fun f _ => trivial, h2.2⟩

theorem quiet_round {P : Program} {n : Nat} {id l0 : Nat} {Q : Exit → Act → World → Prop} {a : Act} {w : World} {l : List Oper} (hm : P.follows .mixedOrders = true) (hB : Region.lexB .any l.toArray = true) (hp : l.all plainOp = true)
    (h : wpQuietIn (WF none) n P l.toArray (fun w' => ∃ n, w' = w.drewN n) (fun a' => ∀ w', (∃ n, w' = w.drewN n) → Q .normal a' w') l a) : (Code.region id l.toArray true).wpIn (WF (some l0)) n P Q a w := by
  have hB' := hB
  simp only [Region.lexB, Bool.and_eq_true] at hB
  refine wpIn_region_any hm (wpAny_round l0 (fun i o ho => ?_) _ _ _ _ (wpAnyIn_of_quiet (C := fun w' => ∃ n, w' = w.drewN n) (Q := fun a' => ∀ w', (∃ n, w' = w.drewN n) → Q .normal a' w') rfl (fun _ w' hw' h => h w' hw') _ _ _ _ ⟨1, rfl⟩ ?_))
  · rw [List.all_eq_true] at hp
    exact hp o (by simpa using List.mem_of_getElem? (by simpa using ho))
  · have := wpAnyQIn_lex (F := WF none) (n := n) (C := fun w' => ∃ n, w' = w.drewN n) (md := .any) hB.1 l 0 (Array.replicate l.length false) a (by simp) (by simpa using hB.2) h
    simpa using this
end Go.Rg
