/- A region that draws its order, in a loop's round: loads first, where a condition on the world holds; the rest in whatever order. No program in sight. -/
import Derived.Test.YtfbdkjonjpanfaaGreatDoorQuiet
import Derived.OrdersHeld
import Derived.Deep.RegionHeld

set_option linter.unusedVariables false
set_option linter.unusedSimpArgs false
namespace Go.Rg
open Go Go.RowKit

theorem wpIn_of_wp {P : Program} {n : Nat} {o : Oper} {a : Act} {w : World} {K : Act → World → Prop} {Q : Exit → Act → World → Prop} (h : o.wp P a w K Q) : o.wpIn (WF none) n P a w K Q := by
  unfold Oper.wpIn
  unfold Oper.wp at h
  refine ⟨fun _ _ => trivial, ?_⟩
  show o.uponIn (WF none) n P a K Q ((execOp a.eval o).run P w)
  generalize (execOp a.eval o).run P w = r at *
  cases r with
  | ok n w' =>
    cases n with
    | value v => exact h
    | skip => exact h
    | defer d => exact h
    | enter f args =>
      refine ⟨fun h => absurd h (by simp), (callsIn_wide.2 h).mono ?_⟩
      intro e w' he
      cases e <;> exact he
    | row row args => exact ⟨fun h => absurd h (by simp), fun c cs _ => let ⟨v, w', r, s⟩ := h c cs; ⟨v, w', r, stepsIn_wide.2 s⟩⟩
    | _ => exact h.elim
  | halt x w' =>
    cases x <;> exact h

theorem wpAnyIn_of_wpAny {P : Program} {n : Nat} {md : Region.Mode} {ops : Array Oper} {Q : Exit → Act → World → Prop} (hL : ¬ LetsOut Q) :
    ∀ (fuel : Nat) (listed : Array Bool) (a : Act) (w : World), wpAny P md ops Q fuel listed a w → wpAnyIn (WF none) n P md ops Q fuel listed a w := by
  intro fuel
  induction fuel with
  | zero => intro listed a w h; exact h
  | succ fuel ih =>
    intro listed a w h
    refine ⟨h.1, fun i hi => ?_⟩
    have h2 := wpOp_mono (fun a w h => ih _ a w h) (h.2 i hi)
    unfold wpOp at h2
    unfold wpOpIn
    split
    · rename_i ho
      simp only [ho] at h2
      exact h2
    · rename_i o ho
      simp only [ho] at h2
      split
      · rename_i hw
        simp only [hw, if_true] at h2
        exact wpIn_of_wp (h2.resolve_right (fun h => hL h.2))
      · rename_i hw
        simp only [hw] at h2
        exact ⟨fun f _ => trivial, h2⟩

/-- THE BEGINNING of such a region, in a round or in none -/
theorem held_round {P : Program} {n : Nat} {id : Nat} {r0 : Option Nat} {Q : Exit → Act → World → Prop} {a : Act} {w : World} {l : List Oper} (S : World → Prop) (hm : P.follows .mixedOrders = true) (hL : ¬ LetsOut Q) (hp : l.all plainOp = true)
    (h : wpAnyH P .any l.toArray Q S l.toArray.size (Array.replicate l.toArray.size false) a w.drew) : (Code.region id l.toArray true).wpIn (WF r0) n P Q a w := by
  have h1 := wpAnyIn_of_wpAny (n := n) hL _ _ _ _ (wpAny_of_held _ _ _ _ h)
  refine wpIn_region_any hm ?_
  cases r0 with
  | none => exact h1
  | some l0 =>
    refine wpAny_round l0 (fun i o ho => ?_) _ _ _ _ h1
    rw [List.all_eq_true] at hp
    exact hp o (by simpa using List.mem_of_getElem? (by simpa using ho))

theorem round_shut {B : Nat} {S : Nat → Prop} {I : World → Prop} {Ix : Code → World → Prop} {W : World} : ¬ LetsOut (roundEnd B S I Ix W) := fun ⟨_, _, h⟩ => h

section
variable {P : Program} {ops : Array Oper} {Q : Exit → Act → World → Prop} {md : Region.Mode} {S : World → Prop} {late : Nat → Bool}

/-- whatever order is picked; S holds behind every operation, but the late ones -/
def wpAnyG (P : Program) (md : Region.Mode) (ops : Array Oper) (Q : Exit → Act → World → Prop) (S : World → Prop) (late : Nat → Bool) : Nat → Array Bool → Act → World → Prop
  | 0, listed, a, w => Region.ready md ops listed = [] ∧ Q .normal a w
  | fuel + 1, listed, a, w => (Region.ready md ops listed = [] → Q .normal a w) ∧
    ∀ i ∈ Region.ready md ops listed, wpOp P ops Q i (fun a' w' => (late i = false → S w') ∧ wpAnyG P md ops Q S late fuel (listed.setIfInBounds i true) a' w') a w

theorem wpAny_of_G : ∀ (fuel : Nat) (listed : Array Bool) (a : Act) (w : World), wpAnyG P md ops Q S late fuel listed a w → wpAny P md ops Q fuel listed a w := by
  intro fuel
  induction fuel with
  | zero => intro listed a w h; exact h
  | succ fuel ih => intro listed a w h; exact ⟨h.1, fun i hi => wpOp_mono (fun a' w' h' => ih _ a' w' h'.2) (h.2 i hi)⟩

/-- the late operations wait for number i -/
def waits (md : Region.Mode) (ops : Array Oper) (late : Nat → Bool) (i : Nat) : Bool :=
  (List.range ops.size).all fun j => !late j || (match ops[j]? with | none => true | some o => o.after.any fun e => Region.binds md e && e.on == i)

theorem waits_spec {i j : Nat} {oj : Oper} (h : waits md ops late i = true) (hj : ops[j]? = some oj) (hno : ∀ e ∈ oj.after, Region.binds md e = true → e.on ≠ i) : late j = false := by
  unfold waits at h
  rw [List.all_eq_true] at h
  have h1 := h j (by rw [List.mem_range]; exact (Array.getElem?_eq_some_iff.1 hj).1)
  rw [hj] at h1
  simp only [Bool.or_eq_true, Bool.not_eq_true'] at h1
  rcases h1 with h1 | h1
  · exact h1
  · rw [Array.any_eq_true'] at h1
    obtain ⟨e, he, hb⟩ := h1
    simp only [Bool.and_eq_true, beq_iff_eq] at hb
    exact absurd hb.2 (hno e he hb.1)

theorem wpAnyG_first {i : Nat} {oi : Oper} {v : Value} (hi : ops[i]? = some oi) (hsel : ∀ (j : Nat) (o : Oper) cs b, ops[j]? = some o → o.op ≠ .select cs b)
    (hQ : ∀ c a w, Q (.panic c) (a.put oi.dst v) w → Q (.panic c) a w) (hlate : waits md ops late i = true) (hli : late i = false) :
    ∀ (fuel : Nat) (listed : Array Bool) (a : Act) (w : World),
      (∀ j oj, ops[j]? = some oj → j ≠ i → listed.getD j true = false → (∀ e ∈ oj.after, Region.binds md e = true → e.on ≠ i) → oi.apart ops oj = true) →
      i ∈ Region.ready md ops listed → YieldsIf P ops S oi v a → S w →
      wpAnyG P md ops Q S late fuel (listed.setIfInBounds i true) (a.put oi.dst v) w → wpAnyG P md ops Q S late (fuel + 1) listed a w := by
  intro fuel
  induction fuel with
  | zero =>
    intro listed a w _ hr hy hS H
    refine ⟨fun h => (by rw [h] at hr; cases hr), fun j hj => ?_⟩
    by_cases e : j = i
    · rw [e]; exact hy.wpOp hi hS ⟨fun _ => hS, H⟩
    · have h1 := ready_mono hj e
      rw [H.1] at h1
      cases h1
  | succ fuel ih =>
    intro listed a w hfree hr hy hS H
    refine ⟨fun h => (by rw [h] at hr; cases hr), fun j hj => ?_⟩
    by_cases e : j = i
    · rw [e]; exact hy.wpOp hi hS ⟨fun _ => hS, H⟩
    · obtain ⟨hun, oj, hoj, hall⟩ := mem_ready.1 hj
      have hno : ∀ e ∈ oj.after, Region.binds md e = true → e.on ≠ i := by
        intro e he hb heq
        have h1 := hall e he hb
        have h0 := (mem_ready.1 hr).1
        rw [heq] at h1
        rcases Nat.lt_or_ge i listed.size with h' | h'
        · simp [h'] at h0 h1; rw [h0] at h1; cases h1
        · simp [Array.getElem?_eq_none h'] at h1
      have hlj := waits_spec hlate hoj hno
      refine wpOp_mono (fun a' w' h3 => ⟨fun _ => h3.2.1 hlj, ih (listed.setIfInBounds j true) a' w' ?_ (ready_mono hr (Ne.symm e)) h3.1 (h3.2.1 hlj) ?_⟩)
        (wpOp_putIf hoj (hfree j oj hoj e hun hno) (fun cs b => hsel i oi cs b hi) (fun cs b => hsel j oj cs b hoj) hQ hy (H.2 j (ready_mono hj e)))
      · intro k ok hk hki hunk hnok
        refine hfree k ok hk hki ?_ hnok
        by_cases hjk : j = k
        · rw [← hjk]; exact hun
        · rwa [getD_set_ne true hjk] at hunk
      · rw [Array.setIfInBounds_comm _ _ e]
        exact h3.2.2

theorem wpAnyG_take {i : Nat} {oi : Oper} {v : Value} {fuel : Nat} {listed : Array Bool} {a : Act} {w : World} (hi : ops[i]? = some oi)
    (hs : Region.noSelect ops = true) (hf : Region.free md ops listed i = true) (hr : (Region.ready md ops listed).contains i = true) (hlate : waits md ops late i = true) (hli : late i = false)
    (hQ : ∀ c a w, Q (.panic c) (a.put oi.dst v) w → Q (.panic c) a w) (hy : YieldsIf P ops S oi v a) (hS : S w)
    (h : wpAnyG P md ops Q S late fuel (listed.setIfInBounds i true) (a.put oi.dst v) w) : wpAnyG P md ops Q S late (fuel + 1) listed a w :=
  wpAnyG_first hi (Region.noSelect_spec hs) hQ hlate hli fuel listed a w (Region.free_spec hi hf) (by simpa using hr) hy hS h

def AllReadyG (P : Program) (md : Region.Mode) (ops : Array Oper) (Q : Exit → Act → World → Prop) (S : World → Prop) (late : Nat → Bool) (fuel : Nat) (listed : Array Bool) (a : Act) (w : World) (rs : List Nat) : Prop :=
  ∀ i ∈ rs, wpOp P ops Q i (fun a' w' => (late i = false → S w') ∧ wpAnyG P md ops Q S late fuel (listed.setIfInBounds i true) a' w') a w
theorem AllReadyG.nil {fuel : Nat} {listed : Array Bool} {a : Act} {w : World} : AllReadyG P md ops Q S late fuel listed a w [] := fun _ h => by cases h
theorem AllReadyG.cons {fuel : Nat} {listed : Array Bool} {a : Act} {w : World} {i : Nat} {o : Oper} {rs : List Nat} (ho : ops[i]? = some o)
    (h : ∀ K' : Act → World → Prop, Shut (∀ a w, (late i = false → S w) → wpAnyG P md ops Q S late fuel (listed.setIfInBounds i true) a w → K' a w) → if Region.wanted o (yielded ops a.tmps) = true then Oper.wp P o a w K' Q else K' (a.put o.dst undef) w)
    (hs : AllReadyG P md ops Q S late fuel listed a w rs) : AllReadyG P md ops Q S late fuel listed a w (i :: rs) := fun j hj => by
  rcases List.mem_cons.1 hj with rfl | hj
  · exact wpOp_step ho (fun K' hK => h K' (fun a w hS hW => hK a w ⟨hS, hW⟩))
  · exact hs j hj
theorem wpAnyG_ready {rs : List Nat} {fuel : Nat} {listed : Array Bool} {a : Act} {w : World} (hr : Region.ready md ops listed = rs) (hne : rs ≠ [])
    (h : AllReadyG P md ops Q S late fuel listed a w rs) : wpAnyG P md ops Q S late (fuel + 1) listed a w := ⟨fun h0 => absurd (hr ▸ h0) hne, hr ▸ h⟩
theorem wpAnyG_done {listed : Array Bool} {a : Act} {w : World} (hr : Region.ready md ops listed = []) (h : Q .normal a w) : ∀ fuel, wpAnyG P md ops Q S late fuel listed a w
  | 0 => ⟨hr, h⟩
  | _ + 1 => ⟨fun _ => h, by rw [hr]; simp⟩
/-- the late operations wait, one through the other, for number i: D holds i and those that wait for it -/
def waitsD (md : Region.Mode) (ops : Array Oper) (late : Nat → Bool) (D : List Nat) (i : Nat) (listed : Array Bool) : Bool :=
  (List.range ops.size).all fun j => (!late j || (D.contains j && j != i)) &&
    (!D.contains j || (!listed.getD j true && (j == i || match ops[j]? with | none => false | some o => o.after.any fun e => Region.binds md e && D.contains e.on)))

theorem wpAnyG_firstD {i : Nat} {oi : Oper} {v : Value} {D : List Nat} (hi : ops[i]? = some oi) (hsel : ∀ (j : Nat) (o : Oper) cs b, ops[j]? = some o → o.op ≠ .select cs b)
    (hQ : ∀ c a w, Q (.panic c) (a.put oi.dst v) w → Q (.panic c) a w)
    (hl : ∀ j, j < ops.size → late j = true → j ∈ D ∧ j ≠ i) (hd : ∀ j oj, ops[j]? = some oj → j ∈ D → j ≠ i → ∃ e ∈ oj.after, Region.binds md e = true ∧ e.on ∈ D) :
    ∀ (fuel : Nat) (listed : Array Bool) (a : Act) (w : World), (∀ j ∈ D, j < ops.size → listed.getD j true = false) → (∀ j ∈ D, j < ops.size) →
      (∀ j oj, ops[j]? = some oj → j ≠ i → listed.getD j true = false → (∀ e ∈ oj.after, Region.binds md e = true → e.on ≠ i) → oi.apart ops oj = true) →
      i ∈ Region.ready md ops listed → YieldsIf P ops S oi v a → S w →
      wpAnyG P md ops Q S late fuel (listed.setIfInBounds i true) (a.put oi.dst v) w → wpAnyG P md ops Q S late (fuel + 1) listed a w := by
  intro fuel
  induction fuel with
  | zero =>
    intro listed a w _ _ _ hr hy hS H
    refine ⟨fun h => (by rw [h] at hr; cases hr), fun j hj => ?_⟩
    by_cases e : j = i
    · rw [e]; exact hy.wpOp hi hS ⟨fun _ => hS, H⟩
    · have h1 := ready_mono hj e
      rw [H.1] at h1
      cases h1
  | succ fuel ih =>
    intro listed a w hu hDs hfree hr hy hS H
    refine ⟨fun h => (by rw [h] at hr; cases hr), fun j hj => ?_⟩
    by_cases e : j = i
    · rw [e]; exact hy.wpOp hi hS ⟨fun _ => hS, H⟩
    · obtain ⟨hun, oj, hoj, hall⟩ := mem_ready.1 hj
      have hlt : j < ops.size := (Array.getElem?_eq_some_iff.1 hoj).1
      have hjD : j ∉ D := fun hj => by
        obtain ⟨e, he, hb, hon⟩ := hd j oj hoj hj (by assumption)
        have h1 := hall e he hb
        have h0 := hu _ hon (hDs _ hon)
        rcases Nat.lt_or_ge e.on listed.size with h' | h'
        · simp [h'] at h0 h1; rw [h0] at h1; cases h1
        · simp [Array.getElem?_eq_none h'] at h1
      have hlj : late j = false := by
        cases hlt' : late j with
        | false => rfl
        | true => exact absurd (hl j hlt hlt').1 hjD
      have hno : ∀ e ∈ oj.after, Region.binds md e = true → e.on ≠ i := by
        intro e he hb heq
        have h1 := hall e he hb
        have h0 := (mem_ready.1 hr).1
        rw [heq] at h1
        rcases Nat.lt_or_ge i listed.size with h' | h'
        · simp [h'] at h0 h1; rw [h0] at h1; cases h1
        · simp [Array.getElem?_eq_none h'] at h1
      refine wpOp_mono (fun a' w' h3 => ⟨fun _ => h3.2.1 hlj, ih (listed.setIfInBounds j true) a' w' ?_ hDs ?_ (ready_mono hr (Ne.symm e)) h3.1 (h3.2.1 hlj) ?_⟩)
        (wpOp_putIf hoj (hfree j oj hoj e hun hno) (fun cs b => hsel i oi cs b hi) (fun cs b => hsel j oj cs b hoj) hQ hy (H.2 j (ready_mono hj e)))
      · intro k hk hkl
        rw [getD_set_ne true (show ¬ j = k from fun e => hjD (by rw [e]; exact hk))]
        exact hu k hk hkl
      · intro k ok hk hki hunk hnok
        refine hfree k ok hk hki ?_ hnok
        by_cases hjk : j = k
        · rw [← hjk]; exact hun
        · rwa [getD_set_ne true hjk] at hunk
      · rw [Array.setIfInBounds_comm _ _ e]
        exact h3.2.2

theorem wpAnyG_takeD {i : Nat} {oi : Oper} {v : Value} {fuel : Nat} {listed : Array Bool} {a : Act} {w : World} (D : List Nat) (hi : ops[i]? = some oi)
    (hs : Region.noSelect ops = true) (hf : Region.free md ops listed i = true) (hr : (Region.ready md ops listed).contains i = true) (hD : waitsD md ops late D i listed = true) (hDs : D.all (fun j => decide (j < ops.size)) = true)
    (hQ : ∀ c a w, Q (.panic c) (a.put oi.dst v) w → Q (.panic c) a w) (hy : YieldsIf P ops S oi v a) (hS : S w)
    (h : wpAnyG P md ops Q S late fuel (listed.setIfInBounds i true) (a.put oi.dst v) w) : wpAnyG P md ops Q S late (fuel + 1) listed a w := by
  unfold waitsD at hD
  rw [List.all_eq_true] at hD hDs
  have hds : ∀ j ∈ D, j < ops.size := fun j hj => by simpa using hDs j hj
  have key := fun j (hj : j < ops.size) => hD j (List.mem_range.2 hj)
  refine wpAnyG_firstD (D := D) hi (Region.noSelect_spec hs) hQ ?_ ?_ fuel listed a w ?_ hds (Region.free_spec hi hf) (by simpa using hr) hy hS h
  · intro j hj hl
    have := key j hj
    simp [hl] at this
    exact this.1
  · intro j oj hoj hjD hne
    have := key j (Array.getElem?_eq_some_iff.1 hoj).1
    simp only [Bool.and_eq_true, Bool.or_eq_true, Bool.not_eq_true', hoj] at this
    have h2 := this.2
    rcases h2 with h2 | ⟨_, h2 | h2⟩
    · rw [List.contains_iff_mem.2 hjD] at h2; cases h2
    · exact absurd (by simpa using h2) hne
    · rw [Array.any_eq_true'] at h2
      obtain ⟨e, he, hb⟩ := h2
      rw [Bool.and_eq_true] at hb
      exact ⟨e, he, hb.1, List.contains_iff_mem.1 hb.2⟩
  · intro j hjD hj
    have := key j hj
    simp only [Bool.and_eq_true, Bool.or_eq_true, Bool.not_eq_true'] at this
    rcases this.2 with h2 | ⟨h2, _⟩
    · rw [List.contains_iff_mem.2 hjD] at h2; cases h2
    · exact h2
end

theorem heldG_round {P : Program} {n : Nat} {id : Nat} {r0 : Option Nat} {Q : Exit → Act → World → Prop} {a : Act} {w : World} {l : List Oper} (S : World → Prop) (late : Nat → Bool) (hm : P.follows .mixedOrders = true) (hL : ¬ LetsOut Q) (hp : l.all plainOp = true)
    (h : wpAnyG P .any l.toArray Q S late l.toArray.size (Array.replicate l.toArray.size false) a w.drew) : (Code.region id l.toArray true).wpIn (WF r0) n P Q a w := by
  have h1 := wpAnyIn_of_wpAny (n := n) hL _ _ _ _ (wpAny_of_G _ _ _ _ h)
  refine wpIn_region_any hm ?_
  cases r0 with
  | none => exact h1
  | some l0 =>
    refine wpAny_round l0 (fun i o ho => ?_) _ _ _ _ h1
    rw [List.all_eq_true] at hp
    exact hp o (by simpa using List.mem_of_getElem? (by simpa using ho))
end Go.Rg
