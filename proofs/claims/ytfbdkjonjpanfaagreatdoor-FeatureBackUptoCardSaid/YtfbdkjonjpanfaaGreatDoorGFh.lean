/- A region that draws its order, in a fence: loads first, where a condition on the world holds; calls of yield in it. No program in sight. -/
import Derived.Test.YtfbdkjonjpanfaaGreatDoorHeld
import Derived.Test.YtfbdkjonjpanfaaGreatDoorGFd
import Derived.Test.YtfbdkjonjpanfaaGreatDoorGFg
import Derived.Test.YtfbdkjonjpanfaaGreatDoorGFf

set_option linter.unusedVariables false
set_option linter.unusedSimpArgs false
namespace Go.Rg
open Go Go.RowKit

section
variable {P : Program} {ops : Array Oper} {Q : Exit → Act → World → Prop} {md : Region.Mode} {S : World → Prop}
abbrev W0 : Fence := WF none

def wpAnyY (P : Program) (md : Region.Mode) (ops : Array Oper) (Q : Exit → Act → World → Prop) (S : World → Prop) : Nat → Array Bool → Act → World → Prop
  | 0, listed, a, w => Region.ready md ops listed = [] ∧ Q .normal a w
  | fuel + 1, listed, a, w => (Region.ready md ops listed = [] → Q .normal a w) ∧
    ∀ i ∈ Region.ready md ops listed, wpOpIn W0 0 P ops Q i (fun a' w' => S w' ∧ wpAnyY P md ops Q S fuel (listed.setIfInBounds i true) a' w') a w

theorem wpAnyIn_of_Y : ∀ (fuel : Nat) (listed : Array Bool) (a : Act) (w : World), wpAnyY P md ops Q S fuel listed a w → wpAnyIn W0 0 P md ops Q fuel listed a w := by
  intro fuel
  induction fuel with
  | zero => intro listed a w h; exact h
  | succ fuel ih => intro listed a w h; exact ⟨h.1, fun i hi => wpOpIn_mono (fun a' w' h' => ih _ a' w' h'.2) (h.2 i hi)⟩

theorem YieldsIf.wpOpIn {i : Nat} {o : Oper} {v : Value} {a : Act} (hi : ops[i]? = some o) (hy : YieldsIf P ops S o v a)
    {K : Act → World → Prop} {w : World} (hS : S w) (h : K (a.put o.dst v) w) : wpOpIn W0 0 P ops Q i K a w := by
  unfold Go.wpOpIn
  simp only [hi]
  rcases hy with ⟨hw, hv⟩ | ⟨hw, rfl⟩
  · simp only [hw, if_true, Oper.wpIn, WF_round, Oper.semAt_none, hv w hS, Oper.uponIn]
    exact ⟨fun _ _ => trivial, h⟩
  · simp only [hw, Bool.false_eq_true, if_false]
    exact ⟨fun _ _ => trivial, h⟩

theorem wpOpIn_putIf {j : Nat} {oi oj : Oper} {v : Value} (hj : ops[j]? = some oj) (hap : oi.apart ops oj = true)
    (hsi : ∀ cs b, oi.op ≠ .select cs b) (hsj : ∀ cs b, oj.op ≠ .select cs b)
    (hQ : ∀ c a w, Q (.panic c) (a.put oi.dst v) w → Q (.panic c) a w) {K : Act → World → Prop} {a : Act} {w : World}
    (hy : YieldsIf P ops S oi v a) (h : wpOpIn W0 0 P ops Q j K (a.put oi.dst v) w) :
    wpOpIn W0 0 P ops Q j (fun a' w' => YieldsIf P ops S oi v a' ∧ K (a'.put oi.dst v) w') a w := by
  obtain ⟨h1, h2, h3⟩ := Oper.apart_spec hap
  have keep : ∀ (a : Act), YieldsIf P ops S oi v a → ∀ u, YieldsIf P ops S oi v (a.put oj.dst u) := fun a hy u =>
    hy.of_same (execOp_put oi hsi a oj.dst u h3) (wanted_put oi a oj.dst u h3)
  have keepD : ∀ d, YieldsIf P ops S oi v { a with defers := d :: a.defers } := fun d => hy.of_same rfl rfl
  unfold wpOpIn at *
  simp only [hj] at *
  rw [wanted_put oj a oi.dst v h1] at h
  split
  · rename_i hw
    simp only [hw, if_true] at h
    unfold Oper.wpIn at *
    refine ⟨fun _ _ => trivial, ?_⟩
    have h := h.2
    rw [WF_round, Oper.semAt_none, execOp_put oj hsj a oi.dst v h1] at h
    rw [WF_round, Oper.semAt_none]
    generalize (execOp a.eval oj).run P w = r at *
    cases r with
    | ok x w' =>
      cases x <;> simp only [Oper.uponIn] at h ⊢
      case value u => exact ⟨keep a hy u, by rw [← Act.put_comm a v u h2]; exact h⟩
      case skip => exact ⟨keep a hy _, by rw [← Act.put_comm a v undef h2]; exact h⟩
      case defer d =>
        refine ⟨keep _ (keepD d) _, ?_⟩
        rw [← Act.put_comm _ v undef h2, ← Act.put_defers]
        exact h
      case enter f args =>
        refine ⟨h.1, CallsIn.mono h.2 fun e w'' he => ?_⟩
        cases e with
        | returned u => exact ⟨keep a hy u, by rw [← Act.put_comm a v u h2]; exact he⟩
        | panicked c => exact hQ _ _ _ he
        | outgrown => exact he
      case row row args => exact ⟨h.1, RowsIn.mono h.2 fun u w'' he => ⟨keep a hy u, by rw [← Act.put_comm a v u h2]; exact he⟩⟩
      case round l f tmps assign body =>
        refine ⟨h.1, RoundIn.mono h.2 fun e w'' he => ?_⟩
        cases e with
        | returned u => exact ⟨keep a hy u, by rw [← Act.put_comm a v u h2]; exact he⟩
        | panicked c => exact hQ _ _ _ he
        | outgrown => exact he
    | halt x w' =>
      cases x <;> simp only [Oper.uponIn] at h ⊢
      case panic u => exact hQ _ _ _ h
  · rename_i hw
    simp only [hw] at h
    exact ⟨fun _ _ => trivial, keep a hy _, by rw [← Act.put_comm a v undef h2]; exact h.2⟩

theorem wpAnyY_first {i : Nat} {oi : Oper} {v : Value} (hi : ops[i]? = some oi) (hsel : ∀ (j : Nat) (o : Oper) cs b, ops[j]? = some o → o.op ≠ .select cs b)
    (hQ : ∀ c a w, Q (.panic c) (a.put oi.dst v) w → Q (.panic c) a w) :
    ∀ (fuel : Nat) (listed : Array Bool) (a : Act) (w : World),
      (∀ j oj, ops[j]? = some oj → j ≠ i → listed.getD j true = false → (∀ e ∈ oj.after, Region.binds md e = true → e.on ≠ i) → oi.apart ops oj = true) →
      i ∈ Region.ready md ops listed → YieldsIf P ops S oi v a → S w →
      wpAnyY P md ops Q S fuel (listed.setIfInBounds i true) (a.put oi.dst v) w → wpAnyY P md ops Q S (fuel + 1) listed a w := by
  intro fuel
  induction fuel with
  | zero =>
    intro listed a w _ hr hy hS H
    refine ⟨fun h => (by rw [h] at hr; cases hr), fun j hj => ?_⟩
    by_cases hji : j = i
    · rw [hji]; exact YieldsIf.wpOpIn hi hy hS ⟨hS, H⟩
    · have := ready_mono hj hji
      rw [H.1] at this
      cases this
  | succ fuel ih =>
    intro listed a w hfree hr hy hS H
    refine ⟨fun h => (by rw [h] at hr; cases hr), fun j hj => ?_⟩
    by_cases hji : j = i
    · rw [hji]; exact YieldsIf.wpOpIn hi hy hS ⟨hS, H⟩
    · have h1 := H.2 j (ready_mono hj hji)
      obtain ⟨hjun, oj, hoj, hall⟩ := mem_ready.1 hj
      have hnot : ∀ e ∈ oj.after, Region.binds md e = true → e.on ≠ i := fun e he hb heq => by
        have h1 := hall e he hb
        have h0 := (mem_ready.1 hr).1
        rw [heq] at h1
        rcases Nat.lt_or_ge i listed.size with h' | h'
        · simp [h'] at h0 h1; rw [h0] at h1; cases h1
        · simp [Array.getElem?_eq_none h'] at h1
      have h2 := wpOpIn_putIf hoj (hfree j oj hoj hji hjun hnot) (fun cs b => hsel i oi cs b hi) (fun cs b => hsel j oj cs b hoj) hQ hy h1
      have hfree' : ∀ k ok, ops[k]? = some ok → k ≠ i → (listed.setIfInBounds j true).getD k true = false →
          (∀ e ∈ ok.after, Region.binds md e = true → e.on ≠ i) → oi.apart ops ok = true := fun k ok hk hki hun hno => by
        refine hfree k ok hk hki ?_ hno
        by_cases hjk : j = k
        · rw [← hjk]; exact hjun
        · rw [getD_set_ne true hjk] at hun; exact hun
      refine wpOpIn_mono (fun a' w' h3 => ⟨h3.2.1, ih (listed.setIfInBounds j true) a' w' hfree' (ready_mono hr (Ne.symm hji)) h3.1 h3.2.1 ?_⟩) h2
      rw [Array.setIfInBounds_comm _ _ hji]
      exact h3.2.2

theorem wpAnyY_done {listed : Array Bool} {a : Act} {w : World} (hr : Region.ready md ops listed = []) (h : Q .normal a w) : ∀ fuel, wpAnyY P md ops Q S fuel listed a w
  | 0 => ⟨hr, h⟩
  | _ + 1 => ⟨fun _ => h, by rw [hr]; simp⟩
end

theorem heldY_round {P : Program} {id : Nat} {r0 : Option Nat} {Q : Exit → Act → World → Prop} {a : Act} {w : World} {l : List Oper} (S : World → Prop) (hm : P.follows .mixedOrders = true) (hp : l.all plainOp = true) (hS : S w.drew)
    (h : S w.drew → wpAnyY P .any l.toArray Q S l.toArray.size (Array.replicate l.toArray.size false) a w.drew) : (Code.region id l.toArray true).wpIn (WF r0) 0 P Q a w := by
  have h1 := wpAnyIn_of_Y _ _ _ _ (h hS)
  refine wpIn_region_any hm ?_
  cases r0 with
  | none => exact h1
  | some l0 =>
    refine wpAny_round l0 (fun i o ho => ?_) _ _ _ _ h1
    rw [List.all_eq_true] at hp
    exact hp o (by simpa using List.mem_of_getElem? (by simpa using ho))

theorem takeY {P : Program} {l : List Oper} {Q : Exit → Act → World → Prop} {md : Region.Mode} {S : World → Prop} (i : Nat) {oi : Oper} {v : Value} {fuel : Nat} {listed : Array Bool} {a : Act} {w : World} (hi : nthO l i = some oi)
    (hs : Region.noSelect l.toArray = true) (hf : Region.free md l.toArray listed i = true) (hr : (Region.ready md l.toArray listed).contains i = true)
    (hQ : ∀ c a w, Q (.panic c) (a.put oi.dst v) w → Q (.panic c) a w) (hw : Region.wanted oi (yielded l.toArray a.tmps) = true) (hS : S w) (hy : ∀ w, S w → (execOp a.eval oi).run P w = .ok (.value v) w)
    (h : wpAnyY P md l.toArray Q S fuel (listed.setIfInBounds i true) (a.put oi.dst v) w) : wpAnyY P md l.toArray Q S (fuel + 1) listed a w :=
  wpAnyY_first (nthO_eq l i ▸ hi) (Region.noSelect_spec hs) hQ fuel listed a w (Region.free_spec (nthO_eq l i ▸ hi) hf) (by simpa using hr) (Or.inl ⟨hw, hy⟩) hS h
theorem skipY {P : Program} {l : List Oper} {Q : Exit → Act → World → Prop} {md : Region.Mode} {S : World → Prop} (i : Nat) {oi : Oper} {fuel : Nat} {listed : Array Bool} {a : Act} {w : World} (hi : nthO l i = some oi)
    (hs : Region.noSelect l.toArray = true) (hf : Region.free md l.toArray listed i = true) (hr : (Region.ready md l.toArray listed).contains i = true)
    (hQ : ∀ c a w, Q (.panic c) (a.put oi.dst undef) w → Q (.panic c) a w) (hw : Region.wanted oi (yielded l.toArray a.tmps) = false) (hS : S w)
    (h : wpAnyY P md l.toArray Q S fuel (listed.setIfInBounds i true) (a.put oi.dst undef) w) : wpAnyY P md l.toArray Q S (fuel + 1) listed a w :=
  wpAnyY_first (nthO_eq l i ▸ hi) (Region.noSelect_spec hs) hQ fuel listed a w (Region.free_spec (nthO_eq l i ▸ hi) hf) (by simpa using hr) (Or.inr ⟨hw, rfl⟩) hS h

/-- a call of yield, as a step of such a region -/
theorem yieldY {P : Program} {l : List Oper} {Q : Exit → Act → World → Prop} {md : Region.Mode} {S : World → Prop} {fuel : Nat} {listed : Array Bool} {a : Act} {w : World} (i : Nat) {o : Oper} {f : Operand} {xs : Array Operand} {ts : Array TypeId} {k : Nat} {x : Array Value} {R : Ending → World → Prop}
    (hn : Region.ready md l.toArray listed = [i]) (ho : nthO l i = some o) (hop : o.op = Op.call { callee := Callee.value f, args := xs, argTypes := ts })
    (hw : Region.wanted o (yielded l.toArray a.tmps) = true) (hf : a.eval f = .func (.yield k) #[] #[]) (hx0 : xs.toList.map a.eval = x.toList) (hY : YieldAt (WF none) 0 P k x w R)
    (hR : ∀ e w', R e w' → ∃ b, e = .returned b ∧ S w' ∧ wpAnyY P md l.toArray Q S fuel (listed.setIfInBounds i true) (a.put o.dst b) w') : wpAnyY P md l.toArray Q S (fuel + 1) listed a w := by
  have hx : xs.map a.eval = x := by apply Array.ext'; rw [Array.toList_map]; exact hx0
  refine ⟨fun h0 => (by rw [hn] at h0; cases h0), fun j hj => ?_⟩
  rw [hn] at hj
  obtain rfl : j = i := by simpa using hj
  unfold wpOpIn
  rw [← nthO_eq, ho]
  simp only [hw, if_true]
  obtain ⟨fn, tmps, assign, body, hy, hr⟩ := hY
  refine ⟨fun _ _ => trivial, ?_⟩
  have e : (execOp a.eval o).run P w = .ok (.round k fn tmps assign body) w := by
    unfold execOp
    simp only [hop, resolve, invoke, Sem.run_bind, Sem.run_pure, Result.andThen_ok, hf, hx, hy]
    simp [go_sem, hy]
  rw [WF_round, Oper.semAt_none, e]
  refine ⟨fun h => absurd h (by simp), RoundIn.mono hr fun e w' he => ?_⟩
  obtain ⟨b, rfl, h1, h2⟩ := hR e w' he
  exact ⟨h1, h2⟩
end Go.Rg

set_option linter.unusedVariables false
set_option linter.unusedSimpArgs false
namespace Go.Proofs.YtfbdkjonjpanfaaGreatDoor
open Go.RowKit Go.Rg Ft
attribute [local go_sem] Oper.semAt_some

abbrev tYl : TypeId := 85
/-- a segment, as it is told -/
def segV (s : Pt × Pt) : Array Value := #[.agg #[.int .i64 s.1.1, .int .i64 s.1.2, .int .i64 s.2.1, .int .i64 s.2.2]]
/-- five cells, as they are read -/
def Rd5 (a0 a1 a2 a3 a4 : Addr) (v0 v1 v2 v3 v4 : Value) (X : World) : Prop := X.cell? a0 = some v0 ∧ X.cell? a1 = some v1 ∧ X.cell? a2 = some v2 ∧ X.cell? a3 = some v3 ∧ X.cell? a4 = some v4

section
variable (J : Nat → (Nat → Prop) → World → Prop) (Jx : Nat → World → Prop) (S : Nat → Prop) (f : Fe) (l : Nat) (W : World)
def sgI (k : Nat) (Oi : Nat → Prop) (X : World) : Prop :=
  Kept S W X ∧ Blk X W.heap.size [.func (.yield l) #[] #[]] tYl ∧ ∃ O, J (segP f k) O X ∧ (∀ j, O j → W.heap.size ≤ j ∧ j < X.heap.size) ∧ (∀ j, Oi j → O j) ∧ O W.heap.size ∧ O (W.heap.size + 1)
def sgX (c : Code) (k : Nat) (X : World) : Prop := c = .ret ∧ Kept S W X ∧ ∃ K, 0 < K ∧ K ≤ (segF f).length ∧ Jx K X
/-- the blocks that the inner loop leaves as they are -/
def sgS : Nat → Prop := fun j => S j ∨ j = W.heap.size + 1
structure SgM (B : Nat) (k : Nat) (Oi : Nat → Prop) (Wb : World) (O : Nat → Prop) (j : Nat) (X : World) : Prop where
  kept : Kept S W X
  box : Blk X W.heap.size [.func (.yield l) #[] #[]] tYl
  inv : J (segP f k + j) O X
  bound : ∀ j, O j → W.heap.size ≤ j ∧ j < X.heap.size
  sub : ∀ j, Oi j → O j
  o0 : O W.heap.size
  o1 : O (W.heap.size + 1)
  eff : Eff B (both (sgS S W) Oi) Wb X
end
section
variable {J : Nat → (Nat → Prop) → World → Prop} {Jx : Nat → World → Prop} {S : Nat → Prop} {f : Fe} {l : Nat} {W : World}
theorem sgS_lt {B k : Nat} (hS : ∀ k, S k → k < W.heap.size) (hB : W.heap.size + 2 ≤ B) (h : sgS S W k) : k < B := by
  rcases h with h | h
  · have := hS k h; omega
  · omega
theorem SgM.start {B k : Nat} {Oi : Nat → Prop} {Wb : World} (h : sgI J S f l W k Oi Wb) : ∃ O, SgM J S f l W B k Oi Wb O 0 Wb := by
  obtain ⟨h1, h2, O, h3, h4, h5, h6, h7⟩ := h
  exact ⟨O, h1, h2, h3, h4, h5, h6, h7, Eff.refl _ _ _⟩
theorem SgM.fin {B k j : Nat} {Oi O : Nat → Prop} {Wb X : World} (h : SgM J S f l W B k Oi Wb O j X) (e : segP f (k + 1) = segP f k + j) : Eff B (both (sgS S W) Oi) Wb X ∧ sgI J S f l W (k + 1) Oi X :=
  ⟨h.eff, h.kept, h.box, O, by rw [e]; exact h.inv, h.bound, h.sub, h.o0, h.o1⟩
theorem SgM.call {B k j : Nat} {Oi O : Nat → Prop} {Wb X Y : World} (HJ : ∀ k O O' X Y, J k O X → Ext W.heap.size X Y → (∀ j, O' j → grow O X Y j) → J k O' Y) (hS : ∀ k, S k → k < W.heap.size) (hB : W.heap.size ≤ B)
    (h : SgM J S f l W B k Oi Wb O j X) (hb : Below X.heap.size X Y) : SgM J S f l W B k Oi Wb (grow O X Y) j Y := by
  have hs := hb.size
  have hWX : W.heap.size ≤ X.heap.size := h.kept.size
  refine ⟨h.kept.trans ((Kept.of_below hb).mono (fun j hj => by have := hS j hj; omega)), h.box.call hb, HJ _ _ _ _ _ h.inv (Ext.of_below' hb hWX) (fun _ h => h), ?_, fun j hj => .inl (h.sub j hj), .inl h.o0, .inl h.o1, h.eff.trans (Eff.of_below hb ?_)⟩
  · rintro j (hj | hj)
    · have := h.bound j hj; omega
    · omega
  · rintro j (hj | hj)
    · rcases hj with hj | hj
      · have := hS j hj; omega
      · have := (h.bound _ h.o1).2; omega
    · exact (h.bound _ (h.sub j hj)).2
theorem SgM.drew {B k j : Nat} {Oi O : Nat → Prop} {Wb X : World} (HJ : ∀ k O O' X Y, J k O X → Ext W.heap.size X Y → (∀ j, O' j → grow O X Y j) → J k O' Y) (hS : ∀ k, S k → k < W.heap.size) (hB : W.heap.size ≤ B)
    (h : SgM J S f l W B k Oi Wb O j X) : SgM J S f l W B k Oi Wb O j X.drew := by
  have hb : Below X.heap.size X X.drew := (Below.refl _ X).drew
  have h2 := h.call HJ hS hB hb
  exact ⟨h2.kept, h2.box, HJ _ _ _ _ _ h2.inv (Ext.refl _ _) (fun j hj => .inl (.inl hj)), h.bound, h.sub, h.o0, h.o1, h2.eff⟩
/-- one segment is told -/
theorem SgM.yield {P : Program} {B k j : Nat} {Oi O : Nat → Prop} {Wb X : World} {s : Pt × Pt} (HY : ∀ k x O X, ((segF f).map segV)[k]? = some x → Kept S W X → (∀ j, O j → W.heap.size ≤ j ∧ j < X.heap.size) → J k O X → YieldAt (WF none) 0 P l x X fun e X' =>
      (e = .returned (.bool true) ∧ J (k + 1) O X' ∧ Eff W.heap.size (both S O) X X') ∨ (e = .returned (.bool false) ∧ Jx (k + 1) X' ∧ Eff W.heap.size (both S O) X X')) (hB : W.heap.size ≤ B)
    (h : SgM J S f l W B k Oi Wb O j X) (hx : (segF f)[segP f k + j]? = some s) :
    YieldAt (WF none) 0 P l (segV s) X fun e X' => (e = .returned (.bool true) ∧ SgM J S f l W B k Oi Wb O (j + 1) X' ∧ Kept (both S O) X X') ∨ (e = .returned (.bool false) ∧ (Eff B (both (sgS S W) Oi) Wb X' ∧ sgX Jx S f W .ret (k + 1) X') ∧ Kept (both S O) X X') := by
  obtain ⟨fn, tmps, assign, body, hy, hR⟩ := HY (segP f k + j) (segV s) O X (by rw [List.getElem?_map, hx]; rfl) h.kept h.bound h.inv
  refine ⟨fn, tmps, assign, body, hy, hR.mono ?_⟩
  have hsub : ∀ j, both (sgS S W) Oi j → both S O j := by
    rintro j ((hj | rfl) | hj)
    · exact .inl hj
    · exact .inr h.o1
    · exact .inr (h.sub j hj)
  have hlt := (List.getElem?_eq_some_iff.1 hx).1
  rintro e X' (⟨rfl, hj, hE⟩ | ⟨rfl, hj, hE⟩)
  · exact .inl ⟨rfl, ⟨h.kept.trans (hE.kept.mono (fun j hj => .inl hj)), h.box.of_same (hE.kept.same _ (.inr h.o0)), hj, fun j hj => ⟨(h.bound j hj).1, Nat.lt_of_lt_of_le (h.bound j hj).2 hE.kept.size⟩, h.sub, h.o0, h.o1, h.eff.trans (hE.mono hB hsub)⟩, hE.kept⟩
  · exact .inr ⟨rfl, ⟨h.eff.trans (hE.mono hB hsub), rfl, h.kept.trans (hE.kept.mono (fun j hj => .inl hj)), _, by omega, by omega, hj⟩, hE.kept⟩
end

set_option maxRecDepth 100000 in
set_option maxHeartbeats 4000000 in
theorem segs13_seq (b : Nat) (a0 a1 a2 : Option Addr) (n0 m0 m1 m2 : Nat) (f : Fe) (vs us : List Value) (S : Nat → Prop) (w : World) (hb : Blk w b [.slice a0 n0 m0, .slice a1 f.lines.length m1, .slice a2 f.rings.length m2] 37) (hSb : S b) (hS : ∀ k, S k → k < w.heap.size)
    (hF : ∀ W, Kept S w W → FeL W W.heap.size (.slice a1 f.lines.length m1) (.slice a2 f.rings.length m2) vs us f) (hn1 : f.lines.length ≤ 400000) (hn2 : f.rings.length ≤ 400000) :
    SeqI Tryz.prog 26 #[.pointer (some ⟨b, 0, none⟩)] ((segF f).map segV) S w := by
  intro l J Jx W hW hJ hJx hY h0
  have hB := hb.of_same (hW.same b hSb)
  have hbl : b < W.heap.size := hB.lt
  have c0 := hB.cell (j := 0) rfl
  have c1 := hB.cell (j := 1) rfl
  have c2 := hB.cell (j := 2) rfl
  have hSW : ∀ k, S k → k < W.heap.size := fun k hk => by have := hS k hk; have := hW.size; omega
  have HF : Hid (∀ X, Kept S W X → FeL X X.heap.size (.slice a1 f.lines.length m1) (.slice a2 f.rings.length m2) vs us f) := fun X hX => hF X (hW.trans hX)
  have HY := Lib.hid hY
  have HJ := Lib.hid hJ
  have HJx := Lib.hid hJx
  have H0 := Lib.hid h0
  have HS := Lib.hid hSW
  clear hF hW hJ hJx hY h0 hS hSW hb
  obtain ⟨n1, e1⟩ : ∃ n, n = f.lines.length := ⟨_, rfl⟩
  obtain ⟨n2, e2⟩ : ∃ n, n = f.rings.length := ⟨_, rfl⟩
  have E1 := Lib.hid e1
  have E2 := Lib.hid e2
  rw [← e1] at hn1 c1 hB
  rw [← e2] at hn2 c2 hB
  have HB := Lib.hid hB
  clear e1 e2 hB
  refine callsIn_of_wp_marks Tryz.func26 rfl trivial ?_ rfl
  simp only [Tryz.ntmps26, List.size_toArray, List.length_cons, List.length_nil, Nat.reduceAdd, Nat.reduceSub, Array.replicate_succ, Array.replicate_zero, List.push_toArray, List.append_toArray, List.nil_append, List.cons_append]
  gi_wp2_with fail
  refine (calls_iff.2 (allF13 _ _ _ _)).mono ?_
  rintro e w1 ⟨rfl, hw⟩
  have hw' : [.cells #[.func (.yield l) #[] #[]] tYl, .cells #[.slice a0 n0 m0, .slice a1 n1 m1, .slice a2 n2 m2] 37].foldl World.alloc W = w1 := hw
  clear hw
  have hB1 : Blk w1 W.heap.size [.func (.yield l) #[] #[]] tYl := Blk.allocs _ hw' 0 rfl
  have hB2 : Blk w1 (W.heap.size + 1) [.slice a0 n0 m0, .slice a1 n1 m1, .slice a2 n2 m2] 37 := Blk.allocs _ hw' 1 rfl
  have hbel : Below W.heap.size W w1 := hw' ▸ allocs_below _ W
  have Hsz : Hid (w1.heap.size = W.heap.size + 2) := hw' ▸ allocs_size _ W
  have hsz1 : W.heap.size + 2 ≤ w1.heap.size := by have := Hsz.out; omega
  clear hw'
  have hkW1 : Kept S W w1 := (Kept.of_below hbel).mono (fun j hj => HS.out j hj)
  have HSeq : Hid (SeqI Tryz.prog 40 #[.pointer (some ⟨W.heap.size + 1, 0, none⟩)] (allY n1 (vs ++ us)) (sgS S W) w1) := by
    have hFF : ∀ X, Kept (sgS S W) w1 X → FeL X X.heap.size (.slice a1 n1 m1) (.slice a2 n2 m2) vs us f := fun X hX => by
      have := HF.out X (hkW1.trans (hX.mono (fun j hj => .inl hj)))
      rwa [← E1.out, ← E2.out] at this
    have hFW := hFF w1 (Kept.refl _ _)
    exact all13_seq (W.heap.size + 1) _ a1 a2 n1 n2 m1 m2 vs us (sgS S W) w1 hB2 (.inr rfl) (fun k hk => sgS_lt HS.out hsz1 hk)
      (fun X hX => by have := (hFF X hX).rl; rwa [← E1.out] at this) (fun X hX => by have := (hFF X hX).rr; rwa [← E2.out] at this) (by rw [E1.out]; exact hFW.ll) (by rw [E2.out]; exact hFW.lr)
      (fun u hu => hFW.one u (List.mem_append_left _ hu)) (fun u hu => hFW.one u (List.mem_append_right _ hu)) hn1 hn2
  clear hB2 c0 c1 c2
  gi_wp2_with fail
  refine wp_range (P := Tryz.prog) (gf := 40) (lb := #[.pointer (some ⟨W.heap.size + 1, 0, none⟩)]) (S := sgS S W) rfl enter_all13
    HSeq.out (Kept.refl _ _) (fun k hk => sgS_lt HS.out hsz1 hk) (fun x hx => by unfold allY at hx; obtain ⟨i, hi, rfl⟩ := List.mem_mapIdx.1 hx; rfl)
    (sgI J S f l W) (sgX Jx S f W) ?stabI ?stabX ?start ?round ?done ?stop
  case stabI =>
    rintro k Oi Oi' X Y ⟨h2, h3, O, h4, h5, h6, h7, h8⟩ hx hO
    refine ⟨h2.trans ((Kept.of_below hx.below).mono (fun j hj => by have := HS.out j hj; omega)), h3.ext hx, grow O X Y, HJ.out _ _ _ _ _ h4 (hx.mono (by omega)) (fun j hj => hj), ?_, ?_, .inl h7, .inl h8⟩
    · rintro j (hj | hj)
      · have := h5 j hj; have := hx.size; omega
      · have := h5 _ h7; omega
    · intro j hj
      rcases hO j hj with h | h
      · exact .inl (h6 j h)
      · exact .inr h
  case stabX =>
    rintro c k X Y ⟨h1, h2, K, h3, h4, h5⟩ hx
    exact ⟨h1, h2.trans ((Kept.of_below hx.below).mono (fun j hj => by have := HS.out j hj; omega)), K, h3, h4, HJx.out _ _ _ h5 (hx.mono (by omega))⟩
  case start =>
    exact ⟨hkW1, hB1, fun j => W.heap.size ≤ j ∧ j < w1.heap.size, HJ.out _ _ _ _ _ H0.out (Ext.of_below hbel) (fun j hj => .inr hj), fun j hj => hj, fun j hj => hj.elim, by omega, by omega⟩
  case round =>
    intro li k x Oi Wr hl1 hl2 hx hk hO hi
    have hx2 : ((vs ++ us)[k]?).map (fun v => #[Value.bool (decide (n1 ≤ k)), v]) = some x := by unfold allY at hx; rw [List.getElem?_mapIdx] at hx; exact hx
    obtain ⟨v, hv, rfl⟩ := Option.map_eq_some_iff.1 hx2
    clear hx hx2
    have hFW := HF.out W (Kept.refl _ _)
    have hlt : k < (f.lines ++ f.rings).length := by have := (List.getElem?_eq_some_iff.1 hv).1; rw [List.length_append, hFW.ll, hFW.lr] at this; rw [List.length_append]; exact this
    obtain ⟨ls, hls⟩ : ∃ ls, (f.lines ++ f.rings)[k]? = some ls := ⟨_, List.getElem?_eq_getElem hlt⟩
    have HR : Hid (∀ X, Kept S W X → ReadsE X X.heap.size v ls.length (flat ls)) := fun X hX => by
      obtain ⟨v', hv', hrd⟩ := (HF.out X hX).el k ls hls
      rw [hv] at hv'; cases hv'; exact hrd
    obtain ⟨va, vc, rfl⟩ := reads_slice (HR.out W (Kept.refl _ _))
    have Hls := Lib.hid hls
    have Hi := Lib.hid hi
    have HO := Lib.hid hO
    obtain ⟨ring, hring⟩ : ∃ r, r = decide (n1 ≤ k) := ⟨_, rfl⟩
    have Hring : Hid (decide (f.lines.length ≤ k) = ring) := by rw [hring, E1.out]; rfl
    rw [← hring]
    obtain ⟨n, hn⟩ : ∃ n, n = ls.length := ⟨_, rfl⟩
    rw [← hn] at HR ⊢
    have Hn := Lib.hid hn
    clear hi hO hv hls hlt hring hn hFW hB1
    gi_wp2_with fail
    refine ⟨Eff.refl _ _ _, ?_⟩
    intro Wb hx hkb hszb hlb
    have hxI : sgI J S f l W k Oi Wb := by
      obtain ⟨h2, h3, O, h4, h5, h6, h7, h8⟩ := Hi.out
      exact ⟨h2.trans ((Kept.of_below hx.below).mono (fun j hj => by have := HS.out j hj; omega)), h3.ext hx, O, HJ.out _ _ _ _ _ h4 (hx.mono (by omega)) (fun j hj => .inl hj), fun j hj => by have := h5 j hj; omega, h6, h7, h8⟩
    obtain ⟨O0, hM0⟩ := SgM.start (B := w1.heap.size) hxI
    have HM0 := Lib.hid hM0
    clear hx hkb hszb hlb hxI hM0 Hi
    cases n with
    | zero =>
      have HE0 : Hid (Eff w1.heap.size (both (sgS S W) Oi) Wb Wb ∧ sgI J S f l W (k + 1) Oi Wb) := HM0.out.fin (by
        have h0 : ls = [] := List.eq_nil_of_length_eq_zero Hn.out.symm
        have := segP_succ Hls.out
        rw [h0, segL_nil] at this
        exact this)
      gi_wp2_with fail
      exact HE0.out
    | succ m =>
      obtain ⟨g, off, rfl, hcap, hmax, Hcell⟩ : ∃ g off, va = some ⟨g, off, none⟩ ∧ m + 1 ≤ vc ∧ vc ≤ maxLen ∧ Hid (∀ X, Kept S W X → ∀ j x, (flat ls)[j]? = some x → X.cell? ⟨g, off + j, none⟩ = some x) := by
        obtain ⟨g, off, q1, h1, h2, h3, h4⟩ := (HR.out W (Kept.refl _ _)).get (by omega)
        refine ⟨g, off, q1, h2, h3, fun X hX => ?_⟩
        obtain ⟨g', off', q2, _, _, _, h4'⟩ := (HR.out X hX).get (by omega)
        rw [q1] at q2
        cases q2
        exact h4'
      unfold maxLen at hmax
      clear HR
      gi_wp2_with fail
      gi_loopw [5] (fun p wr => ∃ j : Nat, p = .int .i64 ((j : Int) + 1) ∧ j ≤ m ∧ Hid (∃ O, SgM J S f l W w1.heap.size k Oi Wb O j wr)) (fun p _ => m + 1 - (intOf p).toNat)
      case atStart => exact ⟨0, by first | rfl | simp, Nat.zero_le _, ⟨O0, HM0.out⟩⟩
      case round =>
        clear HM0
        obtain ⟨i, rfl, hi, HMx⟩ := hrel
        obtain ⟨O, hM⟩ := HMx.out
        clear HMx
        have HM := Lib.hid hM
        clear hM
        by_cases hlt : i < m
        · obtain ⟨p, hp⟩ : ∃ p, ls[i]? = some p := ⟨_, List.getElem?_eq_getElem (by rw [← Hn.out]; omega)⟩
          obtain ⟨q, hq⟩ : ∃ q, ls[i + 1]? = some q := ⟨_, List.getElem?_eq_getElem (by rw [← Hn.out]; omega)⟩
          have HYN := Lib.hid ((HM.out.drew HJ.out HS.out (by omega)).yield HY.out (by omega) (s := (p, q)) (segF_at Hls.out (segL_step (i := i + 1) (by omega) hp hq)))
          have Hp := Lib.hid hp
          have Hq := Lib.hid hq
          clear hp hq
          have hRd8 : ∀ X, Kept (both S O) wr.drew X → Rd5 ⟨W.heap.size, 0, none⟩ ⟨g, off + i * 2, none⟩ ⟨g, off + i * 2 + 1, none⟩ ⟨g, off + (i + 1) * 2, none⟩ ⟨g, off + (i + 1) * 2 + 1, none⟩ (.func (.yield l) #[] #[]) (.int .i64 p.1) (.int .i64 p.2) (.int .i64 q.1) (.int .i64 q.2) X := fun X hX => by
            have hM1 := HM.out.drew HJ.out HS.out (by omega : W.heap.size ≤ w1.heap.size)
            have hK : Kept S W X := hM1.kept.trans (hX.mono (fun j hj => .inl hj))
            exact ⟨(hM1.box.of_same (hX.same _ (.inr hM1.o0))).cell (j := 0) rfl, Hcell.out X hK _ _ (flat_at Hp.out).1, Hcell.out X hK _ _ (flat_at Hp.out).2, Hcell.out X hK _ _ (flat_at Hq.out).1, Hcell.out X hK _ _ (flat_at Hq.out).2⟩
          have hRd8d := hRd8 _ (Kept.refl _ _)
          have k1 : IntKind.i64.wrap (i : Int) = (i : Int) := by rw [IntKind.wrap_i64]; omega
          have k2 : (i : Int) < (m : Int) + 1 := by omega
          have k3 : (i : Int) + 1 < (m : Int) + 1 := by omega
          have k4 : (0 : Int) ≤ (i : Int) + 1 := by omega
          have k5 : ((i : Int) + 1).toNat = i + 1 := by omega
          gi_wp2_with fail
          refine heldY_round (S := _) (by kernel_rfl) (by kernel_rfl) (hRd8d) (fun hHeld => ?_)
          refine takeY 0 (v := ?_) rfl (by kernel_rfl) (by kernel_rfl) (by kernel_rfl) (fun _ _ _ h => h) (by rfl) (by assumption) ?hy0 ?_
          case hy0 => (intro w hSw; (try dsimp only at hSw); obtain ⟨z0, z1, z2, z3, z4⟩ := hSw; go_simp; all_goals (with_reducible rfl))
          (try simp only [Act.put, List.setIfInBounds_toArray, List.set_cons_zero, List.set_cons_succ])
          refine takeY 1 (v := ?_) rfl (by kernel_rfl) (by kernel_rfl) (by kernel_rfl) (fun _ _ _ h => h) (by rfl) (by assumption) ?hy1 ?_
          case hy1 => (intro w hSw; (try dsimp only at hSw); obtain ⟨z0, z1, z2, z3, z4⟩ := hSw; go_simp; all_goals (with_reducible rfl))
          (try simp only [Act.put, List.setIfInBounds_toArray, List.set_cons_zero, List.set_cons_succ])
          refine takeY 2 (v := ?_) rfl (by kernel_rfl) (by kernel_rfl) (by kernel_rfl) (fun _ _ _ h => h) (by rfl) (by assumption) ?hy2 ?_
          case hy2 => (intro w hSw; (try dsimp only at hSw); obtain ⟨z0, z1, z2, z3, z4⟩ := hSw; go_simp; all_goals (with_reducible rfl))
          (try simp only [Act.put, List.setIfInBounds_toArray, List.set_cons_zero, List.set_cons_succ])
          refine takeY 3 (v := ?_) rfl (by kernel_rfl) (by kernel_rfl) (by kernel_rfl) (fun _ _ _ h => h) (by rfl) (by assumption) ?hy3 ?_
          case hy3 => (intro w hSw; (try dsimp only at hSw); obtain ⟨z0, z1, z2, z3, z4⟩ := hSw; go_simp; all_goals (with_reducible rfl))
          (try simp only [Act.put, List.setIfInBounds_toArray, List.set_cons_zero, List.set_cons_succ])
          refine takeY 4 (v := ?_) rfl (by kernel_rfl) (by kernel_rfl) (by kernel_rfl) (fun _ _ _ h => h) (by rfl) (by assumption) ?hy4 ?_
          case hy4 => (intro w hSw; (try dsimp only at hSw); obtain ⟨z0, z1, z2, z3, z4⟩ := hSw; go_simp; all_goals (with_reducible rfl))
          (try simp only [Act.put, List.setIfInBounds_toArray, List.set_cons_zero, List.set_cons_succ])
          refine takeY 5 (v := ?_) rfl (by kernel_rfl) (by kernel_rfl) (by kernel_rfl) (fun _ _ _ h => h) (by rfl) (by assumption) ?hy5 ?_
          case hy5 => (intro w hSw; (try dsimp only at hSw); obtain ⟨z0, z1, z2, z3, z4⟩ := hSw; go_simp; all_goals (with_reducible rfl))
          (try simp only [Act.put, List.setIfInBounds_toArray, List.set_cons_zero, List.set_cons_succ])
          refine takeY 6 (v := ?_) rfl (by kernel_rfl) (by kernel_rfl) (by kernel_rfl) (fun _ _ _ h => h) (by rfl) (by assumption) ?hy6 ?_
          case hy6 => (intro w hSw; (try dsimp only at hSw); obtain ⟨z0, z1, z2, z3, z4⟩ := hSw; go_simp; all_goals (with_reducible rfl))
          (try simp only [Act.put, List.setIfInBounds_toArray, List.set_cons_zero, List.set_cons_succ])
          refine takeY 7 (v := ?_) rfl (by kernel_rfl) (by kernel_rfl) (by kernel_rfl) (fun _ _ _ h => h) (by rfl) (by assumption) ?hy7 ?_
          case hy7 => (intro w hSw; (try dsimp only at hSw); obtain ⟨z0, z1, z2, z3, z4⟩ := hSw; go_simp; all_goals (with_reducible rfl))
          (try simp only [Act.put, List.setIfInBounds_toArray, List.set_cons_zero, List.set_cons_succ])
          refine takeY 8 (v := ?_) rfl (by kernel_rfl) (by kernel_rfl) (by kernel_rfl) (fun _ _ _ h => h) (by rfl) (by assumption) ?hy8 ?_
          case hy8 => (intro w hSw; (try dsimp only at hSw); obtain ⟨z0, z1, z2, z3, z4⟩ := hSw; go_simp; all_goals (with_reducible rfl))
          (try simp only [Act.put, List.setIfInBounds_toArray, List.set_cons_zero, List.set_cons_succ])
          refine takeY 9 (v := ?_) rfl (by kernel_rfl) (by kernel_rfl) (by kernel_rfl) (fun _ _ _ h => h) (by rfl) (by assumption) ?hy9 ?_
          case hy9 => (intro w hSw; (try dsimp only at hSw); obtain ⟨z0, z1, z2, z3, z4⟩ := hSw; go_simp; all_goals (with_reducible rfl))
          (try simp only [Act.put, List.setIfInBounds_toArray, List.set_cons_zero, List.set_cons_succ])
          refine takeY 10 (v := ?_) rfl (by kernel_rfl) (by kernel_rfl) (by kernel_rfl) (fun _ _ _ h => h) (by rfl) (by assumption) ?hy10 ?_
          case hy10 => (intro w hSw; (try dsimp only at hSw); obtain ⟨z0, z1, z2, z3, z4⟩ := hSw; go_simp; all_goals (with_reducible rfl))
          (try simp only [Act.put, List.setIfInBounds_toArray, List.set_cons_zero, List.set_cons_succ])
          refine yieldY 11 (by kernel_rfl) rfl rfl (by rfl) (by rfl) (by rfl) HYN.out ?_
          intro e w2 hR2
          rcases hR2 with ⟨rfl, hj2, hk2⟩ | ⟨rfl, hj2, hk2⟩
          · have hSn := hRd8 w2 hk2
            have HM2 := Lib.hid hj2
            clear hj2 hk2
            refine ⟨.bool true, rfl, hSn, ?_⟩
            clear hHeld
            have hHeld := hSn
            (try simp only [Act.put, List.setIfInBounds_toArray, List.set_cons_zero, List.set_cons_succ])
            refine takeY 12 (v := ?_) rfl (by kernel_rfl) (by kernel_rfl) (by kernel_rfl) (fun _ _ _ h => h) (by rfl) (by assumption) ?hy12 ?_
            case hy12 => (intro w hSw; (try dsimp only at hSw); obtain ⟨z0, z1, z2, z3, z4⟩ := hSw; go_simp; all_goals (with_reducible rfl))
            (try simp only [Act.put, List.setIfInBounds_toArray, List.set_cons_zero, List.set_cons_succ])
            refine wpAnyY_done (by kernel_rfl) ?_ _
            clear hHeld hSn
            gi_wp2_with fail
            go_roundw
            case rel => exact ⟨i + 1, by first | rfl | simp, by omega, ⟨O, HM2.out⟩⟩
            case measure => simp [intOf]; omega

          · have hSn := hRd8 w2 hk2
            have HX2 := Lib.hid hj2
            clear hj2 hk2
            refine ⟨.bool false, rfl, hSn, ?_⟩
            clear hHeld
            have hHeld := hSn
            (try simp only [Act.put, List.setIfInBounds_toArray, List.set_cons_zero, List.set_cons_succ])
            refine takeY 12 (v := ?_) rfl (by kernel_rfl) (by kernel_rfl) (by kernel_rfl) (fun _ _ _ h => h) (by rfl) (by assumption) ?hy12 ?_
            case hy12 => (intro w hSw; (try dsimp only at hSw); obtain ⟨z0, z1, z2, z3, z4⟩ := hSw; go_simp; all_goals (with_reducible rfl))
            (try simp only [Act.put, List.setIfInBounds_toArray, List.set_cons_zero, List.set_cons_succ])
            refine wpAnyY_done (by kernel_rfl) ?_ _
            clear hHeld hSn
            gi_wp2_with fail
            exact HX2.out

        · have him : i = m := by omega
          subst him
          obtain ⟨p, hp⟩ : ∃ p, ls[i]? = some p := ⟨_, List.getElem?_eq_getElem (by rw [← Hn.out]; omega)⟩
          obtain ⟨q, hq⟩ : ∃ q, ls[0]? = some q := ⟨_, List.getElem?_eq_getElem (by rw [← Hn.out]; omega)⟩
          have y0 : wr.cell? ⟨g, off + i * 2, none⟩ = some (.int .i64 p.1) := Hcell.out wr HM.out.kept _ _ (flat_at hp).1
          have y1 : wr.cell? ⟨g, off + i * 2 + 1, none⟩ = some (.int .i64 p.2) := Hcell.out wr HM.out.kept _ _ (flat_at hp).2
          have Hp := Lib.hid hp
          have Hq := Lib.hid hq
          clear hp hq
          gi_wp2_with fail
          obtain ⟨X, hX⟩ : ∃ X, wr.alloc (.cells #[.int .i64 p.1, .int .i64 p.2] 47) = X := ⟨_, rfl⟩
          have hbX : Below wr.heap.size wr X := hX ▸ (Below.refl _ wr).alloc (Nat.le_refl _) _
          have HX6 : Hid (Blk X wr.heap.size [.int .i64 p.1, .int .i64 p.2] 47) := hX ▸ Blk.new wr _ _
          obtain ⟨O6, hO6⟩ : ∃ O6, O6 = grow O wr X := ⟨_, rfl⟩
          have HMX : Hid (SgM J S f l W w1.heap.size k Oi Wb O6 i X) := by rw [hO6]; exact HM.out.call HJ.out HS.out (by omega) hbX
          have H6 : Hid (O6 wr.heap.size) := by rw [hO6]; exact .inr ⟨Nat.le_refl _, HX6.out.lt⟩
          have hRd8 : ∀ Y, Kept (both S O6) X.drew Y → Rd5 ⟨W.heap.size, 0, none⟩ ⟨wr.heap.size, 0, none⟩ ⟨wr.heap.size, 1, none⟩ ⟨g, off, none⟩ ⟨g, off + 1, none⟩ (.func (.yield l) #[] #[]) (.int .i64 p.1) (.int .i64 p.2) (.int .i64 q.1) (.int .i64 q.2) Y := fun Y hY => by
            have hM1 := HMX.out.drew HJ.out HS.out (by omega : W.heap.size ≤ w1.heap.size)
            have hK : Kept S W Y := hM1.kept.trans (hY.mono (fun j hj => .inl hj))
            have hb6 : Blk Y wr.heap.size [.int .i64 p.1, .int .i64 p.2] 47 := (HX6.out : Blk X.drew _ _ _).of_same (hY.same _ (.inr H6.out))
            exact ⟨(hM1.box.of_same (hY.same _ (.inr hM1.o0))).cell (j := 0) rfl, hb6.cell (j := 0) rfl, hb6.cell (j := 1) rfl, by simpa using Hcell.out Y hK _ _ (flat_at Hq.out).1, by simpa using Hcell.out Y hK _ _ (flat_at Hq.out).2⟩
          have hRd8d := hRd8 _ (Kept.refl _ _)
          have HYN : (∃ s', s' = (p, q) ∧ (segL ls ring)[i]? = some s') → Hid (YieldAt (WF none) 0 Tryz.prog l (segV (p, q)) X.drew fun e X' => (e = .returned (.bool true) ∧ SgM J S f l W w1.heap.size k Oi Wb O6 (i + 1) X' ∧ Kept (both S O6) X.drew X') ∨ (e = .returned (.bool false) ∧ (Eff w1.heap.size (both (sgS S W) Oi) Wb X' ∧ sgX Jx S f W .ret (k + 1) X') ∧ Kept (both S O6) X.drew X')) := by
            rintro ⟨s', rfl, hs⟩
            exact (HMX.out.drew HJ.out HS.out (by omega)).yield HY.out (by omega) (s := (p, q)) (segF_at Hls.out (by rw [Hring.out]; exact hs))
          have HLen : ∀ n, (segL ls ring).length = n → Hid (segP f (k + 1) = segP f k + n) := fun n hn => by have := segP_succ Hls.out; rw [Hring.out, hn] at this; exact this
          have HFN : Hid ((segL ls ring).length = i → (Eff w1.heap.size (both (sgS S W) Oi) Wb X.drew ∧ sgI J S f l W (k + 1) Oi X.drew)) := fun hl => (HMX.out.drew HJ.out HS.out (by omega)).fin (HLen i hl).out
          rw [hX]
          clear hX hbX hO6 HM HMX H6 HX6 y0 y1 HF HSeq HO
          by_cases hi0 : i = 0
          · have HYN := HYN (by
              subst hi0
              have hl1 : ls.length = 1 := Hn.out.symm
              obtain ⟨x, rfl⟩ := List.length_eq_one_iff.1 hl1
              have e1 := Hp.out
              have e2 := Hq.out
              simp at e1 e2
              subst e1 e2
              exact ⟨_, rfl, by rw [segL_one]; rfl⟩)
            have HL := HLen (i + 1) (by
              subst hi0
              have hl1 : ls.length = 1 := Hn.out.symm
              obtain ⟨x, rfl⟩ := List.length_eq_one_iff.1 hl1
              rw [segL_one]; rfl)
            have c1 : ((i : Int) + 1 == 1) = true := by rw [beq_iff_eq]; omega
            have c2 : (i : Int) = 0 := by omega
            clear HLen HFN
            refine heldY_round (S := _) (by kernel_rfl) (by kernel_rfl) (hRd8d) (fun hHeld => ?_)
            refine takeY 0 (v := ?_) rfl (by kernel_rfl) (by kernel_rfl) (by kernel_rfl) (fun _ _ _ h => h) (by rfl) (by assumption) ?hy0 ?_
            case hy0 => (intro w hSw; (try dsimp only at hSw); obtain ⟨z0, z1, z2, z3, z4⟩ := hSw; go_simp; all_goals (with_reducible rfl))
            (try simp only [Act.put, List.setIfInBounds_toArray, List.set_cons_zero, List.set_cons_succ])
            refine takeY 1 (v := ?_) rfl (by kernel_rfl) (by kernel_rfl) (by kernel_rfl) (fun _ _ _ h => h) (by rfl) (by assumption) ?hy1 ?_
            case hy1 => (intro w hSw; (try dsimp only at hSw); obtain ⟨z0, z1, z2, z3, z4⟩ := hSw; go_simp; all_goals (with_reducible rfl))
            (try simp only [Act.put, List.setIfInBounds_toArray, List.set_cons_zero, List.set_cons_succ])
            refine takeY 2 (v := ?_) rfl (by kernel_rfl) (by kernel_rfl) (by kernel_rfl) (fun _ _ _ h => h) (by rfl) (by assumption) ?hy2 ?_
            case hy2 => (intro w hSw; (try dsimp only at hSw); obtain ⟨z0, z1, z2, z3, z4⟩ := hSw; go_simp; all_goals (with_reducible rfl))
            (try simp only [Act.put, List.setIfInBounds_toArray, List.set_cons_zero, List.set_cons_succ])
            refine takeY 3 (v := ?_) rfl (by kernel_rfl) (by kernel_rfl) (by kernel_rfl) (fun _ _ _ h => h) (by rfl) (by assumption) ?hy3 ?_
            case hy3 => (intro w hSw; (try dsimp only at hSw); obtain ⟨z0, z1, z2, z3, z4⟩ := hSw; go_simp; all_goals (with_reducible rfl))
            (try simp only [Act.put, List.setIfInBounds_toArray, List.set_cons_zero, List.set_cons_succ])
            refine skipY 4 rfl (by kernel_rfl) (by kernel_rfl) (by kernel_rfl) (fun _ _ _ h => h) (by rfl) (by assumption) ?_
            (try simp only [Act.put, List.setIfInBounds_toArray, List.set_cons_zero, List.set_cons_succ])
            refine skipY 5 rfl (by kernel_rfl) (by kernel_rfl) (by kernel_rfl) (fun _ _ _ h => h) (by rfl) (by assumption) ?_
            (try simp only [Act.put, List.setIfInBounds_toArray, List.set_cons_zero, List.set_cons_succ])
            refine skipY 6 rfl (by kernel_rfl) (by kernel_rfl) (by kernel_rfl) (fun _ _ _ h => h) (by rfl) (by assumption) ?_
            (try simp only [Act.put, List.setIfInBounds_toArray, List.set_cons_zero, List.set_cons_succ])
            refine skipY 7 rfl (by kernel_rfl) (by kernel_rfl) (by kernel_rfl) (fun _ _ _ h => h) (by rfl) (by assumption) ?_
            (try simp only [Act.put, List.setIfInBounds_toArray, List.set_cons_zero, List.set_cons_succ])
            refine skipY 8 rfl (by kernel_rfl) (by kernel_rfl) (by kernel_rfl) (fun _ _ _ h => h) (by rfl) (by assumption) ?_
            (try simp only [Act.put, List.setIfInBounds_toArray, List.set_cons_zero, List.set_cons_succ])
            refine skipY 9 rfl (by kernel_rfl) (by kernel_rfl) (by kernel_rfl) (fun _ _ _ h => h) (by rfl) (by assumption) ?_
            (try simp only [Act.put, List.setIfInBounds_toArray, List.set_cons_zero, List.set_cons_succ])
            refine skipY 10 rfl (by kernel_rfl) (by kernel_rfl) (by kernel_rfl) (fun _ _ _ h => h) (by rfl) (by assumption) ?_
            (try simp only [Act.put, List.setIfInBounds_toArray, List.set_cons_zero, List.set_cons_succ])
            refine skipY 11 rfl (by kernel_rfl) (by kernel_rfl) (by kernel_rfl) (fun _ _ _ h => h) (by rfl) (by assumption) ?_
            (try simp only [Act.put, List.setIfInBounds_toArray, List.set_cons_zero, List.set_cons_succ])
            refine takeY 12 (v := ?_) rfl (by kernel_rfl) (by kernel_rfl) (by kernel_rfl) (fun _ _ _ h => h) (by rfl) (by assumption) ?hy12 ?_
            case hy12 => (intro w hSw; (try dsimp only at hSw); obtain ⟨z0, z1, z2, z3, z4⟩ := hSw; go_simp; all_goals (with_reducible rfl))
            (try simp only [Act.put, List.setIfInBounds_toArray, List.set_cons_zero, List.set_cons_succ])
            refine takeY 13 (v := ?_) rfl (by kernel_rfl) (by kernel_rfl) (by kernel_rfl) (fun _ _ _ h => h) (by rfl) (by assumption) ?hy13 ?_
            case hy13 => (intro w hSw; (try dsimp only at hSw); obtain ⟨z0, z1, z2, z3, z4⟩ := hSw; go_simp; all_goals (with_reducible rfl))
            (try simp only [Act.put, List.setIfInBounds_toArray, List.set_cons_zero, List.set_cons_succ])
            refine takeY 14 (v := ?_) rfl (by kernel_rfl) (by kernel_rfl) (by kernel_rfl) (fun _ _ _ h => h) (by rfl) (by assumption) ?hy14 ?_
            case hy14 => (intro w hSw; (try dsimp only at hSw); obtain ⟨z0, z1, z2, z3, z4⟩ := hSw; go_simp; all_goals (with_reducible rfl))
            (try simp only [Act.put, List.setIfInBounds_toArray, List.set_cons_zero, List.set_cons_succ])
            refine takeY 15 (v := ?_) rfl (by kernel_rfl) (by kernel_rfl) (by kernel_rfl) (fun _ _ _ h => h) (by rfl) (by assumption) ?hy15 ?_
            case hy15 => (intro w hSw; (try dsimp only at hSw); obtain ⟨z0, z1, z2, z3, z4⟩ := hSw; go_simp; all_goals (with_reducible rfl))
            (try simp only [Act.put, List.setIfInBounds_toArray, List.set_cons_zero, List.set_cons_succ])
            refine takeY 16 (v := ?_) rfl (by kernel_rfl) (by kernel_rfl) (by kernel_rfl) (fun _ _ _ h => h) (by rfl) (by assumption) ?hy16 ?_
            case hy16 => (intro w hSw; (try dsimp only at hSw); obtain ⟨z0, z1, z2, z3, z4⟩ := hSw; go_simp; all_goals (with_reducible rfl))
            (try simp only [Act.put, List.setIfInBounds_toArray, List.set_cons_zero, List.set_cons_succ])
            refine takeY 17 (v := ?_) rfl (by kernel_rfl) (by kernel_rfl) (by kernel_rfl) (fun _ _ _ h => h) (by rfl) (by assumption) ?hy17 ?_
            case hy17 => (intro w hSw; (try dsimp only at hSw); obtain ⟨z0, z1, z2, z3, z4⟩ := hSw; go_simp; all_goals (with_reducible rfl))
            (try simp only [Act.put, List.setIfInBounds_toArray, List.set_cons_zero, List.set_cons_succ])
            refine takeY 18 (v := ?_) rfl (by kernel_rfl) (by kernel_rfl) (by kernel_rfl) (fun _ _ _ h => h) (by rfl) (by assumption) ?hy18 ?_
            case hy18 => (intro w hSw; (try dsimp only at hSw); obtain ⟨z0, z1, z2, z3, z4⟩ := hSw; go_simp; all_goals (with_reducible rfl))
            (try simp only [Act.put, List.setIfInBounds_toArray, List.set_cons_zero, List.set_cons_succ])
            refine takeY 19 (v := ?_) rfl (by kernel_rfl) (by kernel_rfl) (by kernel_rfl) (fun _ _ _ h => h) (by rfl) (by assumption) ?hy19 ?_
            case hy19 => (intro w hSw; (try dsimp only at hSw); obtain ⟨z0, z1, z2, z3, z4⟩ := hSw; go_simp; all_goals (with_reducible rfl))
            (try simp only [Act.put, List.setIfInBounds_toArray, List.set_cons_zero, List.set_cons_succ])
            refine yieldY 20 (by kernel_rfl) rfl rfl (by rfl) (by rfl) (by rfl) HYN.out ?_
            intro e w2 hR2
            rcases hR2 with ⟨rfl, hj2, hk2⟩ | ⟨rfl, hj2, hk2⟩
            · have hSn := hRd8 w2 hk2
              have HE2 := Lib.hid (hj2.fin HL.out)
              clear hj2 hk2
              refine ⟨.bool true, rfl, hSn, ?_⟩
              clear hHeld
              have hHeld := hSn
              (try simp only [Act.put, List.setIfInBounds_toArray, List.set_cons_zero, List.set_cons_succ])
              refine takeY 21 (v := ?_) rfl (by kernel_rfl) (by kernel_rfl) (by kernel_rfl) (fun _ _ _ h => h) (by rfl) (by assumption) ?hy21 ?_
              case hy21 => (intro w hSw; (try dsimp only at hSw); obtain ⟨z0, z1, z2, z3, z4⟩ := hSw; go_simp; all_goals (with_reducible rfl))
              (try simp only [Act.put, List.setIfInBounds_toArray, List.set_cons_zero, List.set_cons_succ])
              refine takeY 22 (v := ?_) rfl (by kernel_rfl) (by kernel_rfl) (by kernel_rfl) (fun _ _ _ h => h) (by rfl) (by assumption) ?hy22 ?_
              case hy22 => (intro w hSw; (try dsimp only at hSw); obtain ⟨z0, z1, z2, z3, z4⟩ := hSw; go_simp; all_goals (with_reducible rfl))
              (try simp only [Act.put, List.setIfInBounds_toArray, List.set_cons_zero, List.set_cons_succ])
              refine wpAnyY_done (by kernel_rfl) ?_ _
              clear hHeld hSn
              gi_wp2_with fail
              exact HE2.out

            · have hSn := hRd8 w2 hk2
              have HX2 := Lib.hid hj2
              clear hj2 hk2
              refine ⟨.bool false, rfl, hSn, ?_⟩
              clear hHeld
              have hHeld := hSn
              (try simp only [Act.put, List.setIfInBounds_toArray, List.set_cons_zero, List.set_cons_succ])
              refine takeY 21 (v := ?_) rfl (by kernel_rfl) (by kernel_rfl) (by kernel_rfl) (fun _ _ _ h => h) (by rfl) (by assumption) ?hy21 ?_
              case hy21 => (intro w hSw; (try dsimp only at hSw); obtain ⟨z0, z1, z2, z3, z4⟩ := hSw; go_simp; all_goals (with_reducible rfl))
              (try simp only [Act.put, List.setIfInBounds_toArray, List.set_cons_zero, List.set_cons_succ])
              refine takeY 22 (v := ?_) rfl (by kernel_rfl) (by kernel_rfl) (by kernel_rfl) (fun _ _ _ h => h) (by rfl) (by assumption) ?hy22 ?_
              case hy22 => (intro w hSw; (try dsimp only at hSw); obtain ⟨z0, z1, z2, z3, z4⟩ := hSw; go_simp; all_goals (with_reducible rfl))
              (try simp only [Act.put, List.setIfInBounds_toArray, List.set_cons_zero, List.set_cons_succ])
              refine wpAnyY_done (by kernel_rfl) ?_ _
              clear hHeld hSn
              gi_wp2_with fail
              exact HX2.out

          · have hi1 : 1 < ls.length := by have := Hn.out; omega
            have him : i = ls.length - 1 := by have := Hn.out; omega
            have c1 : ((i : Int) + 1 == 1) = false := by rw [beq_eq_false_iff_ne]; omega
            have c2 : ((i : Int) == 0) = false := by rw [beq_eq_false_iff_ne]; omega
            have c3 : ¬ (i : Int) = 0 := by omega
            cases ring with
            | false =>
              have HE0 := Lib.hid (HFN.out (by rw [him]; exact segL_open hi1 (him ▸ Hp.out) Hq.out (.inl rfl)))
              clear HYN HLen HFN hi1 him
              refine heldY_round (S := _) (by kernel_rfl) (by kernel_rfl) (hRd8d) (fun hHeld => ?_)
              refine takeY 0 (v := ?_) rfl (by kernel_rfl) (by kernel_rfl) (by kernel_rfl) (fun _ _ _ h => h) (by rfl) (by assumption) ?hy0 ?_
              case hy0 => (intro w hSw; (try dsimp only at hSw); obtain ⟨z0, z1, z2, z3, z4⟩ := hSw; go_simp; all_goals (with_reducible rfl))
              (try simp only [Act.put, List.setIfInBounds_toArray, List.set_cons_zero, List.set_cons_succ])
              refine takeY 1 (v := ?_) rfl (by kernel_rfl) (by kernel_rfl) (by kernel_rfl) (fun _ _ _ h => h) (by rfl) (by assumption) ?hy1 ?_
              case hy1 => (intro w hSw; (try dsimp only at hSw); obtain ⟨z0, z1, z2, z3, z4⟩ := hSw; go_simp; all_goals (with_reducible rfl))
              (try simp only [Act.put, List.setIfInBounds_toArray, List.set_cons_zero, List.set_cons_succ])
              refine takeY 2 (v := ?_) rfl (by kernel_rfl) (by kernel_rfl) (by kernel_rfl) (fun _ _ _ h => h) (by rfl) (by assumption) ?hy2 ?_
              case hy2 => (intro w hSw; (try dsimp only at hSw); obtain ⟨z0, z1, z2, z3, z4⟩ := hSw; go_simp; all_goals (with_reducible rfl))
              (try simp only [Act.put, List.setIfInBounds_toArray, List.set_cons_zero, List.set_cons_succ])
              refine takeY 3 (v := ?_) rfl (by kernel_rfl) (by kernel_rfl) (by kernel_rfl) (fun _ _ _ h => h) (by rfl) (by assumption) ?hy3 ?_
              case hy3 => (intro w hSw; (try dsimp only at hSw); obtain ⟨z0, z1, z2, z3, z4⟩ := hSw; go_simp; all_goals (with_reducible rfl))
              (try simp only [Act.put, List.setIfInBounds_toArray, List.set_cons_zero, List.set_cons_succ])
              refine takeY 4 (v := ?_) rfl (by kernel_rfl) (by kernel_rfl) (by kernel_rfl) (fun _ _ _ h => h) (by rfl) (by assumption) ?hy4 ?_
              case hy4 => (intro w hSw; (try dsimp only at hSw); obtain ⟨z0, z1, z2, z3, z4⟩ := hSw; go_simp; all_goals (with_reducible rfl))
              (try simp only [Act.put, List.setIfInBounds_toArray, List.set_cons_zero, List.set_cons_succ])
              refine takeY 5 (v := ?_) rfl (by kernel_rfl) (by kernel_rfl) (by kernel_rfl) (fun _ _ _ h => h) (by rfl) (by assumption) ?hy5 ?_
              case hy5 => (intro w hSw; (try dsimp only at hSw); obtain ⟨z0, z1, z2, z3, z4⟩ := hSw; go_simp; all_goals (with_reducible rfl))
              (try simp only [Act.put, List.setIfInBounds_toArray, List.set_cons_zero, List.set_cons_succ])
              refine skipY 6 rfl (by kernel_rfl) (by kernel_rfl) (by kernel_rfl) (fun _ _ _ h => h) (by rfl) (by assumption) ?_
              (try simp only [Act.put, List.setIfInBounds_toArray, List.set_cons_zero, List.set_cons_succ])
              refine skipY 7 rfl (by kernel_rfl) (by kernel_rfl) (by kernel_rfl) (fun _ _ _ h => h) (by rfl) (by assumption) ?_
              (try simp only [Act.put, List.setIfInBounds_toArray, List.set_cons_zero, List.set_cons_succ])
              refine skipY 8 rfl (by kernel_rfl) (by kernel_rfl) (by kernel_rfl) (fun _ _ _ h => h) (by rfl) (by assumption) ?_
              (try simp only [Act.put, List.setIfInBounds_toArray, List.set_cons_zero, List.set_cons_succ])
              refine skipY 9 rfl (by kernel_rfl) (by kernel_rfl) (by kernel_rfl) (fun _ _ _ h => h) (by rfl) (by assumption) ?_
              (try simp only [Act.put, List.setIfInBounds_toArray, List.set_cons_zero, List.set_cons_succ])
              refine skipY 10 rfl (by kernel_rfl) (by kernel_rfl) (by kernel_rfl) (fun _ _ _ h => h) (by rfl) (by assumption) ?_
              (try simp only [Act.put, List.setIfInBounds_toArray, List.set_cons_zero, List.set_cons_succ])
              refine takeY 11 (v := ?_) rfl (by kernel_rfl) (by kernel_rfl) (by kernel_rfl) (fun _ _ _ h => h) (by rfl) (by assumption) ?hy11 ?_
              case hy11 => (intro w hSw; (try dsimp only at hSw); obtain ⟨z0, z1, z2, z3, z4⟩ := hSw; go_simp; all_goals (with_reducible rfl))
              (try simp only [Act.put, List.setIfInBounds_toArray, List.set_cons_zero, List.set_cons_succ])
              refine takeY 12 (v := ?_) rfl (by kernel_rfl) (by kernel_rfl) (by kernel_rfl) (fun _ _ _ h => h) (by rfl) (by assumption) ?hy12 ?_
              case hy12 => (intro w hSw; (try dsimp only at hSw); obtain ⟨z0, z1, z2, z3, z4⟩ := hSw; go_simp; all_goals (with_reducible rfl))
              (try simp only [Act.put, List.setIfInBounds_toArray, List.set_cons_zero, List.set_cons_succ])
              refine takeY 13 (v := ?_) rfl (by kernel_rfl) (by kernel_rfl) (by kernel_rfl) (fun _ _ _ h => h) (by rfl) (by assumption) ?hy13 ?_
              case hy13 => (intro w hSw; (try dsimp only at hSw); obtain ⟨z0, z1, z2, z3, z4⟩ := hSw; go_simp; all_goals (with_reducible rfl))
              (try simp only [Act.put, List.setIfInBounds_toArray, List.set_cons_zero, List.set_cons_succ])
              refine skipY 14 rfl (by kernel_rfl) (by kernel_rfl) (by kernel_rfl) (fun _ _ _ h => h) (by rfl) (by assumption) ?_
              (try simp only [Act.put, List.setIfInBounds_toArray, List.set_cons_zero, List.set_cons_succ])
              refine skipY 15 rfl (by kernel_rfl) (by kernel_rfl) (by kernel_rfl) (fun _ _ _ h => h) (by rfl) (by assumption) ?_
              (try simp only [Act.put, List.setIfInBounds_toArray, List.set_cons_zero, List.set_cons_succ])
              refine skipY 16 rfl (by kernel_rfl) (by kernel_rfl) (by kernel_rfl) (fun _ _ _ h => h) (by rfl) (by assumption) ?_
              (try simp only [Act.put, List.setIfInBounds_toArray, List.set_cons_zero, List.set_cons_succ])
              refine skipY 17 rfl (by kernel_rfl) (by kernel_rfl) (by kernel_rfl) (fun _ _ _ h => h) (by rfl) (by assumption) ?_
              (try simp only [Act.put, List.setIfInBounds_toArray, List.set_cons_zero, List.set_cons_succ])
              refine skipY 18 rfl (by kernel_rfl) (by kernel_rfl) (by kernel_rfl) (fun _ _ _ h => h) (by rfl) (by assumption) ?_
              (try simp only [Act.put, List.setIfInBounds_toArray, List.set_cons_zero, List.set_cons_succ])
              refine skipY 19 rfl (by kernel_rfl) (by kernel_rfl) (by kernel_rfl) (fun _ _ _ h => h) (by rfl) (by assumption) ?_
              (try simp only [Act.put, List.setIfInBounds_toArray, List.set_cons_zero, List.set_cons_succ])
              refine skipY 20 rfl (by kernel_rfl) (by kernel_rfl) (by kernel_rfl) (fun _ _ _ h => h) (by rfl) (by assumption) ?_
              (try simp only [Act.put, List.setIfInBounds_toArray, List.set_cons_zero, List.set_cons_succ])
              refine skipY 21 rfl (by kernel_rfl) (by kernel_rfl) (by kernel_rfl) (fun _ _ _ h => h) (by rfl) (by assumption) ?_
              (try simp only [Act.put, List.setIfInBounds_toArray, List.set_cons_zero, List.set_cons_succ])
              refine takeY 22 (v := ?_) rfl (by kernel_rfl) (by kernel_rfl) (by kernel_rfl) (fun _ _ _ h => h) (by rfl) (by assumption) ?hy22 ?_
              case hy22 => (intro w hSw; (try dsimp only at hSw); obtain ⟨z0, z1, z2, z3, z4⟩ := hSw; go_simp; all_goals (with_reducible rfl))
              (try simp only [Act.put, List.setIfInBounds_toArray, List.set_cons_zero, List.set_cons_succ])
              refine wpAnyY_done (by kernel_rfl) ?_ _
              clear hHeld
              gi_wp2_with fail
              exact HE0.out
            | true =>
              by_cases hpq : p = q
              · have HE0 := Lib.hid (HFN.out (by rw [him]; exact segL_open hi1 (him ▸ Hp.out) Hq.out (.inr hpq)))
                subst hpq
                have e1 : (p.1 == p.1) = true := by simp
                have e2 : (p.2 == p.2) = true := by simp
                clear HYN HLen HFN hi1 him
                refine heldY_round (S := _) (by kernel_rfl) (by kernel_rfl) (hRd8d) (fun hHeld => ?_)
                refine takeY 0 (v := ?_) rfl (by kernel_rfl) (by kernel_rfl) (by kernel_rfl) (fun _ _ _ h => h) (by rfl) (by assumption) ?hy0 ?_
                case hy0 => (intro w hSw; (try dsimp only at hSw); obtain ⟨z0, z1, z2, z3, z4⟩ := hSw; go_simp; all_goals (with_reducible rfl))
                (try simp only [Act.put, List.setIfInBounds_toArray, List.set_cons_zero, List.set_cons_succ])
                refine takeY 1 (v := ?_) rfl (by kernel_rfl) (by kernel_rfl) (by kernel_rfl) (fun _ _ _ h => h) (by rfl) (by assumption) ?hy1 ?_
                case hy1 => (intro w hSw; (try dsimp only at hSw); obtain ⟨z0, z1, z2, z3, z4⟩ := hSw; go_simp; all_goals (with_reducible rfl))
                (try simp only [Act.put, List.setIfInBounds_toArray, List.set_cons_zero, List.set_cons_succ])
                refine takeY 2 (v := ?_) rfl (by kernel_rfl) (by kernel_rfl) (by kernel_rfl) (fun _ _ _ h => h) (by rfl) (by assumption) ?hy2 ?_
                case hy2 => (intro w hSw; (try dsimp only at hSw); obtain ⟨z0, z1, z2, z3, z4⟩ := hSw; go_simp; all_goals (with_reducible rfl))
                (try simp only [Act.put, List.setIfInBounds_toArray, List.set_cons_zero, List.set_cons_succ])
                refine takeY 3 (v := ?_) rfl (by kernel_rfl) (by kernel_rfl) (by kernel_rfl) (fun _ _ _ h => h) (by rfl) (by assumption) ?hy3 ?_
                case hy3 => (intro w hSw; (try dsimp only at hSw); obtain ⟨z0, z1, z2, z3, z4⟩ := hSw; go_simp; all_goals (with_reducible rfl))
                (try simp only [Act.put, List.setIfInBounds_toArray, List.set_cons_zero, List.set_cons_succ])
                refine takeY 4 (v := ?_) rfl (by kernel_rfl) (by kernel_rfl) (by kernel_rfl) (fun _ _ _ h => h) (by rfl) (by assumption) ?hy4 ?_
                case hy4 => (intro w hSw; (try dsimp only at hSw); obtain ⟨z0, z1, z2, z3, z4⟩ := hSw; go_simp; all_goals (with_reducible rfl))
                (try simp only [Act.put, List.setIfInBounds_toArray, List.set_cons_zero, List.set_cons_succ])
                refine takeY 5 (v := ?_) rfl (by kernel_rfl) (by kernel_rfl) (by kernel_rfl) (fun _ _ _ h => h) (by rfl) (by assumption) ?hy5 ?_
                case hy5 => (intro w hSw; (try dsimp only at hSw); obtain ⟨z0, z1, z2, z3, z4⟩ := hSw; go_simp; all_goals (with_reducible rfl))
                (try simp only [Act.put, List.setIfInBounds_toArray, List.set_cons_zero, List.set_cons_succ])
                refine takeY 6 (v := ?_) rfl (by kernel_rfl) (by kernel_rfl) (by kernel_rfl) (fun _ _ _ h => h) (by rfl) (by assumption) ?hy6 ?_
                case hy6 => (intro w hSw; (try dsimp only at hSw); obtain ⟨z0, z1, z2, z3, z4⟩ := hSw; go_simp; all_goals (with_reducible rfl))
                (try simp only [Act.put, List.setIfInBounds_toArray, List.set_cons_zero, List.set_cons_succ])
                refine takeY 7 (v := ?_) rfl (by kernel_rfl) (by kernel_rfl) (by kernel_rfl) (fun _ _ _ h => h) (by rfl) (by assumption) ?hy7 ?_
                case hy7 => (intro w hSw; (try dsimp only at hSw); obtain ⟨z0, z1, z2, z3, z4⟩ := hSw; go_simp; all_goals (with_reducible rfl))
                (try simp only [Act.put, List.setIfInBounds_toArray, List.set_cons_zero, List.set_cons_succ])
                refine takeY 8 (v := ?_) rfl (by kernel_rfl) (by kernel_rfl) (by kernel_rfl) (fun _ _ _ h => h) (by rfl) (by assumption) ?hy8 ?_
                case hy8 => (intro w hSw; (try dsimp only at hSw); obtain ⟨z0, z1, z2, z3, z4⟩ := hSw; go_simp; all_goals (with_reducible rfl))
                (try simp only [Act.put, List.setIfInBounds_toArray, List.set_cons_zero, List.set_cons_succ])
                refine takeY 9 (v := ?_) rfl (by kernel_rfl) (by kernel_rfl) (by kernel_rfl) (fun _ _ _ h => h) (by rfl) (by assumption) ?hy9 ?_
                case hy9 => (intro w hSw; (try dsimp only at hSw); obtain ⟨z0, z1, z2, z3, z4⟩ := hSw; go_simp; all_goals (with_reducible rfl))
                (try simp only [Act.put, List.setIfInBounds_toArray, List.set_cons_zero, List.set_cons_succ])
                refine takeY 10 (v := ?_) rfl (by kernel_rfl) (by kernel_rfl) (by kernel_rfl) (fun _ _ _ h => h) (by rfl) (by assumption) ?hy10 ?_
                case hy10 => (intro w hSw; (try dsimp only at hSw); obtain ⟨z0, z1, z2, z3, z4⟩ := hSw; go_simp; all_goals (with_reducible rfl))
                (try simp only [Act.put, List.setIfInBounds_toArray, List.set_cons_zero, List.set_cons_succ])
                refine takeY 11 (v := ?_) rfl (by kernel_rfl) (by kernel_rfl) (by kernel_rfl) (fun _ _ _ h => h) (by rfl) (by assumption) ?hy11 ?_
                case hy11 => (intro w hSw; (try dsimp only at hSw); obtain ⟨z0, z1, z2, z3, z4⟩ := hSw; go_simp; all_goals (with_reducible rfl))
                (try simp only [Act.put, List.setIfInBounds_toArray, List.set_cons_zero, List.set_cons_succ])
                refine takeY 12 (v := ?_) rfl (by kernel_rfl) (by kernel_rfl) (by kernel_rfl) (fun _ _ _ h => h) (by rfl) (by assumption) ?hy12 ?_
                case hy12 => (intro w hSw; (try dsimp only at hSw); obtain ⟨z0, z1, z2, z3, z4⟩ := hSw; go_simp; all_goals (with_reducible rfl))
                (try simp only [Act.put, List.setIfInBounds_toArray, List.set_cons_zero, List.set_cons_succ])
                refine takeY 13 (v := ?_) rfl (by kernel_rfl) (by kernel_rfl) (by kernel_rfl) (fun _ _ _ h => h) (by rfl) (by assumption) ?hy13 ?_
                case hy13 => (intro w hSw; (try dsimp only at hSw); obtain ⟨z0, z1, z2, z3, z4⟩ := hSw; go_simp; all_goals (with_reducible rfl))
                (try simp only [Act.put, List.setIfInBounds_toArray, List.set_cons_zero, List.set_cons_succ])
                refine skipY 14 rfl (by kernel_rfl) (by kernel_rfl) (by kernel_rfl) (fun _ _ _ h => h) (by rfl) (by assumption) ?_
                (try simp only [Act.put, List.setIfInBounds_toArray, List.set_cons_zero, List.set_cons_succ])
                refine skipY 15 rfl (by kernel_rfl) (by kernel_rfl) (by kernel_rfl) (fun _ _ _ h => h) (by rfl) (by assumption) ?_
                (try simp only [Act.put, List.setIfInBounds_toArray, List.set_cons_zero, List.set_cons_succ])
                refine skipY 16 rfl (by kernel_rfl) (by kernel_rfl) (by kernel_rfl) (fun _ _ _ h => h) (by rfl) (by assumption) ?_
                (try simp only [Act.put, List.setIfInBounds_toArray, List.set_cons_zero, List.set_cons_succ])
                refine skipY 17 rfl (by kernel_rfl) (by kernel_rfl) (by kernel_rfl) (fun _ _ _ h => h) (by rfl) (by assumption) ?_
                (try simp only [Act.put, List.setIfInBounds_toArray, List.set_cons_zero, List.set_cons_succ])
                refine skipY 18 rfl (by kernel_rfl) (by kernel_rfl) (by kernel_rfl) (fun _ _ _ h => h) (by rfl) (by assumption) ?_
                (try simp only [Act.put, List.setIfInBounds_toArray, List.set_cons_zero, List.set_cons_succ])
                refine skipY 19 rfl (by kernel_rfl) (by kernel_rfl) (by kernel_rfl) (fun _ _ _ h => h) (by rfl) (by assumption) ?_
                (try simp only [Act.put, List.setIfInBounds_toArray, List.set_cons_zero, List.set_cons_succ])
                refine skipY 20 rfl (by kernel_rfl) (by kernel_rfl) (by kernel_rfl) (fun _ _ _ h => h) (by rfl) (by assumption) ?_
                (try simp only [Act.put, List.setIfInBounds_toArray, List.set_cons_zero, List.set_cons_succ])
                refine skipY 21 rfl (by kernel_rfl) (by kernel_rfl) (by kernel_rfl) (fun _ _ _ h => h) (by rfl) (by assumption) ?_
                (try simp only [Act.put, List.setIfInBounds_toArray, List.set_cons_zero, List.set_cons_succ])
                refine takeY 22 (v := ?_) rfl (by kernel_rfl) (by kernel_rfl) (by kernel_rfl) (fun _ _ _ h => h) (by rfl) (by assumption) ?hy22 ?_
                case hy22 => (intro w hSw; (try dsimp only at hSw); obtain ⟨z0, z1, z2, z3, z4⟩ := hSw; go_simp; all_goals (with_reducible rfl))
                (try simp only [Act.put, List.setIfInBounds_toArray, List.set_cons_zero, List.set_cons_succ])
                refine wpAnyY_done (by kernel_rfl) ?_ _
                clear hHeld
                gi_wp2_with fail
                exact HE0.out
              · have hlast := segL_last hi1 (him ▸ Hp.out) Hq.out hpq
                rw [← him] at hlast
                have HYN := HYN ⟨_, rfl, hlast.1⟩
                have HL := HLen (i + 1) (by rw [hlast.2]; omega)
                clear HLen HFN hi1 him hlast
                by_cases h1 : p.1 = q.1
                · have h2 : ¬ p.2 = q.2 := fun e => hpq (Prod.ext h1 e)
                  have e1 : (p.1 == q.1) = true := by rw [beq_iff_eq]; exact h1
                  have e2 : (p.2 == q.2) = false := by rw [beq_eq_false_iff_ne]; exact h2
                  clear hpq h1 h2
                  refine heldY_round (S := _) (by kernel_rfl) (by kernel_rfl) (hRd8d) (fun hHeld => ?_)
                  refine takeY 0 (v := ?_) rfl (by kernel_rfl) (by kernel_rfl) (by kernel_rfl) (fun _ _ _ h => h) (by rfl) (by assumption) ?hy0 ?_
                  case hy0 => (intro w hSw; (try dsimp only at hSw); obtain ⟨z0, z1, z2, z3, z4⟩ := hSw; go_simp; all_goals (with_reducible rfl))
                  (try simp only [Act.put, List.setIfInBounds_toArray, List.set_cons_zero, List.set_cons_succ])
                  refine takeY 1 (v := ?_) rfl (by kernel_rfl) (by kernel_rfl) (by kernel_rfl) (fun _ _ _ h => h) (by rfl) (by assumption) ?hy1 ?_
                  case hy1 => (intro w hSw; (try dsimp only at hSw); obtain ⟨z0, z1, z2, z3, z4⟩ := hSw; go_simp; all_goals (with_reducible rfl))
                  (try simp only [Act.put, List.setIfInBounds_toArray, List.set_cons_zero, List.set_cons_succ])
                  refine takeY 2 (v := ?_) rfl (by kernel_rfl) (by kernel_rfl) (by kernel_rfl) (fun _ _ _ h => h) (by rfl) (by assumption) ?hy2 ?_
                  case hy2 => (intro w hSw; (try dsimp only at hSw); obtain ⟨z0, z1, z2, z3, z4⟩ := hSw; go_simp; all_goals (with_reducible rfl))
                  (try simp only [Act.put, List.setIfInBounds_toArray, List.set_cons_zero, List.set_cons_succ])
                  refine takeY 3 (v := ?_) rfl (by kernel_rfl) (by kernel_rfl) (by kernel_rfl) (fun _ _ _ h => h) (by rfl) (by assumption) ?hy3 ?_
                  case hy3 => (intro w hSw; (try dsimp only at hSw); obtain ⟨z0, z1, z2, z3, z4⟩ := hSw; go_simp; all_goals (with_reducible rfl))
                  (try simp only [Act.put, List.setIfInBounds_toArray, List.set_cons_zero, List.set_cons_succ])
                  refine takeY 4 (v := ?_) rfl (by kernel_rfl) (by kernel_rfl) (by kernel_rfl) (fun _ _ _ h => h) (by rfl) (by assumption) ?hy4 ?_
                  case hy4 => (intro w hSw; (try dsimp only at hSw); obtain ⟨z0, z1, z2, z3, z4⟩ := hSw; go_simp; all_goals (with_reducible rfl))
                  (try simp only [Act.put, List.setIfInBounds_toArray, List.set_cons_zero, List.set_cons_succ])
                  refine takeY 5 (v := ?_) rfl (by kernel_rfl) (by kernel_rfl) (by kernel_rfl) (fun _ _ _ h => h) (by rfl) (by assumption) ?hy5 ?_
                  case hy5 => (intro w hSw; (try dsimp only at hSw); obtain ⟨z0, z1, z2, z3, z4⟩ := hSw; go_simp; all_goals (with_reducible rfl))
                  (try simp only [Act.put, List.setIfInBounds_toArray, List.set_cons_zero, List.set_cons_succ])
                  refine takeY 6 (v := ?_) rfl (by kernel_rfl) (by kernel_rfl) (by kernel_rfl) (fun _ _ _ h => h) (by rfl) (by assumption) ?hy6 ?_
                  case hy6 => (intro w hSw; (try dsimp only at hSw); obtain ⟨z0, z1, z2, z3, z4⟩ := hSw; go_simp; all_goals (with_reducible rfl))
                  (try simp only [Act.put, List.setIfInBounds_toArray, List.set_cons_zero, List.set_cons_succ])
                  refine takeY 7 (v := ?_) rfl (by kernel_rfl) (by kernel_rfl) (by kernel_rfl) (fun _ _ _ h => h) (by rfl) (by assumption) ?hy7 ?_
                  case hy7 => (intro w hSw; (try dsimp only at hSw); obtain ⟨z0, z1, z2, z3, z4⟩ := hSw; go_simp; all_goals (with_reducible rfl))
                  (try simp only [Act.put, List.setIfInBounds_toArray, List.set_cons_zero, List.set_cons_succ])
                  refine takeY 8 (v := ?_) rfl (by kernel_rfl) (by kernel_rfl) (by kernel_rfl) (fun _ _ _ h => h) (by rfl) (by assumption) ?hy8 ?_
                  case hy8 => (intro w hSw; (try dsimp only at hSw); obtain ⟨z0, z1, z2, z3, z4⟩ := hSw; go_simp; all_goals (with_reducible rfl))
                  (try simp only [Act.put, List.setIfInBounds_toArray, List.set_cons_zero, List.set_cons_succ])
                  refine takeY 9 (v := ?_) rfl (by kernel_rfl) (by kernel_rfl) (by kernel_rfl) (fun _ _ _ h => h) (by rfl) (by assumption) ?hy9 ?_
                  case hy9 => (intro w hSw; (try dsimp only at hSw); obtain ⟨z0, z1, z2, z3, z4⟩ := hSw; go_simp; all_goals (with_reducible rfl))
                  (try simp only [Act.put, List.setIfInBounds_toArray, List.set_cons_zero, List.set_cons_succ])
                  refine takeY 10 (v := ?_) rfl (by kernel_rfl) (by kernel_rfl) (by kernel_rfl) (fun _ _ _ h => h) (by rfl) (by assumption) ?hy10 ?_
                  case hy10 => (intro w hSw; (try dsimp only at hSw); obtain ⟨z0, z1, z2, z3, z4⟩ := hSw; go_simp; all_goals (with_reducible rfl))
                  (try simp only [Act.put, List.setIfInBounds_toArray, List.set_cons_zero, List.set_cons_succ])
                  refine takeY 11 (v := ?_) rfl (by kernel_rfl) (by kernel_rfl) (by kernel_rfl) (fun _ _ _ h => h) (by rfl) (by assumption) ?hy11 ?_
                  case hy11 => (intro w hSw; (try dsimp only at hSw); obtain ⟨z0, z1, z2, z3, z4⟩ := hSw; go_simp; all_goals (with_reducible rfl))
                  (try simp only [Act.put, List.setIfInBounds_toArray, List.set_cons_zero, List.set_cons_succ])
                  refine takeY 12 (v := ?_) rfl (by kernel_rfl) (by kernel_rfl) (by kernel_rfl) (fun _ _ _ h => h) (by rfl) (by assumption) ?hy12 ?_
                  case hy12 => (intro w hSw; (try dsimp only at hSw); obtain ⟨z0, z1, z2, z3, z4⟩ := hSw; go_simp; all_goals (with_reducible rfl))
                  (try simp only [Act.put, List.setIfInBounds_toArray, List.set_cons_zero, List.set_cons_succ])
                  refine takeY 13 (v := ?_) rfl (by kernel_rfl) (by kernel_rfl) (by kernel_rfl) (fun _ _ _ h => h) (by rfl) (by assumption) ?hy13 ?_
                  case hy13 => (intro w hSw; (try dsimp only at hSw); obtain ⟨z0, z1, z2, z3, z4⟩ := hSw; go_simp; all_goals (with_reducible rfl))
                  (try simp only [Act.put, List.setIfInBounds_toArray, List.set_cons_zero, List.set_cons_succ])
                  refine takeY 14 (v := ?_) rfl (by kernel_rfl) (by kernel_rfl) (by kernel_rfl) (fun _ _ _ h => h) (by rfl) (by assumption) ?hy14 ?_
                  case hy14 => (intro w hSw; (try dsimp only at hSw); obtain ⟨z0, z1, z2, z3, z4⟩ := hSw; go_simp; all_goals (with_reducible rfl))
                  (try simp only [Act.put, List.setIfInBounds_toArray, List.set_cons_zero, List.set_cons_succ])
                  refine takeY 15 (v := ?_) rfl (by kernel_rfl) (by kernel_rfl) (by kernel_rfl) (fun _ _ _ h => h) (by rfl) (by assumption) ?hy15 ?_
                  case hy15 => (intro w hSw; (try dsimp only at hSw); obtain ⟨z0, z1, z2, z3, z4⟩ := hSw; go_simp; all_goals (with_reducible rfl))
                  (try simp only [Act.put, List.setIfInBounds_toArray, List.set_cons_zero, List.set_cons_succ])
                  refine takeY 16 (v := ?_) rfl (by kernel_rfl) (by kernel_rfl) (by kernel_rfl) (fun _ _ _ h => h) (by rfl) (by assumption) ?hy16 ?_
                  case hy16 => (intro w hSw; (try dsimp only at hSw); obtain ⟨z0, z1, z2, z3, z4⟩ := hSw; go_simp; all_goals (with_reducible rfl))
                  (try simp only [Act.put, List.setIfInBounds_toArray, List.set_cons_zero, List.set_cons_succ])
                  refine takeY 17 (v := ?_) rfl (by kernel_rfl) (by kernel_rfl) (by kernel_rfl) (fun _ _ _ h => h) (by rfl) (by assumption) ?hy17 ?_
                  case hy17 => (intro w hSw; (try dsimp only at hSw); obtain ⟨z0, z1, z2, z3, z4⟩ := hSw; go_simp; all_goals (with_reducible rfl))
                  (try simp only [Act.put, List.setIfInBounds_toArray, List.set_cons_zero, List.set_cons_succ])
                  refine takeY 18 (v := ?_) rfl (by kernel_rfl) (by kernel_rfl) (by kernel_rfl) (fun _ _ _ h => h) (by rfl) (by assumption) ?hy18 ?_
                  case hy18 => (intro w hSw; (try dsimp only at hSw); obtain ⟨z0, z1, z2, z3, z4⟩ := hSw; go_simp; all_goals (with_reducible rfl))
                  (try simp only [Act.put, List.setIfInBounds_toArray, List.set_cons_zero, List.set_cons_succ])
                  refine takeY 19 (v := ?_) rfl (by kernel_rfl) (by kernel_rfl) (by kernel_rfl) (fun _ _ _ h => h) (by rfl) (by assumption) ?hy19 ?_
                  case hy19 => (intro w hSw; (try dsimp only at hSw); obtain ⟨z0, z1, z2, z3, z4⟩ := hSw; go_simp; all_goals (with_reducible rfl))
                  (try simp only [Act.put, List.setIfInBounds_toArray, List.set_cons_zero, List.set_cons_succ])
                  refine yieldY 20 (by kernel_rfl) rfl rfl (by rfl) (by rfl) (by rfl) HYN.out ?_
                  intro e w2 hR2
                  rcases hR2 with ⟨rfl, hj2, hk2⟩ | ⟨rfl, hj2, hk2⟩
                  · have hSn := hRd8 w2 hk2
                    have HE2 := Lib.hid (hj2.fin HL.out)
                    clear hj2 hk2
                    refine ⟨.bool true, rfl, hSn, ?_⟩
                    clear hHeld
                    have hHeld := hSn
                    (try simp only [Act.put, List.setIfInBounds_toArray, List.set_cons_zero, List.set_cons_succ])
                    refine takeY 21 (v := ?_) rfl (by kernel_rfl) (by kernel_rfl) (by kernel_rfl) (fun _ _ _ h => h) (by rfl) (by assumption) ?hy21 ?_
                    case hy21 => (intro w hSw; (try dsimp only at hSw); obtain ⟨z0, z1, z2, z3, z4⟩ := hSw; go_simp; all_goals (with_reducible rfl))
                    (try simp only [Act.put, List.setIfInBounds_toArray, List.set_cons_zero, List.set_cons_succ])
                    refine takeY 22 (v := ?_) rfl (by kernel_rfl) (by kernel_rfl) (by kernel_rfl) (fun _ _ _ h => h) (by rfl) (by assumption) ?hy22 ?_
                    case hy22 => (intro w hSw; (try dsimp only at hSw); obtain ⟨z0, z1, z2, z3, z4⟩ := hSw; go_simp; all_goals (with_reducible rfl))
                    (try simp only [Act.put, List.setIfInBounds_toArray, List.set_cons_zero, List.set_cons_succ])
                    refine wpAnyY_done (by kernel_rfl) ?_ _
                    clear hHeld hSn
                    gi_wp2_with fail
                    exact HE2.out

                  · have hSn := hRd8 w2 hk2
                    have HX2 := Lib.hid hj2
                    clear hj2 hk2
                    refine ⟨.bool false, rfl, hSn, ?_⟩
                    clear hHeld
                    have hHeld := hSn
                    (try simp only [Act.put, List.setIfInBounds_toArray, List.set_cons_zero, List.set_cons_succ])
                    refine takeY 21 (v := ?_) rfl (by kernel_rfl) (by kernel_rfl) (by kernel_rfl) (fun _ _ _ h => h) (by rfl) (by assumption) ?hy21 ?_
                    case hy21 => (intro w hSw; (try dsimp only at hSw); obtain ⟨z0, z1, z2, z3, z4⟩ := hSw; go_simp; all_goals (with_reducible rfl))
                    (try simp only [Act.put, List.setIfInBounds_toArray, List.set_cons_zero, List.set_cons_succ])
                    refine takeY 22 (v := ?_) rfl (by kernel_rfl) (by kernel_rfl) (by kernel_rfl) (fun _ _ _ h => h) (by rfl) (by assumption) ?hy22 ?_
                    case hy22 => (intro w hSw; (try dsimp only at hSw); obtain ⟨z0, z1, z2, z3, z4⟩ := hSw; go_simp; all_goals (with_reducible rfl))
                    (try simp only [Act.put, List.setIfInBounds_toArray, List.set_cons_zero, List.set_cons_succ])
                    refine wpAnyY_done (by kernel_rfl) ?_ _
                    clear hHeld hSn
                    gi_wp2_with fail
                    exact HX2.out

                · have e1 : (p.1 == q.1) = false := by rw [beq_eq_false_iff_ne]; exact h1
                  clear hpq h1
                  refine heldY_round (S := _) (by kernel_rfl) (by kernel_rfl) (hRd8d) (fun hHeld => ?_)
                  refine takeY 0 (v := ?_) rfl (by kernel_rfl) (by kernel_rfl) (by kernel_rfl) (fun _ _ _ h => h) (by rfl) (by assumption) ?hy0 ?_
                  case hy0 => (intro w hSw; (try dsimp only at hSw); obtain ⟨z0, z1, z2, z3, z4⟩ := hSw; go_simp; all_goals (with_reducible rfl))
                  (try simp only [Act.put, List.setIfInBounds_toArray, List.set_cons_zero, List.set_cons_succ])
                  refine takeY 1 (v := ?_) rfl (by kernel_rfl) (by kernel_rfl) (by kernel_rfl) (fun _ _ _ h => h) (by rfl) (by assumption) ?hy1 ?_
                  case hy1 => (intro w hSw; (try dsimp only at hSw); obtain ⟨z0, z1, z2, z3, z4⟩ := hSw; go_simp; all_goals (with_reducible rfl))
                  (try simp only [Act.put, List.setIfInBounds_toArray, List.set_cons_zero, List.set_cons_succ])
                  refine takeY 2 (v := ?_) rfl (by kernel_rfl) (by kernel_rfl) (by kernel_rfl) (fun _ _ _ h => h) (by rfl) (by assumption) ?hy2 ?_
                  case hy2 => (intro w hSw; (try dsimp only at hSw); obtain ⟨z0, z1, z2, z3, z4⟩ := hSw; go_simp; all_goals (with_reducible rfl))
                  (try simp only [Act.put, List.setIfInBounds_toArray, List.set_cons_zero, List.set_cons_succ])
                  refine takeY 3 (v := ?_) rfl (by kernel_rfl) (by kernel_rfl) (by kernel_rfl) (fun _ _ _ h => h) (by rfl) (by assumption) ?hy3 ?_
                  case hy3 => (intro w hSw; (try dsimp only at hSw); obtain ⟨z0, z1, z2, z3, z4⟩ := hSw; go_simp; all_goals (with_reducible rfl))
                  (try simp only [Act.put, List.setIfInBounds_toArray, List.set_cons_zero, List.set_cons_succ])
                  refine takeY 4 (v := ?_) rfl (by kernel_rfl) (by kernel_rfl) (by kernel_rfl) (fun _ _ _ h => h) (by rfl) (by assumption) ?hy4 ?_
                  case hy4 => (intro w hSw; (try dsimp only at hSw); obtain ⟨z0, z1, z2, z3, z4⟩ := hSw; go_simp; all_goals (with_reducible rfl))
                  (try simp only [Act.put, List.setIfInBounds_toArray, List.set_cons_zero, List.set_cons_succ])
                  refine takeY 5 (v := ?_) rfl (by kernel_rfl) (by kernel_rfl) (by kernel_rfl) (fun _ _ _ h => h) (by rfl) (by assumption) ?hy5 ?_
                  case hy5 => (intro w hSw; (try dsimp only at hSw); obtain ⟨z0, z1, z2, z3, z4⟩ := hSw; go_simp; all_goals (with_reducible rfl))
                  (try simp only [Act.put, List.setIfInBounds_toArray, List.set_cons_zero, List.set_cons_succ])
                  refine takeY 6 (v := ?_) rfl (by kernel_rfl) (by kernel_rfl) (by kernel_rfl) (fun _ _ _ h => h) (by rfl) (by assumption) ?hy6 ?_
                  case hy6 => (intro w hSw; (try dsimp only at hSw); obtain ⟨z0, z1, z2, z3, z4⟩ := hSw; go_simp; all_goals (with_reducible rfl))
                  (try simp only [Act.put, List.setIfInBounds_toArray, List.set_cons_zero, List.set_cons_succ])
                  refine takeY 7 (v := ?_) rfl (by kernel_rfl) (by kernel_rfl) (by kernel_rfl) (fun _ _ _ h => h) (by rfl) (by assumption) ?hy7 ?_
                  case hy7 => (intro w hSw; (try dsimp only at hSw); obtain ⟨z0, z1, z2, z3, z4⟩ := hSw; go_simp; all_goals (with_reducible rfl))
                  (try simp only [Act.put, List.setIfInBounds_toArray, List.set_cons_zero, List.set_cons_succ])
                  refine takeY 8 (v := ?_) rfl (by kernel_rfl) (by kernel_rfl) (by kernel_rfl) (fun _ _ _ h => h) (by rfl) (by assumption) ?hy8 ?_
                  case hy8 => (intro w hSw; (try dsimp only at hSw); obtain ⟨z0, z1, z2, z3, z4⟩ := hSw; go_simp; all_goals (with_reducible rfl))
                  (try simp only [Act.put, List.setIfInBounds_toArray, List.set_cons_zero, List.set_cons_succ])
                  refine takeY 9 (v := ?_) rfl (by kernel_rfl) (by kernel_rfl) (by kernel_rfl) (fun _ _ _ h => h) (by rfl) (by assumption) ?hy9 ?_
                  case hy9 => (intro w hSw; (try dsimp only at hSw); obtain ⟨z0, z1, z2, z3, z4⟩ := hSw; go_simp; all_goals (with_reducible rfl))
                  (try simp only [Act.put, List.setIfInBounds_toArray, List.set_cons_zero, List.set_cons_succ])
                  refine takeY 10 (v := ?_) rfl (by kernel_rfl) (by kernel_rfl) (by kernel_rfl) (fun _ _ _ h => h) (by rfl) (by assumption) ?hy10 ?_
                  case hy10 => (intro w hSw; (try dsimp only at hSw); obtain ⟨z0, z1, z2, z3, z4⟩ := hSw; go_simp; all_goals (with_reducible rfl))
                  (try simp only [Act.put, List.setIfInBounds_toArray, List.set_cons_zero, List.set_cons_succ])
                  refine takeY 11 (v := ?_) rfl (by kernel_rfl) (by kernel_rfl) (by kernel_rfl) (fun _ _ _ h => h) (by rfl) (by assumption) ?hy11 ?_
                  case hy11 => (intro w hSw; (try dsimp only at hSw); obtain ⟨z0, z1, z2, z3, z4⟩ := hSw; go_simp; all_goals (with_reducible rfl))
                  (try simp only [Act.put, List.setIfInBounds_toArray, List.set_cons_zero, List.set_cons_succ])
                  refine takeY 12 (v := ?_) rfl (by kernel_rfl) (by kernel_rfl) (by kernel_rfl) (fun _ _ _ h => h) (by rfl) (by assumption) ?hy12 ?_
                  case hy12 => (intro w hSw; (try dsimp only at hSw); obtain ⟨z0, z1, z2, z3, z4⟩ := hSw; go_simp; all_goals (with_reducible rfl))
                  (try simp only [Act.put, List.setIfInBounds_toArray, List.set_cons_zero, List.set_cons_succ])
                  refine takeY 13 (v := ?_) rfl (by kernel_rfl) (by kernel_rfl) (by kernel_rfl) (fun _ _ _ h => h) (by rfl) (by assumption) ?hy13 ?_
                  case hy13 => (intro w hSw; (try dsimp only at hSw); obtain ⟨z0, z1, z2, z3, z4⟩ := hSw; go_simp; all_goals (with_reducible rfl))
                  (try simp only [Act.put, List.setIfInBounds_toArray, List.set_cons_zero, List.set_cons_succ])
                  refine takeY 14 (v := ?_) rfl (by kernel_rfl) (by kernel_rfl) (by kernel_rfl) (fun _ _ _ h => h) (by rfl) (by assumption) ?hy14 ?_
                  case hy14 => (intro w hSw; (try dsimp only at hSw); obtain ⟨z0, z1, z2, z3, z4⟩ := hSw; go_simp; all_goals (with_reducible rfl))
                  (try simp only [Act.put, List.setIfInBounds_toArray, List.set_cons_zero, List.set_cons_succ])
                  refine takeY 15 (v := ?_) rfl (by kernel_rfl) (by kernel_rfl) (by kernel_rfl) (fun _ _ _ h => h) (by rfl) (by assumption) ?hy15 ?_
                  case hy15 => (intro w hSw; (try dsimp only at hSw); obtain ⟨z0, z1, z2, z3, z4⟩ := hSw; go_simp; all_goals (with_reducible rfl))
                  (try simp only [Act.put, List.setIfInBounds_toArray, List.set_cons_zero, List.set_cons_succ])
                  refine takeY 16 (v := ?_) rfl (by kernel_rfl) (by kernel_rfl) (by kernel_rfl) (fun _ _ _ h => h) (by rfl) (by assumption) ?hy16 ?_
                  case hy16 => (intro w hSw; (try dsimp only at hSw); obtain ⟨z0, z1, z2, z3, z4⟩ := hSw; go_simp; all_goals (with_reducible rfl))
                  (try simp only [Act.put, List.setIfInBounds_toArray, List.set_cons_zero, List.set_cons_succ])
                  refine takeY 17 (v := ?_) rfl (by kernel_rfl) (by kernel_rfl) (by kernel_rfl) (fun _ _ _ h => h) (by rfl) (by assumption) ?hy17 ?_
                  case hy17 => (intro w hSw; (try dsimp only at hSw); obtain ⟨z0, z1, z2, z3, z4⟩ := hSw; go_simp; all_goals (with_reducible rfl))
                  (try simp only [Act.put, List.setIfInBounds_toArray, List.set_cons_zero, List.set_cons_succ])
                  refine takeY 18 (v := ?_) rfl (by kernel_rfl) (by kernel_rfl) (by kernel_rfl) (fun _ _ _ h => h) (by rfl) (by assumption) ?hy18 ?_
                  case hy18 => (intro w hSw; (try dsimp only at hSw); obtain ⟨z0, z1, z2, z3, z4⟩ := hSw; go_simp; all_goals (with_reducible rfl))
                  (try simp only [Act.put, List.setIfInBounds_toArray, List.set_cons_zero, List.set_cons_succ])
                  refine takeY 19 (v := ?_) rfl (by kernel_rfl) (by kernel_rfl) (by kernel_rfl) (fun _ _ _ h => h) (by rfl) (by assumption) ?hy19 ?_
                  case hy19 => (intro w hSw; (try dsimp only at hSw); obtain ⟨z0, z1, z2, z3, z4⟩ := hSw; go_simp; all_goals (with_reducible rfl))
                  (try simp only [Act.put, List.setIfInBounds_toArray, List.set_cons_zero, List.set_cons_succ])
                  refine yieldY 20 (by kernel_rfl) rfl rfl (by rfl) (by rfl) (by rfl) HYN.out ?_
                  intro e w2 hR2
                  rcases hR2 with ⟨rfl, hj2, hk2⟩ | ⟨rfl, hj2, hk2⟩
                  · have hSn := hRd8 w2 hk2
                    have HE2 := Lib.hid (hj2.fin HL.out)
                    clear hj2 hk2
                    refine ⟨.bool true, rfl, hSn, ?_⟩
                    clear hHeld
                    have hHeld := hSn
                    (try simp only [Act.put, List.setIfInBounds_toArray, List.set_cons_zero, List.set_cons_succ])
                    refine takeY 21 (v := ?_) rfl (by kernel_rfl) (by kernel_rfl) (by kernel_rfl) (fun _ _ _ h => h) (by rfl) (by assumption) ?hy21 ?_
                    case hy21 => (intro w hSw; (try dsimp only at hSw); obtain ⟨z0, z1, z2, z3, z4⟩ := hSw; go_simp; all_goals (with_reducible rfl))
                    (try simp only [Act.put, List.setIfInBounds_toArray, List.set_cons_zero, List.set_cons_succ])
                    refine takeY 22 (v := ?_) rfl (by kernel_rfl) (by kernel_rfl) (by kernel_rfl) (fun _ _ _ h => h) (by rfl) (by assumption) ?hy22 ?_
                    case hy22 => (intro w hSw; (try dsimp only at hSw); obtain ⟨z0, z1, z2, z3, z4⟩ := hSw; go_simp; all_goals (with_reducible rfl))
                    (try simp only [Act.put, List.setIfInBounds_toArray, List.set_cons_zero, List.set_cons_succ])
                    refine wpAnyY_done (by kernel_rfl) ?_ _
                    clear hHeld hSn
                    gi_wp2_with fail
                    exact HE2.out

                  · have hSn := hRd8 w2 hk2
                    have HX2 := Lib.hid hj2
                    clear hj2 hk2
                    refine ⟨.bool false, rfl, hSn, ?_⟩
                    clear hHeld
                    have hHeld := hSn
                    (try simp only [Act.put, List.setIfInBounds_toArray, List.set_cons_zero, List.set_cons_succ])
                    refine takeY 21 (v := ?_) rfl (by kernel_rfl) (by kernel_rfl) (by kernel_rfl) (fun _ _ _ h => h) (by rfl) (by assumption) ?hy21 ?_
                    case hy21 => (intro w hSw; (try dsimp only at hSw); obtain ⟨z0, z1, z2, z3, z4⟩ := hSw; go_simp; all_goals (with_reducible rfl))
                    (try simp only [Act.put, List.setIfInBounds_toArray, List.set_cons_zero, List.set_cons_succ])
                    refine takeY 22 (v := ?_) rfl (by kernel_rfl) (by kernel_rfl) (by kernel_rfl) (fun _ _ _ h => h) (by rfl) (by assumption) ?hy22 ?_
                    case hy22 => (intro w hSw; (try dsimp only at hSw); obtain ⟨z0, z1, z2, z3, z4⟩ := hSw; go_simp; all_goals (with_reducible rfl))
                    (try simp only [Act.put, List.setIfInBounds_toArray, List.set_cons_zero, List.set_cons_succ])
                    refine wpAnyY_done (by kernel_rfl) ?_ _
                    clear hHeld hSn
                    gi_wp2_with fail
                    exact HX2.out

  case done =>
    intro Oi Wd hk hlt hi hD
    have hlen : (allY n1 (vs ++ us)).length = (f.lines ++ f.rings).length := by
      have hFW := HF.out W (Kept.refl _ _)
      unfold allY; rw [List.length_mapIdx, List.length_append, List.length_append, hFW.ll, hFW.lr]
    rw [hlen] at hi
    obtain ⟨i2, i3, O, i4, i5, i6, i7, i8⟩ := hi
    rw [segP_all] at i4
    have hfin : Hid (∃ O, (∀ j, O j → W.heap.size ≤ j ∧ j < (Wd.putObj w1.heap.size (.deferred none)).heap.size) ∧ J ((segF f).map segV).length O (Wd.putObj w1.heap.size (.deferred none))) := by
      rw [List.length_map]
      exact ⟨O, fun j hj => by rw [World.putObj_size]; exact i5 j hj, HJ.out _ _ _ _ _ i4 (Ext.putObj (by omega) hD rfl _) (fun j hj => .inl hj)⟩
    have HK : Hid (Kept S W (Wd.putObj w1.heap.size (.deferred none))) := i2.trans ⟨rfl, rfl, rfl, by simp, fun j hj => World.putObj_heap_other (by have := HS.out j hj; omega)⟩
    have HD := Lib.hid hD
    clear i2 i3 i4 i5 i6 i7 i8 hD hlen
    gi_wp2_with fail
    refine ⟨by simp, .inl ⟨_, _, rfl, run_takeDeferred HD.out, ?_⟩⟩
    exact ⟨_, results_none rfl _ _ _, ⟨_, rfl⟩, HK.out, .inl hfin.out⟩
  case stop =>
    intro c k Wd hk hlt hk0 hkl hi hD
    obtain ⟨rfl, i2, K, h3, h4, h5⟩ := hi
    have hx : Ext W.heap.size Wd (Wd.putObj w1.heap.size (.deferred none)) := Ext.putObj (by omega) hD rfl _
    have hfin : Hid (∃ k, 0 < k ∧ k ≤ ((segF f).map segV).length ∧ Jx k (Wd.putObj w1.heap.size (.deferred none))) := by
      rw [List.length_map]
      exact ⟨K, h3, h4, HJx.out _ _ _ h5 hx⟩
    have HK : Hid (Kept S W (Wd.putObj w1.heap.size (.deferred none))) := i2.trans ⟨rfl, rfl, rfl, by simp, fun j hj => World.putObj_heap_other (by have := HS.out j hj; omega)⟩
    have HD := Lib.hid hD
    clear i2 h5 hx hD
    gi_wp2_with fail
    refine ⟨by simp, .inl ⟨_, _, rfl, run_takeDeferred HD.out, ?_⟩⟩
    exact ⟨_, results_none rfl _ _ _, ⟨_, rfl⟩, HK.out, .inr hfin.out⟩
end Go.Proofs.YtfbdkjonjpanfaaGreatDoor

set_option linter.unusedVariables false
set_option linter.unusedSimpArgs false
namespace Go.Proofs.YtfbdkjonjpanfaaGreatDoor
open Go.RowKit Go.Rg Ft
attribute [local go_sem] Oper.semAt_some

def eqFe (f g : Fe) : Bool := decide (f.pts = g.pts) && (decide (f.lines = g.lines) && decide (f.rings = g.rings))
theorem eqFe_iff (f g : Fe) : eqFe f g = true ↔ f = g := by
  obtain ⟨a, b, c⟩ := f
  obtain ⟨a', b', c'⟩ := g
  unfold eqFe
  simp

set_option maxRecDepth 100000 in
set_option maxHeartbeats 4000000 in
theorem equal13_any (f g : Fe) (pv lv rv pv2 lv2 rv2 : Value) (w : World) (hf : FeC w pv lv rv f) (hg : FeC w pv2 lv2 rv2 g) :
    Calls Tryz.prog 11 #[feV pv lv rv, feV pv2 lv2 rv2] w fun e w' => e = .returned (.bool (eqFe f g)) ∧ Below w.heap.size w w' := by
  obtain ⟨h1, ⟨vs, _, h2, h3⟩, ⟨us, _, h4, h5⟩⟩ := hf
  obtain ⟨k1, ⟨xs, _, k2, k3⟩, ⟨ys, _, k4, k5⟩⟩ := hg
  have HP : Hid (∀ X, Below w.heap.size w X → Calls Tryz.prog 23 #[pv, pv2] X fun e X' => e = .returned (.bool (decide (f.pts = g.pts))) ∧ Below X.heap.size X X') := fun X hX => eqPts_any _ _ _ _ X (h1.call hX) (k1.call hX)
  have HL : Hid (∀ X, Below w.heap.size w X → Calls Tryz.prog 24 #[lv, lv2, .func (.func 23) #[] #[]] X fun e X' => e = .returned (.bool (decide (f.lines = g.lines))) ∧ Below X.heap.size X X') := fun X hX => eqLs_any _ _ _ _ _ _ X (h2.call hX) (h3.call hX) (k2.call hX) (k3.call hX)
  have HR : Hid (∀ X, Below w.heap.size w X → Calls Tryz.prog 24 #[rv, rv2, .func (.func 23) #[] #[]] X fun e X' => e = .returned (.bool (decide (f.rings = g.rings))) ∧ Below X.heap.size X X') := fun X hX => eqLs_any _ _ _ _ _ _ X (h4.call hX) (h5.call hX) (k4.call hX) (k5.call hX)
  obtain ⟨a1, c1, rfl, _⟩ := h1.form
  obtain ⟨a2, c2, rfl, _⟩ := h2.form
  obtain ⟨a3, c3, rfl, _⟩ := h4.form
  obtain ⟨b1, d1, rfl, _⟩ := k1.form
  obtain ⟨b2, d2, rfl, _⟩ := k2.form
  obtain ⟨b3, d3, rfl, _⟩ := k4.form
  unfold eqFe
  generalize decide (f.pts = g.pts) = e1 at *
  generalize decide (f.lines = g.lines) = e2 at *
  generalize decide (f.rings = g.rings) = e3 at *
  generalize f.pts.length = n1 at *
  generalize f.lines.length = n2 at *
  generalize f.rings.length = n3 at *
  generalize g.pts.length = m1 at *
  generalize g.lines.length = m2 at *
  generalize g.rings.length = m3 at *
  clear h1 h2 h3 h4 h5 k1 k2 k3 k4 k5
  obtain ⟨W, hW⟩ : ∃ W, ([.cells #[.slice a1 n1 c1, .slice a2 n2 c2, .slice a3 n3 c3] 37, .cells #[.slice b1 m1 d1, .slice b2 m2 d2, .slice b3 m3 d3] 37] : List Obj).foldl World.alloc w = W := ⟨_, rfl⟩
  have HA : Hid (Blk W (w.heap.size + 0) [.slice a1 n1 c1, .slice a2 n2 c2, .slice a3 n3 c3] 37) := Blk.allocs _ hW 0 rfl
  have HB : Hid (Blk W (w.heap.size + 1) [.slice b1 m1 d1, .slice b2 m2 d2, .slice b3 m3 d3] 37) := Blk.allocs _ hW 1 rfl
  have HW : Hid (Below w.heap.size w W) := hW ▸ allocs_below _ w
  rw [Nat.add_zero] at HA
  simp only [List.foldl_cons, List.foldl_nil] at hW
  have x0 := HA.out.cell (j := 0) rfl
  have y0 := HB.out.cell (j := 0) rfl
  go_enter Tryz.func11, Tryz.ntmps11
  go_wp2_with fail
  clear hW
  refine (HP.out W HW.out).mono ?_
  rintro e w1 ⟨rfl, h1⟩
  have HA := Lib.hid (HA.out.call h1)
  have HB := Lib.hid (HB.out.call h1)
  have HW := Lib.hid (HW.out.trans (h1.mono HW.out.size))
  clear h1
  have x1 := HA.out.cell (j := 1) rfl
  have x2 := HA.out.cell (j := 2) rfl
  have y1 := HB.out.cell (j := 1) rfl
  have y2 := HB.out.cell (j := 2) rfl
  cases e1
  · go_wp2_with fail
    go_ret
    exact ⟨rfl, HW.out⟩
  · go_wp2_with fail
    refine (HL.out w1 HW.out).mono ?_
    rintro e w2 ⟨rfl, h2⟩
    have HA := Lib.hid (HA.out.call h2)
    have HB := Lib.hid (HB.out.call h2)
    have HW := Lib.hid (HW.out.trans (h2.mono HW.out.size))
    clear h2
    have x2 := HA.out.cell (j := 2) rfl
    have y2 := HB.out.cell (j := 2) rfl
    cases e2
    · go_wp2_with fail
      go_ret
      exact ⟨rfl, HW.out⟩
    · go_wp2_with fail
      refine (HR.out w2 HW.out).mono ?_
      rintro e w3 ⟨rfl, h3⟩
      have HW := Lib.hid (HW.out.trans (h3.mono HW.out.size))
      clear h3
      go_wp2_with fail
      go_ret
      exact ⟨by simp, HW.out⟩
end Go.Proofs.YtfbdkjonjpanfaaGreatDoor

set_option linter.unusedVariables false
set_option linter.unusedSimpArgs false
namespace Go.Proofs.YtfbdkjonjpanfaaGreatDoor
open Go.RowKit Go.Rg Ft
attribute [local go_sem] Oper.semAt_some

theorem RdT.reads {T : TypeId} {w : World} {v : Value} {n : Nat} {xs : List Value} (h : RdT T w v n xs) : Reads w w.heap.size v n xs := by
  have hc := RdC.of h
  rcases h with ⟨rfl, rfl, rfl⟩ | ⟨g, off, cap, cs, fz, rfl, h2, h3, h4, h5⟩
  · exact .inl ⟨rfl, rfl, rfl⟩
  · have hg := (Array.getElem?_eq_some_iff.1 h2).1
    refine .inr ⟨g, off, cap, rfl, hg, h3, h4, fun j x hj => ?_⟩
    obtain ⟨a', c', e, _, ho⟩ := hc
    obtain ⟨g', off', rfl, _, _, _, q⟩ := ho (fun e => by rw [e] at hj; cases hj)
    injection e with e1 e2 e3
    cases e1
    exact q j x hj
theorem FeT.feL {w : World} {pv lv rv : Value} {f : Fe} (h : FeT w pv lv rv f) : ∃ vs us, FeL w w.heap.size lv rv vs us f := by
  obtain ⟨_, ⟨vs, a1, a2, a3⟩, ⟨us, b1, b2, b3⟩⟩ := h
  refine ⟨vs, us, .inl a2.reads, .inl b2.reads, a1, b1, fun i l hl => ?_⟩
  rw [List.getElem?_append] at hl ⊢
  split at hl
  · rename_i hlt
    rw [if_pos (by omega)]
    obtain ⟨u, h1, h2⟩ := a3 i l hl
    exact ⟨u, h1, .inl h2.reads⟩
  · rename_i hlt
    rw [if_neg (by omega), a1]
    obtain ⟨u, h1, h2⟩ := b3 _ l hl
    exact ⟨u, h1, .inl h2.reads⟩
theorem FeT.feC {w : World} {pv lv rv : Value} {f : Fe} (h : FeT w pv lv rv f) : FeC w pv lv rv f := by
  obtain ⟨a0, ⟨vs, a1, a2, a3⟩, ⟨us, b1, b2, b3⟩⟩ := h
  exact ⟨.of a0, ⟨vs, a1, .of a2, fun i l hl => by obtain ⟨u, h1, h2⟩ := a3 i l hl; exact ⟨u, h1, .of h2⟩⟩, ⟨us, b1, .of b2, fun i l hl => by obtain ⟨u, h1, h2⟩ := b3 i l hl; exact ⟨u, h1, .of h2⟩⟩⟩
/-- a feature of a slice of features -/
theorem FsT.at {w : World} {a : Option Addr} {n c : Nat} {fs : List Fe} (h : FsT w (.slice a n c) fs) {i : Nat} {f : Fe} (hi : fs[i]? = some f) :
    ∃ g off pv lv rv, a = some ⟨g, off, none⟩ ∧ n = fs.length ∧ n ≤ c ∧ c ≤ maxLen ∧ g < w.heap.size ∧ w.cell? ⟨g, off + i * 3, none⟩ = some pv ∧ w.cell? ⟨g, off + i * 3 + 1, none⟩ = some lv ∧ w.cell? ⟨g, off + i * 3 + 2, none⟩ = some rv ∧ FeT w pv lv rv f := by
  obtain ⟨cs, hl, hr, hc⟩ := h
  obtain ⟨pv, lv, rv, h0, h1, h2, hf⟩ := hc i f hi
  obtain ⟨a', c', e, _, ho⟩ := RdC.of hr
  obtain ⟨g, off, rfl, q1, q2, q3, q4⟩ := ho (fun e => by rw [e] at h0; cases h0)
  injection e with e1 e2 e3
  subst e1 e2 e3
  exact ⟨g, off, pv, lv, rv, rfl, rfl, q1, q2, q3, q4 _ _ h0, q4 _ _ h1, q4 _ _ h2, hf⟩
theorem FsT.form {w : World} {v : Value} {fs : List Fe} (h : FsT w v fs) : ∃ a c, v = .slice a fs.length c ∧ fs.length ≤ maxLen := by
  obtain ⟨cs, _, hr, _⟩ := h
  exact (RdC.of hr).form

def awS : ByteArray := { data := #[80, 79, 76, 89, 71, 79, 78, 40, 40, 48, 32, 48, 44, 32, 52, 32, 48, 44, 32, 48, 32, 52, 41, 41] }
def awG : List Wk.Geo := [⟨3, 0, [[([48], [48]), ([52], [48]), ([48], [52])]], []⟩]
def awF : Fe := ⟨[], [], [[(0, 0), (4, 0), (0, 4)]]⟩
theorem awG_ok : Wk.parse awS.data.toList = .ok awG := by kernel_rfl
theorem awF_ok : from_ 0 (awG.map Wk.toA) = [awF] := by kernel_rfl
theorem aw22 : errA 22 0 (awG.map Wk.toA) = false := by kernel_rfl
theorem aw23 : errA 23 0 (awG.map Wk.toA) = false := by kernel_rfl
theorem awSeg : (segF awF).length = 3 := by kernel_rfl
theorem awCount : count awF = 3 := by kernel_rfl
theorem awNil : ¬ (Wk.RightA [] ∧ (0 : Int) ≤ 0 ∧ (0 : Int) ≤ 9) := fun h => h.1.1 rfl
theorem awSize : awS.size = 24 := by kernel_rfl
theorem awFit : Wk.RightA (awG.map Wk.toA) ∧ (∀ g ∈ awG.map Wk.toA, Wk.FitA g) ∧ (awG.map Wk.toA).length ≤ 1000000 ∧ (∀ g ∈ awG.map Wk.toA, g.lists.length ≤ 1000000 ∧ ∀ m ∈ g.lists, m.length ≤ 1000000 ∧ ∀ p ∈ m, p.1.length ≤ 100000 ∧ p.2.length ≤ 100000) ∧ ((awG.map Wk.toA).map mu13).sum ≤ 100000000 := by
  have hs := awSize
  obtain ⟨h1, h2, h3, h4, h5⟩ := Pg.fit awS awG awG_ok (by omega)
  rw [hs] at h3 h4 h5
  exact ⟨h1, h2, by omega, fun g hg => ⟨by have := (h4 g hg).1; omega, fun m hm => ⟨by have := ((h4 g hg).2 m hm).1; omega, fun p hp => by have := ((h4 g hg).2 m hm).2 p hp; omega⟩⟩, by omega⟩
theorem enter_segs13 (args : Array Value) (w : World) : (callFunc 26 args).run Tryz.prog w = .ok (.enter 26 args) w := enters_of Tryz.func26 (by kernel_rfl) rfl args w

set_option maxRecDepth 100000 in
set_option maxHeartbeats 4000000 in
theorem awake13_any (w : World) (ht : Tabs w) : Calls Tryz.prog 7 #[] w fun e w' => e = .returned (.bool true) ∧ Below w.heap.size w w' := by
  refine (calls_iff (r := none) (m := 0)).1 (callsIn_of_wp_marks Tryz.func7 rfl trivial ?_ rfl)
  simp only [Tryz.ntmps7, List.size_toArray, List.length_cons, List.length_nil, Nat.reduceAdd, Nat.reduceSub, Array.replicate_succ, Array.replicate_zero, List.push_toArray, List.append_toArray, List.nil_append, List.cons_append]
  have HT := Lib.hid ht
  gi_wp2_with fail
  refine (calls_iff.2 (parse_any awS w (by rw [awSize]; decide))).mono ?_
  rintro e w1 ⟨v1, at1, er1, rfl, hp, hb1⟩
  rw [awG_ok] at hp
  obtain ⟨⟨R, cs, hr, hg⟩, rfl, rfl⟩ := hp
  have HB1 := Lib.hid hb1
  obtain ⟨a1, c1, rfl, hm1⟩ := (RdC.of hr).form
  have Hr := Lib.hid (RdC.of hr)
  have Hg := Lib.hid (Pg.gsC hg)
  clear hr hg hb1 hm1 ht
  gi_wp2_with fail
  refine (calls_iff.2 (from13_any _ cs (awG.map Wk.toA) 0 w1 (by rw [List.length_map]; exact Hr.out) Hg.out awFit.2.1 awFit.2.2.1 awFit.2.2.2.1 awFit.2.2.2.2 (HT.out.below HB1.out (Nat.le_refl _)) (by decide) (by decide))).mono ?_
  rintro e w2 ⟨rv, err, rfl, hF, hb2⟩
  have hF2 : Hid (err = 0 ∧ FsT w2 rv [awF]) := by
    rcases hF with ⟨h, _⟩ | ⟨_, ⟨h, _⟩ | ⟨_, h, _⟩ | ⟨_, _, h, h2⟩⟩
    · exact absurd ⟨awFit.1, by decide, by decide⟩ h
    · rw [aw22] at h; cases h
    · rw [aw23] at h; cases h
    · rw [awF_ok] at h2; exact ⟨h, h2⟩
  clear hF
  obtain rfl := hF2.out.1
  have HF : Hid (FsT w2 rv [awF]) := hF2.out.2
  have HB2 : Hid (Below w.heap.size w w2) := HB1.out.trans (hb2.mono HB1.out.size)
  clear hF2 hb2 Hr Hg HB1
  obtain ⟨a2, c2, rfl, _⟩ := HF.out.form
  obtain ⟨g, off, pv, lv, rv, rfl, -, q1, q2, q3, y0, y1, y2, hfe⟩ := HF.out.at (i := 0) rfl
  obtain ⟨vs, us, hfl⟩ := hfe.feL
  obtain ⟨pa, pc, rfl, _⟩ := (RdC.of hfe.1).form
  obtain ⟨la, lc, rfl⟩ := reads_slice hfl.rl
  obtain ⟨ra, rc, rfl⟩ := reads_slice hfl.rr
  have Hfl := Lib.hid hfl
  have Hfe := Lib.hid hfe
  unfold maxLen at q2
  simp only [Nat.zero_mul, Nat.add_zero] at y0 y1 y2
  have e0 : awF.rings.length = 1 := rfl
  have e1 : awF.lines.length = 0 := rfl
  have e2 : awF.pts.length = 0 := rfl
  have e3 : [awF].length = 1 := rfl
  clear hfl hfe
  gi_wp2_with fail
  refine (calls_iff.2 (count13_any pa la ra pc lc rc awF vs us w2 Hfl.out (by rw [awCount]; decide) (by decide) (by decide))).mono ?_
  rintro e w3 ⟨rfl, hb3⟩
  have HB3 : Hid (Below w.heap.size w w3) := HB2.out.trans (hb3.mono HB2.out.size)
  have z0 := keepc hb3 q3 y0
  have z1 := keepc hb3 q3 y1
  have z2 := keepc hb3 q3 y2
  have Hfl3 : Hid (FeL w3 w3.heap.size (.slice la awF.lines.length lc) (.slice ra awF.rings.length rc) vs us awF) := (Hfl.out.below hb3).mono hb3.size
  have hg3 : g < w3.heap.size := Nat.lt_of_lt_of_le q3 hb3.size
  rw [awCount]
  clear y0 y1 y2 q3 hb3 Hfl HB2
  gi_wp2_with fail
  refine (calls_iff.2 (segsF13 _ _ _ _)).mono ?_
  rintro e w4 ⟨rfl, hw4⟩
  have hw4' : [.cells #[.int .i64 0] 3, .cells #[.slice pa 0 pc, .slice la 0 lc, .slice ra 1 rc] 37].foldl World.alloc w3 = w4 := hw4
  clear hw4
  have hN : Blk w4 w3.heap.size [.int .i64 ((0 : Nat) : Int)] 3 := Blk.allocs _ hw4' 0 rfl
  have hB2 : Blk w4 (w3.heap.size + 1) [.slice pa 0 pc, .slice la 0 lc, .slice ra 1 rc] 37 := Blk.allocs _ hw4' 1 rfl
  have hbel : Below w3.heap.size w3 w4 := hw4' ▸ allocs_below _ w3
  have Hsz : Hid (w4.heap.size = w3.heap.size + 2) := hw4' ▸ allocs_size _ w3
  have hs4 : w3.heap.size + 2 ≤ w4.heap.size := by have := Hsz.out; omega
  clear hw4'
  obtain ⟨S, hS⟩ : ∃ S : Nat → Prop, S = fun j => j < w3.heap.size ∨ j = w3.heap.size + 1 := ⟨_, rfl⟩
  have HS := Lib.hid hS
  have HSeq : Hid (SeqI Tryz.prog 26 #[.pointer (some ⟨w3.heap.size + 1, 0, none⟩)] ((segF awF).map segV) S w4) :=
    segs13_seq (w3.heap.size + 1) pa la ra 0 pc lc rc awF vs us S w4 hB2 (by rw [hS]; exact .inr rfl) (fun k hk => by rw [hS] at hk; omega)
      (fun W hW => ((Hfl3.out.below hbel).below (Kept.below (hW.mono (fun j hj => by rw [hS]; exact .inl hj)))).mono (by have := hW.size; omega)) (by decide) (by decide)
  have HB4 : Hid (Below w.heap.size w w4) := HB3.out.trans (hbel.mono HB3.out.size)
  have hw34 : w.heap.size ≤ w3.heap.size := HB3.out.size
  clear hB2 hS z0 z1 z2 hbel
  gi_wp2_with fail
  refine wp_range (P := Tryz.prog) (gf := 26) (lb := #[.pointer (some ⟨w3.heap.size + 1, 0, none⟩)]) (S := S) rfl enter_segs13
    HSeq.out (Kept.refl _ _) (fun k hk => by rw [HS.out] at hk; omega) (fun x hx => by obtain ⟨i, hi, rfl⟩ := List.mem_map.1 hx; rfl)
    (fun k _ X => Blk X w3.heap.size [.int .i64 (k : Int)] 3 ∧ Below w.heap.size w X) (fun _ _ _ => False) (fun k O O' X Y h hx hO => ⟨h.1.ext hx, h.2.trans (hx.below.mono (by omega))⟩) (fun c k X Y h hx => h)
    ⟨hN, HB4.out⟩ ?round ?done ?stop
  case round =>
    intro l k x O Wr hl1 hl2 hx hk hO hi
    have hkl : k < 3 := by have := (List.getElem?_eq_some_iff.1 hx).1; rw [List.length_map, awSeg] at this; exact this
    have Hi := Lib.hid hi
    have HO := Lib.hid hO
    rw [List.getElem?_map] at hx
    obtain ⟨sg, hsg, rfl⟩ := Option.map_eq_some_iff.1 hx
    clear hi hO hx hN hsg
    unfold segV
    gi_wp2_with fail
    refine ⟨Eff.refl _ _ _, ?_⟩
    intro Wb hx hkb hszb hlb
    have j1 := Hi.out.1.ext hx
    have HB : Hid (Below w.heap.size w Wb) := Hi.out.2.trans (hx.below.mono (by omega))
    have d1 := j1.cell (j := 0) rfl
    have g1 := j1.frozen 0
    have hsz : Wr.heap.size ≤ Wb.heap.size := by omega
    clear hx hkb hlb hszb
    gi_wp2_with fail
    refine ⟨(Eff.refl _ _ _).setCell _ ?_ _, ?_, HB.out.setCell (p := ⟨w3.heap.size, 0, none⟩) (by show _ ≤ w3.heap.size; omega) _⟩
    · rintro (h | h)
      · rw [HS.out] at h; simp only at h; omega
      · have := (HO.out _ h).1; simp only at this; omega
    · rw [Int.natCast_add]
      exact j1.set 0 (.int .i64 ((k : Int) + 1))
  case done =>
    intro O Wd hk hlt hi hD
    rw [List.length_map, awSeg] at hi
    have d1 := hi.1.cell (j := 0) rfl
    have HI := Lib.hid hi
    have HD := Lib.hid hD
    clear hi hD hN
    gi_wp2_with fail
    refine (calls_iff.2 (from13_any _ [] [] 0 Wd ⟨none, 0, rfl, Nat.zero_le _, fun h => absurd rfl h⟩ (fun i g h => by cases h) (fun g h => by cases h) (by simp) (fun g h => by cases h) (by simp) (HT.out.below HI.out.2 (Nat.le_refl _)) (by decide) (by decide))).mono ?_
    rintro e w5 ⟨rv5, err5, rfl, hF5, hb5⟩
    have he : rv5 = .slice none 0 0 ∧ err5 = 10 := by
      rcases hF5 with ⟨_, h1, h2⟩ | ⟨h, _⟩
      · exact ⟨h1, h2⟩
      · exact absurd h.1 (fun h => awNil ⟨h, by decide, by decide⟩)
    obtain ⟨rfl, rfl⟩ := he
    have d5 := keepc hb5 HI.out.1.lt d1
    have HBX := Lib.hid (HI.out.2.trans (hb5.mono HI.out.2.size))
    have HDX : Hid (w5.heap[w4.heap.size]? = some (.deferred (some []))) := (hb5.block _ hlt).trans HD.out
    clear hF5 hb5 d1
    gi_wp2_with fail
    refine ⟨by simp, .inl ⟨_, _, rfl, run_takeDeferred HDX.out, ?_⟩⟩
    exact ⟨_, results_tmp rfl _ _ _, rfl, put_below HBX.out (by omega) HDX.out rfl⟩
  case stop =>
    intro c k Wd hk hlt hk0 hkl hi hD
    exact hi.elim
end Go.Proofs.YtfbdkjonjpanfaaGreatDoor

set_option linter.unusedVariables false
set_option linter.unusedSimpArgs false
namespace Go.Proofs.YtfbdkjonjpanfaaGreatDoor
open Go.RowKit Go.Rg Ft
attribute [local go_sem] Oper.semAt_some

theorem bool4 (p a b : Bool) : p = true ∨ (p = false ∧ a = true) ∨ (p = false ∧ a = false ∧ b = true) ∨ (p = false ∧ a = false ∧ b = false) := by cases p <;> cases a <;> cases b <;> simp

set_option maxRecDepth 100000 in
set_option maxHeartbeats 8000000 in
theorem points13_any (v : Value) (l : List Wk.Pr) (fine : Int) (w : World) (hv : RdC w v l.length (flatP l)) (ht : Tabs w) (hl : l.length ≤ 1000000) (hx : ∀ p ∈ l, p.1.length ≤ 100000 ∧ p.2.length ≤ 100000) (hf1 : -9223372036854775808 ≤ fine) (hf2 : fine ≤ 9223372036854775807) :
    Calls Tryz.prog 10 #[v, .int .i64 fine] w fun e w' => ∃ u, e = .returned (.tuple #[u, .bool (errs 22 fine l), .bool (errs 23 fine l)]) ∧ w'.ownsRow w.heap.size tP 2 u l.length (flat (scl fine l)) ∧ Below w.heap.size w w' := by
  obtain ⟨a, c, rfl, hm, ho⟩ := hv
  have Ho := Lib.hid ho
  have HT := Lib.hid ht
  have HX := Lib.hid hx
  unfold maxLen at hm
  obtain ⟨n, hn⟩ : ∃ n, n = l.length := ⟨_, rfl⟩
  rw [← hn] at hm hl ⊢
  have Hn := Lib.hid hn
  clear ho hn ht hx
  go_enter Tryz.func10, Tryz.ntmps10
  go_wp2_with fail
  go_loopg [4, 5, 6, 15] n (fun q s4 s5 s6 s15 wx => ∃ (i : Nat) (av : Option Addr) (capv : Nat) (pb rb : Bool), i + q = n ∧ s4 = .slice av i capv ∧ s5 = .bool pb ∧ s6 = .bool rb ∧ s15 = .int .i64 (i : Int) ∧ Hid (wx.ownsRow w.heap.size tP 2 (.slice av i capv) i (flat (scl fine (l.take i)))) ∧ Hid (pb = errs 22 fine (l.take i) ∧ rb = errs 23 fine (l.take i)) ∧ Hid (Below w.heap.size w wx))
  case atStart => exact ⟨0, none, 0, false, false, by omega, rfl, rfl, rfl, rfl, World.ownsRow_nil _ _ _ _, ⟨rfl, rfl⟩, Below.refl _ _⟩
  case round =>
    obtain ⟨i, av, capv, pb, rb, hq, rfl, rfl, rfl, rfl, HO, Hpb, HB⟩ := hrel
    cases gk with
    | zero =>
      have hin : i = n := by omega
      subst hin
      have hfull : l.take i = l := by rw [Hn.out, List.take_length]
      rw [hfull] at HO Hpb
      obtain ⟨rfl, rfl⟩ := Hpb.out
      clear hfull
      go_wp2_with fail
      try rw [Exit.noGoto_ret]
      go_returns
      exact ⟨_, rfl, HO.out, HB.out⟩
    | succ q =>
      have hin : i < n := by omega
      obtain ⟨p, hp⟩ : ∃ p, l[i]? = some p := ⟨_, List.getElem?_eq_getElem (by rw [← Hn.out]; exact hin)⟩
      obtain ⟨f1, f2⟩ := flatP_at2 _ _ _ hp
      obtain ⟨g1, o1, rfl, h1, h2, h3, h4⟩ := Ho.out (fun e => by rw [e] at f1; cases f1)
      rw [← Hn.out] at h1
      have y1 : wr.cell? ⟨g1, o1 + i * 2, none⟩ = some (.string ⟨p.1.toArray⟩) := keepc HB.out h3 (h4 _ _ f1)
      have y2 : wr.cell? ⟨g1, o1 + i * 2 + 1, none⟩ = some (.string ⟨p.2.toArray⟩) := keepc HB.out h3 (h4 _ _ f2)
      obtain ⟨hx1, hx2⟩ := HX.out p (List.mem_of_getElem? hp)
      obtain ⟨n1, e1, hs1⟩ : ∃ n1 e1, Dc.scaleP p.1 fine = (n1, e1) := ⟨_, _, rfl⟩
      obtain ⟨n2, e2, hs2⟩ : ∃ n2 e2, Dc.scaleP p.2 fine = (n2, e2) := ⟨_, _, rfl⟩
      have Hst : Hid (flat (scl fine (l.take (i + 1))) = flat (scl fine (l.take i)) ++ [.int .i64 n1, .int .i64 n2]) := by
        unfold Hid; rw [scl_take fine l i p hp, flat_snoc]; unfold one; rw [hs1, hs2]
      have Hpb2 : Hid ((pb || (e1 == 22 || e2 == 22)) = errs 22 fine (l.take (i + 1)) ∧ (rb || (e1 == 23 || e2 == 23)) = errs 23 fine (l.take (i + 1))) := by
        unfold Hid
        rw [errs_take 22 fine l i p hp, errs_take 23 fine l i p hp, Hpb.out.1, Hpb.out.2]
        unfold err
        rw [hs1, hs2]
        exact ⟨rfl, rfl⟩
      have HS1 : Hid (∀ X, Below w.heap.size w X → Calls Tryz.prog 22 #[.string ⟨p.1.toArray⟩, .int .i64 fine] X fun e w' => e = .returned (.tuple #[.int .i64 n1, .int .i64 e1]) ∧ Below X.heap.size X w') := fun X hX => by
        have := scale_any ⟨p.1.toArray⟩ fine X (HT.out.below hX (Nat.le_refl _)) (by rw [Lib.size_eq]; exact hx1) hf1 hf2
        have e0 : (⟨p.1.toArray⟩ : ByteArray).data.toList = p.1 := rfl
        rw [e0, hs1] at this; exact this
      have HS2 : Hid (∀ X, Below w.heap.size w X → Calls Tryz.prog 22 #[.string ⟨p.2.toArray⟩, .int .i64 fine] X fun e w' => e = .returned (.tuple #[.int .i64 n2, .int .i64 e2]) ∧ Below X.heap.size X w') := fun X hX => by
        have := scale_any ⟨p.2.toArray⟩ fine X (HT.out.below hX (Nat.le_refl _)) (by rw [Lib.size_eq]; exact hx2) hf1 hf2
        have e0 : (⟨p.2.toArray⟩ : ByteArray).data.toList = p.2 := rfl
        rw [e0, hs2] at this; exact this
      unfold maxLen at h2
      have hwr : w.heap.size ≤ wr.heap.size := HB.out.size
      have HQ := Lib.hid hq
      clear h4 f1 f2 hp Hpb hq hs1 hs2
      go_wp2_with fail
      obtain ⟨wb, hwb⟩ : ∃ W, wr.alloc (.cells #[.string ⟨p.1.toArray⟩, .string ⟨p.2.toArray⟩] 77) = W := ⟨_, rfl⟩
      have hbb : Below wr.heap.size wr wb := hwb ▸ (Below.refl _ wr).alloc (Nat.le_refl _) _
      have HPB : Hid (Blk wb wr.heap.size [.string ⟨p.1.toArray⟩, .string ⟨p.2.toArray⟩] 77) := hwb ▸ Blk.new wr _ _
      have HO := Lib.hid (own_call HO.out hbb)
      have HB := Lib.hid (HB.out.trans (hbb.mono HB.out.size))
      rw [hwb]
      clear hwb hbb
      obtain ⟨P, hP⟩ : ∃ P, P = wr.heap.size := ⟨_, rfl⟩
      rw [← hP] at HPB hwr ⊢
      clear hP y1 y2
      refine (HS1.out wb HB.out).mono ?_
      rintro e w1 ⟨rfl, hb1⟩
      have HPB := Lib.hid (HPB.out.call hb1)
      have HO := Lib.hid (own_call HO.out hb1)
      have HB := Lib.hid (HB.out.trans (hb1.mono HB.out.size))
      have x1 := HPB.out.cell (j := 1) rfl
      clear hb1
      go_wp2_with fail
      refine (HS2.out w1 HB.out).mono ?_
      rintro e w2 ⟨rfl, hb2⟩
      have HO := Lib.hid (own_call HO.out hb2)
      have HB := Lib.hid (HB.out.trans (hb2.mono HB.out.size))
      have hown := HO.out
      have hw2 : w.heap.size ≤ w2.heap.size := HB.out.size
      clear hb2 x1 HPB HS1 HS2 HO
      obtain ⟨x1, k1⟩ : ∃ b, (e1 == 22) = b := ⟨_, rfl⟩
      obtain ⟨x2, k2⟩ : ∃ b, (e2 == 22) = b := ⟨_, rfl⟩
      obtain ⟨x3, k3⟩ : ∃ b, (e1 == 23) = b := ⟨_, rfl⟩
      obtain ⟨x4, k4⟩ : ∃ b, (e2 == 23) = b := ⟨_, rfl⟩
      rw [k1, k2, k3, k4] at Hpb2
      rcases bool4 pb x1 x2 with rfl | ⟨rfl, rfl⟩ | ⟨rfl, rfl, rfl⟩ | ⟨rfl, rfl, rfl⟩ <;> rcases bool4 rb x3 x4 with rfl | ⟨rfl, rfl⟩ | ⟨rfl, rfl, rfl⟩ | ⟨rfl, rfl, rfl⟩
      all_goals go_wp2_with (at_builtin; refine wpList_append2 _ rfl _ _ tL rfl w.heap.size tP (.agg #[.int .i64 0, .int .i64 0]) 2 16 Tryz.underlying34 info_point rfl (by decide) (.slice av i capv) i _ rfl (hown.alloc _) _ _ 1 [.int .i64 n1, .int .i64 n2] rfl (reads_new _ _ _ 1 1 (by decide) (by decide)) rfl (by simp [Value.oneCell']) (by unfold maxLen; omega) (by omega) (by simp; omega) ?_)
      all_goals intro v' w3 hown2 hgrow hmov
      all_goals obtain ⟨a2, cap2, rfl⟩ := own_form hown2
      all_goals have HB3 : Hid (Below w.heap.size w w3) := (HB.out.trans (((Below.refl _ w2).alloc (Nat.le_refl _) _).mono HB.out.size)).grown hgrow (by simp; omega) (fun k e => (hown.lt k e).1)
      all_goals have HO3 := Lib.hid hown2
      all_goals clear hown hown2 hgrow hmov k1 k2 k3 k4
      all_goals go_wp2_with fail
      all_goals go_roundg q
      all_goals first
        | (case measure => omega)
        | (case rel => exact ⟨i + 1, a2, cap2, _, _, by have := HQ.out; omega, rfl, rfl, rfl, by first | rfl | simp, by unfold Hid; rw [Hst.out]; exact HO3.out, by unfold Hid; have := Hpb2.out; simpa using this, HB3⟩)
end Go.Proofs.YtfbdkjonjpanfaaGreatDoor
